/-
  No cell of these rows narrows 'for every input' (looked for: loops, veiled, ifaces, maps, wideKeys, modest, calm, conditions, laid).
  DERIVED. THE GIVEN ROWS OF THIS SEAT. 8 by the template 'for every input the law returns true; each argument reads behind the call as it read before'; 0 by the template 'total and deterministic' (their statements: YtlffcidcopibmaaTotals.lean).
  GIVEN WITH THE SEED: the statements are not yours to turn. If you find one false, say at which input.
  Laid BY PROGRAM, IN A SANDBOX (cutbox-rows.mjs): the forced cells as the released guide's own fill.sh prints them over the translation d68171e09b5d264c… (all of the seat's roots in one cut). By AI agents, Wed Nov 11 2026. No macro, syntax, notation, axiom, sorry.
-/
import Derived.Test.YtlffcidcopibmaaChecked
import GoSem.Claim
import GoSem.ClaimJoined
import GoSem.ClaimMapViews
import Derived.JoinedTies
import Derived.KernelRfl
namespace Go.Proofs.Ytlffcidcopibmaa
/- THE CELL 'sum', in the pinned program and in every row, IS THE sha256 OF THE DUMP (.gsa) THAT YtlffcidcopibmaaProg.lean LOADS. Nothing in Lean hashes anything: it is a label: what it is worth is what the hold of that sum in a sandbox is worth. -/
noncomputable def Try.pinned : Pinned := { name := "ytlffcidcopibmaa", sum := "d68171e09b5d264cd3eecdfc14c21dfb7dda89b82c07362a45213cd27bc22609", checked := Try.checked }
namespace Rows
def none {H : Type} : Left H := { results := [], args := [] }

/-- 'bosunlaw11.TlvParses': WHATEVER THE INPUT: true; the input reads as it did. -/
def tlvParsesSpec : ChangeSpec := { name := "tlvParses", fn := fun _ => fun
  | [d1, d2] => { results := [.lit (.bool true)], args := [d1, d2] }
  | _ => none }
def tlvParsesRow : OpenClaim := { program := "ytlffcidcopibmaa", sum := "d68171e09b5d264cd3eecdfc14c21dfb7dda89b82c07362a45213cd27bc22609", func := "bosun/bosunlaw11.TlvParses", spec := "tlvParses", apart := false }
def TlvParsesSaid : Prop := tlvParsesRow.holds Try.pinned (OpenSpec.ofChange tlvParsesSpec)

/-- ITS FALSE NEIGHBOUR: 'it returns false'. Refute it at one input. -/
def tlvParsesWrong : ChangeSpec := { name := "tlvParses", fn := fun _ => fun
  | [d1, d2] => { results := [.lit (.bool false)], args := [d1, d2] }
  | _ => none }
def TlvParsesWrongFalsely : Prop := tlvParsesRow.holds Try.pinned (OpenSpec.ofChange tlvParsesWrong)

/-- 'bosunlaw11.TlvEncodes': WHATEVER THE INPUT: true; the input reads as it did. -/
def tlvEncodesSpec : ChangeSpec := { name := "tlvEncodes", fn := fun _ => fun
  | [d1, d2] => { results := [.lit (.bool true)], args := [d1, d2] }
  | _ => none }
def tlvEncodesRow : OpenClaim := { program := "ytlffcidcopibmaa", sum := "d68171e09b5d264cd3eecdfc14c21dfb7dda89b82c07362a45213cd27bc22609", func := "bosun/bosunlaw11.TlvEncodes", spec := "tlvEncodes", apart := false }
def TlvEncodesSaid : Prop := tlvEncodesRow.holds Try.pinned (OpenSpec.ofChange tlvEncodesSpec)

/-- ITS FALSE NEIGHBOUR: 'it returns false'. Refute it at one input. -/
def tlvEncodesWrong : ChangeSpec := { name := "tlvEncodes", fn := fun _ => fun
  | [d1, d2] => { results := [.lit (.bool false)], args := [d1, d2] }
  | _ => none }
def TlvEncodesWrongFalsely : Prop := tlvEncodesRow.holds Try.pinned (OpenSpec.ofChange tlvEncodesWrong)

/-- 'bosunlaw16.OpcodeAnswers': WHATEVER THE INPUT: true; the input reads as it did. -/
def opcodeAnswersSpec : ChangeSpec := { name := "opcodeAnswers", fn := fun _ => fun
  | [d1, d2, d3] => { results := [.lit (.bool true)], args := [d1, d2, d3] }
  | _ => none }
def opcodeAnswersRow : OpenClaim := { program := "ytlffcidcopibmaa", sum := "d68171e09b5d264cd3eecdfc14c21dfb7dda89b82c07362a45213cd27bc22609", func := "bosun/bosunlaw16.OpcodeAnswers", spec := "opcodeAnswers", apart := false }
def OpcodeAnswersSaid : Prop := opcodeAnswersRow.holds Try.pinned (OpenSpec.ofChange opcodeAnswersSpec)

/-- ITS FALSE NEIGHBOUR: 'it returns false'. Refute it at one input. -/
def opcodeAnswersWrong : ChangeSpec := { name := "opcodeAnswers", fn := fun _ => fun
  | [d1, d2, d3] => { results := [.lit (.bool false)], args := [d1, d2, d3] }
  | _ => none }
def OpcodeAnswersWrongFalsely : Prop := opcodeAnswersRow.holds Try.pinned (OpenSpec.ofChange opcodeAnswersWrong)

/-- 'bosunlaw10.DeslipBytes': WHATEVER THE INPUT: true; the input reads as it did. -/
def deslipBytesSpec : ChangeSpec := { name := "deslipBytes", fn := fun _ => fun
  | [d1, d2] => { results := [.lit (.bool true)], args := [d1, d2] }
  | _ => none }
def deslipBytesRow : OpenClaim := { program := "ytlffcidcopibmaa", sum := "d68171e09b5d264cd3eecdfc14c21dfb7dda89b82c07362a45213cd27bc22609", func := "bosun/bosunlaw10.DeslipBytes", spec := "deslipBytes", apart := false }
def DeslipBytesSaid : Prop := deslipBytesRow.holds Try.pinned (OpenSpec.ofChange deslipBytesSpec)

/-- ITS FALSE NEIGHBOUR: 'it returns false'. Refute it at one input. -/
def deslipBytesWrong : ChangeSpec := { name := "deslipBytes", fn := fun _ => fun
  | [d1, d2] => { results := [.lit (.bool false)], args := [d1, d2] }
  | _ => none }
def DeslipBytesWrongFalsely : Prop := deslipBytesRow.holds Try.pinned (OpenSpec.ofChange deslipBytesWrong)

/-- 'bosunlaw10.DeslipFrames': WHATEVER THE INPUT: true; the input reads as it did. -/
def deslipFramesSpec : ChangeSpec := { name := "deslipFrames", fn := fun _ => fun
  | [d1, d2] => { results := [.lit (.bool true)], args := [d1, d2] }
  | _ => none }
def deslipFramesRow : OpenClaim := { program := "ytlffcidcopibmaa", sum := "d68171e09b5d264cd3eecdfc14c21dfb7dda89b82c07362a45213cd27bc22609", func := "bosun/bosunlaw10.DeslipFrames", spec := "deslipFrames", apart := false }
def DeslipFramesSaid : Prop := deslipFramesRow.holds Try.pinned (OpenSpec.ofChange deslipFramesSpec)

/-- ITS FALSE NEIGHBOUR: 'it returns false'. Refute it at one input. -/
def deslipFramesWrong : ChangeSpec := { name := "deslipFrames", fn := fun _ => fun
  | [d1, d2] => { results := [.lit (.bool false)], args := [d1, d2] }
  | _ => none }
def DeslipFramesWrongFalsely : Prop := deslipFramesRow.holds Try.pinned (OpenSpec.ofChange deslipFramesWrong)

/-- 'bosunlaw10.DeslipNil': WHATEVER THE INPUT: true; the input reads as it did. -/
def deslipNilSpec : ChangeSpec := { name := "deslipNil", fn := fun _ => fun
  | [d] => { results := [.lit (.bool true)], args := [d] }
  | _ => none }
def deslipNilRow : OpenClaim := { program := "ytlffcidcopibmaa", sum := "d68171e09b5d264cd3eecdfc14c21dfb7dda89b82c07362a45213cd27bc22609", func := "bosun/bosunlaw10.DeslipNil", spec := "deslipNil", apart := false }
def DeslipNilSaid : Prop := deslipNilRow.holds Try.pinned (OpenSpec.ofChange deslipNilSpec)

/-- ITS FALSE NEIGHBOUR: 'it returns false'. Refute it at one input. -/
def deslipNilWrong : ChangeSpec := { name := "deslipNil", fn := fun _ => fun
  | [d] => { results := [.lit (.bool false)], args := [d] }
  | _ => none }
def DeslipNilWrongFalsely : Prop := deslipNilRow.holds Try.pinned (OpenSpec.ofChange deslipNilWrong)

/-- 'bosunlaw16.OpcodeParses': WHATEVER THE INPUT: true; the input reads as it did. -/
def opcodeParsesSpec : ChangeSpec := { name := "opcodeParses", fn := fun _ => fun
  | [d] => { results := [.lit (.bool true)], args := [d] }
  | _ => none }
def opcodeParsesRow : OpenClaim := { program := "ytlffcidcopibmaa", sum := "d68171e09b5d264cd3eecdfc14c21dfb7dda89b82c07362a45213cd27bc22609", func := "bosun/bosunlaw16.OpcodeParses", spec := "opcodeParses", apart := false }
def OpcodeParsesSaid : Prop := opcodeParsesRow.holds Try.pinned (OpenSpec.ofChange opcodeParsesSpec)

/-- ITS FALSE NEIGHBOUR: 'it returns false'. Refute it at one input. -/
def opcodeParsesWrong : ChangeSpec := { name := "opcodeParses", fn := fun _ => fun
  | [d] => { results := [.lit (.bool false)], args := [d] }
  | _ => none }
def OpcodeParsesWrongFalsely : Prop := opcodeParsesRow.holds Try.pinned (OpenSpec.ofChange opcodeParsesWrong)

/-- 'bosunlaw16.OpcodeRequests': WHATEVER THE INPUT: true; the input reads as it did. -/
def opcodeRequestsSpec : ChangeSpec := { name := "opcodeRequests", fn := fun _ => fun
  | [d] => { results := [.lit (.bool true)], args := [d] }
  | _ => none }
def opcodeRequestsRow : OpenClaim := { program := "ytlffcidcopibmaa", sum := "d68171e09b5d264cd3eecdfc14c21dfb7dda89b82c07362a45213cd27bc22609", func := "bosun/bosunlaw16.OpcodeRequests", spec := "opcodeRequests", apart := false }
def OpcodeRequestsSaid : Prop := opcodeRequestsRow.holds Try.pinned (OpenSpec.ofChange opcodeRequestsSpec)

/-- ITS FALSE NEIGHBOUR: 'it returns false'. Refute it at one input. -/
def opcodeRequestsWrong : ChangeSpec := { name := "opcodeRequests", fn := fun _ => fun
  | [d] => { results := [.lit (.bool false)], args := [d] }
  | _ => none }
def OpcodeRequestsWrongFalsely : Prop := opcodeRequestsRow.holds Try.pinned (OpenSpec.ofChange opcodeRequestsWrong)

/- THE SECOND FORM. 'bulk': how many values and letters a reading holds, each counted each time it is reached (what is shared counts as often as it is met; a slice's spare places count too). A statement '..UptoSaid' is the law's where the arguments, and the package variables that the reading takes, are together of bulk at most 1048576: NARROWER than '..Said'. Prove '..Said' where nothing that the law and all that it calls make is longer than what came in: it says more and counts as full. Else prove '..UptoSaid'. A law counts once. -/
mutual
def uptoBulk {H : Type} : DataW H → Nat
  | .lit (.string bytes) => bytes.length + 1
  | .lit _ => 1
  | .nil => 1
  | .ptr d => uptoBulk d + 1
  | .slice elems spare => uptoBulkAll elems + uptoBulkAll spare + 1
  | .agg parts => uptoBulkAll parts + 1
  | .iface _ d => uptoBulk d + 1
  | .map entries => uptoBulkEntries entries + 1
  | .held _ => 1
def uptoBulkAll {H : Type} : List (DataW H) → Nat
  | [] => 0
  | d :: r => uptoBulk d + uptoBulkAll r
def uptoBulkEntries {H : Type} : List (Lit × DataW H) → Nat
  | [] => 0
  | x :: r => uptoBulkEntry x + uptoBulkEntries r
def uptoBulkEntry {H : Type} : Lit × DataW H → Nat
  | (.string bytes, d) => bytes.length + uptoBulk d + 1
  | (_, d) => uptoBulk d + 1
 end
def uptoSmall : (H : Type) → List (DataW H) → Bool := fun _ ds => decide (uptoBulkAll ds ≤ 1048576)
def OpenSpec.upto (s : _root_.Go.ChangeSpec) : _root_.Go.OpenSpec := { _root_.Go.OpenSpec.ofChange s with cond := some uptoSmall }

/-- 'bosunlaw11.TlvParses', WHERE WHAT IT READS IS OF BULK AT MOST 1048576: true; the input reads as it did. -/
def tlvParsesUptoRow : OpenClaim := { program := "ytlffcidcopibmaa", sum := "d68171e09b5d264cd3eecdfc14c21dfb7dda89b82c07362a45213cd27bc22609", func := "bosun/bosunlaw11.TlvParses", spec := "tlvParses", apart := false, narrowed := true }
def TlvParsesUptoSaid : Prop := tlvParsesUptoRow.holds Try.pinned (OpenSpec.upto tlvParsesSpec)

/-- 'bosunlaw11.TlvEncodes', WHERE WHAT IT READS IS OF BULK AT MOST 1048576: true; the input reads as it did. -/
def tlvEncodesUptoRow : OpenClaim := { program := "ytlffcidcopibmaa", sum := "d68171e09b5d264cd3eecdfc14c21dfb7dda89b82c07362a45213cd27bc22609", func := "bosun/bosunlaw11.TlvEncodes", spec := "tlvEncodes", apart := false, narrowed := true }
def TlvEncodesUptoSaid : Prop := tlvEncodesUptoRow.holds Try.pinned (OpenSpec.upto tlvEncodesSpec)

/-- 'bosunlaw16.OpcodeAnswers', WHERE WHAT IT READS IS OF BULK AT MOST 1048576: true; the input reads as it did. -/
def opcodeAnswersUptoRow : OpenClaim := { program := "ytlffcidcopibmaa", sum := "d68171e09b5d264cd3eecdfc14c21dfb7dda89b82c07362a45213cd27bc22609", func := "bosun/bosunlaw16.OpcodeAnswers", spec := "opcodeAnswers", apart := false, narrowed := true }
def OpcodeAnswersUptoSaid : Prop := opcodeAnswersUptoRow.holds Try.pinned (OpenSpec.upto opcodeAnswersSpec)

/-- 'bosunlaw10.DeslipBytes', WHERE WHAT IT READS IS OF BULK AT MOST 1048576: true; the input reads as it did. -/
def deslipBytesUptoRow : OpenClaim := { program := "ytlffcidcopibmaa", sum := "d68171e09b5d264cd3eecdfc14c21dfb7dda89b82c07362a45213cd27bc22609", func := "bosun/bosunlaw10.DeslipBytes", spec := "deslipBytes", apart := false, narrowed := true }
def DeslipBytesUptoSaid : Prop := deslipBytesUptoRow.holds Try.pinned (OpenSpec.upto deslipBytesSpec)

/-- 'bosunlaw10.DeslipFrames', WHERE WHAT IT READS IS OF BULK AT MOST 1048576: true; the input reads as it did. -/
def deslipFramesUptoRow : OpenClaim := { program := "ytlffcidcopibmaa", sum := "d68171e09b5d264cd3eecdfc14c21dfb7dda89b82c07362a45213cd27bc22609", func := "bosun/bosunlaw10.DeslipFrames", spec := "deslipFrames", apart := false, narrowed := true }
def DeslipFramesUptoSaid : Prop := deslipFramesUptoRow.holds Try.pinned (OpenSpec.upto deslipFramesSpec)

/-- 'bosunlaw10.DeslipNil', WHERE WHAT IT READS IS OF BULK AT MOST 1048576: true; the input reads as it did. -/
def deslipNilUptoRow : OpenClaim := { program := "ytlffcidcopibmaa", sum := "d68171e09b5d264cd3eecdfc14c21dfb7dda89b82c07362a45213cd27bc22609", func := "bosun/bosunlaw10.DeslipNil", spec := "deslipNil", apart := false, narrowed := true }
def DeslipNilUptoSaid : Prop := deslipNilUptoRow.holds Try.pinned (OpenSpec.upto deslipNilSpec)

/-- 'bosunlaw16.OpcodeParses', WHERE WHAT IT READS IS OF BULK AT MOST 1048576: true; the input reads as it did. -/
def opcodeParsesUptoRow : OpenClaim := { program := "ytlffcidcopibmaa", sum := "d68171e09b5d264cd3eecdfc14c21dfb7dda89b82c07362a45213cd27bc22609", func := "bosun/bosunlaw16.OpcodeParses", spec := "opcodeParses", apart := false, narrowed := true }
def OpcodeParsesUptoSaid : Prop := opcodeParsesUptoRow.holds Try.pinned (OpenSpec.upto opcodeParsesSpec)

/-- 'bosunlaw16.OpcodeRequests', WHERE WHAT IT READS IS OF BULK AT MOST 1048576: true; the input reads as it did. -/
def opcodeRequestsUptoRow : OpenClaim := { program := "ytlffcidcopibmaa", sum := "d68171e09b5d264cd3eecdfc14c21dfb7dda89b82c07362a45213cd27bc22609", func := "bosun/bosunlaw16.OpcodeRequests", spec := "opcodeRequests", apart := false, narrowed := true }
def OpcodeRequestsUptoSaid : Prop := opcodeRequestsUptoRow.holds Try.pinned (OpenSpec.upto opcodeRequestsSpec)

end Rows
end Go.Proofs.Ytlffcidcopibmaa
