/-
  No cell of these rows narrows 'for every input' (looked for: loops, veiled, ifaces, maps, wideKeys, modest, calm, conditions, laid).
  DERIVED. THE GIVEN ROWS OF THIS SEAT. 8 by the template 'for every input the law returns true; each argument reads behind the call as it read before'; 0 by the template 'total and deterministic' (their statements: YtcmjfjomfdljkaaTotals.lean).
  GIVEN WITH THE SEED: the statements are not yours to turn. If you find one false, say at which input.
  Laid BY PROGRAM, IN A SANDBOX (cutbox-rows.mjs): the forced cells as the released guide's own fill.sh prints them over the translation 50d741f9ea5bf6bb… (all of the seat's roots in one cut). By AI agents, Wed Nov 11 2026. No macro, syntax, notation, axiom, sorry.
-/
import Derived.Test.YtcmjfjomfdljkaaChecked
import GoSem.Claim
import GoSem.ClaimJoined
import GoSem.ClaimMapViews
import Derived.JoinedTies
import Derived.KernelRfl
namespace Go.Proofs.Ytcmjfjomfdljkaa
/- THE CELL 'sum', in the pinned program and in every row, IS THE sha256 OF THE DUMP (.gsa) THAT YtcmjfjomfdljkaaProg.lean LOADS. Nothing in Lean hashes anything: it is a label: what it is worth is what the hold of that sum in a sandbox is worth. -/
noncomputable def Try.pinned : Pinned := { name := "ytcmjfjomfdljkaa", sum := "50d741f9ea5bf6bb36b771728678d7fe951f08f4d377ca89a515dae35feb9c0c", checked := Try.checked }
namespace Rows
def none {H : Type} : Left H := { results := [], args := [] }

/-- 'bosunlaw06.ScalarBytes': WHATEVER THE INPUT: true; the input reads as it did. -/
def scalarBytesSpec : ChangeSpec := { name := "scalarBytes", fn := fun _ => fun
  | [d1, d2] => { results := [.lit (.bool true)], args := [d1, d2] }
  | _ => none }
def scalarBytesRow : OpenClaim := { program := "ytcmjfjomfdljkaa", sum := "50d741f9ea5bf6bb36b771728678d7fe951f08f4d377ca89a515dae35feb9c0c", func := "bosun/bosunlaw06.ScalarBytes", spec := "scalarBytes", inPlace := ["math/bits.Add64", "math/bits.Sub64"], apart := false }
def ScalarBytesSaid : Prop := scalarBytesRow.holds Try.pinned (OpenSpec.ofChange scalarBytesSpec)

/-- ITS FALSE NEIGHBOUR: 'it returns false'. Refute it at one input. -/
def scalarBytesWrong : ChangeSpec := { name := "scalarBytes", fn := fun _ => fun
  | [d1, d2] => { results := [.lit (.bool false)], args := [d1, d2] }
  | _ => none }
def ScalarBytesWrongFalsely : Prop := scalarBytesRow.holds Try.pinned (OpenSpec.ofChange scalarBytesWrong)

/-- 'bosunlaw06.ScalarSums': WHATEVER THE INPUT: true; the input reads as it did. -/
def scalarSumsSpec : ChangeSpec := { name := "scalarSums", fn := fun _ => fun
  | [d1, d2, d3] => { results := [.lit (.bool true)], args := [d1, d2, d3] }
  | _ => none }
def scalarSumsRow : OpenClaim := { program := "ytcmjfjomfdljkaa", sum := "50d741f9ea5bf6bb36b771728678d7fe951f08f4d377ca89a515dae35feb9c0c", func := "bosun/bosunlaw06.ScalarSums", spec := "scalarSums", inPlace := ["math/bits.Add64", "math/bits.Sub64"], apart := false }
def ScalarSumsSaid : Prop := scalarSumsRow.holds Try.pinned (OpenSpec.ofChange scalarSumsSpec)

/-- ITS FALSE NEIGHBOUR: 'it returns false'. Refute it at one input. -/
def scalarSumsWrong : ChangeSpec := { name := "scalarSums", fn := fun _ => fun
  | [d1, d2, d3] => { results := [.lit (.bool false)], args := [d1, d2, d3] }
  | _ => none }
def ScalarSumsWrongFalsely : Prop := scalarSumsRow.holds Try.pinned (OpenSpec.ofChange scalarSumsWrong)

/-- 'bosunlaw06.ScalarRules': WHATEVER THE INPUT: true; the input reads as it did. -/
def scalarRulesSpec : ChangeSpec := { name := "scalarRules", fn := fun _ => fun
  | [d1, d2, d3] => { results := [.lit (.bool true)], args := [d1, d2, d3] }
  | _ => none }
def scalarRulesRow : OpenClaim := { program := "ytcmjfjomfdljkaa", sum := "50d741f9ea5bf6bb36b771728678d7fe951f08f4d377ca89a515dae35feb9c0c", func := "bosun/bosunlaw06.ScalarRules", spec := "scalarRules", inPlace := ["math/bits.Add64", "math/bits.Sub64"], apart := false }
def ScalarRulesSaid : Prop := scalarRulesRow.holds Try.pinned (OpenSpec.ofChange scalarRulesSpec)

/-- ITS FALSE NEIGHBOUR: 'it returns false'. Refute it at one input. -/
def scalarRulesWrong : ChangeSpec := { name := "scalarRules", fn := fun _ => fun
  | [d1, d2, d3] => { results := [.lit (.bool false)], args := [d1, d2, d3] }
  | _ => none }
def ScalarRulesWrongFalsely : Prop := scalarRulesRow.holds Try.pinned (OpenSpec.ofChange scalarRulesWrong)

/-- 'bosunlaw05.FieldPowers': WHATEVER THE INPUT: true; the input reads as it did. -/
def fieldPowersSpec : ChangeSpec := { name := "fieldPowers", fn := fun _ => fun
  | [d1, d2] => { results := [.lit (.bool true)], args := [d1, d2] }
  | _ => none }
def fieldPowersRow : OpenClaim := { program := "ytcmjfjomfdljkaa", sum := "50d741f9ea5bf6bb36b771728678d7fe951f08f4d377ca89a515dae35feb9c0c", func := "bosun/bosunlaw05.FieldPowers", spec := "fieldPowers", inPlace := ["math/bits.Add64", "math/bits.Sub64"], apart := false }
def FieldPowersSaid : Prop := fieldPowersRow.holds Try.pinned (OpenSpec.ofChange fieldPowersSpec)

/-- ITS FALSE NEIGHBOUR: 'it returns false'. Refute it at one input. -/
def fieldPowersWrong : ChangeSpec := { name := "fieldPowers", fn := fun _ => fun
  | [d1, d2] => { results := [.lit (.bool false)], args := [d1, d2] }
  | _ => none }
def FieldPowersWrongFalsely : Prop := fieldPowersRow.holds Try.pinned (OpenSpec.ofChange fieldPowersWrong)

/-- 'bosunlaw05.FieldRoots': WHATEVER THE INPUT: true; the input reads as it did. -/
def fieldRootsSpec : ChangeSpec := { name := "fieldRoots", fn := fun _ => fun
  | [d] => { results := [.lit (.bool true)], args := [d] }
  | _ => none }
def fieldRootsRow : OpenClaim := { program := "ytcmjfjomfdljkaa", sum := "50d741f9ea5bf6bb36b771728678d7fe951f08f4d377ca89a515dae35feb9c0c", func := "bosun/bosunlaw05.FieldRoots", spec := "fieldRoots", inPlace := ["math/bits.Add64", "math/bits.Sub64"], apart := false }
def FieldRootsSaid : Prop := fieldRootsRow.holds Try.pinned (OpenSpec.ofChange fieldRootsSpec)

/-- ITS FALSE NEIGHBOUR: 'it returns false'. Refute it at one input. -/
def fieldRootsWrong : ChangeSpec := { name := "fieldRoots", fn := fun _ => fun
  | [d] => { results := [.lit (.bool false)], args := [d] }
  | _ => none }
def FieldRootsWrongFalsely : Prop := fieldRootsRow.holds Try.pinned (OpenSpec.ofChange fieldRootsWrong)

/-- 'bosunlaw05.FieldSums': WHATEVER THE INPUT: true; the input reads as it did. -/
def fieldSumsSpec : ChangeSpec := { name := "fieldSums", fn := fun _ => fun
  | [d1, d2, d3] => { results := [.lit (.bool true)], args := [d1, d2, d3] }
  | _ => none }
def fieldSumsRow : OpenClaim := { program := "ytcmjfjomfdljkaa", sum := "50d741f9ea5bf6bb36b771728678d7fe951f08f4d377ca89a515dae35feb9c0c", func := "bosun/bosunlaw05.FieldSums", spec := "fieldSums", inPlace := ["math/bits.Add64", "math/bits.Sub64"], apart := false }
def FieldSumsSaid : Prop := fieldSumsRow.holds Try.pinned (OpenSpec.ofChange fieldSumsSpec)

/-- ITS FALSE NEIGHBOUR: 'it returns false'. Refute it at one input. -/
def fieldSumsWrong : ChangeSpec := { name := "fieldSums", fn := fun _ => fun
  | [d1, d2, d3] => { results := [.lit (.bool false)], args := [d1, d2, d3] }
  | _ => none }
def FieldSumsWrongFalsely : Prop := fieldSumsRow.holds Try.pinned (OpenSpec.ofChange fieldSumsWrong)

/-- 'bosunlaw05.FieldRules': WHATEVER THE INPUT: true; the input reads as it did. -/
def fieldRulesSpec : ChangeSpec := { name := "fieldRules", fn := fun _ => fun
  | [d1, d2, d3] => { results := [.lit (.bool true)], args := [d1, d2, d3] }
  | _ => none }
def fieldRulesRow : OpenClaim := { program := "ytcmjfjomfdljkaa", sum := "50d741f9ea5bf6bb36b771728678d7fe951f08f4d377ca89a515dae35feb9c0c", func := "bosun/bosunlaw05.FieldRules", spec := "fieldRules", inPlace := ["math/bits.Add64", "math/bits.Sub64"], apart := false }
def FieldRulesSaid : Prop := fieldRulesRow.holds Try.pinned (OpenSpec.ofChange fieldRulesSpec)

/-- ITS FALSE NEIGHBOUR: 'it returns false'. Refute it at one input. -/
def fieldRulesWrong : ChangeSpec := { name := "fieldRules", fn := fun _ => fun
  | [d1, d2, d3] => { results := [.lit (.bool false)], args := [d1, d2, d3] }
  | _ => none }
def FieldRulesWrongFalsely : Prop := fieldRulesRow.holds Try.pinned (OpenSpec.ofChange fieldRulesWrong)

/-- 'bosunlaw05.FieldBytes': WHATEVER THE INPUT: true; the input reads as it did. -/
def fieldBytesSpec : ChangeSpec := { name := "fieldBytes", fn := fun _ => fun
  | [d1, d2] => { results := [.lit (.bool true)], args := [d1, d2] }
  | _ => none }
def fieldBytesRow : OpenClaim := { program := "ytcmjfjomfdljkaa", sum := "50d741f9ea5bf6bb36b771728678d7fe951f08f4d377ca89a515dae35feb9c0c", func := "bosun/bosunlaw05.FieldBytes", spec := "fieldBytes", inPlace := ["math/bits.Add64", "math/bits.Sub64"], apart := false }
def FieldBytesSaid : Prop := fieldBytesRow.holds Try.pinned (OpenSpec.ofChange fieldBytesSpec)

/-- ITS FALSE NEIGHBOUR: 'it returns false'. Refute it at one input. -/
def fieldBytesWrong : ChangeSpec := { name := "fieldBytes", fn := fun _ => fun
  | [d1, d2] => { results := [.lit (.bool false)], args := [d1, d2] }
  | _ => none }
def FieldBytesWrongFalsely : Prop := fieldBytesRow.holds Try.pinned (OpenSpec.ofChange fieldBytesWrong)

/- THE SECOND FORM. 'bulk': how many values and letters a reading holds, each counted each time it is reached (what is shared counts as often as it is met; a slice's spare places count too). A statement '..UptoSaid' is the law's where the arguments, and the package variables that the reading takes, are together of bulk at most 1048576: NARROWER than '..Said'. Prove '..Said' where nothing that the law and all that it calls make is longer than what came in: it says more and counts as full. Else prove '..UptoSaid'. A law counts once. -/
mutual
def uptoBulk {H : Type} : DataW H → Nat
  | .lit (.string bytes) => bytes.length + 1
  | .lit _ => 1
  | .nil => 1
  | .ptr d => uptoBulk d + 1
  | .slice elems spare => uptoBulkAll elems + uptoBulkAll spare + 1
  | .agg parts => uptoBulkAll parts + 1
  | .iface _ d => uptoBulk d + 1
  | .map entries => uptoBulkEntries entries + 1
  | .held _ => 1
def uptoBulkAll {H : Type} : List (DataW H) → Nat
  | [] => 0
  | d :: r => uptoBulk d + uptoBulkAll r
def uptoBulkEntries {H : Type} : List (Lit × DataW H) → Nat
  | [] => 0
  | x :: r => uptoBulkEntry x + uptoBulkEntries r
def uptoBulkEntry {H : Type} : Lit × DataW H → Nat
  | (.string bytes, d) => bytes.length + uptoBulk d + 1
  | (_, d) => uptoBulk d + 1
 end
def uptoSmall : (H : Type) → List (DataW H) → Bool := fun _ ds => decide (uptoBulkAll ds ≤ 1048576)
def OpenSpec.upto (s : _root_.Go.ChangeSpec) : _root_.Go.OpenSpec := { _root_.Go.OpenSpec.ofChange s with cond := some uptoSmall }

/-- 'bosunlaw06.ScalarBytes', WHERE WHAT IT READS IS OF BULK AT MOST 1048576: true; the input reads as it did. -/
def scalarBytesUptoRow : OpenClaim := { program := "ytcmjfjomfdljkaa", sum := "50d741f9ea5bf6bb36b771728678d7fe951f08f4d377ca89a515dae35feb9c0c", func := "bosun/bosunlaw06.ScalarBytes", spec := "scalarBytes", inPlace := ["math/bits.Add64", "math/bits.Sub64"], apart := false, narrowed := true }
def ScalarBytesUptoSaid : Prop := scalarBytesUptoRow.holds Try.pinned (OpenSpec.upto scalarBytesSpec)

/-- 'bosunlaw06.ScalarSums', WHERE WHAT IT READS IS OF BULK AT MOST 1048576: true; the input reads as it did. -/
def scalarSumsUptoRow : OpenClaim := { program := "ytcmjfjomfdljkaa", sum := "50d741f9ea5bf6bb36b771728678d7fe951f08f4d377ca89a515dae35feb9c0c", func := "bosun/bosunlaw06.ScalarSums", spec := "scalarSums", inPlace := ["math/bits.Add64", "math/bits.Sub64"], apart := false, narrowed := true }
def ScalarSumsUptoSaid : Prop := scalarSumsUptoRow.holds Try.pinned (OpenSpec.upto scalarSumsSpec)

/-- 'bosunlaw06.ScalarRules', WHERE WHAT IT READS IS OF BULK AT MOST 1048576: true; the input reads as it did. -/
def scalarRulesUptoRow : OpenClaim := { program := "ytcmjfjomfdljkaa", sum := "50d741f9ea5bf6bb36b771728678d7fe951f08f4d377ca89a515dae35feb9c0c", func := "bosun/bosunlaw06.ScalarRules", spec := "scalarRules", inPlace := ["math/bits.Add64", "math/bits.Sub64"], apart := false, narrowed := true }
def ScalarRulesUptoSaid : Prop := scalarRulesUptoRow.holds Try.pinned (OpenSpec.upto scalarRulesSpec)

/-- 'bosunlaw05.FieldPowers', WHERE WHAT IT READS IS OF BULK AT MOST 1048576: true; the input reads as it did. -/
def fieldPowersUptoRow : OpenClaim := { program := "ytcmjfjomfdljkaa", sum := "50d741f9ea5bf6bb36b771728678d7fe951f08f4d377ca89a515dae35feb9c0c", func := "bosun/bosunlaw05.FieldPowers", spec := "fieldPowers", inPlace := ["math/bits.Add64", "math/bits.Sub64"], apart := false, narrowed := true }
def FieldPowersUptoSaid : Prop := fieldPowersUptoRow.holds Try.pinned (OpenSpec.upto fieldPowersSpec)

/-- 'bosunlaw05.FieldRoots', WHERE WHAT IT READS IS OF BULK AT MOST 1048576: true; the input reads as it did. -/
def fieldRootsUptoRow : OpenClaim := { program := "ytcmjfjomfdljkaa", sum := "50d741f9ea5bf6bb36b771728678d7fe951f08f4d377ca89a515dae35feb9c0c", func := "bosun/bosunlaw05.FieldRoots", spec := "fieldRoots", inPlace := ["math/bits.Add64", "math/bits.Sub64"], apart := false, narrowed := true }
def FieldRootsUptoSaid : Prop := fieldRootsUptoRow.holds Try.pinned (OpenSpec.upto fieldRootsSpec)

/-- 'bosunlaw05.FieldSums', WHERE WHAT IT READS IS OF BULK AT MOST 1048576: true; the input reads as it did. -/
def fieldSumsUptoRow : OpenClaim := { program := "ytcmjfjomfdljkaa", sum := "50d741f9ea5bf6bb36b771728678d7fe951f08f4d377ca89a515dae35feb9c0c", func := "bosun/bosunlaw05.FieldSums", spec := "fieldSums", inPlace := ["math/bits.Add64", "math/bits.Sub64"], apart := false, narrowed := true }
def FieldSumsUptoSaid : Prop := fieldSumsUptoRow.holds Try.pinned (OpenSpec.upto fieldSumsSpec)

/-- 'bosunlaw05.FieldRules', WHERE WHAT IT READS IS OF BULK AT MOST 1048576: true; the input reads as it did. -/
def fieldRulesUptoRow : OpenClaim := { program := "ytcmjfjomfdljkaa", sum := "50d741f9ea5bf6bb36b771728678d7fe951f08f4d377ca89a515dae35feb9c0c", func := "bosun/bosunlaw05.FieldRules", spec := "fieldRules", inPlace := ["math/bits.Add64", "math/bits.Sub64"], apart := false, narrowed := true }
def FieldRulesUptoSaid : Prop := fieldRulesUptoRow.holds Try.pinned (OpenSpec.upto fieldRulesSpec)

/-- 'bosunlaw05.FieldBytes', WHERE WHAT IT READS IS OF BULK AT MOST 1048576: true; the input reads as it did. -/
def fieldBytesUptoRow : OpenClaim := { program := "ytcmjfjomfdljkaa", sum := "50d741f9ea5bf6bb36b771728678d7fe951f08f4d377ca89a515dae35feb9c0c", func := "bosun/bosunlaw05.FieldBytes", spec := "fieldBytes", inPlace := ["math/bits.Add64", "math/bits.Sub64"], apart := false, narrowed := true }
def FieldBytesUptoSaid : Prop := fieldBytesUptoRow.holds Try.pinned (OpenSpec.upto fieldBytesSpec)

end Rows
end Go.Proofs.Ytcmjfjomfdljkaa
