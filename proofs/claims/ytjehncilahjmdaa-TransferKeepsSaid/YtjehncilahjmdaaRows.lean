/-
  No cell of these rows narrows 'for every input' (looked for: loops, veiled, ifaces, maps, wideKeys, modest, calm, conditions, laid).
  DERIVED. THE GIVEN ROWS OF THIS SEAT. 9 by the template 'for every input the law returns true; each argument reads behind the call as it read before'; 0 by the template 'total and deterministic' (their statements: YtjehncilahjmdaaTotals.lean).
  GIVEN WITH THE SEED: the statements are not yours to turn. If you find one false, say at which input.
  Laid BY PROGRAM, IN A SANDBOX (cutbox-rows.mjs): the forced cells as the released guide's own fill.sh prints them over the translation d131485975d0fbbf… (all of the seat's roots in one cut). By AI agents, Wed Nov 11 2026. No macro, syntax, notation, axiom, sorry.
-/
import Derived.Test.YtjehncilahjmdaaChecked
import GoSem.Claim
import GoSem.ClaimJoined
import GoSem.ClaimMapViews
import Derived.JoinedTies
import Derived.KernelRfl
namespace Go.Proofs.Ytjehncilahjmdaa
/- THE CELL 'sum', in the pinned program and in every row, IS THE sha256 OF THE DUMP (.gsa) THAT YtjehncilahjmdaaProg.lean LOADS. Nothing in Lean hashes anything: it is a label: what it is worth is what the hold of that sum in a sandbox is worth. -/
noncomputable def Try.pinned : Pinned := { name := "ytjehncilahjmdaa", sum := "d131485975d0fbbffa12067b8a607b2fae991918b002c185bfc3ddb0fc10b733", checked := Try.checked }
namespace Rows
def none {H : Type} : Left H := { results := [], args := [] }

/-- 'bosunlaw01.FlashTears': WHATEVER THE INPUT: true; the input reads as it did. -/
def flashTearsSpec : ChangeSpec := { name := "flashTears", fn := fun _ => fun
  | [d1, d2, d3] => { results := [.lit (.bool true)], args := [d1, d2, d3] }
  | _ => none }
def flashTearsRow : OpenClaim := { program := "ytjehncilahjmdaa", sum := "d131485975d0fbbffa12067b8a607b2fae991918b002c185bfc3ddb0fc10b733", func := "bosun/bosunlaw01.FlashTears", spec := "flashTears", apart := false }
def FlashTearsSaid : Prop := flashTearsRow.holds Try.pinned (OpenSpec.ofChange flashTearsSpec)

/-- ITS FALSE NEIGHBOUR: 'it returns false'. Refute it at one input. -/
def flashTearsWrong : ChangeSpec := { name := "flashTears", fn := fun _ => fun
  | [d1, d2, d3] => { results := [.lit (.bool false)], args := [d1, d2, d3] }
  | _ => none }
def FlashTearsWrongFalsely : Prop := flashTearsRow.holds Try.pinned (OpenSpec.ofChange flashTearsWrong)

/-- 'bosunlaw01.FlashNil': WHATEVER THE INPUT: true; the input reads as it did. -/
def flashNilSpec : ChangeSpec := { name := "flashNil", fn := fun _ => fun
  | [d1, d2] => { results := [.lit (.bool true)], args := [d1, d2] }
  | _ => none }
def flashNilRow : OpenClaim := { program := "ytjehncilahjmdaa", sum := "d131485975d0fbbffa12067b8a607b2fae991918b002c185bfc3ddb0fc10b733", func := "bosun/bosunlaw01.FlashNil", spec := "flashNil", apart := false }
def FlashNilSaid : Prop := flashNilRow.holds Try.pinned (OpenSpec.ofChange flashNilSpec)

/-- ITS FALSE NEIGHBOUR: 'it returns false'. Refute it at one input. -/
def flashNilWrong : ChangeSpec := { name := "flashNil", fn := fun _ => fun
  | [d1, d2] => { results := [.lit (.bool false)], args := [d1, d2] }
  | _ => none }
def FlashNilWrongFalsely : Prop := flashNilRow.holds Try.pinned (OpenSpec.ofChange flashNilWrong)

/-- 'bosunlaw14.SettingsArgs': WHATEVER THE INPUT: true; the input reads as it did. -/
def settingsArgsSpec : ChangeSpec := { name := "settingsArgs", fn := fun _ => fun
  | [d] => { results := [.lit (.bool true)], args := [d] }
  | _ => none }
def settingsArgsRow : OpenClaim := { program := "ytjehncilahjmdaa", sum := "d131485975d0fbbffa12067b8a607b2fae991918b002c185bfc3ddb0fc10b733", func := "bosun/bosunlaw14.SettingsArgs", spec := "settingsArgs", unfollowed := true, recurses := true, apart := false }
def SettingsArgsSaid : Prop := settingsArgsRow.holds Try.pinned (OpenSpec.ofChange settingsArgsSpec)

/-- ITS FALSE NEIGHBOUR: 'it returns false'. Refute it at one input. -/
def settingsArgsWrong : ChangeSpec := { name := "settingsArgs", fn := fun _ => fun
  | [d] => { results := [.lit (.bool false)], args := [d] }
  | _ => none }
def SettingsArgsWrongFalsely : Prop := settingsArgsRow.holds Try.pinned (OpenSpec.ofChange settingsArgsWrong)

/-- 'bosunlaw14.SettingsActs': WHATEVER THE INPUT: true; the input reads as it did. -/
def settingsActsSpec : ChangeSpec := { name := "settingsActs", fn := fun _ => fun
  | [d1, d2] => { results := [.lit (.bool true)], args := [d1, d2] }
  | _ => none }
def settingsActsRow : OpenClaim := { program := "ytjehncilahjmdaa", sum := "d131485975d0fbbffa12067b8a607b2fae991918b002c185bfc3ddb0fc10b733", func := "bosun/bosunlaw14.SettingsActs", spec := "settingsActs", unfollowed := true, recurses := true, apart := false }
def SettingsActsSaid : Prop := settingsActsRow.holds Try.pinned (OpenSpec.ofChange settingsActsSpec)

/-- ITS FALSE NEIGHBOUR: 'it returns false'. Refute it at one input. -/
def settingsActsWrong : ChangeSpec := { name := "settingsActs", fn := fun _ => fun
  | [d1, d2] => { results := [.lit (.bool false)], args := [d1, d2] }
  | _ => none }
def SettingsActsWrongFalsely : Prop := settingsActsRow.holds Try.pinned (OpenSpec.ofChange settingsActsWrong)

/-- 'bosunlaw14.SettingsTorn': WHATEVER THE INPUT: true; the input reads as it did. -/
def settingsTornSpec : ChangeSpec := { name := "settingsTorn", fn := fun _ => fun
  | [d1, d2, d3] => { results := [.lit (.bool true)], args := [d1, d2, d3] }
  | _ => none }
def settingsTornRow : OpenClaim := { program := "ytjehncilahjmdaa", sum := "d131485975d0fbbffa12067b8a607b2fae991918b002c185bfc3ddb0fc10b733", func := "bosun/bosunlaw14.SettingsTorn", spec := "settingsTorn", unfollowed := true, recurses := true, apart := false }
def SettingsTornSaid : Prop := settingsTornRow.holds Try.pinned (OpenSpec.ofChange settingsTornSpec)

/-- ITS FALSE NEIGHBOUR: 'it returns false'. Refute it at one input. -/
def settingsTornWrong : ChangeSpec := { name := "settingsTorn", fn := fun _ => fun
  | [d1, d2, d3] => { results := [.lit (.bool false)], args := [d1, d2, d3] }
  | _ => none }
def SettingsTornWrongFalsely : Prop := settingsTornRow.holds Try.pinned (OpenSpec.ofChange settingsTornWrong)

/-- 'bosunlaw15.BankNone': WHATEVER THE INPUT: true; the input reads as it did. -/
def bankNoneSpec : ChangeSpec := { name := "bankNone", fn := fun _ => fun
  | [d1, d2] => { results := [.lit (.bool true)], args := [d1, d2] }
  | _ => none }
def bankNoneRow : OpenClaim := { program := "ytjehncilahjmdaa", sum := "d131485975d0fbbffa12067b8a607b2fae991918b002c185bfc3ddb0fc10b733", func := "bosun/bosunlaw15.BankNone", spec := "bankNone", apart := false }
def BankNoneSaid : Prop := bankNoneRow.holds Try.pinned (OpenSpec.ofChange bankNoneSpec)

/-- ITS FALSE NEIGHBOUR: 'it returns false'. Refute it at one input. -/
def bankNoneWrong : ChangeSpec := { name := "bankNone", fn := fun _ => fun
  | [d1, d2] => { results := [.lit (.bool false)], args := [d1, d2] }
  | _ => none }
def BankNoneWrongFalsely : Prop := bankNoneRow.holds Try.pinned (OpenSpec.ofChange bankNoneWrong)

/-- 'bosunlaw18.TransferArgs': WHATEVER THE INPUT: true; the input reads as it did. -/
def transferArgsSpec : ChangeSpec := { name := "transferArgs", fn := fun _ => fun
  | [d] => { results := [.lit (.bool true)], args := [d] }
  | _ => none }
def transferArgsRow : OpenClaim := { program := "ytjehncilahjmdaa", sum := "d131485975d0fbbffa12067b8a607b2fae991918b002c185bfc3ddb0fc10b733", func := "bosun/bosunlaw18.TransferArgs", spec := "transferArgs", unfollowed := true, recurses := true, apart := false }
def TransferArgsSaid : Prop := transferArgsRow.holds Try.pinned (OpenSpec.ofChange transferArgsSpec)

/-- ITS FALSE NEIGHBOUR: 'it returns false'. Refute it at one input. -/
def transferArgsWrong : ChangeSpec := { name := "transferArgs", fn := fun _ => fun
  | [d] => { results := [.lit (.bool false)], args := [d] }
  | _ => none }
def TransferArgsWrongFalsely : Prop := transferArgsRow.holds Try.pinned (OpenSpec.ofChange transferArgsWrong)

/-- 'bosunlaw18.TransferActs': WHATEVER THE INPUT: true; the input reads as it did. -/
def transferActsSpec : ChangeSpec := { name := "transferActs", fn := fun _ => fun
  | [d] => { results := [.lit (.bool true)], args := [d] }
  | _ => none }
def transferActsRow : OpenClaim := { program := "ytjehncilahjmdaa", sum := "d131485975d0fbbffa12067b8a607b2fae991918b002c185bfc3ddb0fc10b733", func := "bosun/bosunlaw18.TransferActs", spec := "transferActs", unfollowed := true, recurses := true, apart := false }
def TransferActsSaid : Prop := transferActsRow.holds Try.pinned (OpenSpec.ofChange transferActsSpec)

/-- ITS FALSE NEIGHBOUR: 'it returns false'. Refute it at one input. -/
def transferActsWrong : ChangeSpec := { name := "transferActs", fn := fun _ => fun
  | [d] => { results := [.lit (.bool false)], args := [d] }
  | _ => none }
def TransferActsWrongFalsely : Prop := transferActsRow.holds Try.pinned (OpenSpec.ofChange transferActsWrong)

/-- 'bosunlaw18.TransferKeeps': WHATEVER THE INPUT: true; the input reads as it did. -/
def transferKeepsSpec : ChangeSpec := { name := "transferKeeps", fn := fun _ => fun
  | [d1, d2, d3] => { results := [.lit (.bool true)], args := [d1, d2, d3] }
  | _ => none }
def transferKeepsRow : OpenClaim := { program := "ytjehncilahjmdaa", sum := "d131485975d0fbbffa12067b8a607b2fae991918b002c185bfc3ddb0fc10b733", func := "bosun/bosunlaw18.TransferKeeps", spec := "transferKeeps", unfollowed := true, recurses := true, apart := false }
def TransferKeepsSaid : Prop := transferKeepsRow.holds Try.pinned (OpenSpec.ofChange transferKeepsSpec)

/-- ITS FALSE NEIGHBOUR: 'it returns false'. Refute it at one input. -/
def transferKeepsWrong : ChangeSpec := { name := "transferKeeps", fn := fun _ => fun
  | [d1, d2, d3] => { results := [.lit (.bool false)], args := [d1, d2, d3] }
  | _ => none }
def TransferKeepsWrongFalsely : Prop := transferKeepsRow.holds Try.pinned (OpenSpec.ofChange transferKeepsWrong)

/- THE SECOND FORM. 'bulk': how many values and letters a reading holds, each counted each time it is reached (what is shared counts as often as it is met; a slice's spare places count too). A statement '..UptoSaid' is the law's where the arguments, and the package variables that the reading takes, are together of bulk at most 1048576: NARROWER than '..Said'. Prove '..Said' where nothing that the law and all that it calls make is longer than what came in: it says more and counts as full. Else prove '..UptoSaid'. A law counts once. -/
mutual
def uptoBulk {H : Type} : DataW H → Nat
  | .lit (.string bytes) => bytes.length + 1
  | .lit _ => 1
  | .nil => 1
  | .ptr d => uptoBulk d + 1
  | .slice elems spare => uptoBulkAll elems + uptoBulkAll spare + 1
  | .agg parts => uptoBulkAll parts + 1
  | .iface _ d => uptoBulk d + 1
  | .map entries => uptoBulkEntries entries + 1
  | .held _ => 1
def uptoBulkAll {H : Type} : List (DataW H) → Nat
  | [] => 0
  | d :: r => uptoBulk d + uptoBulkAll r
def uptoBulkEntries {H : Type} : List (Lit × DataW H) → Nat
  | [] => 0
  | x :: r => uptoBulkEntry x + uptoBulkEntries r
def uptoBulkEntry {H : Type} : Lit × DataW H → Nat
  | (.string bytes, d) => bytes.length + uptoBulk d + 1
  | (_, d) => uptoBulk d + 1
 end
def uptoSmall : (H : Type) → List (DataW H) → Bool := fun _ ds => decide (uptoBulkAll ds ≤ 1048576)
def OpenSpec.upto (s : _root_.Go.ChangeSpec) : _root_.Go.OpenSpec := { _root_.Go.OpenSpec.ofChange s with cond := some uptoSmall }

/-- 'bosunlaw01.FlashTears', WHERE WHAT IT READS IS OF BULK AT MOST 1048576: true; the input reads as it did. -/
def flashTearsUptoRow : OpenClaim := { program := "ytjehncilahjmdaa", sum := "d131485975d0fbbffa12067b8a607b2fae991918b002c185bfc3ddb0fc10b733", func := "bosun/bosunlaw01.FlashTears", spec := "flashTears", apart := false, narrowed := true }
def FlashTearsUptoSaid : Prop := flashTearsUptoRow.holds Try.pinned (OpenSpec.upto flashTearsSpec)

/-- 'bosunlaw01.FlashNil', WHERE WHAT IT READS IS OF BULK AT MOST 1048576: true; the input reads as it did. -/
def flashNilUptoRow : OpenClaim := { program := "ytjehncilahjmdaa", sum := "d131485975d0fbbffa12067b8a607b2fae991918b002c185bfc3ddb0fc10b733", func := "bosun/bosunlaw01.FlashNil", spec := "flashNil", apart := false, narrowed := true }
def FlashNilUptoSaid : Prop := flashNilUptoRow.holds Try.pinned (OpenSpec.upto flashNilSpec)

/-- 'bosunlaw14.SettingsArgs', WHERE WHAT IT READS IS OF BULK AT MOST 1048576: true; the input reads as it did. -/
def settingsArgsUptoRow : OpenClaim := { program := "ytjehncilahjmdaa", sum := "d131485975d0fbbffa12067b8a607b2fae991918b002c185bfc3ddb0fc10b733", func := "bosun/bosunlaw14.SettingsArgs", spec := "settingsArgs", unfollowed := true, recurses := true, apart := false, narrowed := true }
def SettingsArgsUptoSaid : Prop := settingsArgsUptoRow.holds Try.pinned (OpenSpec.upto settingsArgsSpec)

/-- 'bosunlaw14.SettingsActs', WHERE WHAT IT READS IS OF BULK AT MOST 1048576: true; the input reads as it did. -/
def settingsActsUptoRow : OpenClaim := { program := "ytjehncilahjmdaa", sum := "d131485975d0fbbffa12067b8a607b2fae991918b002c185bfc3ddb0fc10b733", func := "bosun/bosunlaw14.SettingsActs", spec := "settingsActs", unfollowed := true, recurses := true, apart := false, narrowed := true }
def SettingsActsUptoSaid : Prop := settingsActsUptoRow.holds Try.pinned (OpenSpec.upto settingsActsSpec)

/-- 'bosunlaw14.SettingsTorn', WHERE WHAT IT READS IS OF BULK AT MOST 1048576: true; the input reads as it did. -/
def settingsTornUptoRow : OpenClaim := { program := "ytjehncilahjmdaa", sum := "d131485975d0fbbffa12067b8a607b2fae991918b002c185bfc3ddb0fc10b733", func := "bosun/bosunlaw14.SettingsTorn", spec := "settingsTorn", unfollowed := true, recurses := true, apart := false, narrowed := true }
def SettingsTornUptoSaid : Prop := settingsTornUptoRow.holds Try.pinned (OpenSpec.upto settingsTornSpec)

/-- 'bosunlaw15.BankNone', WHERE WHAT IT READS IS OF BULK AT MOST 1048576: true; the input reads as it did. -/
def bankNoneUptoRow : OpenClaim := { program := "ytjehncilahjmdaa", sum := "d131485975d0fbbffa12067b8a607b2fae991918b002c185bfc3ddb0fc10b733", func := "bosun/bosunlaw15.BankNone", spec := "bankNone", apart := false, narrowed := true }
def BankNoneUptoSaid : Prop := bankNoneUptoRow.holds Try.pinned (OpenSpec.upto bankNoneSpec)

/-- 'bosunlaw18.TransferArgs', WHERE WHAT IT READS IS OF BULK AT MOST 1048576: true; the input reads as it did. -/
def transferArgsUptoRow : OpenClaim := { program := "ytjehncilahjmdaa", sum := "d131485975d0fbbffa12067b8a607b2fae991918b002c185bfc3ddb0fc10b733", func := "bosun/bosunlaw18.TransferArgs", spec := "transferArgs", unfollowed := true, recurses := true, apart := false, narrowed := true }
def TransferArgsUptoSaid : Prop := transferArgsUptoRow.holds Try.pinned (OpenSpec.upto transferArgsSpec)

/-- 'bosunlaw18.TransferActs', WHERE WHAT IT READS IS OF BULK AT MOST 1048576: true; the input reads as it did. -/
def transferActsUptoRow : OpenClaim := { program := "ytjehncilahjmdaa", sum := "d131485975d0fbbffa12067b8a607b2fae991918b002c185bfc3ddb0fc10b733", func := "bosun/bosunlaw18.TransferActs", spec := "transferActs", unfollowed := true, recurses := true, apart := false, narrowed := true }
def TransferActsUptoSaid : Prop := transferActsUptoRow.holds Try.pinned (OpenSpec.upto transferActsSpec)

/-- 'bosunlaw18.TransferKeeps', WHERE WHAT IT READS IS OF BULK AT MOST 1048576: true; the input reads as it did. -/
def transferKeepsUptoRow : OpenClaim := { program := "ytjehncilahjmdaa", sum := "d131485975d0fbbffa12067b8a607b2fae991918b002c185bfc3ddb0fc10b733", func := "bosun/bosunlaw18.TransferKeeps", spec := "transferKeeps", unfollowed := true, recurses := true, apart := false, narrowed := true }
def TransferKeepsUptoSaid : Prop := transferKeepsUptoRow.holds Try.pinned (OpenSpec.upto transferKeepsSpec)

end Rows
end Go.Proofs.Ytjehncilahjmdaa
