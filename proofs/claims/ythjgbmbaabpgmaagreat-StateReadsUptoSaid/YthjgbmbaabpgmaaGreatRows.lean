/-
  No cell of these rows narrows 'for every input' (looked for: loops, veiled, ifaces, maps, wideKeys, modest, calm, conditions, laid).
  DERIVED. THE GIVEN ROWS OF THIS SEAT. 8 by the template 'for every input the law returns true; each argument reads behind the call as it read before'; 0 by the template 'total and deterministic' (their statements: YthjgbmbaabpgmaaGreatTotals.lean).
  GIVEN WITH THE SEED: the statements are not yours to turn. If you find one false, say at which input.
  Laid BY PROGRAM, IN A SANDBOX (cutbox-rows.mjs): the forced cells as the released guide's own fill.sh prints them over the translation f96741b26f38cde9… (all of the seat's roots in one cut). By AI agents, Wed Nov 11 2026. No macro, syntax, notation, axiom, sorry.
-/
import Derived.Test.YthjgbmbaabpgmaaGreatChecked
import GoSem.Claim
import GoSem.ClaimJoined
import GoSem.ClaimMapViews
import Derived.JoinedTies
import Derived.KernelRfl
namespace Go.Proofs.YthjgbmbaabpgmaaGreat
/- THE CELL 'sum', in the pinned program and in every row, IS THE sha256 OF THE DUMP (.gsa) THAT YthjgbmbaabpgmaaGreatProg.lean LOADS. Nothing in Lean hashes anything: it is a label: what it is worth is what the hold of that sum in a sandbox is worth. -/
noncomputable def Tryz.pinned : Pinned := { name := "ythjgbmbaabpgmaagreat", sum := "f96741b26f38cde9dfaedb23974e4b70818c54b9069e80135e282b8cee457a04", checked := Tryz.checked }
namespace Rows
def none {H : Type} : Left H := { results := [], args := [] }

/-- 'oxbowlaw19.StateEven': WHATEVER THE INPUT: true; the input reads as it did. -/
def stateEvenSpec : ChangeSpec := { name := "stateEven", fn := fun _ => fun
  | [d1, d2, d3] => { results := [.lit (.bool true)], args := [d1, d2, d3] }
  | _ => none }
def stateEvenRow : OpenClaim := { program := "ythjgbmbaabpgmaagreat", sum := "f96741b26f38cde9dfaedb23974e4b70818c54b9069e80135e282b8cee457a04", func := "oxbow/oxbowlaw19.StateEven", spec := "stateEven", inPlace := ["internal/bytealg.abigen_runtime_cmpstring", "slices.overlaps[oxbow/api.Client]"], unfollowed := true, recurses := true, plainKeys := false, apart := false }
def StateEvenSaid : Prop := stateEvenRow.holds Tryz.pinned (OpenSpec.ofChange stateEvenSpec)

/-- ITS FALSE NEIGHBOUR: 'it returns false'. Refute it at one input. -/
def stateEvenWrong : ChangeSpec := { name := "stateEven", fn := fun _ => fun
  | [d1, d2, d3] => { results := [.lit (.bool false)], args := [d1, d2, d3] }
  | _ => none }
def StateEvenWrongFalsely : Prop := stateEvenRow.holds Tryz.pinned (OpenSpec.ofChange stateEvenWrong)

/-- 'oxbowlaw19.StateTexts': WHATEVER THE INPUT: true; the input reads as it did. -/
def stateTextsSpec : ChangeSpec := { name := "stateTexts", fn := fun _ => fun
  | [d] => { results := [.lit (.bool true)], args := [d] }
  | _ => none }
def stateTextsRow : OpenClaim := { program := "ythjgbmbaabpgmaagreat", sum := "f96741b26f38cde9dfaedb23974e4b70818c54b9069e80135e282b8cee457a04", func := "oxbow/oxbowlaw19.StateTexts", spec := "stateTexts", inPlace := ["internal/bytealg.abigen_runtime_cmpstring", "slices.overlaps[oxbow/api.Client]"], unfollowed := true, recurses := true, plainKeys := false, apart := false }
def StateTextsSaid : Prop := stateTextsRow.holds Tryz.pinned (OpenSpec.ofChange stateTextsSpec)

/-- ITS FALSE NEIGHBOUR: 'it returns false'. Refute it at one input. -/
def stateTextsWrong : ChangeSpec := { name := "stateTexts", fn := fun _ => fun
  | [d] => { results := [.lit (.bool false)], args := [d] }
  | _ => none }
def StateTextsWrongFalsely : Prop := stateTextsRow.holds Tryz.pinned (OpenSpec.ofChange stateTextsWrong)

/-- 'oxbowlaw19.StateReads': WHATEVER THE INPUT: true; the input reads as it did. -/
def stateReadsSpec : ChangeSpec := { name := "stateReads", fn := fun _ => fun
  | [d1, d2] => { results := [.lit (.bool true)], args := [d1, d2] }
  | _ => none }
def stateReadsRow : OpenClaim := { program := "ythjgbmbaabpgmaagreat", sum := "f96741b26f38cde9dfaedb23974e4b70818c54b9069e80135e282b8cee457a04", func := "oxbow/oxbowlaw19.StateReads", spec := "stateReads", inPlace := ["internal/bytealg.abigen_runtime_cmpstring", "slices.overlaps[oxbow/api.Client]"], unfollowed := true, recurses := true, plainKeys := false, apart := false }
def StateReadsSaid : Prop := stateReadsRow.holds Tryz.pinned (OpenSpec.ofChange stateReadsSpec)

/-- ITS FALSE NEIGHBOUR: 'it returns false'. Refute it at one input. -/
def stateReadsWrong : ChangeSpec := { name := "stateReads", fn := fun _ => fun
  | [d1, d2] => { results := [.lit (.bool false)], args := [d1, d2] }
  | _ => none }
def StateReadsWrongFalsely : Prop := stateReadsRow.holds Tryz.pinned (OpenSpec.ofChange stateReadsWrong)

/-- 'oxbowlaw19.StateImports': WHATEVER THE INPUT: true; the input reads as it did. -/
def stateImportsSpec : ChangeSpec := { name := "stateImports", fn := fun _ => fun
  | [d1, d2, d3] => { results := [.lit (.bool true)], args := [d1, d2, d3] }
  | _ => none }
def stateImportsRow : OpenClaim := { program := "ythjgbmbaabpgmaagreat", sum := "f96741b26f38cde9dfaedb23974e4b70818c54b9069e80135e282b8cee457a04", func := "oxbow/oxbowlaw19.StateImports", spec := "stateImports", inPlace := ["internal/bytealg.abigen_runtime_cmpstring", "slices.overlaps[oxbow/api.Client]"], unfollowed := true, recurses := true, plainKeys := false, apart := false }
def StateImportsSaid : Prop := stateImportsRow.holds Tryz.pinned (OpenSpec.ofChange stateImportsSpec)

/-- ITS FALSE NEIGHBOUR: 'it returns false'. Refute it at one input. -/
def stateImportsWrong : ChangeSpec := { name := "stateImports", fn := fun _ => fun
  | [d1, d2, d3] => { results := [.lit (.bool false)], args := [d1, d2, d3] }
  | _ => none }
def StateImportsWrongFalsely : Prop := stateImportsRow.holds Tryz.pinned (OpenSpec.ofChange stateImportsWrong)

/-- 'oxbowlaw19.StateLogs': WHATEVER THE INPUT: true; the input reads as it did. -/
def stateLogsSpec : ChangeSpec := { name := "stateLogs", fn := fun _ => fun
  | [d] => { results := [.lit (.bool true)], args := [d] }
  | _ => none }
def stateLogsRow : OpenClaim := { program := "ythjgbmbaabpgmaagreat", sum := "f96741b26f38cde9dfaedb23974e4b70818c54b9069e80135e282b8cee457a04", func := "oxbow/oxbowlaw19.StateLogs", spec := "stateLogs", inPlace := ["internal/bytealg.abigen_runtime_cmpstring", "slices.overlaps[oxbow/api.Client]"], unfollowed := true, recurses := true, plainKeys := false, apart := false }
def StateLogsSaid : Prop := stateLogsRow.holds Tryz.pinned (OpenSpec.ofChange stateLogsSpec)

/-- ITS FALSE NEIGHBOUR: 'it returns false'. Refute it at one input. -/
def stateLogsWrong : ChangeSpec := { name := "stateLogs", fn := fun _ => fun
  | [d] => { results := [.lit (.bool false)], args := [d] }
  | _ => none }
def StateLogsWrongFalsely : Prop := stateLogsRow.holds Tryz.pinned (OpenSpec.ofChange stateLogsWrong)

/-- 'oxbowlaw21.GcLater': WHATEVER THE INPUT: true; the input reads as it did. -/
def gcLaterSpec : ChangeSpec := { name := "gcLater", fn := fun _ => fun
  | [d1, d2] => { results := [.lit (.bool true)], args := [d1, d2] }
  | _ => none }
def gcLaterRow : OpenClaim := { program := "ythjgbmbaabpgmaagreat", sum := "f96741b26f38cde9dfaedb23974e4b70818c54b9069e80135e282b8cee457a04", func := "oxbow/oxbowlaw21.GcLater", spec := "gcLater", inPlace := ["internal/bytealg.abigen_runtime_cmpstring", "slices.overlaps[oxbow/api.Client]"], unfollowed := true, recurses := true, plainKeys := false, apart := false }
def GcLaterSaid : Prop := gcLaterRow.holds Tryz.pinned (OpenSpec.ofChange gcLaterSpec)

/-- ITS FALSE NEIGHBOUR: 'it returns false'. Refute it at one input. -/
def gcLaterWrong : ChangeSpec := { name := "gcLater", fn := fun _ => fun
  | [d1, d2] => { results := [.lit (.bool false)], args := [d1, d2] }
  | _ => none }
def GcLaterWrongFalsely : Prop := gcLaterRow.holds Tryz.pinned (OpenSpec.ofChange gcLaterWrong)

/-- 'oxbowlaw21.GcDocs': WHATEVER THE INPUT: true; the input reads as it did. -/
def gcDocsSpec : ChangeSpec := { name := "gcDocs", fn := fun _ => fun
  | [d] => { results := [.lit (.bool true)], args := [d] }
  | _ => none }
def gcDocsRow : OpenClaim := { program := "ythjgbmbaabpgmaagreat", sum := "f96741b26f38cde9dfaedb23974e4b70818c54b9069e80135e282b8cee457a04", func := "oxbow/oxbowlaw21.GcDocs", spec := "gcDocs", inPlace := ["internal/bytealg.abigen_runtime_cmpstring", "slices.overlaps[oxbow/api.Client]"], unfollowed := true, recurses := true, plainKeys := false, apart := false }
def GcDocsSaid : Prop := gcDocsRow.holds Tryz.pinned (OpenSpec.ofChange gcDocsSpec)

/-- ITS FALSE NEIGHBOUR: 'it returns false'. Refute it at one input. -/
def gcDocsWrong : ChangeSpec := { name := "gcDocs", fn := fun _ => fun
  | [d] => { results := [.lit (.bool false)], args := [d] }
  | _ => none }
def GcDocsWrongFalsely : Prop := gcDocsRow.holds Tryz.pinned (OpenSpec.ofChange gcDocsWrong)

/-- 'oxbowlaw24.TraceStates': WHATEVER THE INPUT: true; the input reads as it did. -/
def traceStatesSpec : ChangeSpec := { name := "traceStates", fn := fun _ => fun
  | [d] => { results := [.lit (.bool true)], args := [d] }
  | _ => none }
def traceStatesRow : OpenClaim := { program := "ythjgbmbaabpgmaagreat", sum := "f96741b26f38cde9dfaedb23974e4b70818c54b9069e80135e282b8cee457a04", func := "oxbow/oxbowlaw24.TraceStates", spec := "traceStates", inPlace := ["internal/bytealg.abigen_runtime_cmpstring", "slices.overlaps[oxbow/api.Client]"], unfollowed := true, recurses := true, plainKeys := false, apart := false }
def TraceStatesSaid : Prop := traceStatesRow.holds Tryz.pinned (OpenSpec.ofChange traceStatesSpec)

/-- ITS FALSE NEIGHBOUR: 'it returns false'. Refute it at one input. -/
def traceStatesWrong : ChangeSpec := { name := "traceStates", fn := fun _ => fun
  | [d] => { results := [.lit (.bool false)], args := [d] }
  | _ => none }
def TraceStatesWrongFalsely : Prop := traceStatesRow.holds Tryz.pinned (OpenSpec.ofChange traceStatesWrong)

/- THE SECOND FORM. 'bulk': how many values and letters a reading holds, each counted each time it is reached (what is shared counts as often as it is met; a slice's spare places count too). A statement '..UptoSaid' is the law's where the arguments, and the package variables that the reading takes, are together of bulk at most 1048576: NARROWER than '..Said'. Prove '..Said' where nothing that the law and all that it calls make is longer than what came in: it says more and counts as full. Else prove '..UptoSaid'. A law counts once. -/
mutual
def uptoBulk {H : Type} : DataW H → Nat
  | .lit (.string bytes) => bytes.length + 1
  | .lit _ => 1
  | .nil => 1
  | .ptr d => uptoBulk d + 1
  | .slice elems spare => uptoBulkAll elems + uptoBulkAll spare + 1
  | .agg parts => uptoBulkAll parts + 1
  | .iface _ d => uptoBulk d + 1
  | .map entries => uptoBulkEntries entries + 1
  | .held _ => 1
def uptoBulkAll {H : Type} : List (DataW H) → Nat
  | [] => 0
  | d :: r => uptoBulk d + uptoBulkAll r
def uptoBulkEntries {H : Type} : List (Lit × DataW H) → Nat
  | [] => 0
  | x :: r => uptoBulkEntry x + uptoBulkEntries r
def uptoBulkEntry {H : Type} : Lit × DataW H → Nat
  | (.string bytes, d) => bytes.length + uptoBulk d + 1
  | (_, d) => uptoBulk d + 1
 end
def uptoSmall : (H : Type) → List (DataW H) → Bool := fun _ ds => decide (uptoBulkAll ds ≤ 1048576)
def OpenSpec.upto (s : _root_.Go.ChangeSpec) : _root_.Go.OpenSpec := { _root_.Go.OpenSpec.ofChange s with cond := some uptoSmall }

/-- 'oxbowlaw19.StateEven', WHERE WHAT IT READS IS OF BULK AT MOST 1048576: true; the input reads as it did. -/
def stateEvenUptoRow : OpenClaim := { program := "ythjgbmbaabpgmaagreat", sum := "f96741b26f38cde9dfaedb23974e4b70818c54b9069e80135e282b8cee457a04", func := "oxbow/oxbowlaw19.StateEven", spec := "stateEven", inPlace := ["internal/bytealg.abigen_runtime_cmpstring", "slices.overlaps[oxbow/api.Client]"], unfollowed := true, recurses := true, plainKeys := false, apart := false, narrowed := true }
def StateEvenUptoSaid : Prop := stateEvenUptoRow.holds Tryz.pinned (OpenSpec.upto stateEvenSpec)

/-- 'oxbowlaw19.StateTexts', WHERE WHAT IT READS IS OF BULK AT MOST 1048576: true; the input reads as it did. -/
def stateTextsUptoRow : OpenClaim := { program := "ythjgbmbaabpgmaagreat", sum := "f96741b26f38cde9dfaedb23974e4b70818c54b9069e80135e282b8cee457a04", func := "oxbow/oxbowlaw19.StateTexts", spec := "stateTexts", inPlace := ["internal/bytealg.abigen_runtime_cmpstring", "slices.overlaps[oxbow/api.Client]"], unfollowed := true, recurses := true, plainKeys := false, apart := false, narrowed := true }
def StateTextsUptoSaid : Prop := stateTextsUptoRow.holds Tryz.pinned (OpenSpec.upto stateTextsSpec)

/-- 'oxbowlaw19.StateReads', WHERE WHAT IT READS IS OF BULK AT MOST 1048576: true; the input reads as it did. -/
def stateReadsUptoRow : OpenClaim := { program := "ythjgbmbaabpgmaagreat", sum := "f96741b26f38cde9dfaedb23974e4b70818c54b9069e80135e282b8cee457a04", func := "oxbow/oxbowlaw19.StateReads", spec := "stateReads", inPlace := ["internal/bytealg.abigen_runtime_cmpstring", "slices.overlaps[oxbow/api.Client]"], unfollowed := true, recurses := true, plainKeys := false, apart := false, narrowed := true }
def StateReadsUptoSaid : Prop := stateReadsUptoRow.holds Tryz.pinned (OpenSpec.upto stateReadsSpec)

/-- 'oxbowlaw19.StateImports', WHERE WHAT IT READS IS OF BULK AT MOST 1048576: true; the input reads as it did. -/
def stateImportsUptoRow : OpenClaim := { program := "ythjgbmbaabpgmaagreat", sum := "f96741b26f38cde9dfaedb23974e4b70818c54b9069e80135e282b8cee457a04", func := "oxbow/oxbowlaw19.StateImports", spec := "stateImports", inPlace := ["internal/bytealg.abigen_runtime_cmpstring", "slices.overlaps[oxbow/api.Client]"], unfollowed := true, recurses := true, plainKeys := false, apart := false, narrowed := true }
def StateImportsUptoSaid : Prop := stateImportsUptoRow.holds Tryz.pinned (OpenSpec.upto stateImportsSpec)

/-- 'oxbowlaw19.StateLogs', WHERE WHAT IT READS IS OF BULK AT MOST 1048576: true; the input reads as it did. -/
def stateLogsUptoRow : OpenClaim := { program := "ythjgbmbaabpgmaagreat", sum := "f96741b26f38cde9dfaedb23974e4b70818c54b9069e80135e282b8cee457a04", func := "oxbow/oxbowlaw19.StateLogs", spec := "stateLogs", inPlace := ["internal/bytealg.abigen_runtime_cmpstring", "slices.overlaps[oxbow/api.Client]"], unfollowed := true, recurses := true, plainKeys := false, apart := false, narrowed := true }
def StateLogsUptoSaid : Prop := stateLogsUptoRow.holds Tryz.pinned (OpenSpec.upto stateLogsSpec)

/-- 'oxbowlaw21.GcLater', WHERE WHAT IT READS IS OF BULK AT MOST 1048576: true; the input reads as it did. -/
def gcLaterUptoRow : OpenClaim := { program := "ythjgbmbaabpgmaagreat", sum := "f96741b26f38cde9dfaedb23974e4b70818c54b9069e80135e282b8cee457a04", func := "oxbow/oxbowlaw21.GcLater", spec := "gcLater", inPlace := ["internal/bytealg.abigen_runtime_cmpstring", "slices.overlaps[oxbow/api.Client]"], unfollowed := true, recurses := true, plainKeys := false, apart := false, narrowed := true }
def GcLaterUptoSaid : Prop := gcLaterUptoRow.holds Tryz.pinned (OpenSpec.upto gcLaterSpec)

/-- 'oxbowlaw21.GcDocs', WHERE WHAT IT READS IS OF BULK AT MOST 1048576: true; the input reads as it did. -/
def gcDocsUptoRow : OpenClaim := { program := "ythjgbmbaabpgmaagreat", sum := "f96741b26f38cde9dfaedb23974e4b70818c54b9069e80135e282b8cee457a04", func := "oxbow/oxbowlaw21.GcDocs", spec := "gcDocs", inPlace := ["internal/bytealg.abigen_runtime_cmpstring", "slices.overlaps[oxbow/api.Client]"], unfollowed := true, recurses := true, plainKeys := false, apart := false, narrowed := true }
def GcDocsUptoSaid : Prop := gcDocsUptoRow.holds Tryz.pinned (OpenSpec.upto gcDocsSpec)

/-- 'oxbowlaw24.TraceStates', WHERE WHAT IT READS IS OF BULK AT MOST 1048576: true; the input reads as it did. -/
def traceStatesUptoRow : OpenClaim := { program := "ythjgbmbaabpgmaagreat", sum := "f96741b26f38cde9dfaedb23974e4b70818c54b9069e80135e282b8cee457a04", func := "oxbow/oxbowlaw24.TraceStates", spec := "traceStates", inPlace := ["internal/bytealg.abigen_runtime_cmpstring", "slices.overlaps[oxbow/api.Client]"], unfollowed := true, recurses := true, plainKeys := false, apart := false, narrowed := true }
def TraceStatesUptoSaid : Prop := traceStatesUptoRow.holds Tryz.pinned (OpenSpec.upto traceStatesSpec)

end Rows
end Go.Proofs.YthjgbmbaabpgmaaGreat
