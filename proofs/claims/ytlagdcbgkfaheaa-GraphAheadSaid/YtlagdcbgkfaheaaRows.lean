/-
  No cell of these rows narrows 'for every input' (looked for: loops, veiled, ifaces, maps, wideKeys, modest, calm, conditions, laid).
  DERIVED. THE GIVEN ROWS OF THIS SEAT. 12 by the template 'for every input the law returns true; each argument reads behind the call as it read before'; 0 by the template 'total and deterministic' (their statements: YtlagdcbgkfaheaaTotals.lean).
  GIVEN WITH THE SEED: the statements are not yours to turn. If you find one false, say at which input.
  Laid BY PROGRAM, IN A SANDBOX (cutbox-rows.mjs): the forced cells as the released guide's own fill.sh prints them over the translation c83421628f44ee2f… (all of the seat's roots in one cut). By AI agents, Wed Nov 11 2026. No macro, syntax, notation, axiom, sorry.
-/
import Derived.Test.YtlagdcbgkfaheaaChecked
import GoSem.Claim
import GoSem.ClaimJoined
import GoSem.ClaimMapViews
import Derived.JoinedTies
import Derived.KernelRfl
namespace Go.Proofs.Ytlagdcbgkfaheaa
/- THE CELL 'sum', in the pinned program and in every row, IS THE sha256 OF THE DUMP (.gsa) THAT YtlagdcbgkfaheaaProg.lean LOADS. Nothing in Lean hashes anything: it is a label: what it is worth is what the hold of that sum in a sandbox is worth. -/
noncomputable def Try.pinned : Pinned := { name := "ytlagdcbgkfaheaa", sum := "c83421628f44ee2fa52e99dc986a61b2acb11114504521d32200e7c30aa126d5", checked := Try.checked }
namespace Rows
def none {H : Type} : Left H := { results := [], args := [] }

/-- 'tephralaw05.DigestApart': WHATEVER THE INPUT: true; the input reads as it did. -/
def digestApartSpec : ChangeSpec := { name := "digestApart", fn := fun _ => fun
  | [d1, d2, d3] => { results := [.lit (.bool true)], args := [d1, d2, d3] }
  | _ => none }
def digestApartRow : OpenClaim := { program := "ytlagdcbgkfaheaa", sum := "c83421628f44ee2fa52e99dc986a61b2acb11114504521d32200e7c30aa126d5", func := "tephra/tephralaw05.DigestApart", spec := "digestApart", unfollowed := true, recurses := true, apart := false }
def DigestApartSaid : Prop := digestApartRow.holds Try.pinned (OpenSpec.ofChange digestApartSpec)

/-- ITS FALSE NEIGHBOUR: 'it returns false'. Refute it at one input. -/
def digestApartWrong : ChangeSpec := { name := "digestApart", fn := fun _ => fun
  | [d1, d2, d3] => { results := [.lit (.bool false)], args := [d1, d2, d3] }
  | _ => none }
def DigestApartWrongFalsely : Prop := digestApartRow.holds Try.pinned (OpenSpec.ofChange digestApartWrong)

/-- 'tephralaw05.DigestOf': WHATEVER THE INPUT: true; the input reads as it did. -/
def digestOfSpec : ChangeSpec := { name := "digestOf", fn := fun _ => fun
  | [d] => { results := [.lit (.bool true)], args := [d] }
  | _ => none }
def digestOfRow : OpenClaim := { program := "ytlagdcbgkfaheaa", sum := "c83421628f44ee2fa52e99dc986a61b2acb11114504521d32200e7c30aa126d5", func := "tephra/tephralaw05.DigestOf", spec := "digestOf", unfollowed := true, recurses := true, apart := false }
def DigestOfSaid : Prop := digestOfRow.holds Try.pinned (OpenSpec.ofChange digestOfSpec)

/-- ITS FALSE NEIGHBOUR: 'it returns false'. Refute it at one input. -/
def digestOfWrong : ChangeSpec := { name := "digestOf", fn := fun _ => fun
  | [d] => { results := [.lit (.bool false)], args := [d] }
  | _ => none }
def DigestOfWrongFalsely : Prop := digestOfRow.holds Try.pinned (OpenSpec.ofChange digestOfWrong)

/-- 'tephralaw05.DigestFolds': WHATEVER THE INPUT: true; the input reads as it did. -/
def digestFoldsSpec : ChangeSpec := { name := "digestFolds", fn := fun _ => fun
  | [d1, d2, d3] => { results := [.lit (.bool true)], args := [d1, d2, d3] }
  | _ => none }
def digestFoldsRow : OpenClaim := { program := "ytlagdcbgkfaheaa", sum := "c83421628f44ee2fa52e99dc986a61b2acb11114504521d32200e7c30aa126d5", func := "tephra/tephralaw05.DigestFolds", spec := "digestFolds", unfollowed := true, recurses := true, apart := false }
def DigestFoldsSaid : Prop := digestFoldsRow.holds Try.pinned (OpenSpec.ofChange digestFoldsSpec)

/-- ITS FALSE NEIGHBOUR: 'it returns false'. Refute it at one input. -/
def digestFoldsWrong : ChangeSpec := { name := "digestFolds", fn := fun _ => fun
  | [d1, d2, d3] => { results := [.lit (.bool false)], args := [d1, d2, d3] }
  | _ => none }
def DigestFoldsWrongFalsely : Prop := digestFoldsRow.holds Try.pinned (OpenSpec.ofChange digestFoldsWrong)

/-- 'tephralaw05.DigestHex': WHATEVER THE INPUT: true; the input reads as it did. -/
def digestHexSpec : ChangeSpec := { name := "digestHex", fn := fun _ => fun
  | [d1, d2] => { results := [.lit (.bool true)], args := [d1, d2] }
  | _ => none }
def digestHexRow : OpenClaim := { program := "ytlagdcbgkfaheaa", sum := "c83421628f44ee2fa52e99dc986a61b2acb11114504521d32200e7c30aa126d5", func := "tephra/tephralaw05.DigestHex", spec := "digestHex", inPlace := ["internal/bytealg.IndexByteString"], unfollowed := true, recurses := true, apart := false }
def DigestHexSaid : Prop := digestHexRow.holds Try.pinned (OpenSpec.ofChange digestHexSpec)

/-- ITS FALSE NEIGHBOUR: 'it returns false'. Refute it at one input. -/
def digestHexWrong : ChangeSpec := { name := "digestHex", fn := fun _ => fun
  | [d1, d2] => { results := [.lit (.bool false)], args := [d1, d2] }
  | _ => none }
def DigestHexWrongFalsely : Prop := digestHexRow.holds Try.pinned (OpenSpec.ofChange digestHexWrong)

/-- 'tephralaw18.EscapePuts': WHATEVER THE INPUT: true; the input reads as it did. -/
def escapePutsSpec : ChangeSpec := { name := "escapePuts", fn := fun _ => fun
  | [d] => { results := [.lit (.bool true)], args := [d] }
  | _ => none }
def escapePutsRow : OpenClaim := { program := "ytlagdcbgkfaheaa", sum := "c83421628f44ee2fa52e99dc986a61b2acb11114504521d32200e7c30aa126d5", func := "tephra/tephralaw18.EscapePuts", spec := "escapePuts", inPlace := ["internal/abi.NoEscape", "internal/bytealg.IndexByteString"], unfollowed := true, recurses := true, apart := false }
def EscapePutsSaid : Prop := escapePutsRow.holds Try.pinned (OpenSpec.ofChange escapePutsSpec)

/-- ITS FALSE NEIGHBOUR: 'it returns false'. Refute it at one input. -/
def escapePutsWrong : ChangeSpec := { name := "escapePuts", fn := fun _ => fun
  | [d] => { results := [.lit (.bool false)], args := [d] }
  | _ => none }
def EscapePutsWrongFalsely : Prop := escapePutsRow.holds Try.pinned (OpenSpec.ofChange escapePutsWrong)

/-- 'tephralaw18.EscapeGets': WHATEVER THE INPUT: true; the input reads as it did. -/
def escapeGetsSpec : ChangeSpec := { name := "escapeGets", fn := fun _ => fun
  | [d] => { results := [.lit (.bool true)], args := [d] }
  | _ => none }
def escapeGetsRow : OpenClaim := { program := "ytlagdcbgkfaheaa", sum := "c83421628f44ee2fa52e99dc986a61b2acb11114504521d32200e7c30aa126d5", func := "tephra/tephralaw18.EscapeGets", spec := "escapeGets", inPlace := ["internal/abi.NoEscape", "internal/bytealg.IndexByteString"], unfollowed := true, recurses := true, apart := false }
def EscapeGetsSaid : Prop := escapeGetsRow.holds Try.pinned (OpenSpec.ofChange escapeGetsSpec)

/-- ITS FALSE NEIGHBOUR: 'it returns false'. Refute it at one input. -/
def escapeGetsWrong : ChangeSpec := { name := "escapeGets", fn := fun _ => fun
  | [d] => { results := [.lit (.bool false)], args := [d] }
  | _ => none }
def EscapeGetsWrongFalsely : Prop := escapeGetsRow.holds Try.pinned (OpenSpec.ofChange escapeGetsWrong)

/-- 'tephralaw23.DirtyWhy': WHATEVER THE INPUT: true; the input reads as it did. -/
def dirtyWhySpec : ChangeSpec := { name := "dirtyWhy", fn := fun _ => fun
  | [d1, d2, d3] => { results := [.lit (.bool true)], args := [d1, d2, d3] }
  | _ => none }
def dirtyWhyRow : OpenClaim := { program := "ytlagdcbgkfaheaa", sum := "c83421628f44ee2fa52e99dc986a61b2acb11114504521d32200e7c30aa126d5", func := "tephra/tephralaw23.DirtyWhy", spec := "dirtyWhy", unfollowed := true, recurses := true, apart := false }
def DirtyWhySaid : Prop := dirtyWhyRow.holds Try.pinned (OpenSpec.ofChange dirtyWhySpec)

/-- ITS FALSE NEIGHBOUR: 'it returns false'. Refute it at one input. -/
def dirtyWhyWrong : ChangeSpec := { name := "dirtyWhy", fn := fun _ => fun
  | [d1, d2, d3] => { results := [.lit (.bool false)], args := [d1, d2, d3] }
  | _ => none }
def DirtyWhyWrongFalsely : Prop := dirtyWhyRow.holds Try.pinned (OpenSpec.ofChange dirtyWhyWrong)

/-- 'tephralaw23.DirtyTraces': WHATEVER THE INPUT: true; the input reads as it did. -/
def dirtyTracesSpec : ChangeSpec := { name := "dirtyTraces", fn := fun _ => fun
  | [d1, d2, d3] => { results := [.lit (.bool true)], args := [d1, d2, d3] }
  | _ => none }
def dirtyTracesRow : OpenClaim := { program := "ytlagdcbgkfaheaa", sum := "c83421628f44ee2fa52e99dc986a61b2acb11114504521d32200e7c30aa126d5", func := "tephra/tephralaw23.DirtyTraces", spec := "dirtyTraces", unfollowed := true, recurses := true, apart := false }
def DirtyTracesSaid : Prop := dirtyTracesRow.holds Try.pinned (OpenSpec.ofChange dirtyTracesSpec)

/-- ITS FALSE NEIGHBOUR: 'it returns false'. Refute it at one input. -/
def dirtyTracesWrong : ChangeSpec := { name := "dirtyTraces", fn := fun _ => fun
  | [d1, d2, d3] => { results := [.lit (.bool false)], args := [d1, d2, d3] }
  | _ => none }
def DirtyTracesWrongFalsely : Prop := dirtyTracesRow.holds Try.pinned (OpenSpec.ofChange dirtyTracesWrong)

/-- 'tephralaw21.GraphChecks': WHATEVER THE INPUT: true; the input reads as it did. -/
def graphChecksSpec : ChangeSpec := { name := "graphChecks", fn := fun _ => fun
  | [d] => { results := [.lit (.bool true)], args := [d] }
  | _ => none }
def graphChecksRow : OpenClaim := { program := "ytlagdcbgkfaheaa", sum := "c83421628f44ee2fa52e99dc986a61b2acb11114504521d32200e7c30aa126d5", func := "tephra/tephralaw21.GraphChecks", spec := "graphChecks", unfollowed := true, recurses := true, apart := false }
def GraphChecksSaid : Prop := graphChecksRow.holds Try.pinned (OpenSpec.ofChange graphChecksSpec)

/-- ITS FALSE NEIGHBOUR: 'it returns false'. Refute it at one input. -/
def graphChecksWrong : ChangeSpec := { name := "graphChecks", fn := fun _ => fun
  | [d] => { results := [.lit (.bool false)], args := [d] }
  | _ => none }
def GraphChecksWrongFalsely : Prop := graphChecksRow.holds Try.pinned (OpenSpec.ofChange graphChecksWrong)

/-- 'tephralaw21.GraphAhead': WHATEVER THE INPUT: true; the input reads as it did. -/
def graphAheadSpec : ChangeSpec := { name := "graphAhead", fn := fun _ => fun
  | [d1, d2] => { results := [.lit (.bool true)], args := [d1, d2] }
  | _ => none }
def graphAheadRow : OpenClaim := { program := "ytlagdcbgkfaheaa", sum := "c83421628f44ee2fa52e99dc986a61b2acb11114504521d32200e7c30aa126d5", func := "tephra/tephralaw21.GraphAhead", spec := "graphAhead", unfollowed := true, recurses := true, apart := false }
def GraphAheadSaid : Prop := graphAheadRow.holds Try.pinned (OpenSpec.ofChange graphAheadSpec)

/-- ITS FALSE NEIGHBOUR: 'it returns false'. Refute it at one input. -/
def graphAheadWrong : ChangeSpec := { name := "graphAhead", fn := fun _ => fun
  | [d1, d2] => { results := [.lit (.bool false)], args := [d1, d2] }
  | _ => none }
def GraphAheadWrongFalsely : Prop := graphAheadRow.holds Try.pinned (OpenSpec.ofChange graphAheadWrong)

/-- 'tephralaw22.RuleCleans': WHATEVER THE INPUT: true; the input reads as it did. -/
def ruleCleansSpec : ChangeSpec := { name := "ruleCleans", fn := fun _ => fun
  | [d1, d2] => { results := [.lit (.bool true)], args := [d1, d2] }
  | _ => none }
def ruleCleansRow : OpenClaim := { program := "ytlagdcbgkfaheaa", sum := "c83421628f44ee2fa52e99dc986a61b2acb11114504521d32200e7c30aa126d5", func := "tephra/tephralaw22.RuleCleans", spec := "ruleCleans", unfollowed := true, recurses := true, apart := false }
def RuleCleansSaid : Prop := ruleCleansRow.holds Try.pinned (OpenSpec.ofChange ruleCleansSpec)

/-- ITS FALSE NEIGHBOUR: 'it returns false'. Refute it at one input. -/
def ruleCleansWrong : ChangeSpec := { name := "ruleCleans", fn := fun _ => fun
  | [d1, d2] => { results := [.lit (.bool false)], args := [d1, d2] }
  | _ => none }
def RuleCleansWrongFalsely : Prop := ruleCleansRow.holds Try.pinned (OpenSpec.ofChange ruleCleansWrong)

/-- 'tephralaw22.RuleRuns': WHATEVER THE INPUT: true; the input reads as it did. -/
def ruleRunsSpec : ChangeSpec := { name := "ruleRuns", fn := fun _ => fun
  | [d1, d2, d3] => { results := [.lit (.bool true)], args := [d1, d2, d3] }
  | _ => none }
def ruleRunsRow : OpenClaim := { program := "ytlagdcbgkfaheaa", sum := "c83421628f44ee2fa52e99dc986a61b2acb11114504521d32200e7c30aa126d5", func := "tephra/tephralaw22.RuleRuns", spec := "ruleRuns", unfollowed := true, recurses := true, apart := false }
def RuleRunsSaid : Prop := ruleRunsRow.holds Try.pinned (OpenSpec.ofChange ruleRunsSpec)

/-- ITS FALSE NEIGHBOUR: 'it returns false'. Refute it at one input. -/
def ruleRunsWrong : ChangeSpec := { name := "ruleRuns", fn := fun _ => fun
  | [d1, d2, d3] => { results := [.lit (.bool false)], args := [d1, d2, d3] }
  | _ => none }
def RuleRunsWrongFalsely : Prop := ruleRunsRow.holds Try.pinned (OpenSpec.ofChange ruleRunsWrong)

/- THE SECOND FORM. 'bulk': how many values and letters a reading holds, each counted each time it is reached (what is shared counts as often as it is met; a slice's spare places count too). A statement '..UptoSaid' is the law's where the arguments, and the package variables that the reading takes, are together of bulk at most 1048576: NARROWER than '..Said'. Prove '..Said' where nothing that the law and all that it calls make is longer than what came in: it says more and counts as full. Else prove '..UptoSaid'. A law counts once. -/
mutual
def uptoBulk {H : Type} : DataW H → Nat
  | .lit (.string bytes) => bytes.length + 1
  | .lit _ => 1
  | .nil => 1
  | .ptr d => uptoBulk d + 1
  | .slice elems spare => uptoBulkAll elems + uptoBulkAll spare + 1
  | .agg parts => uptoBulkAll parts + 1
  | .iface _ d => uptoBulk d + 1
  | .map entries => uptoBulkEntries entries + 1
  | .held _ => 1
def uptoBulkAll {H : Type} : List (DataW H) → Nat
  | [] => 0
  | d :: r => uptoBulk d + uptoBulkAll r
def uptoBulkEntries {H : Type} : List (Lit × DataW H) → Nat
  | [] => 0
  | x :: r => uptoBulkEntry x + uptoBulkEntries r
def uptoBulkEntry {H : Type} : Lit × DataW H → Nat
  | (.string bytes, d) => bytes.length + uptoBulk d + 1
  | (_, d) => uptoBulk d + 1
 end
def uptoSmall : (H : Type) → List (DataW H) → Bool := fun _ ds => decide (uptoBulkAll ds ≤ 1048576)
def OpenSpec.upto (s : _root_.Go.ChangeSpec) : _root_.Go.OpenSpec := { _root_.Go.OpenSpec.ofChange s with cond := some uptoSmall }

/-- 'tephralaw05.DigestApart', WHERE WHAT IT READS IS OF BULK AT MOST 1048576: true; the input reads as it did. -/
def digestApartUptoRow : OpenClaim := { program := "ytlagdcbgkfaheaa", sum := "c83421628f44ee2fa52e99dc986a61b2acb11114504521d32200e7c30aa126d5", func := "tephra/tephralaw05.DigestApart", spec := "digestApart", unfollowed := true, recurses := true, apart := false, narrowed := true }
def DigestApartUptoSaid : Prop := digestApartUptoRow.holds Try.pinned (OpenSpec.upto digestApartSpec)

/-- 'tephralaw05.DigestOf', WHERE WHAT IT READS IS OF BULK AT MOST 1048576: true; the input reads as it did. -/
def digestOfUptoRow : OpenClaim := { program := "ytlagdcbgkfaheaa", sum := "c83421628f44ee2fa52e99dc986a61b2acb11114504521d32200e7c30aa126d5", func := "tephra/tephralaw05.DigestOf", spec := "digestOf", unfollowed := true, recurses := true, apart := false, narrowed := true }
def DigestOfUptoSaid : Prop := digestOfUptoRow.holds Try.pinned (OpenSpec.upto digestOfSpec)

/-- 'tephralaw05.DigestFolds', WHERE WHAT IT READS IS OF BULK AT MOST 1048576: true; the input reads as it did. -/
def digestFoldsUptoRow : OpenClaim := { program := "ytlagdcbgkfaheaa", sum := "c83421628f44ee2fa52e99dc986a61b2acb11114504521d32200e7c30aa126d5", func := "tephra/tephralaw05.DigestFolds", spec := "digestFolds", unfollowed := true, recurses := true, apart := false, narrowed := true }
def DigestFoldsUptoSaid : Prop := digestFoldsUptoRow.holds Try.pinned (OpenSpec.upto digestFoldsSpec)

/-- 'tephralaw05.DigestHex', WHERE WHAT IT READS IS OF BULK AT MOST 1048576: true; the input reads as it did. -/
def digestHexUptoRow : OpenClaim := { program := "ytlagdcbgkfaheaa", sum := "c83421628f44ee2fa52e99dc986a61b2acb11114504521d32200e7c30aa126d5", func := "tephra/tephralaw05.DigestHex", spec := "digestHex", inPlace := ["internal/bytealg.IndexByteString"], unfollowed := true, recurses := true, apart := false, narrowed := true }
def DigestHexUptoSaid : Prop := digestHexUptoRow.holds Try.pinned (OpenSpec.upto digestHexSpec)

/-- 'tephralaw18.EscapePuts', WHERE WHAT IT READS IS OF BULK AT MOST 1048576: true; the input reads as it did. -/
def escapePutsUptoRow : OpenClaim := { program := "ytlagdcbgkfaheaa", sum := "c83421628f44ee2fa52e99dc986a61b2acb11114504521d32200e7c30aa126d5", func := "tephra/tephralaw18.EscapePuts", spec := "escapePuts", inPlace := ["internal/abi.NoEscape", "internal/bytealg.IndexByteString"], unfollowed := true, recurses := true, apart := false, narrowed := true }
def EscapePutsUptoSaid : Prop := escapePutsUptoRow.holds Try.pinned (OpenSpec.upto escapePutsSpec)

/-- 'tephralaw18.EscapeGets', WHERE WHAT IT READS IS OF BULK AT MOST 1048576: true; the input reads as it did. -/
def escapeGetsUptoRow : OpenClaim := { program := "ytlagdcbgkfaheaa", sum := "c83421628f44ee2fa52e99dc986a61b2acb11114504521d32200e7c30aa126d5", func := "tephra/tephralaw18.EscapeGets", spec := "escapeGets", inPlace := ["internal/abi.NoEscape", "internal/bytealg.IndexByteString"], unfollowed := true, recurses := true, apart := false, narrowed := true }
def EscapeGetsUptoSaid : Prop := escapeGetsUptoRow.holds Try.pinned (OpenSpec.upto escapeGetsSpec)

/-- 'tephralaw23.DirtyWhy', WHERE WHAT IT READS IS OF BULK AT MOST 1048576: true; the input reads as it did. -/
def dirtyWhyUptoRow : OpenClaim := { program := "ytlagdcbgkfaheaa", sum := "c83421628f44ee2fa52e99dc986a61b2acb11114504521d32200e7c30aa126d5", func := "tephra/tephralaw23.DirtyWhy", spec := "dirtyWhy", unfollowed := true, recurses := true, apart := false, narrowed := true }
def DirtyWhyUptoSaid : Prop := dirtyWhyUptoRow.holds Try.pinned (OpenSpec.upto dirtyWhySpec)

/-- 'tephralaw23.DirtyTraces', WHERE WHAT IT READS IS OF BULK AT MOST 1048576: true; the input reads as it did. -/
def dirtyTracesUptoRow : OpenClaim := { program := "ytlagdcbgkfaheaa", sum := "c83421628f44ee2fa52e99dc986a61b2acb11114504521d32200e7c30aa126d5", func := "tephra/tephralaw23.DirtyTraces", spec := "dirtyTraces", unfollowed := true, recurses := true, apart := false, narrowed := true }
def DirtyTracesUptoSaid : Prop := dirtyTracesUptoRow.holds Try.pinned (OpenSpec.upto dirtyTracesSpec)

/-- 'tephralaw21.GraphChecks', WHERE WHAT IT READS IS OF BULK AT MOST 1048576: true; the input reads as it did. -/
def graphChecksUptoRow : OpenClaim := { program := "ytlagdcbgkfaheaa", sum := "c83421628f44ee2fa52e99dc986a61b2acb11114504521d32200e7c30aa126d5", func := "tephra/tephralaw21.GraphChecks", spec := "graphChecks", unfollowed := true, recurses := true, apart := false, narrowed := true }
def GraphChecksUptoSaid : Prop := graphChecksUptoRow.holds Try.pinned (OpenSpec.upto graphChecksSpec)

/-- 'tephralaw21.GraphAhead', WHERE WHAT IT READS IS OF BULK AT MOST 1048576: true; the input reads as it did. -/
def graphAheadUptoRow : OpenClaim := { program := "ytlagdcbgkfaheaa", sum := "c83421628f44ee2fa52e99dc986a61b2acb11114504521d32200e7c30aa126d5", func := "tephra/tephralaw21.GraphAhead", spec := "graphAhead", unfollowed := true, recurses := true, apart := false, narrowed := true }
def GraphAheadUptoSaid : Prop := graphAheadUptoRow.holds Try.pinned (OpenSpec.upto graphAheadSpec)

/-- 'tephralaw22.RuleCleans', WHERE WHAT IT READS IS OF BULK AT MOST 1048576: true; the input reads as it did. -/
def ruleCleansUptoRow : OpenClaim := { program := "ytlagdcbgkfaheaa", sum := "c83421628f44ee2fa52e99dc986a61b2acb11114504521d32200e7c30aa126d5", func := "tephra/tephralaw22.RuleCleans", spec := "ruleCleans", unfollowed := true, recurses := true, apart := false, narrowed := true }
def RuleCleansUptoSaid : Prop := ruleCleansUptoRow.holds Try.pinned (OpenSpec.upto ruleCleansSpec)

/-- 'tephralaw22.RuleRuns', WHERE WHAT IT READS IS OF BULK AT MOST 1048576: true; the input reads as it did. -/
def ruleRunsUptoRow : OpenClaim := { program := "ytlagdcbgkfaheaa", sum := "c83421628f44ee2fa52e99dc986a61b2acb11114504521d32200e7c30aa126d5", func := "tephra/tephralaw22.RuleRuns", spec := "ruleRuns", unfollowed := true, recurses := true, apart := false, narrowed := true }
def RuleRunsUptoSaid : Prop := ruleRunsUptoRow.holds Try.pinned (OpenSpec.upto ruleRunsSpec)

end Rows
end Go.Proofs.Ytlagdcbgkfaheaa
