/-
  No cell of these rows narrows 'for every input' (looked for: loops, veiled, ifaces, maps, wideKeys, modest, calm, conditions, laid).
  DERIVED. THE GIVEN ROWS OF THIS SEAT. 10 by the template 'for every input the law returns true; each argument reads behind the call as it read before'; 0 by the template 'total and deterministic' (their statements: YtnifkinpogopkaaTotals.lean).
  GIVEN WITH THE SEED: the statements are not yours to turn. If you find one false, say at which input.
  Laid BY PROGRAM, IN A SANDBOX (cutbox-rows.mjs): the forced cells as the released guide's own fill.sh prints them over the translation 2466ca5dd3bdc7f8… (all of the seat's roots in one cut). By AI agents, Wed Nov 11 2026. No macro, syntax, notation, axiom, sorry.
-/
import Derived.Test.YtnifkinpogopkaaChecked
import GoSem.Claim
import GoSem.ClaimJoined
import GoSem.ClaimMapViews
import Derived.JoinedTies
import Derived.KernelRfl
namespace Go.Proofs.Ytnifkinpogopkaa
/- THE CELL 'sum', in the pinned program and in every row, IS THE sha256 OF THE DUMP (.gsa) THAT YtnifkinpogopkaaProg.lean LOADS. Nothing in Lean hashes anything: it is a label: what it is worth is what the hold of that sum in a sandbox is worth. -/
noncomputable def Try.pinned : Pinned := { name := "ytnifkinpogopkaa", sum := "2466ca5dd3bdc7f8b9700acca7446e418d751679868f8cfd662eadb37dc32730", checked := Try.checked }
namespace Rows
def none {H : Type} : Left H := { results := [], args := [] }

/-- 'tephralaw16.CompactRecords': WHATEVER THE INPUT: true; the input reads as it did. -/
def compactRecordsSpec : ChangeSpec := { name := "compactRecords", fn := fun _ => fun
  | [d] => { results := [.lit (.bool true)], args := [d] }
  | _ => none }
def compactRecordsRow : OpenClaim := { program := "ytnifkinpogopkaa", sum := "2466ca5dd3bdc7f8b9700acca7446e418d751679868f8cfd662eadb37dc32730", func := "tephra/tephralaw16.CompactRecords", spec := "compactRecords", recurses := true, apart := false }
def CompactRecordsSaid : Prop := compactRecordsRow.holds Try.pinned (OpenSpec.ofChange compactRecordsSpec)

/-- ITS FALSE NEIGHBOUR: 'it returns false'. Refute it at one input. -/
def compactRecordsWrong : ChangeSpec := { name := "compactRecords", fn := fun _ => fun
  | [d] => { results := [.lit (.bool false)], args := [d] }
  | _ => none }
def CompactRecordsWrongFalsely : Prop := compactRecordsRow.holds Try.pinned (OpenSpec.ofChange compactRecordsWrong)

/-- 'tephralaw12.FoldOf': WHATEVER THE INPUT: true; the input reads as it did. -/
def foldOfSpec : ChangeSpec := { name := "foldOf", fn := fun _ => fun
  | [d1, d2] => { results := [.lit (.bool true)], args := [d1, d2] }
  | _ => none }
def foldOfRow : OpenClaim := { program := "ytnifkinpogopkaa", sum := "2466ca5dd3bdc7f8b9700acca7446e418d751679868f8cfd662eadb37dc32730", func := "tephra/tephralaw12.FoldOf", spec := "foldOf", recurses := true, apart := false }
def FoldOfSaid : Prop := foldOfRow.holds Try.pinned (OpenSpec.ofChange foldOfSpec)

/-- ITS FALSE NEIGHBOUR: 'it returns false'. Refute it at one input. -/
def foldOfWrong : ChangeSpec := { name := "foldOf", fn := fun _ => fun
  | [d1, d2] => { results := [.lit (.bool false)], args := [d1, d2] }
  | _ => none }
def FoldOfWrongFalsely : Prop := foldOfRow.holds Try.pinned (OpenSpec.ofChange foldOfWrong)

/-- 'tephralaw12.FoldParts': WHATEVER THE INPUT: true; the input reads as it did. -/
def foldPartsSpec : ChangeSpec := { name := "foldParts", fn := fun _ => fun
  | [d1, d2] => { results := [.lit (.bool true)], args := [d1, d2] }
  | _ => none }
def foldPartsRow : OpenClaim := { program := "ytnifkinpogopkaa", sum := "2466ca5dd3bdc7f8b9700acca7446e418d751679868f8cfd662eadb37dc32730", func := "tephra/tephralaw12.FoldParts", spec := "foldParts", unfollowed := true, recurses := true, apart := false }
def FoldPartsSaid : Prop := foldPartsRow.holds Try.pinned (OpenSpec.ofChange foldPartsSpec)

/-- ITS FALSE NEIGHBOUR: 'it returns false'. Refute it at one input. -/
def foldPartsWrong : ChangeSpec := { name := "foldParts", fn := fun _ => fun
  | [d1, d2] => { results := [.lit (.bool false)], args := [d1, d2] }
  | _ => none }
def FoldPartsWrongFalsely : Prop := foldPartsRow.holds Try.pinned (OpenSpec.ofChange foldPartsWrong)

/-- 'tephralaw12.FoldFinds': WHATEVER THE INPUT: true; the input reads as it did. -/
def foldFindsSpec : ChangeSpec := { name := "foldFinds", fn := fun _ => fun
  | [d1, d2, d3] => { results := [.lit (.bool true)], args := [d1, d2, d3] }
  | _ => none }
def foldFindsRow : OpenClaim := { program := "ytnifkinpogopkaa", sum := "2466ca5dd3bdc7f8b9700acca7446e418d751679868f8cfd662eadb37dc32730", func := "tephra/tephralaw12.FoldFinds", spec := "foldFinds", unfollowed := true, recurses := true, apart := false }
def FoldFindsSaid : Prop := foldFindsRow.holds Try.pinned (OpenSpec.ofChange foldFindsSpec)

/-- ITS FALSE NEIGHBOUR: 'it returns false'. Refute it at one input. -/
def foldFindsWrong : ChangeSpec := { name := "foldFinds", fn := fun _ => fun
  | [d1, d2, d3] => { results := [.lit (.bool false)], args := [d1, d2, d3] }
  | _ => none }
def FoldFindsWrongFalsely : Prop := foldFindsRow.holds Try.pinned (OpenSpec.ofChange foldFindsWrong)

/-- 'tephralaw23.DirtyClean': WHATEVER THE INPUT: true; the input reads as it did. -/
def dirtyCleanSpec : ChangeSpec := { name := "dirtyClean", fn := fun _ => fun
  | [d1, d2, d3] => { results := [.lit (.bool true)], args := [d1, d2, d3] }
  | _ => none }
def dirtyCleanRow : OpenClaim := { program := "ytnifkinpogopkaa", sum := "2466ca5dd3bdc7f8b9700acca7446e418d751679868f8cfd662eadb37dc32730", func := "tephra/tephralaw23.DirtyClean", spec := "dirtyClean", unfollowed := true, recurses := true, apart := false }
def DirtyCleanSaid : Prop := dirtyCleanRow.holds Try.pinned (OpenSpec.ofChange dirtyCleanSpec)

/-- ITS FALSE NEIGHBOUR: 'it returns false'. Refute it at one input. -/
def dirtyCleanWrong : ChangeSpec := { name := "dirtyClean", fn := fun _ => fun
  | [d1, d2, d3] => { results := [.lit (.bool false)], args := [d1, d2, d3] }
  | _ => none }
def DirtyCleanWrongFalsely : Prop := dirtyCleanRow.holds Try.pinned (OpenSpec.ofChange dirtyCleanWrong)

/-- 'tephralaw25.CrewWaves': WHATEVER THE INPUT: true; the input reads as it did. -/
def crewWavesSpec : ChangeSpec := { name := "crewWaves", fn := fun _ => fun
  | [d] => { results := [.lit (.bool true)], args := [d] }
  | _ => none }
def crewWavesRow : OpenClaim := { program := "ytnifkinpogopkaa", sum := "2466ca5dd3bdc7f8b9700acca7446e418d751679868f8cfd662eadb37dc32730", func := "tephra/tephralaw25.CrewWaves", spec := "crewWaves", unfollowed := true, recurses := true, apart := false }
def CrewWavesSaid : Prop := crewWavesRow.holds Try.pinned (OpenSpec.ofChange crewWavesSpec)

/-- ITS FALSE NEIGHBOUR: 'it returns false'. Refute it at one input. -/
def crewWavesWrong : ChangeSpec := { name := "crewWaves", fn := fun _ => fun
  | [d] => { results := [.lit (.bool false)], args := [d] }
  | _ => none }
def CrewWavesWrongFalsely : Prop := crewWavesRow.holds Try.pinned (OpenSpec.ofChange crewWavesWrong)

/-- 'tephralaw12.FoldMoves': WHATEVER THE INPUT: true; the input reads as it did. -/
def foldMovesSpec : ChangeSpec := { name := "foldMoves", fn := fun _ => fun
  | [d1, d2] => { results := [.lit (.bool true)], args := [d1, d2] }
  | _ => none }
def foldMovesRow : OpenClaim := { program := "ytnifkinpogopkaa", sum := "2466ca5dd3bdc7f8b9700acca7446e418d751679868f8cfd662eadb37dc32730", func := "tephra/tephralaw12.FoldMoves", spec := "foldMoves", unfollowed := true, recurses := true, apart := false }
def FoldMovesSaid : Prop := foldMovesRow.holds Try.pinned (OpenSpec.ofChange foldMovesSpec)

/-- ITS FALSE NEIGHBOUR: 'it returns false'. Refute it at one input. -/
def foldMovesWrong : ChangeSpec := { name := "foldMoves", fn := fun _ => fun
  | [d1, d2] => { results := [.lit (.bool false)], args := [d1, d2] }
  | _ => none }
def FoldMovesWrongFalsely : Prop := foldMovesRow.holds Try.pinned (OpenSpec.ofChange foldMovesWrong)

/-- 'tephralaw21.GraphAbove': WHATEVER THE INPUT: true; the input reads as it did. -/
def graphAboveSpec : ChangeSpec := { name := "graphAbove", fn := fun _ => fun
  | [d1, d2] => { results := [.lit (.bool true)], args := [d1, d2] }
  | _ => none }
def graphAboveRow : OpenClaim := { program := "ytnifkinpogopkaa", sum := "2466ca5dd3bdc7f8b9700acca7446e418d751679868f8cfd662eadb37dc32730", func := "tephra/tephralaw21.GraphAbove", spec := "graphAbove", unfollowed := true, recurses := true, apart := false }
def GraphAboveSaid : Prop := graphAboveRow.holds Try.pinned (OpenSpec.ofChange graphAboveSpec)

/-- ITS FALSE NEIGHBOUR: 'it returns false'. Refute it at one input. -/
def graphAboveWrong : ChangeSpec := { name := "graphAbove", fn := fun _ => fun
  | [d1, d2] => { results := [.lit (.bool false)], args := [d1, d2] }
  | _ => none }
def GraphAboveWrongFalsely : Prop := graphAboveRow.holds Try.pinned (OpenSpec.ofChange graphAboveWrong)

/-- 'tephralaw21.GraphCycle': WHATEVER THE INPUT: true; the input reads as it did. -/
def graphCycleSpec : ChangeSpec := { name := "graphCycle", fn := fun _ => fun
  | [d] => { results := [.lit (.bool true)], args := [d] }
  | _ => none }
def graphCycleRow : OpenClaim := { program := "ytnifkinpogopkaa", sum := "2466ca5dd3bdc7f8b9700acca7446e418d751679868f8cfd662eadb37dc32730", func := "tephra/tephralaw21.GraphCycle", spec := "graphCycle", unfollowed := true, recurses := true, apart := false }
def GraphCycleSaid : Prop := graphCycleRow.holds Try.pinned (OpenSpec.ofChange graphCycleSpec)

/-- ITS FALSE NEIGHBOUR: 'it returns false'. Refute it at one input. -/
def graphCycleWrong : ChangeSpec := { name := "graphCycle", fn := fun _ => fun
  | [d] => { results := [.lit (.bool false)], args := [d] }
  | _ => none }
def GraphCycleWrongFalsely : Prop := graphCycleRow.holds Try.pinned (OpenSpec.ofChange graphCycleWrong)

/-- 'tephralaw22.RuleOnly': WHATEVER THE INPUT: true; the input reads as it did. -/
def ruleOnlySpec : ChangeSpec := { name := "ruleOnly", fn := fun _ => fun
  | [d1, d2, d3] => { results := [.lit (.bool true)], args := [d1, d2, d3] }
  | _ => none }
def ruleOnlyRow : OpenClaim := { program := "ytnifkinpogopkaa", sum := "2466ca5dd3bdc7f8b9700acca7446e418d751679868f8cfd662eadb37dc32730", func := "tephra/tephralaw22.RuleOnly", spec := "ruleOnly", unfollowed := true, recurses := true, apart := false }
def RuleOnlySaid : Prop := ruleOnlyRow.holds Try.pinned (OpenSpec.ofChange ruleOnlySpec)

/-- ITS FALSE NEIGHBOUR: 'it returns false'. Refute it at one input. -/
def ruleOnlyWrong : ChangeSpec := { name := "ruleOnly", fn := fun _ => fun
  | [d1, d2, d3] => { results := [.lit (.bool false)], args := [d1, d2, d3] }
  | _ => none }
def RuleOnlyWrongFalsely : Prop := ruleOnlyRow.holds Try.pinned (OpenSpec.ofChange ruleOnlyWrong)

/- THE SECOND FORM. 'bulk': how many values and letters a reading holds, each counted each time it is reached (what is shared counts as often as it is met; a slice's spare places count too). A statement '..UptoSaid' is the law's where the arguments, and the package variables that the reading takes, are together of bulk at most 1048576: NARROWER than '..Said'. Prove '..Said' where nothing that the law and all that it calls make is longer than what came in: it says more and counts as full. Else prove '..UptoSaid'. A law counts once. -/
mutual
def uptoBulk {H : Type} : DataW H → Nat
  | .lit (.string bytes) => bytes.length + 1
  | .lit _ => 1
  | .nil => 1
  | .ptr d => uptoBulk d + 1
  | .slice elems spare => uptoBulkAll elems + uptoBulkAll spare + 1
  | .agg parts => uptoBulkAll parts + 1
  | .iface _ d => uptoBulk d + 1
  | .map entries => uptoBulkEntries entries + 1
  | .held _ => 1
def uptoBulkAll {H : Type} : List (DataW H) → Nat
  | [] => 0
  | d :: r => uptoBulk d + uptoBulkAll r
def uptoBulkEntries {H : Type} : List (Lit × DataW H) → Nat
  | [] => 0
  | x :: r => uptoBulkEntry x + uptoBulkEntries r
def uptoBulkEntry {H : Type} : Lit × DataW H → Nat
  | (.string bytes, d) => bytes.length + uptoBulk d + 1
  | (_, d) => uptoBulk d + 1
 end
def uptoSmall : (H : Type) → List (DataW H) → Bool := fun _ ds => decide (uptoBulkAll ds ≤ 1048576)
def OpenSpec.upto (s : _root_.Go.ChangeSpec) : _root_.Go.OpenSpec := { _root_.Go.OpenSpec.ofChange s with cond := some uptoSmall }

/-- 'tephralaw16.CompactRecords', WHERE WHAT IT READS IS OF BULK AT MOST 1048576: true; the input reads as it did. -/
def compactRecordsUptoRow : OpenClaim := { program := "ytnifkinpogopkaa", sum := "2466ca5dd3bdc7f8b9700acca7446e418d751679868f8cfd662eadb37dc32730", func := "tephra/tephralaw16.CompactRecords", spec := "compactRecords", recurses := true, apart := false, narrowed := true }
def CompactRecordsUptoSaid : Prop := compactRecordsUptoRow.holds Try.pinned (OpenSpec.upto compactRecordsSpec)

/-- 'tephralaw12.FoldOf', WHERE WHAT IT READS IS OF BULK AT MOST 1048576: true; the input reads as it did. -/
def foldOfUptoRow : OpenClaim := { program := "ytnifkinpogopkaa", sum := "2466ca5dd3bdc7f8b9700acca7446e418d751679868f8cfd662eadb37dc32730", func := "tephra/tephralaw12.FoldOf", spec := "foldOf", recurses := true, apart := false, narrowed := true }
def FoldOfUptoSaid : Prop := foldOfUptoRow.holds Try.pinned (OpenSpec.upto foldOfSpec)

/-- 'tephralaw12.FoldParts', WHERE WHAT IT READS IS OF BULK AT MOST 1048576: true; the input reads as it did. -/
def foldPartsUptoRow : OpenClaim := { program := "ytnifkinpogopkaa", sum := "2466ca5dd3bdc7f8b9700acca7446e418d751679868f8cfd662eadb37dc32730", func := "tephra/tephralaw12.FoldParts", spec := "foldParts", unfollowed := true, recurses := true, apart := false, narrowed := true }
def FoldPartsUptoSaid : Prop := foldPartsUptoRow.holds Try.pinned (OpenSpec.upto foldPartsSpec)

/-- 'tephralaw12.FoldFinds', WHERE WHAT IT READS IS OF BULK AT MOST 1048576: true; the input reads as it did. -/
def foldFindsUptoRow : OpenClaim := { program := "ytnifkinpogopkaa", sum := "2466ca5dd3bdc7f8b9700acca7446e418d751679868f8cfd662eadb37dc32730", func := "tephra/tephralaw12.FoldFinds", spec := "foldFinds", unfollowed := true, recurses := true, apart := false, narrowed := true }
def FoldFindsUptoSaid : Prop := foldFindsUptoRow.holds Try.pinned (OpenSpec.upto foldFindsSpec)

/-- 'tephralaw23.DirtyClean', WHERE WHAT IT READS IS OF BULK AT MOST 1048576: true; the input reads as it did. -/
def dirtyCleanUptoRow : OpenClaim := { program := "ytnifkinpogopkaa", sum := "2466ca5dd3bdc7f8b9700acca7446e418d751679868f8cfd662eadb37dc32730", func := "tephra/tephralaw23.DirtyClean", spec := "dirtyClean", unfollowed := true, recurses := true, apart := false, narrowed := true }
def DirtyCleanUptoSaid : Prop := dirtyCleanUptoRow.holds Try.pinned (OpenSpec.upto dirtyCleanSpec)

/-- 'tephralaw25.CrewWaves', WHERE WHAT IT READS IS OF BULK AT MOST 1048576: true; the input reads as it did. -/
def crewWavesUptoRow : OpenClaim := { program := "ytnifkinpogopkaa", sum := "2466ca5dd3bdc7f8b9700acca7446e418d751679868f8cfd662eadb37dc32730", func := "tephra/tephralaw25.CrewWaves", spec := "crewWaves", unfollowed := true, recurses := true, apart := false, narrowed := true }
def CrewWavesUptoSaid : Prop := crewWavesUptoRow.holds Try.pinned (OpenSpec.upto crewWavesSpec)

/-- 'tephralaw12.FoldMoves', WHERE WHAT IT READS IS OF BULK AT MOST 1048576: true; the input reads as it did. -/
def foldMovesUptoRow : OpenClaim := { program := "ytnifkinpogopkaa", sum := "2466ca5dd3bdc7f8b9700acca7446e418d751679868f8cfd662eadb37dc32730", func := "tephra/tephralaw12.FoldMoves", spec := "foldMoves", unfollowed := true, recurses := true, apart := false, narrowed := true }
def FoldMovesUptoSaid : Prop := foldMovesUptoRow.holds Try.pinned (OpenSpec.upto foldMovesSpec)

/-- 'tephralaw21.GraphAbove', WHERE WHAT IT READS IS OF BULK AT MOST 1048576: true; the input reads as it did. -/
def graphAboveUptoRow : OpenClaim := { program := "ytnifkinpogopkaa", sum := "2466ca5dd3bdc7f8b9700acca7446e418d751679868f8cfd662eadb37dc32730", func := "tephra/tephralaw21.GraphAbove", spec := "graphAbove", unfollowed := true, recurses := true, apart := false, narrowed := true }
def GraphAboveUptoSaid : Prop := graphAboveUptoRow.holds Try.pinned (OpenSpec.upto graphAboveSpec)

/-- 'tephralaw21.GraphCycle', WHERE WHAT IT READS IS OF BULK AT MOST 1048576: true; the input reads as it did. -/
def graphCycleUptoRow : OpenClaim := { program := "ytnifkinpogopkaa", sum := "2466ca5dd3bdc7f8b9700acca7446e418d751679868f8cfd662eadb37dc32730", func := "tephra/tephralaw21.GraphCycle", spec := "graphCycle", unfollowed := true, recurses := true, apart := false, narrowed := true }
def GraphCycleUptoSaid : Prop := graphCycleUptoRow.holds Try.pinned (OpenSpec.upto graphCycleSpec)

/-- 'tephralaw22.RuleOnly', WHERE WHAT IT READS IS OF BULK AT MOST 1048576: true; the input reads as it did. -/
def ruleOnlyUptoRow : OpenClaim := { program := "ytnifkinpogopkaa", sum := "2466ca5dd3bdc7f8b9700acca7446e418d751679868f8cfd662eadb37dc32730", func := "tephra/tephralaw22.RuleOnly", spec := "ruleOnly", unfollowed := true, recurses := true, apart := false, narrowed := true }
def RuleOnlyUptoSaid : Prop := ruleOnlyUptoRow.holds Try.pinned (OpenSpec.upto ruleOnlySpec)

end Rows
end Go.Proofs.Ytnifkinpogopkaa
