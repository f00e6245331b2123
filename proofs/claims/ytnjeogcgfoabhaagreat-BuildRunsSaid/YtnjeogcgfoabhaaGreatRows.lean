/-
  No cell of these rows narrows 'for every input' (looked for: loops, veiled, ifaces, maps, wideKeys, modest, calm, conditions, laid).
  DERIVED. THE GIVEN ROWS OF THIS SEAT. 4 by the template 'for every input the law returns true; each argument reads behind the call as it read before'; 0 by the template 'total and deterministic' (their statements: YtnjeogcgfoabhaaGreatTotals.lean).
  GIVEN WITH THE SEED: the statements are not yours to turn. If you find one false, say at which input.
  Laid BY PROGRAM, IN A SANDBOX (cutbox-rows.mjs): the forced cells as the released guide's own fill.sh prints them over the translation 3417b7dee6a0632c… (all of the seat's roots in one cut). By AI agents, Wed Nov 11 2026. No macro, syntax, notation, axiom, sorry.
-/
import Derived.Test.YtnjeogcgfoabhaaGreatChecked
import GoSem.Claim
import GoSem.ClaimJoined
import GoSem.ClaimMapViews
import Derived.JoinedTies
import Derived.KernelRfl
namespace Go.Proofs.YtnjeogcgfoabhaaGreat
/- THE CELL 'sum', in the pinned program and in every row, IS THE sha256 OF THE DUMP (.gsa) THAT YtnjeogcgfoabhaaGreatProg.lean LOADS. Nothing in Lean hashes anything: it is a label: what it is worth is what the hold of that sum in a sandbox is worth. -/
noncomputable def Tryz.pinned : Pinned := { name := "ytnjeogcgfoabhaagreat", sum := "3417b7dee6a0632c4470a90a2fc5f80c31995260a53f7bc32e3e34d99750f8fa", checked := Tryz.checked }
namespace Rows
def none {H : Type} : Left H := { results := [], args := [] }

/-- 'tephralaw24.BuildClean': WHATEVER THE INPUT: true; the input reads as it did. -/
def buildCleanSpec : ChangeSpec := { name := "buildClean", fn := fun _ => fun
  | [d1, d2, d3] => { results := [.lit (.bool true)], args := [d1, d2, d3] }
  | _ => none }
def buildCleanRow : OpenClaim := { program := "ytnjeogcgfoabhaagreat", sum := "3417b7dee6a0632c4470a90a2fc5f80c31995260a53f7bc32e3e34d99750f8fa", func := "tephra/tephralaw24.BuildClean", spec := "buildClean", unfollowed := true, recurses := true, apart := false }
def BuildCleanSaid : Prop := buildCleanRow.holds Tryz.pinned (OpenSpec.ofChange buildCleanSpec)

/-- ITS FALSE NEIGHBOUR: 'it returns false'. Refute it at one input. -/
def buildCleanWrong : ChangeSpec := { name := "buildClean", fn := fun _ => fun
  | [d1, d2, d3] => { results := [.lit (.bool false)], args := [d1, d2, d3] }
  | _ => none }
def BuildCleanWrongFalsely : Prop := buildCleanRow.holds Tryz.pinned (OpenSpec.ofChange buildCleanWrong)

/-- 'tephralaw24.BuildNeeds': WHATEVER THE INPUT: true; the input reads as it did. -/
def buildNeedsSpec : ChangeSpec := { name := "buildNeeds", fn := fun _ => fun
  | [d1, d2] => { results := [.lit (.bool true)], args := [d1, d2] }
  | _ => none }
def buildNeedsRow : OpenClaim := { program := "ytnjeogcgfoabhaagreat", sum := "3417b7dee6a0632c4470a90a2fc5f80c31995260a53f7bc32e3e34d99750f8fa", func := "tephra/tephralaw24.BuildNeeds", spec := "buildNeeds", unfollowed := true, recurses := true, apart := false }
def BuildNeedsSaid : Prop := buildNeedsRow.holds Tryz.pinned (OpenSpec.ofChange buildNeedsSpec)

/-- ITS FALSE NEIGHBOUR: 'it returns false'. Refute it at one input. -/
def buildNeedsWrong : ChangeSpec := { name := "buildNeeds", fn := fun _ => fun
  | [d1, d2] => { results := [.lit (.bool false)], args := [d1, d2] }
  | _ => none }
def BuildNeedsWrongFalsely : Prop := buildNeedsRow.holds Tryz.pinned (OpenSpec.ofChange buildNeedsWrong)

/-- 'tephralaw24.BuildRefuses': WHATEVER THE INPUT: true; the input reads as it did. -/
def buildRefusesSpec : ChangeSpec := { name := "buildRefuses", fn := fun _ => fun
  | [d1, d2] => { results := [.lit (.bool true)], args := [d1, d2] }
  | _ => none }
def buildRefusesRow : OpenClaim := { program := "ytnjeogcgfoabhaagreat", sum := "3417b7dee6a0632c4470a90a2fc5f80c31995260a53f7bc32e3e34d99750f8fa", func := "tephra/tephralaw24.BuildRefuses", spec := "buildRefuses", unfollowed := true, recurses := true, apart := false }
def BuildRefusesSaid : Prop := buildRefusesRow.holds Tryz.pinned (OpenSpec.ofChange buildRefusesSpec)

/-- ITS FALSE NEIGHBOUR: 'it returns false'. Refute it at one input. -/
def buildRefusesWrong : ChangeSpec := { name := "buildRefuses", fn := fun _ => fun
  | [d1, d2] => { results := [.lit (.bool false)], args := [d1, d2] }
  | _ => none }
def BuildRefusesWrongFalsely : Prop := buildRefusesRow.holds Tryz.pinned (OpenSpec.ofChange buildRefusesWrong)

/-- 'tephralaw24.BuildRuns': WHATEVER THE INPUT: true; the input reads as it did. -/
def buildRunsSpec : ChangeSpec := { name := "buildRuns", fn := fun _ => fun
  | [d1, d2, d3] => { results := [.lit (.bool true)], args := [d1, d2, d3] }
  | _ => none }
def buildRunsRow : OpenClaim := { program := "ytnjeogcgfoabhaagreat", sum := "3417b7dee6a0632c4470a90a2fc5f80c31995260a53f7bc32e3e34d99750f8fa", func := "tephra/tephralaw24.BuildRuns", spec := "buildRuns", unfollowed := true, recurses := true, apart := false }
def BuildRunsSaid : Prop := buildRunsRow.holds Tryz.pinned (OpenSpec.ofChange buildRunsSpec)

/-- ITS FALSE NEIGHBOUR: 'it returns false'. Refute it at one input. -/
def buildRunsWrong : ChangeSpec := { name := "buildRuns", fn := fun _ => fun
  | [d1, d2, d3] => { results := [.lit (.bool false)], args := [d1, d2, d3] }
  | _ => none }
def BuildRunsWrongFalsely : Prop := buildRunsRow.holds Tryz.pinned (OpenSpec.ofChange buildRunsWrong)

/- THE SECOND FORM. 'bulk': how many values and letters a reading holds, each counted each time it is reached (what is shared counts as often as it is met; a slice's spare places count too). A statement '..UptoSaid' is the law's where the arguments, and the package variables that the reading takes, are together of bulk at most 1048576: NARROWER than '..Said'. Prove '..Said' where nothing that the law and all that it calls make is longer than what came in: it says more and counts as full. Else prove '..UptoSaid'. A law counts once. -/
mutual
def uptoBulk {H : Type} : DataW H → Nat
  | .lit (.string bytes) => bytes.length + 1
  | .lit _ => 1
  | .nil => 1
  | .ptr d => uptoBulk d + 1
  | .slice elems spare => uptoBulkAll elems + uptoBulkAll spare + 1
  | .agg parts => uptoBulkAll parts + 1
  | .iface _ d => uptoBulk d + 1
  | .map entries => uptoBulkEntries entries + 1
  | .held _ => 1
def uptoBulkAll {H : Type} : List (DataW H) → Nat
  | [] => 0
  | d :: r => uptoBulk d + uptoBulkAll r
def uptoBulkEntries {H : Type} : List (Lit × DataW H) → Nat
  | [] => 0
  | x :: r => uptoBulkEntry x + uptoBulkEntries r
def uptoBulkEntry {H : Type} : Lit × DataW H → Nat
  | (.string bytes, d) => bytes.length + uptoBulk d + 1
  | (_, d) => uptoBulk d + 1
 end
def uptoSmall : (H : Type) → List (DataW H) → Bool := fun _ ds => decide (uptoBulkAll ds ≤ 1048576)
def OpenSpec.upto (s : _root_.Go.ChangeSpec) : _root_.Go.OpenSpec := { _root_.Go.OpenSpec.ofChange s with cond := some uptoSmall }

/-- 'tephralaw24.BuildClean', WHERE WHAT IT READS IS OF BULK AT MOST 1048576: true; the input reads as it did. -/
def buildCleanUptoRow : OpenClaim := { program := "ytnjeogcgfoabhaagreat", sum := "3417b7dee6a0632c4470a90a2fc5f80c31995260a53f7bc32e3e34d99750f8fa", func := "tephra/tephralaw24.BuildClean", spec := "buildClean", unfollowed := true, recurses := true, apart := false, narrowed := true }
def BuildCleanUptoSaid : Prop := buildCleanUptoRow.holds Tryz.pinned (OpenSpec.upto buildCleanSpec)

/-- 'tephralaw24.BuildNeeds', WHERE WHAT IT READS IS OF BULK AT MOST 1048576: true; the input reads as it did. -/
def buildNeedsUptoRow : OpenClaim := { program := "ytnjeogcgfoabhaagreat", sum := "3417b7dee6a0632c4470a90a2fc5f80c31995260a53f7bc32e3e34d99750f8fa", func := "tephra/tephralaw24.BuildNeeds", spec := "buildNeeds", unfollowed := true, recurses := true, apart := false, narrowed := true }
def BuildNeedsUptoSaid : Prop := buildNeedsUptoRow.holds Tryz.pinned (OpenSpec.upto buildNeedsSpec)

/-- 'tephralaw24.BuildRefuses', WHERE WHAT IT READS IS OF BULK AT MOST 1048576: true; the input reads as it did. -/
def buildRefusesUptoRow : OpenClaim := { program := "ytnjeogcgfoabhaagreat", sum := "3417b7dee6a0632c4470a90a2fc5f80c31995260a53f7bc32e3e34d99750f8fa", func := "tephra/tephralaw24.BuildRefuses", spec := "buildRefuses", unfollowed := true, recurses := true, apart := false, narrowed := true }
def BuildRefusesUptoSaid : Prop := buildRefusesUptoRow.holds Tryz.pinned (OpenSpec.upto buildRefusesSpec)

/-- 'tephralaw24.BuildRuns', WHERE WHAT IT READS IS OF BULK AT MOST 1048576: true; the input reads as it did. -/
def buildRunsUptoRow : OpenClaim := { program := "ytnjeogcgfoabhaagreat", sum := "3417b7dee6a0632c4470a90a2fc5f80c31995260a53f7bc32e3e34d99750f8fa", func := "tephra/tephralaw24.BuildRuns", spec := "buildRuns", unfollowed := true, recurses := true, apart := false, narrowed := true }
def BuildRunsUptoSaid : Prop := buildRunsUptoRow.holds Tryz.pinned (OpenSpec.upto buildRunsSpec)

end Rows
end Go.Proofs.YtnjeogcgfoabhaaGreat
