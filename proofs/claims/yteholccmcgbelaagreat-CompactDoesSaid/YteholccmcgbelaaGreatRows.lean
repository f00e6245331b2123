/-
  No cell of these rows narrows 'for every input' (looked for: loops, veiled, ifaces, maps, wideKeys, modest, calm, conditions, laid).
  DERIVED. THE GIVEN ROWS OF THIS SEAT. 5 by the template 'for every input the law returns true; each argument reads behind the call as it read before'; 0 by the template 'total and deterministic' (their statements: YteholccmcgbelaaGreatTotals.lean).
  GIVEN WITH THE SEED: the statements are not yours to turn. If you find one false, say at which input.
  Laid BY PROGRAM, IN A SANDBOX (cutbox-rows.mjs): the forced cells as the released guide's own fill.sh prints them over the translation 8bceb8c3a5a13a7e… (all of the seat's roots in one cut). By AI agents, Wed Nov 11 2026. No macro, syntax, notation, axiom, sorry.
-/
import Derived.Test.YteholccmcgbelaaGreatChecked
import GoSem.Claim
import GoSem.ClaimJoined
import GoSem.ClaimMapViews
import Derived.JoinedTies
import Derived.KernelRfl
namespace Go.Proofs.YteholccmcgbelaaGreat
/- THE CELL 'sum', in the pinned program and in every row, IS THE sha256 OF THE DUMP (.gsa) THAT YteholccmcgbelaaGreatProg.lean LOADS. Nothing in Lean hashes anything: it is a label: what it is worth is what the hold of that sum in a sandbox is worth. -/
noncomputable def Tryz.pinned : Pinned := { name := "yteholccmcgbelaagreat", sum := "8bceb8c3a5a13a7ec8e2cf7d10c353b4b1973d77a88193906dfc345aba83b988", checked := Tryz.checked }
namespace Rows
def none {H : Type} : Left H := { results := [], args := [] }

/-- 'tephralaw16.CompactDoes': WHATEVER THE INPUT: true; the input reads as it did. -/
def compactDoesSpec : ChangeSpec := { name := "compactDoes", fn := fun _ => fun
  | [d1, d2, d3] => { results := [.lit (.bool true)], args := [d1, d2, d3] }
  | _ => none }
def compactDoesRow : OpenClaim := { program := "yteholccmcgbelaagreat", sum := "8bceb8c3a5a13a7ec8e2cf7d10c353b4b1973d77a88193906dfc345aba83b988", func := "tephra/tephralaw16.CompactDoes", spec := "compactDoes", unfollowed := true, recurses := true, apart := false }
def CompactDoesSaid : Prop := compactDoesRow.holds Tryz.pinned (OpenSpec.ofChange compactDoesSpec)

/-- ITS FALSE NEIGHBOUR: 'it returns false'. Refute it at one input. -/
def compactDoesWrong : ChangeSpec := { name := "compactDoes", fn := fun _ => fun
  | [d1, d2, d3] => { results := [.lit (.bool false)], args := [d1, d2, d3] }
  | _ => none }
def CompactDoesWrongFalsely : Prop := compactDoesRow.holds Tryz.pinned (OpenSpec.ofChange compactDoesWrong)

/-- 'tephralaw15.StoreKept': WHATEVER THE INPUT: true; the input reads as it did. -/
def storeKeptSpec : ChangeSpec := { name := "storeKept", fn := fun _ => fun
  | [d1, d2, d3] => { results := [.lit (.bool true)], args := [d1, d2, d3] }
  | _ => none }
def storeKeptRow : OpenClaim := { program := "yteholccmcgbelaagreat", sum := "8bceb8c3a5a13a7ec8e2cf7d10c353b4b1973d77a88193906dfc345aba83b988", func := "tephra/tephralaw15.StoreKept", spec := "storeKept", unfollowed := true, recurses := true, apart := false }
def StoreKeptSaid : Prop := storeKeptRow.holds Tryz.pinned (OpenSpec.ofChange storeKeptSpec)

/-- ITS FALSE NEIGHBOUR: 'it returns false'. Refute it at one input. -/
def storeKeptWrong : ChangeSpec := { name := "storeKept", fn := fun _ => fun
  | [d1, d2, d3] => { results := [.lit (.bool false)], args := [d1, d2, d3] }
  | _ => none }
def StoreKeptWrongFalsely : Prop := storeKeptRow.holds Tryz.pinned (OpenSpec.ofChange storeKeptWrong)

/-- 'tephralaw16.CompactEither': WHATEVER THE INPUT: true; the input reads as it did. -/
def compactEitherSpec : ChangeSpec := { name := "compactEither", fn := fun _ => fun
  | [d1, d2, d3] => { results := [.lit (.bool true)], args := [d1, d2, d3] }
  | _ => none }
def compactEitherRow : OpenClaim := { program := "yteholccmcgbelaagreat", sum := "8bceb8c3a5a13a7ec8e2cf7d10c353b4b1973d77a88193906dfc345aba83b988", func := "tephra/tephralaw16.CompactEither", spec := "compactEither", unfollowed := true, recurses := true, apart := false }
def CompactEitherSaid : Prop := compactEitherRow.holds Tryz.pinned (OpenSpec.ofChange compactEitherSpec)

/-- ITS FALSE NEIGHBOUR: 'it returns false'. Refute it at one input. -/
def compactEitherWrong : ChangeSpec := { name := "compactEither", fn := fun _ => fun
  | [d1, d2, d3] => { results := [.lit (.bool false)], args := [d1, d2, d3] }
  | _ => none }
def CompactEitherWrongFalsely : Prop := compactEitherRow.holds Tryz.pinned (OpenSpec.ofChange compactEitherWrong)

/-- 'tephralaw17.UpgradeSame': WHATEVER THE INPUT: true; the input reads as it did. -/
def upgradeSameSpec : ChangeSpec := { name := "upgradeSame", fn := fun _ => fun
  | [d1, d2, d3] => { results := [.lit (.bool true)], args := [d1, d2, d3] }
  | _ => none }
def upgradeSameRow : OpenClaim := { program := "yteholccmcgbelaagreat", sum := "8bceb8c3a5a13a7ec8e2cf7d10c353b4b1973d77a88193906dfc345aba83b988", func := "tephra/tephralaw17.UpgradeSame", spec := "upgradeSame", unfollowed := true, recurses := true, apart := false }
def UpgradeSameSaid : Prop := upgradeSameRow.holds Tryz.pinned (OpenSpec.ofChange upgradeSameSpec)

/-- ITS FALSE NEIGHBOUR: 'it returns false'. Refute it at one input. -/
def upgradeSameWrong : ChangeSpec := { name := "upgradeSame", fn := fun _ => fun
  | [d1, d2, d3] => { results := [.lit (.bool false)], args := [d1, d2, d3] }
  | _ => none }
def UpgradeSameWrongFalsely : Prop := upgradeSameRow.holds Tryz.pinned (OpenSpec.ofChange upgradeSameWrong)

/-- 'tephralaw17.UpgradeEither': WHATEVER THE INPUT: true; the input reads as it did. -/
def upgradeEitherSpec : ChangeSpec := { name := "upgradeEither", fn := fun _ => fun
  | [d1, d2, d3] => { results := [.lit (.bool true)], args := [d1, d2, d3] }
  | _ => none }
def upgradeEitherRow : OpenClaim := { program := "yteholccmcgbelaagreat", sum := "8bceb8c3a5a13a7ec8e2cf7d10c353b4b1973d77a88193906dfc345aba83b988", func := "tephra/tephralaw17.UpgradeEither", spec := "upgradeEither", unfollowed := true, recurses := true, apart := false }
def UpgradeEitherSaid : Prop := upgradeEitherRow.holds Tryz.pinned (OpenSpec.ofChange upgradeEitherSpec)

/-- ITS FALSE NEIGHBOUR: 'it returns false'. Refute it at one input. -/
def upgradeEitherWrong : ChangeSpec := { name := "upgradeEither", fn := fun _ => fun
  | [d1, d2, d3] => { results := [.lit (.bool false)], args := [d1, d2, d3] }
  | _ => none }
def UpgradeEitherWrongFalsely : Prop := upgradeEitherRow.holds Tryz.pinned (OpenSpec.ofChange upgradeEitherWrong)

/- THE SECOND FORM. 'bulk': how many values and letters a reading holds, each counted each time it is reached (what is shared counts as often as it is met; a slice's spare places count too). A statement '..UptoSaid' is the law's where the arguments, and the package variables that the reading takes, are together of bulk at most 1048576: NARROWER than '..Said'. Prove '..Said' where nothing that the law and all that it calls make is longer than what came in: it says more and counts as full. Else prove '..UptoSaid'. A law counts once. -/
mutual
def uptoBulk {H : Type} : DataW H → Nat
  | .lit (.string bytes) => bytes.length + 1
  | .lit _ => 1
  | .nil => 1
  | .ptr d => uptoBulk d + 1
  | .slice elems spare => uptoBulkAll elems + uptoBulkAll spare + 1
  | .agg parts => uptoBulkAll parts + 1
  | .iface _ d => uptoBulk d + 1
  | .map entries => uptoBulkEntries entries + 1
  | .held _ => 1
def uptoBulkAll {H : Type} : List (DataW H) → Nat
  | [] => 0
  | d :: r => uptoBulk d + uptoBulkAll r
def uptoBulkEntries {H : Type} : List (Lit × DataW H) → Nat
  | [] => 0
  | x :: r => uptoBulkEntry x + uptoBulkEntries r
def uptoBulkEntry {H : Type} : Lit × DataW H → Nat
  | (.string bytes, d) => bytes.length + uptoBulk d + 1
  | (_, d) => uptoBulk d + 1
 end
def uptoSmall : (H : Type) → List (DataW H) → Bool := fun _ ds => decide (uptoBulkAll ds ≤ 1048576)
def OpenSpec.upto (s : _root_.Go.ChangeSpec) : _root_.Go.OpenSpec := { _root_.Go.OpenSpec.ofChange s with cond := some uptoSmall }

/-- 'tephralaw16.CompactDoes', WHERE WHAT IT READS IS OF BULK AT MOST 1048576: true; the input reads as it did. -/
def compactDoesUptoRow : OpenClaim := { program := "yteholccmcgbelaagreat", sum := "8bceb8c3a5a13a7ec8e2cf7d10c353b4b1973d77a88193906dfc345aba83b988", func := "tephra/tephralaw16.CompactDoes", spec := "compactDoes", unfollowed := true, recurses := true, apart := false, narrowed := true }
def CompactDoesUptoSaid : Prop := compactDoesUptoRow.holds Tryz.pinned (OpenSpec.upto compactDoesSpec)

/-- 'tephralaw15.StoreKept', WHERE WHAT IT READS IS OF BULK AT MOST 1048576: true; the input reads as it did. -/
def storeKeptUptoRow : OpenClaim := { program := "yteholccmcgbelaagreat", sum := "8bceb8c3a5a13a7ec8e2cf7d10c353b4b1973d77a88193906dfc345aba83b988", func := "tephra/tephralaw15.StoreKept", spec := "storeKept", unfollowed := true, recurses := true, apart := false, narrowed := true }
def StoreKeptUptoSaid : Prop := storeKeptUptoRow.holds Tryz.pinned (OpenSpec.upto storeKeptSpec)

/-- 'tephralaw16.CompactEither', WHERE WHAT IT READS IS OF BULK AT MOST 1048576: true; the input reads as it did. -/
def compactEitherUptoRow : OpenClaim := { program := "yteholccmcgbelaagreat", sum := "8bceb8c3a5a13a7ec8e2cf7d10c353b4b1973d77a88193906dfc345aba83b988", func := "tephra/tephralaw16.CompactEither", spec := "compactEither", unfollowed := true, recurses := true, apart := false, narrowed := true }
def CompactEitherUptoSaid : Prop := compactEitherUptoRow.holds Tryz.pinned (OpenSpec.upto compactEitherSpec)

/-- 'tephralaw17.UpgradeSame', WHERE WHAT IT READS IS OF BULK AT MOST 1048576: true; the input reads as it did. -/
def upgradeSameUptoRow : OpenClaim := { program := "yteholccmcgbelaagreat", sum := "8bceb8c3a5a13a7ec8e2cf7d10c353b4b1973d77a88193906dfc345aba83b988", func := "tephra/tephralaw17.UpgradeSame", spec := "upgradeSame", unfollowed := true, recurses := true, apart := false, narrowed := true }
def UpgradeSameUptoSaid : Prop := upgradeSameUptoRow.holds Tryz.pinned (OpenSpec.upto upgradeSameSpec)

/-- 'tephralaw17.UpgradeEither', WHERE WHAT IT READS IS OF BULK AT MOST 1048576: true; the input reads as it did. -/
def upgradeEitherUptoRow : OpenClaim := { program := "yteholccmcgbelaagreat", sum := "8bceb8c3a5a13a7ec8e2cf7d10c353b4b1973d77a88193906dfc345aba83b988", func := "tephra/tephralaw17.UpgradeEither", spec := "upgradeEither", unfollowed := true, recurses := true, apart := false, narrowed := true }
def UpgradeEitherUptoSaid : Prop := upgradeEitherUptoRow.holds Tryz.pinned (OpenSpec.upto upgradeEitherSpec)

end Rows
end Go.Proofs.YteholccmcgbelaaGreat
