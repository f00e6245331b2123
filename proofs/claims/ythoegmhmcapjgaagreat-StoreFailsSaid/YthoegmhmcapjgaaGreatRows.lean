/-
  No cell of these rows narrows 'for every input' (looked for: loops, veiled, ifaces, maps, wideKeys, modest, calm, conditions, laid).
  DERIVED. THE GIVEN ROWS OF THIS SEAT. 9 by the template 'for every input the law returns true; each argument reads behind the call as it read before'; 0 by the template 'total and deterministic' (their statements: YthoegmhmcapjgaaGreatTotals.lean).
  GIVEN WITH THE SEED: the statements are not yours to turn. If you find one false, say at which input.
  Laid BY PROGRAM, IN A SANDBOX (cutbox-rows.mjs): the forced cells as the released guide's own fill.sh prints them over the translation 0f443807a9162de9… (all of the seat's roots in one cut). By AI agents, Wed Nov 11 2026. No macro, syntax, notation, axiom, sorry.
-/
import Derived.Test.YthoegmhmcapjgaaGreatChecked
import GoSem.Claim
import GoSem.ClaimJoined
import GoSem.ClaimMapViews
import Derived.JoinedTies
import Derived.KernelRfl
namespace Go.Proofs.YthoegmhmcapjgaaGreat
/- THE CELL 'sum', in the pinned program and in every row, IS THE sha256 OF THE DUMP (.gsa) THAT YthoegmhmcapjgaaGreatProg.lean LOADS. Nothing in Lean hashes anything: it is a label: what it is worth is what the hold of that sum in a sandbox is worth. -/
noncomputable def Tryz.pinned : Pinned := { name := "ythoegmhmcapjgaagreat", sum := "0f443807a9162de9a6575da029633cff96794fe43d1cebf645d5d9d698fb3f67", checked := Tryz.checked }
namespace Rows
def none {H : Type} : Left H := { results := [], args := [] }

/-- 'tephralaw14.JournalStart': WHATEVER THE INPUT: true; the input reads as it did. -/
def journalStartSpec : ChangeSpec := { name := "journalStart", fn := fun _ => fun
  | [d1, d2, d3] => { results := [.lit (.bool true)], args := [d1, d2, d3] }
  | _ => none }
def journalStartRow : OpenClaim := { program := "ythoegmhmcapjgaagreat", sum := "0f443807a9162de9a6575da029633cff96794fe43d1cebf645d5d9d698fb3f67", func := "tephra/tephralaw14.JournalStart", spec := "journalStart", unfollowed := true, recurses := true, apart := false }
def JournalStartSaid : Prop := journalStartRow.holds Tryz.pinned (OpenSpec.ofChange journalStartSpec)

/-- ITS FALSE NEIGHBOUR: 'it returns false'. Refute it at one input. -/
def journalStartWrong : ChangeSpec := { name := "journalStart", fn := fun _ => fun
  | [d1, d2, d3] => { results := [.lit (.bool false)], args := [d1, d2, d3] }
  | _ => none }
def JournalStartWrongFalsely : Prop := journalStartRow.holds Tryz.pinned (OpenSpec.ofChange journalStartWrong)

/-- 'tephralaw14.JournalNil': WHATEVER THE INPUT: true; the input reads as it did. -/
def journalNilSpec : ChangeSpec := { name := "journalNil", fn := fun _ => fun
  | [d1, d2] => { results := [.lit (.bool true)], args := [d1, d2] }
  | _ => none }
def journalNilRow : OpenClaim := { program := "ythoegmhmcapjgaagreat", sum := "0f443807a9162de9a6575da029633cff96794fe43d1cebf645d5d9d698fb3f67", func := "tephra/tephralaw14.JournalNil", spec := "journalNil", unfollowed := true, recurses := true, apart := false }
def JournalNilSaid : Prop := journalNilRow.holds Tryz.pinned (OpenSpec.ofChange journalNilSpec)

/-- ITS FALSE NEIGHBOUR: 'it returns false'. Refute it at one input. -/
def journalNilWrong : ChangeSpec := { name := "journalNil", fn := fun _ => fun
  | [d1, d2] => { results := [.lit (.bool false)], args := [d1, d2] }
  | _ => none }
def JournalNilWrongFalsely : Prop := journalNilRow.holds Tryz.pinned (OpenSpec.ofChange journalNilWrong)

/-- 'tephralaw14.JournalAppends': WHATEVER THE INPUT: true; the input reads as it did. -/
def journalAppendsSpec : ChangeSpec := { name := "journalAppends", fn := fun _ => fun
  | [d1, d2, d3] => { results := [.lit (.bool true)], args := [d1, d2, d3] }
  | _ => none }
def journalAppendsRow : OpenClaim := { program := "ythoegmhmcapjgaagreat", sum := "0f443807a9162de9a6575da029633cff96794fe43d1cebf645d5d9d698fb3f67", func := "tephra/tephralaw14.JournalAppends", spec := "journalAppends", unfollowed := true, recurses := true, apart := false }
def JournalAppendsSaid : Prop := journalAppendsRow.holds Tryz.pinned (OpenSpec.ofChange journalAppendsSpec)

/-- ITS FALSE NEIGHBOUR: 'it returns false'. Refute it at one input. -/
def journalAppendsWrong : ChangeSpec := { name := "journalAppends", fn := fun _ => fun
  | [d1, d2, d3] => { results := [.lit (.bool false)], args := [d1, d2, d3] }
  | _ => none }
def JournalAppendsWrongFalsely : Prop := journalAppendsRow.holds Tryz.pinned (OpenSpec.ofChange journalAppendsWrong)

/-- 'tephralaw15.StoreFails': WHATEVER THE INPUT: true; the input reads as it did. -/
def storeFailsSpec : ChangeSpec := { name := "storeFails", fn := fun _ => fun
  | [d1, d2, d3] => { results := [.lit (.bool true)], args := [d1, d2, d3] }
  | _ => none }
def storeFailsRow : OpenClaim := { program := "ythoegmhmcapjgaagreat", sum := "0f443807a9162de9a6575da029633cff96794fe43d1cebf645d5d9d698fb3f67", func := "tephra/tephralaw15.StoreFails", spec := "storeFails", unfollowed := true, recurses := true, apart := false }
def StoreFailsSaid : Prop := storeFailsRow.holds Tryz.pinned (OpenSpec.ofChange storeFailsSpec)

/-- ITS FALSE NEIGHBOUR: 'it returns false'. Refute it at one input. -/
def storeFailsWrong : ChangeSpec := { name := "storeFails", fn := fun _ => fun
  | [d1, d2, d3] => { results := [.lit (.bool false)], args := [d1, d2, d3] }
  | _ => none }
def StoreFailsWrongFalsely : Prop := storeFailsRow.holds Tryz.pinned (OpenSpec.ofChange storeFailsWrong)

/-- 'tephralaw16.CompactDoes': WHATEVER THE INPUT: true; the input reads as it did. -/
def compactDoesSpec : ChangeSpec := { name := "compactDoes", fn := fun _ => fun
  | [d1, d2, d3] => { results := [.lit (.bool true)], args := [d1, d2, d3] }
  | _ => none }
def compactDoesRow : OpenClaim := { program := "ythoegmhmcapjgaagreat", sum := "0f443807a9162de9a6575da029633cff96794fe43d1cebf645d5d9d698fb3f67", func := "tephra/tephralaw16.CompactDoes", spec := "compactDoes", unfollowed := true, recurses := true, apart := false }
def CompactDoesSaid : Prop := compactDoesRow.holds Tryz.pinned (OpenSpec.ofChange compactDoesSpec)

/-- ITS FALSE NEIGHBOUR: 'it returns false'. Refute it at one input. -/
def compactDoesWrong : ChangeSpec := { name := "compactDoes", fn := fun _ => fun
  | [d1, d2, d3] => { results := [.lit (.bool false)], args := [d1, d2, d3] }
  | _ => none }
def CompactDoesWrongFalsely : Prop := compactDoesRow.holds Tryz.pinned (OpenSpec.ofChange compactDoesWrong)

/-- 'tephralaw15.StoreKept': WHATEVER THE INPUT: true; the input reads as it did. -/
def storeKeptSpec : ChangeSpec := { name := "storeKept", fn := fun _ => fun
  | [d1, d2, d3] => { results := [.lit (.bool true)], args := [d1, d2, d3] }
  | _ => none }
def storeKeptRow : OpenClaim := { program := "ythoegmhmcapjgaagreat", sum := "0f443807a9162de9a6575da029633cff96794fe43d1cebf645d5d9d698fb3f67", func := "tephra/tephralaw15.StoreKept", spec := "storeKept", unfollowed := true, recurses := true, apart := false }
def StoreKeptSaid : Prop := storeKeptRow.holds Tryz.pinned (OpenSpec.ofChange storeKeptSpec)

/-- ITS FALSE NEIGHBOUR: 'it returns false'. Refute it at one input. -/
def storeKeptWrong : ChangeSpec := { name := "storeKept", fn := fun _ => fun
  | [d1, d2, d3] => { results := [.lit (.bool false)], args := [d1, d2, d3] }
  | _ => none }
def StoreKeptWrongFalsely : Prop := storeKeptRow.holds Tryz.pinned (OpenSpec.ofChange storeKeptWrong)

/-- 'tephralaw16.CompactEither': WHATEVER THE INPUT: true; the input reads as it did. -/
def compactEitherSpec : ChangeSpec := { name := "compactEither", fn := fun _ => fun
  | [d1, d2, d3] => { results := [.lit (.bool true)], args := [d1, d2, d3] }
  | _ => none }
def compactEitherRow : OpenClaim := { program := "ythoegmhmcapjgaagreat", sum := "0f443807a9162de9a6575da029633cff96794fe43d1cebf645d5d9d698fb3f67", func := "tephra/tephralaw16.CompactEither", spec := "compactEither", unfollowed := true, recurses := true, apart := false }
def CompactEitherSaid : Prop := compactEitherRow.holds Tryz.pinned (OpenSpec.ofChange compactEitherSpec)

/-- ITS FALSE NEIGHBOUR: 'it returns false'. Refute it at one input. -/
def compactEitherWrong : ChangeSpec := { name := "compactEither", fn := fun _ => fun
  | [d1, d2, d3] => { results := [.lit (.bool false)], args := [d1, d2, d3] }
  | _ => none }
def CompactEitherWrongFalsely : Prop := compactEitherRow.holds Tryz.pinned (OpenSpec.ofChange compactEitherWrong)

/-- 'tephralaw17.UpgradeSame': WHATEVER THE INPUT: true; the input reads as it did. -/
def upgradeSameSpec : ChangeSpec := { name := "upgradeSame", fn := fun _ => fun
  | [d1, d2, d3] => { results := [.lit (.bool true)], args := [d1, d2, d3] }
  | _ => none }
def upgradeSameRow : OpenClaim := { program := "ythoegmhmcapjgaagreat", sum := "0f443807a9162de9a6575da029633cff96794fe43d1cebf645d5d9d698fb3f67", func := "tephra/tephralaw17.UpgradeSame", spec := "upgradeSame", unfollowed := true, recurses := true, apart := false }
def UpgradeSameSaid : Prop := upgradeSameRow.holds Tryz.pinned (OpenSpec.ofChange upgradeSameSpec)

/-- ITS FALSE NEIGHBOUR: 'it returns false'. Refute it at one input. -/
def upgradeSameWrong : ChangeSpec := { name := "upgradeSame", fn := fun _ => fun
  | [d1, d2, d3] => { results := [.lit (.bool false)], args := [d1, d2, d3] }
  | _ => none }
def UpgradeSameWrongFalsely : Prop := upgradeSameRow.holds Tryz.pinned (OpenSpec.ofChange upgradeSameWrong)

/-- 'tephralaw17.UpgradeEither': WHATEVER THE INPUT: true; the input reads as it did. -/
def upgradeEitherSpec : ChangeSpec := { name := "upgradeEither", fn := fun _ => fun
  | [d1, d2, d3] => { results := [.lit (.bool true)], args := [d1, d2, d3] }
  | _ => none }
def upgradeEitherRow : OpenClaim := { program := "ythoegmhmcapjgaagreat", sum := "0f443807a9162de9a6575da029633cff96794fe43d1cebf645d5d9d698fb3f67", func := "tephra/tephralaw17.UpgradeEither", spec := "upgradeEither", unfollowed := true, recurses := true, apart := false }
def UpgradeEitherSaid : Prop := upgradeEitherRow.holds Tryz.pinned (OpenSpec.ofChange upgradeEitherSpec)

/-- ITS FALSE NEIGHBOUR: 'it returns false'. Refute it at one input. -/
def upgradeEitherWrong : ChangeSpec := { name := "upgradeEither", fn := fun _ => fun
  | [d1, d2, d3] => { results := [.lit (.bool false)], args := [d1, d2, d3] }
  | _ => none }
def UpgradeEitherWrongFalsely : Prop := upgradeEitherRow.holds Tryz.pinned (OpenSpec.ofChange upgradeEitherWrong)

/- THE SECOND FORM. 'bulk': how many values and letters a reading holds, each counted each time it is reached (what is shared counts as often as it is met; a slice's spare places count too). A statement '..UptoSaid' is the law's where the arguments, and the package variables that the reading takes, are together of bulk at most 1048576: NARROWER than '..Said'. Prove '..Said' where nothing that the law and all that it calls make is longer than what came in: it says more and counts as full. Else prove '..UptoSaid'. A law counts once. -/
mutual
def uptoBulk {H : Type} : DataW H → Nat
  | .lit (.string bytes) => bytes.length + 1
  | .lit _ => 1
  | .nil => 1
  | .ptr d => uptoBulk d + 1
  | .slice elems spare => uptoBulkAll elems + uptoBulkAll spare + 1
  | .agg parts => uptoBulkAll parts + 1
  | .iface _ d => uptoBulk d + 1
  | .map entries => uptoBulkEntries entries + 1
  | .held _ => 1
def uptoBulkAll {H : Type} : List (DataW H) → Nat
  | [] => 0
  | d :: r => uptoBulk d + uptoBulkAll r
def uptoBulkEntries {H : Type} : List (Lit × DataW H) → Nat
  | [] => 0
  | x :: r => uptoBulkEntry x + uptoBulkEntries r
def uptoBulkEntry {H : Type} : Lit × DataW H → Nat
  | (.string bytes, d) => bytes.length + uptoBulk d + 1
  | (_, d) => uptoBulk d + 1
 end
def uptoSmall : (H : Type) → List (DataW H) → Bool := fun _ ds => decide (uptoBulkAll ds ≤ 1048576)
def OpenSpec.upto (s : _root_.Go.ChangeSpec) : _root_.Go.OpenSpec := { _root_.Go.OpenSpec.ofChange s with cond := some uptoSmall }

/-- 'tephralaw14.JournalStart', WHERE WHAT IT READS IS OF BULK AT MOST 1048576: true; the input reads as it did. -/
def journalStartUptoRow : OpenClaim := { program := "ythoegmhmcapjgaagreat", sum := "0f443807a9162de9a6575da029633cff96794fe43d1cebf645d5d9d698fb3f67", func := "tephra/tephralaw14.JournalStart", spec := "journalStart", unfollowed := true, recurses := true, apart := false, narrowed := true }
def JournalStartUptoSaid : Prop := journalStartUptoRow.holds Tryz.pinned (OpenSpec.upto journalStartSpec)

/-- 'tephralaw14.JournalNil', WHERE WHAT IT READS IS OF BULK AT MOST 1048576: true; the input reads as it did. -/
def journalNilUptoRow : OpenClaim := { program := "ythoegmhmcapjgaagreat", sum := "0f443807a9162de9a6575da029633cff96794fe43d1cebf645d5d9d698fb3f67", func := "tephra/tephralaw14.JournalNil", spec := "journalNil", unfollowed := true, recurses := true, apart := false, narrowed := true }
def JournalNilUptoSaid : Prop := journalNilUptoRow.holds Tryz.pinned (OpenSpec.upto journalNilSpec)

/-- 'tephralaw14.JournalAppends', WHERE WHAT IT READS IS OF BULK AT MOST 1048576: true; the input reads as it did. -/
def journalAppendsUptoRow : OpenClaim := { program := "ythoegmhmcapjgaagreat", sum := "0f443807a9162de9a6575da029633cff96794fe43d1cebf645d5d9d698fb3f67", func := "tephra/tephralaw14.JournalAppends", spec := "journalAppends", unfollowed := true, recurses := true, apart := false, narrowed := true }
def JournalAppendsUptoSaid : Prop := journalAppendsUptoRow.holds Tryz.pinned (OpenSpec.upto journalAppendsSpec)

/-- 'tephralaw15.StoreFails', WHERE WHAT IT READS IS OF BULK AT MOST 1048576: true; the input reads as it did. -/
def storeFailsUptoRow : OpenClaim := { program := "ythoegmhmcapjgaagreat", sum := "0f443807a9162de9a6575da029633cff96794fe43d1cebf645d5d9d698fb3f67", func := "tephra/tephralaw15.StoreFails", spec := "storeFails", unfollowed := true, recurses := true, apart := false, narrowed := true }
def StoreFailsUptoSaid : Prop := storeFailsUptoRow.holds Tryz.pinned (OpenSpec.upto storeFailsSpec)

/-- 'tephralaw16.CompactDoes', WHERE WHAT IT READS IS OF BULK AT MOST 1048576: true; the input reads as it did. -/
def compactDoesUptoRow : OpenClaim := { program := "ythoegmhmcapjgaagreat", sum := "0f443807a9162de9a6575da029633cff96794fe43d1cebf645d5d9d698fb3f67", func := "tephra/tephralaw16.CompactDoes", spec := "compactDoes", unfollowed := true, recurses := true, apart := false, narrowed := true }
def CompactDoesUptoSaid : Prop := compactDoesUptoRow.holds Tryz.pinned (OpenSpec.upto compactDoesSpec)

/-- 'tephralaw15.StoreKept', WHERE WHAT IT READS IS OF BULK AT MOST 1048576: true; the input reads as it did. -/
def storeKeptUptoRow : OpenClaim := { program := "ythoegmhmcapjgaagreat", sum := "0f443807a9162de9a6575da029633cff96794fe43d1cebf645d5d9d698fb3f67", func := "tephra/tephralaw15.StoreKept", spec := "storeKept", unfollowed := true, recurses := true, apart := false, narrowed := true }
def StoreKeptUptoSaid : Prop := storeKeptUptoRow.holds Tryz.pinned (OpenSpec.upto storeKeptSpec)

/-- 'tephralaw16.CompactEither', WHERE WHAT IT READS IS OF BULK AT MOST 1048576: true; the input reads as it did. -/
def compactEitherUptoRow : OpenClaim := { program := "ythoegmhmcapjgaagreat", sum := "0f443807a9162de9a6575da029633cff96794fe43d1cebf645d5d9d698fb3f67", func := "tephra/tephralaw16.CompactEither", spec := "compactEither", unfollowed := true, recurses := true, apart := false, narrowed := true }
def CompactEitherUptoSaid : Prop := compactEitherUptoRow.holds Tryz.pinned (OpenSpec.upto compactEitherSpec)

/-- 'tephralaw17.UpgradeSame', WHERE WHAT IT READS IS OF BULK AT MOST 1048576: true; the input reads as it did. -/
def upgradeSameUptoRow : OpenClaim := { program := "ythoegmhmcapjgaagreat", sum := "0f443807a9162de9a6575da029633cff96794fe43d1cebf645d5d9d698fb3f67", func := "tephra/tephralaw17.UpgradeSame", spec := "upgradeSame", unfollowed := true, recurses := true, apart := false, narrowed := true }
def UpgradeSameUptoSaid : Prop := upgradeSameUptoRow.holds Tryz.pinned (OpenSpec.upto upgradeSameSpec)

/-- 'tephralaw17.UpgradeEither', WHERE WHAT IT READS IS OF BULK AT MOST 1048576: true; the input reads as it did. -/
def upgradeEitherUptoRow : OpenClaim := { program := "ythoegmhmcapjgaagreat", sum := "0f443807a9162de9a6575da029633cff96794fe43d1cebf645d5d9d698fb3f67", func := "tephra/tephralaw17.UpgradeEither", spec := "upgradeEither", unfollowed := true, recurses := true, apart := false, narrowed := true }
def UpgradeEitherUptoSaid : Prop := upgradeEitherUptoRow.holds Tryz.pinned (OpenSpec.upto upgradeEitherSpec)

end Rows
end Go.Proofs.YthoegmhmcapjgaaGreat
