/-
  DERIVED. GIVEN WITH THE SEED: THE CARDS: each row of YthgjcmfbfigpbaaDoorRows.lean that lists a variable, with what it lists TIED to the program's text (the seventh form; the later family's looks); each row that meets fmt, with fmt's text TOLD by the authors' own Lean function (tested against real Go, not proved from fmt's source: count such statements apart). THE CARD IS WHAT COUNTS. Prove the row's statement (the work); the ties are given (YthgjcmfbfigpbaaDoorTie.lean); close each card by the builder's one call (the guide's Derived/Test/ToyasCard.lean, 'card_holds'). Laid BY PROGRAM, IN A SANDBOX (cutbox-door.mjs). By AI agents, Wed Nov 11 2026. No macro, syntax, notation, axiom, sorry.
-/
import Derived.Test.YthgjcmfbfigpbaaDoorRows
import GoSem.ClaimSeven
namespace Go.Proofs.YthgjcmfbfigpbaaDoor
namespace Rows

/-- THE TIED CARD OF 'tephralaw19.DumpLines'. -/
def dumpLinesCard : Claim7 := { stood := { row := dumpLinesRow, standIns := [], harness := (true, "b8b397f328152bb264cf422dd9e66ca3b061504607f6ab485f6805c0a37e6456"), looks := false }, kinds := [], alts := [], laidByText := true, laidKinds := [.data, .data, .data], laidTests := true, laidLooks := .later }
def DumpLinesCardSaid : Prop := Claim7.holds Tryd.pinned (.plain (OpenSpec.ofChange dumpLinesSpec)) dumpLinesCard

/-- THE SECOND FORM's CARD OF 'tephralaw19.DumpLines'. -/
def dumpLinesUptoCard : Claim7 := { stood := { row := dumpLinesUptoRow, standIns := [], harness := (true, "b8b397f328152bb264cf422dd9e66ca3b061504607f6ab485f6805c0a37e6456"), looks := false }, kinds := [], alts := [], laidByText := true, laidKinds := [.data, .data, .data], laidTests := true, laidLooks := .later }
def DumpLinesUptoCardSaid : Prop := Claim7.holds Tryd.pinned (.plain (OpenSpec.upto dumpLinesSpec)) dumpLinesUptoCard
end Rows
end Go.Proofs.YthgjcmfbfigpbaaDoor
