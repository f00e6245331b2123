/-
  DERIVED. GIVEN WITH THE SEED: THE CARDS: each row of YtnifkinpogopkaaDoorRows.lean that lists a variable, with what it lists TIED to the program's text (the seventh form; the later family's looks); each row that meets fmt, with fmt's text TOLD by the authors' own Lean function (tested against real Go, not proved from fmt's source: count such statements apart). THE CARD IS WHAT COUNTS. Prove the row's statement (the work); the ties are given (YtnifkinpogopkaaDoorTie.lean); close each card by the builder's one call (the guide's Derived/Test/ToyasCard.lean, 'card_holds'). Laid BY PROGRAM, IN A SANDBOX (cutbox-door.mjs). By AI agents, Wed Nov 11 2026. No macro, syntax, notation, axiom, sorry.
-/
import Derived.Test.YtnifkinpogopkaaDoorRows
import GoSem.ClaimSeven
namespace Go.Proofs.YtnifkinpogopkaaDoor
namespace Rows

/-- THE TIED CARD OF 'tephralaw18.EscapeWords'. -/
def escapeWordsCard : Claim7 := { stood := { row := escapeWordsRow, standIns := [], harness := (true, "38dadf6c96e1746a7a5724334b93c072e40c7928733c3624b6f45e97f401cda7"), looks := false }, kinds := [], alts := [], laidByText := true, laidKinds := [.data, .pinned], laidTests := true, laidLooks := .later }
def EscapeWordsCardSaid : Prop := Claim7.holds Tryd.pinned (.plain (OpenSpec.ofChange escapeWordsSpec)) escapeWordsCard

/-- THE TIED CARD OF 'tephralaw19.DumpTexts'. -/
def dumpTextsCard : Claim7 := { stood := { row := dumpTextsRow, standIns := [], harness := (true, "38dadf6c96e1746a7a5724334b93c072e40c7928733c3624b6f45e97f401cda7"), looks := false }, kinds := [], alts := [], laidByText := true, laidKinds := [.data, .data, .data], laidTests := true, laidLooks := .later }
def DumpTextsCardSaid : Prop := Claim7.holds Tryd.pinned (.plain (OpenSpec.ofChange dumpTextsSpec)) dumpTextsCard

/-- THE TIED CARD OF 'tephralaw19.DumpSeals'. -/
def dumpSealsCard : Claim7 := { stood := { row := dumpSealsRow, standIns := [], harness := (true, "38dadf6c96e1746a7a5724334b93c072e40c7928733c3624b6f45e97f401cda7"), looks := false }, kinds := [], alts := [], laidByText := true, laidKinds := [.data, .data, .data], laidTests := true, laidLooks := .later }
def DumpSealsCardSaid : Prop := Claim7.holds Tryd.pinned (.plain (OpenSpec.ofChange dumpSealsSpec)) dumpSealsCard

/-- THE TIED CARD OF 'tephralaw19.DumpOne'. -/
def dumpOneCard : Claim7 := { stood := { row := dumpOneRow, standIns := [], harness := (true, "38dadf6c96e1746a7a5724334b93c072e40c7928733c3624b6f45e97f401cda7"), looks := false }, kinds := [], alts := [], laidByText := true, laidKinds := [.data, .data, .data], laidTests := true, laidLooks := .later }
def DumpOneCardSaid : Prop := Claim7.holds Tryd.pinned (.plain (OpenSpec.ofChange dumpOneSpec)) dumpOneCard

/-- THE SECOND FORM's CARD OF 'tephralaw18.EscapeWords'. -/
def escapeWordsUptoCard : Claim7 := { stood := { row := escapeWordsUptoRow, standIns := [], harness := (true, "38dadf6c96e1746a7a5724334b93c072e40c7928733c3624b6f45e97f401cda7"), looks := false }, kinds := [], alts := [], laidByText := true, laidKinds := [.data, .pinned], laidTests := true, laidLooks := .later }
def EscapeWordsUptoCardSaid : Prop := Claim7.holds Tryd.pinned (.plain (OpenSpec.upto escapeWordsSpec)) escapeWordsUptoCard

/-- THE SECOND FORM's CARD OF 'tephralaw19.DumpTexts'. -/
def dumpTextsUptoCard : Claim7 := { stood := { row := dumpTextsUptoRow, standIns := [], harness := (true, "38dadf6c96e1746a7a5724334b93c072e40c7928733c3624b6f45e97f401cda7"), looks := false }, kinds := [], alts := [], laidByText := true, laidKinds := [.data, .data, .data], laidTests := true, laidLooks := .later }
def DumpTextsUptoCardSaid : Prop := Claim7.holds Tryd.pinned (.plain (OpenSpec.upto dumpTextsSpec)) dumpTextsUptoCard

/-- THE SECOND FORM's CARD OF 'tephralaw19.DumpSeals'. -/
def dumpSealsUptoCard : Claim7 := { stood := { row := dumpSealsUptoRow, standIns := [], harness := (true, "38dadf6c96e1746a7a5724334b93c072e40c7928733c3624b6f45e97f401cda7"), looks := false }, kinds := [], alts := [], laidByText := true, laidKinds := [.data, .data, .data], laidTests := true, laidLooks := .later }
def DumpSealsUptoCardSaid : Prop := Claim7.holds Tryd.pinned (.plain (OpenSpec.upto dumpSealsSpec)) dumpSealsUptoCard

/-- THE SECOND FORM's CARD OF 'tephralaw19.DumpOne'. -/
def dumpOneUptoCard : Claim7 := { stood := { row := dumpOneUptoRow, standIns := [], harness := (true, "38dadf6c96e1746a7a5724334b93c072e40c7928733c3624b6f45e97f401cda7"), looks := false }, kinds := [], alts := [], laidByText := true, laidKinds := [.data, .data, .data], laidTests := true, laidLooks := .later }
def DumpOneUptoCardSaid : Prop := Claim7.holds Tryd.pinned (.plain (OpenSpec.upto dumpOneSpec)) dumpOneUptoCard
end Rows
end Go.Proofs.YtnifkinpogopkaaDoor
