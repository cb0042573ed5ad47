/-
  DERIVED. GIVEN WITH THE SEED: THE CARDS: each row of YtcjnpklmfcbofaaGreatDoorRows.lean that lists a variable, with what it lists TIED to the program's text (the seventh form; the later family's looks); each row that meets fmt, with fmt's text TOLD by the authors' own Lean function (tested against real Go, not proved from fmt's source: count such statements apart). THE CARD IS WHAT COUNTS. Prove the row's statement (the work); the ties are given (YtcjnpklmfcbofaaGreatDoorTie.lean); close each card by the builder's one call (the guide's Derived/Test/ToyasCard.lean, 'card_holds'). Laid BY PROGRAM, IN A SANDBOX (cutbox-door.mjs). By AI agents, Wed Nov 11 2026. No macro, syntax, notation, axiom, sorry.
-/
import Derived.Test.YtcjnpklmfcbofaaGreatDoorRows
import GoSem.ClaimSeven
namespace Go.Proofs.YtcjnpklmfcbofaaGreatDoor
namespace Rows

/-- THE TIED CARD OF 'postbaglaw07.MboxEntries'. -/
def mboxEntriesCard : Claim7 := { stood := { row := mboxEntriesRow, standIns := [], harness := (true, "02eadfbdef3b98e16c6e66ae1306ba643e46e94a302593761f0bbe20550909de"), looks := true }, kinds := [], alts := [], laidByText := true, laidKinds := [.data, .data, .data, .data, .sentinel, .sentinel, .sentinel, .sentinel, .sentinel, .sentinel, .sentinel, .sentinel, .sentinel, .sentinel, .sentinel, .sentinel, .sentinel, .listed, .data, .pinned], laidTests := true, laidLooks := .later }
def MboxEntriesCardSaid : Prop := Claim7.holds Tryz.pinned (.plain (OpenSpec.ofChange mboxEntriesSpec)) mboxEntriesCard

/-- THE TIED CARD OF 'postbaglaw07.MboxLines'. -/
def mboxLinesCard : Claim7 := { stood := { row := mboxLinesRow, standIns := [], harness := (true, "02eadfbdef3b98e16c6e66ae1306ba643e46e94a302593761f0bbe20550909de"), looks := true }, kinds := [], alts := [], laidByText := true, laidKinds := [.data, .data, .data, .data, .sentinel, .sentinel, .sentinel, .sentinel, .sentinel, .sentinel, .sentinel, .sentinel, .sentinel, .sentinel, .sentinel, .sentinel, .sentinel, .listed, .data, .pinned], laidTests := true, laidLooks := .later }
def MboxLinesCardSaid : Prop := Claim7.holds Tryz.pinned (.plain (OpenSpec.ofChange mboxLinesSpec)) mboxLinesCard

/-- THE SECOND FORM's CARD OF 'postbaglaw07.MboxEntries'. -/
def mboxEntriesUptoCard : Claim7 := { stood := { row := mboxEntriesUptoRow, standIns := [], harness := (true, "02eadfbdef3b98e16c6e66ae1306ba643e46e94a302593761f0bbe20550909de"), looks := true }, kinds := [], alts := [], laidByText := true, laidKinds := [.data, .data, .data, .data, .sentinel, .sentinel, .sentinel, .sentinel, .sentinel, .sentinel, .sentinel, .sentinel, .sentinel, .sentinel, .sentinel, .sentinel, .sentinel, .listed, .data, .pinned], laidTests := true, laidLooks := .later }
def MboxEntriesUptoCardSaid : Prop := Claim7.holds Tryz.pinned (.plain (OpenSpec.upto mboxEntriesSpec)) mboxEntriesUptoCard

/-- THE SECOND FORM's CARD OF 'postbaglaw07.MboxLines'. -/
def mboxLinesUptoCard : Claim7 := { stood := { row := mboxLinesUptoRow, standIns := [], harness := (true, "02eadfbdef3b98e16c6e66ae1306ba643e46e94a302593761f0bbe20550909de"), looks := true }, kinds := [], alts := [], laidByText := true, laidKinds := [.data, .data, .data, .data, .sentinel, .sentinel, .sentinel, .sentinel, .sentinel, .sentinel, .sentinel, .sentinel, .sentinel, .sentinel, .sentinel, .sentinel, .sentinel, .listed, .data, .pinned], laidTests := true, laidLooks := .later }
def MboxLinesUptoCardSaid : Prop := Claim7.holds Tryz.pinned (.plain (OpenSpec.upto mboxLinesSpec)) mboxLinesUptoCard
end Rows
end Go.Proofs.YtcjnpklmfcbofaaGreatDoor
