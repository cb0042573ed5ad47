/-
  DERIVED. GIVEN WITH THE SEED: THE CARDS: each row of YtcjnpklmfcbofaaDoorRows.lean that lists a variable, with what it lists TIED to the program's text (the seventh form; the later family's looks); each row that meets fmt, with fmt's text TOLD by the authors' own Lean function (tested against real Go, not proved from fmt's source: count such statements apart). THE CARD IS WHAT COUNTS. Prove the row's statement (the work); the ties are given (YtcjnpklmfcbofaaDoorTie.lean); close each card by the builder's one call (the guide's Derived/Test/ToyasCard.lean, 'card_holds'). Laid BY PROGRAM, IN A SANDBOX (cutbox-door.mjs). By AI agents, Wed Nov 11 2026. No macro, syntax, notation, axiom, sorry.
-/
import Derived.Test.YtcjnpklmfcbofaaDoorRows
import GoSem.ClaimSeven
namespace Go.Proofs.YtcjnpklmfcbofaaDoor
namespace Rows

/-- THE TIED CARD OF 'postbaglaw07.MboxRows'. -/
def mboxRowsCard : Claim7 := { stood := { row := mboxRowsRow, standIns := [], harness := (true, "238d1ea87f6f265fc9594497f2bb3032b2bf0fd7f74af64da7761748af13bd47"), looks := true }, kinds := [], alts := [], laidByText := true, laidKinds := [.data, .data, .data, .data, .sentinel, .sentinel, .sentinel, .pinned], laidTests := true, laidLooks := .later }
def MboxRowsCardSaid : Prop := Claim7.holds Tryd.pinned (.plain (OpenSpec.ofChange mboxRowsSpec)) mboxRowsCard

/-- THE TIED CARD OF 'postbaglaw07.MboxKeeps'. -/
def mboxKeepsCard : Claim7 := { stood := { row := mboxKeepsRow, standIns := [], harness := (true, "238d1ea87f6f265fc9594497f2bb3032b2bf0fd7f74af64da7761748af13bd47"), looks := true }, kinds := [], alts := [], laidByText := true, laidKinds := [.data, .data, .data, .data, .sentinel, .sentinel, .sentinel, .pinned], laidTests := true, laidLooks := .later }
def MboxKeepsCardSaid : Prop := Claim7.holds Tryd.pinned (.plain (OpenSpec.ofChange mboxKeepsSpec)) mboxKeepsCard

/-- THE TIED CARD OF 'postbaglaw07.MboxSpans'. -/
def mboxSpansCard : Claim7 := { stood := { row := mboxSpansRow, standIns := [], harness := (true, "238d1ea87f6f265fc9594497f2bb3032b2bf0fd7f74af64da7761748af13bd47"), looks := true }, kinds := [], alts := [], laidByText := true, laidKinds := [.data, .data, .data, .data, .sentinel, .sentinel, .sentinel, .sentinel, .sentinel, .sentinel, .sentinel, .sentinel, .sentinel, .sentinel, .sentinel, .sentinel, .sentinel, .pinned], laidTests := true, laidLooks := .later }
def MboxSpansCardSaid : Prop := Claim7.holds Tryd.pinned (.plain (OpenSpec.ofChange mboxSpansSpec)) mboxSpansCard

/-- THE TIED CARD OF 'postbaglaw07.MboxScans'. -/
def mboxScansCard : Claim7 := { stood := { row := mboxScansRow, standIns := [], harness := (true, "238d1ea87f6f265fc9594497f2bb3032b2bf0fd7f74af64da7761748af13bd47"), looks := true }, kinds := [], alts := [], laidByText := true, laidKinds := [.data, .data, .data, .data, .sentinel, .sentinel, .sentinel, .sentinel, .sentinel, .sentinel, .sentinel, .sentinel, .sentinel, .sentinel, .sentinel, .sentinel, .sentinel, .pinned], laidTests := true, laidLooks := .later }
def MboxScansCardSaid : Prop := Claim7.holds Tryd.pinned (.plain (OpenSpec.ofChange mboxScansSpec)) mboxScansCard

/-- THE SECOND FORM's CARD OF 'postbaglaw07.MboxRows'. -/
def mboxRowsUptoCard : Claim7 := { stood := { row := mboxRowsUptoRow, standIns := [], harness := (true, "238d1ea87f6f265fc9594497f2bb3032b2bf0fd7f74af64da7761748af13bd47"), looks := true }, kinds := [], alts := [], laidByText := true, laidKinds := [.data, .data, .data, .data, .sentinel, .sentinel, .sentinel, .pinned], laidTests := true, laidLooks := .later }
def MboxRowsUptoCardSaid : Prop := Claim7.holds Tryd.pinned (.plain (OpenSpec.upto mboxRowsSpec)) mboxRowsUptoCard

/-- THE SECOND FORM's CARD OF 'postbaglaw07.MboxKeeps'. -/
def mboxKeepsUptoCard : Claim7 := { stood := { row := mboxKeepsUptoRow, standIns := [], harness := (true, "238d1ea87f6f265fc9594497f2bb3032b2bf0fd7f74af64da7761748af13bd47"), looks := true }, kinds := [], alts := [], laidByText := true, laidKinds := [.data, .data, .data, .data, .sentinel, .sentinel, .sentinel, .pinned], laidTests := true, laidLooks := .later }
def MboxKeepsUptoCardSaid : Prop := Claim7.holds Tryd.pinned (.plain (OpenSpec.upto mboxKeepsSpec)) mboxKeepsUptoCard

/-- THE SECOND FORM's CARD OF 'postbaglaw07.MboxSpans'. -/
def mboxSpansUptoCard : Claim7 := { stood := { row := mboxSpansUptoRow, standIns := [], harness := (true, "238d1ea87f6f265fc9594497f2bb3032b2bf0fd7f74af64da7761748af13bd47"), looks := true }, kinds := [], alts := [], laidByText := true, laidKinds := [.data, .data, .data, .data, .sentinel, .sentinel, .sentinel, .sentinel, .sentinel, .sentinel, .sentinel, .sentinel, .sentinel, .sentinel, .sentinel, .sentinel, .sentinel, .pinned], laidTests := true, laidLooks := .later }
def MboxSpansUptoCardSaid : Prop := Claim7.holds Tryd.pinned (.plain (OpenSpec.upto mboxSpansSpec)) mboxSpansUptoCard

/-- THE SECOND FORM's CARD OF 'postbaglaw07.MboxScans'. -/
def mboxScansUptoCard : Claim7 := { stood := { row := mboxScansUptoRow, standIns := [], harness := (true, "238d1ea87f6f265fc9594497f2bb3032b2bf0fd7f74af64da7761748af13bd47"), looks := true }, kinds := [], alts := [], laidByText := true, laidKinds := [.data, .data, .data, .data, .sentinel, .sentinel, .sentinel, .sentinel, .sentinel, .sentinel, .sentinel, .sentinel, .sentinel, .sentinel, .sentinel, .sentinel, .sentinel, .pinned], laidTests := true, laidLooks := .later }
def MboxScansUptoCardSaid : Prop := Claim7.holds Tryd.pinned (.plain (OpenSpec.upto mboxScansSpec)) mboxScansUptoCard
end Rows
end Go.Proofs.YtcjnpklmfcbofaaDoor
