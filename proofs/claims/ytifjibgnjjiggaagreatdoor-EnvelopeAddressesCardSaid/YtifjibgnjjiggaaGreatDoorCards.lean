/-
  DERIVED. GIVEN WITH THE SEED: THE CARDS: each row of YtifjibgnjjiggaaGreatDoorRows.lean that lists a variable, with what it lists TIED to the program's text (the seventh form; the later family's looks); each row that meets fmt, with fmt's text TOLD by the authors' own Lean function (tested against real Go, not proved from fmt's source: count such statements apart). THE CARD IS WHAT COUNTS. Prove the row's statement (the work); the ties are given (YtifjibgnjjiggaaGreatDoorTie.lean); close each card by the builder's one call (the guide's Derived/Test/ToyasCard.lean, 'card_holds'). Laid BY PROGRAM, IN A SANDBOX (cutbox-door.mjs). By AI agents, Wed Nov 11 2026. No macro, syntax, notation, axiom, sorry.
-/
import Derived.Test.YtifjibgnjjiggaaGreatDoorRows
import GoSem.ClaimSeven
namespace Go.Proofs.YtifjibgnjjiggaaGreatDoor
namespace Rows

/-- THE TIED CARD OF 'postbaglaw11.EnvelopeAddresses'. -/
def envelopeAddressesCard : Claim7 := { stood := { row := envelopeAddressesRow, standIns := [], harness := (true, "00f70ceaf51c8edde0807533bdc2025dab1bdf7c2b0176018898d726da5d2cb2"), looks := false }, kinds := [], alts := [], laidByText := true, laidKinds := [.data, .data, .data, .data, .sentinel, .pinned], laidTests := true, laidLooks := .later }
def EnvelopeAddressesCardSaid : Prop := Claim7.holds Tryz.pinned (.plain (OpenSpec.ofChange envelopeAddressesSpec)) envelopeAddressesCard

/-- THE TIED CARD OF 'postbaglaw11.EnvelopeTexts'. -/
def envelopeTextsCard : Claim7 := { stood := { row := envelopeTextsRow, standIns := [], harness := (true, "00f70ceaf51c8edde0807533bdc2025dab1bdf7c2b0176018898d726da5d2cb2"), looks := false }, kinds := [], alts := [], laidByText := true, laidKinds := [.data, .data, .data, .data, .sentinel, .pinned], laidTests := true, laidLooks := .later }
def EnvelopeTextsCardSaid : Prop := Claim7.holds Tryz.pinned (.plain (OpenSpec.ofChange envelopeTextsSpec)) envelopeTextsCard

/-- THE SECOND FORM's CARD OF 'postbaglaw11.EnvelopeAddresses'. -/
def envelopeAddressesUptoCard : Claim7 := { stood := { row := envelopeAddressesUptoRow, standIns := [], harness := (true, "00f70ceaf51c8edde0807533bdc2025dab1bdf7c2b0176018898d726da5d2cb2"), looks := false }, kinds := [], alts := [], laidByText := true, laidKinds := [.data, .data, .data, .data, .sentinel, .pinned], laidTests := true, laidLooks := .later }
def EnvelopeAddressesUptoCardSaid : Prop := Claim7.holds Tryz.pinned (.plain (OpenSpec.upto envelopeAddressesSpec)) envelopeAddressesUptoCard

/-- THE SECOND FORM's CARD OF 'postbaglaw11.EnvelopeTexts'. -/
def envelopeTextsUptoCard : Claim7 := { stood := { row := envelopeTextsUptoRow, standIns := [], harness := (true, "00f70ceaf51c8edde0807533bdc2025dab1bdf7c2b0176018898d726da5d2cb2"), looks := false }, kinds := [], alts := [], laidByText := true, laidKinds := [.data, .data, .data, .data, .sentinel, .pinned], laidTests := true, laidLooks := .later }
def EnvelopeTextsUptoCardSaid : Prop := Claim7.holds Tryz.pinned (.plain (OpenSpec.upto envelopeTextsSpec)) envelopeTextsUptoCard
end Rows
end Go.Proofs.YtifjibgnjjiggaaGreatDoor
