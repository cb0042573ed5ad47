/-
  DERIVED. GIVEN WITH THE SEED: THE CARDS: each row of YtalgmnlclflllaaGreatDoorRows.lean that lists a variable, with what it lists TIED to the program's text (the seventh form; the later family's looks); each row that meets fmt, with fmt's text TOLD by the authors' own Lean function (tested against real Go, not proved from fmt's source: count such statements apart). THE CARD IS WHAT COUNTS. Prove the row's statement (the work); the ties are given (YtalgmnlclflllaaGreatDoorTie.lean); close each card by the builder's one call (the guide's Derived/Test/ToyasCard.lean, 'card_holds'). Laid BY PROGRAM, IN A SANDBOX (cutbox-door.mjs). By AI agents, Wed Nov 11 2026. No macro, syntax, notation, axiom, sorry.
-/
import Derived.Test.YtalgmnlclflllaaGreatDoorRows
import GoSem.ClaimSeven
namespace Go.Proofs.YtalgmnlclflllaaGreatDoor
namespace Rows

/-- THE TIED CARD OF 'postbaglaw10.MimeParts'. -/
def mimePartsCard : Claim7 := { stood := { row := mimePartsRow, standIns := [], harness := (true, "a57c1ec093517049a133646abc9ede5606680379efc59a1b8eb91147b8cb2f04"), looks := true }, kinds := [], alts := [], laidByText := true, laidKinds := [.data, .data, .data, .data, .sentinel, .sentinel, .pinned], laidTests := true, laidLooks := .later }
def MimePartsCardSaid : Prop := Claim7.holds Tryz.pinned (.plain (OpenSpec.ofChange mimePartsSpec)) mimePartsCard

/-- THE TIED CARD OF 'postbaglaw10.MimeQuotes'. -/
def mimeQuotesCard : Claim7 := { stood := { row := mimeQuotesRow, standIns := [], harness := (true, "a57c1ec093517049a133646abc9ede5606680379efc59a1b8eb91147b8cb2f04"), looks := true }, kinds := [], alts := [], laidByText := true, laidKinds := [.data, .data, .data, .data, .sentinel, .sentinel, .pinned], laidTests := true, laidLooks := .later }
def MimeQuotesCardSaid : Prop := Claim7.holds Tryz.pinned (.plain (OpenSpec.ofChange mimeQuotesSpec)) mimeQuotesCard

/-- THE TIED CARD OF 'postbaglaw10.MimeWithin'. -/
def mimeWithinCard : Claim7 := { stood := { row := mimeWithinRow, standIns := [], harness := (true, "a57c1ec093517049a133646abc9ede5606680379efc59a1b8eb91147b8cb2f04"), looks := true }, kinds := [], alts := [], laidByText := true, laidKinds := [.data, .data, .data, .data, .sentinel, .sentinel, .pinned], laidTests := true, laidLooks := .later }
def MimeWithinCardSaid : Prop := Claim7.holds Tryz.pinned (.plain (OpenSpec.ofChange mimeWithinSpec)) mimeWithinCard

/-- THE TIED CARD OF 'postbaglaw10.MimeJoins'. -/
def mimeJoinsCard : Claim7 := { stood := { row := mimeJoinsRow, standIns := [], harness := (true, "a57c1ec093517049a133646abc9ede5606680379efc59a1b8eb91147b8cb2f04"), looks := true }, kinds := [], alts := [], laidByText := true, laidKinds := [.data, .data, .data, .data, .sentinel, .sentinel, .pinned], laidTests := true, laidLooks := .later }
def MimeJoinsCardSaid : Prop := Claim7.holds Tryz.pinned (.plain (OpenSpec.ofChange mimeJoinsSpec)) mimeJoinsCard

/-- THE TIED CARD OF 'postbaglaw10.MimeFinds'. -/
def mimeFindsCard : Claim7 := { stood := { row := mimeFindsRow, standIns := [], harness := (true, "a57c1ec093517049a133646abc9ede5606680379efc59a1b8eb91147b8cb2f04"), looks := true }, kinds := [], alts := [], laidByText := true, laidKinds := [.data, .data, .data, .data, .sentinel, .sentinel, .pinned], laidTests := true, laidLooks := .later }
def MimeFindsCardSaid : Prop := Claim7.holds Tryz.pinned (.plain (OpenSpec.ofChange mimeFindsSpec)) mimeFindsCard

/-- THE TIED CARD OF 'postbaglaw10.MimeTexts'. -/
def mimeTextsCard : Claim7 := { stood := { row := mimeTextsRow, standIns := [], harness := (true, "a57c1ec093517049a133646abc9ede5606680379efc59a1b8eb91147b8cb2f04"), looks := true }, kinds := [], alts := [], laidByText := true, laidKinds := [.data, .data, .data, .data, .sentinel, .sentinel, .pinned], laidTests := true, laidLooks := .later }
def MimeTextsCardSaid : Prop := Claim7.holds Tryz.pinned (.plain (OpenSpec.ofChange mimeTextsSpec)) mimeTextsCard

/-- THE TIED CARD OF 'postbaglaw10.MimeTypes'. -/
def mimeTypesCard : Claim7 := { stood := { row := mimeTypesRow, standIns := [], harness := (true, "a57c1ec093517049a133646abc9ede5606680379efc59a1b8eb91147b8cb2f04"), looks := true }, kinds := [], alts := [], laidByText := true, laidKinds := [.data, .data, .data, .data, .sentinel, .sentinel, .sentinel, .sentinel, .sentinel, .sentinel, .sentinel, .sentinel, .sentinel, .sentinel, .sentinel, .sentinel, .sentinel, .pinned], laidTests := true, laidLooks := .later }
def MimeTypesCardSaid : Prop := Claim7.holds Tryz.pinned (.plain (OpenSpec.ofChange mimeTypesSpec)) mimeTypesCard

/-- THE SECOND FORM's CARD OF 'postbaglaw10.MimeParts'. -/
def mimePartsUptoCard : Claim7 := { stood := { row := mimePartsUptoRow, standIns := [], harness := (true, "a57c1ec093517049a133646abc9ede5606680379efc59a1b8eb91147b8cb2f04"), looks := true }, kinds := [], alts := [], laidByText := true, laidKinds := [.data, .data, .data, .data, .sentinel, .sentinel, .pinned], laidTests := true, laidLooks := .later }
def MimePartsUptoCardSaid : Prop := Claim7.holds Tryz.pinned (.plain (OpenSpec.upto mimePartsSpec)) mimePartsUptoCard

/-- THE SECOND FORM's CARD OF 'postbaglaw10.MimeQuotes'. -/
def mimeQuotesUptoCard : Claim7 := { stood := { row := mimeQuotesUptoRow, standIns := [], harness := (true, "a57c1ec093517049a133646abc9ede5606680379efc59a1b8eb91147b8cb2f04"), looks := true }, kinds := [], alts := [], laidByText := true, laidKinds := [.data, .data, .data, .data, .sentinel, .sentinel, .pinned], laidTests := true, laidLooks := .later }
def MimeQuotesUptoCardSaid : Prop := Claim7.holds Tryz.pinned (.plain (OpenSpec.upto mimeQuotesSpec)) mimeQuotesUptoCard

/-- THE SECOND FORM's CARD OF 'postbaglaw10.MimeWithin'. -/
def mimeWithinUptoCard : Claim7 := { stood := { row := mimeWithinUptoRow, standIns := [], harness := (true, "a57c1ec093517049a133646abc9ede5606680379efc59a1b8eb91147b8cb2f04"), looks := true }, kinds := [], alts := [], laidByText := true, laidKinds := [.data, .data, .data, .data, .sentinel, .sentinel, .pinned], laidTests := true, laidLooks := .later }
def MimeWithinUptoCardSaid : Prop := Claim7.holds Tryz.pinned (.plain (OpenSpec.upto mimeWithinSpec)) mimeWithinUptoCard

/-- THE SECOND FORM's CARD OF 'postbaglaw10.MimeJoins'. -/
def mimeJoinsUptoCard : Claim7 := { stood := { row := mimeJoinsUptoRow, standIns := [], harness := (true, "a57c1ec093517049a133646abc9ede5606680379efc59a1b8eb91147b8cb2f04"), looks := true }, kinds := [], alts := [], laidByText := true, laidKinds := [.data, .data, .data, .data, .sentinel, .sentinel, .pinned], laidTests := true, laidLooks := .later }
def MimeJoinsUptoCardSaid : Prop := Claim7.holds Tryz.pinned (.plain (OpenSpec.upto mimeJoinsSpec)) mimeJoinsUptoCard

/-- THE SECOND FORM's CARD OF 'postbaglaw10.MimeFinds'. -/
def mimeFindsUptoCard : Claim7 := { stood := { row := mimeFindsUptoRow, standIns := [], harness := (true, "a57c1ec093517049a133646abc9ede5606680379efc59a1b8eb91147b8cb2f04"), looks := true }, kinds := [], alts := [], laidByText := true, laidKinds := [.data, .data, .data, .data, .sentinel, .sentinel, .pinned], laidTests := true, laidLooks := .later }
def MimeFindsUptoCardSaid : Prop := Claim7.holds Tryz.pinned (.plain (OpenSpec.upto mimeFindsSpec)) mimeFindsUptoCard

/-- THE SECOND FORM's CARD OF 'postbaglaw10.MimeTexts'. -/
def mimeTextsUptoCard : Claim7 := { stood := { row := mimeTextsUptoRow, standIns := [], harness := (true, "a57c1ec093517049a133646abc9ede5606680379efc59a1b8eb91147b8cb2f04"), looks := true }, kinds := [], alts := [], laidByText := true, laidKinds := [.data, .data, .data, .data, .sentinel, .sentinel, .pinned], laidTests := true, laidLooks := .later }
def MimeTextsUptoCardSaid : Prop := Claim7.holds Tryz.pinned (.plain (OpenSpec.upto mimeTextsSpec)) mimeTextsUptoCard

/-- THE SECOND FORM's CARD OF 'postbaglaw10.MimeTypes'. -/
def mimeTypesUptoCard : Claim7 := { stood := { row := mimeTypesUptoRow, standIns := [], harness := (true, "a57c1ec093517049a133646abc9ede5606680379efc59a1b8eb91147b8cb2f04"), looks := true }, kinds := [], alts := [], laidByText := true, laidKinds := [.data, .data, .data, .data, .sentinel, .sentinel, .sentinel, .sentinel, .sentinel, .sentinel, .sentinel, .sentinel, .sentinel, .sentinel, .sentinel, .sentinel, .sentinel, .pinned], laidTests := true, laidLooks := .later }
def MimeTypesUptoCardSaid : Prop := Claim7.holds Tryz.pinned (.plain (OpenSpec.upto mimeTypesSpec)) mimeTypesUptoCard
end Rows
end Go.Proofs.YtalgmnlclflllaaGreatDoor
