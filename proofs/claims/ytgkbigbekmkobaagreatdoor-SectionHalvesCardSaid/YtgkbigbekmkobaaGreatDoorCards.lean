/-
  DERIVED. GIVEN WITH THE SEED: THE CARDS: each row of YtgkbigbekmkobaaGreatDoorRows.lean that lists a variable, with what it lists TIED to the program's text (the seventh form; the later family's looks); each row that meets fmt, with fmt's text TOLD by the authors' own Lean function (tested against real Go, not proved from fmt's source: count such statements apart). THE CARD IS WHAT COUNTS. Prove the row's statement (the work); the ties are given (YtgkbigbekmkobaaGreatDoorTie.lean); close each card by the builder's one call (the guide's Derived/Test/ToyasCard.lean, 'card_holds'). Laid BY PROGRAM, IN A SANDBOX (cutbox-door.mjs). By AI agents, Wed Nov 11 2026. No macro, syntax, notation, axiom, sorry.
-/
import Derived.Test.YtgkbigbekmkobaaGreatDoorRows
import GoSem.ClaimSeven
namespace Go.Proofs.YtgkbigbekmkobaaGreatDoor
namespace Rows

/-- THE TIED CARD OF 'postbaglaw12.SectionHalves'. -/
def sectionHalvesCard : Claim7 := { stood := { row := sectionHalvesRow, standIns := [], harness := (true, "330afcf9b1c1b5b2b09229447948ef654c7fe30473812b77bf840a9d9c69d146"), looks := true }, kinds := [], alts := [], laidByText := true, laidKinds := [.data, .sentinel, .sentinel, .pinned], laidTests := true, laidLooks := .later }
def SectionHalvesCardSaid : Prop := Claim7.holds Tryz.pinned (.plain (OpenSpec.ofChange sectionHalvesSpec)) sectionHalvesCard

/-- THE SECOND FORM's CARD OF 'postbaglaw12.SectionHalves'. -/
def sectionHalvesUptoCard : Claim7 := { stood := { row := sectionHalvesUptoRow, standIns := [], harness := (true, "330afcf9b1c1b5b2b09229447948ef654c7fe30473812b77bf840a9d9c69d146"), looks := true }, kinds := [], alts := [], laidByText := true, laidKinds := [.data, .sentinel, .sentinel, .pinned], laidTests := true, laidLooks := .later }
def SectionHalvesUptoCardSaid : Prop := Claim7.holds Tryz.pinned (.plain (OpenSpec.upto sectionHalvesSpec)) sectionHalvesUptoCard
end Rows
end Go.Proofs.YtgkbigbekmkobaaGreatDoor
