/-
  DERIVED. GIVEN WITH THE SEED: THE CARDS: each row of YtgkbigbekmkobaaDoorRows.lean that lists a variable, with what it lists TIED to the program's text (the seventh form; the later family's looks); each row that meets fmt, with fmt's text TOLD by the authors' own Lean function (tested against real Go, not proved from fmt's source: count such statements apart). THE CARD IS WHAT COUNTS. Prove the row's statement (the work); the ties are given (YtgkbigbekmkobaaDoorTie.lean); close each card by the builder's one call (the guide's Derived/Test/ToyasCard.lean, 'card_holds'). Laid BY PROGRAM, IN A SANDBOX (cutbox-door.mjs). By AI agents, Wed Nov 11 2026. No macro, syntax, notation, axiom, sorry.
-/
import Derived.Test.YtgkbigbekmkobaaDoorRows
import GoSem.ClaimSeven
namespace Go.Proofs.YtgkbigbekmkobaaDoor
namespace Rows

/-- THE TIED CARD OF 'postbaglaw12.SectionPartial'. -/
def sectionPartialCard : Claim7 := { stood := { row := sectionPartialRow, standIns := [], harness := (true, "4bb1164c644712ed7dcd7a5e28806d2fb255da3e34605115c1c3dbcc3e7a9f63"), looks := true }, kinds := [], alts := [], laidByText := true, laidKinds := [.data, .sentinel, .pinned], laidTests := true, laidLooks := .later }
def SectionPartialCardSaid : Prop := Claim7.holds Tryd.pinned (.plain (OpenSpec.ofChange sectionPartialSpec)) sectionPartialCard

/-- THE TIED CARD OF 'postbaglaw12.SectionParses'. -/
def sectionParsesCard : Claim7 := { stood := { row := sectionParsesRow, standIns := [], harness := (true, "4bb1164c644712ed7dcd7a5e28806d2fb255da3e34605115c1c3dbcc3e7a9f63"), looks := true }, kinds := [], alts := [], laidByText := true, laidKinds := [.data, .sentinel, .sentinel, .sentinel, .sentinel, .sentinel, .sentinel, .sentinel, .sentinel, .sentinel, .sentinel, .sentinel, .sentinel, .sentinel, .pinned], laidTests := true, laidLooks := .later }
def SectionParsesCardSaid : Prop := Claim7.holds Tryd.pinned (.plain (OpenSpec.ofChange sectionParsesSpec)) sectionParsesCard

/-- THE TIED CARD OF 'postbaglaw12.SectionTexts'. -/
def sectionTextsCard : Claim7 := { stood := { row := sectionTextsRow, standIns := [], harness := (true, "4bb1164c644712ed7dcd7a5e28806d2fb255da3e34605115c1c3dbcc3e7a9f63"), looks := true }, kinds := [], alts := [], laidByText := true, laidKinds := [.data, .data, .data, .data, .sentinel, .sentinel, .sentinel, .sentinel, .sentinel, .sentinel, .sentinel, .sentinel, .sentinel, .sentinel, .sentinel, .sentinel, .sentinel, .pinned], laidTests := true, laidLooks := .later }
def SectionTextsCardSaid : Prop := Claim7.holds Tryd.pinned (.plain (OpenSpec.ofChange sectionTextsSpec)) sectionTextsCard

/-- THE SECOND FORM's CARD OF 'postbaglaw12.SectionPartial'. -/
def sectionPartialUptoCard : Claim7 := { stood := { row := sectionPartialUptoRow, standIns := [], harness := (true, "4bb1164c644712ed7dcd7a5e28806d2fb255da3e34605115c1c3dbcc3e7a9f63"), looks := true }, kinds := [], alts := [], laidByText := true, laidKinds := [.data, .sentinel, .pinned], laidTests := true, laidLooks := .later }
def SectionPartialUptoCardSaid : Prop := Claim7.holds Tryd.pinned (.plain (OpenSpec.upto sectionPartialSpec)) sectionPartialUptoCard

/-- THE SECOND FORM's CARD OF 'postbaglaw12.SectionParses'. -/
def sectionParsesUptoCard : Claim7 := { stood := { row := sectionParsesUptoRow, standIns := [], harness := (true, "4bb1164c644712ed7dcd7a5e28806d2fb255da3e34605115c1c3dbcc3e7a9f63"), looks := true }, kinds := [], alts := [], laidByText := true, laidKinds := [.data, .sentinel, .sentinel, .sentinel, .sentinel, .sentinel, .sentinel, .sentinel, .sentinel, .sentinel, .sentinel, .sentinel, .sentinel, .sentinel, .pinned], laidTests := true, laidLooks := .later }
def SectionParsesUptoCardSaid : Prop := Claim7.holds Tryd.pinned (.plain (OpenSpec.upto sectionParsesSpec)) sectionParsesUptoCard

/-- THE SECOND FORM's CARD OF 'postbaglaw12.SectionTexts'. -/
def sectionTextsUptoCard : Claim7 := { stood := { row := sectionTextsUptoRow, standIns := [], harness := (true, "4bb1164c644712ed7dcd7a5e28806d2fb255da3e34605115c1c3dbcc3e7a9f63"), looks := true }, kinds := [], alts := [], laidByText := true, laidKinds := [.data, .data, .data, .data, .sentinel, .sentinel, .sentinel, .sentinel, .sentinel, .sentinel, .sentinel, .sentinel, .sentinel, .sentinel, .sentinel, .sentinel, .sentinel, .pinned], laidTests := true, laidLooks := .later }
def SectionTextsUptoCardSaid : Prop := Claim7.holds Tryd.pinned (.plain (OpenSpec.upto sectionTextsSpec)) sectionTextsUptoCard
end Rows
end Go.Proofs.YtgkbigbekmkobaaDoor
