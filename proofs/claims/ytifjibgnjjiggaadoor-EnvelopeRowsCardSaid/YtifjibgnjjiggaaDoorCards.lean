/-
  DERIVED. GIVEN WITH THE SEED: THE CARDS: each row of YtifjibgnjjiggaaDoorRows.lean that lists a variable, with what it lists TIED to the program's text (the seventh form; the later family's looks); each row that meets fmt, with fmt's text TOLD by the authors' own Lean function (tested against real Go, not proved from fmt's source: count such statements apart). THE CARD IS WHAT COUNTS. Prove the row's statement (the work); the ties are given (YtifjibgnjjiggaaDoorTie.lean); close each card by the builder's one call (the guide's Derived/Test/ToyasCard.lean, 'card_holds'). Laid BY PROGRAM, IN A SANDBOX (cutbox-door.mjs). By AI agents, Wed Nov 11 2026. No macro, syntax, notation, axiom, sorry.
-/
import Derived.Test.YtifjibgnjjiggaaDoorRows
import GoSem.ClaimSeven
namespace Go.Proofs.YtifjibgnjjiggaaDoor
namespace Rows

/-- THE TIED CARD OF 'postbaglaw11.EnvelopeLists'. -/
def envelopeListsCard : Claim7 := { stood := { row := envelopeListsRow, standIns := [], harness := (true, "df93ce3b712cc927c190db3dfa4684f18bae9515d25cb019a6c2fb71381bbc4c"), looks := false }, kinds := [], alts := [], laidByText := true, laidKinds := [.data, .data, .data, .data, .sentinel, .pinned], laidTests := true, laidLooks := .later }
def EnvelopeListsCardSaid : Prop := Claim7.holds Tryd.pinned (.plain (OpenSpec.ofChange envelopeListsSpec)) envelopeListsCard

/-- THE TIED CARD OF 'postbaglaw11.EnvelopeRows'. -/
def envelopeRowsCard : Claim7 := { stood := { row := envelopeRowsRow, standIns := [], harness := (true, "df93ce3b712cc927c190db3dfa4684f18bae9515d25cb019a6c2fb71381bbc4c"), looks := false }, kinds := [], alts := [], laidByText := true, laidKinds := [.data, .data, .data, .data, .sentinel, .pinned], laidTests := true, laidLooks := .later }
def EnvelopeRowsCardSaid : Prop := Claim7.holds Tryd.pinned (.plain (OpenSpec.ofChange envelopeRowsSpec)) envelopeRowsCard

/-- THE TIED CARD OF 'postbaglaw11.EnvelopeSubjects'. -/
def envelopeSubjectsCard : Claim7 := { stood := { row := envelopeSubjectsRow, standIns := [], harness := (true, "df93ce3b712cc927c190db3dfa4684f18bae9515d25cb019a6c2fb71381bbc4c"), looks := false }, kinds := [], alts := [], laidByText := true, laidKinds := [.data, .data, .data, .data, .sentinel, .pinned], laidTests := true, laidLooks := .later }
def EnvelopeSubjectsCardSaid : Prop := Claim7.holds Tryd.pinned (.plain (OpenSpec.ofChange envelopeSubjectsSpec)) envelopeSubjectsCard

/-- THE SECOND FORM's CARD OF 'postbaglaw11.EnvelopeLists'. -/
def envelopeListsUptoCard : Claim7 := { stood := { row := envelopeListsUptoRow, standIns := [], harness := (true, "df93ce3b712cc927c190db3dfa4684f18bae9515d25cb019a6c2fb71381bbc4c"), looks := false }, kinds := [], alts := [], laidByText := true, laidKinds := [.data, .data, .data, .data, .sentinel, .pinned], laidTests := true, laidLooks := .later }
def EnvelopeListsUptoCardSaid : Prop := Claim7.holds Tryd.pinned (.plain (OpenSpec.upto envelopeListsSpec)) envelopeListsUptoCard

/-- THE SECOND FORM's CARD OF 'postbaglaw11.EnvelopeRows'. -/
def envelopeRowsUptoCard : Claim7 := { stood := { row := envelopeRowsUptoRow, standIns := [], harness := (true, "df93ce3b712cc927c190db3dfa4684f18bae9515d25cb019a6c2fb71381bbc4c"), looks := false }, kinds := [], alts := [], laidByText := true, laidKinds := [.data, .data, .data, .data, .sentinel, .pinned], laidTests := true, laidLooks := .later }
def EnvelopeRowsUptoCardSaid : Prop := Claim7.holds Tryd.pinned (.plain (OpenSpec.upto envelopeRowsSpec)) envelopeRowsUptoCard

/-- THE SECOND FORM's CARD OF 'postbaglaw11.EnvelopeSubjects'. -/
def envelopeSubjectsUptoCard : Claim7 := { stood := { row := envelopeSubjectsUptoRow, standIns := [], harness := (true, "df93ce3b712cc927c190db3dfa4684f18bae9515d25cb019a6c2fb71381bbc4c"), looks := false }, kinds := [], alts := [], laidByText := true, laidKinds := [.data, .data, .data, .data, .sentinel, .pinned], laidTests := true, laidLooks := .later }
def EnvelopeSubjectsUptoCardSaid : Prop := Claim7.holds Tryd.pinned (.plain (OpenSpec.upto envelopeSubjectsSpec)) envelopeSubjectsUptoCard
end Rows
end Go.Proofs.YtifjibgnjjiggaaDoor
