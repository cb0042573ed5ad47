/-
  DERIVED. GIVEN WITH THE SEED: THE CARDS: each row of YthnkgifbbemhfaaGreatDoorRows.lean that lists a variable, with what it lists TIED to the program's text (the seventh form; the later family's looks); each row that meets fmt, with fmt's text TOLD by the authors' own Lean function (tested against real Go, not proved from fmt's source: count such statements apart). THE CARD IS WHAT COUNTS. Prove the row's statement (the work); the ties are given (YthnkgifbbemhfaaGreatDoorTie.lean); close each card by the builder's one call (the guide's Derived/Test/ToyasCard.lean, 'card_holds'). Laid BY PROGRAM, IN A SANDBOX (cutbox-door.mjs). By AI agents, Wed Nov 11 2026. No macro, syntax, notation, axiom, sorry.
-/
import Derived.Test.YthnkgifbbemhfaaGreatDoorRows
import GoSem.ClaimSeven
namespace Go.Proofs.YthnkgifbbemhfaaGreatDoor
namespace Rows

/-- THE TIED CARD OF 'postbaglaw22.AnswerPieces'. -/
def answerPiecesCard : Claim7 := { stood := { row := answerPiecesRow, standIns := [], harness := (true, "716afb2bc8b507ce0cf20132ad4134037d4f3aeb42ffe3f36a3d84e3f292c697"), looks := true }, kinds := [], alts := [], laidByText := true, laidKinds := [.data, .data, .data, .data, .sentinel, .sentinel, .sentinel, .pinned], laidTests := true, laidLooks := .later }
def AnswerPiecesCardSaid : Prop := Claim7.holds Tryz.pinned (.plain (OpenSpec.ofChange answerPiecesSpec)) answerPiecesCard

/-- THE TIED CARD OF 'postbaglaw22.AnswerTexts'. -/
def answerTextsCard : Claim7 := { stood := { row := answerTextsRow, standIns := [], harness := (true, "716afb2bc8b507ce0cf20132ad4134037d4f3aeb42ffe3f36a3d84e3f292c697"), looks := true }, kinds := [], alts := [], laidByText := true, laidKinds := [.data, .data, .data, .data, .sentinel, .sentinel, .sentinel, .pinned], laidTests := true, laidLooks := .later }
def AnswerTextsCardSaid : Prop := Claim7.holds Tryz.pinned (.plain (OpenSpec.ofChange answerTextsSpec)) answerTextsCard

/-- THE TIED CARD OF 'postbaglaw22.AnswerStatus'. -/
def answerStatusCard : Claim7 := { stood := { row := answerStatusRow, standIns := [], harness := (true, "716afb2bc8b507ce0cf20132ad4134037d4f3aeb42ffe3f36a3d84e3f292c697"), looks := true }, kinds := [], alts := [], laidByText := true, laidKinds := [.data, .data, .data, .data, .sentinel, .sentinel, .sentinel, .pinned], laidTests := true, laidLooks := .later }
def AnswerStatusCardSaid : Prop := Claim7.holds Tryz.pinned (.plain (OpenSpec.ofChange answerStatusSpec)) answerStatusCard

/-- THE TIED CARD OF 'postbaglaw22.AnswerNots'. -/
def answerNotsCard : Claim7 := { stood := { row := answerNotsRow, standIns := [], harness := (true, "716afb2bc8b507ce0cf20132ad4134037d4f3aeb42ffe3f36a3d84e3f292c697"), looks := true }, kinds := [], alts := [], laidByText := true, laidKinds := [.data, .data, .data, .data, .sentinel, .sentinel, .sentinel, .pinned], laidTests := true, laidLooks := .later }
def AnswerNotsCardSaid : Prop := Claim7.holds Tryz.pinned (.plain (OpenSpec.ofChange answerNotsSpec)) answerNotsCard

/-- THE SECOND FORM's CARD OF 'postbaglaw22.AnswerPieces'. -/
def answerPiecesUptoCard : Claim7 := { stood := { row := answerPiecesUptoRow, standIns := [], harness := (true, "716afb2bc8b507ce0cf20132ad4134037d4f3aeb42ffe3f36a3d84e3f292c697"), looks := true }, kinds := [], alts := [], laidByText := true, laidKinds := [.data, .data, .data, .data, .sentinel, .sentinel, .sentinel, .pinned], laidTests := true, laidLooks := .later }
def AnswerPiecesUptoCardSaid : Prop := Claim7.holds Tryz.pinned (.plain (OpenSpec.upto answerPiecesSpec)) answerPiecesUptoCard

/-- THE SECOND FORM's CARD OF 'postbaglaw22.AnswerTexts'. -/
def answerTextsUptoCard : Claim7 := { stood := { row := answerTextsUptoRow, standIns := [], harness := (true, "716afb2bc8b507ce0cf20132ad4134037d4f3aeb42ffe3f36a3d84e3f292c697"), looks := true }, kinds := [], alts := [], laidByText := true, laidKinds := [.data, .data, .data, .data, .sentinel, .sentinel, .sentinel, .pinned], laidTests := true, laidLooks := .later }
def AnswerTextsUptoCardSaid : Prop := Claim7.holds Tryz.pinned (.plain (OpenSpec.upto answerTextsSpec)) answerTextsUptoCard

/-- THE SECOND FORM's CARD OF 'postbaglaw22.AnswerStatus'. -/
def answerStatusUptoCard : Claim7 := { stood := { row := answerStatusUptoRow, standIns := [], harness := (true, "716afb2bc8b507ce0cf20132ad4134037d4f3aeb42ffe3f36a3d84e3f292c697"), looks := true }, kinds := [], alts := [], laidByText := true, laidKinds := [.data, .data, .data, .data, .sentinel, .sentinel, .sentinel, .pinned], laidTests := true, laidLooks := .later }
def AnswerStatusUptoCardSaid : Prop := Claim7.holds Tryz.pinned (.plain (OpenSpec.upto answerStatusSpec)) answerStatusUptoCard

/-- THE SECOND FORM's CARD OF 'postbaglaw22.AnswerNots'. -/
def answerNotsUptoCard : Claim7 := { stood := { row := answerNotsUptoRow, standIns := [], harness := (true, "716afb2bc8b507ce0cf20132ad4134037d4f3aeb42ffe3f36a3d84e3f292c697"), looks := true }, kinds := [], alts := [], laidByText := true, laidKinds := [.data, .data, .data, .data, .sentinel, .sentinel, .sentinel, .pinned], laidTests := true, laidLooks := .later }
def AnswerNotsUptoCardSaid : Prop := Claim7.holds Tryz.pinned (.plain (OpenSpec.upto answerNotsSpec)) answerNotsUptoCard
end Rows
end Go.Proofs.YthnkgifbbemhfaaGreatDoor
