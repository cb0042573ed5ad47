/-
  DERIVED. GIVEN WITH THE SEED: THE CARDS: each row of YtglopeijohdobaaDoorRows.lean that lists a variable, with what it lists TIED to the program's text (the seventh form; the later family's looks); each row that meets fmt, with fmt's text TOLD by the authors' own Lean function (tested against real Go, not proved from fmt's source: count such statements apart). THE CARD IS WHAT COUNTS. Prove the row's statement (the work); the ties are given (YtglopeijohdobaaDoorTie.lean); close each card by the builder's one call (the guide's Derived/Test/ToyasCard.lean, 'card_holds'). Laid BY PROGRAM, IN A SANDBOX (cutbox-door.mjs). By AI agents, Wed Nov 11 2026. No macro, syntax, notation, axiom, sorry.
-/
import Derived.Test.YtglopeijohdobaaDoorRows
import GoSem.ClaimSeven
namespace Go.Proofs.YtglopeijohdobaaDoor
namespace Rows

/-- THE TIED CARD OF 'postbaglaw02.LinesPieces'. -/
def linesPiecesCard : Claim7 := { stood := { row := linesPiecesRow, standIns := [], harness := (true, "d23c972b2e412363b7214f7711ec9a7ff3d02b739847a776731870948c10148b"), looks := true }, kinds := [], alts := [], laidByText := true, laidKinds := [.sentinel, .sentinel], laidTests := true, laidLooks := .later }
def LinesPiecesCardSaid : Prop := Claim7.holds Tryd.pinned (.plain (OpenSpec.ofChange linesPiecesSpec)) linesPiecesCard

/-- THE TIED CARD OF 'postbaglaw02.LinesLong'. -/
def linesLongCard : Claim7 := { stood := { row := linesLongRow, standIns := [], harness := (true, "d23c972b2e412363b7214f7711ec9a7ff3d02b739847a776731870948c10148b"), looks := true }, kinds := [], alts := [], laidByText := true, laidKinds := [.sentinel, .sentinel], laidTests := true, laidLooks := .later }
def LinesLongCardSaid : Prop := Claim7.holds Tryd.pinned (.plain (OpenSpec.ofChange linesLongSpec)) linesLongCard

/-- THE TIED CARD OF 'postbaglaw02.LinesPlays'. -/
def linesPlaysCard : Claim7 := { stood := { row := linesPlaysRow, standIns := [], harness := (true, "d23c972b2e412363b7214f7711ec9a7ff3d02b739847a776731870948c10148b"), looks := true }, kinds := [], alts := [], laidByText := true, laidKinds := [.sentinel, .sentinel, .sentinel, .sentinel, .sentinel, .sentinel, .sentinel, .sentinel, .sentinel, .sentinel, .sentinel, .sentinel, .sentinel], laidTests := true, laidLooks := .later }
def LinesPlaysCardSaid : Prop := Claim7.holds Tryd.pinned (.plain (OpenSpec.ofChange linesPlaysSpec)) linesPlaysCard

/-- THE TIED CARD OF 'postbaglaw02.LinesSplits'. -/
def linesSplitsCard : Claim7 := { stood := { row := linesSplitsRow, standIns := [], harness := (true, "d23c972b2e412363b7214f7711ec9a7ff3d02b739847a776731870948c10148b"), looks := true }, kinds := [], alts := [], laidByText := true, laidKinds := [.sentinel, .sentinel], laidTests := true, laidLooks := .later }
def LinesSplitsCardSaid : Prop := Claim7.holds Tryd.pinned (.plain (OpenSpec.ofChange linesSplitsSpec)) linesSplitsCard

/-- THE SECOND FORM's CARD OF 'postbaglaw02.LinesPieces'. -/
def linesPiecesUptoCard : Claim7 := { stood := { row := linesPiecesUptoRow, standIns := [], harness := (true, "d23c972b2e412363b7214f7711ec9a7ff3d02b739847a776731870948c10148b"), looks := true }, kinds := [], alts := [], laidByText := true, laidKinds := [.sentinel, .sentinel], laidTests := true, laidLooks := .later }
def LinesPiecesUptoCardSaid : Prop := Claim7.holds Tryd.pinned (.plain (OpenSpec.upto linesPiecesSpec)) linesPiecesUptoCard

/-- THE SECOND FORM's CARD OF 'postbaglaw02.LinesLong'. -/
def linesLongUptoCard : Claim7 := { stood := { row := linesLongUptoRow, standIns := [], harness := (true, "d23c972b2e412363b7214f7711ec9a7ff3d02b739847a776731870948c10148b"), looks := true }, kinds := [], alts := [], laidByText := true, laidKinds := [.sentinel, .sentinel], laidTests := true, laidLooks := .later }
def LinesLongUptoCardSaid : Prop := Claim7.holds Tryd.pinned (.plain (OpenSpec.upto linesLongSpec)) linesLongUptoCard

/-- THE SECOND FORM's CARD OF 'postbaglaw02.LinesPlays'. -/
def linesPlaysUptoCard : Claim7 := { stood := { row := linesPlaysUptoRow, standIns := [], harness := (true, "d23c972b2e412363b7214f7711ec9a7ff3d02b739847a776731870948c10148b"), looks := true }, kinds := [], alts := [], laidByText := true, laidKinds := [.sentinel, .sentinel, .sentinel, .sentinel, .sentinel, .sentinel, .sentinel, .sentinel, .sentinel, .sentinel, .sentinel, .sentinel, .sentinel], laidTests := true, laidLooks := .later }
def LinesPlaysUptoCardSaid : Prop := Claim7.holds Tryd.pinned (.plain (OpenSpec.upto linesPlaysSpec)) linesPlaysUptoCard

/-- THE SECOND FORM's CARD OF 'postbaglaw02.LinesSplits'. -/
def linesSplitsUptoCard : Claim7 := { stood := { row := linesSplitsUptoRow, standIns := [], harness := (true, "d23c972b2e412363b7214f7711ec9a7ff3d02b739847a776731870948c10148b"), looks := true }, kinds := [], alts := [], laidByText := true, laidKinds := [.sentinel, .sentinel], laidTests := true, laidLooks := .later }
def LinesSplitsUptoCardSaid : Prop := Claim7.holds Tryd.pinned (.plain (OpenSpec.upto linesSplitsSpec)) linesSplitsUptoCard
end Rows
end Go.Proofs.YtglopeijohdobaaDoor
