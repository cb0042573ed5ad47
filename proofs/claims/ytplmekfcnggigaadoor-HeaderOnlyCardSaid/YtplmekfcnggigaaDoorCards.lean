/-
  DERIVED. GIVEN WITH THE SEED: THE CARDS: each row of YtplmekfcnggigaaDoorRows.lean that lists a variable, with what it lists TIED to the program's text (the seventh form; the later family's looks); each row that meets fmt, with fmt's text TOLD by the authors' own Lean function (tested against real Go, not proved from fmt's source: count such statements apart). THE CARD IS WHAT COUNTS. Prove the row's statement (the work); the ties are given (YtplmekfcnggigaaDoorTie.lean); close each card by the builder's one call (the guide's Derived/Test/ToyasCard.lean, 'card_holds'). Laid BY PROGRAM, IN A SANDBOX (cutbox-door.mjs). By AI agents, Wed Nov 11 2026. No macro, syntax, notation, axiom, sorry.
-/
import Derived.Test.YtplmekfcnggigaaDoorRows
import GoSem.ClaimSeven
namespace Go.Proofs.YtplmekfcnggigaaDoor
namespace Rows

/-- THE TIED CARD OF 'postbaglaw09.HeaderBodies'. -/
def headerBodiesCard : Claim7 := { stood := { row := headerBodiesRow, standIns := [], harness := (true, "1cdf70acca06bca6e83b85a6743dd333c63cabbbc1e3f2c35a4bb8d7542687b2"), looks := true }, kinds := [], alts := [], laidByText := true, laidKinds := [.data, .sentinel, .pinned], laidTests := true, laidLooks := .later }
def HeaderBodiesCardSaid : Prop := Claim7.holds Tryd.pinned (.plain (OpenSpec.ofChange headerBodiesSpec)) headerBodiesCard

/-- THE TIED CARD OF 'postbaglaw09.HeaderCounts'. -/
def headerCountsCard : Claim7 := { stood := { row := headerCountsRow, standIns := [], harness := (true, "1cdf70acca06bca6e83b85a6743dd333c63cabbbc1e3f2c35a4bb8d7542687b2"), looks := true }, kinds := [], alts := [], laidByText := true, laidKinds := [.data, .sentinel, .pinned], laidTests := true, laidLooks := .later }
def HeaderCountsCardSaid : Prop := Claim7.holds Tryd.pinned (.plain (OpenSpec.ofChange headerCountsSpec)) headerCountsCard

/-- THE TIED CARD OF 'postbaglaw09.HeaderFolds'. -/
def headerFoldsCard : Claim7 := { stood := { row := headerFoldsRow, standIns := [], harness := (true, "1cdf70acca06bca6e83b85a6743dd333c63cabbbc1e3f2c35a4bb8d7542687b2"), looks := true }, kinds := [], alts := [], laidByText := true, laidKinds := [.data, .sentinel, .pinned], laidTests := true, laidLooks := .later }
def HeaderFoldsCardSaid : Prop := Claim7.holds Tryd.pinned (.plain (OpenSpec.ofChange headerFoldsSpec)) headerFoldsCard

/-- THE TIED CARD OF 'postbaglaw09.HeaderSame'. -/
def headerSameCard : Claim7 := { stood := { row := headerSameRow, standIns := [], harness := (true, "1cdf70acca06bca6e83b85a6743dd333c63cabbbc1e3f2c35a4bb8d7542687b2"), looks := true }, kinds := [], alts := [], laidByText := true, laidKinds := [.data, .sentinel, .pinned], laidTests := true, laidLooks := .later }
def HeaderSameCardSaid : Prop := Claim7.holds Tryd.pinned (.plain (OpenSpec.ofChange headerSameSpec)) headerSameCard

/-- THE TIED CARD OF 'postbaglaw09.HeaderFields'. -/
def headerFieldsCard : Claim7 := { stood := { row := headerFieldsRow, standIns := [], harness := (true, "1cdf70acca06bca6e83b85a6743dd333c63cabbbc1e3f2c35a4bb8d7542687b2"), looks := true }, kinds := [], alts := [], laidByText := true, laidKinds := [.data, .sentinel, .sentinel, .sentinel, .sentinel, .sentinel, .sentinel, .sentinel, .sentinel, .sentinel, .sentinel, .sentinel, .sentinel, .sentinel, .pinned], laidTests := true, laidLooks := .later }
def HeaderFieldsCardSaid : Prop := Claim7.holds Tryd.pinned (.plain (OpenSpec.ofChange headerFieldsSpec)) headerFieldsCard

/-- THE TIED CARD OF 'postbaglaw09.HeaderGets'. -/
def headerGetsCard : Claim7 := { stood := { row := headerGetsRow, standIns := [], harness := (true, "1cdf70acca06bca6e83b85a6743dd333c63cabbbc1e3f2c35a4bb8d7542687b2"), looks := true }, kinds := [], alts := [], laidByText := true, laidKinds := [.data, .sentinel, .pinned], laidTests := true, laidLooks := .later }
def HeaderGetsCardSaid : Prop := Claim7.holds Tryd.pinned (.plain (OpenSpec.ofChange headerGetsSpec)) headerGetsCard

/-- THE TIED CARD OF 'postbaglaw09.HeaderOnly'. -/
def headerOnlyCard : Claim7 := { stood := { row := headerOnlyRow, standIns := [], harness := (true, "1cdf70acca06bca6e83b85a6743dd333c63cabbbc1e3f2c35a4bb8d7542687b2"), looks := true }, kinds := [], alts := [], laidByText := true, laidKinds := [.data, .sentinel, .pinned], laidTests := true, laidLooks := .later }
def HeaderOnlyCardSaid : Prop := Claim7.holds Tryd.pinned (.plain (OpenSpec.ofChange headerOnlySpec)) headerOnlyCard

/-- THE SECOND FORM's CARD OF 'postbaglaw09.HeaderBodies'. -/
def headerBodiesUptoCard : Claim7 := { stood := { row := headerBodiesUptoRow, standIns := [], harness := (true, "1cdf70acca06bca6e83b85a6743dd333c63cabbbc1e3f2c35a4bb8d7542687b2"), looks := true }, kinds := [], alts := [], laidByText := true, laidKinds := [.data, .sentinel, .pinned], laidTests := true, laidLooks := .later }
def HeaderBodiesUptoCardSaid : Prop := Claim7.holds Tryd.pinned (.plain (OpenSpec.upto headerBodiesSpec)) headerBodiesUptoCard

/-- THE SECOND FORM's CARD OF 'postbaglaw09.HeaderCounts'. -/
def headerCountsUptoCard : Claim7 := { stood := { row := headerCountsUptoRow, standIns := [], harness := (true, "1cdf70acca06bca6e83b85a6743dd333c63cabbbc1e3f2c35a4bb8d7542687b2"), looks := true }, kinds := [], alts := [], laidByText := true, laidKinds := [.data, .sentinel, .pinned], laidTests := true, laidLooks := .later }
def HeaderCountsUptoCardSaid : Prop := Claim7.holds Tryd.pinned (.plain (OpenSpec.upto headerCountsSpec)) headerCountsUptoCard

/-- THE SECOND FORM's CARD OF 'postbaglaw09.HeaderFolds'. -/
def headerFoldsUptoCard : Claim7 := { stood := { row := headerFoldsUptoRow, standIns := [], harness := (true, "1cdf70acca06bca6e83b85a6743dd333c63cabbbc1e3f2c35a4bb8d7542687b2"), looks := true }, kinds := [], alts := [], laidByText := true, laidKinds := [.data, .sentinel, .pinned], laidTests := true, laidLooks := .later }
def HeaderFoldsUptoCardSaid : Prop := Claim7.holds Tryd.pinned (.plain (OpenSpec.upto headerFoldsSpec)) headerFoldsUptoCard

/-- THE SECOND FORM's CARD OF 'postbaglaw09.HeaderSame'. -/
def headerSameUptoCard : Claim7 := { stood := { row := headerSameUptoRow, standIns := [], harness := (true, "1cdf70acca06bca6e83b85a6743dd333c63cabbbc1e3f2c35a4bb8d7542687b2"), looks := true }, kinds := [], alts := [], laidByText := true, laidKinds := [.data, .sentinel, .pinned], laidTests := true, laidLooks := .later }
def HeaderSameUptoCardSaid : Prop := Claim7.holds Tryd.pinned (.plain (OpenSpec.upto headerSameSpec)) headerSameUptoCard

/-- THE SECOND FORM's CARD OF 'postbaglaw09.HeaderFields'. -/
def headerFieldsUptoCard : Claim7 := { stood := { row := headerFieldsUptoRow, standIns := [], harness := (true, "1cdf70acca06bca6e83b85a6743dd333c63cabbbc1e3f2c35a4bb8d7542687b2"), looks := true }, kinds := [], alts := [], laidByText := true, laidKinds := [.data, .sentinel, .sentinel, .sentinel, .sentinel, .sentinel, .sentinel, .sentinel, .sentinel, .sentinel, .sentinel, .sentinel, .sentinel, .sentinel, .pinned], laidTests := true, laidLooks := .later }
def HeaderFieldsUptoCardSaid : Prop := Claim7.holds Tryd.pinned (.plain (OpenSpec.upto headerFieldsSpec)) headerFieldsUptoCard

/-- THE SECOND FORM's CARD OF 'postbaglaw09.HeaderGets'. -/
def headerGetsUptoCard : Claim7 := { stood := { row := headerGetsUptoRow, standIns := [], harness := (true, "1cdf70acca06bca6e83b85a6743dd333c63cabbbc1e3f2c35a4bb8d7542687b2"), looks := true }, kinds := [], alts := [], laidByText := true, laidKinds := [.data, .sentinel, .pinned], laidTests := true, laidLooks := .later }
def HeaderGetsUptoCardSaid : Prop := Claim7.holds Tryd.pinned (.plain (OpenSpec.upto headerGetsSpec)) headerGetsUptoCard

/-- THE SECOND FORM's CARD OF 'postbaglaw09.HeaderOnly'. -/
def headerOnlyUptoCard : Claim7 := { stood := { row := headerOnlyUptoRow, standIns := [], harness := (true, "1cdf70acca06bca6e83b85a6743dd333c63cabbbc1e3f2c35a4bb8d7542687b2"), looks := true }, kinds := [], alts := [], laidByText := true, laidKinds := [.data, .sentinel, .pinned], laidTests := true, laidLooks := .later }
def HeaderOnlyUptoCardSaid : Prop := Claim7.holds Tryd.pinned (.plain (OpenSpec.upto headerOnlySpec)) headerOnlyUptoCard
end Rows
end Go.Proofs.YtplmekfcnggigaaDoor
