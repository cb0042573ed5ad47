/-
  DERIVED. GIVEN WITH THE SEED: THE CARDS: each row of YthkkdbpblajahaaDoorRows.lean that lists a variable, with what it lists TIED to the program's text (the seventh form; the later family's looks); each row that meets fmt, with fmt's text TOLD by the authors' own Lean function (tested against real Go, not proved from fmt's source: count such statements apart). THE CARD IS WHAT COUNTS. Prove the row's statement (the work); the ties are given (YthkkdbpblajahaaDoorTie.lean); close each card by the builder's one call (the guide's Derived/Test/ToyasCard.lean, 'card_holds'). Laid BY PROGRAM, IN A SANDBOX (cutbox-door.mjs). By AI agents, Wed Nov 11 2026. No macro, syntax, notation, axiom, sorry.
-/
import Derived.Test.YthkkdbpblajahaaDoorRows
import GoSem.ClaimSeven
namespace Go.Proofs.YthkkdbpblajahaaDoor
namespace Rows

/-- THE TIED CARD OF 'postbaglaw01.DatesYears'. -/
def datesYearsCard : Claim7 := { stood := { row := datesYearsRow, standIns := [], harness := (true, "f088ef91f01161d707c48e496bbdec6274722969e9ed143e6d7ab92dcec9950b"), looks := true }, kinds := [], alts := [], laidByText := true, laidKinds := [.sentinel], laidTests := true, laidLooks := .later }
def DatesYearsCardSaid : Prop := Claim7.holds Tryd.pinned (.plain (OpenSpec.ofChange datesYearsSpec)) datesYearsCard

/-- THE TIED CARD OF 'postbaglaw01.DatesNext'. -/
def datesNextCard : Claim7 := { stood := { row := datesNextRow, standIns := [], harness := (true, "f088ef91f01161d707c48e496bbdec6274722969e9ed143e6d7ab92dcec9950b"), looks := true }, kinds := [], alts := [], laidByText := true, laidKinds := [.sentinel], laidTests := true, laidLooks := .later }
def DatesNextCardSaid : Prop := Claim7.holds Tryd.pinned (.plain (OpenSpec.ofChange datesNextSpec)) datesNextCard

/-- THE TIED CARD OF 'postbaglaw01.DatesCivil'. -/
def datesCivilCard : Claim7 := { stood := { row := datesCivilRow, standIns := [], harness := (true, "f088ef91f01161d707c48e496bbdec6274722969e9ed143e6d7ab92dcec9950b"), looks := true }, kinds := [], alts := [], laidByText := true, laidKinds := [.sentinel, .sentinel, .sentinel, .sentinel, .sentinel, .sentinel, .sentinel, .sentinel, .sentinel, .sentinel, .sentinel, .sentinel, .sentinel], laidTests := true, laidLooks := .later }
def DatesCivilCardSaid : Prop := Claim7.holds Tryd.pinned (.plain (OpenSpec.ofChange datesCivilSpec)) datesCivilCard

/-- THE TIED CARD OF 'postbaglaw01.DatesDays'. -/
def datesDaysCard : Claim7 := { stood := { row := datesDaysRow, standIns := [], harness := (true, "f088ef91f01161d707c48e496bbdec6274722969e9ed143e6d7ab92dcec9950b"), looks := true }, kinds := [], alts := [], laidByText := true, laidKinds := [.sentinel, .sentinel, .sentinel, .sentinel, .sentinel, .sentinel, .sentinel, .sentinel, .sentinel, .sentinel, .sentinel, .sentinel, .sentinel], laidTests := true, laidLooks := .later }
def DatesDaysCardSaid : Prop := Claim7.holds Tryd.pinned (.plain (OpenSpec.ofChange datesDaysSpec)) datesDaysCard

/-- THE TIED CARD OF 'postbaglaw01.DatesReads'. -/
def datesReadsCard : Claim7 := { stood := { row := datesReadsRow, standIns := [], harness := (true, "f088ef91f01161d707c48e496bbdec6274722969e9ed143e6d7ab92dcec9950b"), looks := true }, kinds := [], alts := [], laidByText := true, laidKinds := [.sentinel, .sentinel, .sentinel, .sentinel, .sentinel, .sentinel, .sentinel, .sentinel, .sentinel, .sentinel, .sentinel, .sentinel, .sentinel], laidTests := true, laidLooks := .later }
def DatesReadsCardSaid : Prop := Claim7.holds Tryd.pinned (.plain (OpenSpec.ofChange datesReadsSpec)) datesReadsCard

/-- THE TIED CARD OF 'postbaglaw01.DatesMail'. -/
def datesMailCard : Claim7 := { stood := { row := datesMailRow, standIns := [], harness := (true, "f088ef91f01161d707c48e496bbdec6274722969e9ed143e6d7ab92dcec9950b"), looks := true }, kinds := [], alts := [], laidByText := true, laidKinds := [.data, .data, .data, .sentinel, .sentinel, .sentinel, .sentinel, .sentinel, .sentinel, .sentinel, .sentinel, .sentinel, .sentinel, .sentinel, .sentinel, .sentinel], laidTests := true, laidLooks := .later }
def DatesMailCardSaid : Prop := Claim7.holds Tryd.pinned (.plain (OpenSpec.ofChange datesMailSpec)) datesMailCard

/-- THE TIED CARD OF 'postbaglaw01.DatesBox'. -/
def datesBoxCard : Claim7 := { stood := { row := datesBoxRow, standIns := [], harness := (true, "f088ef91f01161d707c48e496bbdec6274722969e9ed143e6d7ab92dcec9950b"), looks := true }, kinds := [], alts := [], laidByText := true, laidKinds := [.data, .data, .data, .sentinel, .sentinel, .sentinel, .sentinel, .sentinel, .sentinel, .sentinel, .sentinel, .sentinel, .sentinel, .sentinel, .sentinel, .sentinel], laidTests := true, laidLooks := .later }
def DatesBoxCardSaid : Prop := Claim7.holds Tryd.pinned (.plain (OpenSpec.ofChange datesBoxSpec)) datesBoxCard

/-- THE TIED CARD OF 'postbaglaw01.DatesInternal'. -/
def datesInternalCard : Claim7 := { stood := { row := datesInternalRow, standIns := [], harness := (true, "f088ef91f01161d707c48e496bbdec6274722969e9ed143e6d7ab92dcec9950b"), looks := true }, kinds := [], alts := [], laidByText := true, laidKinds := [.data, .data, .data, .sentinel, .sentinel, .sentinel, .sentinel, .sentinel, .sentinel, .sentinel, .sentinel, .sentinel, .sentinel, .sentinel, .sentinel, .sentinel], laidTests := true, laidLooks := .later }
def DatesInternalCardSaid : Prop := Claim7.holds Tryd.pinned (.plain (OpenSpec.ofChange datesInternalSpec)) datesInternalCard

/-- THE TIED CARD OF 'postbaglaw01.DatesFields'. -/
def datesFieldsCard : Claim7 := { stood := { row := datesFieldsRow, standIns := [], harness := (true, "f088ef91f01161d707c48e496bbdec6274722969e9ed143e6d7ab92dcec9950b"), looks := true }, kinds := [], alts := [], laidByText := true, laidKinds := [.sentinel, .sentinel, .sentinel, .sentinel, .sentinel, .sentinel, .sentinel, .sentinel, .sentinel, .sentinel, .sentinel, .sentinel, .sentinel], laidTests := true, laidLooks := .later }
def DatesFieldsCardSaid : Prop := Claim7.holds Tryd.pinned (.plain (OpenSpec.ofChange datesFieldsSpec)) datesFieldsCard

/-- THE TIED CARD OF 'postbaglaw01.DatesBack'. -/
def datesBackCard : Claim7 := { stood := { row := datesBackRow, standIns := [], harness := (true, "f088ef91f01161d707c48e496bbdec6274722969e9ed143e6d7ab92dcec9950b"), looks := true }, kinds := [], alts := [], laidByText := true, laidKinds := [.data, .data, .data, .sentinel, .sentinel], laidTests := true, laidLooks := .later }
def DatesBackCardSaid : Prop := Claim7.holds Tryd.pinned (.plain (OpenSpec.ofChange datesBackSpec)) datesBackCard

/-- THE SECOND FORM's CARD OF 'postbaglaw01.DatesYears'. -/
def datesYearsUptoCard : Claim7 := { stood := { row := datesYearsUptoRow, standIns := [], harness := (true, "f088ef91f01161d707c48e496bbdec6274722969e9ed143e6d7ab92dcec9950b"), looks := true }, kinds := [], alts := [], laidByText := true, laidKinds := [.sentinel], laidTests := true, laidLooks := .later }
def DatesYearsUptoCardSaid : Prop := Claim7.holds Tryd.pinned (.plain (OpenSpec.upto datesYearsSpec)) datesYearsUptoCard

/-- THE SECOND FORM's CARD OF 'postbaglaw01.DatesNext'. -/
def datesNextUptoCard : Claim7 := { stood := { row := datesNextUptoRow, standIns := [], harness := (true, "f088ef91f01161d707c48e496bbdec6274722969e9ed143e6d7ab92dcec9950b"), looks := true }, kinds := [], alts := [], laidByText := true, laidKinds := [.sentinel], laidTests := true, laidLooks := .later }
def DatesNextUptoCardSaid : Prop := Claim7.holds Tryd.pinned (.plain (OpenSpec.upto datesNextSpec)) datesNextUptoCard

/-- THE SECOND FORM's CARD OF 'postbaglaw01.DatesCivil'. -/
def datesCivilUptoCard : Claim7 := { stood := { row := datesCivilUptoRow, standIns := [], harness := (true, "f088ef91f01161d707c48e496bbdec6274722969e9ed143e6d7ab92dcec9950b"), looks := true }, kinds := [], alts := [], laidByText := true, laidKinds := [.sentinel, .sentinel, .sentinel, .sentinel, .sentinel, .sentinel, .sentinel, .sentinel, .sentinel, .sentinel, .sentinel, .sentinel, .sentinel], laidTests := true, laidLooks := .later }
def DatesCivilUptoCardSaid : Prop := Claim7.holds Tryd.pinned (.plain (OpenSpec.upto datesCivilSpec)) datesCivilUptoCard

/-- THE SECOND FORM's CARD OF 'postbaglaw01.DatesDays'. -/
def datesDaysUptoCard : Claim7 := { stood := { row := datesDaysUptoRow, standIns := [], harness := (true, "f088ef91f01161d707c48e496bbdec6274722969e9ed143e6d7ab92dcec9950b"), looks := true }, kinds := [], alts := [], laidByText := true, laidKinds := [.sentinel, .sentinel, .sentinel, .sentinel, .sentinel, .sentinel, .sentinel, .sentinel, .sentinel, .sentinel, .sentinel, .sentinel, .sentinel], laidTests := true, laidLooks := .later }
def DatesDaysUptoCardSaid : Prop := Claim7.holds Tryd.pinned (.plain (OpenSpec.upto datesDaysSpec)) datesDaysUptoCard

/-- THE SECOND FORM's CARD OF 'postbaglaw01.DatesReads'. -/
def datesReadsUptoCard : Claim7 := { stood := { row := datesReadsUptoRow, standIns := [], harness := (true, "f088ef91f01161d707c48e496bbdec6274722969e9ed143e6d7ab92dcec9950b"), looks := true }, kinds := [], alts := [], laidByText := true, laidKinds := [.sentinel, .sentinel, .sentinel, .sentinel, .sentinel, .sentinel, .sentinel, .sentinel, .sentinel, .sentinel, .sentinel, .sentinel, .sentinel], laidTests := true, laidLooks := .later }
def DatesReadsUptoCardSaid : Prop := Claim7.holds Tryd.pinned (.plain (OpenSpec.upto datesReadsSpec)) datesReadsUptoCard

/-- THE SECOND FORM's CARD OF 'postbaglaw01.DatesMail'. -/
def datesMailUptoCard : Claim7 := { stood := { row := datesMailUptoRow, standIns := [], harness := (true, "f088ef91f01161d707c48e496bbdec6274722969e9ed143e6d7ab92dcec9950b"), looks := true }, kinds := [], alts := [], laidByText := true, laidKinds := [.data, .data, .data, .sentinel, .sentinel, .sentinel, .sentinel, .sentinel, .sentinel, .sentinel, .sentinel, .sentinel, .sentinel, .sentinel, .sentinel, .sentinel], laidTests := true, laidLooks := .later }
def DatesMailUptoCardSaid : Prop := Claim7.holds Tryd.pinned (.plain (OpenSpec.upto datesMailSpec)) datesMailUptoCard

/-- THE SECOND FORM's CARD OF 'postbaglaw01.DatesBox'. -/
def datesBoxUptoCard : Claim7 := { stood := { row := datesBoxUptoRow, standIns := [], harness := (true, "f088ef91f01161d707c48e496bbdec6274722969e9ed143e6d7ab92dcec9950b"), looks := true }, kinds := [], alts := [], laidByText := true, laidKinds := [.data, .data, .data, .sentinel, .sentinel, .sentinel, .sentinel, .sentinel, .sentinel, .sentinel, .sentinel, .sentinel, .sentinel, .sentinel, .sentinel, .sentinel], laidTests := true, laidLooks := .later }
def DatesBoxUptoCardSaid : Prop := Claim7.holds Tryd.pinned (.plain (OpenSpec.upto datesBoxSpec)) datesBoxUptoCard

/-- THE SECOND FORM's CARD OF 'postbaglaw01.DatesInternal'. -/
def datesInternalUptoCard : Claim7 := { stood := { row := datesInternalUptoRow, standIns := [], harness := (true, "f088ef91f01161d707c48e496bbdec6274722969e9ed143e6d7ab92dcec9950b"), looks := true }, kinds := [], alts := [], laidByText := true, laidKinds := [.data, .data, .data, .sentinel, .sentinel, .sentinel, .sentinel, .sentinel, .sentinel, .sentinel, .sentinel, .sentinel, .sentinel, .sentinel, .sentinel, .sentinel], laidTests := true, laidLooks := .later }
def DatesInternalUptoCardSaid : Prop := Claim7.holds Tryd.pinned (.plain (OpenSpec.upto datesInternalSpec)) datesInternalUptoCard

/-- THE SECOND FORM's CARD OF 'postbaglaw01.DatesFields'. -/
def datesFieldsUptoCard : Claim7 := { stood := { row := datesFieldsUptoRow, standIns := [], harness := (true, "f088ef91f01161d707c48e496bbdec6274722969e9ed143e6d7ab92dcec9950b"), looks := true }, kinds := [], alts := [], laidByText := true, laidKinds := [.sentinel, .sentinel, .sentinel, .sentinel, .sentinel, .sentinel, .sentinel, .sentinel, .sentinel, .sentinel, .sentinel, .sentinel, .sentinel], laidTests := true, laidLooks := .later }
def DatesFieldsUptoCardSaid : Prop := Claim7.holds Tryd.pinned (.plain (OpenSpec.upto datesFieldsSpec)) datesFieldsUptoCard

/-- THE SECOND FORM's CARD OF 'postbaglaw01.DatesBack'. -/
def datesBackUptoCard : Claim7 := { stood := { row := datesBackUptoRow, standIns := [], harness := (true, "f088ef91f01161d707c48e496bbdec6274722969e9ed143e6d7ab92dcec9950b"), looks := true }, kinds := [], alts := [], laidByText := true, laidKinds := [.data, .data, .data, .sentinel, .sentinel], laidTests := true, laidLooks := .later }
def DatesBackUptoCardSaid : Prop := Claim7.holds Tryd.pinned (.plain (OpenSpec.upto datesBackSpec)) datesBackUptoCard
end Rows
end Go.Proofs.YthkkdbpblajahaaDoor
