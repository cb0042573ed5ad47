/-
  DERIVED. GIVEN WITH THE SEED: THE CARDS: each row of YtbaekebhnlonnaaDoorRows.lean that lists a variable, with what it lists TIED to the program's text (the seventh form; the later family's looks); each row that meets fmt, with fmt's text TOLD by the authors' own Lean function (tested against real Go, not proved from fmt's source: count such statements apart). THE CARD IS WHAT COUNTS. Prove the row's statement (the work); the ties are given (YtbaekebhnlonnaaDoorTie.lean); close each card by the builder's one call (the guide's Derived/Test/ToyasCard.lean, 'card_holds'). Laid BY PROGRAM, IN A SANDBOX (cutbox-door.mjs). By AI agents, Wed Nov 11 2026. No macro, syntax, notation, axiom, sorry.
-/
import Derived.Test.YtbaekebhnlonnaaDoorRows
import GoSem.ClaimSeven
namespace Go.Proofs.YtbaekebhnlonnaaDoor
namespace Rows

/-- THE TIED CARD OF 'postbaglaw03.QuoteLines'. -/
def quoteLinesCard : Claim7 := { stood := { row := quoteLinesRow, standIns := [], harness := (true, "b9c6cee9756f2911c12a140e4ba06d230974e8dddb5790882a1401d79b66318d"), looks := true }, kinds := [], alts := [], laidByText := true, laidKinds := [.data, .sentinel, .pinned], laidTests := true, laidLooks := .later }
def QuoteLinesCardSaid : Prop := Claim7.holds Tryd.pinned (.plain (OpenSpec.ofChange quoteLinesSpec)) quoteLinesCard

/-- THE TIED CARD OF 'postbaglaw03.QuoteBack'. -/
def quoteBackCard : Claim7 := { stood := { row := quoteBackRow, standIns := [], harness := (true, "b9c6cee9756f2911c12a140e4ba06d230974e8dddb5790882a1401d79b66318d"), looks := true }, kinds := [], alts := [], laidByText := true, laidKinds := [.data, .sentinel, .pinned], laidTests := true, laidLooks := .later }
def QuoteBackCardSaid : Prop := Claim7.holds Tryd.pinned (.plain (OpenSpec.ofChange quoteBackSpec)) quoteBackCard

/-- THE TIED CARD OF 'postbaglaw03.QuoteTwice'. -/
def quoteTwiceCard : Claim7 := { stood := { row := quoteTwiceRow, standIns := [], harness := (true, "b9c6cee9756f2911c12a140e4ba06d230974e8dddb5790882a1401d79b66318d"), looks := true }, kinds := [], alts := [], laidByText := true, laidKinds := [.data, .sentinel, .pinned], laidTests := true, laidLooks := .later }
def QuoteTwiceCardSaid : Prop := Claim7.holds Tryd.pinned (.plain (OpenSpec.ofChange quoteTwiceSpec)) quoteTwiceCard

/-- THE TIED CARD OF 'postbaglaw03.QuoteMessages'. -/
def quoteMessagesCard : Claim7 := { stood := { row := quoteMessagesRow, standIns := [], harness := (true, "b9c6cee9756f2911c12a140e4ba06d230974e8dddb5790882a1401d79b66318d"), looks := true }, kinds := [], alts := [], laidByText := true, laidKinds := [.data, .sentinel, .pinned], laidTests := true, laidLooks := .later }
def QuoteMessagesCardSaid : Prop := Claim7.holds Tryd.pinned (.plain (OpenSpec.ofChange quoteMessagesSpec)) quoteMessagesCard

/-- THE TIED CARD OF 'postbaglaw03.QuoteTexts'. -/
def quoteTextsCard : Claim7 := { stood := { row := quoteTextsRow, standIns := [], harness := (true, "b9c6cee9756f2911c12a140e4ba06d230974e8dddb5790882a1401d79b66318d"), looks := true }, kinds := [], alts := [], laidByText := true, laidKinds := [.data, .sentinel, .sentinel, .sentinel, .sentinel, .sentinel, .sentinel, .sentinel, .sentinel, .sentinel, .sentinel, .sentinel, .sentinel, .sentinel, .pinned], laidTests := true, laidLooks := .later }
def QuoteTextsCardSaid : Prop := Claim7.holds Tryd.pinned (.plain (OpenSpec.ofChange quoteTextsSpec)) quoteTextsCard

/-- THE SECOND FORM's CARD OF 'postbaglaw03.QuoteLines'. -/
def quoteLinesUptoCard : Claim7 := { stood := { row := quoteLinesUptoRow, standIns := [], harness := (true, "b9c6cee9756f2911c12a140e4ba06d230974e8dddb5790882a1401d79b66318d"), looks := true }, kinds := [], alts := [], laidByText := true, laidKinds := [.data, .sentinel, .pinned], laidTests := true, laidLooks := .later }
def QuoteLinesUptoCardSaid : Prop := Claim7.holds Tryd.pinned (.plain (OpenSpec.upto quoteLinesSpec)) quoteLinesUptoCard

/-- THE SECOND FORM's CARD OF 'postbaglaw03.QuoteBack'. -/
def quoteBackUptoCard : Claim7 := { stood := { row := quoteBackUptoRow, standIns := [], harness := (true, "b9c6cee9756f2911c12a140e4ba06d230974e8dddb5790882a1401d79b66318d"), looks := true }, kinds := [], alts := [], laidByText := true, laidKinds := [.data, .sentinel, .pinned], laidTests := true, laidLooks := .later }
def QuoteBackUptoCardSaid : Prop := Claim7.holds Tryd.pinned (.plain (OpenSpec.upto quoteBackSpec)) quoteBackUptoCard

/-- THE SECOND FORM's CARD OF 'postbaglaw03.QuoteTwice'. -/
def quoteTwiceUptoCard : Claim7 := { stood := { row := quoteTwiceUptoRow, standIns := [], harness := (true, "b9c6cee9756f2911c12a140e4ba06d230974e8dddb5790882a1401d79b66318d"), looks := true }, kinds := [], alts := [], laidByText := true, laidKinds := [.data, .sentinel, .pinned], laidTests := true, laidLooks := .later }
def QuoteTwiceUptoCardSaid : Prop := Claim7.holds Tryd.pinned (.plain (OpenSpec.upto quoteTwiceSpec)) quoteTwiceUptoCard

/-- THE SECOND FORM's CARD OF 'postbaglaw03.QuoteMessages'. -/
def quoteMessagesUptoCard : Claim7 := { stood := { row := quoteMessagesUptoRow, standIns := [], harness := (true, "b9c6cee9756f2911c12a140e4ba06d230974e8dddb5790882a1401d79b66318d"), looks := true }, kinds := [], alts := [], laidByText := true, laidKinds := [.data, .sentinel, .pinned], laidTests := true, laidLooks := .later }
def QuoteMessagesUptoCardSaid : Prop := Claim7.holds Tryd.pinned (.plain (OpenSpec.upto quoteMessagesSpec)) quoteMessagesUptoCard

/-- THE SECOND FORM's CARD OF 'postbaglaw03.QuoteTexts'. -/
def quoteTextsUptoCard : Claim7 := { stood := { row := quoteTextsUptoRow, standIns := [], harness := (true, "b9c6cee9756f2911c12a140e4ba06d230974e8dddb5790882a1401d79b66318d"), looks := true }, kinds := [], alts := [], laidByText := true, laidKinds := [.data, .sentinel, .sentinel, .sentinel, .sentinel, .sentinel, .sentinel, .sentinel, .sentinel, .sentinel, .sentinel, .sentinel, .sentinel, .sentinel, .pinned], laidTests := true, laidLooks := .later }
def QuoteTextsUptoCardSaid : Prop := Claim7.holds Tryd.pinned (.plain (OpenSpec.upto quoteTextsSpec)) quoteTextsUptoCard
end Rows
end Go.Proofs.YtbaekebhnlonnaaDoor
