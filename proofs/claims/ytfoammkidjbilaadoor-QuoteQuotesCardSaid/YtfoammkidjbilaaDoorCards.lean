/-
  DERIVED. GIVEN WITH THE SEED: THE CARDS: each row of YtfoammkidjbilaaDoorRows.lean that lists a variable, with what it lists TIED to the program's text (the seventh form; the later family's looks); each row that meets fmt, with fmt's text TOLD by the authors' own Lean function (tested against real Go, not proved from fmt's source: count such statements apart). THE CARD IS WHAT COUNTS. Prove the row's statement (the work); the ties are given (YtfoammkidjbilaaDoorTie.lean); close each card by the builder's one call (the guide's Derived/Test/ToyasCard.lean, 'card_holds'). Laid BY PROGRAM, IN A SANDBOX (cutbox-door.mjs). By AI agents, Wed Nov 11 2026. No macro, syntax, notation, axiom, sorry.
-/
import Derived.Test.YtfoammkidjbilaaDoorRows
import GoSem.ClaimSeven
namespace Go.Proofs.YtfoammkidjbilaaDoor
namespace Rows

/-- THE TIED CARD OF 'haversacklaw03.QuoteEscapes'. -/
def quoteEscapesCard : Claim7 := { stood := { row := quoteEscapesRow, standIns := [], harness := (true, "d9f469ea3648b3f3e5347ed92e8e3e1840013567efa46bdb8995c20a609aade3"), looks := true }, kinds := [], alts := [], laidByText := true, laidKinds := [.data, .sentinel, .data, .pinned], laidTests := true, laidLooks := .later }
def QuoteEscapesCardSaid : Prop := Claim7.holds Tryd.pinned (.plain (OpenSpec.ofChange quoteEscapesSpec)) quoteEscapesCard

/-- THE TIED CARD OF 'haversacklaw03.QuoteJoins'. -/
def quoteJoinsCard : Claim7 := { stood := { row := quoteJoinsRow, standIns := [], harness := (true, "d9f469ea3648b3f3e5347ed92e8e3e1840013567efa46bdb8995c20a609aade3"), looks := true }, kinds := [], alts := [], laidByText := true, laidKinds := [.data, .sentinel, .data, .pinned], laidTests := true, laidLooks := .later }
def QuoteJoinsCardSaid : Prop := Claim7.holds Tryd.pinned (.plain (OpenSpec.ofChange quoteJoinsSpec)) quoteJoinsCard

/-- THE TIED CARD OF 'haversacklaw03.QuotePieces'. -/
def quotePiecesCard : Claim7 := { stood := { row := quotePiecesRow, standIns := [], harness := (true, "d9f469ea3648b3f3e5347ed92e8e3e1840013567efa46bdb8995c20a609aade3"), looks := true }, kinds := [], alts := [], laidByText := true, laidKinds := [.data, .sentinel, .data, .pinned], laidTests := true, laidLooks := .later }
def QuotePiecesCardSaid : Prop := Claim7.holds Tryd.pinned (.plain (OpenSpec.ofChange quotePiecesSpec)) quotePiecesCard

/-- THE TIED CARD OF 'haversacklaw03.QuoteTakes'. -/
def quoteTakesCard : Claim7 := { stood := { row := quoteTakesRow, standIns := [], harness := (true, "d9f469ea3648b3f3e5347ed92e8e3e1840013567efa46bdb8995c20a609aade3"), looks := true }, kinds := [], alts := [], laidByText := true, laidKinds := [.data, .sentinel, .sentinel, .sentinel, .sentinel, .sentinel, .sentinel, .sentinel, .sentinel, .sentinel, .sentinel, .sentinel, .sentinel, .sentinel, .data, .pinned], laidTests := true, laidLooks := .later }
def QuoteTakesCardSaid : Prop := Claim7.holds Tryd.pinned (.plain (OpenSpec.ofChange quoteTakesSpec)) quoteTakesCard

/-- THE TIED CARD OF 'haversacklaw03.QuoteParses'. -/
def quoteParsesCard : Claim7 := { stood := { row := quoteParsesRow, standIns := [], harness := (true, "d9f469ea3648b3f3e5347ed92e8e3e1840013567efa46bdb8995c20a609aade3"), looks := true }, kinds := [], alts := [], laidByText := true, laidKinds := [.data, .sentinel, .sentinel, .sentinel, .sentinel, .sentinel, .sentinel, .sentinel, .sentinel, .sentinel, .sentinel, .sentinel, .sentinel, .sentinel, .data, .pinned], laidTests := true, laidLooks := .later }
def QuoteParsesCardSaid : Prop := Claim7.holds Tryd.pinned (.plain (OpenSpec.ofChange quoteParsesSpec)) quoteParsesCard

/-- THE TIED CARD OF 'haversacklaw03.QuoteQuotes'. -/
def quoteQuotesCard : Claim7 := { stood := { row := quoteQuotesRow, standIns := [], harness := (true, "d9f469ea3648b3f3e5347ed92e8e3e1840013567efa46bdb8995c20a609aade3"), looks := true }, kinds := [], alts := [], laidByText := true, laidKinds := [.data, .sentinel, .sentinel, .sentinel, .sentinel, .sentinel, .sentinel, .sentinel, .sentinel, .sentinel, .sentinel, .sentinel, .sentinel, .sentinel, .data, .pinned], laidTests := true, laidLooks := .later }
def QuoteQuotesCardSaid : Prop := Claim7.holds Tryd.pinned (.plain (OpenSpec.ofChange quoteQuotesSpec)) quoteQuotesCard

/-- THE SECOND FORM's CARD OF 'haversacklaw03.QuoteEscapes'. -/
def quoteEscapesUptoCard : Claim7 := { stood := { row := quoteEscapesUptoRow, standIns := [], harness := (true, "d9f469ea3648b3f3e5347ed92e8e3e1840013567efa46bdb8995c20a609aade3"), looks := true }, kinds := [], alts := [], laidByText := true, laidKinds := [.data, .sentinel, .data, .pinned], laidTests := true, laidLooks := .later }
def QuoteEscapesUptoCardSaid : Prop := Claim7.holds Tryd.pinned (.plain (OpenSpec.upto quoteEscapesSpec)) quoteEscapesUptoCard

/-- THE SECOND FORM's CARD OF 'haversacklaw03.QuoteJoins'. -/
def quoteJoinsUptoCard : Claim7 := { stood := { row := quoteJoinsUptoRow, standIns := [], harness := (true, "d9f469ea3648b3f3e5347ed92e8e3e1840013567efa46bdb8995c20a609aade3"), looks := true }, kinds := [], alts := [], laidByText := true, laidKinds := [.data, .sentinel, .data, .pinned], laidTests := true, laidLooks := .later }
def QuoteJoinsUptoCardSaid : Prop := Claim7.holds Tryd.pinned (.plain (OpenSpec.upto quoteJoinsSpec)) quoteJoinsUptoCard

/-- THE SECOND FORM's CARD OF 'haversacklaw03.QuotePieces'. -/
def quotePiecesUptoCard : Claim7 := { stood := { row := quotePiecesUptoRow, standIns := [], harness := (true, "d9f469ea3648b3f3e5347ed92e8e3e1840013567efa46bdb8995c20a609aade3"), looks := true }, kinds := [], alts := [], laidByText := true, laidKinds := [.data, .sentinel, .data, .pinned], laidTests := true, laidLooks := .later }
def QuotePiecesUptoCardSaid : Prop := Claim7.holds Tryd.pinned (.plain (OpenSpec.upto quotePiecesSpec)) quotePiecesUptoCard

/-- THE SECOND FORM's CARD OF 'haversacklaw03.QuoteTakes'. -/
def quoteTakesUptoCard : Claim7 := { stood := { row := quoteTakesUptoRow, standIns := [], harness := (true, "d9f469ea3648b3f3e5347ed92e8e3e1840013567efa46bdb8995c20a609aade3"), looks := true }, kinds := [], alts := [], laidByText := true, laidKinds := [.data, .sentinel, .sentinel, .sentinel, .sentinel, .sentinel, .sentinel, .sentinel, .sentinel, .sentinel, .sentinel, .sentinel, .sentinel, .sentinel, .data, .pinned], laidTests := true, laidLooks := .later }
def QuoteTakesUptoCardSaid : Prop := Claim7.holds Tryd.pinned (.plain (OpenSpec.upto quoteTakesSpec)) quoteTakesUptoCard

/-- THE SECOND FORM's CARD OF 'haversacklaw03.QuoteParses'. -/
def quoteParsesUptoCard : Claim7 := { stood := { row := quoteParsesUptoRow, standIns := [], harness := (true, "d9f469ea3648b3f3e5347ed92e8e3e1840013567efa46bdb8995c20a609aade3"), looks := true }, kinds := [], alts := [], laidByText := true, laidKinds := [.data, .sentinel, .sentinel, .sentinel, .sentinel, .sentinel, .sentinel, .sentinel, .sentinel, .sentinel, .sentinel, .sentinel, .sentinel, .sentinel, .data, .pinned], laidTests := true, laidLooks := .later }
def QuoteParsesUptoCardSaid : Prop := Claim7.holds Tryd.pinned (.plain (OpenSpec.upto quoteParsesSpec)) quoteParsesUptoCard

/-- THE SECOND FORM's CARD OF 'haversacklaw03.QuoteQuotes'. -/
def quoteQuotesUptoCard : Claim7 := { stood := { row := quoteQuotesUptoRow, standIns := [], harness := (true, "d9f469ea3648b3f3e5347ed92e8e3e1840013567efa46bdb8995c20a609aade3"), looks := true }, kinds := [], alts := [], laidByText := true, laidKinds := [.data, .sentinel, .sentinel, .sentinel, .sentinel, .sentinel, .sentinel, .sentinel, .sentinel, .sentinel, .sentinel, .sentinel, .sentinel, .sentinel, .data, .pinned], laidTests := true, laidLooks := .later }
def QuoteQuotesUptoCardSaid : Prop := Claim7.holds Tryd.pinned (.plain (OpenSpec.upto quoteQuotesSpec)) quoteQuotesUptoCard
end Rows
end Go.Proofs.YtfoammkidjbilaaDoor
