/-
  NARROWER THAN 'FOR EVERY INPUT', by the rows' own cells (each row's printed sentence says how): QuoteEscapes: laid · QuoteJoins: laid · QuotePieces: laid · QuoteTakes: laid · QuoteParses: laid · QuoteQuotes: laid.
  DERIVED. THE GIVEN ROWS OF THIS SEAT. 6 by the template 'for every input the law returns true; each argument reads behind the call as it read before'; 0 by the template 'total and deterministic' (their statements: YtfoammkidjbilaaDoorTotals.lean).
  GIVEN WITH THE SEED: the statements are not yours to turn. If you find one false, say at which input.
  Laid BY PROGRAM, IN A SANDBOX (cutbox-rows.mjs): the forced cells as the released guide's own fill.sh prints them over the translation 3c640cc89e4638ec… (all of the seat's roots in one cut). By AI agents, Wed Nov 11 2026. No macro, syntax, notation, axiom, sorry.
-/
import Derived.Test.YtfoammkidjbilaaDoorChecked
import GoSem.PinnedTables
import GoSem.Claim
import GoSem.ClaimJoined
import GoSem.ClaimMapViews
import Derived.JoinedTies
import Derived.KernelRfl
namespace Go.Proofs.YtfoammkidjbilaaDoor
/- THE CELL 'sum', in the pinned program and in every row, IS THE sha256 OF THE DUMP (.gsa) THAT YtfoammkidjbilaaDoorProg.lean LOADS. Nothing in Lean hashes anything: it is a label: what it is worth is what the hold of that sum in a sandbox is worth. -/
noncomputable def Tryd.pinned : Pinned := { name := "ytfoammkidjbilaadoor", sum := "3c640cc89e4638ec028898b886b66c66d4522af1369efa5ae66ebf54b62aaa91", checked := Tryd.checked }
namespace Rows
def none {H : Type} : Left H := { results := [], args := [] }

/- WHAT THE LISTED PACKAGE-LEVEL VARIABLES READ AS WHEN THE CALL BEGINS. Each datum BY PROGRAM (the guide's laid-datum.mjs) off the statement by which the dump's own 'gosem.cut.vars' lays the variable. In a bare row this is a premise. The card (YtfoammkidjbilaaDoorCards.lean) ties it to the program's text. -/
def laid_unicode_utf8_acceptRanges {H : Type} : DataW H := .agg [.agg [.lit (.int .u8 128), .lit (.int .u8 191)], .agg [.lit (.int .u8 160), .lit (.int .u8 191)], .agg [.lit (.int .u8 128), .lit (.int .u8 159)], .agg [.lit (.int .u8 144), .lit (.int .u8 191)], .agg [.lit (.int .u8 128), .lit (.int .u8 143)], .agg [.lit (.int .u8 0), .lit (.int .u8 0)], .agg [.lit (.int .u8 0), .lit (.int .u8 0)], .agg [.lit (.int .u8 0), .lit (.int .u8 0)], .agg [.lit (.int .u8 0), .lit (.int .u8 0)], .agg [.lit (.int .u8 0), .lit (.int .u8 0)], .agg [.lit (.int .u8 0), .lit (.int .u8 0)], .agg [.lit (.int .u8 0), .lit (.int .u8 0)], .agg [.lit (.int .u8 0), .lit (.int .u8 0)], .agg [.lit (.int .u8 0), .lit (.int .u8 0)], .agg [.lit (.int .u8 0), .lit (.int .u8 0)], .agg [.lit (.int .u8 0), .lit (.int .u8 0)]]
def laid_haversack_api_ErrSyntax {H : Type} : DataW H := .iface "*errors.errorString" (.ptr (.agg [.lit (.string [104, 97, 118, 101, 114, 115, 97, 99, 107, 58, 32, 115, 121, 110, 116, 97, 120])]))
def laid_haversack_quote_controls {H : Type} : DataW H := .agg [.lit (.string [92, 117, 48, 48, 48, 48]), .lit (.string [92, 117, 48, 48, 48, 49]), .lit (.string [92, 117, 48, 48, 48, 50]), .lit (.string [92, 117, 48, 48, 48, 51]), .lit (.string [92, 117, 48, 48, 48, 52]), .lit (.string [92, 117, 48, 48, 48, 53]), .lit (.string [92, 117, 48, 48, 48, 54]), .lit (.string [92, 117, 48, 48, 48, 55]), .lit (.string [92, 98]), .lit (.string [92, 116]), .lit (.string [92, 110]), .lit (.string [92, 117, 48, 48, 48, 98]), .lit (.string [92, 102]), .lit (.string [92, 114]), .lit (.string [92, 117, 48, 48, 48, 101]), .lit (.string [92, 117, 48, 48, 48, 102]), .lit (.string [92, 117, 48, 48, 49, 48]), .lit (.string [92, 117, 48, 48, 49, 49]), .lit (.string [92, 117, 48, 48, 49, 50]), .lit (.string [92, 117, 48, 48, 49, 51]), .lit (.string [92, 117, 48, 48, 49, 52]), .lit (.string [92, 117, 48, 48, 49, 53]), .lit (.string [92, 117, 48, 48, 49, 54]), .lit (.string [92, 117, 48, 48, 49, 55]), .lit (.string [92, 117, 48, 48, 49, 56]), .lit (.string [92, 117, 48, 48, 49, 57]), .lit (.string [92, 117, 48, 48, 49, 97]), .lit (.string [92, 117, 48, 48, 49, 98]), .lit (.string [92, 117, 48, 48, 49, 99]), .lit (.string [92, 117, 48, 48, 49, 100]), .lit (.string [92, 117, 48, 48, 49, 101]), .lit (.string [92, 117, 48, 48, 49, 102])]
/-- One of Go's own tables, pinned by name: the form's constant. -/
def laid_unicode_utf8_first : DataW Unit := Go.Pinned.utf8First
def laid_haversack_api_ErrDepth {H : Type} : DataW H := .iface "*errors.errorString" (.ptr (.agg [.lit (.string [104, 97, 118, 101, 114, 115, 97, 99, 107, 58, 32, 100, 101, 112, 116, 104])]))
def laid_haversack_api_ErrSize {H : Type} : DataW H := .iface "*errors.errorString" (.ptr (.agg [.lit (.string [104, 97, 118, 101, 114, 115, 97, 99, 107, 58, 32, 115, 105, 122, 101])]))
def laid_haversack_api_ErrNumber {H : Type} : DataW H := .iface "*errors.errorString" (.ptr (.agg [.lit (.string [104, 97, 118, 101, 114, 115, 97, 99, 107, 58, 32, 110, 117, 109, 98, 101, 114])]))
def laid_haversack_api_ErrKey {H : Type} : DataW H := .iface "*errors.errorString" (.ptr (.agg [.lit (.string [104, 97, 118, 101, 114, 115, 97, 99, 107, 58, 32, 107, 101, 121])]))
def laid_haversack_api_ErrType {H : Type} : DataW H := .iface "*errors.errorString" (.ptr (.agg [.lit (.string [104, 97, 118, 101, 114, 115, 97, 99, 107, 58, 32, 116, 121, 112, 101])]))
def laid_haversack_api_ErrName {H : Type} : DataW H := .iface "*errors.errorString" (.ptr (.agg [.lit (.string [104, 97, 118, 101, 114, 115, 97, 99, 107, 58, 32, 110, 97, 109, 101])]))
def laid_haversack_api_ErrVersion {H : Type} : DataW H := .iface "*errors.errorString" (.ptr (.agg [.lit (.string [104, 97, 118, 101, 114, 115, 97, 99, 107, 58, 32, 118, 101, 114, 115, 105, 111, 110])]))
def laid_haversack_api_ErrSpec {H : Type} : DataW H := .iface "*errors.errorString" (.ptr (.agg [.lit (.string [104, 97, 118, 101, 114, 115, 97, 99, 107, 58, 32, 115, 112, 101, 99])]))
def laid_haversack_api_ErrRange {H : Type} : DataW H := .iface "*errors.errorString" (.ptr (.agg [.lit (.string [104, 97, 118, 101, 114, 115, 97, 99, 107, 58, 32, 114, 97, 110, 103, 101])]))
def laid_haversack_api_ErrNone {H : Type} : DataW H := .iface "*errors.errorString" (.ptr (.agg [.lit (.string [104, 97, 118, 101, 114, 115, 97, 99, 107, 58, 32, 110, 111, 110, 101])]))
def laid_haversack_api_ErrLimit {H : Type} : DataW H := .iface "*errors.errorString" (.ptr (.agg [.lit (.string [104, 97, 118, 101, 114, 115, 97, 99, 107, 58, 32, 108, 105, 109, 105, 116])]))
def laid_haversack_api_ErrTwice {H : Type} : DataW H := .iface "*errors.errorString" (.ptr (.agg [.lit (.string [104, 97, 118, 101, 114, 115, 97, 99, 107, 58, 32, 116, 119, 105, 99, 101])]))

/-- 'haversacklaw03.QuoteEscapes': WHATEVER THE INPUT: true; the input reads as it did. -/
def quoteEscapesSpec : ChangeSpec := { name := "quoteEscapes", fn := fun _ => fun
  | [d1, d2] => { results := [.lit (.bool true)], args := [d1, d2] }
  | _ => none }
def quoteEscapesRow : OpenClaim := { program := "ytfoammkidjbilaadoor", sum := "3c640cc89e4638ec028898b886b66c66d4522af1369efa5ae66ebf54b62aaa91", func := "haversack/haversacklaw03.QuoteEscapes", spec := "quoteEscapes", inPlace := ["internal/abi.NoEscape"], named := ["haversack/api.ErrSyntax", "unicode/utf8.first", "unicode/utf8.acceptRanges", "haversack/quote.controls"], apart := false, laid := [("unicode/utf8.acceptRanges", laid_unicode_utf8_acceptRanges), ("haversack/api.ErrSyntax", laid_haversack_api_ErrSyntax), ("haversack/quote.controls", laid_haversack_quote_controls), ("unicode/utf8.first", laid_unicode_utf8_first)] }
def QuoteEscapesSaid : Prop := quoteEscapesRow.holds Tryd.pinned (OpenSpec.ofChange quoteEscapesSpec)

/-- ITS FALSE NEIGHBOUR: 'it returns false'. Refute it at one input. -/
def quoteEscapesWrong : ChangeSpec := { name := "quoteEscapes", fn := fun _ => fun
  | [d1, d2] => { results := [.lit (.bool false)], args := [d1, d2] }
  | _ => none }
def QuoteEscapesWrongFalsely : Prop := quoteEscapesRow.holds Tryd.pinned (OpenSpec.ofChange quoteEscapesWrong)

/-- 'haversacklaw03.QuoteJoins': WHATEVER THE INPUT: true; the input reads as it did. -/
def quoteJoinsSpec : ChangeSpec := { name := "quoteJoins", fn := fun _ => fun
  | [d1, d2] => { results := [.lit (.bool true)], args := [d1, d2] }
  | _ => none }
def quoteJoinsRow : OpenClaim := { program := "ytfoammkidjbilaadoor", sum := "3c640cc89e4638ec028898b886b66c66d4522af1369efa5ae66ebf54b62aaa91", func := "haversack/haversacklaw03.QuoteJoins", spec := "quoteJoins", inPlace := ["internal/abi.NoEscape"], named := ["haversack/api.ErrSyntax", "unicode/utf8.first", "unicode/utf8.acceptRanges", "haversack/quote.controls"], apart := false, laid := [("unicode/utf8.acceptRanges", laid_unicode_utf8_acceptRanges), ("haversack/api.ErrSyntax", laid_haversack_api_ErrSyntax), ("haversack/quote.controls", laid_haversack_quote_controls), ("unicode/utf8.first", laid_unicode_utf8_first)] }
def QuoteJoinsSaid : Prop := quoteJoinsRow.holds Tryd.pinned (OpenSpec.ofChange quoteJoinsSpec)

/-- ITS FALSE NEIGHBOUR: 'it returns false'. Refute it at one input. -/
def quoteJoinsWrong : ChangeSpec := { name := "quoteJoins", fn := fun _ => fun
  | [d1, d2] => { results := [.lit (.bool false)], args := [d1, d2] }
  | _ => none }
def QuoteJoinsWrongFalsely : Prop := quoteJoinsRow.holds Tryd.pinned (OpenSpec.ofChange quoteJoinsWrong)

/-- 'haversacklaw03.QuotePieces': WHATEVER THE INPUT: true; the input reads as it did. -/
def quotePiecesSpec : ChangeSpec := { name := "quotePieces", fn := fun _ => fun
  | [d1, d2] => { results := [.lit (.bool true)], args := [d1, d2] }
  | _ => none }
def quotePiecesRow : OpenClaim := { program := "ytfoammkidjbilaadoor", sum := "3c640cc89e4638ec028898b886b66c66d4522af1369efa5ae66ebf54b62aaa91", func := "haversack/haversacklaw03.QuotePieces", spec := "quotePieces", inPlace := ["internal/abi.NoEscape"], named := ["haversack/api.ErrSyntax", "unicode/utf8.first", "unicode/utf8.acceptRanges", "haversack/quote.controls"], apart := false, laid := [("unicode/utf8.acceptRanges", laid_unicode_utf8_acceptRanges), ("haversack/api.ErrSyntax", laid_haversack_api_ErrSyntax), ("haversack/quote.controls", laid_haversack_quote_controls), ("unicode/utf8.first", laid_unicode_utf8_first)] }
def QuotePiecesSaid : Prop := quotePiecesRow.holds Tryd.pinned (OpenSpec.ofChange quotePiecesSpec)

/-- ITS FALSE NEIGHBOUR: 'it returns false'. Refute it at one input. -/
def quotePiecesWrong : ChangeSpec := { name := "quotePieces", fn := fun _ => fun
  | [d1, d2] => { results := [.lit (.bool false)], args := [d1, d2] }
  | _ => none }
def QuotePiecesWrongFalsely : Prop := quotePiecesRow.holds Tryd.pinned (OpenSpec.ofChange quotePiecesWrong)

/-- 'haversacklaw03.QuoteTakes': WHATEVER THE INPUT: true; the input reads as it did. -/
def quoteTakesSpec : ChangeSpec := { name := "quoteTakes", fn := fun _ => fun
  | [d1, d2] => { results := [.lit (.bool true)], args := [d1, d2] }
  | _ => none }
def quoteTakesRow : OpenClaim := { program := "ytfoammkidjbilaadoor", sum := "3c640cc89e4638ec028898b886b66c66d4522af1369efa5ae66ebf54b62aaa91", func := "haversack/haversacklaw03.QuoteTakes", spec := "quoteTakes", inPlace := ["internal/abi.NoEscape", "internal/reflectlite.TypeOf"], unfollowed := true, recurses := true, named := ["haversack/api.ErrSyntax", "unicode/utf8.first", "unicode/utf8.acceptRanges", "haversack/quote.controls", "haversack/api.ErrDepth", "haversack/api.ErrSize", "haversack/api.ErrNumber", "haversack/api.ErrKey", "haversack/api.ErrType", "haversack/api.ErrName", "haversack/api.ErrVersion", "haversack/api.ErrSpec", "haversack/api.ErrRange", "haversack/api.ErrNone", "haversack/api.ErrLimit", "haversack/api.ErrTwice"], apart := false, laid := [("unicode/utf8.acceptRanges", laid_unicode_utf8_acceptRanges), ("haversack/api.ErrSyntax", laid_haversack_api_ErrSyntax), ("haversack/api.ErrDepth", laid_haversack_api_ErrDepth), ("haversack/api.ErrSize", laid_haversack_api_ErrSize), ("haversack/api.ErrNumber", laid_haversack_api_ErrNumber), ("haversack/api.ErrKey", laid_haversack_api_ErrKey), ("haversack/api.ErrType", laid_haversack_api_ErrType), ("haversack/api.ErrName", laid_haversack_api_ErrName), ("haversack/api.ErrVersion", laid_haversack_api_ErrVersion), ("haversack/api.ErrSpec", laid_haversack_api_ErrSpec), ("haversack/api.ErrRange", laid_haversack_api_ErrRange), ("haversack/api.ErrNone", laid_haversack_api_ErrNone), ("haversack/api.ErrLimit", laid_haversack_api_ErrLimit), ("haversack/api.ErrTwice", laid_haversack_api_ErrTwice), ("haversack/quote.controls", laid_haversack_quote_controls), ("unicode/utf8.first", laid_unicode_utf8_first)] }
def QuoteTakesSaid : Prop := quoteTakesRow.holds Tryd.pinned (OpenSpec.ofChange quoteTakesSpec)

/-- ITS FALSE NEIGHBOUR: 'it returns false'. Refute it at one input. -/
def quoteTakesWrong : ChangeSpec := { name := "quoteTakes", fn := fun _ => fun
  | [d1, d2] => { results := [.lit (.bool false)], args := [d1, d2] }
  | _ => none }
def QuoteTakesWrongFalsely : Prop := quoteTakesRow.holds Tryd.pinned (OpenSpec.ofChange quoteTakesWrong)

/-- 'haversacklaw03.QuoteParses': WHATEVER THE INPUT: true; the input reads as it did. -/
def quoteParsesSpec : ChangeSpec := { name := "quoteParses", fn := fun _ => fun
  | [d] => { results := [.lit (.bool true)], args := [d] }
  | _ => none }
def quoteParsesRow : OpenClaim := { program := "ytfoammkidjbilaadoor", sum := "3c640cc89e4638ec028898b886b66c66d4522af1369efa5ae66ebf54b62aaa91", func := "haversack/haversacklaw03.QuoteParses", spec := "quoteParses", inPlace := ["internal/abi.NoEscape", "internal/reflectlite.TypeOf"], unfollowed := true, recurses := true, named := ["haversack/api.ErrSyntax", "unicode/utf8.first", "unicode/utf8.acceptRanges", "haversack/quote.controls", "haversack/api.ErrDepth", "haversack/api.ErrSize", "haversack/api.ErrNumber", "haversack/api.ErrKey", "haversack/api.ErrType", "haversack/api.ErrName", "haversack/api.ErrVersion", "haversack/api.ErrSpec", "haversack/api.ErrRange", "haversack/api.ErrNone", "haversack/api.ErrLimit", "haversack/api.ErrTwice"], apart := false, laid := [("unicode/utf8.acceptRanges", laid_unicode_utf8_acceptRanges), ("haversack/api.ErrSyntax", laid_haversack_api_ErrSyntax), ("haversack/api.ErrDepth", laid_haversack_api_ErrDepth), ("haversack/api.ErrSize", laid_haversack_api_ErrSize), ("haversack/api.ErrNumber", laid_haversack_api_ErrNumber), ("haversack/api.ErrKey", laid_haversack_api_ErrKey), ("haversack/api.ErrType", laid_haversack_api_ErrType), ("haversack/api.ErrName", laid_haversack_api_ErrName), ("haversack/api.ErrVersion", laid_haversack_api_ErrVersion), ("haversack/api.ErrSpec", laid_haversack_api_ErrSpec), ("haversack/api.ErrRange", laid_haversack_api_ErrRange), ("haversack/api.ErrNone", laid_haversack_api_ErrNone), ("haversack/api.ErrLimit", laid_haversack_api_ErrLimit), ("haversack/api.ErrTwice", laid_haversack_api_ErrTwice), ("haversack/quote.controls", laid_haversack_quote_controls), ("unicode/utf8.first", laid_unicode_utf8_first)] }
def QuoteParsesSaid : Prop := quoteParsesRow.holds Tryd.pinned (OpenSpec.ofChange quoteParsesSpec)

/-- ITS FALSE NEIGHBOUR: 'it returns false'. Refute it at one input. -/
def quoteParsesWrong : ChangeSpec := { name := "quoteParses", fn := fun _ => fun
  | [d] => { results := [.lit (.bool false)], args := [d] }
  | _ => none }
def QuoteParsesWrongFalsely : Prop := quoteParsesRow.holds Tryd.pinned (OpenSpec.ofChange quoteParsesWrong)

/-- 'haversacklaw03.QuoteQuotes': WHATEVER THE INPUT: true; the input reads as it did. -/
def quoteQuotesSpec : ChangeSpec := { name := "quoteQuotes", fn := fun _ => fun
  | [d] => { results := [.lit (.bool true)], args := [d] }
  | _ => none }
def quoteQuotesRow : OpenClaim := { program := "ytfoammkidjbilaadoor", sum := "3c640cc89e4638ec028898b886b66c66d4522af1369efa5ae66ebf54b62aaa91", func := "haversack/haversacklaw03.QuoteQuotes", spec := "quoteQuotes", inPlace := ["internal/abi.NoEscape", "internal/reflectlite.TypeOf"], unfollowed := true, recurses := true, named := ["haversack/api.ErrSyntax", "unicode/utf8.first", "unicode/utf8.acceptRanges", "haversack/quote.controls", "haversack/api.ErrDepth", "haversack/api.ErrSize", "haversack/api.ErrNumber", "haversack/api.ErrKey", "haversack/api.ErrType", "haversack/api.ErrName", "haversack/api.ErrVersion", "haversack/api.ErrSpec", "haversack/api.ErrRange", "haversack/api.ErrNone", "haversack/api.ErrLimit", "haversack/api.ErrTwice"], apart := false, laid := [("unicode/utf8.acceptRanges", laid_unicode_utf8_acceptRanges), ("haversack/api.ErrSyntax", laid_haversack_api_ErrSyntax), ("haversack/api.ErrDepth", laid_haversack_api_ErrDepth), ("haversack/api.ErrSize", laid_haversack_api_ErrSize), ("haversack/api.ErrNumber", laid_haversack_api_ErrNumber), ("haversack/api.ErrKey", laid_haversack_api_ErrKey), ("haversack/api.ErrType", laid_haversack_api_ErrType), ("haversack/api.ErrName", laid_haversack_api_ErrName), ("haversack/api.ErrVersion", laid_haversack_api_ErrVersion), ("haversack/api.ErrSpec", laid_haversack_api_ErrSpec), ("haversack/api.ErrRange", laid_haversack_api_ErrRange), ("haversack/api.ErrNone", laid_haversack_api_ErrNone), ("haversack/api.ErrLimit", laid_haversack_api_ErrLimit), ("haversack/api.ErrTwice", laid_haversack_api_ErrTwice), ("haversack/quote.controls", laid_haversack_quote_controls), ("unicode/utf8.first", laid_unicode_utf8_first)] }
def QuoteQuotesSaid : Prop := quoteQuotesRow.holds Tryd.pinned (OpenSpec.ofChange quoteQuotesSpec)

/-- ITS FALSE NEIGHBOUR: 'it returns false'. Refute it at one input. -/
def quoteQuotesWrong : ChangeSpec := { name := "quoteQuotes", fn := fun _ => fun
  | [d] => { results := [.lit (.bool false)], args := [d] }
  | _ => none }
def QuoteQuotesWrongFalsely : Prop := quoteQuotesRow.holds Tryd.pinned (OpenSpec.ofChange quoteQuotesWrong)

/- THE SECOND FORM. 'bulk': how many values and letters a reading holds, each counted each time it is reached (what is shared counts as often as it is met; a slice's spare places count too). A statement '..UptoSaid' is the law's where the arguments, and the package variables that the reading takes, are together of bulk at most 1048576: NARROWER than '..Said'. Prove '..Said' where nothing that the law and all that it calls make is longer than what came in: it says more and counts as full. Else prove '..UptoSaid'. A law counts once. -/
mutual
def uptoBulk {H : Type} : DataW H → Nat
  | .lit (.string bytes) => bytes.length + 1
  | .lit _ => 1
  | .nil => 1
  | .ptr d => uptoBulk d + 1
  | .slice elems spare => uptoBulkAll elems + uptoBulkAll spare + 1
  | .agg parts => uptoBulkAll parts + 1
  | .iface _ d => uptoBulk d + 1
  | .map entries => uptoBulkEntries entries + 1
  | .held _ => 1
def uptoBulkAll {H : Type} : List (DataW H) → Nat
  | [] => 0
  | d :: r => uptoBulk d + uptoBulkAll r
def uptoBulkEntries {H : Type} : List (Lit × DataW H) → Nat
  | [] => 0
  | x :: r => uptoBulkEntry x + uptoBulkEntries r
def uptoBulkEntry {H : Type} : Lit × DataW H → Nat
  | (.string bytes, d) => bytes.length + uptoBulk d + 1
  | (_, d) => uptoBulk d + 1
 end
def uptoSmall : (H : Type) → List (DataW H) → Bool := fun _ ds => decide (uptoBulkAll ds ≤ 1048576)
def OpenSpec.upto (s : _root_.Go.ChangeSpec) : _root_.Go.OpenSpec := { _root_.Go.OpenSpec.ofChange s with cond := some uptoSmall }

/-- 'haversacklaw03.QuoteEscapes', WHERE WHAT IT READS IS OF BULK AT MOST 1048576: true; the input reads as it did. -/
def quoteEscapesUptoRow : OpenClaim := { program := "ytfoammkidjbilaadoor", sum := "3c640cc89e4638ec028898b886b66c66d4522af1369efa5ae66ebf54b62aaa91", func := "haversack/haversacklaw03.QuoteEscapes", spec := "quoteEscapes", inPlace := ["internal/abi.NoEscape"], named := ["haversack/api.ErrSyntax", "unicode/utf8.first", "unicode/utf8.acceptRanges", "haversack/quote.controls"], apart := false, laid := [("unicode/utf8.acceptRanges", laid_unicode_utf8_acceptRanges), ("haversack/api.ErrSyntax", laid_haversack_api_ErrSyntax), ("haversack/quote.controls", laid_haversack_quote_controls), ("unicode/utf8.first", laid_unicode_utf8_first)], narrowed := true }
def QuoteEscapesUptoSaid : Prop := quoteEscapesUptoRow.holds Tryd.pinned (OpenSpec.upto quoteEscapesSpec)

/-- 'haversacklaw03.QuoteJoins', WHERE WHAT IT READS IS OF BULK AT MOST 1048576: true; the input reads as it did. -/
def quoteJoinsUptoRow : OpenClaim := { program := "ytfoammkidjbilaadoor", sum := "3c640cc89e4638ec028898b886b66c66d4522af1369efa5ae66ebf54b62aaa91", func := "haversack/haversacklaw03.QuoteJoins", spec := "quoteJoins", inPlace := ["internal/abi.NoEscape"], named := ["haversack/api.ErrSyntax", "unicode/utf8.first", "unicode/utf8.acceptRanges", "haversack/quote.controls"], apart := false, laid := [("unicode/utf8.acceptRanges", laid_unicode_utf8_acceptRanges), ("haversack/api.ErrSyntax", laid_haversack_api_ErrSyntax), ("haversack/quote.controls", laid_haversack_quote_controls), ("unicode/utf8.first", laid_unicode_utf8_first)], narrowed := true }
def QuoteJoinsUptoSaid : Prop := quoteJoinsUptoRow.holds Tryd.pinned (OpenSpec.upto quoteJoinsSpec)

/-- 'haversacklaw03.QuotePieces', WHERE WHAT IT READS IS OF BULK AT MOST 1048576: true; the input reads as it did. -/
def quotePiecesUptoRow : OpenClaim := { program := "ytfoammkidjbilaadoor", sum := "3c640cc89e4638ec028898b886b66c66d4522af1369efa5ae66ebf54b62aaa91", func := "haversack/haversacklaw03.QuotePieces", spec := "quotePieces", inPlace := ["internal/abi.NoEscape"], named := ["haversack/api.ErrSyntax", "unicode/utf8.first", "unicode/utf8.acceptRanges", "haversack/quote.controls"], apart := false, laid := [("unicode/utf8.acceptRanges", laid_unicode_utf8_acceptRanges), ("haversack/api.ErrSyntax", laid_haversack_api_ErrSyntax), ("haversack/quote.controls", laid_haversack_quote_controls), ("unicode/utf8.first", laid_unicode_utf8_first)], narrowed := true }
def QuotePiecesUptoSaid : Prop := quotePiecesUptoRow.holds Tryd.pinned (OpenSpec.upto quotePiecesSpec)

/-- 'haversacklaw03.QuoteTakes', WHERE WHAT IT READS IS OF BULK AT MOST 1048576: true; the input reads as it did. -/
def quoteTakesUptoRow : OpenClaim := { program := "ytfoammkidjbilaadoor", sum := "3c640cc89e4638ec028898b886b66c66d4522af1369efa5ae66ebf54b62aaa91", func := "haversack/haversacklaw03.QuoteTakes", spec := "quoteTakes", inPlace := ["internal/abi.NoEscape", "internal/reflectlite.TypeOf"], unfollowed := true, recurses := true, named := ["haversack/api.ErrSyntax", "unicode/utf8.first", "unicode/utf8.acceptRanges", "haversack/quote.controls", "haversack/api.ErrDepth", "haversack/api.ErrSize", "haversack/api.ErrNumber", "haversack/api.ErrKey", "haversack/api.ErrType", "haversack/api.ErrName", "haversack/api.ErrVersion", "haversack/api.ErrSpec", "haversack/api.ErrRange", "haversack/api.ErrNone", "haversack/api.ErrLimit", "haversack/api.ErrTwice"], apart := false, laid := [("unicode/utf8.acceptRanges", laid_unicode_utf8_acceptRanges), ("haversack/api.ErrSyntax", laid_haversack_api_ErrSyntax), ("haversack/api.ErrDepth", laid_haversack_api_ErrDepth), ("haversack/api.ErrSize", laid_haversack_api_ErrSize), ("haversack/api.ErrNumber", laid_haversack_api_ErrNumber), ("haversack/api.ErrKey", laid_haversack_api_ErrKey), ("haversack/api.ErrType", laid_haversack_api_ErrType), ("haversack/api.ErrName", laid_haversack_api_ErrName), ("haversack/api.ErrVersion", laid_haversack_api_ErrVersion), ("haversack/api.ErrSpec", laid_haversack_api_ErrSpec), ("haversack/api.ErrRange", laid_haversack_api_ErrRange), ("haversack/api.ErrNone", laid_haversack_api_ErrNone), ("haversack/api.ErrLimit", laid_haversack_api_ErrLimit), ("haversack/api.ErrTwice", laid_haversack_api_ErrTwice), ("haversack/quote.controls", laid_haversack_quote_controls), ("unicode/utf8.first", laid_unicode_utf8_first)], narrowed := true }
def QuoteTakesUptoSaid : Prop := quoteTakesUptoRow.holds Tryd.pinned (OpenSpec.upto quoteTakesSpec)

/-- 'haversacklaw03.QuoteParses', WHERE WHAT IT READS IS OF BULK AT MOST 1048576: true; the input reads as it did. -/
def quoteParsesUptoRow : OpenClaim := { program := "ytfoammkidjbilaadoor", sum := "3c640cc89e4638ec028898b886b66c66d4522af1369efa5ae66ebf54b62aaa91", func := "haversack/haversacklaw03.QuoteParses", spec := "quoteParses", inPlace := ["internal/abi.NoEscape", "internal/reflectlite.TypeOf"], unfollowed := true, recurses := true, named := ["haversack/api.ErrSyntax", "unicode/utf8.first", "unicode/utf8.acceptRanges", "haversack/quote.controls", "haversack/api.ErrDepth", "haversack/api.ErrSize", "haversack/api.ErrNumber", "haversack/api.ErrKey", "haversack/api.ErrType", "haversack/api.ErrName", "haversack/api.ErrVersion", "haversack/api.ErrSpec", "haversack/api.ErrRange", "haversack/api.ErrNone", "haversack/api.ErrLimit", "haversack/api.ErrTwice"], apart := false, laid := [("unicode/utf8.acceptRanges", laid_unicode_utf8_acceptRanges), ("haversack/api.ErrSyntax", laid_haversack_api_ErrSyntax), ("haversack/api.ErrDepth", laid_haversack_api_ErrDepth), ("haversack/api.ErrSize", laid_haversack_api_ErrSize), ("haversack/api.ErrNumber", laid_haversack_api_ErrNumber), ("haversack/api.ErrKey", laid_haversack_api_ErrKey), ("haversack/api.ErrType", laid_haversack_api_ErrType), ("haversack/api.ErrName", laid_haversack_api_ErrName), ("haversack/api.ErrVersion", laid_haversack_api_ErrVersion), ("haversack/api.ErrSpec", laid_haversack_api_ErrSpec), ("haversack/api.ErrRange", laid_haversack_api_ErrRange), ("haversack/api.ErrNone", laid_haversack_api_ErrNone), ("haversack/api.ErrLimit", laid_haversack_api_ErrLimit), ("haversack/api.ErrTwice", laid_haversack_api_ErrTwice), ("haversack/quote.controls", laid_haversack_quote_controls), ("unicode/utf8.first", laid_unicode_utf8_first)], narrowed := true }
def QuoteParsesUptoSaid : Prop := quoteParsesUptoRow.holds Tryd.pinned (OpenSpec.upto quoteParsesSpec)

/-- 'haversacklaw03.QuoteQuotes', WHERE WHAT IT READS IS OF BULK AT MOST 1048576: true; the input reads as it did. -/
def quoteQuotesUptoRow : OpenClaim := { program := "ytfoammkidjbilaadoor", sum := "3c640cc89e4638ec028898b886b66c66d4522af1369efa5ae66ebf54b62aaa91", func := "haversack/haversacklaw03.QuoteQuotes", spec := "quoteQuotes", inPlace := ["internal/abi.NoEscape", "internal/reflectlite.TypeOf"], unfollowed := true, recurses := true, named := ["haversack/api.ErrSyntax", "unicode/utf8.first", "unicode/utf8.acceptRanges", "haversack/quote.controls", "haversack/api.ErrDepth", "haversack/api.ErrSize", "haversack/api.ErrNumber", "haversack/api.ErrKey", "haversack/api.ErrType", "haversack/api.ErrName", "haversack/api.ErrVersion", "haversack/api.ErrSpec", "haversack/api.ErrRange", "haversack/api.ErrNone", "haversack/api.ErrLimit", "haversack/api.ErrTwice"], apart := false, laid := [("unicode/utf8.acceptRanges", laid_unicode_utf8_acceptRanges), ("haversack/api.ErrSyntax", laid_haversack_api_ErrSyntax), ("haversack/api.ErrDepth", laid_haversack_api_ErrDepth), ("haversack/api.ErrSize", laid_haversack_api_ErrSize), ("haversack/api.ErrNumber", laid_haversack_api_ErrNumber), ("haversack/api.ErrKey", laid_haversack_api_ErrKey), ("haversack/api.ErrType", laid_haversack_api_ErrType), ("haversack/api.ErrName", laid_haversack_api_ErrName), ("haversack/api.ErrVersion", laid_haversack_api_ErrVersion), ("haversack/api.ErrSpec", laid_haversack_api_ErrSpec), ("haversack/api.ErrRange", laid_haversack_api_ErrRange), ("haversack/api.ErrNone", laid_haversack_api_ErrNone), ("haversack/api.ErrLimit", laid_haversack_api_ErrLimit), ("haversack/api.ErrTwice", laid_haversack_api_ErrTwice), ("haversack/quote.controls", laid_haversack_quote_controls), ("unicode/utf8.first", laid_unicode_utf8_first)], narrowed := true }
def QuoteQuotesUptoSaid : Prop := quoteQuotesUptoRow.holds Tryd.pinned (OpenSpec.upto quoteQuotesSpec)

end Rows
end Go.Proofs.YtfoammkidjbilaaDoor
