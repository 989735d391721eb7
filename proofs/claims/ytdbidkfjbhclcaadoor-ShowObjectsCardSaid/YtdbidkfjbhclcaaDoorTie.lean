/-
  DERIVED. GIVEN WITH THE SEED: THE PROGRAM's TIES (one call each: nine closed facts by the kernel) AND EACH ROW's TIE, after the 31st guide's Derived/Test/Toyas{Tie, Card}.lean. No idea stands in it: it is a product of the set-up. Laid BY PROGRAM, IN A SANDBOX (cutbox-door.mjs). By AI agents, Wed Nov 11 2026. No macro, syntax, notation, axiom, sorry.
-/
import Derived.Test.YtdbidkfjbhclcaaDoorRows
import Derived.LaidByTextLater
import Derived.SevenTiedAt
import Derived.LaidSub
import Derived.LaidOnce
namespace Go.Proofs.YtdbidkfjbhclcaaDoor
open Go
set_option maxRecDepth 100000
theorem seatTie1 : Tryd.prog.laidByTextLater [("math/bits.deBruijn32tab", Rows.laid_math_bits_deBruijn32tab), ("math/bits.deBruijn64tab", Rows.laid_math_bits_deBruijn64tab), ("internal/strconv.uint64pow10", Rows.laid_internal_strconv_uint64pow10), ("unicode/utf8.acceptRanges", Rows.laid_unicode_utf8_acceptRanges), ("haversack/api.ErrSyntax", Rows.laid_haversack_api_ErrSyntax), ("haversack/api.ErrDepth", Rows.laid_haversack_api_ErrDepth), ("haversack/api.ErrSize", Rows.laid_haversack_api_ErrSize), ("haversack/api.ErrNumber", Rows.laid_haversack_api_ErrNumber), ("haversack/api.ErrKey", Rows.laid_haversack_api_ErrKey), ("haversack/api.ErrType", Rows.laid_haversack_api_ErrType), ("haversack/api.ErrName", Rows.laid_haversack_api_ErrName), ("haversack/api.ErrVersion", Rows.laid_haversack_api_ErrVersion), ("haversack/api.ErrSpec", Rows.laid_haversack_api_ErrSpec), ("haversack/api.ErrRange", Rows.laid_haversack_api_ErrRange), ("haversack/api.ErrNone", Rows.laid_haversack_api_ErrNone), ("haversack/api.ErrLimit", Rows.laid_haversack_api_ErrLimit), ("haversack/api.ErrTwice", Rows.laid_haversack_api_ErrTwice), ("strconv.ErrRange", Rows.laid_strconv_ErrRange), ("strconv.ErrSyntax", Rows.laid_strconv_ErrSyntax), ("haversack/quote.controls", Rows.laid_haversack_quote_controls), ("haversack/show.words", Rows.laid_haversack_show_words)] [.data, .data, .data, .data, .sentinel, .sentinel, .sentinel, .sentinel, .sentinel, .sentinel, .sentinel, .sentinel, .sentinel, .sentinel, .sentinel, .sentinel, .sentinel, .sentinel, .sentinel, .data, .data] true :=
  Program.laidByTextLater_by_one 329 8 65 (by kernel_rfl) (by kernel_rfl) (by kernel_rfl) (by kernel_rfl) (by kernel_rfl) (by kernel_rfl) (fun _ _ => by kernel_rfl)
theorem pin_laid_unicode_utf8_first : Tryd.pinned.checked.prog.pinnedFits "unicode/utf8.first" = true := by kernel_rfl
theorem noOwnUnsafe : Tryd.pinned.checked.prog.headLifts.contains "ownunsafe" = false := by kernel_rfl
theorem fits1 : Tryd.pinned.checked.prog.listedFits [("math/bits.deBruijn32tab", Rows.laid_math_bits_deBruijn32tab), ("math/bits.deBruijn64tab", Rows.laid_math_bits_deBruijn64tab), ("internal/strconv.uint64pow10", Rows.laid_internal_strconv_uint64pow10), ("unicode/utf8.acceptRanges", Rows.laid_unicode_utf8_acceptRanges), ("haversack/api.ErrSyntax", Rows.laid_haversack_api_ErrSyntax), ("haversack/api.ErrType", Rows.laid_haversack_api_ErrType), ("haversack/quote.controls", Rows.laid_haversack_quote_controls), ("haversack/show.words", Rows.laid_haversack_show_words), ("unicode/utf8.first", Rows.laid_unicode_utf8_first)] = true := by
  unfold Program.listedFits
  rw [noOwnUnsafe]
  kernel_rfl
theorem tie : Tryd.prog.laidByTextLater [("math/bits.deBruijn32tab", Rows.laid_math_bits_deBruijn32tab), ("math/bits.deBruijn64tab", Rows.laid_math_bits_deBruijn64tab), ("internal/strconv.uint64pow10", Rows.laid_internal_strconv_uint64pow10), ("unicode/utf8.acceptRanges", Rows.laid_unicode_utf8_acceptRanges), ("haversack/api.ErrSyntax", Rows.laid_haversack_api_ErrSyntax), ("haversack/api.ErrType", Rows.laid_haversack_api_ErrType), ("haversack/quote.controls", Rows.laid_haversack_quote_controls), ("haversack/show.words", Rows.laid_haversack_show_words)] [.data, .data, .data, .data, .sentinel, .sentinel, .data, .data] true :=
  Program.laidByTextLater.sub seatTie1 ["math/bits.deBruijn32tab", "math/bits.deBruijn64tab", "internal/strconv.uint64pow10", "unicode/utf8.acceptRanges", "haversack/api.ErrSyntax", "haversack/api.ErrType", "haversack/quote.controls", "haversack/show.words"] (by kernel_rfl) (by kernel_rfl)
theorem showParts_row_tie : Rows.showPartsRow.laidByTextAt .later Tryd.pinned [.data, .data, .data, .data, .sentinel, .sentinel, .data, .data, .pinned] true :=
  OpenClaim.laidByTextAt_pinned rfl rfl tie rfl rfl rfl rfl (fun y hy _e => by
    simp only [Rows.showPartsRow, List.zip_cons_cons, List.zip_nil_right, List.mem_cons, List.mem_nil_iff, or_false] at hy
    rcases hy with rfl | rfl | rfl | rfl | rfl | rfl | rfl | rfl | rfl
    · cases _e
    · cases _e
    · cases _e
    · cases _e
    · cases _e
    · cases _e
    · cases _e
    · cases _e
    · exact ⟨pin_laid_unicode_utf8_first, by kernel_rfl⟩) fits1
theorem fits2 : Tryd.pinned.checked.prog.listedFits [("math/bits.deBruijn32tab", Rows.laid_math_bits_deBruijn32tab), ("math/bits.deBruijn64tab", Rows.laid_math_bits_deBruijn64tab), ("internal/strconv.uint64pow10", Rows.laid_internal_strconv_uint64pow10), ("unicode/utf8.acceptRanges", Rows.laid_unicode_utf8_acceptRanges), ("haversack/api.ErrSyntax", Rows.laid_haversack_api_ErrSyntax), ("haversack/api.ErrDepth", Rows.laid_haversack_api_ErrDepth), ("haversack/api.ErrSize", Rows.laid_haversack_api_ErrSize), ("haversack/api.ErrNumber", Rows.laid_haversack_api_ErrNumber), ("haversack/api.ErrKey", Rows.laid_haversack_api_ErrKey), ("haversack/api.ErrType", Rows.laid_haversack_api_ErrType), ("haversack/api.ErrName", Rows.laid_haversack_api_ErrName), ("haversack/api.ErrVersion", Rows.laid_haversack_api_ErrVersion), ("haversack/api.ErrSpec", Rows.laid_haversack_api_ErrSpec), ("haversack/api.ErrRange", Rows.laid_haversack_api_ErrRange), ("haversack/api.ErrNone", Rows.laid_haversack_api_ErrNone), ("haversack/api.ErrLimit", Rows.laid_haversack_api_ErrLimit), ("haversack/api.ErrTwice", Rows.laid_haversack_api_ErrTwice), ("haversack/quote.controls", Rows.laid_haversack_quote_controls), ("haversack/show.words", Rows.laid_haversack_show_words), ("unicode/utf8.first", Rows.laid_unicode_utf8_first)] = true := by
  unfold Program.listedFits
  rw [noOwnUnsafe]
  kernel_rfl
theorem tie2 : Tryd.prog.laidByTextLater [("math/bits.deBruijn32tab", Rows.laid_math_bits_deBruijn32tab), ("math/bits.deBruijn64tab", Rows.laid_math_bits_deBruijn64tab), ("internal/strconv.uint64pow10", Rows.laid_internal_strconv_uint64pow10), ("unicode/utf8.acceptRanges", Rows.laid_unicode_utf8_acceptRanges), ("haversack/api.ErrSyntax", Rows.laid_haversack_api_ErrSyntax), ("haversack/api.ErrDepth", Rows.laid_haversack_api_ErrDepth), ("haversack/api.ErrSize", Rows.laid_haversack_api_ErrSize), ("haversack/api.ErrNumber", Rows.laid_haversack_api_ErrNumber), ("haversack/api.ErrKey", Rows.laid_haversack_api_ErrKey), ("haversack/api.ErrType", Rows.laid_haversack_api_ErrType), ("haversack/api.ErrName", Rows.laid_haversack_api_ErrName), ("haversack/api.ErrVersion", Rows.laid_haversack_api_ErrVersion), ("haversack/api.ErrSpec", Rows.laid_haversack_api_ErrSpec), ("haversack/api.ErrRange", Rows.laid_haversack_api_ErrRange), ("haversack/api.ErrNone", Rows.laid_haversack_api_ErrNone), ("haversack/api.ErrLimit", Rows.laid_haversack_api_ErrLimit), ("haversack/api.ErrTwice", Rows.laid_haversack_api_ErrTwice), ("haversack/quote.controls", Rows.laid_haversack_quote_controls), ("haversack/show.words", Rows.laid_haversack_show_words)] [.data, .data, .data, .data, .sentinel, .sentinel, .sentinel, .sentinel, .sentinel, .sentinel, .sentinel, .sentinel, .sentinel, .sentinel, .sentinel, .sentinel, .sentinel, .data, .data] true :=
  Program.laidByTextLater.sub seatTie1 ["math/bits.deBruijn32tab", "math/bits.deBruijn64tab", "internal/strconv.uint64pow10", "unicode/utf8.acceptRanges", "haversack/api.ErrSyntax", "haversack/api.ErrDepth", "haversack/api.ErrSize", "haversack/api.ErrNumber", "haversack/api.ErrKey", "haversack/api.ErrType", "haversack/api.ErrName", "haversack/api.ErrVersion", "haversack/api.ErrSpec", "haversack/api.ErrRange", "haversack/api.ErrNone", "haversack/api.ErrLimit", "haversack/api.ErrTwice", "haversack/quote.controls", "haversack/show.words"] (by kernel_rfl) (by kernel_rfl)
theorem showObjects_row_tie : Rows.showObjectsRow.laidByTextAt .later Tryd.pinned [.data, .data, .data, .data, .sentinel, .sentinel, .sentinel, .sentinel, .sentinel, .sentinel, .sentinel, .sentinel, .sentinel, .sentinel, .sentinel, .sentinel, .sentinel, .data, .data, .pinned] true :=
  OpenClaim.laidByTextAt_pinned rfl rfl tie2 rfl rfl rfl rfl (fun y hy _e => by
    simp only [Rows.showObjectsRow, List.zip_cons_cons, List.zip_nil_right, List.mem_cons, List.mem_nil_iff, or_false] at hy
    rcases hy with rfl | rfl | rfl | rfl | rfl | rfl | rfl | rfl | rfl | rfl | rfl | rfl | rfl | rfl | rfl | rfl | rfl | rfl | rfl | rfl
    · cases _e
    · cases _e
    · cases _e
    · cases _e
    · cases _e
    · cases _e
    · cases _e
    · cases _e
    · cases _e
    · cases _e
    · cases _e
    · cases _e
    · cases _e
    · cases _e
    · cases _e
    · cases _e
    · cases _e
    · cases _e
    · cases _e
    · exact ⟨pin_laid_unicode_utf8_first, by kernel_rfl⟩) fits2
theorem fits3 : Tryd.pinned.checked.prog.listedFits [("math/bits.deBruijn32tab", Rows.laid_math_bits_deBruijn32tab), ("math/bits.deBruijn64tab", Rows.laid_math_bits_deBruijn64tab), ("internal/strconv.uint64pow10", Rows.laid_internal_strconv_uint64pow10), ("unicode/utf8.acceptRanges", Rows.laid_unicode_utf8_acceptRanges), ("haversack/api.ErrSyntax", Rows.laid_haversack_api_ErrSyntax), ("haversack/api.ErrDepth", Rows.laid_haversack_api_ErrDepth), ("haversack/api.ErrSize", Rows.laid_haversack_api_ErrSize), ("haversack/api.ErrNumber", Rows.laid_haversack_api_ErrNumber), ("haversack/api.ErrKey", Rows.laid_haversack_api_ErrKey), ("haversack/api.ErrType", Rows.laid_haversack_api_ErrType), ("strconv.ErrRange", Rows.laid_strconv_ErrRange), ("strconv.ErrSyntax", Rows.laid_strconv_ErrSyntax), ("haversack/quote.controls", Rows.laid_haversack_quote_controls), ("haversack/show.words", Rows.laid_haversack_show_words), ("unicode/utf8.first", Rows.laid_unicode_utf8_first)] = true := by
  unfold Program.listedFits
  rw [noOwnUnsafe]
  kernel_rfl
theorem tie3 : Tryd.prog.laidByTextLater [("math/bits.deBruijn32tab", Rows.laid_math_bits_deBruijn32tab), ("math/bits.deBruijn64tab", Rows.laid_math_bits_deBruijn64tab), ("internal/strconv.uint64pow10", Rows.laid_internal_strconv_uint64pow10), ("unicode/utf8.acceptRanges", Rows.laid_unicode_utf8_acceptRanges), ("haversack/api.ErrSyntax", Rows.laid_haversack_api_ErrSyntax), ("haversack/api.ErrDepth", Rows.laid_haversack_api_ErrDepth), ("haversack/api.ErrSize", Rows.laid_haversack_api_ErrSize), ("haversack/api.ErrNumber", Rows.laid_haversack_api_ErrNumber), ("haversack/api.ErrKey", Rows.laid_haversack_api_ErrKey), ("haversack/api.ErrType", Rows.laid_haversack_api_ErrType), ("strconv.ErrRange", Rows.laid_strconv_ErrRange), ("strconv.ErrSyntax", Rows.laid_strconv_ErrSyntax), ("haversack/quote.controls", Rows.laid_haversack_quote_controls), ("haversack/show.words", Rows.laid_haversack_show_words)] [.data, .data, .data, .data, .sentinel, .sentinel, .sentinel, .sentinel, .sentinel, .sentinel, .sentinel, .sentinel, .data, .data] true :=
  Program.laidByTextLater.sub seatTie1 ["math/bits.deBruijn32tab", "math/bits.deBruijn64tab", "internal/strconv.uint64pow10", "unicode/utf8.acceptRanges", "haversack/api.ErrSyntax", "haversack/api.ErrDepth", "haversack/api.ErrSize", "haversack/api.ErrNumber", "haversack/api.ErrKey", "haversack/api.ErrType", "strconv.ErrRange", "strconv.ErrSyntax", "haversack/quote.controls", "haversack/show.words"] (by kernel_rfl) (by kernel_rfl)
theorem showAgain_row_tie : Rows.showAgainRow.laidByTextAt .later Tryd.pinned [.data, .data, .data, .data, .sentinel, .sentinel, .sentinel, .sentinel, .sentinel, .sentinel, .sentinel, .sentinel, .data, .data, .pinned] true :=
  OpenClaim.laidByTextAt_pinned rfl rfl tie3 rfl rfl rfl rfl (fun y hy _e => by
    simp only [Rows.showAgainRow, List.zip_cons_cons, List.zip_nil_right, List.mem_cons, List.mem_nil_iff, or_false] at hy
    rcases hy with rfl | rfl | rfl | rfl | rfl | rfl | rfl | rfl | rfl | rfl | rfl | rfl | rfl | rfl | rfl
    · cases _e
    · cases _e
    · cases _e
    · cases _e
    · cases _e
    · cases _e
    · cases _e
    · cases _e
    · cases _e
    · cases _e
    · cases _e
    · cases _e
    · cases _e
    · cases _e
    · exact ⟨pin_laid_unicode_utf8_first, by kernel_rfl⟩) fits3
theorem showPartsUpto_row_tie : Rows.showPartsUptoRow.laidByTextAt .later Tryd.pinned [.data, .data, .data, .data, .sentinel, .sentinel, .data, .data, .pinned] true :=
  OpenClaim.laidByTextAt_pinned rfl rfl tie rfl rfl rfl rfl (fun y hy _e => by
    simp only [Rows.showPartsUptoRow, List.zip_cons_cons, List.zip_nil_right, List.mem_cons, List.mem_nil_iff, or_false] at hy
    rcases hy with rfl | rfl | rfl | rfl | rfl | rfl | rfl | rfl | rfl
    · cases _e
    · cases _e
    · cases _e
    · cases _e
    · cases _e
    · cases _e
    · cases _e
    · cases _e
    · exact ⟨pin_laid_unicode_utf8_first, by kernel_rfl⟩) fits1
theorem showObjectsUpto_row_tie : Rows.showObjectsUptoRow.laidByTextAt .later Tryd.pinned [.data, .data, .data, .data, .sentinel, .sentinel, .sentinel, .sentinel, .sentinel, .sentinel, .sentinel, .sentinel, .sentinel, .sentinel, .sentinel, .sentinel, .sentinel, .data, .data, .pinned] true :=
  OpenClaim.laidByTextAt_pinned rfl rfl tie2 rfl rfl rfl rfl (fun y hy _e => by
    simp only [Rows.showObjectsUptoRow, List.zip_cons_cons, List.zip_nil_right, List.mem_cons, List.mem_nil_iff, or_false] at hy
    rcases hy with rfl | rfl | rfl | rfl | rfl | rfl | rfl | rfl | rfl | rfl | rfl | rfl | rfl | rfl | rfl | rfl | rfl | rfl | rfl | rfl
    · cases _e
    · cases _e
    · cases _e
    · cases _e
    · cases _e
    · cases _e
    · cases _e
    · cases _e
    · cases _e
    · cases _e
    · cases _e
    · cases _e
    · cases _e
    · cases _e
    · cases _e
    · cases _e
    · cases _e
    · cases _e
    · cases _e
    · exact ⟨pin_laid_unicode_utf8_first, by kernel_rfl⟩) fits2
theorem showAgainUpto_row_tie : Rows.showAgainUptoRow.laidByTextAt .later Tryd.pinned [.data, .data, .data, .data, .sentinel, .sentinel, .sentinel, .sentinel, .sentinel, .sentinel, .sentinel, .sentinel, .data, .data, .pinned] true :=
  OpenClaim.laidByTextAt_pinned rfl rfl tie3 rfl rfl rfl rfl (fun y hy _e => by
    simp only [Rows.showAgainUptoRow, List.zip_cons_cons, List.zip_nil_right, List.mem_cons, List.mem_nil_iff, or_false] at hy
    rcases hy with rfl | rfl | rfl | rfl | rfl | rfl | rfl | rfl | rfl | rfl | rfl | rfl | rfl | rfl | rfl
    · cases _e
    · cases _e
    · cases _e
    · cases _e
    · cases _e
    · cases _e
    · cases _e
    · cases _e
    · cases _e
    · cases _e
    · cases _e
    · cases _e
    · cases _e
    · cases _e
    · exact ⟨pin_laid_unicode_utf8_first, by kernel_rfl⟩) fits3
end Go.Proofs.YtdbidkfjbhclcaaDoor
