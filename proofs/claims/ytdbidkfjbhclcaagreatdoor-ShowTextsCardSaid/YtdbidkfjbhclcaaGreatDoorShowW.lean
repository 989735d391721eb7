/-
  What the row's list gives to ShowTexts: what show reads, all errors, and the errors of reading.
-/
import Derived.Test.YtdbidkfjbhclcaaGreatDoorNodeW
import Derived.Test.YtdbidkfjbhclcaaGreatDoorIntsW
import Derived.Test.YtdbidkfjbhclcaaGreatDoorRows
import Derived.Test.YtdbidkfjbhclcaaGreatDoorShowL
namespace Go.Proofs.YtdbidkfjbhclcaaGreatDoor.showW
open Go.Lib Go.RowKit quoteP quoteA quoteB errIs errs nodeH nodeW runesE
set_option linter.unusedSimpArgs false
set_option linter.unusedVariables false

/-- all of it -/
theorem all_of {W : World} {l : List (String × DataW Unit)} (hp : (l.all fun x => x.2.handleName?.isNone) = true) (h1 : ("unicode/utf8.first", Rows.laid_unicode_utf8_first) ∈ l) (h2 : ("unicode/utf8.acceptRanges", Rows.laid_unicode_utf8_acceptRanges) ∈ l)
    (h3 : ("haversack/quote.controls", Rows.laid_haversack_quote_controls) ∈ l) (h4 : ("haversack/show.words", Rows.laid_haversack_show_words) ∈ l) (h5 : l.filter intsW.isPow = [("internal/strconv.uint64pow10", tabData .u64 Lib.pow10Tab)]) (h6 : l.filter isSent = sentL.map fun x => (x.1, datum x.2.2))
    (h7 : l.filter intsW.isRng = intsW.rngL.map fun x => (x.1, datum x.2.2)) (h : laidMetH Tryz.prog l W) : ∃ ad, Env W ad ∧ Errs W ad ∧ intsC.Rng W := by
  obtain ⟨ad, a⟩ := errs.of_laid hp h6 h
  exact ⟨ad, ⟨tabs.of_reads hp h1 h2 h, a.glob 0 (by decide), a.glob 5 (by decide), quoteW.ctl_of hp h3 h, intsW.pow_of hp h5 h, wds_of hp h4 h⟩, a, intsW.rng_of hp h7 h⟩
theorem law_of {W : World} {v : Value} (h : ∃ x cs, v = .agg cs ∧ nodeP.NodeAt W W.heap.size x cs.toList) (hE : ∃ ad, Env W ad ∧ Errs W ad ∧ intsC.Rng W) : Calls Tryz.prog 3 #[v] W fun e w' => e = .returned (.bool true) ∧ Below W.heap.size W w' := by
  obtain ⟨x, cs, rfl, hx⟩ := h
  obtain ⟨ad, hE⟩ := hE
  have e : (Value.agg cs) = .agg cs.toList.toArray := by simp
  rw [e]
  exact showL.law_texts x cs.toList W ad hx hE.1 hE.2.1 hE.2.2
end Go.Proofs.YtdbidkfjbhclcaaGreatDoor.showW
