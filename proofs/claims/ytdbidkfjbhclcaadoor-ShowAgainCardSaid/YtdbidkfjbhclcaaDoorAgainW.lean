/-
  What the row's list gives to ShowAgain: what show reads, and the errors of reading.
-/
import Derived.Test.YtdbidkfjbhclcaaDoorNodeW
import Derived.Test.YtdbidkfjbhclcaaDoorIntsW
import Derived.Test.YtdbidkfjbhclcaaDoorRows
namespace Go.Proofs.YtdbidkfjbhclcaaDoor.againW
open Go.Lib Go.RowKit quoteP quoteA quoteB errIs errs nodeH nodeW runesE
set_option linter.unusedSimpArgs false
set_option linter.unusedVariables false

def sixL : List (String × Nat × List UInt8) := sentL.take 6
def isSix (x : String × DataW Unit) : Bool := sixL.any fun y => y.1 == x.1
set_option maxRecDepth 100000 in
theorem six_of {W : World} {l : List (String × DataW Unit)} (hp : (l.all fun x => x.2.handleName?.isNone) = true) (hl : l.filter isSix = sixL.map fun x => (x.1, datum x.2.2)) (h : laidMetH Tryd.prog l W) : ∃ ad, Ej W ad ∧ W.cell? ⟨0, 0, none⟩ = some (ev (ad 5)) := by
  rw [MakeChecks.laidMetH_plain _ _ _ hp] at h
  have h := h.filter isSix
  rw [hl] at h
  obtain ⟨ps, hv, hnd, hrows⟩ := h
  obtain ⟨aa, h1, h2, h3, h4⟩ := sents sixL (by
    intro x hx
    simp only [sixL, sentL, List.take_succ_cons, List.take_zero, List.mem_cons, List.mem_nil_iff, or_false] at hx
    rcases hx with rfl | rfl | rfl | rfl | rfl | rfl <;> exact ⟨by kernel_rfl, by kernel_rfl⟩) ps hv hnd hrows
  refine ⟨fun k => aa.getD k ⟨0, 0, none⟩, ⟨fun k hk => ?_⟩, h3 5 (by decide)⟩
  have := h3 k (by show k < 6; omega)
  have e : (sixL.getD k ("", 0, [])).2.1 = gl.getD k 0 := by
    rcases (show k = 0 ∨ k = 1 ∨ k = 2 ∨ k = 3 ∨ k = 4 by omega) with rfl | rfl | rfl | rfl | rfl <;> rfl
  rw [e] at this; exact this
/-- all of it -/
theorem all_of {W : World} {l : List (String × DataW Unit)} (hp : (l.all fun x => x.2.handleName?.isNone) = true) (h1 : ("unicode/utf8.first", Rows.laid_unicode_utf8_first) ∈ l) (h2 : ("unicode/utf8.acceptRanges", Rows.laid_unicode_utf8_acceptRanges) ∈ l)
    (h3 : ("haversack/quote.controls", Rows.laid_haversack_quote_controls) ∈ l) (h4 : ("haversack/show.words", Rows.laid_haversack_show_words) ∈ l) (h5 : l.filter intsW.isPow = [("internal/strconv.uint64pow10", tabData .u64 Lib.pow10Tab)]) (h6 : l.filter isSix = sixL.map fun x => (x.1, datum x.2.2))
    (h7 : l.filter intsW.isRng = intsW.rngL.map fun x => (x.1, datum x.2.2)) (h : laidMetH Tryd.prog l W) : ∃ ad, Env W ad ∧ Ej W ad ∧ intsC.Rng W := by
  obtain ⟨ad, a, b⟩ := six_of hp h6 h
  exact ⟨ad, ⟨tabs.of_reads hp h1 h2 h, a.glob 0 (by decide), b, quoteW.ctl_of hp h3 h, intsW.pow_of hp h5 h, wds_of hp h4 h⟩, a, intsW.rng_of hp h7 h⟩
end Go.Proofs.YtdbidkfjbhclcaaDoor.againW
