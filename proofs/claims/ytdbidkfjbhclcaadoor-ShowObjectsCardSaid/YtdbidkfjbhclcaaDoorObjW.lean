/-
  What the row's list gives to ShowObjects: what show reads, and all errors.
-/
import Derived.Test.YtdbidkfjbhclcaaDoorNodeW
import Derived.Test.YtdbidkfjbhclcaaDoorRows
import Derived.Test.YtdbidkfjbhclcaaDoorObjL
namespace Go.Proofs.YtdbidkfjbhclcaaDoor.objW
open Go.ChangeShapes Go.WideShapes Go.ChangeAt Go.Lib Go.RowKit nodeP quoteP quoteA quoteB errIs errs nodeH nodeW runesE
set_option linter.unusedSimpArgs false
set_option linter.unusedVariables false

/-- all of it -/
theorem all_of {W : World} {l : List (String × DataW Unit)} (hp : (l.all fun x => x.2.handleName?.isNone) = true) (h1 : ("unicode/utf8.first", Rows.laid_unicode_utf8_first) ∈ l) (h2 : ("unicode/utf8.acceptRanges", Rows.laid_unicode_utf8_acceptRanges) ∈ l)
    (h3 : ("haversack/quote.controls", Rows.laid_haversack_quote_controls) ∈ l) (h4 : ("haversack/show.words", Rows.laid_haversack_show_words) ∈ l) (h5 : l.filter intsW.isPow = [("internal/strconv.uint64pow10", tabData .u64 Lib.pow10Tab)]) (h6 : l.filter isSent = sentL.map fun x => (x.1, datum x.2.2))
    (h : laidMetH Tryd.prog l W) : ∃ ad, Env W ad ∧ Errs W ad := by
  obtain ⟨ad, a⟩ := errs.of_laid hp h6 h
  exact ⟨ad, ⟨tabs.of_reads hp h1 h2 h, a.glob 0 (by decide), a.glob 5 (by decide), quoteW.ctl_of hp h3 h, intsW.pow_of hp h5 h, wds_of hp h4 h⟩, a⟩
set_option maxRecDepth 100000 in
/-- a slice of texts among the arguments -/
theorem arg_keys {H : Type} {enc : TypeId × Value → H} {W : World} {base : Nat} {v : Value} {d : DataW H} {ps : List MemPlace} (ok : Value.okWide Tryd.prog W .any base 24 v)
    (h : DataW.Trod enc Tryd.prog W 0 (fun _ => true) true 24 v d ps) : ∃ ks, KeysAt W W.heap.size v ks := by
  obtain ⟨a0, len, cap, rfl⟩ := okWide_slice Tryd.underlying24 ok
  obtain ⟨fuel, hf⟩ := h
  exact keys_of hf
theorem law_of {W : World} {v u : Value} (hk : ∃ ks, KeysAt W W.heap.size v ks) (hc : ∃ cs, KidsAt W W.heap.size u cs) (hE : ∃ ad, Env W ad ∧ Errs W ad) : Calls Tryd.prog 4 #[v, u] W fun e w' => e = .returned (.bool true) ∧ Below W.heap.size W w' := by
  obtain ⟨ks, hk⟩ := hk
  obtain ⟨cs, hc⟩ := hc
  obtain ⟨ad, hE, hR⟩ := hE
  exact objL.law_objects ks cs v u W ad hk hc hE hR
end Go.Proofs.YtdbidkfjbhclcaaDoor.objW
