/-
  What the rows' list gives: all that the code of show reads besides its arguments.
-/
import Derived.Test.YtdbidkfjbhclcaaDoorQuoteW
import Derived.Test.YtdbidkfjbhclcaaDoorIntsW
import Derived.Test.YtdbidkfjbhclcaaDoorNodeH
import Derived.Lib.LaidU8
namespace Go.Proofs.YtdbidkfjbhclcaaDoor.nodeW
open Go.Lib Go.RowKit quoteP quoteA quoteB errIs errs nodeH

theorem wds_n : Tryd.prog.globalNamed "haversack/show.words" = some 13 := by kernel_rfl
theorem wds_y : (Tryd.prog.globals[13]?).map (·.type) = some 68 := by kernel_rfl
def wdsL : List (List UInt8) := [[], nodeQ.bytes "null", nodeQ.bytes "false", nodeQ.bytes "true"]
theorem wds_d : (Rows.laid_haversack_show_words : DataW Unit) = .agg (wdsL.map fun x => .lit (.string x)) := by
  have e1 : nodeQ.bytes "null" = [110, 117, 108, 108] := by decide +kernel
  have e2 : nodeQ.bytes "false" = [102, 97, 108, 115, 101] := by decide +kernel
  have e3 : nodeQ.bytes "true" = [116, 114, 117, 101] := by decide +kernel
  unfold wdsL
  rw [e1, e2, e3]; rfl

theorem wds_of {W : World} {l : List (String × DataW Unit)} (hp : (l.all fun x => x.2.handleName?.isNone) = true) (h1 : ("haversack/show.words", Rows.laid_haversack_show_words) ∈ l) (h : laidMetH Tryd.prog l W) : Wds W := by
  rw [MakeChecks.laidMetH_plain _ _ _ hp] at h
  have r1 := laidMet.reads h h1
  rw [wds_d] at r1
  have main : ∀ c, c < 4 → W.cell? ⟨13, c, none⟩ = some (.string ⟨(wdsL.getD c []).toArray⟩) := by
    intro c hc
    obtain ⟨g, t, cs, fuel, p, hg, hty, hvar, hd⟩ := r1
    obtain rfl := Option.some.inj (wds_n.symm.trans hg)
    obtain rfl := Option.some.inj (wds_y.symm.trans hty)
    obtain ⟨fuel', d, q, hdi, he⟩ := array_elem Tryd.underlying68 hd c hc
    have hlen : wdsL.length = 4 := rfl
    rw [List.getElem?_map, List.getElem?_eq_getElem (by omega), Option.map_some, Option.some.injEq] at hdi
    subst hdi
    obtain ⟨s, hcs, hx, _⟩ := DataW.trod_string Tryd.underlying9 he
    rw [quoteW.c9, Nat.mul_one] at hcs
    have e0 := congrArg (·[0]?) hcs
    simp only [List.getElem?_take, List.getElem?_drop] at e0
    rw [World.var?_cell hg hvar c, ← Array.getElem?_toList]
    have e1 : cs.toList[c]? = some (.string s) := by simpa using e0
    rw [e1]
    rw [Prod.mk.injEq] at hx
    have hs : wdsL[c] = s.data.toList := by
      have := hx.1; injection this with this; injection this
    rw [List.getD_eq_getElem?_getD, List.getElem?_eq_getElem (by omega), Option.getD_some]
    exact congrArg (fun x : List UInt8 => some (Value.string ⟨x.toArray⟩)) hs.symm
  exact ⟨main 1 (by decide), main 2 (by decide), main 3 (by decide)⟩

def isST (x : String × DataW Unit) : Bool := x.1 == "haversack/api.ErrSyntax" || x.1 == "haversack/api.ErrType"
def stL : List (String × Nat × List UInt8) := [sentL.getD 0 ("", 0, []), sentL.getD 5 ("", 0, [])]

set_option maxRecDepth 100000 in
theorem st_of {W : World} {l : List (String × DataW Unit)} (hp : (l.all fun x => x.2.handleName?.isNone) = true) (hl : l.filter isST = stL.map fun x => (x.1, datum x.2.2)) (h : laidMetH Tryd.prog l W) : ∃ ad, Syn W ad ∧ W.cell? ⟨0, 0, none⟩ = some (ev (ad 5)) := by
  rw [MakeChecks.laidMetH_plain _ _ _ hp] at h
  have h := h.filter isST
  rw [hl] at h
  obtain ⟨ps, hv, hnd, hrows⟩ := h
  obtain ⟨aa, h1, h2, h3, h4⟩ := sents stL (by
    intro x hx
    simp only [stL, List.mem_cons, List.mem_nil_iff, or_false] at hx
    rcases hx with rfl | rfl
    · exact ⟨by kernel_rfl, by kernel_rfl⟩
    · exact ⟨by kernel_rfl, by kernel_rfl⟩) ps hv hnd hrows
  exact ⟨fun k => if k = 0 then aa.getD 0 ⟨0, 0, none⟩ else aa.getD 1 ⟨0, 0, none⟩, h3 0 (by decide), h3 1 (by decide)⟩

theorem env_of {W : World} {l : List (String × DataW Unit)} (hp : (l.all fun x => x.2.handleName?.isNone) = true) (h1 : ("unicode/utf8.first", Rows.laid_unicode_utf8_first) ∈ l) (h2 : ("unicode/utf8.acceptRanges", Rows.laid_unicode_utf8_acceptRanges) ∈ l)
    (h3 : ("haversack/quote.controls", Rows.laid_haversack_quote_controls) ∈ l) (h4 : ("haversack/show.words", Rows.laid_haversack_show_words) ∈ l) (h5 : l.filter intsW.isPow = [("internal/strconv.uint64pow10", tabData .u64 Lib.pow10Tab)]) (h6 : l.filter isST = stL.map fun x => (x.1, datum x.2.2)) (h : laidMetH Tryd.prog l W) : ∃ ad, Env W ad := by
  obtain ⟨ad, a, b⟩ := st_of hp h6 h
  exact ⟨ad, tabs.of_reads hp h1 h2 h, a, b, quoteW.ctl_of hp h3 h, intsW.pow_of hp h5 h, wds_of hp h4 h⟩
end Go.Proofs.YtdbidkfjbhclcaaDoor.nodeW
