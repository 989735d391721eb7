/-
  What the rows' list gives: the table of package quote, the error of syntax.
-/
import Derived.Test.YtdbidkfjbhclcaaDoorTabs
import Derived.Test.YtdbidkfjbhclcaaDoorQuoM
import Derived.Lib.LaidU8
namespace Go.Proofs.YtdbidkfjbhclcaaDoor.quoteW
open Go.Lib Go.RowKit quoteP quoteA quoteB errIs errs

theorem c9 : Tryd.prog.cellsOf 9 = 1 := by kernel_rfl
theorem ctl_n : Tryd.prog.globalNamed "haversack/quote.controls" = some 16 := by kernel_rfl
theorem ctl_y : (Tryd.prog.globals[16]?).map (·.type) = some 128 := by kernel_rfl
theorem ctl_d : (Rows.laid_haversack_quote_controls : DataW Unit) = .agg (ctl.map fun x => .lit (.string x)) := by kernel_rfl

theorem ctl_of {W : World} {l : List (String × DataW Unit)} (hp : (l.all fun x => x.2.handleName?.isNone) = true) (h1 : ("haversack/quote.controls", Rows.laid_haversack_quote_controls) ∈ l) (h : laidMetH Tryd.prog l W) : Ctl W := by
  rw [MakeChecks.laidMetH_plain _ _ _ hp] at h
  have r1 := laidMet.reads h h1
  rw [ctl_d] at r1
  intro c hc
  obtain ⟨g, t, cs, fuel, p, hg, hty, hvar, hd⟩ := r1
  obtain rfl := Option.some.inj (ctl_n.symm.trans hg)
  obtain rfl := Option.some.inj (ctl_y.symm.trans hty)
  obtain ⟨fuel', d, q, hdi, he⟩ := array_elem Tryd.underlying128 hd c hc
  have hlen : ctl.length = 32 := rfl
  rw [List.getElem?_map, List.getElem?_eq_getElem (by omega), Option.map_some, Option.some.injEq] at hdi
  subst hdi
  obtain ⟨s, hcs, hx, _⟩ := DataW.trod_string Tryd.underlying9 he
  rw [c9, Nat.mul_one] at hcs
  have e0 := congrArg (·[0]?) hcs
  simp only [List.getElem?_take, List.getElem?_drop] at e0
  rw [World.var?_cell hg hvar c, ← Array.getElem?_toList]
  have e1 : cs.toList[c]? = some (.string s) := by simpa using e0
  rw [e1]
  rw [Prod.mk.injEq] at hx
  have hs : ctl[c] = s.data.toList := by
    have := hx.1; injection this with this; injection this
  rw [List.getD_eq_getElem?_getD, List.getElem?_eq_getElem (by omega), Option.getD_some]
  exact congrArg (fun x : List UInt8 => some (Value.string ⟨x.toArray⟩)) hs.symm

def isSyn (x : String × DataW Unit) : Bool := x.1 == "haversack/api.ErrSyntax"
def synL : List (String × Nat × List UInt8) := sentL.take 1

set_option maxRecDepth 100000 in
theorem syn_of {W : World} {l : List (String × DataW Unit)} (hp : (l.all fun x => x.2.handleName?.isNone) = true) (hl : l.filter isSyn = synL.map fun x => (x.1, datum x.2.2)) (h : laidMetH Tryd.prog l W) : ∃ ad, Syn W ad := by
  rw [MakeChecks.laidMetH_plain _ _ _ hp] at h
  have h := h.filter isSyn
  rw [hl] at h
  obtain ⟨ps, hv, hnd, hrows⟩ := h
  obtain ⟨aa, h1, h2, h3, h4⟩ := sents synL (by
    intro x hx
    simp only [synL, sentL, List.take_succ_cons, List.take_zero, List.mem_cons, List.mem_nil_iff, or_false] at hx
    rcases hx with rfl
    exact ⟨by kernel_rfl, by kernel_rfl⟩) ps hv hnd hrows
  exact ⟨fun k => aa.getD k ⟨0, 0, none⟩, h3 0 (by decide)⟩

end Go.Proofs.YtdbidkfjbhclcaaDoor.quoteW
