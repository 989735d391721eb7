/-
  What a law of this chapter is asked (Ask), options, and the two errors, as they come in.
-/
import Derived.Test.YtjeckkkmoabjnaaDoorSatMe
import Derived.Test.YtjeckkkmoabjnaaDoorErM
namespace Go.Proofs.YtjeckkkmoabjnaaDoor.satArg
open Go.ChangeShapes Go.WideShapes Go.ChangeAt Go.RowKit proofN proofS proofU cls satLh errs
set_option linter.unusedSimpArgs false
set_option linter.unusedVariables false

theorem nilv_of {H : Type} {enc : TypeId × Value → H} {w : World} {fuel : Nat} {t e : TypeId} (ht : Tryd.prog.underlying t = some (.slice e)) {v : Value} {x : DataW H × List MemPlace} (hf : DataW.trod enc Tryd.prog w 0 (fun _ => true) true fuel t [v] = some x) : Nilv v := by
  rcases DataW.trod_slice ht hf with ⟨hcs, _⟩ | ⟨a, len', cap', elems, rest, n, rfl, hcs, _⟩
  · intro n c e
    rw [e] at hcs
    have := (List.cons.inj hcs).1
    cases this; exact ⟨rfl, rfl⟩
  · intro n c e
    rw [e] at hcs
    have := (List.cons.inj hcs).1
    cases this
set_option maxRecDepth 100000 in
theorem cells4 {H : Type} {enc : TypeId × Value → H} {W : World} {n : Nat} {c0 c1 c2 c3 : Value} {y : DataW H × List MemPlace} (f : DataW.trod enc Tryd.prog W 0 (fun _ => true) true n 25 [c0, c1, c2, c3] = some y) :
    ∃ (r k b : Int) (re : Bool), c0 = .int .i64 r ∧ c1 = .int .i64 k ∧ c2 = .bool re ∧ c3 = .int .i64 b ∧ In64 r ∧ In64 k ∧ In64 b := by
  obtain ⟨xs3, n3, rfl, _, hl3, hxs3, hfs3⟩ := DataW.trod_struct Tryd.underlying25 f
  have get3 : ∀ i, i < 4 → ∃ y, xs3[i]? = some y := fun i hi => ⟨xs3[i]'(by rw [hxs3]; exact hi), List.getElem?_eq_getElem _⟩
  have g0 : ∃ y, DataW.trod enc Tryd.prog W 0 (fun _ => true) true n3 3 [c0] = some y := by obtain ⟨y, hy⟩ := get3 0 (by omega); exact ⟨y, (hfs3 0 _ rfl).trans hy⟩
  have g1 : ∃ y, DataW.trod enc Tryd.prog W 0 (fun _ => true) true n3 3 [c1] = some y := by obtain ⟨y, hy⟩ := get3 1 (by omega); exact ⟨y, (hfs3 1 _ rfl).trans hy⟩
  have g2 : ∃ y, DataW.trod enc Tryd.prog W 0 (fun _ => true) true n3 4 [c2] = some y := by obtain ⟨y, hy⟩ := get3 2 (by omega); exact ⟨y, (hfs3 2 _ rfl).trans hy⟩
  have g3 : ∃ y, DataW.trod enc Tryd.prog W 0 (fun _ => true) true n3 3 [c3] = some y := by obtain ⟨y, hy⟩ := get3 3 (by omega); exact ⟨y, (hfs3 3 _ rfl).trans hy⟩
  obtain ⟨z0, g0⟩ := g0
  obtain ⟨z1, g1⟩ := g1
  obtain ⟨z2, g2⟩ := g2
  obtain ⟨z3, g3⟩ := g3
  obtain ⟨r, e0, _, hr⟩ := DataW.trod_int Tryd.underlying3 g0
  obtain ⟨k, e1, _, hk⟩ := DataW.trod_int Tryd.underlying3 g1
  obtain ⟨re, e2, _⟩ := DataW.trod_bool Tryd.underlying4 g2
  obtain ⟨b, e3, _, hb⟩ := DataW.trod_int Tryd.underlying3 g3
  simp only [List.cons.injEq, and_true] at e0 e1 e2 e3
  exact ⟨r, k, b, re, e0, e1, e2, e3, clsArg.in64_of hr, clsArg.in64_of hk, clsArg.in64_of hb⟩
set_option maxRecDepth 100000 in
theorem arg_opt {H : Type} {enc : TypeId × Value → H} {W : World} {base : Nat} {v : Value} {d : DataW H} {ps : List MemPlace} (ok : Value.okWide Tryd.prog W .any base 25 v)
    (h : DataW.Trod enc Tryd.prog W 0 (fun _ => true) true 25 v d ps) :
    ∃ (r k b : Int) (re : Bool), v = .agg #[.int .i64 r, .int .i64 k, .bool re, .int .i64 b] ∧ In64 r ∧ In64 k ∧ In64 b := by
  obtain ⟨cs, rfl, _⟩ := okWide_struct Tryd.underlying25 ok
  obtain ⟨fuel, hf⟩ := h
  obtain ⟨l, rfl⟩ : ∃ l, cs = ⟨l⟩ := ⟨_, rfl⟩
  have hf' : DataW.trod enc Tryd.prog W 0 (fun _ => true) true fuel 25 l = some (d, ps) := hf
  obtain ⟨xs, n, _, _, hl, _, _⟩ := DataW.trod_struct Tryd.underlying25 hf'
  rw [show Tryd.prog.cellsOf 25 = 4 from by kernel_rfl] at hl
  obtain ⟨c0, c1, c2, c3, rfl⟩ : ∃ c0 c1 c2 c3, l = [c0, c1, c2, c3] := by
    match l, hl with
    | [c0, c1, c2, c3], _ => exact ⟨c0, c1, c2, c3, rfl⟩
  obtain ⟨r, k, b, re, rfl, rfl, rfl, rfl, h1, h2, h3⟩ := cells4 hf'
  exact ⟨r, k, b, re, rfl, h1, h2, h3⟩
set_option maxRecDepth 100000 in
theorem arg_ask {H : Type} {enc : TypeId × Value → H} {W : World} {base : Nat} {v : Value} {d : DataW H} {ps : List MemPlace} (ok : Value.okWide Tryd.prog W .any base 27 v)
    (h : DataW.Trod enc Tryd.prog W 0 (fun _ => true) true 27 v d ps) :
    ∃ (cv av : Value) (vars r k b : Int) (re : Bool) (cl : List (List Int)) (asm : List Int), v = .agg #[cv, .int .i64 vars, av, .int .i64 r, .int .i64 k, .bool re, .int .i64 b] ∧ ClsAt W W.heap.size cv cl ∧ IntsAt W W.heap.size av asm ∧ Nilv cv ∧ In64 vars ∧ In64 r ∧ In64 k ∧ In64 b := by
  obtain ⟨cs, rfl, _⟩ := okWide_struct Tryd.underlying27 ok
  obtain ⟨fuel, hf⟩ := h
  obtain ⟨l, rfl⟩ : ∃ l, cs = ⟨l⟩ := ⟨_, rfl⟩
  have hf' : DataW.trod enc Tryd.prog W 0 (fun _ => true) true fuel 27 l = some (d, ps) := hf
  obtain ⟨xs, n, rfl, _, hl, hxs, hfs⟩ := DataW.trod_struct Tryd.underlying27 hf'
  rw [show Tryd.prog.cellsOf 27 = 7 from by kernel_rfl] at hl
  obtain ⟨c0, c1, c2, c3, c4, c5, c6, rfl⟩ : ∃ c0 c1 c2 c3 c4 c5 c6, l = [c0, c1, c2, c3, c4, c5, c6] := by
    match l, hl with
    | [c0, c1, c2, c3, c4, c5, c6], _ => exact ⟨c0, c1, c2, c3, c4, c5, c6, rfl⟩
  have get : ∀ i, i < 4 → ∃ y, xs[i]? = some y := fun i hi => ⟨xs[i]'(by rw [hxs]; exact hi), List.getElem?_eq_getElem _⟩
  have f0 : ∃ y, DataW.trod enc Tryd.prog W 0 (fun _ => true) true n 22 [c0] = some y := by obtain ⟨y, hy⟩ := get 0 (by omega); exact ⟨y, (hfs 0 _ rfl).trans hy⟩
  have f1 : ∃ y, DataW.trod enc Tryd.prog W 0 (fun _ => true) true n 3 [c1] = some y := by obtain ⟨y, hy⟩ := get 1 (by omega); exact ⟨y, (hfs 1 _ rfl).trans hy⟩
  have f2 : ∃ y, DataW.trod enc Tryd.prog W 0 (fun _ => true) true n 23 [c2] = some y := by obtain ⟨y, hy⟩ := get 2 (by omega); exact ⟨y, (hfs 2 _ rfl).trans hy⟩
  have f3 : ∃ y, DataW.trod enc Tryd.prog W 0 (fun _ => true) true n 25 [c3, c4, c5, c6] = some y := by obtain ⟨y, hy⟩ := get 3 (by omega); exact ⟨y, (hfs 3 _ rfl).trans hy⟩
  obtain ⟨y0, f0⟩ := f0
  obtain ⟨y1, f1⟩ := f1
  obtain ⟨y2, f2⟩ := f2
  obtain ⟨y3, f3⟩ := f3
  obtain ⟨r, k, b, re, rfl, rfl, rfl, rfl, h1, h2, h3⟩ := cells4 f3
  obtain ⟨vars, e1, _, hv⟩ := DataW.trod_int Tryd.underlying3 f1
  simp only [List.cons.injEq, and_true] at e1
  subst e1
  obtain ⟨cl, hcl⟩ := clsArg.cls_of f0
  obtain ⟨asm, hasm⟩ := clsArg.ints_of Tryd.underlying23 f2
  exact ⟨c0, c2, vars, r, k, b, re, cl, asm, rfl, hcl, hasm, nilv_of Tryd.underlying22 f0, clsArg.in64_of hv, h1, h2, h3⟩

def isTwo (x : String × DataW Unit) : Bool := x.1 == "haversack/api.ErrRange" || x.1 == "haversack/api.ErrLimit"
def twoL : List (String × Nat × List UInt8) := [("haversack/api.ErrRange", 9, [104, 97, 118, 101, 114, 115, 97, 99, 107, 58, 32, 114, 97, 110, 103, 101]), ("haversack/api.ErrLimit", 11, [104, 97, 118, 101, 114, 115, 97, 99, 107, 58, 32, 108, 105, 109, 105, 116])]
set_option maxRecDepth 100000 in
theorem two_of {W : World} {l : List (String × DataW Unit)} (hp : (l.all fun x => x.2.handleName?.isNone) = true) (hl : l.filter isTwo = twoL.map fun x => (x.1, datum x.2.2)) (h : laidMetH Tryd.prog l W) :
    ∃ a1 a2, 11 < W.heap.size ∧ W.cell? ⟨9, 0, none⟩ = some (evl a1) ∧ W.cell? ⟨11, 0, none⟩ = some (evl a2) := by
  rw [MakeChecks.laidMetH_plain _ _ _ hp] at h
  have h := h.filter isTwo
  rw [hl] at h
  obtain ⟨ps, hv, hnd, hrows⟩ := h
  obtain ⟨aa, h1, h2, h3, h4⟩ := sents twoL (by
    intro x hx
    simp only [twoL, List.mem_cons, List.mem_nil_iff, or_false] at hx
    rcases hx with rfl | rfl <;> exact ⟨by kernel_rfl, by kernel_rfl⟩) ps hv hnd hrows
  exact ⟨_, _, World.block_lt_of_cell? W _ (h3 1 (by decide)), h3 0 (by decide), h3 1 (by decide)⟩
end Go.Proofs.YtjeckkkmoabjnaaDoor.satArg
