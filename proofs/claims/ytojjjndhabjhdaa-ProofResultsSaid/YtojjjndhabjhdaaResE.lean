/-
  A result and what it was asked (Found) among the arguments.
-/
import Derived.Test.YtojjjndhabjhdaaResD
import Derived.Test.YtojjjndhabjhdaaClsArg
namespace Go.Proofs.Ytojjjndhabjhdaa.resE
open Go.ChangeShapes Go.WideShapes Go.ChangeAt Go.RowKit proofN proofS proofU shortC resD cls
set_option linter.unusedSimpArgs false
set_option linter.unusedVariables false

theorem bools_of {H : Type} {enc : TypeId × Value → H} {w : World} {fuel : Nat} {v : Value} {x : DataW H × List MemPlace} (hf : DataW.trod enc Try.prog w 0 (fun _ => true) true fuel 27 [v] = some x) : ∃ l, BoolsAt w w.heap.size v l := by
  rcases DataW.trod_slice Try.underlying27 hf with ⟨hcs, _⟩ | ⟨a, len, cap, elems, rest, n, rfl, hcs, _, _, hl, hm, hel, hg, _⟩
  · have := (List.cons.inj hcs).1
    subst this
    exact ⟨[], none, 0, 0, 0, rfl, Nat.zero_le _, fun h => absurd rfl h, fun i hi => absurd hi (Nat.not_lt_zero _)⟩
  · have := (List.cons.inj hcs).1
    subst this
    by_cases h0 : len = 0
    · subst h0
      exact ⟨[], some a, cap, 0, 0, rfl, Nat.zero_le _, fun h => absurd rfl h, fun i hi => absurd hi (Nat.not_lt_zero _)⟩
    · rw [show Try.prog.cellsOf 4 = 1 from by kernel_rfl] at hg
      have hall : ∀ i, i < len → ∃ (c : Bool) (u : Value), w.cell? (a.add (i * 1)) = some u ∧ u = .bool c := by
        intro i hi
        have h1 := hg i hi
        rw [List.getElem?_eq_getElem (by omega)] at h1
        obtain ⟨l, h2, h3⟩ := Option.bind_eq_some_iff.1 h1
        obtain ⟨u, rfl, hu⟩ := clsArg.cells_one h2
        obtain ⟨c, e, _⟩ := DataW.trod_bool Try.underlying4 h3
        exact ⟨c, u, hu, (List.cons.inj e).1⟩
      obtain ⟨cs, vs, hcl, hp⟩ := clsArg.choose_list len (fun i (c : Bool) (u : Value) => w.cell? (a.add (i * 1)) = some u ∧ u = .bool c) hall
      obtain ⟨b, off, spot⟩ := a
      have hspot : spot = none := by simpa [Addr.add] using World.cell?_spot (hp 0 (by omega)).1
      subst hspot
      have hcell : ∀ i (hi : i < cs.length), w.cell? ⟨b, off + i, none⟩ = some (.bool cs[i]) := fun i hi => by
        obtain ⟨h1, h2⟩ := hp i hi
        rw [clsArg.add1, Nat.mul_one, h2] at h1; exact h1
      refine ⟨cs, some ⟨b, off, none⟩, cap, b, off, by rw [hcl], by omega, fun _ => ⟨rfl, clsArg.cell_lt (hcell 0 (by omega))⟩, fun i hi => ?_⟩
      rw [hcell i hi, List.getD_eq_getElem?_getD, List.getElem?_eq_getElem hi]; rfl

set_option maxRecDepth 100000 in
theorem arg_found {H : Type} {enc : TypeId × Value → H} {W : World} {base : Nat} {v : Value} {d : DataW H} {ps : List MemPlace} (ok : Value.okWide Try.prog W .any base 42 v)
    (h : DataW.Trod enc Try.prog W 0 (fun _ => true) true 42 v d ps) :
    ∃ (cv av mv kv lv : Value) (vars st cf : Int) (cl log : List (List Int)) (m : List Bool) (asm core : List Int), v = .agg #[cv, .int .i64 vars, av, .int .i64 st, mv, kv, lv, .int .i64 cf] ∧ ClsAt W W.heap.size cv cl ∧ ClsAt W W.heap.size lv log ∧ BoolsAt W W.heap.size mv m ∧ IntsAt W W.heap.size av asm ∧ IntsAt W W.heap.size kv core ∧ Nilv cv ∧ Nilv lv ∧ In64 vars ∧ In64 st := by
  obtain ⟨cs, rfl, _⟩ := okWide_struct Try.underlying42 ok
  obtain ⟨fuel, hf⟩ := h
  obtain ⟨l, rfl⟩ : ∃ l, cs = ⟨l⟩ := ⟨_, rfl⟩
  have hf' : DataW.trod enc Try.prog W 0 (fun _ => true) true fuel 42 l = some (d, ps) := hf
  obtain ⟨xs, n, rfl, _, hl, hxs, hfs⟩ := DataW.trod_struct Try.underlying42 hf'
  rw [show Try.prog.cellsOf 42 = 8 from by kernel_rfl] at hl
  obtain ⟨c0, c1, c2, c3, c4, c5, c6, c7, rfl⟩ : ∃ c0 c1 c2 c3 c4 c5 c6 c7, l = [c0, c1, c2, c3, c4, c5, c6, c7] := by
    match l, hl with
    | [c0, c1, c2, c3, c4, c5, c6, c7], _ => exact ⟨c0, c1, c2, c3, c4, c5, c6, c7, rfl⟩
  have get : ∀ i, i < 4 → ∃ y, xs[i]? = some y := fun i hi => ⟨xs[i]'(by rw [hxs]; exact hi), List.getElem?_eq_getElem _⟩
  have f0 : ∃ y, DataW.trod enc Try.prog W 0 (fun _ => true) true n 22 [c0] = some y := by obtain ⟨y, hy⟩ := get 0 (by omega); exact ⟨y, (hfs 0 _ rfl).trans hy⟩
  have f1 : ∃ y, DataW.trod enc Try.prog W 0 (fun _ => true) true n 3 [c1] = some y := by obtain ⟨y, hy⟩ := get 1 (by omega); exact ⟨y, (hfs 1 _ rfl).trans hy⟩
  have f2 : ∃ y, DataW.trod enc Try.prog W 0 (fun _ => true) true n 29 [c2] = some y := by obtain ⟨y, hy⟩ := get 2 (by omega); exact ⟨y, (hfs 2 _ rfl).trans hy⟩
  have f3 : ∃ y, DataW.trod enc Try.prog W 0 (fun _ => true) true n 40 [c3, c4, c5, c6, c7] = some y := by obtain ⟨y, hy⟩ := get 3 (by omega); exact ⟨y, (hfs 3 _ rfl).trans hy⟩
  obtain ⟨y0, f0⟩ := f0
  obtain ⟨y1, f1⟩ := f1
  obtain ⟨y2, f2⟩ := f2
  obtain ⟨y3, f3⟩ := f3
  obtain ⟨xs3, n3, rfl, _, hl3, hxs3, hfs3⟩ := DataW.trod_struct Try.underlying40 f3
  have get3 : ∀ i, i < 5 → ∃ y, xs3[i]? = some y := fun i hi => ⟨xs3[i]'(by rw [hxs3]; exact hi), List.getElem?_eq_getElem _⟩
  have g0 : ∃ y, DataW.trod enc Try.prog W 0 (fun _ => true) true n3 3 [c3] = some y := by obtain ⟨y, hy⟩ := get3 0 (by omega); exact ⟨y, (hfs3 0 _ rfl).trans hy⟩
  have g1 : ∃ y, DataW.trod enc Try.prog W 0 (fun _ => true) true n3 27 [c4] = some y := by obtain ⟨y, hy⟩ := get3 1 (by omega); exact ⟨y, (hfs3 1 _ rfl).trans hy⟩
  have g2 : ∃ y, DataW.trod enc Try.prog W 0 (fun _ => true) true n3 29 [c5] = some y := by obtain ⟨y, hy⟩ := get3 2 (by omega); exact ⟨y, (hfs3 2 _ rfl).trans hy⟩
  have g3 : ∃ y, DataW.trod enc Try.prog W 0 (fun _ => true) true n3 22 [c6] = some y := by obtain ⟨y, hy⟩ := get3 3 (by omega); exact ⟨y, (hfs3 3 _ rfl).trans hy⟩
  have g4 : ∃ y, DataW.trod enc Try.prog W 0 (fun _ => true) true n3 3 [c7] = some y := by obtain ⟨y, hy⟩ := get3 4 (by omega); exact ⟨y, (hfs3 4 _ rfl).trans hy⟩
  obtain ⟨z0, g0⟩ := g0
  obtain ⟨z1, g1⟩ := g1
  obtain ⟨z2, g2⟩ := g2
  obtain ⟨z3, g3⟩ := g3
  obtain ⟨z4, g4⟩ := g4
  obtain ⟨vars, e1, _, hv⟩ := DataW.trod_int Try.underlying3 f1
  obtain ⟨st, e2, _, hs⟩ := DataW.trod_int Try.underlying3 g0
  obtain ⟨cf, e3, _, hcf⟩ := DataW.trod_int Try.underlying3 g4
  simp only [List.cons.injEq, and_true] at e1 e2 e3
  subst e1 e2 e3
  obtain ⟨cl, hcl⟩ := clsArg.cls_of f0
  obtain ⟨asm, hasm⟩ := clsArg.ints_of Try.underlying29 f2
  obtain ⟨m, hm⟩ := bools_of g1
  obtain ⟨core, hcore⟩ := clsArg.ints_of Try.underlying29 g2
  obtain ⟨log, hlog⟩ := clsArg.cls_of g3
  exact ⟨c0, c2, c4, c5, c6, vars, st, cf, cl, log, m, asm, core, rfl, hcl, hlog, hm, hasm, hcore, nilv_of Try.underlying22 f0, nilv_of Try.underlying22 g3, clsArg.in64_of hv, clsArg.in64_of hs⟩
end Go.Proofs.Ytojjjndhabjhdaa.resE
