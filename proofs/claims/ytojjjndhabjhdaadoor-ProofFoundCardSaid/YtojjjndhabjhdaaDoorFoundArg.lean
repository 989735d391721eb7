/-
  A result and what it was asked (Found) among the arguments; the two errors, as they lie when the call begins.
-/
import Derived.Test.YtojjjndhabjhdaaDoorFpM
import Derived.Test.YtojjjndhabjhdaaDoorFoM
import Derived.Test.YtojjjndhabjhdaaDoorSatLh
import Derived.Stop.LaidErr
import Derived.LaidSub
import Derived.MakeChecks
namespace Go.Proofs.YtojjjndhabjhdaaDoor.foundArg
open Go.ChangeShapes Go.WideShapes Go.ChangeAt Go.RowKit proofN cls satLh
set_option linter.unusedSimpArgs false
set_option linter.unusedVariables false

abbrev ev (a : Addr) : Value := evl a
/-! ### what the rows' list gives -/
def datum (t : List UInt8) : DataW Unit := .iface "*errors.errorString" (.ptr (.agg [.lit (.string t)]))

theorem star : "*" ++ "errors.errorString" = "*errors.errorString" := by decide
theorem ename (u : TypeId) (h : Tryd.prog.typeName? 3 u = some "*errors.errorString") : u = 127 :=
  typeName_ptr_named (nm := "errors.errorString") (by rw [star]; kernel_rfl) (by kernel_rfl) (by decide) u (by rw [star]; exact h)
theorem cellsE : Tryd.prog.cellsOf 143 = 1 := by kernel_rfl
theorem cellsS : Tryd.prog.cellsOf 9 = 1 := by kernel_rfl

set_option maxRecDepth 100000 in
theorem sents {W : World} : ∀ (l : List (String × Nat × List UInt8)), (∀ x ∈ l, Tryd.prog.globalNamed x.1 = some x.2.1 ∧ (Tryd.prog.globals[x.2.1]?).map (·.type) = some 32) →
    ∀ ps, DataW.LaidVars Tryd.prog W (l.map fun x => (x.1, datum x.2.2)) ps → ps.Nodup →
    (∀ b off, MemPlace.cell b off ∈ ps → (∃ c t, W.heap[b]? = some (.cells c t (0, 0))) ∧ ∀ u v, W.cell? ⟨b, off, none⟩ = some (.iface u v) → Value.okWide Tryd.prog W .any 0 u v) →
    ∃ aa : List Addr, aa.length = l.length ∧ aa.Nodup ∧ (∀ k, k < l.length → W.cell? ⟨(l.getD k ("", 0, [])).2.1, 0, none⟩ = some (ev (aa.getD k ⟨0, 0, none⟩))) ∧ ∀ a ∈ aa, MemPlace.cell a.block a.off ∈ ps := by
  intro l
  induction l with
  | nil => intro _ ps _ _ _; exact ⟨[], rfl, List.nodup_nil, (fun k hk => absurd hk (Nat.not_lt_zero _)), (fun a ha => absurd ha (List.not_mem_nil))⟩
  | cons x l ih =>
    intro hg ps hv hnd hrows
    obtain ⟨g0, t0, cs0, f0, p0, q0, hg0, ht0, hv0, hd0, hr0, e0⟩ := hv
    obtain ⟨hgx, htx⟩ := hg x (by simp)
    obtain rfl := Option.some.inj (hgx.symm.trans hg0)
    obtain rfl := Option.some.inj (htx.symm.trans ht0)
    subst e0
    obtain ⟨l0⟩ := cs0
    have ok0 : ∀ u v, l0 = [.iface u v] → Value.okWide Tryd.prog W .any 0 u v := fun u v e => by
      subst e
      exact (hrows x.2.1 0 (by simp [MemPlace.row])).2 u v (by simpa using World.var?_cell hg0 hv0 0)
    obtain ⟨a0, s0, rfl, hc0, hs0, hz0, rfl⟩ := errorString_of_trod Tryd.underlying32 ename Tryd.underlying127 Tryd.underlying143 rfl rfl Tryd.underlying9 cellsE cellsS hd0 ok0
    rw [List.nodup_append] at hnd
    obtain ⟨hn1, hn2, hn3⟩ := hnd
    obtain ⟨aa, h1, h2, h3, h4⟩ := ih (fun y hy => hg y (by simp [hy])) q0 hr0 hn2 (fun b off h => hrows b off (by simp [h]))
    refine ⟨a0 :: aa, by simp [h1], ?_, ?_, ?_⟩
    · rw [List.nodup_cons]
      refine ⟨fun ha => ?_, h2⟩
      exact hn3 (.cell a0.block a0.off) (by simp [MemPlace.row]) _ (h4 a0 ha) rfl
    · intro k hk
      cases k with
      | zero => simpa using World.var?_cell hg0 hv0 0
      | succ k => simpa using h3 k (by simpa using hk)
    · intro a ha
      rcases List.mem_cons.1 ha with rfl | ha
      · simp [MemPlace.row]
      · simp [h4 a ha]

def isTwo (x : String × DataW Unit) : Bool := x.1 == "haversack/api.ErrRange" || x.1 == "haversack/api.ErrLimit"
def twoL : List (String × Nat × List UInt8) := [("haversack/api.ErrRange", 0, [104, 97, 118, 101, 114, 115, 97, 99, 107, 58, 32, 114, 97, 110, 103, 101]), ("haversack/api.ErrLimit", 1, [104, 97, 118, 101, 114, 115, 97, 99, 107, 58, 32, 108, 105, 109, 105, 116])]
set_option maxRecDepth 100000 in
theorem two_of {W : World} {l : List (String × DataW Unit)} (hp : (l.all fun x => x.2.handleName?.isNone) = true) (hl : l.filter isTwo = twoL.map fun x => (x.1, datum x.2.2)) (h : laidMetH Tryd.prog l W) :
    ∃ a1 a2, 1 < W.heap.size ∧ W.cell? ⟨0, 0, none⟩ = some (evl a1) ∧ W.cell? ⟨1, 0, none⟩ = some (evl a2) := by
  rw [MakeChecks.laidMetH_plain _ _ _ hp] at h
  have h := h.filter isTwo
  rw [hl] at h
  obtain ⟨ps, hv, hnd, hrows⟩ := h
  obtain ⟨aa, h1, h2, h3, h4⟩ := sents twoL (by
    intro x hx
    simp only [twoL, List.mem_cons, List.mem_nil_iff, or_false] at hx
    rcases hx with rfl | rfl <;> exact ⟨by kernel_rfl, by kernel_rfl⟩) ps hv hnd hrows
  exact ⟨_, _, World.block_lt_of_cell? W _ (h3 1 (by decide)), h3 0 (by decide), h3 1 (by decide)⟩
set_option maxRecDepth 100000 in
theorem bools_of {H : Type} {enc : TypeId × Value → H} {w : World} {fuel : Nat} {v : Value} {x : DataW H × List MemPlace} (hf : DataW.trod enc Tryd.prog w 0 (fun _ => true) true fuel 24 [v] = some x) : ∃ l, BoolsAt w w.heap.size v l := by
  rcases DataW.trod_slice Tryd.underlying24 hf with ⟨hcs, _⟩ | ⟨a, len, cap, elems, rest, n, rfl, hcs, _, _, hl, hm, hel, hg, _⟩
  · have := (List.cons.inj hcs).1
    subst this
    exact ⟨[], none, 0, 0, 0, rfl, Nat.zero_le _, fun h => absurd rfl h, fun i hi => absurd hi (Nat.not_lt_zero _)⟩
  · have := (List.cons.inj hcs).1
    subst this
    by_cases h0 : len = 0
    · subst h0
      exact ⟨[], some a, cap, 0, 0, rfl, Nat.zero_le _, fun h => absurd rfl h, fun i hi => absurd hi (Nat.not_lt_zero _)⟩
    · rw [show Tryd.prog.cellsOf 4 = 1 from by kernel_rfl] at hg
      have hall : ∀ i, i < len → ∃ (c : Bool) (u : Value), w.cell? (a.add (i * 1)) = some u ∧ u = .bool c := by
        intro i hi
        have h1 := hg i hi
        rw [List.getElem?_eq_getElem (by omega)] at h1
        obtain ⟨l, h2, h3⟩ := Option.bind_eq_some_iff.1 h1
        obtain ⟨u, rfl, hu⟩ := clsArg.cells_one h2
        obtain ⟨c, e, _⟩ := DataW.trod_bool Tryd.underlying4 h3
        exact ⟨c, u, hu, (List.cons.inj e).1⟩
      obtain ⟨cs, vs, hcl, hp⟩ := clsArg.choose_list len (fun i (c : Bool) (u : Value) => w.cell? (a.add (i * 1)) = some u ∧ u = .bool c) hall
      obtain ⟨b, off, spot⟩ := a
      have hspot : spot = none := by simpa [Addr.add] using World.cell?_spot (hp 0 (by omega)).1
      subst hspot
      have hcell : ∀ i (hi : i < cs.length), w.cell? ⟨b, off + i, none⟩ = some (.bool cs[i]) := fun i hi => by
        obtain ⟨h1, h2⟩ := hp i hi
        rw [clsArg.add1, Nat.mul_one, h2] at h1; exact h1
      refine ⟨cs, some ⟨b, off, none⟩, cap, b, off, by rw [hcl], by omega, fun _ => ⟨rfl, clsArg.cell_lt (hcell 0 (by omega))⟩, fun i hi => ?_⟩
      rw [hcell i hi, List.getD_eq_getElem?_getD, List.getElem?_eq_getElem hi]; rfl

set_option maxRecDepth 100000 in
theorem arg_found {H : Type} {enc : TypeId × Value → H} {W : World} {base : Nat} {v : Value} {d : DataW H} {ps : List MemPlace} (ok : Value.okWide Tryd.prog W .any base 28 v)
    (h : DataW.Trod enc Tryd.prog W 0 (fun _ => true) true 28 v d ps) :
    ∃ (cv av mv kv lv : Value) (vars st cf : Int) (cl log : List (List Int)) (m : List Bool) (asm core : List Int), v = .agg #[cv, .int .i64 vars, av, .int .i64 st, mv, kv, lv, .int .i64 cf] ∧ ClsAt W W.heap.size cv cl ∧ IntsAt W W.heap.size av asm := by
  obtain ⟨cs, rfl, _⟩ := okWide_struct Tryd.underlying28 ok
  obtain ⟨fuel, hf⟩ := h
  obtain ⟨l, rfl⟩ : ∃ l, cs = ⟨l⟩ := ⟨_, rfl⟩
  have hf' : DataW.trod enc Tryd.prog W 0 (fun _ => true) true fuel 28 l = some (d, ps) := hf
  obtain ⟨xs, n, rfl, _, hl, hxs, hfs⟩ := DataW.trod_struct Tryd.underlying28 hf'
  rw [show Tryd.prog.cellsOf 28 = 8 from by kernel_rfl] at hl
  obtain ⟨c0, c1, c2, c3, c4, c5, c6, c7, rfl⟩ : ∃ c0 c1 c2 c3 c4 c5 c6 c7, l = [c0, c1, c2, c3, c4, c5, c6, c7] := by
    match l, hl with
    | [c0, c1, c2, c3, c4, c5, c6, c7], _ => exact ⟨c0, c1, c2, c3, c4, c5, c6, c7, rfl⟩
  have get : ∀ i, i < 4 → ∃ y, xs[i]? = some y := fun i hi => ⟨xs[i]'(by rw [hxs]; exact hi), List.getElem?_eq_getElem _⟩
  have f0 : ∃ y, DataW.trod enc Tryd.prog W 0 (fun _ => true) true n 22 [c0] = some y := by obtain ⟨y, hy⟩ := get 0 (by omega); exact ⟨y, (hfs 0 _ rfl).trans hy⟩
  have f1 : ∃ y, DataW.trod enc Tryd.prog W 0 (fun _ => true) true n 3 [c1] = some y := by obtain ⟨y, hy⟩ := get 1 (by omega); exact ⟨y, (hfs 1 _ rfl).trans hy⟩
  have f2 : ∃ y, DataW.trod enc Tryd.prog W 0 (fun _ => true) true n 23 [c2] = some y := by obtain ⟨y, hy⟩ := get 2 (by omega); exact ⟨y, (hfs 2 _ rfl).trans hy⟩
  have f3 : ∃ y, DataW.trod enc Tryd.prog W 0 (fun _ => true) true n 26 [c3, c4, c5, c6, c7] = some y := by obtain ⟨y, hy⟩ := get 3 (by omega); exact ⟨y, (hfs 3 _ rfl).trans hy⟩
  obtain ⟨y0, f0⟩ := f0
  obtain ⟨y1, f1⟩ := f1
  obtain ⟨y2, f2⟩ := f2
  obtain ⟨y3, f3⟩ := f3
  obtain ⟨xs3, n3, rfl, _, hl3, hxs3, hfs3⟩ := DataW.trod_struct Tryd.underlying26 f3
  have get3 : ∀ i, i < 5 → ∃ y, xs3[i]? = some y := fun i hi => ⟨xs3[i]'(by rw [hxs3]; exact hi), List.getElem?_eq_getElem _⟩
  have g0 : ∃ y, DataW.trod enc Tryd.prog W 0 (fun _ => true) true n3 3 [c3] = some y := by obtain ⟨y, hy⟩ := get3 0 (by omega); exact ⟨y, (hfs3 0 _ rfl).trans hy⟩
  have g1 : ∃ y, DataW.trod enc Tryd.prog W 0 (fun _ => true) true n3 24 [c4] = some y := by obtain ⟨y, hy⟩ := get3 1 (by omega); exact ⟨y, (hfs3 1 _ rfl).trans hy⟩
  have g2 : ∃ y, DataW.trod enc Tryd.prog W 0 (fun _ => true) true n3 23 [c5] = some y := by obtain ⟨y, hy⟩ := get3 2 (by omega); exact ⟨y, (hfs3 2 _ rfl).trans hy⟩
  have g3 : ∃ y, DataW.trod enc Tryd.prog W 0 (fun _ => true) true n3 22 [c6] = some y := by obtain ⟨y, hy⟩ := get3 3 (by omega); exact ⟨y, (hfs3 3 _ rfl).trans hy⟩
  have g4 : ∃ y, DataW.trod enc Tryd.prog W 0 (fun _ => true) true n3 3 [c7] = some y := by obtain ⟨y, hy⟩ := get3 4 (by omega); exact ⟨y, (hfs3 4 _ rfl).trans hy⟩
  obtain ⟨z0, g0⟩ := g0
  obtain ⟨z1, g1⟩ := g1
  obtain ⟨z2, g2⟩ := g2
  obtain ⟨z3, g3⟩ := g3
  obtain ⟨z4, g4⟩ := g4
  obtain ⟨vars, e1, _, hv⟩ := DataW.trod_int Tryd.underlying3 f1
  obtain ⟨st, e2, _, hs⟩ := DataW.trod_int Tryd.underlying3 g0
  obtain ⟨cf, e3, _, hcf⟩ := DataW.trod_int Tryd.underlying3 g4
  simp only [List.cons.injEq, and_true] at e1 e2 e3
  subst e1 e2 e3
  obtain ⟨cl, hcl⟩ := clsArg.cls_of f0
  obtain ⟨asm, hasm⟩ := clsArg.ints_of Tryd.underlying23 f2
  obtain ⟨m, hm⟩ := bools_of g1
  obtain ⟨core, hcore⟩ := clsArg.ints_of Tryd.underlying23 g2
  obtain ⟨log, hlog⟩ := clsArg.cls_of g3
  exact ⟨c0, c2, c4, c5, c6, vars, st, cf, cl, log, m, asm, core, rfl, hcl, hasm⟩
