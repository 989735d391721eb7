/-
  Slices of integers and of clauses among the arguments.
-/
import Derived.Test.YtojjjndhabjhdaaCls
import Derived.Test.YtojjjndhabjhdaaProg
import Derived.ChangeSlices
namespace Go.Proofs.Ytojjjndhabjhdaa.clsArg
open Go.ChangeShapes Go.WideShapes Go.ChangeAt Go.RowKit cls
set_option linter.unusedSimpArgs false
set_option linter.unusedVariables false

theorem in64_of {z : Int} (h : (Lit.int .i64 z).wf = true) : In64 z := by
  have h1 : IntKind.i64.min = -9223372036854775808 := by decide
  have h2 : IntKind.i64.max = 9223372036854775807 := by decide
  simp [Lit.wf] at h
  unfold In64
  omega
theorem cell_lt {w : World} {a : Addr} {v : Value} (h : w.cell? a = some v) : a.block < w.heap.size := by
  unfold World.cell? at h
  by_cases hb : a.block < w.heap.size
  · exact hb
  · rw [Array.getElem?_eq_none (by omega)] at h; simp at h
theorem add1 (b o n : Nat) : (⟨b, o, none⟩ : Addr).add n = ⟨b, o + n, none⟩ := by unfold Addr.add; split <;> simp_all

theorem ints_of {H : Type} {enc : TypeId × Value → H} {w : World} {fuel : Nat} {t : TypeId} (ht : Try.prog.underlying t = some (.slice 3)) {v : Value} {x : DataW H × List MemPlace} (hf : DataW.trod enc Try.prog w 0 (fun _ => true) true fuel t [v] = some x) : ∃ l, IntsAt w w.heap.size v l := by
  rcases open_ints ht Try.underlying3 (by kernel_rfl) hf with ⟨hcs, hx⟩ | ⟨a, len', cap', zs, hcs, _, hl, hm, hz, hx, hcell, hws⟩
  · simp at hcs
    subst hcs
    exact ⟨[], none, 0, 0, 0, rfl, Nat.zero_le _, fun h => absurd rfl h, fun i hi => absurd hi (Nat.not_lt_zero _), by simp⟩
  · simp at hcs
    subst hcs
    simp only [if_true] at hz
    have hl' : (zs.take len').length = len' := by rw [List.length_take]; omega
    by_cases h0 : len' = 0
    · subst h0
      exact ⟨[], some a, cap', 0, 0, rfl, Nat.zero_le _, fun h => absurd rfl h, fun i hi => absurd hi (Nat.not_lt_zero _), by simp⟩
    · obtain ⟨b, off, spot⟩ := a
      have hspot : spot = none := by simpa [Addr.add] using World.cell?_spot (hcell 0 (by omega))
      subst hspot
      have hcell' : ∀ i, i < len' → w.cell? ⟨b, off + i, none⟩ = some (.int .i64 ((zs.take len').getD i 0)) := by
        intro i hi
        have := hcell i (by omega)
        rw [add1] at this
        rw [this]
        simp [List.getD, hi]
      refine ⟨zs.take len', some ⟨b, off, none⟩, cap', b, off, by rw [hl'], by rw [hl']; omega, fun _ => ⟨rfl, cell_lt (hcell' 0 (by omega))⟩, fun i hi => hcell' i (by omega), fun s hs => in64_of (hws s (List.mem_of_mem_take hs))⟩

theorem choose_list {α β : Type} [Inhabited α] [Inhabited β] (n : Nat) (p : Nat → α → β → Prop) (h : ∀ i, i < n → ∃ a b, p i a b) : ∃ (l : List α) (f : Nat → β), l.length = n ∧ ∀ i (hi : i < l.length), p i l[i] (f i) := by
  induction n with
  | zero => exact ⟨[], fun _ => default, rfl, fun i hi => absurd hi (Nat.not_lt_zero _)⟩
  | succ n ih =>
    obtain ⟨l, f, hl, hp⟩ := ih (fun i hi => h i (by omega))
    obtain ⟨a, b, hab⟩ := h n (by omega)
    refine ⟨l ++ [a], fun i => if i = n then b else f i, by simp [hl], fun i hi => ?_⟩
    by_cases e : i = n
    · subst e; simpa [hl, List.getElem_append] using hab
    · have hi' : i < l.length := by simp at hi; omega
      simp only [if_neg e, List.getElem_append_left hi']
      exact hp i hi'
instance : Inhabited Value := ⟨undef⟩
theorem cells_one {w : World} {a : Addr} {l : List Value} (h : w.cells? 0 a 1 = some l) : ∃ u, l = [u] ∧ w.cell? a = some u := by
  unfold World.cells? at h
  rw [if_pos (Nat.zero_le _)] at h
  have hl : l.length = 1 := by simpa using mapM_some_length h
  obtain ⟨u, rfl⟩ := List.length_eq_one_iff.1 hl
  refine ⟨u, rfl, ?_⟩
  have := mapM_some_get h 0 0 (by simp)
  have e : a.add 0 = a := by cases a; unfold Addr.add; split <;> simp_all
  rw [e] at this; simpa using this

theorem cls_of {H : Type} {enc : TypeId × Value → H} {w : World} {fuel : Nat} {v : Value} {x : DataW H × List MemPlace}
    (hf : DataW.trod enc Try.prog w 0 (fun _ => true) true fuel 22 [v] = some x) : ∃ cs, ClsAt w w.heap.size v cs := by
  rcases DataW.trod_slice Try.underlying22 hf with ⟨hcs, _⟩ | ⟨a, len, cap, elems, rest, n, rfl, hcs, _, _, hl, hm, hel, hg, _⟩
  · simp at hcs
    subst hcs
    exact ⟨[], none, 0, 0, 0, fun _ => undef, rfl, Nat.zero_le _, fun h => absurd rfl h, fun i hi => absurd hi (Nat.not_lt_zero _), fun i hi => absurd hi (Nat.not_lt_zero _)⟩
  · simp at hcs
    subst hcs
    by_cases h0 : len = 0
    · subst h0
      exact ⟨[], some a, cap, 0, 0, fun _ => undef, rfl, Nat.zero_le _, fun h => absurd rfl h, fun i hi => absurd hi (Nat.not_lt_zero _), fun i hi => absurd hi (Nat.not_lt_zero _)⟩
    · rw [show Try.prog.cellsOf 30 = 1 from by kernel_rfl] at hg
      have hall : ∀ i, i < len → ∃ (c : List Int) (u : Value), w.cell? (a.add (i * 1)) = some u ∧ IntsAt w w.heap.size u c := by
        intro i hi
        have h1 := hg i hi
        rw [List.getElem?_eq_getElem (by omega)] at h1
        obtain ⟨l, h2, h3⟩ := Option.bind_eq_some_iff.1 h1
        obtain ⟨u, rfl, hu⟩ := cells_one h2
        obtain ⟨c, hc⟩ := ints_of Try.underlying30 h3
        exact ⟨c, u, hu, hc⟩
      obtain ⟨cs, vs, hcl, hp⟩ := choose_list len (fun i (c : List Int) (u : Value) => w.cell? (a.add (i * 1)) = some u ∧ IntsAt w w.heap.size u c) hall
      obtain ⟨b, off, spot⟩ := a
      have hspot : spot = none := by simpa [Addr.add] using World.cell?_spot (hp 0 (by omega)).1
      subst hspot
      have hcell : ∀ i, i < len → w.cell? ⟨b, off + i, none⟩ = some (vs i) := fun i hi => by
        have := (hp i (by omega)).1
        rw [add1, Nat.mul_one] at this; exact this
      refine ⟨cs, some ⟨b, off, none⟩, cap, b, off, vs, by rw [hcl], by omega, fun _ => ⟨rfl, cell_lt (hcell 0 (by omega))⟩, fun i hi => hcell i (by omega), fun i hi => ?_⟩
      have := (hp i hi).2
      rw [List.getD_eq_getElem?_getD, List.getElem?_eq_getElem hi]; exact this

theorem arg_cls {H : Type} {enc : TypeId × Value → H} {W : World} {base : Nat} {v : Value} {d : DataW H} {ps : List MemPlace} (ok : Value.okWide Try.prog W .any base 22 v)
    (h : DataW.Trod enc Try.prog W 0 (fun _ => true) true 22 v d ps) : ∃ cs, ClsAt W W.heap.size v cs := by
  obtain ⟨a0, len, cap, rfl⟩ := okWide_slice Try.underlying22 ok
  obtain ⟨fuel, hf⟩ := h
  exact cls_of hf
theorem arg_ints {H : Type} {enc : TypeId × Value → H} {W : World} {base : Nat} {t : TypeId} (ht : Try.prog.underlying t = some (.slice 3)) {v : Value} {d : DataW H} {ps : List MemPlace} (ok : Value.okWide Try.prog W .any base t v)
    (h : DataW.Trod enc Try.prog W 0 (fun _ => true) true t v d ps) : ∃ cs, IntsAt W W.heap.size v cs := by
  obtain ⟨a0, len, cap, rfl⟩ := okWide_slice ht ok
  obtain ⟨fuel, hf⟩ := h
  exact ints_of ht hf
end Go.Proofs.Ytojjjndhabjhdaa.clsArg
