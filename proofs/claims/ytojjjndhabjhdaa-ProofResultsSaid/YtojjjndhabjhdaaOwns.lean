/-
  Many rows of the call's own at once, each in a block of its own; an object (a struct behind a pointer) beside them.
-/
import Derived.Below
import Derived.ProofKit
import Derived.Maps.AppendAt
import Derived.Lib.Hide
import Derived.Lib.SmallJoins
namespace Go.Proofs.Ytojjjndhabjhdaa.owns
open Go.RowKit

structure Ent where
  e : TypeId
  v : Value
  xs : List Value

def Owns {I : Type} (w : World) (B : Nat) (F : I → Ent) : Prop :=
  (∀ k, w.ownsRow B (F k).e 1 (F k).v (F k).xs.length (F k).xs) ∧ ∀ j k b, (F j).v.ownBlock = some b → (F k).v.ownBlock = some b → j = k

def upd {I : Type} [DecidableEq I] (F : I → Ent) (k : I) (x : Ent) : I → Ent := fun j => if j = k then x else F j
theorem upd_same {I : Type} [DecidableEq I] (F : I → Ent) (k : I) (x : Ent) : upd F k x k = x := by simp [upd]
theorem upd_other {I : Type} [DecidableEq I] (F : I → Ent) {k j : I} (x : Ent) (h : j ≠ k) : upd F k x j = F j := by simp [upd, h]

theorem Owns.step {I : Type} [DecidableEq I] {w w' : World} {B : Nat} {F : I → Ent} (h : Owns w B F) (k : I) (x : Ent) (hg : w.grownBy w' (F k).v.ownBlock) (hx : w'.ownsRow B x.e 1 x.v x.xs.length x.xs)
    (hb : x.v.ownBlock = (F k).v.ownBlock ∨ x.v.ownBlock = none ∨ ∃ b, x.v.ownBlock = some b ∧ w.heap.size ≤ b) : Owns w' B (upd F k x) := by
  have hlt : ∀ j b, (F j).v.ownBlock = some b → b < w.heap.size := fun j b hj => ((h.1 j).lt b hj).2
  have key : ∀ j b, j ≠ k → (F j).v.ownBlock = some b → x.v.ownBlock ≠ some b := by
    intro j b hjk hj hxb
    rcases hb with hb | hb | ⟨b', hb, hle⟩
    · exact hjk (h.2 j k b hj (hb.symm.trans hxb))
    · rw [hb] at hxb; cases hxb
    · rw [hb] at hxb
      have := hlt j b hj
      cases hxb; omega
  refine ⟨fun j => ?_, fun i j b hi hj => ?_⟩
  · by_cases e : j = k
    · subst e; rw [upd_same]; exact hx
    · rw [upd_other _ _ e]
      refine (h.1 j).kept hg ?_
      cases hv : (F j).v.ownBlock with
      | none => exact .inl rfl
      | some b => exact .inr (fun hh => e (h.2 j k b hv hh.symm))
  · by_cases ei : i = k <;> by_cases ej : j = k
    · rw [ei, ej]
    · subst ei; rw [upd_same] at hi; rw [upd_other _ _ ej] at hj
      exact absurd hi (key j b ej hj)
    · subst ej; rw [upd_same] at hj; rw [upd_other _ _ ei] at hi
      exact absurd hj (key i b ei hi)
    · rw [upd_other _ _ ei] at hi; rw [upd_other _ _ ej] at hj; exact h.2 i j b hi hj

theorem Owns.below {I : Type} {w w' : World} {B : Nat} {F : I → Ent} (h : Owns w B F) (hb : Below w.heap.size w w') : Owns w' B F :=
  ⟨fun k => (h.1 k).kept (row := none) ⟨hb.os, hb.tape, hb.output, hb.size, fun k hk _ => hb.block k hk⟩ (Classical.em _), h.2⟩
theorem Owns.alloc {I : Type} {w : World} {B : Nat} {F : I → Ent} (h : Owns w B F) (o : Obj) : Owns (w.alloc o) B F := h.below ((Below.refl _ _).alloc (Nat.le_refl _) _)
theorem Owns.drew {I : Type} {w : World} {B : Nat} {F : I → Ent} (h : Owns w B F) : Owns w.drew B F := h.below (Below.refl _ _).drew
/-- what is written is none of the rows -/
theorem Owns.apart {I : Type} {w w' : World} {B : Nat} {F : I → Ent} (h : Owns w B F) {row : Option Nat} (hg : w.grownBy w' row) (hr : ∀ k b, (F k).v.ownBlock = some b → row ≠ some b) : Owns w' B F :=
  ⟨fun k => (h.1 k).kept hg (by
    cases hv : (F k).v.ownBlock with
    | none => exact .inl rfl
    | some b => exact .inr (fun hh => hr k b hv hh.symm)), h.2⟩
theorem Owns.alike {I : Type} [DecidableEq I] {w : World} {B : Nat} {F G : I → Ent} (h : Owns w B F) (e : ∀ k, F k = G k) : Owns w B G := by
  have : F = G := funext e
  rw [← this]; exact h

theorem own_form {w : World} {B : Nat} {e : TypeId} {v : Value} {n : Nat} {xs : List Value} (h : w.ownsRow B e 1 v n xs) (hn : 0 < n) : ∃ g cap, v = .slice (some ⟨g, 0, none⟩) n cap ∧ B ≤ g ∧ g < w.heap.size ∧ n ≤ cap ∧ cap ≤ maxLen := by
  rcases h.2 with ⟨_, h0⟩ | ⟨g, cap, cur, hv, hb, hg, hn', hm, _⟩
  · omega
  · exact ⟨g, cap, hv, hb, (Array.getElem?_eq_some_iff.1 hg).1, hn', hm⟩
/-- a row that holds something -/
theorem Owns.form {I : Type} {w : World} {B : Nat} {F : I → Ent} (h : Owns w B F) (k : I) (hn : 0 < (F k).xs.length) :
    ∃ g cap, (F k).v = .slice (some ⟨g, 0, none⟩) (F k).xs.length cap ∧ B ≤ g ∧ g < w.heap.size ∧ (F k).xs.length ≤ cap ∧ cap ≤ maxLen := by
  rcases (h.1 k).2 with ⟨_, h0⟩ | ⟨g, cap, cur, hv, hb, hg, hn', hm, _⟩
  · omega
  · exact ⟨g, cap, hv, hb, (Array.getElem?_eq_some_iff.1 hg).1, hn', hm⟩
/-- a row's value, whether or not it holds something -/
theorem Owns.value {I : Type} {w : World} {B : Nat} {F : I → Ent} (h : Owns w B F) (k : I) : ∃ ao cap, (F k).v = .slice ao (F k).xs.length cap := by
  rcases (h.1 k).2 with ⟨hv, h0⟩ | ⟨g, cap, cur, hv, hb, hg, hn', hm, _⟩
  · exact ⟨none, 0, by rw [hv, h0]⟩
  · exact ⟨_, cap, hv⟩
theorem Owns.cell {I : Type} {w : World} {B : Nat} {F : I → Ent} (h : Owns w B F) {k : I} {g cap n : Nat} (hv : (F k).v = .slice (some ⟨g, 0, none⟩) n cap) (j : Nat) (hj : j < (F k).xs.length) : w.cell? ⟨g, j, none⟩ = (F k).xs[j]? := by
  have h1 := h.1 k
  have hn : n = (F k).xs.length := by
    rcases h1.2 with ⟨hv', _⟩ | ⟨_, _, _, hv', _⟩
    · rw [hv] at hv'; cases hv'
    · rw [hv] at hv'; cases hv'; rfl
  rw [hv, hn] at h1
  exact h1.cellAt j (by omega)
theorem Owns.frozen {I : Type} {w : World} {B : Nat} {F : I → Ent} (h : Owns w B F) {k : I} {g cap n : Nat} (hv : (F k).v = .slice (some ⟨g, 0, none⟩) n cap) (j : Nat) : w.frozen? ⟨g, j, none⟩ = false := by
  have h1 := h.1 k
  have hn : n = (F k).xs.length := by
    rcases h1.2 with ⟨hv', _⟩ | ⟨_, _, _, hv', _⟩
    · rw [hv] at hv'; cases hv'
    · rw [hv] at hv'; cases hv'; rfl
  rw [hv, hn] at h1
  exact h1.frozenAt j
theorem Owns.at {I : Type} {w : World} {B : Nat} {F : I → Ent} (h : Owns w B F) (k : I) {e : TypeId} {v : Value} {n : Nat} {xs : List Value} (he : (F k).e = e) (hv : (F k).v = v) (hn : xs.length = n) (hx : (F k).xs = xs) : w.ownsRow B e 1 v n xs := by
  have := h.1 k
  rw [he, hv, hx, hn] at this
  exact this
/-- a cell of a row is written -/
theorem Owns.set {I : Type} [DecidableEq I] {w : World} {B : Nat} {F : I → Ent} (h : Owns w B F) {k : I} {g cap n : Nat} (hv : (F k).v = .slice (some ⟨g, 0, none⟩) n cap) (j : Nat) (x : Value) :
    Owns (w.setCell ⟨g, j, none⟩ x) B (upd F k ⟨(F k).e, (F k).v, (F k).xs.set j x⟩) ∧ w.grownBy (w.setCell ⟨g, j, none⟩ x) (some g) := by
  have h1 := h.1 k
  have hn : n = (F k).xs.length := by
    rcases h1.2 with ⟨hv', _⟩ | ⟨_, _, _, hv', _⟩
    · rw [hv] at hv'; cases hv'
    · rw [hv] at hv'; cases hv'; rfl
  rw [hv, hn] at h1
  obtain ⟨s1, s2⟩ := h1.stored j x
  refine ⟨h.step k _ (by rw [hv]; exact s2) ?_ (.inl rfl), s2⟩
  simp only [List.length_set]
  rw [hv, hn]
  exact s1

/-- two cells of a row are written -/
theorem Owns.set2 {I : Type} [DecidableEq I] {w : World} {B : Nat} {F : I → Ent} (h : Owns w B F) {k : I} {g cap n : Nat} (hv : (F k).v = .slice (some ⟨g, 0, none⟩) n cap) (c c' : Nat) (x y : Value) :
    Owns ((w.setCell ⟨g, c, none⟩ x).setCell ⟨g, c', none⟩ y) B (upd F k ⟨(F k).e, (F k).v, ((F k).xs.set c x).set c' y⟩) ∧ w.grownBy ((w.setCell ⟨g, c, none⟩ x).setCell ⟨g, c', none⟩ y) (some g) := by
  obtain ⟨a1, a2⟩ := h.set hv c x
  obtain ⟨b1, b2⟩ := a1.set (k := k) (by rw [upd_same]; exact hv) c' y
  refine ⟨b1.alike fun j => ?_, ⟨rfl, rfl, rfl, by simp, fun k hk hne => (b2.block k (by simpa using hk) hne).trans (a2.block k hk hne)⟩⟩
  by_cases e : j = k
  · subst e; rw [upd_same, upd_same, upd_same]
  · rw [upd_other _ _ e, upd_other _ _ e, upd_other _ _ e]
/-- a block that is known whole -/
def Whole (w : World) (b : Nat) (t : TypeId) (cs : List Value) : Prop := w.heap[b]? = some (.cells cs.toArray t (0, 0))
theorem Whole.lt {w : World} {b : Nat} {t : TypeId} {cs : List Value} (h : Whole w b t cs) : b < w.heap.size := (Array.getElem?_eq_some_iff.1 h).1
theorem Whole.cell {w : World} {b : Nat} {t : TypeId} {cs : List Value} (h : Whole w b t cs) (j : Nat) : w.cell? ⟨b, j, none⟩ = cs[j]? := by
  rw [cell_of_row w b j _ t (0, 0) h]; simp
theorem Whole.frozen {w : World} {b : Nat} {t : TypeId} {cs : List Value} (h : Whole w b t cs) (j : Nat) : w.frozen? ⟨b, j, none⟩ = false := frozen_of_row w b j _ t h
theorem Whole.kept {w w' : World} {b : Nat} {t : TypeId} {cs : List Value} (h : Whole w b t cs) {row : Option Nat} (hg : w.grownBy w' row) (hr : row ≠ some b) : Whole w' b t cs :=
  (hg.block b h.lt (fun e => hr e.symm)).trans h
theorem Whole.below {w w' : World} {b B : Nat} {t : TypeId} {cs : List Value} (h : Whole w b t cs) (hb : Below B w w') (hl : b < B) : Whole w' b t cs := (hb.block b hl).trans h
theorem Whole.set {w : World} {b : Nat} {t : TypeId} {cs : List Value} (h : Whole w b t cs) (j : Nat) (x : Value) : Whole (w.setCell ⟨b, j, none⟩ x) b t (cs.set j x) ∧ w.grownBy (w.setCell ⟨b, j, none⟩ x) (some b) := by
  refine ⟨?_, ⟨rfl, rfl, rfl, by simp, fun k _ hk => Below.heap_setCell _ _ _ _ (by intro e; exact hk (by rw [e]))⟩⟩
  have := heap_setCell_same w b j cs.toArray t x h
  unfold Whole
  rw [this]
  simp
theorem Whole.new (w : World) (t : TypeId) (cs : List Value) : Whole (w.alloc (.cells cs.toArray t)) w.heap.size t cs := heap_alloc_new w _
theorem grown_below {w w' : World} (h : Below w.heap.size w w') (row : Option Nat) : w.grownBy w' row := ⟨h.os, h.tape, h.output, h.size, fun k hk _ => h.block k hk⟩
theorem below_grown {w w' : World} {B : Nat} {row : Option Nat} (h : w.grownBy w' row) (hB : B ≤ w.heap.size) (hr : ∀ k, row = some k → B ≤ k) : Below B w w' := (Below.refl _ _).grown h hB hr
end Go.Proofs.Ytojjjndhabjhdaa.owns
