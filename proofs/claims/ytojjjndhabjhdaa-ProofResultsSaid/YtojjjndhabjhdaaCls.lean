/-
  Slices of integers and of clauses that lie in memory.
-/
import Derived.Test.YtojjjndhabjhdaaOwns
import Derived.ProofKit
import Derived.OpenShut
import Derived.ChangeArms
namespace Go.Proofs.Ytojjjndhabjhdaa.cls
open Go.ChangeShapes Go.WideShapes Go.ChangeAt Go.RowKit owns

def In64 (z : Int) : Prop := -9223372036854775808 ≤ z ∧ z ≤ 9223372036854775807
def IntsAt (w : World) (B : Nat) (v : Value) (l : List Int) : Prop :=
  ∃ ao cap b off, v = .slice ao l.length cap ∧ l.length ≤ maxLen ∧ (l ≠ [] → ao = some ⟨b, off, none⟩ ∧ b < B) ∧ (∀ i, i < l.length → w.cell? ⟨b, off + i, none⟩ = some (.int .i64 (l.getD i 0))) ∧ ∀ x ∈ l, In64 x
def ClsAt (w : World) (B : Nat) (v : Value) (cl : List (List Int)) : Prop :=
  ∃ ao cap b off, ∃ vs : Nat → Value, v = .slice ao cl.length cap ∧ cl.length ≤ maxLen ∧ (cl ≠ [] → ao = some ⟨b, off, none⟩ ∧ b < B) ∧ (∀ i, i < cl.length → w.cell? ⟨b, off + i, none⟩ = some (vs i)) ∧ ∀ i, i < cl.length → IntsAt w B (vs i) (cl.getD i [])

theorem IntsAt.keep {w w' : World} {B : Nat} {v : Value} {l : List Int} (h : IntsAt w B v l) (hb : Below B w w') : IntsAt w' B v l := by
  obtain ⟨ao, cap, b, off, rfl, hm, ha, hc, hs⟩ := h
  refine ⟨ao, cap, b, off, rfl, hm, ha, fun i hi => ?_, hs⟩
  rw [hb.cell (show (⟨b, off + i, none⟩ : Addr).block < B from (ha (by intro h0; rw [h0] at hi; simp at hi)).2)]
  exact hc i hi
theorem IntsAt.mono {w : World} {B B' : Nat} (hB : B ≤ B') {v : Value} {l : List Int} (h : IntsAt w B v l) : IntsAt w B' v l := by
  obtain ⟨ao, cap, b, off, rfl, hm, ha, hc, hs⟩ := h
  exact ⟨ao, cap, b, off, rfl, hm, fun h => ⟨(ha h).1, by have := (ha h).2; omega⟩, hc, hs⟩
theorem ClsAt.keep {w w' : World} {B : Nat} {v : Value} {l : List (List Int)} (h : ClsAt w B v l) (hb : Below B w w') : ClsAt w' B v l := by
  obtain ⟨ao, cap, b, off, vs, rfl, hm, ha, hc, hs⟩ := h
  refine ⟨ao, cap, b, off, vs, rfl, hm, ha, fun i hi => ?_, fun i hi => (hs i hi).keep hb⟩
  rw [hb.cell (show (⟨b, off + i, none⟩ : Addr).block < B from (ha (by intro h0; rw [h0] at hi; simp at hi)).2)]
  exact hc i hi
theorem ClsAt.mono {w : World} {B B' : Nat} (hB : B ≤ B') {v : Value} {l : List (List Int)} (h : ClsAt w B v l) : ClsAt w B' v l := by
  obtain ⟨ao, cap, b, off, vs, rfl, hm, ha, hc, hs⟩ := h
  exact ⟨ao, cap, b, off, vs, rfl, hm, fun h => ⟨(ha h).1, by have := (ha h).2; omega⟩, hc, fun i hi => (hs i hi).mono hB⟩
theorem IntsAt.in64 {w : World} {B : Nat} {v : Value} {l : List Int} (h : IntsAt w B v l) : ∀ x ∈ l, In64 x := by
  obtain ⟨ao, cap, b, off, rfl, hm, ha, hc, hs⟩ := h; exact hs
/-- a row of the call's own, read as integers -/
theorem IntsAt.ofRow {w : World} {B : Nat} {e : TypeId} {v : Value} {l : List Int} (h : w.ownsRow B e 1 v l.length (l.map (Value.int .i64))) (hs : ∀ x ∈ l, In64 x) : IntsAt w w.heap.size v l := by
  rcases h.2 with ⟨rfl, h0⟩ | ⟨g, cap, cur, rfl, hb, hg, hn, hm, hc, ht⟩
  · obtain rfl : l = [] := List.length_eq_zero_iff.1 h0
    exact ⟨none, 0, 0, 0, rfl, Nat.zero_le _, fun h => absurd rfl h, fun i hi => absurd hi (Nat.not_lt_zero _), by simp⟩
  · refine ⟨_, cap, g, 0, rfl, by omega, fun _ => ⟨rfl, (Array.getElem?_eq_some_iff.1 hg).1⟩, fun i hi => ?_, hs⟩
    have := World.ownsRow.cellAt h i (by omega)
    rw [Nat.zero_add, this, List.getElem?_map, List.getElem?_eq_getElem hi, List.getD_eq_getElem?_getD, List.getElem?_eq_getElem hi]; rfl
/-- a row of the call's own, read as clauses -/
theorem ClsAt.ofRow {w : World} {B : Nat} {e : TypeId} {v : Value} {l : List (List Int)} {vl : List Value} (h : w.ownsRow B e 1 v l.length vl) (hs : ∀ i, i < l.length → IntsAt w w.heap.size (vl.getD i undef) (l.getD i [])) : ClsAt w w.heap.size v l := by
  have hlen : vl.length = l.length := by have := h.1; omega
  rcases h.2 with ⟨rfl, h0⟩ | ⟨g, cap, cur, rfl, hb, hg, hn, hm, hc, ht⟩
  · obtain rfl : l = [] := List.length_eq_zero_iff.1 h0
    exact ⟨none, 0, 0, 0, fun _ => undef, rfl, Nat.zero_le _, fun h => absurd rfl h, fun i hi => absurd hi (Nat.not_lt_zero _), fun i hi => absurd hi (Nat.not_lt_zero _)⟩
  · refine ⟨_, cap, g, 0, fun i => vl.getD i undef, rfl, by omega, fun _ => ⟨rfl, (Array.getElem?_eq_some_iff.1 hg).1⟩, fun i hi => ?_, hs⟩
    have := World.ownsRow.cellAt h i (by omega)
    rw [Nat.zero_add, this, List.getElem?_eq_getElem (by omega)]
    dsimp only
    rw [List.getD_eq_getElem?_getD, List.getElem?_eq_getElem (by omega)]; rfl
end Go.Proofs.Ytojjjndhabjhdaa.cls
