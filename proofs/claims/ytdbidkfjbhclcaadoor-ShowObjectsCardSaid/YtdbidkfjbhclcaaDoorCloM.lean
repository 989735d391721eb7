/-
  Many rows of the call's own at once, each in a block of its own; an object (a struct behind a pointer) beside them.
  Values whose memory is written with what reads the same: they read as they did.
  Lists of values in memory of their own: what a store of what reads the same does to them.
-/
import Derived.Below
import Derived.ProofKit
import Derived.Maps.AppendAt
import Derived.Lib.Hide
import Derived.Lib.SmallJoins
import Derived.Test.YtdbidkfjbhclcaaDoorNodM
namespace Go.Proofs.YtdbidkfjbhclcaaDoor.owns
set_option linter.unusedSimpArgs false
set_option linter.unusedVariables false
open Go.RowKit

structure Ent where
  e : TypeId
  v : Value
  xs : List Value

def Owns {I : Type} (w : World) (B : Nat) (F : I → Ent) : Prop :=
  (∀ k, w.ownsRow B (F k).e 1 (F k).v (F k).xs.length (F k).xs) ∧ ∀ j k b, (F j).v.ownBlock = some b → (F k).v.ownBlock = some b → j = k

def upd {I : Type} [DecidableEq I] (F : I → Ent) (k : I) (x : Ent) : I → Ent := fun j => if j = k then x else F j
theorem upd_same {I : Type} [DecidableEq I] (F : I → Ent) (k : I) (x : Ent) : upd F k x k = x := by simp [upd]
theorem upd_other {I : Type} [DecidableEq I] (F : I → Ent) {k j : I} (x : Ent) (h : j ≠ k) : upd F k x j = F j := by simp [upd, h]

theorem Owns.step {I : Type} [DecidableEq I] {w w' : World} {B : Nat} {F : I → Ent} (h : Owns w B F) (k : I) (x : Ent) (hg : w.grownBy w' (F k).v.ownBlock) (hx : w'.ownsRow B x.e 1 x.v x.xs.length x.xs)
    (hb : x.v.ownBlock = (F k).v.ownBlock ∨ x.v.ownBlock = none ∨ ∃ b, x.v.ownBlock = some b ∧ w.heap.size ≤ b) : Owns w' B (upd F k x) := by
  have hlt : ∀ j b, (F j).v.ownBlock = some b → b < w.heap.size := fun j b hj => ((h.1 j).lt b hj).2
  have key : ∀ j b, j ≠ k → (F j).v.ownBlock = some b → x.v.ownBlock ≠ some b := by
    intro j b hjk hj hxb
    rcases hb with hb | hb | ⟨b', hb, hle⟩
    · exact hjk (h.2 j k b hj (hb.symm.trans hxb))
    · rw [hb] at hxb; cases hxb
    · rw [hb] at hxb
      have := hlt j b hj
      cases hxb; omega
  refine ⟨fun j => ?_, fun i j b hi hj => ?_⟩
  · by_cases e : j = k
    · subst e; rw [upd_same]; exact hx
    · rw [upd_other _ _ e]
      refine (h.1 j).kept hg ?_
      cases hv : (F j).v.ownBlock with
      | none => exact .inl rfl
      | some b => exact .inr (fun hh => e (h.2 j k b hv hh.symm))
  · by_cases ei : i = k <;> by_cases ej : j = k
    · rw [ei, ej]
    · subst ei; rw [upd_same] at hi; rw [upd_other _ _ ej] at hj
      exact absurd hi (key j b ej hj)
    · subst ej; rw [upd_same] at hj; rw [upd_other _ _ ei] at hi
      exact absurd hj (key i b ei hi)
    · rw [upd_other _ _ ei] at hi; rw [upd_other _ _ ej] at hj; exact h.2 i j b hi hj

theorem Owns.below {I : Type} {w w' : World} {B : Nat} {F : I → Ent} (h : Owns w B F) (hb : Below w.heap.size w w') : Owns w' B F :=
  ⟨fun k => (h.1 k).kept (row := none) ⟨hb.os, hb.tape, hb.output, hb.size, fun k hk _ => hb.block k hk⟩ (Classical.em _), h.2⟩
theorem Owns.alloc {I : Type} {w : World} {B : Nat} {F : I → Ent} (h : Owns w B F) (o : Obj) : Owns (w.alloc o) B F := h.below ((Below.refl _ _).alloc (Nat.le_refl _) _)
theorem Owns.drew {I : Type} {w : World} {B : Nat} {F : I → Ent} (h : Owns w B F) : Owns w.drew B F := h.below (Below.refl _ _).drew
/-- what is written is none of the rows -/
theorem Owns.apart {I : Type} {w w' : World} {B : Nat} {F : I → Ent} (h : Owns w B F) {row : Option Nat} (hg : w.grownBy w' row) (hr : ∀ k b, (F k).v.ownBlock = some b → row ≠ some b) : Owns w' B F :=
  ⟨fun k => (h.1 k).kept hg (by
    cases hv : (F k).v.ownBlock with
    | none => exact .inl rfl
    | some b => exact .inr (fun hh => hr k b hv hh.symm)), h.2⟩
theorem Owns.alike {I : Type} [DecidableEq I] {w : World} {B : Nat} {F G : I → Ent} (h : Owns w B F) (e : ∀ k, F k = G k) : Owns w B G := by
  have : F = G := funext e
  rw [← this]; exact h

theorem own_form {w : World} {B : Nat} {e : TypeId} {v : Value} {n : Nat} {xs : List Value} (h : w.ownsRow B e 1 v n xs) (hn : 0 < n) : ∃ g cap, v = .slice (some ⟨g, 0, none⟩) n cap ∧ B ≤ g ∧ g < w.heap.size ∧ n ≤ cap ∧ cap ≤ maxLen := by
  rcases h.2 with ⟨_, h0⟩ | ⟨g, cap, cur, hv, hb, hg, hn', hm, _⟩
  · omega
  · exact ⟨g, cap, hv, hb, (Array.getElem?_eq_some_iff.1 hg).1, hn', hm⟩
/-- a row that holds something -/
theorem Owns.form {I : Type} {w : World} {B : Nat} {F : I → Ent} (h : Owns w B F) (k : I) (hn : 0 < (F k).xs.length) :
    ∃ g cap, (F k).v = .slice (some ⟨g, 0, none⟩) (F k).xs.length cap ∧ B ≤ g ∧ g < w.heap.size ∧ (F k).xs.length ≤ cap ∧ cap ≤ maxLen := by
  rcases (h.1 k).2 with ⟨_, h0⟩ | ⟨g, cap, cur, hv, hb, hg, hn', hm, _⟩
  · omega
  · exact ⟨g, cap, hv, hb, (Array.getElem?_eq_some_iff.1 hg).1, hn', hm⟩
/-- a row's value, whether or not it holds something -/
theorem Owns.value {I : Type} {w : World} {B : Nat} {F : I → Ent} (h : Owns w B F) (k : I) : ∃ ao cap, (F k).v = .slice ao (F k).xs.length cap := by
  rcases (h.1 k).2 with ⟨hv, h0⟩ | ⟨g, cap, cur, hv, hb, hg, hn', hm, _⟩
  · exact ⟨none, 0, by rw [hv, h0]⟩
  · exact ⟨_, cap, hv⟩
theorem Owns.cell {I : Type} {w : World} {B : Nat} {F : I → Ent} (h : Owns w B F) {k : I} {g cap n : Nat} (hv : (F k).v = .slice (some ⟨g, 0, none⟩) n cap) (j : Nat) (hj : j < (F k).xs.length) : w.cell? ⟨g, j, none⟩ = (F k).xs[j]? := by
  have h1 := h.1 k
  have hn : n = (F k).xs.length := by
    rcases h1.2 with ⟨hv', _⟩ | ⟨_, _, _, hv', _⟩
    · rw [hv] at hv'; cases hv'
    · rw [hv] at hv'; cases hv'; rfl
  rw [hv, hn] at h1
  exact h1.cellAt j (by omega)
theorem Owns.frozen {I : Type} {w : World} {B : Nat} {F : I → Ent} (h : Owns w B F) {k : I} {g cap n : Nat} (hv : (F k).v = .slice (some ⟨g, 0, none⟩) n cap) (j : Nat) : w.frozen? ⟨g, j, none⟩ = false := by
  have h1 := h.1 k
  have hn : n = (F k).xs.length := by
    rcases h1.2 with ⟨hv', _⟩ | ⟨_, _, _, hv', _⟩
    · rw [hv] at hv'; cases hv'
    · rw [hv] at hv'; cases hv'; rfl
  rw [hv, hn] at h1
  exact h1.frozenAt j
theorem Owns.at {I : Type} {w : World} {B : Nat} {F : I → Ent} (h : Owns w B F) (k : I) {e : TypeId} {v : Value} {n : Nat} {xs : List Value} (he : (F k).e = e) (hv : (F k).v = v) (hn : xs.length = n) (hx : (F k).xs = xs) : w.ownsRow B e 1 v n xs := by
  have := h.1 k
  rw [he, hv, hx, hn] at this
  exact this
/-- a cell of a row is written -/
theorem Owns.set {I : Type} [DecidableEq I] {w : World} {B : Nat} {F : I → Ent} (h : Owns w B F) {k : I} {g cap n : Nat} (hv : (F k).v = .slice (some ⟨g, 0, none⟩) n cap) (j : Nat) (x : Value) :
    Owns (w.setCell ⟨g, j, none⟩ x) B (upd F k ⟨(F k).e, (F k).v, (F k).xs.set j x⟩) ∧ w.grownBy (w.setCell ⟨g, j, none⟩ x) (some g) := by
  have h1 := h.1 k
  have hn : n = (F k).xs.length := by
    rcases h1.2 with ⟨hv', _⟩ | ⟨_, _, _, hv', _⟩
    · rw [hv] at hv'; cases hv'
    · rw [hv] at hv'; cases hv'; rfl
  rw [hv, hn] at h1
  obtain ⟨s1, s2⟩ := h1.stored j x
  refine ⟨h.step k _ (by rw [hv]; exact s2) ?_ (.inl rfl), s2⟩
  simp only [List.length_set]
  rw [hv, hn]
  exact s1

/-- two cells of a row are written -/
theorem Owns.set2 {I : Type} [DecidableEq I] {w : World} {B : Nat} {F : I → Ent} (h : Owns w B F) {k : I} {g cap n : Nat} (hv : (F k).v = .slice (some ⟨g, 0, none⟩) n cap) (c c' : Nat) (x y : Value) :
    Owns ((w.setCell ⟨g, c, none⟩ x).setCell ⟨g, c', none⟩ y) B (upd F k ⟨(F k).e, (F k).v, ((F k).xs.set c x).set c' y⟩) ∧ w.grownBy ((w.setCell ⟨g, c, none⟩ x).setCell ⟨g, c', none⟩ y) (some g) := by
  obtain ⟨a1, a2⟩ := h.set hv c x
  obtain ⟨b1, b2⟩ := a1.set (k := k) (by rw [upd_same]; exact hv) c' y
  refine ⟨b1.alike fun j => ?_, ⟨rfl, rfl, rfl, by simp, fun k hk hne => (b2.block k (by simpa using hk) hne).trans (a2.block k hk hne)⟩⟩
  by_cases e : j = k
  · subst e; rw [upd_same, upd_same, upd_same]
  · rw [upd_other _ _ e, upd_other _ _ e, upd_other _ _ e]
/-- a block that is known whole -/
def Whole (w : World) (b : Nat) (t : TypeId) (cs : List Value) : Prop := w.heap[b]? = some (.cells cs.toArray t (0, 0))
theorem Whole.lt {w : World} {b : Nat} {t : TypeId} {cs : List Value} (h : Whole w b t cs) : b < w.heap.size := (Array.getElem?_eq_some_iff.1 h).1
theorem Whole.cell {w : World} {b : Nat} {t : TypeId} {cs : List Value} (h : Whole w b t cs) (j : Nat) : w.cell? ⟨b, j, none⟩ = cs[j]? := by
  rw [cell_of_row w b j _ t (0, 0) h]; simp
theorem Whole.frozen {w : World} {b : Nat} {t : TypeId} {cs : List Value} (h : Whole w b t cs) (j : Nat) : w.frozen? ⟨b, j, none⟩ = false := frozen_of_row w b j _ t h
theorem Whole.kept {w w' : World} {b : Nat} {t : TypeId} {cs : List Value} (h : Whole w b t cs) {row : Option Nat} (hg : w.grownBy w' row) (hr : row ≠ some b) : Whole w' b t cs :=
  (hg.block b h.lt (fun e => hr e.symm)).trans h
theorem Whole.below {w w' : World} {b B : Nat} {t : TypeId} {cs : List Value} (h : Whole w b t cs) (hb : Below B w w') (hl : b < B) : Whole w' b t cs := (hb.block b hl).trans h
theorem Whole.set {w : World} {b : Nat} {t : TypeId} {cs : List Value} (h : Whole w b t cs) (j : Nat) (x : Value) : Whole (w.setCell ⟨b, j, none⟩ x) b t (cs.set j x) ∧ w.grownBy (w.setCell ⟨b, j, none⟩ x) (some b) := by
  refine ⟨?_, ⟨rfl, rfl, rfl, by simp, fun k _ hk => Below.heap_setCell _ _ _ _ (by intro e; exact hk (by rw [e]))⟩⟩
  have := heap_setCell_same w b j cs.toArray t x h
  unfold Whole
  rw [this]
  simp
theorem Whole.new (w : World) (t : TypeId) (cs : List Value) : Whole (w.alloc (.cells cs.toArray t)) w.heap.size t cs := heap_alloc_new w _
theorem grown_below {w w' : World} (h : Below w.heap.size w w') (row : Option Nat) : w.grownBy w' row := ⟨h.os, h.tape, h.output, h.size, fun k hk _ => h.block k hk⟩
theorem below_grown {w w' : World} {B : Nat} {row : Option Nat} (h : w.grownBy w' row) (hB : B ≤ w.heap.size) (hr : ∀ k, row = some k → B ≤ k) : Below B w w' := (Below.refl _ _).grown h hB hr
end Go.Proofs.YtdbidkfjbhclcaaDoor.owns
namespace Go.Proofs.YtdbidkfjbhclcaaDoor.cloneP
set_option linter.unusedSimpArgs false
set_option linter.unusedVariables false
open Go.ChangeShapes Go.WideShapes Go.ChangeAt Go.RowKit nodeP

/-- texts in good blocks -/
def KeysG (w : World) (G : Nat → Prop) (v : Value) (ks : List ByteArray) : Prop :=
  ∃ ao cap b off, v = .slice ao ks.length cap ∧ (ks.length ≤ maxLen ∧ ks.length ≤ cap) ∧ (ks ≠ [] → ao = some ⟨b, off, none⟩ ∧ G b) ∧ (∀ i, i < ks.length → w.cell? ⟨b, off + i, none⟩ = some (.string (ks.getD i ByteArray.empty))) ∧ ∀ s ∈ ks, s.size ≤ maxLen
/-- a value in good blocks -/
inductive NodeG (w : World) (G : Nat → Prop) : Nd → List Value → Prop where
  | mk (k n : Int) (t : ByteArray) (ks : List ByteArray) (cs : List Nd) (kv : Value) (ao : Option Addr) (cap b off : Nat) (ls : Nat → List Value)
      (hz : In64 k ∧ In64 n ∧ t.size ≤ maxLen) (hk : KeysG w G kv ks) (hm : cs.length ≤ maxLen) (ha : cs ≠ [] → ao = some ⟨b, off, none⟩ ∧ G b)
      (hc : ∀ i, i < cs.length → ∀ j, j < 5 → w.cell? ⟨b, off + 5 * i + j, none⟩ = (ls i)[j]?)
      (hn : ∀ i (h : i < cs.length), NodeG w G cs[i] (ls i)) : NodeG w G (.mk k n t ks cs) [.int .i64 k, .int .i64 n, .string t, kv, .slice ao cs.length cap]
def KidsG (w : World) (G : Nat → Prop) (v : Value) (cs : List Nd) : Prop :=
  ∃ ao cap b off, ∃ ls : Nat → List Value, v = .slice ao cs.length cap ∧ cs.length ≤ maxLen ∧ (cs ≠ [] → ao = some ⟨b, off, none⟩ ∧ G b) ∧
    (∀ i, i < cs.length → ∀ j, j < 5 → w.cell? ⟨b, off + 5 * i + j, none⟩ = (ls i)[j]?) ∧ ∀ i (h : i < cs.length), NodeG w G cs[i] (ls i)
theorem NodeG.open {w : World} {G : Nat → Prop} {k n : Int} {t : ByteArray} {ks : List ByteArray} {cs : List Nd} {l : List Value} (h : NodeG w G (.mk k n t ks cs) l) :
    ∃ kv cv, l = [.int .i64 k, .int .i64 n, .string t, kv, cv] ∧ In64 k ∧ In64 n ∧ t.size ≤ maxLen ∧ KeysG w G kv ks ∧ KidsG w G cv cs := by
  cases h with
  | mk _ _ _ _ _ kv ao cap b off ls hz hk hm ha hc hn => exact ⟨kv, _, rfl, hz.1, hz.2.1, hz.2.2, hk, ao, cap, b, off, ls, rfl, hm, ha, hc, hn⟩
theorem NodeG.shut {w : World} {G : Nat → Prop} {k n : Int} {t : ByteArray} {ks : List ByteArray} {cs : List Nd} {kv cv : Value} (hz : In64 k ∧ In64 n ∧ t.size ≤ maxLen) (hk : KeysG w G kv ks) (hc : KidsG w G cv cs) :
    NodeG w G (.mk k n t ks cs) [.int .i64 k, .int .i64 n, .string t, kv, cv] := by
  obtain ⟨ao, cap, b, off, ls, rfl, hm, ha, hc, hn⟩ := hc
  exact .mk k n t ks cs kv ao cap b off ls hz hk hm ha hc hn
theorem KeysG.move {w w' : World} {G G' : Nat → Prop} {v : Value} {ks : List ByteArray} (h : KeysG w G v ks) (hw : ∀ b, G b → w'.heap[b]? = w.heap[b]? ∧ G' b) : KeysG w' G' v ks := by
  obtain ⟨ao, cap, b, off, rfl, hm, ha, hc, hs⟩ := h
  refine ⟨ao, cap, b, off, rfl, hm, fun h0 => ⟨(ha h0).1, (hw b (ha h0).2).2⟩, fun i hi => ?_, hs⟩
  rw [World.cell?_of_block (w := w) (hw b (ha (by intro h0; rw [h0] at hi; simp at hi)).2).1]
  exact hc i hi
/-- the good blocks stay as they are -/
theorem NodeG.move {w w' : World} {G G' : Nat → Prop} (hw : ∀ b, G b → w'.heap[b]? = w.heap[b]? ∧ G' b) {x : Nd} {l : List Value} (h : NodeG w G x l) : NodeG w' G' x l := by
  induction h with
  | mk k n t ks cs kv ao cap b off ls hz hk hm ha hc _ ih =>
    refine .mk k n t ks cs kv ao cap b off ls hz (hk.move hw) hm (fun h0 => ⟨(ha h0).1, (hw b (ha h0).2).2⟩) (fun i hi j hj => ?_) ih
    rw [World.cell?_of_block (w := w) (hw b (ha (by intro h0; rw [h0] at hi; simp at hi)).2).1]
    exact hc i hi j hj
theorem KidsG.move {w w' : World} {G G' : Nat → Prop} (hw : ∀ b, G b → w'.heap[b]? = w.heap[b]? ∧ G' b) {v : Value} {cs : List Nd} (h : KidsG w G v cs) : KidsG w' G' v cs := by
  obtain ⟨ao, cap, b, off, ls, rfl, hm, ha, hc, hn⟩ := h
  refine ⟨ao, cap, b, off, ls, rfl, hm, fun h0 => ⟨(ha h0).1, (hw b (ha h0).2).2⟩, fun i hi j hj => ?_, fun i hi => (hn i hi).move hw⟩
  rw [World.cell?_of_block (w := w) (hw b (ha (by intro h0; rw [h0] at hi; simp at hi)).2).1]
  exact hc i hi j hj
theorem keys_of_at {w : World} {B : Nat} {v : Value} {ks : List ByteArray} (h : KeysAt w B v ks) : KeysG w (fun b => b < B) v ks := h
theorem keys_to_at {w : World} {G : Nat → Prop} {B : Nat} (hG : ∀ b, G b → b < B) {v : Value} {ks : List ByteArray} (h : KeysG w G v ks) : KeysAt w B v ks := by
  obtain ⟨ao, cap, b, off, rfl, hm, ha, hc, hs⟩ := h
  exact ⟨ao, cap, b, off, rfl, hm, fun h0 => ⟨(ha h0).1, hG b (ha h0).2⟩, hc, hs⟩
theorem node_of_at {w : World} {B : Nat} {x : Nd} {l : List Value} (h : NodeAt w B x l) : NodeG w (fun b => b < B) x l := by
  induction h with
  | mk k n t ks cs kv ao cap b off ls hz hk hm ha hc _ ih => exact .mk k n t ks cs kv ao cap b off ls hz hk hm ha hc ih
theorem node_to_at {w : World} {G : Nat → Prop} {B : Nat} (hG : ∀ b, G b → b < B) {x : Nd} {l : List Value} (h : NodeG w G x l) : NodeAt w B x l := by
  induction h with
  | mk k n t ks cs kv ao cap b off ls hz hk hm ha hc _ ih => exact .mk k n t ks cs kv ao cap b off ls hz (keys_to_at hG hk) hm (fun h0 => ⟨(ha h0).1, hG b (ha h0).2⟩) hc ih
/-- a value, or another in one's place -/
def Rv (s s' v v' : Value) : Prop := v' = v ∨ (v = s ∧ v' = s')
/-- each cell holds what it held, or the other value in the one's place -/
structure Sim (s s' : Value) (w w' : World) (G : Nat → Prop) : Prop where
  cell : ∀ a, G a.block → ∀ v, w.cell? a = some v → ∃ v', w'.cell? a = some v' ∧ Rv s s' v v'
def R5 (s s' : Value) (l l' : List Value) : Prop := ∀ j : Nat, (l[j]? = none ∧ l'[j]? = none) ∨ ∃ v v', l[j]? = some v ∧ l'[j]? = some v' ∧ Rv s s' v v'
theorem R5.refl (s s' : Value) (l : List Value) : R5 s s' l l := fun j => by
  cases h : l[j]? with
  | none => exact .inl ⟨rfl, rfl⟩
  | some v => exact .inr ⟨v, v, rfl, rfl, .inl rfl⟩
theorem R5.open {s s' a b c d e : Value} {l' : List Value} (h : R5 s s' [a, b, c, d, e] l') : ∃ a' b' c' d' e', l' = [a', b', c', d', e'] ∧ Rv s s' a a' ∧ Rv s s' b b' ∧ Rv s s' c c' ∧ Rv s s' d d' ∧ Rv s s' e e' := by
  have g : ∀ j v, [a, b, c, d, e][j]? = some v → ∃ v', l'[j]? = some v' ∧ Rv s s' v v' := fun j v hv => by
    rcases h j with ⟨h1, _⟩ | ⟨u, v', h1, h2, h3⟩
    · rw [h1] at hv; cases hv
    · rw [h1] at hv; cases hv; exact ⟨v', h2, h3⟩
  obtain ⟨a', h0, r0⟩ := g 0 a rfl
  obtain ⟨b', h1, r1⟩ := g 1 b rfl
  obtain ⟨c', h2, r2⟩ := g 2 c rfl
  obtain ⟨d', h3, r3⟩ := g 3 d rfl
  obtain ⟨e', h4, r4⟩ := g 4 e rfl
  have h5 : l'[5]? = none := by
    rcases h 5 with ⟨_, h2⟩ | ⟨u, v', h1, _⟩
    · exact h2
    · simp at h1
  refine ⟨a', b', c', d', e', ?_, r0, r1, r2, r3, r4⟩
  match l', h0, h1, h2, h3, h4, h5 with
  | [p0, p1, p2, p3, p4], h0, h1, h2, h3, h4, _ => simp at h0 h1 h2 h3 h4; simp [h0, h1, h2, h3, h4]
  | [], h0, _, _, _, _, _ => simp at h0
  | [_], _, h1, _, _, _, _ => simp at h1
  | [_, _], _, _, h2, _, _, _ => simp at h2
  | [_, _, _], _, _, _, h3, _, _ => simp at h3
  | [_, _, _, _], _, _, _, _, h4, _ => simp at h4
  | _ :: _ :: _ :: _ :: _ :: _ :: _, _, _, _, _, _, h5 => simp at h5
section
variable {s s' : Value} {w w' : World} {G : Nat → Prop}
theorem keys_sim (h : Sim s s' w w' G) (hs : ∃ a n c, s = .slice a n c) {v : Value} {ks : List ByteArray} (hk : KeysG w G v ks) : KeysG w' G v ks := by
  obtain ⟨ao, cap, b, off, rfl, hm, ha, hc, h64⟩ := hk
  refine ⟨ao, cap, b, off, rfl, hm, ha, fun i hi => ?_, h64⟩
  have hb := (ha (by intro h0; rw [h0] at hi; simp at hi)).2
  obtain ⟨v', h1, h2⟩ := h.cell ⟨b, off + i, none⟩ hb _ (hc i hi)
  rw [h1]
  rcases h2 with rfl | ⟨e, _⟩
  · rfl
  · obtain ⟨a, n, c, rfl⟩ := hs; cases e
theorem node_five {x : Nd} {l : List Value} (h : NodeG w G x l) : ∃ k n t kv cv, l = [.int .i64 k, .int .i64 n, .string t, kv, cv] := by
  cases x with
  | mk k n t ks cs =>
    obtain ⟨kv, cv, rfl, _⟩ := h.open
    exact ⟨k, n, t, kv, cv, rfl⟩
/-- a value reads the same where the memory was written with what reads the same -/
theorem node_sim (h : Sim s s' w w' G) (hs : ∃ a n c, s = .slice a n c) (hK : ∀ ks, KeysG w G s ks → KeysG w' G s' ks)
    (hC : ∀ cs, KidsG w G s cs → (∀ y, y ∈ cs → ∀ l l', NodeG w G y l → R5 s s' l l' → NodeG w' G y l') → KidsG w' G s' cs) :
    ∀ (x : Nd) (l l' : List Value), NodeG w G x l → R5 s s' l l' → NodeG w' G x l' := by
  refine Nd.ind fun k n t ks cs ih => ?_
  intro l l' hx hr
  obtain ⟨kv, cv, rfl, hk1, hn1, ht1, hkv, hcv⟩ := hx.open
  obtain ⟨a', b', c', d', e', rfl, r0, r1, r2, r3, r4⟩ := hr.open
  have hint : ∀ (z : Int) v', Rv s s' (.int .i64 z) v' → v' = .int .i64 z := fun z v' hr => by
    rcases hr with e | ⟨e, _⟩
    · exact e
    · obtain ⟨a, n, c, rfl⟩ := hs; cases e
  have hstr : Rv s s' (.string t) c' → c' = .string t := fun hr => by
    rcases hr with e | ⟨e, _⟩
    · exact e
    · obtain ⟨a, n, c, rfl⟩ := hs; cases e
  obtain rfl := hint _ _ r0
  obtain rfl := hint _ _ r1
  obtain rfl := hstr r2
  refine .shut ⟨hk1, hn1, ht1⟩ ?_ ?_
  · rcases r3 with rfl | ⟨rfl, rfl⟩
    · exact keys_sim h hs hkv
    · exact hK ks hkv
  · rcases r4 with rfl | ⟨rfl, rfl⟩
    · obtain ⟨ao, cap, b, off, ls, rfl, hm, ha, hc, hn⟩ := hcv
      have hcell : ∀ i (hi : i < cs.length), ∀ j, j < 5 → ∃ v v', (ls i)[j]? = some v ∧ w'.cell? ⟨b, off + 5 * i + j, none⟩ = some v' ∧ Rv s s' v v' := fun i hi j hj => by
        obtain ⟨_, _, _, _, _, e⟩ := node_five (hn i hi)
        have hb := (ha (by intro h0; rw [h0] at hi; simp at hi)).2
        have h1 := hc i hi j hj
        obtain ⟨v, hv⟩ : ∃ v, (ls i)[j]? = some v := ⟨(ls i)[j]'(by rw [e]; simpa using hj), List.getElem?_eq_getElem _⟩
        rw [hv] at h1
        obtain ⟨v', h2, h3⟩ := h.cell ⟨b, off + 5 * i + j, none⟩ hb v h1
        exact ⟨v, v', hv, h2, h3⟩
      refine ⟨ao, cap, b, off, fun i => (List.range 5).map fun j => (w'.cell? ⟨b, off + 5 * i + j, none⟩).getD undef, rfl, hm, ha, fun i hi j hj => ?_, fun i hi => ?_⟩
      · obtain ⟨v, v', _, h2, _⟩ := hcell i hi j hj
        rw [h2, List.getElem?_map, List.getElem?_range hj, Option.map_some, h2]; rfl
      · refine ih _ (List.getElem_mem hi) (ls i) _ (hn i hi) fun j => ?_
        by_cases hj : j < 5
        · obtain ⟨v, v', h1, h2, h3⟩ := hcell i hi j hj
          refine .inr ⟨v, v', h1, ?_, h3⟩
          rw [List.getElem?_map, List.getElem?_range hj, Option.map_some, h2]; rfl
        · obtain ⟨_, _, _, _, _, e⟩ := node_five (hn i hi)
          refine .inl ⟨?_, ?_⟩
          · rw [e, List.getElem?_eq_none]; simp; omega
          · rw [List.getElem?_eq_none]; simp; omega
    · exact hC cs hcv fun y hy l l' h1 h2 => ih y hy l l' h1 h2
/-- the keys are a copy -/
theorem keys_copy (h : Sim s s' w w' G) (hs : ∃ a n c, s = .slice a n c) {ks : List ByteArray} (hs' : KeysG w' G s' ks) (hk : KeysG w G s ks) :
    (∀ ks, KeysG w G s ks → KeysG w' G s' ks) ∧ (∀ cs, KidsG w G s cs → (∀ y, y ∈ cs → ∀ l l', NodeG w G y l → R5 s s' l l' → NodeG w' G y l') → KidsG w' G s' cs) := by
  obtain ⟨ao, cap, b, off, rfl, hm, ha, hc, h64⟩ := hk
  constructor
  · rintro ks2 ⟨ao2, cap2, b2, off2, e2, hm2, ha2, hc2, h642⟩
    injection e2 with e3 e4 e5
    obtain rfl : ks2 = ks := by
      by_cases h0 : ks = []
      · subst h0; exact List.length_eq_zero_iff.1 e4.symm
      · have h1 := ha h0
        have h2 := ha2 (by intro e; rw [e] at e4; exact h0 (List.length_eq_zero_iff.1 e4))
        obtain ⟨q1, _⟩ := h1
        obtain ⟨q2, _⟩ := h2
        rw [e3, q2] at q1
        cases q1
        refine List.ext_getElem e4.symm fun i h3 h4 => ?_
        have a1 := hc i h4
        have a2 := hc2 i h3
        rw [a1] at a2
        simp only [Option.some.injEq, Value.string.injEq] at a2
        rw [List.getD_eq_getElem?_getD, List.getD_eq_getElem?_getD, List.getElem?_eq_getElem h4, List.getElem?_eq_getElem h3] at a2
        exact a2.symm
    exact hs'
  · rintro cs ⟨ao2, cap2, b2, off2, ls, e2, hm2, ha2, hc2, hn2⟩ _
    injection e2 with e3 e4 e5
    by_cases h0 : cs = []
    · subst h0
      obtain ⟨ao3, cap3, b3, off3, rfl, _⟩ := hs'
      have e6 : ks.length = 0 := e4
      rw [e6]
      exact ⟨ao3, cap3, 0, 0, fun _ => [], rfl, Nat.zero_le _, fun h => absurd rfl h, fun i hi => absurd hi (Nat.not_lt_zero _), fun i hi => absurd hi (Nat.not_lt_zero _)⟩
    · exfalso
      have hl : 0 < cs.length := List.length_pos_iff.2 h0
      have h2 := ha2 h0
      have h1 := ha (by intro e; rw [e] at e4; simp at e4; exact h0 (List.length_eq_zero_iff.1 e4.symm))
      obtain ⟨q1, _⟩ := h1
      obtain ⟨q2, _⟩ := h2
      rw [e3, q2] at q1
      cases q1
      have a1 := hc 0 (by omega)
      have a2 := hc2 0 hl 0 (by omega)
      obtain ⟨_, _, _, _, _, e⟩ := node_five (hn2 0 hl)
      rw [e] at a2
      rw [show off + 5 * 0 + 0 = off + 0 from rfl, a1] at a2
      cases a2
/-- the kids are a copy -/
theorem kids_copy (h : Sim s s' w w' G) {cs : List Nd} {cap' b' : Nat} {ls : Nat → List Value} {ao : Option Addr} {cap b off : Nat} {bo : Option Addr}
    (hs : s = .slice ao cs.length cap) (hm : cs.length ≤ maxLen) (ha : cs ≠ [] → ao = some ⟨b, off, none⟩ ∧ G b) (hc : ∀ i, i < cs.length → ∀ j, j < 5 → w.cell? ⟨b, off + 5 * i + j, none⟩ = (ls i)[j]?) (hn : ∀ i (h : i < cs.length), NodeG w G cs[i] (ls i))
    (hs' : s' = .slice bo cs.length cap') (hcap : cs.length ≤ cap') (hb : cs ≠ [] → bo = some ⟨b', 0, none⟩ ∧ G b') (hcc : ∀ i, i < cs.length → ∀ j, j < 5 → w'.cell? ⟨b', 5 * i + j, none⟩ = (ls i)[j]?) :
    (∀ ks, KeysG w G s ks → KeysG w' G s' ks) ∧ (∀ cs, KidsG w G s cs → (∀ y, y ∈ cs → ∀ l l', NodeG w G y l → R5 s s' l l' → NodeG w' G y l') → KidsG w' G s' cs) := by
  subst hs hs'
  constructor
  · rintro ks ⟨ao2, cap2, b2, off2, e2, hm2, ha2, hc2, h642⟩
    injection e2 with e3 e4 e5
    by_cases h0 : cs = []
    · subst h0
      obtain rfl : ks = [] := List.length_eq_zero_iff.1 e4.symm
      exact ⟨bo, cap', 0, 0, rfl, ⟨Nat.zero_le _, Nat.zero_le _⟩, fun h => absurd rfl h, fun i hi => absurd hi (Nat.not_lt_zero _), by simp⟩
    · exfalso
      have hl : 0 < cs.length := List.length_pos_iff.2 h0
      have h1 := ha h0
      have h2 := ha2 (by intro e; rw [e] at e4; exact h0 (List.length_eq_zero_iff.1 e4))
      obtain ⟨q1, _⟩ := h1
      obtain ⟨q2, _⟩ := h2
      rw [e3, q2] at q1
      cases q1
      have a1 := hc 0 hl 0 (by omega)
      have a2 := hc2 0 (by omega)
      obtain ⟨_, _, _, _, _, e⟩ := node_five (hn 0 hl)
      rw [e, show off + 5 * 0 + 0 = off + 0 from rfl, a2] at a1
      cases a1
  · rintro cs2 ⟨ao2, cap2, b2, off2, ls2, e2, hm2, ha2, hc2, hn2⟩ ih
    injection e2 with e3 e4 e5
    rw [e4]
    refine ⟨bo, cap', b', 0, ls2, rfl, hm2, fun h0 => hb (by intro e; rw [e] at e4; exact h0 (List.length_eq_zero_iff.1 e4.symm)), fun i hi j hj => ?_, fun i hi => ih _ (List.getElem_mem hi) (ls2 i) (ls2 i) (hn2 i hi) (R5.refl _ _ _)⟩
    have hne2 : cs2 ≠ [] := by intro e; rw [e] at hi; simp at hi
    have hne : cs ≠ [] := by intro e; rw [e] at e4; exact hne2 (List.length_eq_zero_iff.1 e4.symm)
    obtain ⟨q1, _⟩ := ha hne
    obtain ⟨q2, _⟩ := ha2 hne2
    rw [e3, q2] at q1
    cases q1
    rw [Nat.zero_add, hcc i (by omega) j hj, ← hc i (by omega) j hj]
    exact hc2 i hi j hj
end
end Go.Proofs.YtdbidkfjbhclcaaDoor.cloneP
namespace Go.Proofs.YtdbidkfjbhclcaaDoor.cloneQ
set_option linter.unusedSimpArgs false
set_option linter.unusedVariables false
open Go.ChangeShapes Go.WideShapes Go.ChangeAt Go.RowKit nodeP nodeQ cloneP owns

/-- a list of nodes in a block of its own -/
def Lst (w : World) (B0 : Nat) (G : Nat → Prop) (v : Value) (cs : List Nd) : Prop :=
  ∃ (b cap : Nat) (cells : List Value), v = .slice (some ⟨b, 0, none⟩) cs.length cap ∧ B0 ≤ b ∧ Whole w b 26 cells ∧ 5 * cs.length ≤ cells.length ∧ KidsG w G v cs
theorem sim_set {w : World} {G : Nat → Prop} {c : Addr} {s : Value} (s' : Value) (h : w.cell? c = some s) : Sim s s' w (w.setCell c s') G := by
  refine ⟨fun a ha v hv => ?_⟩
  by_cases e : c = a
  · subst e
    refine ⟨s', World.cell?_setCell_same _ _ _ h, .inr ⟨?_, rfl⟩⟩
    rw [hv] at h
    exact Option.some.inj h
  · exact ⟨v, by rw [World.cell?_setCell_other _ _ _ _ e]; exact hv, .inl rfl⟩
/-- all values read as they did -/
def Reads (s s' : Value) (w w' : World) (G : Nat → Prop) : Prop := ∀ (x : Nd) (l l' : List Value), NodeG w G x l → R5 s s' l l' → NodeG w' G x l'
section
variable {s s' : Value} {w w' : World} {G G' : Nat → Prop}
theorem Reads.node (H : Reads s s' w w' G) {x : Nd} {l : List Value} (h : NodeG w G x l) : NodeG w' G x l := H x l l h (R5.refl _ _ _)
theorem nil_keys (w : World) (G : Nat → Prop) : KeysG w G (.slice none 0 0) [] := ⟨none, 0, 0, 0, rfl, ⟨Nat.zero_le _, Nat.zero_le _⟩, fun h => absurd rfl h, fun i hi => absurd hi (Nat.not_lt_zero _), by simp⟩
theorem Reads.kids (H : Reads s s' w w' G) {v : Value} {cs : List Nd} (h : KidsG w G v cs) : KidsG w' G v cs := by
  have h1 : NodeG w G (.mk 0 0 ByteArray.empty [] cs) [.int .i64 0, .int .i64 0, .string ByteArray.empty, .slice none 0 0, v] := .shut ⟨by unfold In64; omega, by unfold In64; omega, by unfold maxLen; decide⟩ (nil_keys _ _) h
  obtain ⟨kv, cv, e, _, _, _, _, h3⟩ := (H.node h1).open
  cases e
  exact h3
theorem Lst.reads {B0 : Nat} {v : Value} {cs : List Nd} (h : Lst w B0 G v cs) (H : Reads s s' w w' G) (hw : ∀ b t cells, Whole w b t cells → ∃ cells', cells'.length = cells.length ∧ Whole w' b t cells') : Lst w' B0 G v cs := by
  obtain ⟨b, cap, cells, rfl, hb, hW, hl, hk⟩ := h
  obtain ⟨cells', h1, h2⟩ := hw b _ cells hW
  exact ⟨b, cap, cells', rfl, hb, h2, by omega, H.kids hk⟩
/-- where only blocks change that are neither good nor of nodes -/
theorem Lst.move {B0 : Nat} {v : Value} {cs : List Nd} (h : Lst w B0 G v cs) (hw : ∀ b, G b → w'.heap[b]? = w.heap[b]? ∧ G' b) (hW : ∀ b cells, Whole w b 26 cells → Whole w' b 26 cells) : Lst w' B0 G' v cs := by
  obtain ⟨b, cap, cells, rfl, h1, hW1, hl, hk⟩ := h
  exact ⟨b, cap, cells, rfl, h1, hW _ _ hW1, hl, hk.move hw⟩
theorem Lst.below {B0 : Nat} {v : Value} {cs : List Nd} (h : Lst w B0 G v cs) (hb : Below w.heap.size w w') (hG : ∀ b, G b → b < w.heap.size ∧ G' b) : Lst w' B0 G' v cs :=
  h.move (fun b hg => ⟨hb.block b (hG b hg).1, (hG b hg).2⟩) fun b cells hW => hW.below hb hW.lt
end
/-- the keys of a node are put anew -/
theorem put_keys {w : World} {G : Nat → Prop} {g o : Nat} {kv kv' : Value} {ks : List ByteArray} (hc : w.cell? ⟨g, o, none⟩ = some kv) (hk : KeysG w G kv ks) (hk' : KeysG w G kv' ks) : Reads kv kv' w (w.setCell ⟨g, o, none⟩ kv') G := by
  have hs : ∃ a n c, kv = .slice a n c := by obtain ⟨a, c, b, off, rfl, _⟩ := hk; exact ⟨_, _, _, rfl⟩
  have S := sim_set (G := G) (c := ⟨g, o, none⟩) kv' hc
  have hk2 : KeysG (w.setCell ⟨g, o, none⟩ kv') G kv' ks := keys_sim S hs hk'
  obtain ⟨h1, h2⟩ := keys_copy S hs hk2 hk
  exact node_sim S hs h1 h2
/-- the kids of a node are put anew: a copy in a block of its own, or none -/
theorem put_kids {w : World} {G : Nat → Prop} {g o : Nat} {ao bo : Option Addr} {cap cap' b off b' : Nat} {cs : List Nd} {ls : Nat → List Value} (hcell : w.cell? ⟨g, o, none⟩ = some (.slice ao cs.length cap))
    (hm : cs.length ≤ maxLen) (ha : cs ≠ [] → ao = some ⟨b, off, none⟩ ∧ G b) (hc : ∀ i, i < cs.length → ∀ j, j < 5 → w.cell? ⟨b, off + 5 * i + j, none⟩ = (ls i)[j]?) (hn : ∀ i (h : i < cs.length), NodeG w G cs[i] (ls i))
    (hcap : cs.length ≤ cap') (hb : cs ≠ [] → bo = some ⟨b', 0, none⟩ ∧ G b' ∧ b' ≠ g) (hcc : ∀ i, i < cs.length → ∀ j, j < 5 → w.cell? ⟨b', 5 * i + j, none⟩ = (ls i)[j]?) :
    Reads (.slice ao cs.length cap) (.slice bo cs.length cap') w (w.setCell ⟨g, o, none⟩ (.slice bo cs.length cap')) G := by
  have S := sim_set (G := G) (c := ⟨g, o, none⟩) (.slice bo cs.length cap') hcell
  obtain ⟨h1, h2⟩ := kids_copy S rfl hm ha hc hn rfl hcap (fun h => ⟨(hb h).1, (hb h).2.1⟩) (fun i hi j hj => by
    have hne : cs ≠ [] := by intro e; rw [e] at hi; simp at hi
    rw [World.cell?_setCell_other _ _ _ _ (fun e => (hb hne).2.2 (congrArg Addr.block e).symm)]
    exact hcc i hi j hj)
  exact node_sim S ⟨_, _, _, rfl⟩ h1 h2
end Go.Proofs.YtdbidkfjbhclcaaDoor.cloneQ
