/-
  Many rows and maps of the call's own at once, each in a block of its own; trees whose blocks are none of them.
-/
import Derived.Test.YtjcaffpmcgfhaaaDoorNodeS
namespace Go.Proofs.YtjcaffpmcgfhaaaDoor.ownI
open Go.ChangeShapes Go.WideShapes Go.ChangeAt Go.RowKit Go.WideMaps Go.Maps nodeP nodeQ nodeS
set_option linter.unusedSimpArgs false
set_option linter.unusedVariables false

inductive Thing where
  | row (e : TypeId) (sz : Nat) (v : Value) (n : Nat) (xs : List Value)
  | map (b n : Nat) (D : DataW Unit)
  | nomap
def Thing.blk : Thing → Option Nat
  | .row _ _ v _ _ => v.ownBlock
  | .map b _ _ => some b
  | .nomap => none
def Thing.val : Thing → Value
  | .row _ _ v _ _ => v
  | .map b _ _ => .map (some b)
  | .nomap => .map none
def Thing.ok (w : World) (B : Nat) : Thing → Prop
  | .row e sz v n xs => w.ownsRow B e sz v n xs
  | .map b n D => B ≤ b ∧ w.ownsMap Tryd.prog 9 (plainElem Tryd.prog 3) b n D
  | .nomap => True
theorem Thing.ok.kept {w w' : World} {B : Nat} {it : Thing} {row : Option Nat} (h : it.ok w B) (hg : w.grownBy w' row) (hr : it.blk = none ∨ it.blk ≠ row) : it.ok w' B := by
  cases it with
  | row e sz v n xs => exact World.ownsRow.kept h hg hr
  | map b n D => exact ⟨h.1, h.2.kept hg (by rcases hr with hr | hr; cases hr; exact hr)⟩
  | nomap => trivial
theorem Thing.ok.lt {w : World} {B : Nat} {it : Thing} (h : it.ok w B) : ∀ b, it.blk = some b → B ≤ b ∧ b < w.heap.size := by
  cases it with
  | row e sz v n xs => exact World.ownsRow.lt h
  | map b n D =>
    intro c hc
    cases hc
    obtain ⟨es, cl, hh, _⟩ := h.2
    exact ⟨h.1, (Array.getElem?_eq_some_iff.1 hh).1⟩
  | nomap => intro b hb; cases hb

def OwnsI {I : Type} (w : World) (B : Nat) (F : I → Thing) : Prop := (∀ k, (F k).ok w B) ∧ ∀ j k b, (F j).blk = some b → (F k).blk = some b → j = k
def upd {I : Type} [DecidableEq I] (F : I → Thing) (k : I) (x : Thing) : I → Thing := fun j => if j = k then x else F j
theorem upd_same {I : Type} [DecidableEq I] (F : I → Thing) (k : I) (x : Thing) : upd F k x k = x := by simp [upd]
theorem upd_other {I : Type} [DecidableEq I] (F : I → Thing) {k j : I} (x : Thing) (h : j ≠ k) : upd F k x j = F j := by simp [upd, h]
theorem OwnsI.step {I : Type} [DecidableEq I] {w w' : World} {B : Nat} {F : I → Thing} (h : OwnsI w B F) (k : I) (x : Thing) (hg : w.grownBy w' (F k).blk) (hx : x.ok w' B)
    (hb : x.blk = (F k).blk ∨ x.blk = none ∨ ∃ b, x.blk = some b ∧ w.heap.size ≤ b) : OwnsI w' B (upd F k x) := by
  have hlt : ∀ j b, (F j).blk = some b → b < w.heap.size := fun j b hj => ((h.1 j).lt b hj).2
  have key : ∀ j b, j ≠ k → (F j).blk = some b → x.blk ≠ some b := by
    intro j b hjk hj hxb
    rcases hb with hb | hb | ⟨b', hb, hle⟩
    · exact hjk (h.2 j k b hj (hb.symm.trans hxb))
    · rw [hb] at hxb; cases hxb
    · rw [hb] at hxb
      have := hlt j b hj
      cases hxb; omega
  refine ⟨fun j => ?_, fun i j b hi hj => ?_⟩
  · by_cases e : j = k
    · subst e; rw [upd_same]; exact hx
    · rw [upd_other _ _ e]
      refine (h.1 j).kept hg ?_
      cases hv : (F j).blk with
      | none => exact .inl rfl
      | some b => exact .inr (fun hh => e (h.2 j k b hv hh.symm))
  · by_cases ei : i = k <;> by_cases ej : j = k
    · rw [ei, ej]
    · subst ei; rw [upd_same] at hi; rw [upd_other _ _ ej] at hj
      exact absurd hi (key j b ej hj)
    · subst ej; rw [upd_same] at hj; rw [upd_other _ _ ei] at hi
      exact absurd hj (key i b ei hi)
    · rw [upd_other _ _ ei] at hi; rw [upd_other _ _ ej] at hj; exact h.2 i j b hi hj
/-- an item that is let go -/
theorem OwnsI.drop {I : Type} [DecidableEq I] {w : World} {B : Nat} {F : I → Thing} (h : OwnsI w B F) (k : I) (x : Thing) (hx : x.ok w B) (hb : x.blk = none) : OwnsI w B (upd F k x) :=
  h.step k x ⟨rfl, rfl, rfl, Nat.le_refl _, fun _ _ _ => rfl⟩ hx (.inr (.inl hb))
/-- what is written is none of the items -/
theorem OwnsI.apart {I : Type} {w w' : World} {B : Nat} {F : I → Thing} (h : OwnsI w B F) {row : Option Nat} (hg : w.grownBy w' row) (hr : ∀ k b, (F k).blk = some b → row ≠ some b) : OwnsI w' B F :=
  ⟨fun k => (h.1 k).kept hg (by
    cases hv : (F k).blk with
    | none => exact .inl rfl
    | some b => exact .inr (fun hh => hr k b hv hh.symm)), h.2⟩
theorem OwnsI.alike {I : Type} {w : World} {B : Nat} {F G : I → Thing} (h : OwnsI w B F) (e : ∀ k, F k = G k) : OwnsI w B G := by
  have : F = G := funext e
  rw [← this]; exact h

/-- a block that is known whole -/
def Whole (w : World) (b : Nat) (t : TypeId) (cs : List Value) : Prop := w.heap[b]? = some (.cells cs.toArray t (0, 0))
theorem Whole.lt {w : World} {b : Nat} {t : TypeId} {cs : List Value} (h : Whole w b t cs) : b < w.heap.size := (Array.getElem?_eq_some_iff.1 h).1
theorem Whole.cell {w : World} {b : Nat} {t : TypeId} {cs : List Value} (h : Whole w b t cs) (j : Nat) : w.cell? ⟨b, j, none⟩ = cs[j]? := by
  rw [cell_of_row w b j _ t (0, 0) h]; simp
theorem Whole.frozen {w : World} {b : Nat} {t : TypeId} {cs : List Value} (h : Whole w b t cs) (j : Nat) : w.frozen? ⟨b, j, none⟩ = false := frozen_of_row w b j _ t h
theorem Whole.kept {w w' : World} {b : Nat} {t : TypeId} {cs : List Value} (h : Whole w b t cs) {row : Option Nat} (hg : w.grownBy w' row) (hr : row ≠ some b) : Whole w' b t cs :=
  (hg.block b h.lt (fun e => hr e.symm)).trans h
theorem Whole.below {w w' : World} {b B : Nat} {t : TypeId} {cs : List Value} (h : Whole w b t cs) (hb : Below B w w') (hl : b < B) : Whole w' b t cs := (hb.block b hl).trans h
theorem Whole.set {w : World} {b : Nat} {t : TypeId} {cs : List Value} (h : Whole w b t cs) (j : Nat) (x : Value) : Whole (w.setCell ⟨b, j, none⟩ x) b t (cs.set j x) ∧ w.grownBy (w.setCell ⟨b, j, none⟩ x) (some b) := by
  refine ⟨?_, ⟨rfl, rfl, rfl, by simp, fun k _ hk => Below.heap_setCell _ _ _ _ (by intro e; exact hk (by rw [e]))⟩⟩
  have := heap_setCell_same w b j cs.toArray t x h
  unfold Whole
  rw [this]
  simp
theorem Whole.new (w : World) (t : TypeId) (cs : List Value) : Whole (w.alloc (.cells cs.toArray t)) w.heap.size t cs := heap_alloc_new w _
theorem grown_below {w w' : World} (h : Below w.heap.size w w') (row : Option Nat) : w.grownBy w' row := ⟨h.os, h.tape, h.output, h.size, fun k hk _ => h.block k hk⟩

/-- texts in blocks of a kind -/
def KeysIn (w : World) (P : Nat → Prop) (v : Value) (ks : List ByteArray) : Prop :=
  ∃ ao cap b off, v = .slice ao ks.length cap ∧ ks.length ≤ maxLen ∧ (ks ≠ [] → ao = some ⟨b, off, none⟩ ∧ P b) ∧ (∀ i, i < ks.length → w.cell? ⟨b, off + i, none⟩ = some (.string (ks.getD i ByteArray.empty))) ∧ ∀ s ∈ ks, s.size ≤ maxLen
/-- a tree in blocks of a kind -/
inductive NodeIn (w : World) (P : Nat → Prop) : Nd → List Value → Prop where
  | mk (k n : Int) (t : ByteArray) (ks : List ByteArray) (cs : List Nd) (kv : Value) (ao : Option Addr) (cap b off : Nat) (ls : Nat → List Value)
      (hz : In64 k ∧ In64 n ∧ t.size ≤ maxLen) (hk : KeysIn w P kv ks) (hm : cs.length ≤ maxLen) (ha : cs ≠ [] → ao = some ⟨b, off, none⟩ ∧ P b)
      (hc : ∀ i, i < cs.length → ∀ j, j < 5 → w.cell? ⟨b, off + 5 * i + j, none⟩ = (ls i)[j]?)
      (hn : ∀ i (h : i < cs.length), NodeIn w P cs[i] (ls i)) : NodeIn w P (.mk k n t ks cs) [.int .i64 k, .int .i64 n, .string t, kv, .slice ao cs.length cap]
theorem KeysIn.keep {w w' : World} {P P' : Nat → Prop} (hP : ∀ b, P b → P' b) (hb : ∀ b, P b → w'.heap[b]? = w.heap[b]?) {v : Value} {ks : List ByteArray} (h : KeysIn w P v ks) : KeysIn w' P' v ks := by
  obtain ⟨ao, cap, b, off, rfl, hm, ha, hc, hs⟩ := h
  refine ⟨ao, cap, b, off, rfl, hm, fun h => ⟨(ha h).1, hP _ (ha h).2⟩, fun i hi => ?_, hs⟩
  rw [World.cell?_of_block (w := w) (hb b (ha (by intro h0; rw [h0] at hi; simp at hi)).2)]
  exact hc i hi
theorem NodeIn.keep {w w' : World} {P P' : Nat → Prop} (hP : ∀ b, P b → P' b) (hb : ∀ b, P b → w'.heap[b]? = w.heap[b]?) {x : Nd} {l : List Value} (h : NodeIn w P x l) : NodeIn w' P' x l := by
  induction h with
  | mk k n t ks cs kv ao cap b off ls hz hk hm ha hc _ ih =>
    refine .mk k n t ks cs kv ao cap b off ls hz (hk.keep hP hb) hm (fun h => ⟨(ha h).1, hP _ (ha h).2⟩) (fun i hi j hj => ?_) ih
    rw [World.cell?_of_block (w := w) (hb b (ha (by intro h0; rw [h0] at hi; simp at hi)).2)]
    exact hc i hi j hj
theorem KeysIn.at {w : World} {P : Nat → Prop} {B : Nat} (hP : ∀ b, P b → b < B) {v : Value} {ks : List ByteArray} (h : KeysIn w P v ks) : KeysAt w B v ks := by
  obtain ⟨ao, cap, b, off, rfl, hm, ha, hc, hs⟩ := h
  exact ⟨ao, cap, b, off, rfl, hm, fun h => ⟨(ha h).1, hP _ (ha h).2⟩, hc, hs⟩
theorem NodeIn.at {w : World} {P : Nat → Prop} {B : Nat} (hP : ∀ b, P b → b < B) {x : Nd} {l : List Value} (h : NodeIn w P x l) : NodeAt w B x l := by
  induction h with
  | mk k n t ks cs kv ao cap b off ls hz hk hm ha hc _ ih =>
    exact .mk k n t ks cs kv ao cap b off ls hz (hk.at hP) hm (fun h => ⟨(ha h).1, hP _ (ha h).2⟩) hc ih
theorem NodeIn.len {w : World} {P : Nat → Prop} {x : Nd} {l : List Value} (h : NodeIn w P x l) : l.length = 5 := by cases h; rfl
end Go.Proofs.YtjcaffpmcgfhaaaDoor.ownI
