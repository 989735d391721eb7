/-
  Many rows of the call's own at once, each in a block of its own; an object (a struct behind a pointer) beside them.
  The search's memory.
  A statement whose order is open and whose last operation writes what the statement has loaded: what the loads read has to stay up to that last operation, no longer.
-/
import Derived.Below
import Derived.ProofKit
import Derived.Maps.AppendAt
import Derived.Lib.Hide
import Derived.Lib.SmallJoins
import Derived.Test.YtojjjndhabjhdaaDoorChecked
import Derived.Test.YtojjjndhabjhdaaDoorFaM
import Derived.WalkKit
import Derived.WalkLawsBesides
import Derived.WalkSpells
import Derived.Laws.Bits64
import Derived.RegionTactic
import Derived.BigRegion
import Derived.ChangeAlike
import Derived.IntWalk
import Derived.OwnWalk
import Derived.Outline
import Derived.OrdersHeld
import Derived.Deep.RegionHeld
namespace Go.Proofs.YtojjjndhabjhdaaDoor.owns
set_option linter.unusedSimpArgs false
set_option linter.unusedVariables false
open Go.RowKit

structure Ent where
  e : TypeId
  v : Value
  xs : List Value

def Owns {I : Type} (w : World) (B : Nat) (F : I → Ent) : Prop :=
  (∀ k, w.ownsRow B (F k).e 1 (F k).v (F k).xs.length (F k).xs) ∧ ∀ j k b, (F j).v.ownBlock = some b → (F k).v.ownBlock = some b → j = k

def upd {I : Type} [DecidableEq I] (F : I → Ent) (k : I) (x : Ent) : I → Ent := fun j => if j = k then x else F j
theorem upd_same {I : Type} [DecidableEq I] (F : I → Ent) (k : I) (x : Ent) : upd F k x k = x := by simp [upd]
theorem upd_other {I : Type} [DecidableEq I] (F : I → Ent) {k j : I} (x : Ent) (h : j ≠ k) : upd F k x j = F j := by simp [upd, h]

theorem Owns.step {I : Type} [DecidableEq I] {w w' : World} {B : Nat} {F : I → Ent} (h : Owns w B F) (k : I) (x : Ent) (hg : w.grownBy w' (F k).v.ownBlock) (hx : w'.ownsRow B x.e 1 x.v x.xs.length x.xs)
    (hb : x.v.ownBlock = (F k).v.ownBlock ∨ x.v.ownBlock = none ∨ ∃ b, x.v.ownBlock = some b ∧ w.heap.size ≤ b) : Owns w' B (upd F k x) := by
  have hlt : ∀ j b, (F j).v.ownBlock = some b → b < w.heap.size := fun j b hj => ((h.1 j).lt b hj).2
  have key : ∀ j b, j ≠ k → (F j).v.ownBlock = some b → x.v.ownBlock ≠ some b := by
    intro j b hjk hj hxb
    rcases hb with hb | hb | ⟨b', hb, hle⟩
    · exact hjk (h.2 j k b hj (hb.symm.trans hxb))
    · rw [hb] at hxb; cases hxb
    · rw [hb] at hxb
      have := hlt j b hj
      cases hxb; omega
  refine ⟨fun j => ?_, fun i j b hi hj => ?_⟩
  · by_cases e : j = k
    · subst e; rw [upd_same]; exact hx
    · rw [upd_other _ _ e]
      refine (h.1 j).kept hg ?_
      cases hv : (F j).v.ownBlock with
      | none => exact .inl rfl
      | some b => exact .inr (fun hh => e (h.2 j k b hv hh.symm))
  · by_cases ei : i = k <;> by_cases ej : j = k
    · rw [ei, ej]
    · subst ei; rw [upd_same] at hi; rw [upd_other _ _ ej] at hj
      exact absurd hi (key j b ej hj)
    · subst ej; rw [upd_same] at hj; rw [upd_other _ _ ei] at hi
      exact absurd hj (key i b ei hi)
    · rw [upd_other _ _ ei] at hi; rw [upd_other _ _ ej] at hj; exact h.2 i j b hi hj

theorem Owns.below {I : Type} {w w' : World} {B : Nat} {F : I → Ent} (h : Owns w B F) (hb : Below w.heap.size w w') : Owns w' B F :=
  ⟨fun k => (h.1 k).kept (row := none) ⟨hb.os, hb.tape, hb.output, hb.size, fun k hk _ => hb.block k hk⟩ (Classical.em _), h.2⟩
theorem Owns.alloc {I : Type} {w : World} {B : Nat} {F : I → Ent} (h : Owns w B F) (o : Obj) : Owns (w.alloc o) B F := h.below ((Below.refl _ _).alloc (Nat.le_refl _) _)
theorem Owns.drew {I : Type} {w : World} {B : Nat} {F : I → Ent} (h : Owns w B F) : Owns w.drew B F := h.below (Below.refl _ _).drew
/-- what is written is none of the rows -/
theorem Owns.apart {I : Type} {w w' : World} {B : Nat} {F : I → Ent} (h : Owns w B F) {row : Option Nat} (hg : w.grownBy w' row) (hr : ∀ k b, (F k).v.ownBlock = some b → row ≠ some b) : Owns w' B F :=
  ⟨fun k => (h.1 k).kept hg (by
    cases hv : (F k).v.ownBlock with
    | none => exact .inl rfl
    | some b => exact .inr (fun hh => hr k b hv hh.symm)), h.2⟩
theorem Owns.alike {I : Type} [DecidableEq I] {w : World} {B : Nat} {F G : I → Ent} (h : Owns w B F) (e : ∀ k, F k = G k) : Owns w B G := by
  have : F = G := funext e
  rw [← this]; exact h

theorem own_form {w : World} {B : Nat} {e : TypeId} {v : Value} {n : Nat} {xs : List Value} (h : w.ownsRow B e 1 v n xs) (hn : 0 < n) : ∃ g cap, v = .slice (some ⟨g, 0, none⟩) n cap ∧ B ≤ g ∧ g < w.heap.size ∧ n ≤ cap ∧ cap ≤ maxLen := by
  rcases h.2 with ⟨_, h0⟩ | ⟨g, cap, cur, hv, hb, hg, hn', hm, _⟩
  · omega
  · exact ⟨g, cap, hv, hb, (Array.getElem?_eq_some_iff.1 hg).1, hn', hm⟩
/-- a row that holds something -/
theorem Owns.form {I : Type} {w : World} {B : Nat} {F : I → Ent} (h : Owns w B F) (k : I) (hn : 0 < (F k).xs.length) :
    ∃ g cap, (F k).v = .slice (some ⟨g, 0, none⟩) (F k).xs.length cap ∧ B ≤ g ∧ g < w.heap.size ∧ (F k).xs.length ≤ cap ∧ cap ≤ maxLen := by
  rcases (h.1 k).2 with ⟨_, h0⟩ | ⟨g, cap, cur, hv, hb, hg, hn', hm, _⟩
  · omega
  · exact ⟨g, cap, hv, hb, (Array.getElem?_eq_some_iff.1 hg).1, hn', hm⟩
/-- a row's value, whether or not it holds something -/
theorem Owns.value {I : Type} {w : World} {B : Nat} {F : I → Ent} (h : Owns w B F) (k : I) : ∃ ao cap, (F k).v = .slice ao (F k).xs.length cap := by
  rcases (h.1 k).2 with ⟨hv, h0⟩ | ⟨g, cap, cur, hv, hb, hg, hn', hm, _⟩
  · exact ⟨none, 0, by rw [hv, h0]⟩
  · exact ⟨_, cap, hv⟩
theorem Owns.cell {I : Type} {w : World} {B : Nat} {F : I → Ent} (h : Owns w B F) {k : I} {g cap n : Nat} (hv : (F k).v = .slice (some ⟨g, 0, none⟩) n cap) (j : Nat) (hj : j < (F k).xs.length) : w.cell? ⟨g, j, none⟩ = (F k).xs[j]? := by
  have h1 := h.1 k
  have hn : n = (F k).xs.length := by
    rcases h1.2 with ⟨hv', _⟩ | ⟨_, _, _, hv', _⟩
    · rw [hv] at hv'; cases hv'
    · rw [hv] at hv'; cases hv'; rfl
  rw [hv, hn] at h1
  exact h1.cellAt j (by omega)
theorem Owns.frozen {I : Type} {w : World} {B : Nat} {F : I → Ent} (h : Owns w B F) {k : I} {g cap n : Nat} (hv : (F k).v = .slice (some ⟨g, 0, none⟩) n cap) (j : Nat) : w.frozen? ⟨g, j, none⟩ = false := by
  have h1 := h.1 k
  have hn : n = (F k).xs.length := by
    rcases h1.2 with ⟨hv', _⟩ | ⟨_, _, _, hv', _⟩
    · rw [hv] at hv'; cases hv'
    · rw [hv] at hv'; cases hv'; rfl
  rw [hv, hn] at h1
  exact h1.frozenAt j
theorem Owns.at {I : Type} {w : World} {B : Nat} {F : I → Ent} (h : Owns w B F) (k : I) {e : TypeId} {v : Value} {n : Nat} {xs : List Value} (he : (F k).e = e) (hv : (F k).v = v) (hn : xs.length = n) (hx : (F k).xs = xs) : w.ownsRow B e 1 v n xs := by
  have := h.1 k
  rw [he, hv, hx, hn] at this
  exact this
/-- a cell of a row is written -/
theorem Owns.set {I : Type} [DecidableEq I] {w : World} {B : Nat} {F : I → Ent} (h : Owns w B F) {k : I} {g cap n : Nat} (hv : (F k).v = .slice (some ⟨g, 0, none⟩) n cap) (j : Nat) (x : Value) :
    Owns (w.setCell ⟨g, j, none⟩ x) B (upd F k ⟨(F k).e, (F k).v, (F k).xs.set j x⟩) ∧ w.grownBy (w.setCell ⟨g, j, none⟩ x) (some g) := by
  have h1 := h.1 k
  have hn : n = (F k).xs.length := by
    rcases h1.2 with ⟨hv', _⟩ | ⟨_, _, _, hv', _⟩
    · rw [hv] at hv'; cases hv'
    · rw [hv] at hv'; cases hv'; rfl
  rw [hv, hn] at h1
  obtain ⟨s1, s2⟩ := h1.stored j x
  refine ⟨h.step k _ (by rw [hv]; exact s2) ?_ (.inl rfl), s2⟩
  simp only [List.length_set]
  rw [hv, hn]
  exact s1

/-- two cells of a row are written -/
theorem Owns.set2 {I : Type} [DecidableEq I] {w : World} {B : Nat} {F : I → Ent} (h : Owns w B F) {k : I} {g cap n : Nat} (hv : (F k).v = .slice (some ⟨g, 0, none⟩) n cap) (c c' : Nat) (x y : Value) :
    Owns ((w.setCell ⟨g, c, none⟩ x).setCell ⟨g, c', none⟩ y) B (upd F k ⟨(F k).e, (F k).v, ((F k).xs.set c x).set c' y⟩) ∧ w.grownBy ((w.setCell ⟨g, c, none⟩ x).setCell ⟨g, c', none⟩ y) (some g) := by
  obtain ⟨a1, a2⟩ := h.set hv c x
  obtain ⟨b1, b2⟩ := a1.set (k := k) (by rw [upd_same]; exact hv) c' y
  refine ⟨b1.alike fun j => ?_, ⟨rfl, rfl, rfl, by simp, fun k hk hne => (b2.block k (by simpa using hk) hne).trans (a2.block k hk hne)⟩⟩
  by_cases e : j = k
  · subst e; rw [upd_same, upd_same, upd_same]
  · rw [upd_other _ _ e, upd_other _ _ e, upd_other _ _ e]
/-- a block that is known whole -/
def Whole (w : World) (b : Nat) (t : TypeId) (cs : List Value) : Prop := w.heap[b]? = some (.cells cs.toArray t (0, 0))
theorem Whole.lt {w : World} {b : Nat} {t : TypeId} {cs : List Value} (h : Whole w b t cs) : b < w.heap.size := (Array.getElem?_eq_some_iff.1 h).1
theorem Whole.cell {w : World} {b : Nat} {t : TypeId} {cs : List Value} (h : Whole w b t cs) (j : Nat) : w.cell? ⟨b, j, none⟩ = cs[j]? := by
  rw [cell_of_row w b j _ t (0, 0) h]; simp
theorem Whole.frozen {w : World} {b : Nat} {t : TypeId} {cs : List Value} (h : Whole w b t cs) (j : Nat) : w.frozen? ⟨b, j, none⟩ = false := frozen_of_row w b j _ t h
theorem Whole.kept {w w' : World} {b : Nat} {t : TypeId} {cs : List Value} (h : Whole w b t cs) {row : Option Nat} (hg : w.grownBy w' row) (hr : row ≠ some b) : Whole w' b t cs :=
  (hg.block b h.lt (fun e => hr e.symm)).trans h
theorem Whole.below {w w' : World} {b B : Nat} {t : TypeId} {cs : List Value} (h : Whole w b t cs) (hb : Below B w w') (hl : b < B) : Whole w' b t cs := (hb.block b hl).trans h
theorem Whole.set {w : World} {b : Nat} {t : TypeId} {cs : List Value} (h : Whole w b t cs) (j : Nat) (x : Value) : Whole (w.setCell ⟨b, j, none⟩ x) b t (cs.set j x) ∧ w.grownBy (w.setCell ⟨b, j, none⟩ x) (some b) := by
  refine ⟨?_, ⟨rfl, rfl, rfl, by simp, fun k _ hk => Below.heap_setCell _ _ _ _ (by intro e; exact hk (by rw [e]))⟩⟩
  have := heap_setCell_same w b j cs.toArray t x h
  unfold Whole
  rw [this]
  simp
theorem Whole.new (w : World) (t : TypeId) (cs : List Value) : Whole (w.alloc (.cells cs.toArray t)) w.heap.size t cs := heap_alloc_new w _
theorem grown_below {w w' : World} (h : Below w.heap.size w w') (row : Option Nat) : w.grownBy w' row := ⟨h.os, h.tape, h.output, h.size, fun k hk _ => h.block k hk⟩
theorem below_grown {w w' : World} {B : Nat} {row : Option Nat} (h : w.grownBy w' row) (hB : B ≤ w.heap.size) (hr : ∀ k, row = some k → B ≤ k) : Below B w w' := (Below.refl _ _).grown h hB hr
end Go.Proofs.YtojjjndhabjhdaaDoor.owns
namespace Go.Proofs.YtojjjndhabjhdaaDoor.satA
set_option linter.unusedSimpArgs false
set_option linter.unusedVariables false
open Go.ChangeShapes Go.WideShapes Go.ChangeAt Go.RowKit proofP proofQ owns satP

def iv (n : Nat) : Value := .int .i64 (n : Int)
def zv (n : Int) : Value := .int .i64 n
inductive Ix where
  | wanted | watches | value | level | reason | phase | trail | starts | seen | stamps | heap | place | weight | learned | log | watch (c : Nat) | row (i : Nat) | lit (i : Nat) | tmp (i : Nat) | res
deriving DecidableEq
def ty : Ix → TypeId
  | .watches => 48 | .value => 70 | .reason => 73 | .seen => 4 | .weight => 50 | .learned => 73 | .log => 41 | .watch _ => 73
  | .wanted => 3 | .level => 3 | .phase => 3 | .trail => 3 | .starts => 3 | .stamps => 3 | .heap => 3 | .place => 3 | .row _ => 3 | .lit _ => 3 | .tmp _ => 3 | .res => 26

structure SS where
  V : Nat
  restart : Int
  keep : Int
  reduce : Bool
  budget : Int
  n : Nat
  row : Nat → List Nat
  gone : Nat → Bool
  spread : Nat → Int
  rp : Nat → Nat
  wanted : List Nat
  W : Nat → List Nat
  /-- codes that are true -/
  vt : List Nat
  trail : List Nat
  starts : List Nat
  head : Nat
  lvl : Nat → Nat
  rsn : Nat → Option Nat
  phase : Nat → Nat
  seen : Nat → Bool
  stamps : List Int
  stamp : Int
  heap : List Nat
  place : Nat → Int
  weight : List Value
  step : Value
  learned : List Nat
  room : Int
  pause : Int
  since : Int
  logn : Nat
  lg : Nat → List Int
  empty : Bool
  conflict : Int
  tmp : Nat → List Nat
  /-- what a call is to answer -/
  res : List Value
  /-- .. where it lies -/
  resv : Value

def pv (rp : Nat → Nat) (i : Nat) : Value := .pointer (some ⟨rp i, 0, none⟩)
def rv (rp : Nat → Nat) : Option Nat → Value
  | none => .pointer none
  | some i => pv rp i
def cont (s : SS) (fv : Ix → Value) : Ix → List Value
  | .wanted => s.wanted.map iv
  | .watches => (List.range (2 * s.V + 2)).map fun c => fv (.watch c)
  | .value => (List.range (2 * s.V + 2)).map fun c => .int .i8 (val s.vt c)
  | .level => (List.range (s.V + 1)).map fun v => iv (s.lvl v)
  | .reason => (List.range (s.V + 1)).map fun v => rv s.rp (s.rsn v)
  | .phase => (List.range (s.V + 1)).map fun v => iv (s.phase v)
  | .trail => s.trail.map iv
  | .starts => s.starts.map iv
  | .seen => (List.range (s.V + 1)).map fun v => .bool (s.seen v)
  | .stamps => s.stamps.map zv
  | .heap => s.heap.map iv
  | .place => (List.range (s.V + 1)).map fun v => zv (s.place v)
  | .weight => s.weight
  | .learned => s.learned.map (pv s.rp)
  | .log => (List.range s.logn).map fun i => fv (.lit i)
  | .watch c => (s.W c).map (pv s.rp)
  | .row i => (s.row i).map iv
  | .lit i => (s.lg i).map zv
  | .tmp i => (s.tmp i).map iv
  | .res => s.res
def fields (s : SS) (fv : Ix → Value) : List Value :=
  [iv s.V, zv s.restart, zv s.keep, .bool s.reduce, zv s.budget, fv .wanted, fv .watches, fv .value, fv .level, fv .reason, fv .phase, fv .trail, fv .starts, iv s.head, fv .seen, fv .stamps, zv s.stamp, fv .heap, fv .place, fv .weight, s.step, fv .learned, zv s.room, zv s.pause, zv s.since, fv .log, .bool s.empty, zv s.conflict]
def fvs (F : Ix → Ent) : Ix → Value := fun k => (F k).v

structure Mem (w : World) (B bp : Nat) (s : SS) (F : Ix → Ent) : Prop where
  own : Owns w B F
  obj : Whole w bp 54 (fields s (fvs F))
  hB : B ≤ bp
  ne : ∀ k, (F k).v.ownBlock ≠ some bp
  te : ∀ k, (F k).e = ty k
  xs : ∀ k, (F k).xs = cont s (fvs F) k
  rw : ∀ i, i < s.n → Whole w (s.rp i) 75 [(F (.row i)).v, zv (s.spread i), .bool (s.gone i)]
  rb : ∀ i, i < s.n → B ≤ s.rp i ∧ s.rp i ≠ bp ∧ ∀ k, (F k).v.ownBlock ≠ some (s.rp i)
  rj : ∀ i j, i < s.n → j < s.n → s.rp i = s.rp j → i = j
  rv : (F .res).v = s.resv

section
variable {w w' : World} {B bp : Nat} {s : SS} {F : Ix → Ent}
theorem fvs_set (F : Ix → Ent) (k : Ix) (xs : List Value) : fvs (upd F k ⟨(F k).e, (F k).v, xs⟩) = fvs F := by
  funext i
  unfold fvs
  by_cases e : i = k
  · subst e; rw [upd_same]
  · rw [upd_other _ _ e]
theorem fvs_same (F : Ix → Ent) (k : Ix) (x : Ent) : fvs (upd F k x) k = x.v := by unfold fvs; rw [upd_same]
theorem fvs_other (F : Ix → Ent) {k i : Ix} (x : Ent) (h : i ≠ k) : fvs (upd F k x) i = fvs F i := by unfold fvs; rw [upd_other _ _ h]
theorem Mem.below (h : Mem w B bp s F) (hb : Below w.heap.size w w') : Mem w' B bp s F :=
  ⟨h.own.below hb, h.obj.below hb h.obj.lt, h.hB, h.ne, h.te, h.xs, fun i hi => (h.rw i hi).below hb (h.rw i hi).lt, h.rb, h.rj, h.rv⟩
/-- states that the memory doesn't tell apart -/
theorem Mem.like (h : Mem w B bp s F) {s' : SS} (hf : fields s' (fvs F) = fields s (fvs F)) (hc : ∀ k, cont s' (fvs F) k = cont s (fvs F) k) (hn : s'.n = s.n) (hp : s'.rp = s.rp) (hs : s'.spread = s.spread) (hg : s'.gone = s.gone) (hrs : s'.resv = s.resv := by rfl) : Mem w B bp s' F :=
  ⟨h.own, by rw [hf]; exact h.obj, h.hB, h.ne, h.te, fun k => (h.xs k).trans (hc k).symm, fun i hi => by rw [hp, hs, hg]; exact h.rw i (by omega), fun i hi => by rw [hp]; exact h.rb i (by omega), fun i j hi hj => by rw [hp]; exact h.rj i j (by omega) (by omega), h.rv.trans hrs.symm⟩
/-- a cell of a row is written -/
theorem Mem.write (h : Mem w B bp s F) {k : Ix} {g cap n : Nat} (hv : (F k).v = .slice (some ⟨g, 0, none⟩) n cap) (j : Nat) (x : Value) {s' : SS} (hk : cont s' (fvs F) k = (cont s (fvs F) k).set j x) (ho : ∀ i, i ≠ k → cont s' (fvs F) i = cont s (fvs F) i)
    (hf : fields s' (fvs F) = fields s (fvs F)) (hn : s'.n = s.n) (hp : s'.rp = s.rp) (hs : s'.spread = s.spread) (hg : s'.gone = s.gone) (hrs : s'.resv = s.resv := by rfl) : Mem (w.setCell ⟨g, j, none⟩ x) B bp s' (upd F k ⟨(F k).e, (F k).v, (F k).xs.set j x⟩) ∧ w.grownBy (w.setCell ⟨g, j, none⟩ x) (some g) := by
  obtain ⟨O1, G1⟩ := h.own.set hv j x
  have hg1 : g ≠ bp := fun e => h.ne k (by rw [hv, e]; rfl)
  refine ⟨⟨O1, ?_, h.hB, fun i => ?_, fun i => ?_, fun i => ?_, fun i hi => ?_, fun i hi => ?_, fun i j hi hj => by rw [hp]; exact h.rj i j (by omega) (by omega), (congrFun (fvs_set F k _) .res).trans (h.rv.trans hrs.symm)⟩, G1⟩
  · rw [fvs_set, hf]; exact h.obj.kept G1 (by intro e; cases e; exact hg1 rfl)
  · by_cases e : i = k
    · subst e; rw [upd_same]; exact h.ne i
    · rw [upd_other _ _ e]; exact h.ne i
  · by_cases e : i = k
    · subst e; rw [upd_same]; exact h.te i
    · rw [upd_other _ _ e]; exact h.te i
  · rw [fvs_set]
    by_cases e : i = k
    · subst e; rw [upd_same]; dsimp only; rw [h.xs, hk]
    · rw [upd_other _ _ e, h.xs, ho i e]
  · have hb := (h.rb i (by omega)).2.2 k
    rw [hp, hs, hg, show (upd F k ⟨(F k).e, (F k).v, (F k).xs.set j x⟩ (.row i)).v = (F (.row i)).v from congrFun (fvs_set F k _) (.row i)]
    exact (h.rw i (by omega)).kept G1 (by intro e; rw [hv] at hb; exact hb e)
  · rw [hp]
    refine ⟨(h.rb i (by omega)).1, (h.rb i (by omega)).2.1, fun q => ?_⟩
    rw [show (upd F k ⟨(F k).e, (F k).v, (F k).xs.set j x⟩ q).v = (F q).v from congrFun (fvs_set F k _) q]
    exact (h.rb i (by omega)).2.2 q
/-- a field of the search is written -/
theorem Mem.field (h : Mem w B bp s F) (f : Nat) (x : Value) {s' : SS} (hf : fields s' (fvs F) = (fields s (fvs F)).set f x) (hc : ∀ k, cont s' (fvs F) k = cont s (fvs F) k) (hn : s'.n = s.n) (hp : s'.rp = s.rp) (hs : s'.spread = s.spread) (hg : s'.gone = s.gone) (hrs : s'.resv = s.resv := by rfl) :
    Mem (w.setCell ⟨bp, f, none⟩ x) B bp s' F := by
  obtain ⟨W1, G1⟩ := h.obj.set f x
  refine ⟨h.own.apart G1 (fun k b hk e => h.ne k (by rw [hk]; exact e.symm)), by rw [hf]; exact W1, h.hB, h.ne, h.te, fun k => (h.xs k).trans (hc k).symm, fun i hi => ?_, fun i hi => by rw [hp]; exact h.rb i (by omega), fun i j hi hj => by rw [hp]; exact h.rj i j (by omega) (by omega), h.rv.trans hrs.symm⟩
  rw [hp, hs, hg]
  exact (h.rw i (by omega)).kept G1 (by intro e; cases e; exact (h.rb i (by omega)).2.1 rfl)
/-- a row has another value: it grew, or was cut -/
theorem Mem.grow (h : Mem w B bp s F) {k : Ix} {v' : Value} {xs' : List Value} (hg : w.grownBy w' (F k).v.ownBlock) (hown : w'.ownsRow B (ty k) 1 v' xs'.length xs') (hb : v'.ownBlock = (F k).v.ownBlock ∨ v'.ownBlock = none ∨ ∃ b, v'.ownBlock = some b ∧ w.heap.size ≤ b) :
    Owns w' B (upd F k ⟨ty k, v', xs'⟩) ∧ Whole w' bp 54 (fields s (fvs F)) ∧ (∀ i, i < s.n → Whole w' (s.rp i) 75 [(F (.row i)).v, zv (s.spread i), .bool (s.gone i)]) ∧ v'.ownBlock ≠ some bp ∧ (∀ i, i < s.n → v'.ownBlock ≠ some (s.rp i)) := by
  refine ⟨h.own.step k _ hg hown hb, h.obj.kept hg (h.ne k), fun i hi => (h.rw i hi).kept hg ((h.rb i hi).2.2 k), ?_, fun i hi => ?_⟩
  · rcases hb with hb | hb | ⟨b, hb, hle⟩
    · rw [hb]; exact h.ne k
    · rw [hb]; simp
    · rw [hb]; intro e; have := h.obj.lt; cases e; omega
  · rcases hb with hb | hb | ⟨b, hb, hle⟩
    · rw [hb]; exact (h.rb i hi).2.2 k
    · rw [hb]; simp
    · rw [hb]; intro e; have := (h.rw i hi).lt; cases e; omega
/-- .. and its value is put into a field -/
theorem Mem.put (h : Mem w B bp s F) (k : Ix) {v' : Value} {xs' : List Value} (hg : w.grownBy w' (F k).v.ownBlock) (hown : w'.ownsRow B (ty k) 1 v' xs'.length xs') (hb : v'.ownBlock = (F k).v.ownBlock ∨ v'.ownBlock = none ∨ ∃ b, v'.ownBlock = some b ∧ w.heap.size ≤ b) (f : Nat) {s' : SS}
    (hk : ∀ i, k ≠ .row i) (hf : fields s' (fvs (upd F k ⟨ty k, v', xs'⟩)) = (fields s (fvs F)).set f v') (hc : cont s' (fvs (upd F k ⟨ty k, v', xs'⟩)) k = xs') (ho : ∀ i, i ≠ k → cont s' (fvs (upd F k ⟨ty k, v', xs'⟩)) i = cont s (fvs F) i) (hn : s'.n = s.n) (hp : s'.rp = s.rp) (hs : s'.spread = s.spread) (hgo : s'.gone = s.gone) (hkr : k ≠ .res := by simp) (hrs : s'.resv = s.resv := by rfl) :
    Mem (w'.setCell ⟨bp, f, none⟩ v') B bp s' (upd F k ⟨ty k, v', xs'⟩) := by
  obtain ⟨O1, W1, R1, n1, n2⟩ := h.grow hg hown hb
  obtain ⟨W2, G2⟩ := W1.set f v'
  have hnk : ∀ j, (upd F k ⟨ty k, v', xs'⟩ j).v.ownBlock ≠ some bp := by
    intro j
    by_cases e : j = k
    · subst e; rw [upd_same]; exact n1
    · rw [upd_other _ _ e]; exact h.ne j
  refine ⟨O1.apart G2 (fun j b hj e => hnk j (by rw [hj]; exact e.symm)), by rw [hf]; exact W2, h.hB, hnk, fun j => ?_, fun j => ?_, fun i hi => ?_, fun i hi => ?_, fun i j hi hj => by rw [hp]; exact h.rj i j (by omega) (by omega), by rw [upd_other _ _ (fun e => hkr e.symm)]; exact h.rv.trans hrs.symm⟩
  · by_cases e : j = k
    · subst e; rw [upd_same]
    · rw [upd_other _ _ e]; exact h.te j
  · by_cases e : j = k
    · subst e; rw [upd_same, hc]
    · rw [upd_other _ _ e, ho j e]; exact h.xs j
  · rw [upd_other _ _ (fun e => hk i e.symm), hp, hs, hgo]
    exact (R1 i (by omega)).kept G2 (by intro e; cases e; exact (h.rb i (by omega)).2.1 rfl)
  · rw [hp]
    refine ⟨(h.rb i (by omega)).1, (h.rb i (by omega)).2.1, fun j => ?_⟩
    by_cases e : j = k
    · subst e; rw [upd_same]; exact n2 i (by omega)
    · rw [upd_other _ _ e]; exact (h.rb i (by omega)).2.2 j
/-- .. or nowhere: it is the call's own -/
theorem Mem.keep (h : Mem w B bp s F) (k : Ix) {v' : Value} {xs' : List Value} (hg : w.grownBy w' (F k).v.ownBlock) (hown : w'.ownsRow B (ty k) 1 v' xs'.length xs') (hb : v'.ownBlock = (F k).v.ownBlock ∨ v'.ownBlock = none ∨ ∃ b, v'.ownBlock = some b ∧ w.heap.size ≤ b) {s' : SS}
    (hk : ∀ i, i < s.n → k ≠ .row i) (hf : fields s' (fvs (upd F k ⟨ty k, v', xs'⟩)) = fields s (fvs F)) (hc : cont s' (fvs (upd F k ⟨ty k, v', xs'⟩)) k = xs') (ho : ∀ i, i ≠ k → cont s' (fvs (upd F k ⟨ty k, v', xs'⟩)) i = cont s (fvs F) i) (hn : s'.n = s.n) (hp : s'.rp = s.rp) (hs : s'.spread = s.spread) (hgo : s'.gone = s.gone) (hkr : k ≠ .res := by simp) (hrs : s'.resv = s.resv := by rfl) :
    Mem w' B bp s' (upd F k ⟨ty k, v', xs'⟩) := by
  obtain ⟨O1, W1, R1, n1, n2⟩ := h.grow hg hown hb
  have hnk : ∀ j, (upd F k ⟨ty k, v', xs'⟩ j).v.ownBlock ≠ some bp := by
    intro j
    by_cases e : j = k
    · subst e; rw [upd_same]; exact n1
    · rw [upd_other _ _ e]; exact h.ne j
  refine ⟨O1, by rw [hf]; exact W1, h.hB, hnk, fun j => ?_, fun j => ?_, fun i hi => ?_, fun i hi => ?_, fun i j hi hj => by rw [hp]; exact h.rj i j (by omega) (by omega), by rw [upd_other _ _ (fun e => hkr e.symm)]; exact h.rv.trans hrs.symm⟩
  · by_cases e : j = k
    · subst e; rw [upd_same]
    · rw [upd_other _ _ e]; exact h.te j
  · by_cases e : j = k
    · subst e; rw [upd_same, hc]
    · rw [upd_other _ _ e, ho j e]; exact h.xs j
  · rw [upd_other _ _ (fun e => hk i (by omega) e.symm), hp, hs, hgo]
    exact R1 i (by omega)
  · rw [hp]
    refine ⟨(h.rb i (by omega)).1, (h.rb i (by omega)).2.1, fun j => ?_⟩
    by_cases e : j = k
    · subst e; rw [upd_same]; exact n2 i (by omega)
    · rw [upd_other _ _ e]; exact (h.rb i (by omega)).2.2 j
/-- .. or into the watching lists -/
theorem Mem.putW (h : Mem w B bp s F) {c : Nat} {v' : Value} {xs' : List Value} {gW capW : Nat} (hcm : c < 2 * s.V + 2) (hWv : (F .watches).v = .slice (some ⟨gW, 0, none⟩) (2 * s.V + 2) capW) (hg : w.grownBy w' (F (.watch c)).v.ownBlock) (hown : w'.ownsRow B 73 1 v' xs'.length xs')
    (hb : v'.ownBlock = (F (.watch c)).v.ownBlock ∨ v'.ownBlock = none ∨ ∃ b, v'.ownBlock = some b ∧ w.heap.size ≤ b) {l : List Nat} (hl : xs' = l.map (pv s.rp)) :
    ∃ F', Mem (w'.setCell ⟨gW, c, none⟩ v') B bp { s with W := updN s.W c l } F' ∧ (∀ k, k ≠ .watch c → (F' k).v = (F k).v) ∧ (F' (.watch c)).v = v' := by
  obtain ⟨O1, W1, R1, n1, n2⟩ := h.grow (k := .watch c) hg hown hb
  have hgW : gW ≠ bp := fun e => h.ne .watches (by rw [hWv, e]; rfl)
  have hWv1 : (upd F (.watch c) ⟨ty (.watch c), v', xs'⟩ .watches).v = .slice (some ⟨gW, 0, none⟩) (2 * s.V + 2) capW := by rw [upd_other _ _ (by simp)]; exact hWv
  obtain ⟨O2, G2⟩ := O1.set hWv1 c v'
  have hvv : ∀ j, (upd (upd F (.watch c) ⟨ty (.watch c), v', xs'⟩) .watches ⟨(upd F (.watch c) ⟨ty (.watch c), v', xs'⟩ .watches).e, (upd F (.watch c) ⟨ty (.watch c), v', xs'⟩ .watches).v, (upd F (.watch c) ⟨ty (.watch c), v', xs'⟩ .watches).xs.set c v'⟩ j).v = if j = .watch c then v' else (F j).v := by
    intro j
    by_cases e1 : j = .watches
    · subst e1; rw [upd_same, if_neg (by simp)]; dsimp only; rw [upd_other _ _ (by simp)]
    · rw [upd_other _ _ e1]
      by_cases e2 : j = .watch c
      · subst e2; rw [upd_same, if_pos rfl]
      · rw [upd_other _ _ e2, if_neg e2]
  generalize hF' : (upd (upd F (.watch c) ⟨ty (.watch c), v', xs'⟩) .watches ⟨(upd F (.watch c) ⟨ty (.watch c), v', xs'⟩ .watches).e, (upd F (.watch c) ⟨ty (.watch c), v', xs'⟩ .watches).v, (upd F (.watch c) ⟨ty (.watch c), v', xs'⟩ .watches).xs.set c v'⟩) = F' at *
  have hfo : ∀ j, j ≠ .watch c → fvs F' j = fvs F j := fun j hj => by unfold fvs; rw [hvv, if_neg hj]
  have hfw : fvs F' (.watch c) = v' := by unfold fvs; rw [hvv, if_pos rfl]
  refine ⟨F', ⟨O2, ?_, h.hB, fun j => ?_, fun j => ?_, fun j => ?_, fun i hi => ?_, fun i hi => ?_, h.rj, by rw [hvv, if_neg (by simp)]; exact h.rv⟩, fun k hk => by rw [hvv, if_neg hk], by rw [hvv, if_pos rfl]⟩
  · have := W1.kept G2 (by intro e; cases e; exact hgW rfl)
    unfold fields
    unfold fields at this
    simpa [hfo] using this
  · rw [hvv]
    by_cases e : j = .watch c
    · rw [if_pos e]; exact n1
    · rw [if_neg e]; exact h.ne j
  · rw [← hF']
    by_cases e1 : j = .watches
    · subst e1; rw [upd_same]; dsimp only; rw [upd_other _ _ (by simp)]; exact h.te .watches
    · rw [upd_other _ _ e1]
      by_cases e2 : j = .watch c
      · subst e2; rw [upd_same]
      · rw [upd_other _ _ e2]; exact h.te j
  · by_cases e2 : j = .watch c
    · subst e2
      have : (F' (.watch c)).xs = xs' := by rw [← hF', upd_other _ _ (by simp), upd_same]
      rw [this, hl]
      unfold cont
      dsimp only
      rw [updN_same]
    · by_cases e1 : j = .watches
      · subst e1
        have : (F' .watches).xs = (F .watches).xs.set c v' := by rw [← hF', upd_same]; dsimp only; rw [upd_other _ _ (by simp)]
        rw [this, h.xs]
        unfold cont
        dsimp only
        apply List.ext_getElem?
        intro j
        rw [List.getElem?_set]
        simp only [List.length_map, List.length_range, List.getElem?_map]
        by_cases e : c = j
        · subst e
          simp only [if_true, hcm, List.getElem?_range hcm, Option.map_some, hfw]
        · rw [if_neg e]
          by_cases hj : j < 2 * s.V + 2
          · simp only [List.getElem?_range hj, Option.map_some]
            rw [hfo _ (by simp; exact fun e' => e e'.symm)]
          · rw [List.getElem?_eq_none (by simp; omega)]; rfl
      · have : (F' j).xs = (F j).xs := by rw [← hF', upd_other _ _ e1, upd_other _ _ e2]
        rw [this, h.xs]
        cases j <;> first
          | rfl
          | (simp at e1; done)
          | (unfold cont; dsimp only; simp [hfo]; done)
          | (unfold cont; dsimp only; rw [updN_other _ _ (by simpa using e2)])
  · rw [hvv, if_neg (by simp)]
    exact (R1 i hi).kept G2 (by intro e; have := (h.rb i hi).2.2 .watches; rw [hWv] at this; exact this e)
  · refine ⟨(h.rb i hi).1, (h.rb i hi).2.1, fun j => ?_⟩
    rw [hvv]
    by_cases e : j = .watch c
    · rw [if_pos e]; exact n2 i hi
    · rw [if_neg e]; exact (h.rb i hi).2.2 j

theorem Mem.fld (h : Mem w B bp s F) (f : Nat) : w.cell? ⟨bp, f, none⟩ = (fields s (fvs F))[f]? := h.obj.cell f
/-- a row that isn't empty -/
theorem Mem.at (h : Mem w B bp s F) (k : Ix) {n : Nat} (hn : (cont s (fvs F) k).length = n) (h0 : 0 < n) :
    ∃ g cap, (F k).v = .slice (some ⟨g, 0, none⟩) n cap ∧ (∀ j, j < n → w.cell? ⟨g, j, none⟩ = (cont s (fvs F) k)[j]?) ∧ (∀ j, w.frozen? ⟨g, j, none⟩ = false) ∧ g ≠ bp ∧ B ≤ g ∧ g < w.heap.size ∧ (∀ i, i < s.n → g ≠ s.rp i) ∧ n ≤ cap ∧ cap ≤ maxLen := by
  have hx : (F k).xs.length = n := by rw [h.xs]; exact hn
  obtain ⟨g, cap, hv, h1, h2, h3, h4⟩ := h.own.form k (by omega)
  rw [hx] at hv h3
  refine ⟨g, cap, hv, fun j hj => ?_, fun j => h.own.frozen hv j, fun e => h.ne k (by rw [hv, e]; rfl), h1, h2, fun i hi e => (h.rb i hi).2.2 k (by rw [hv, e]; rfl), h3, h4⟩
  rw [h.own.cell hv j (by omega), h.xs]
theorem Mem.two (h : Mem w B bp s F) {k k' : Ix} (hk : k ≠ k') {g g' n n' cap cap' : Nat} (h1 : (F k).v = .slice (some ⟨g, 0, none⟩) n cap) (h2 : (F k').v = .slice (some ⟨g', 0, none⟩) n' cap') : g ≠ g' := by
  intro e
  exact hk (h.own.2 k k' g (by rw [h1]; rfl) (by rw [h2, e]; rfl))
/-- a row of the search -/
theorem Mem.obji (h : Mem w B bp s F) {i : Nat} (hi : i < s.n) : w.cell? ⟨s.rp i, 0, none⟩ = some (F (.row i)).v ∧ w.cell? ⟨s.rp i, 1, none⟩ = some (zv (s.spread i)) ∧ w.cell? ⟨s.rp i, 2, none⟩ = some (.bool (s.gone i)) ∧ s.rp i < w.heap.size ∧ ∀ j, w.frozen? ⟨s.rp i, j, none⟩ = false :=
  ⟨(h.rw i hi).cell 0, (h.rw i hi).cell 1, (h.rw i hi).cell 2, (h.rw i hi).lt, fun j => (h.rw i hi).frozen j⟩
/-- a row of its own is made, and becomes one of the search's rows -/
theorem Mem.adopt (h : Mem w B bp s F) (k : Ix) {v : Value} {xs : List Value} (hkn : (F k).v.ownBlock = none) (hb : Below w.heap.size w w') (hr : w'.ownsRow w.heap.size (ty k) 1 v xs.length xs) {s' : SS} (hk : ∀ i, i < s.n → k ≠ .row i)
    (hf : fields s' (fvs (upd F k ⟨ty k, v, xs⟩)) = fields s (fvs F)) (hc : cont s' (fvs (upd F k ⟨ty k, v, xs⟩)) k = xs) (ho : ∀ i, i ≠ k → cont s' (fvs (upd F k ⟨ty k, v, xs⟩)) i = cont s (fvs F) i) (hn : s'.n = s.n) (hp : s'.rp = s.rp) (hs : s'.spread = s.spread) (hgo : s'.gone = s.gone) (hkr : k ≠ .res := by simp) (hrs : s'.resv = s.resv := by rfl) :
    Mem w' B bp s' (upd F k ⟨ty k, v, xs⟩) := by
  have hBw : B ≤ w.heap.size := Nat.le_trans h.hB (Nat.le_of_lt h.obj.lt)
  refine h.keep k (grown_below hb _) ?_ ?_ hk hf hc ho hn hp hs hgo hkr hrs
  · refine ⟨hr.1, ?_⟩
    rcases hr.2 with h1 | ⟨g, cap, cur, hv, hb', r⟩
    · exact .inl h1
    · exact .inr ⟨g, cap, cur, hv, by omega, r⟩
  · cases hv : v.ownBlock with
    | none => exact .inr (.inl rfl)
    | some b => exact .inr (.inr ⟨b, rfl, (hr.lt b hv).1⟩)
/-- a row's cell is written -/
theorem Mem.mark (h : Mem w B bp s F) {i : Nat} (hi : i < s.n) : Mem (w.setCell ⟨s.rp i, 2, none⟩ (.bool true)) B bp { s with gone := updN s.gone i true } F := by
  obtain ⟨W1, G1⟩ := (h.rw i hi).set 2 (.bool true)
  refine ⟨h.own.apart G1 (fun k b hk e => (h.rb i hi).2.2 k (by rw [hk]; exact e.symm)), h.obj.kept G1 (by intro e; cases e; exact (h.rb i hi).2.1 rfl), h.hB, h.ne, h.te, fun k => (h.xs k).trans (by cases k <;> rfl), fun j hj => ?_, h.rb, h.rj, h.rv⟩
  by_cases e : j = i
  · subst e; dsimp only; rw [updN_same]; exact W1
  · dsimp only; rw [updN_other _ _ e]
    exact (h.rw j hj).kept G1 (by intro e'; exact e (h.rj j i hj hi (Option.some.inj e').symm))
/-- all rows that are named are there -/
structure Idx (s : SS) : Prop where
  w : ∀ c i, i ∈ s.W c → i < s.n
  l : ∀ i, i ∈ s.learned → i < s.n
  r : ∀ v i, s.rsn v = some i → i < s.n
/-- an object of a row is made -/
theorem Mem.make (h : Mem w B bp s F) (hI : Idx s) (sp : Int) : Mem (w.alloc (.cells #[(F (.row s.n)).v, zv sp, .bool false] 75)) B bp { s with n := s.n + 1, rp := updN s.rp s.n w.heap.size, spread := updN s.spread s.n sp, gone := updN s.gone s.n false } F := by
  have h1 := h.below ((Below.refl _ _).alloc (Nat.le_refl w.heap.size) (.cells #[(F (.row s.n)).v, zv sp, .bool false] 75))
  have hp : ∀ l : List Nat, (∀ i, i ∈ l → i < s.n) → l.map (pv (updN s.rp s.n w.heap.size)) = l.map (pv s.rp) := fun l hl => List.map_congr_left fun i hi => by unfold pv; rw [updN_other _ _ (by have := hl i hi; omega)]
  have hc : ∀ k, cont { s with n := s.n + 1, rp := updN s.rp s.n w.heap.size, spread := updN s.spread s.n sp, gone := updN s.gone s.n false } (fvs F) k = cont s (fvs F) k := by
    intro k
    cases k with
    | learned => exact hp _ hI.l
    | watch c => exact hp _ (hI.w c)
    | reason =>
      unfold cont
      dsimp only
      refine List.map_congr_left fun v _ => ?_
      cases hr : s.rsn v with
      | none => rfl
      | some i =>
        show pv (updN s.rp s.n w.heap.size) i = pv s.rp i
        unfold pv
        rw [updN_other _ _ (by have := hI.r v i hr; omega)]
    | _ => rfl
  refine ⟨h1.own, h1.obj, h1.hB, h1.ne, h1.te, fun k => (h1.xs k).trans (hc k).symm, fun i hi => ?_, fun i hi => ?_, fun i j hi hj => ?_, h1.rv⟩
  · dsimp only at hi ⊢
    by_cases e : i = s.n
    · subst e; rw [updN_same, updN_same, updN_same]; exact Whole.new w _ [(F (.row s.n)).v, zv sp, .bool false]
    · rw [updN_other _ _ e, updN_other _ _ e, updN_other _ _ e]; exact h1.rw i (by omega)
  · dsimp only at hi ⊢
    by_cases e : i = s.n
    · subst e
      rw [updN_same]
      have hl := h.obj.lt
      have hB := h.hB
      refine ⟨by omega, by omega, fun k e => ?_⟩
      have := ((h.own.1 k).lt _ e).2
      omega
    · rw [updN_other _ _ e]; exact h1.rb i (by omega)
  · dsimp only at hi hj ⊢
    by_cases ei : i = s.n <;> by_cases ej : j = s.n
    · rw [ei, ej]; exact fun _ => rfl
    · subst ei
      rw [updN_same, updN_other _ _ ej]
      intro e
      have := (h.rw j (by omega)).lt; omega
    · subst ej
      rw [updN_same, updN_other _ _ ei]
      intro e
      have := (h.rw i (by omega)).lt; omega
    · rw [updN_other _ _ ei, updN_other _ _ ej]; exact h1.rj i j (by omega) (by omega)
end
end Go.Proofs.YtojjjndhabjhdaaDoor.satA
namespace Go.Proofs.YtojjjndhabjhdaaDoor.held
set_option linter.unusedSimpArgs false
set_option linter.unusedVariables false
open Go

section
variable {P : Program} {md : Region.Mode} {ops : Array Oper} {Q : Exit → Act → World → Prop} {S : World → Prop} {L : Nat}

/-- what an operation waits for -/
def needs (md : Region.Mode) (ops : Array Oper) (j : Nat) : List Nat := match ops[j]? with
  | some o => (o.after.toList.filter (Region.binds md)).map (·.on)
  | none => []
/-- .. and what those wait for, so many times -/
def ahead (md : Region.Mode) (ops : Array Oper) : Nat → List Nat → List Nat
  | 0, l => l
  | f + 1, l => l ++ ahead md ops f (l.flatMap (needs md ops))
/-- what is done waits for nothing that is not done -/
def Shutd (md : Region.Mode) (ops : Array Oper) (listed : Array Bool) : Prop := ∀ j, listed.getD j false = true → ∀ k ∈ needs md ops j, listed.getD k false = true
def shutB (md : Region.Mode) (ops : Array Oper) (listed : Array Bool) : Bool := (List.range listed.size).all fun j => !(listed.getD j false) || (needs md ops j).all fun k => listed.getD k false
theorem shutB_spec {listed : Array Bool} (h : shutB md ops listed = true) : Shutd md ops listed := by
  intro j hj k hk
  have hlt : j < listed.size := by
    by_cases h' : j < listed.size
    · exact h'
    · simp [Array.getElem?_eq_none (Nat.le_of_not_lt h')] at hj
  have h1 := List.all_eq_true.1 h j (List.mem_range.2 hlt)
  rw [hj] at h1
  simp only [Bool.not_true, Bool.false_or] at h1
  exact List.all_eq_true.1 h1 k hk
theorem ahead_done {listed : Array Bool} (hc : Shutd md ops listed) : ∀ (f : Nat) (l : List Nat), (∀ j ∈ l, listed.getD j false = true) → ∀ k ∈ ahead md ops f l, listed.getD k false = true := by
  intro f
  induction f with
  | zero => intro l h k hk; exact h k hk
  | succ f ih =>
    intro l h k hk
    rcases List.mem_append.1 hk with hk | hk
    · exact h k hk
    · refine ih _ (fun j hj => ?_) k hk
      obtain ⟨i, hi, hij⟩ := List.mem_flatMap.1 hj
      exact hc i (h i hi) j hij
theorem ready_needs {listed : Array Bool} {j : Nat} (h : j ∈ Region.ready md ops listed) : ∀ k ∈ needs md ops j, listed.getD k false = true := by
  obtain ⟨_, o, ho, hall⟩ := mem_ready.1 h
  intro k hk
  unfold needs at hk
  rw [ho] at hk
  obtain ⟨e, he, rfl⟩ := List.mem_map.1 hk
  rw [List.mem_filter] at he
  exact hall e (by simpa using he.1) he.2
theorem shut_set {listed : Array Bool} {j : Nat} (hc : Shutd md ops listed) (h : j ∈ Region.ready md ops listed) : Shutd md ops (listed.setIfInBounds j true) := by
  intro i hi k hk
  by_cases e : j = i
  · subst e; exact getD_set_true (ready_needs h k hk)
  · rw [getD_set_ne false e] at hi; exact getD_set_true (hc i hi k hk)
/-- the last one is not ready while one that it waits for is left -/
theorem last_not {listed : Array Bool} {i f : Nat} (hc : Shutd md ops listed) (hL : i ∈ ahead md ops f (needs md ops L)) (hi : listed.getD i true = false) : L ∉ Region.ready md ops listed := by
  intro h
  have h1 := ahead_done hc f _ (ready_needs h) i hL
  by_cases h' : i < listed.size
  · simp [h'] at hi h1; rw [hi] at h1; cases h1
  · simp [Array.getElem?_eq_none (Nat.le_of_not_lt h')] at h1

/-- whatever comes up next; S holds behind all but the last -/
def wpLeft (P : Program) (md : Region.Mode) (ops : Array Oper) (Q : Exit → Act → World → Prop) (S : World → Prop) (L : Nat) : Nat → Array Bool → Act → World → Prop
  | 0, listed, a, w => Region.ready md ops listed = [] ∧ Q .normal a w
  | fuel + 1, listed, a, w => (Region.ready md ops listed = [] → Q .normal a w) ∧
      ∀ i ∈ Region.ready md ops listed, wpOp P ops Q i (fun a' w' => (i ≠ L → S w') ∧ wpLeft P md ops Q S L fuel (listed.setIfInBounds i true) a' w') a w

theorem wpLeft.any : ∀ (fuel : Nat) (listed : Array Bool) (a : Act) (w : World), wpLeft P md ops Q S L fuel listed a w → wpAny P md ops Q fuel listed a w := by
  intro fuel
  induction fuel with
  | zero => intro _ _ _ h; exact h
  | succ fuel ih => intro listed a w h; exact ⟨h.1, fun i hi => wpOp_mono (fun a' w' h' => ih _ a' w' h'.2) (h.2 i hi)⟩

/-- what is ready, and reads only what S tells, may be done first -/
theorem wpLeft.first {i n : Nat} {oi : Oper} {v : Value} (hi : ops[i]? = some oi) (hL : i ∈ ahead md ops n (needs md ops L)) (hsel : ∀ (j : Nat) (o : Oper) cs b, ops[j]? = some o → o.op ≠ .select cs b)
    (hQ : ∀ c a w, Q (.panic c) (a.put oi.dst v) w → Q (.panic c) a w) : ∀ (fuel : Nat) (listed : Array Bool) (a : Act) (w : World), Shutd md ops listed →
      (∀ j oj, ops[j]? = some oj → j ≠ i → listed.getD j true = false → (∀ e ∈ oj.after, Region.binds md e = true → e.on ≠ i) → oi.apart ops oj = true) →
      i ∈ Region.ready md ops listed → YieldsIf P ops S oi v a → S w → wpLeft P md ops Q S L fuel (listed.setIfInBounds i true) (a.put oi.dst v) w → wpLeft P md ops Q S L (fuel + 1) listed a w := by
  intro fuel
  induction fuel with
  | zero =>
    intro listed a w _ _ hr hy hS H
    constructor
    · intro h; rw [h] at hr; cases hr
    · intro j hj
      by_cases hji : j = i
      · subst hji; exact hy.wpOp hi hS ⟨fun _ => hS, H⟩
      · have := ready_mono hj hji; rw [H.1] at this; cases this
  | succ fuel ih =>
    intro listed a w hc hfree hr hy hS H
    constructor
    · intro h; rw [h] at hr; cases hr
    · intro j hj
      by_cases hji : j = i
      · subst hji; exact hy.wpOp hi hS ⟨fun _ => hS, H⟩
      · obtain ⟨hjun, oj, hoj, hall⟩ := mem_ready.1 hj
        have hnot : ∀ e ∈ oj.after, Region.binds md e = true → e.on ≠ i := by
          intro e he hb heq
          have h1 := hall e he hb
          have h0 := (mem_ready.1 hr).1
          rw [heq] at h1
          by_cases h' : i < listed.size
          · simp [h'] at h0 h1; rw [h0] at h1; cases h1
          · simp [Array.getElem?_eq_none (Nat.le_of_not_lt h')] at h1
        have hjL : j ≠ L := fun e => last_not hc hL (mem_ready.1 hr).1 (e ▸ hj)
        refine wpOp_mono ?_ (wpOp_putIf hoj (hfree j oj hoj hji hjun hnot) (fun cs b => hsel i oi cs b hi) (fun cs b => hsel j oj cs b hoj) hQ hy (H.2 j (ready_mono hj hji)))
        rintro a' w' ⟨hy', hS', H'⟩
        refine ⟨fun _ => hS' hjL, ih _ a' w' (shut_set hc hj) ?_ (ready_mono hr (Ne.symm hji)) hy' (hS' hjL) ?_⟩
        · intro k ok hk hki hun hno
          refine hfree k ok hk hki ?_ hno
          by_cases hjk : j = k
          · subst hjk; exact hjun
          · rw [getD_set_ne true hjk] at hun; exact hun
        · rw [Array.setIfInBounds_comm _ _ hji]; exact H'

/-- one is taken first -/
theorem wpLeft.take {i : Nat} {oi : Oper} {v : Value} {fuel : Nat} {listed : Array Bool} {a : Act} {w : World} (hi : ops[i]? = some oi) (hs : Region.noSelect ops = true) (hf : Region.free md ops listed i = true) (hr : (Region.ready md ops listed).contains i = true)
    (hc : shutB md ops listed = true) (hL : (ahead md ops ops.size (needs md ops L)).contains i = true) (hQ : ∀ c a w, Q (.panic c) (a.put oi.dst v) w → Q (.panic c) a w) (hw : Region.wanted oi (yielded ops a.tmps) = true) (hy : ∀ w, S w → (execOp a.eval oi).run P w = .ok (.value v) w) (hS : S w)
    (h : wpLeft P md ops Q S L fuel (listed.setIfInBounds i true) (a.put oi.dst v) w) : wpLeft P md ops Q S L (fuel + 1) listed a w :=
  wpLeft.first hi (by simpa using hL) (Region.noSelect_spec hs) hQ fuel listed a w (shutB_spec hc) (Region.free_spec hi hf) (by simpa using hr) (.inl ⟨hw, hy⟩) hS h
/-- one alone comes up -/
theorem wpLeft.one {i : Nat} {o : Oper} {fuel : Nat} {listed : Array Bool} {a : Act} {w : World} (hr : Region.ready md ops listed = [i]) (ho : ops[i]? = some o)
    (h : ∀ K' : Act → World → Prop, Shut (∀ a w, (i ≠ L → S w) → wpLeft P md ops Q S L fuel (listed.setIfInBounds i true) a w → K' a w) → if Region.wanted o (yielded ops a.tmps) = true then Oper.wp P o a w K' Q else K' (a.put o.dst undef) w) :
    wpLeft P md ops Q S L (fuel + 1) listed a w := by
  refine ⟨fun h0 => (by rw [hr] at h0; cases h0), fun j hj => ?_⟩
  rw [hr] at hj
  obtain rfl : j = i := by simpa using hj
  exact wpOp_step ho (fun K' hK => h K' (fun a w h1 h2 => hK a w ⟨h1, h2⟩))
theorem wpLeft.done {listed : Array Bool} {a : Act} {w : World} {fuel : Nat} (hr : Region.ready md ops listed = []) (h : Q .normal a w) : wpLeft P md ops Q S L fuel listed a w := by
  cases fuel with
  | zero => exact ⟨hr, h⟩
  | succ n => exact ⟨fun _ => h, by rw [hr]; simp⟩
theorem region {id : Nat} {a : Act} {w : World} (S : World → Prop) (L : Nat) (hm : P.follows .mixedOrders = true) (h : wpLeft P .any ops Q S L ops.size (Array.replicate ops.size false) a w.drew) : (Code.region id ops true).wp P Q a w :=
  wp_region_any hm (wpLeft.any _ _ _ _ h)
end
end Go.Proofs.YtojjjndhabjhdaaDoor.held
