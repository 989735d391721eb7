/-
  Contracts: haversackref04.Depth, haversackref04.Size.
-/
import Derived.Test.YtjcaffpmcgfhaaaGreatDoorNodM
import Derived.WalkSmall
import Derived.Lib.Hide
import Derived.Test.YtjcaffpmcgfhaaaGreatDoorChecked
import Derived.WalkKit
import Derived.ProofKit
import Derived.RegionTactic
import Derived.BigRegion
import Derived.Deep.QuietTactic
import Derived.BigQuiet
import Derived.IntWalk
import Derived.Handy
import Derived.Deep.LoopGhost
import Derived.WalkLawsBesides
import Derived.WalkSpells
namespace Go.Proofs.YtjcaffpmcgfhaaaGreatDoor.nodeA
open Go.ChangeShapes Go.WideShapes Go.ChangeAt Go.RowKit nodeP nodeQ

/-- a kid's cells -/
theorem kid_cells {w : World} {B : Nat} {ls : Nat → List Value} {cs : List Nd} {b off i : Nat} (hc : ∀ i, i < cs.length → ∀ j, j < 5 → w.cell? ⟨b, off + 5 * i + j, none⟩ = (ls i)[j]?) (hn : ∀ i (h : i < cs.length), NodeAt w B cs[i] (ls i)) (hi : i < cs.length) :
    ∃ k n t ak lk ck ac lc cc, NodeAt w B cs[i] [.int .i64 k, .int .i64 n, .string t, .slice ak lk ck, .slice ac lc cc] ∧
      w.cell? ⟨b, off + i * 5, none⟩ = some (.int .i64 k) ∧ w.cell? ⟨b, off + i * 5 + 1, none⟩ = some (.int .i64 n) ∧ w.cell? ⟨b, off + i * 5 + 2, none⟩ = some (.string t) ∧ w.cell? ⟨b, off + i * 5 + 3, none⟩ = some (.slice ak lk ck) ∧ w.cell? ⟨b, off + i * 5 + 4, none⟩ = some (.slice ac lc cc) := by
  have h := hn i hi
  have c := hc i hi
  generalize cs[i] = x at h
  generalize ls i = l at *
  cases x with
  | mk k n t ks cs' =>
  obtain ⟨kv, cv, rfl, _, _, _, ⟨ak, ck, _, _, rfl, _⟩, ⟨ac, cc, _, _, _, rfl, _⟩⟩ := h.open
  rw [Nat.mul_comm i 5]
  exact ⟨k, n, t, _, _, _, _, _, _, h, c 0 (by omega), c 1 (by omega), c 2 (by omega), c 3 (by omega), c 4 (by omega)⟩
/-- .. in a later world -/
theorem kid_at {w wr : World} {ls : Nat → List Value} {cs : List Nd} {b off i : Nat} (hc : ∀ i, i < cs.length → ∀ j, j < 5 → w.cell? ⟨b, off + 5 * i + j, none⟩ = (ls i)[j]?) (hn : ∀ i (h : i < cs.length), NodeAt w w.heap.size cs[i] (ls i)) (hi : i < cs.length) {B : Nat} (hbs : b < B) (hb : Below B w wr) :
    ∃ k n t ak lk ck ac lc cc, NodeAt w w.heap.size cs[i] [.int .i64 k, .int .i64 n, .string t, .slice ak lk ck, .slice ac lc cc] ∧
      wr.cell? ⟨b, off + i * 5, none⟩ = some (.int .i64 k) ∧ wr.cell? ⟨b, off + i * 5 + 1, none⟩ = some (.int .i64 n) ∧ wr.cell? ⟨b, off + i * 5 + 2, none⟩ = some (.string t) ∧ wr.cell? ⟨b, off + i * 5 + 3, none⟩ = some (.slice ak lk ck) ∧ wr.cell? ⟨b, off + i * 5 + 4, none⟩ = some (.slice ac lc cc) := by
  obtain ⟨k, n, t, ak, lk, ck, ac, lc, cc, h, q0, q1, q2, q3, q4⟩ := kid_cells hc hn hi
  exact ⟨k, n, t, ak, lk, ck, ac, lc, cc, h, by rw [hb.cell hbs]; exact q0, by rw [hb.cell hbs]; exact q1, by rw [hb.cell hbs]; exact q2, by rw [hb.cell hbs]; exact q3, by rw [hb.cell hbs]; exact q4⟩

theorem dps_le : ∀ (cs : List Nd) (i : Nat), dps (cs.take i) ≤ dps cs
  | [], i => by simp
  | c :: cs, 0 => by simp [dps]
  | c :: cs, i + 1 => by have := dps_le cs i; simp [dps]; omega
theorem stays {w w' : World} {x : Nd} {l : List Value} (h : NodeAt w w.heap.size x l) (hb : Below w.heap.size w w') : NodeAt w' w'.heap.size x l := (h.keep hb).mono hb.size

theorem sumL_take (ks : List ByteArray) (m : Nat) (h : m < ks.length) : sumL (ks.take (m + 1)) = sumL (ks.take m) + (ks.getD m ByteArray.empty).size := by
  induction ks generalizing m with
  | nil => simp at h
  | cons k ks ih =>
    cases m with
    | zero => simp [sumL]
    | succ m =>
      have := ih m (by simpa using h)
      simp [sumL] at this ⊢
      omega
theorem sumL_le (ks : List ByteArray) (m : Nat) : sumL (ks.take m) ≤ sumL ks := by
  induction ks generalizing m with
  | nil => simp
  | cons k ks ih =>
    cases m with
    | zero => simp [sumL]
    | succ m => have := ih m; simp [sumL] at this ⊢; omega
def SizeP (x : Nd) (most z : Int) (w w' : World) : Prop :=
  0 ≤ z ∧ z ≤ 2 * most + 1 ∧ (z ≤ most → z = (sz x : Int)) ∧ Below w.heap.size w w'

end Go.Proofs.YtjcaffpmcgfhaaaGreatDoor.nodeA
