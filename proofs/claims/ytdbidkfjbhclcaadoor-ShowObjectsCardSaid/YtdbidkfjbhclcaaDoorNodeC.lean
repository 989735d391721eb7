/-
  Contracts: json.right, json.Right.
-/
import Derived.Test.YtdbidkfjbhclcaaDoorNodeB
import Derived.Lib.Builder
namespace Go.Proofs.YtdbidkfjbhclcaaDoor.nodeC
open Go.ChangeShapes Go.WideShapes Go.ChangeAt Go.RowKit Go.WideMaps Go.Maps nodeP nodeQ nodeA nodeB runesE

/-- a number's own block -/
def NumAt (w : World) (L : Nat) (z : Int) : Prop := w.heap[L]? = some (.cells #[.int .i64 z] 3 (0, 0))
theorem NumAt.lt {w : World} {L : Nat} {z : Int} (h : NumAt w L z) : L < w.heap.size := by
  unfold NumAt at h
  rcases Nat.lt_or_ge L w.heap.size with h' | h'
  · exact h'
  · simp [Array.getElem?_eq_none h'] at h
theorem NumAt.cell {w : World} {L : Nat} {z : Int} (h : NumAt w L z) : w.cell? ⟨L, 0, none⟩ = some (.int .i64 z) := by
  unfold NumAt at h
  rw [Lib.cell_of_heap h]; rfl
theorem NumAt.frozen {w : World} {L : Nat} {z : Int} (h : NumAt w L z) : w.frozen? ⟨L, 0, none⟩ = false := Lib.frozen_of_heap h 0
theorem NumAt.alloc {w : World} {L : Nat} {z : Int} (h : NumAt w L z) (o : Obj) : NumAt (w.alloc o) L z := (Lib.alloc_old w o L h.lt).trans h
theorem NumAt.below {w w' : World} {L : Nat} {z : Int} (h : NumAt w L z) (hb : Below w.heap.size w w') : NumAt w' L z := (hb.block L h.lt).trans h
theorem NumAt.set {w : World} {L : Nat} {z : Int} (h : NumAt w L z) (z' : Int) : NumAt (w.setCell ⟨L, 0, none⟩ (.int .i64 z')) L z' := by
  unfold NumAt at h ⊢
  simp [World.setCell, Array.getElem?_modify, h]
theorem other_cell {w : World} {L b j : Nat} (v : Value) (h : b ≠ L) : (w.setCell ⟨L, 0, none⟩ v).cell? ⟨b, j, none⟩ = w.cell? ⟨b, j, none⟩ :=
  World.cell?_of_block (w := w) (Below.heap_setCell _ _ _ _ (fun e => h (by simpa using e)))
theorem box_cell (w : World) (cs : Array Value) (t : TypeId) (j : Nat) : (w.alloc (.cells cs t)).cell? ⟨w.heap.size, j, none⟩ = cs[j]? := Go.Joins.cell_alloc_mark_at w cs t (0, 0) w.heap.size j rfl

def R (x : Nd) (d : Nat) (z : Int) : Bool := okAt x d && decide ((count x : Int) ≤ z)
def RightP (x : Nd) (d : Nat) (z : Int) (L B : Nat) (w : World) (r : Bool) (w' : World) : Prop :=
  r = (okAt x d && decide ((count x : Int) ≤ z)) ∧ (∃ z', NumAt w' L z' ∧ 0 ≤ z' ∧ z' ≤ 20000 ∧ (r = true → z' = z - count x)) ∧ Below B w w'

set_option maxHeartbeats 1000000 in
set_option maxRecDepth 100000 in
theorem right_none (x : Nd) (l : List Value) (w : World) (B L d : Nat) (hx : NodeAt w B x l) (hB : B ≤ L) (hL : NumAt w L 0) :
    Calls Tryd.prog 26 #[.agg l.toArray, .int .i64 d, .pointer (some ⟨L, 0, none⟩)] w fun e w' => e = .returned (.bool (R x d 0)) ∧ RightP x d 0 L B w (R x d 0) w' := by
  have hcp := count_pos x
  have hlt := hL.lt
  cases x with
  | mk k n t ks cs =>
  obtain ⟨kv, cv, rfl, _, _, htm, hkv, hcv⟩ := hx.open
  obtain ⟨ao, cap, b, off, ls, rfl, hm, ha, hc, hn⟩ := hcv
  obtain ⟨ak, capk, bk, offk, rfl, hmk, hak, hck, hsk⟩ := hkv
  have c1 : ∀ o, (w.alloc o).cell? ⟨L, 0, none⟩ = some (.int .i64 0) := fun o => (hL.alloc o).cell
  have HL := Lib.hid hL
  clear hL hx hc hn ha hck hak hsk
  go_enter Tryd.func26, Tryd.ntmps26
  go_wp2
  go_ret
  have hR : R (.mk k n t ks cs) d 0 = false := by
    have : decide ((count (.mk k n t ks cs) : Int) ≤ 0) = false := by simp; omega
    unfold R; rw [this, Bool.and_false]
  rw [hR]
  exact ⟨rfl, hR.symm, ⟨0, HL.out.alloc _, by omega, by omega, fun h => by cases h⟩, (Below.refl _ _).alloc (by omega) _⟩

theorem em (t : ByteArray) : t.toList.isEmpty = (t.size == 0) := by
  rw [toL]
  cases t with
  | mk a => cases a with
    | mk l => cases l <;> rfl

set_option maxHeartbeats 2000000 in
set_option maxRecDepth 100000 in
theorem right_bad (k n : Int) (t : ByteArray) (ks : List ByteArray) (cs : List Nd) (l : List Value) (w : World) (B L d : Nat) (z : Int) (hx : NodeAt w B (.mk k n t ks cs) l) (hB : B ≤ L) (hBw : B ≤ w.heap.size) (hL : NumAt w L z) (hz : 1 ≤ z) (hz2 : z ≤ 20000)
    (hbad : (k ≠ 4 ∧ n ≠ 0) ∨ (k ≠ 5 ∧ t.size ≠ 0)) :
    Calls Tryd.prog 26 #[.agg l.toArray, .int .i64 d, .pointer (some ⟨L, 0, none⟩)] w fun e w' => e = .returned (.bool (R (.mk k n t ks cs) d z)) ∧ RightP (.mk k n t ks cs) d z L B w (R (.mk k n t ks cs) d z) w' := by
  obtain ⟨kv, cv, rfl, _, _, htm, hkv, hcv⟩ := hx.open
  obtain ⟨ao, cap, b, off, ls, rfl, hm, ha, hc, hn⟩ := hcv
  obtain ⟨ak, capk, bk, offk, rfl, hmk, hak, hck, hsk⟩ := hkv
  have hlt := hL.lt
  have hne : w.heap.size ≠ L := by omega
  have c1 : ∀ o, (w.alloc o).cell? ⟨L, 0, none⟩ = some (.int .i64 z) := fun o => (hL.alloc o).cell
  have c2 : ∀ o, (w.alloc o).frozen? ⟨L, 0, none⟩ = false := fun o => (hL.alloc o).frozen
  have HL := Lib.hid hL
  have fin : Hid (∀ r o, r = (okAt (.mk k n t ks cs) d && decide ((count (.mk k n t ks cs) : Int) ≤ z)) → (r = true → cs = []) → Ending.returned (.bool r) = .returned (.bool (R (.mk k n t ks cs) d z)) ∧ RightP (.mk k n t ks cs) d z L B w (R (.mk k n t ks cs) d z) ((w.setCell ⟨L, 0, none⟩ (.int .i64 (z - 1))).alloc o)) := Lib.hid (by
    intro r o hr h0
    have hR : R _ d z = r := hr.symm
    rw [hR]
    refine ⟨rfl, hr, ⟨z - 1, (HL.out.set _).alloc o, by omega, by omega, fun h => ?_⟩, ((Below.refl _ _).setCell (p := ⟨L, 0, none⟩) hB _).alloc (by simpa [World.setCell] using hBw) _⟩
    rw [h0 h]; simp [count, counts])
  clear hL hx hc hn ha hck hak hsk hm hmk htm
  by_cases h1 : k ≠ 4 ∧ n ≠ 0
  · obtain ⟨h4, hn0⟩ := h1
    have hno : false = (okAt (.mk k n t ks cs) d && decide ((count (.mk k n t ks cs) : Int) ≤ z)) := by
      have : (k == 4) = false := by simpa using h4
      have : (n == 0) = false := by simpa using hn0
      simp [okAt, one, *]
    have HN := Lib.hid hno
    clear hno hbad
    go_enter Tryd.func26, Tryd.ntmps26
    go_wp2
    go_ret
    exact fin.out false _ HN.out (fun h => by cases h)
  · obtain ⟨h5, ht⟩ := hbad.resolve_left h1
    have hE : t.toList.isEmpty = false := by rw [em]; simpa using ht
    have hno : false = (okAt (.mk k n t ks cs) d && decide ((count (.mk k n t ks cs) : Int) ≤ z)) := by
      have : (k == 5) = false := by simpa using h5
      have : (t.size == 0) = false := by simpa using ht
      simp [okAt, one, *]
    have HN := Lib.hid hno
    clear hno hbad ht
    by_cases h4 : k = 4
    · subst h4
      go_enter Tryd.func26, Tryd.ntmps26
      go_wp2
      go_ret
      exact fin.out false _ HN.out (fun h => by cases h)
    · have hn0 : n = 0 := by
        by_cases e : n = 0
        · exact e
        · exact absurd ⟨h4, e⟩ h1
      subst hn0
      clear h1
      go_enter Tryd.func26, Tryd.ntmps26
      go_wp2
      go_ret
      exact fin.out false _ HN.out (fun h => by cases h)
end Go.Proofs.YtdbidkfjbhclcaaDoor.nodeC
