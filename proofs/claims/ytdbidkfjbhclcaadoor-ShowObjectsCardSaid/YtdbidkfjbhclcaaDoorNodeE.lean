/-
  json.right at Arrays and Objects.
-/
import Derived.Test.YtdbidkfjbhclcaaDoorNodeD
import Derived.Deep.QuietTactic
import Derived.BigQuiet
namespace Go.Proofs.YtdbidkfjbhclcaaDoor.nodeE
open Go.ChangeShapes Go.WideShapes Go.ChangeAt Go.RowKit Go.WideMaps Go.Maps nodeP nodeQ nodeA nodeB nodeC nodeD runesE

theorem rp_drew {x : Nd} {d : Nat} {z : Int} {L B : Nat} {w w' : World} {r : Bool} (h : RightP x d z L B w r w') (n : Nat) : RightP x d z L B w r (w'.drewN n) := by
  obtain ⟨a, ⟨z', hz, b⟩, hb⟩ := h
  exact ⟨a, ⟨z', hz, b⟩, hb.trans (Go.Joins.below_draws _ _ n)⟩

set_option maxHeartbeats 2000000 in
set_option maxRecDepth 100000 in
theorem box_no6 (t : ByteArray) (ks : List ByteArray) (cs : List Nd) (l : List Value) (w : World) (B L d : Nat) (z : Int) (hx : NodeAt w B (.mk 6 0 t ks cs) l) (hB : B ≤ L) (hBw : B ≤ w.heap.size) (hL : NumAt w L z) (hz : 1 ≤ z) (hz2 : z ≤ 20000) (ht : t.size = 0) (hno : 32 ≤ (d : Int) ∨ z - 1 < (cs.length : Int)) :
    Calls Tryd.prog 26 #[.agg l.toArray, .int .i64 d, .pointer (some ⟨L, 0, none⟩)] w fun e w' => e = .returned (.bool (R (.mk 6 0 t ks cs) d z)) ∧ RightP (.mk 6 0 t ks cs) d z L B w (R (.mk 6 0 t ks cs) d z) w' := by
  obtain ⟨kv, cv, rfl, _, _, htm, hkv, hcv⟩ := hx.open
  obtain ⟨ao, cap, b, off, ls, rfl, hm, ha, hc, hn⟩ := hcv
  obtain ⟨ak, capk, bk, offk, rfl, hmk, hak, hck, hsk⟩ := hkv
  have hlt := hL.lt
  have hne : w.heap.size ≠ L := by omega
  have c1 : ∀ o, (w.alloc o).cell? ⟨L, 0, none⟩ = some (.int .i64 z) := fun o => (hL.alloc o).cell
  have c2 : ∀ o, (w.alloc o).frozen? ⟨L, 0, none⟩ = false := fun o => (hL.alloc o).frozen
  have HL := Lib.hid hL
  have fin : Hid (∀ r o, r = (okAt (.mk 6 0 t ks cs) d && decide ((count (.mk 6 0 t ks cs) : Int) ≤ z)) → (r = true → cs = []) → Ending.returned (.bool r) = .returned (.bool (R (.mk 6 0 t ks cs) d z)) ∧ RightP (.mk 6 0 t ks cs) d z L B w (R (.mk 6 0 t ks cs) d z) ((w.setCell ⟨L, 0, none⟩ (.int .i64 (z - 1))).alloc o)) := Lib.hid (by
    intro r o hr h0
    have hR : R _ d z = r := hr.symm
    rw [hR]
    refine ⟨rfl, hr, ⟨z - 1, (HL.out.set _).alloc o, by omega, by omega, fun h => ?_⟩, ((Below.refl _ _).setCell (p := ⟨L, 0, none⟩) hB _).alloc (by simpa [World.setCell] using hBw) _⟩
    rw [h0 h]; simp [count, counts])
  have hE : t.toList.isEmpty = true := by rw [em, ht]; rfl
  have hcl := counts_len cs
  have HN : Hid (false = (okAt (.mk 6 0 t ks cs) d && decide ((count (.mk 6 0 t ks cs) : Int) ≤ z))) := Lib.hid (by
    rcases hno with h | h
    · have : decide (d < 32) = false := by simp; omega
      simp [okAt, one, this]
    · have : decide ((count (.mk 6 0 t ks cs) : Int) ≤ z) = false := by rw [decide_eq_false_iff_not]; simp only [count]; omega
      rw [this, Bool.and_false])
  have hdr : ∀ o, ((w.setCell ⟨L, 0, none⟩ (.int .i64 (z - 1))).alloc o).cell? ⟨L, 0, none⟩ = some (.int .i64 (z - 1)) := fun o => ((HL.out.set _).alloc o).cell
  clear hL hx hc hn ha hck hak hsk hm hmk htm ht hcl
  by_cases h1 : 32 ≤ (d : Int)
  · clear hno
    go_enter Tryd.func26, Tryd.ntmps26
    go_wp2
    go_quiet (fail)
    all_goals (go_wp2; go_ret; exact ⟨(fin.out false (.map #[] 0) HN.out (fun h => by cases h)).1, rp_drew (fin.out false _ HN.out (fun h => by cases h)).2 _⟩)
  · have h2 := hno.resolve_left h1
    clear hno
    go_enter Tryd.func26, Tryd.ntmps26
    go_wp2
    go_quiet (fail)
    all_goals (go_wp2; go_ret; exact ⟨(fin.out false (.map #[] 0) HN.out (fun h => by cases h)).1, rp_drew (fin.out false _ HN.out (fun h => by cases h)).2 _⟩)
set_option maxHeartbeats 2000000 in
set_option maxRecDepth 100000 in
theorem box_no7 (t : ByteArray) (ks : List ByteArray) (cs : List Nd) (l : List Value) (w : World) (B L d : Nat) (z : Int) (hx : NodeAt w B (.mk 7 0 t ks cs) l) (hB : B ≤ L) (hBw : B ≤ w.heap.size) (hL : NumAt w L z) (hz : 1 ≤ z) (hz2 : z ≤ 20000) (ht : t.size = 0) (hno : 32 ≤ (d : Int) ∨ z - 1 < (cs.length : Int)) :
    Calls Tryd.prog 26 #[.agg l.toArray, .int .i64 d, .pointer (some ⟨L, 0, none⟩)] w fun e w' => e = .returned (.bool (R (.mk 7 0 t ks cs) d z)) ∧ RightP (.mk 7 0 t ks cs) d z L B w (R (.mk 7 0 t ks cs) d z) w' := by
  obtain ⟨kv, cv, rfl, _, _, htm, hkv, hcv⟩ := hx.open
  obtain ⟨ao, cap, b, off, ls, rfl, hm, ha, hc, hn⟩ := hcv
  obtain ⟨ak, capk, bk, offk, rfl, hmk, hak, hck, hsk⟩ := hkv
  have hlt := hL.lt
  have hne : w.heap.size ≠ L := by omega
  have c1 : ∀ o, (w.alloc o).cell? ⟨L, 0, none⟩ = some (.int .i64 z) := fun o => (hL.alloc o).cell
  have c2 : ∀ o, (w.alloc o).frozen? ⟨L, 0, none⟩ = false := fun o => (hL.alloc o).frozen
  have HL := Lib.hid hL
  have fin : Hid (∀ r o, r = (okAt (.mk 7 0 t ks cs) d && decide ((count (.mk 7 0 t ks cs) : Int) ≤ z)) → (r = true → cs = []) → Ending.returned (.bool r) = .returned (.bool (R (.mk 7 0 t ks cs) d z)) ∧ RightP (.mk 7 0 t ks cs) d z L B w (R (.mk 7 0 t ks cs) d z) ((w.setCell ⟨L, 0, none⟩ (.int .i64 (z - 1))).alloc o)) := Lib.hid (by
    intro r o hr h0
    have hR : R _ d z = r := hr.symm
    rw [hR]
    refine ⟨rfl, hr, ⟨z - 1, (HL.out.set _).alloc o, by omega, by omega, fun h => ?_⟩, ((Below.refl _ _).setCell (p := ⟨L, 0, none⟩) hB _).alloc (by simpa [World.setCell] using hBw) _⟩
    rw [h0 h]; simp [count, counts])
  have hE : t.toList.isEmpty = true := by rw [em, ht]; rfl
  have hcl := counts_len cs
  have HN : Hid (false = (okAt (.mk 7 0 t ks cs) d && decide ((count (.mk 7 0 t ks cs) : Int) ≤ z))) := Lib.hid (by
    rcases hno with h | h
    · have : decide (d < 32) = false := by simp; omega
      simp [okAt, one, this]
    · have : decide ((count (.mk 7 0 t ks cs) : Int) ≤ z) = false := by rw [decide_eq_false_iff_not]; simp only [count]; omega
      rw [this, Bool.and_false])
  have hdr : ∀ o, ((w.setCell ⟨L, 0, none⟩ (.int .i64 (z - 1))).alloc o).cell? ⟨L, 0, none⟩ = some (.int .i64 (z - 1)) := fun o => ((HL.out.set _).alloc o).cell
  clear hL hx hc hn ha hck hak hsk hm hmk htm ht hcl
  by_cases h1 : 32 ≤ (d : Int)
  · clear hno
    go_enter Tryd.func26, Tryd.ntmps26
    go_wp2
    go_quiet (fail)
    all_goals (go_wp2; go_ret; exact ⟨(fin.out false (.map #[] 0) HN.out (fun h => by cases h)).1, rp_drew (fin.out false _ HN.out (fun h => by cases h)).2 _⟩)
  · have h2 := hno.resolve_left h1
    clear hno
    go_enter Tryd.func26, Tryd.ntmps26
    go_wp2
    go_quiet (fail)
    all_goals (go_wp2; go_ret; exact ⟨(fin.out false (.map #[] 0) HN.out (fun h => by cases h)).1, rp_drew (fin.out false _ HN.out (fun h => by cases h)).2 _⟩)
end Go.Proofs.YtdbidkfjbhclcaaDoor.nodeE
