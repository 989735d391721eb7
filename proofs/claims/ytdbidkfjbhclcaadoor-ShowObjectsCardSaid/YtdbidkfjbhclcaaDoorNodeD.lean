/-
  json.right at values that contain no other one (printed by gen).
-/
import Derived.Test.YtdbidkfjbhclcaaDoorNodeC
namespace Go.Proofs.YtdbidkfjbhclcaaDoor.nodeD
open Go.ChangeShapes Go.WideShapes Go.ChangeAt Go.RowKit Go.WideMaps Go.Maps nodeP nodeQ nodeA nodeB nodeC runesE

set_option maxHeartbeats 2000000 in
set_option maxRecDepth 100000 in
theorem right_1 (t : ByteArray) (ks : List ByteArray) (cs : List Nd) (l : List Value) (w : World) (B L d : Nat) (z : Int) (hx : NodeAt w B (.mk 1 0 t ks cs) l) (hB : B ≤ L) (hBw : B ≤ w.heap.size) (hL : NumAt w L z) (hz : 1 ≤ z) (hz2 : z ≤ 20000) (ht : t.size = 0) :
    Calls Tryd.prog 26 #[.agg l.toArray, .int .i64 d, .pointer (some ⟨L, 0, none⟩)] w fun e w' => e = .returned (.bool (R (.mk 1 0 t ks cs) d z)) ∧ RightP (.mk 1 0 t ks cs) d z L B w (R (.mk 1 0 t ks cs) d z) w' := by
  obtain ⟨kv, cv, rfl, _, _, htm, hkv, hcv⟩ := hx.open
  obtain ⟨ao, cap, b, off, ls, rfl, hm, ha, hc, hn⟩ := hcv
  obtain ⟨ak, capk, bk, offk, rfl, hmk, hak, hck, hsk⟩ := hkv
  have hlt := hL.lt
  have hne : w.heap.size ≠ L := by omega
  have c1 : ∀ o, (w.alloc o).cell? ⟨L, 0, none⟩ = some (.int .i64 z) := fun o => (hL.alloc o).cell
  have c2 : ∀ o, (w.alloc o).frozen? ⟨L, 0, none⟩ = false := fun o => (hL.alloc o).frozen
  have HL := Lib.hid hL
  have fin : Hid (∀ r o, r = (okAt (.mk 1 0 t ks cs) d && decide ((count (.mk 1 0 t ks cs) : Int) ≤ z)) → (r = true → cs = []) → Ending.returned (.bool r) = .returned (.bool (R (.mk 1 0 t ks cs) d z)) ∧ RightP (.mk 1 0 t ks cs) d z L B w (R (.mk 1 0 t ks cs) d z) ((w.setCell ⟨L, 0, none⟩ (.int .i64 (z - 1))).alloc o)) := Lib.hid (by
    intro r o hr h0
    have hR : R _ d z = r := hr.symm
    rw [hR]
    refine ⟨rfl, hr, ⟨z - 1, (HL.out.set _).alloc o, by omega, by omega, fun h => ?_⟩, ((Below.refl _ _).setCell (p := ⟨L, 0, none⟩) hB _).alloc (by simpa [World.setCell] using hBw) _⟩
    rw [h0 h]; simp [count, counts])
  have hE : t.toList.isEmpty = true := by rw [em, ht]; rfl
  have hcount : Hid (cs = [] → (count (.mk 1 0 t ks cs) : Int) ≤ z) := Lib.hid (by intro h; subst h; simp [count, counts]; omega)
  have hok : Hid (okAt (.mk 1 0 t ks cs) d = (ks.isEmpty && cs.isEmpty)) := Lib.hid (by cases cs <;> simp [okAt, one, oks, ht])
  have HN : Hid ((ks.isEmpty && cs.isEmpty) = (okAt (.mk 1 0 t ks cs) d && decide ((count (.mk 1 0 t ks cs) : Int) ≤ z))) := Lib.hid (by
    rw [hok.out]
    cases cs with
    | nil => simp [hcount.out rfl]
    | cons c cs => simp)
  clear hL hx hc hn ha hck hak hsk hm hmk htm ht
  cases ks with
  | nil =>
    cases cs with
    | nil =>
      go_enter Tryd.func26, Tryd.ntmps26
      go_wp2
      go_ret
      exact fin.out true _ HN.out (by simp)
    | cons c cs =>
      have hne1 : ¬ ((cs.length : Int) + 1 = 0) := by omega
      go_enter Tryd.func26, Tryd.ntmps26
      go_wp2
      go_ret
      exact fin.out false _ HN.out (fun h => by cases h)
  | cons a ks =>
    have hne1 : ¬ ((ks.length : Int) + 1 = 0) := by omega
    go_enter Tryd.func26, Tryd.ntmps26
    go_wp2
    go_ret
    exact fin.out false _ HN.out (fun h => by cases h)
set_option maxHeartbeats 2000000 in
set_option maxRecDepth 100000 in
theorem right_2 (t : ByteArray) (ks : List ByteArray) (cs : List Nd) (l : List Value) (w : World) (B L d : Nat) (z : Int) (hx : NodeAt w B (.mk 2 0 t ks cs) l) (hB : B ≤ L) (hBw : B ≤ w.heap.size) (hL : NumAt w L z) (hz : 1 ≤ z) (hz2 : z ≤ 20000) (ht : t.size = 0) :
    Calls Tryd.prog 26 #[.agg l.toArray, .int .i64 d, .pointer (some ⟨L, 0, none⟩)] w fun e w' => e = .returned (.bool (R (.mk 2 0 t ks cs) d z)) ∧ RightP (.mk 2 0 t ks cs) d z L B w (R (.mk 2 0 t ks cs) d z) w' := by
  obtain ⟨kv, cv, rfl, _, _, htm, hkv, hcv⟩ := hx.open
  obtain ⟨ao, cap, b, off, ls, rfl, hm, ha, hc, hn⟩ := hcv
  obtain ⟨ak, capk, bk, offk, rfl, hmk, hak, hck, hsk⟩ := hkv
  have hlt := hL.lt
  have hne : w.heap.size ≠ L := by omega
  have c1 : ∀ o, (w.alloc o).cell? ⟨L, 0, none⟩ = some (.int .i64 z) := fun o => (hL.alloc o).cell
  have c2 : ∀ o, (w.alloc o).frozen? ⟨L, 0, none⟩ = false := fun o => (hL.alloc o).frozen
  have HL := Lib.hid hL
  have fin : Hid (∀ r o, r = (okAt (.mk 2 0 t ks cs) d && decide ((count (.mk 2 0 t ks cs) : Int) ≤ z)) → (r = true → cs = []) → Ending.returned (.bool r) = .returned (.bool (R (.mk 2 0 t ks cs) d z)) ∧ RightP (.mk 2 0 t ks cs) d z L B w (R (.mk 2 0 t ks cs) d z) ((w.setCell ⟨L, 0, none⟩ (.int .i64 (z - 1))).alloc o)) := Lib.hid (by
    intro r o hr h0
    have hR : R _ d z = r := hr.symm
    rw [hR]
    refine ⟨rfl, hr, ⟨z - 1, (HL.out.set _).alloc o, by omega, by omega, fun h => ?_⟩, ((Below.refl _ _).setCell (p := ⟨L, 0, none⟩) hB _).alloc (by simpa [World.setCell] using hBw) _⟩
    rw [h0 h]; simp [count, counts])
  have hE : t.toList.isEmpty = true := by rw [em, ht]; rfl
  have hcount : Hid (cs = [] → (count (.mk 2 0 t ks cs) : Int) ≤ z) := Lib.hid (by intro h; subst h; simp [count, counts]; omega)
  have hok : Hid (okAt (.mk 2 0 t ks cs) d = (ks.isEmpty && cs.isEmpty)) := Lib.hid (by cases cs <;> simp [okAt, one, oks, ht])
  have HN : Hid ((ks.isEmpty && cs.isEmpty) = (okAt (.mk 2 0 t ks cs) d && decide ((count (.mk 2 0 t ks cs) : Int) ≤ z))) := Lib.hid (by
    rw [hok.out]
    cases cs with
    | nil => simp [hcount.out rfl]
    | cons c cs => simp)
  clear hL hx hc hn ha hck hak hsk hm hmk htm ht
  cases ks with
  | nil =>
    cases cs with
    | nil =>
      go_enter Tryd.func26, Tryd.ntmps26
      go_wp2
      go_ret
      exact fin.out true _ HN.out (by simp)
    | cons c cs =>
      have hne1 : ¬ ((cs.length : Int) + 1 = 0) := by omega
      go_enter Tryd.func26, Tryd.ntmps26
      go_wp2
      go_ret
      exact fin.out false _ HN.out (fun h => by cases h)
  | cons a ks =>
    have hne1 : ¬ ((ks.length : Int) + 1 = 0) := by omega
    go_enter Tryd.func26, Tryd.ntmps26
    go_wp2
    go_ret
    exact fin.out false _ HN.out (fun h => by cases h)
set_option maxHeartbeats 2000000 in
set_option maxRecDepth 100000 in
theorem right_3 (t : ByteArray) (ks : List ByteArray) (cs : List Nd) (l : List Value) (w : World) (B L d : Nat) (z : Int) (hx : NodeAt w B (.mk 3 0 t ks cs) l) (hB : B ≤ L) (hBw : B ≤ w.heap.size) (hL : NumAt w L z) (hz : 1 ≤ z) (hz2 : z ≤ 20000) (ht : t.size = 0) :
    Calls Tryd.prog 26 #[.agg l.toArray, .int .i64 d, .pointer (some ⟨L, 0, none⟩)] w fun e w' => e = .returned (.bool (R (.mk 3 0 t ks cs) d z)) ∧ RightP (.mk 3 0 t ks cs) d z L B w (R (.mk 3 0 t ks cs) d z) w' := by
  obtain ⟨kv, cv, rfl, _, _, htm, hkv, hcv⟩ := hx.open
  obtain ⟨ao, cap, b, off, ls, rfl, hm, ha, hc, hn⟩ := hcv
  obtain ⟨ak, capk, bk, offk, rfl, hmk, hak, hck, hsk⟩ := hkv
  have hlt := hL.lt
  have hne : w.heap.size ≠ L := by omega
  have c1 : ∀ o, (w.alloc o).cell? ⟨L, 0, none⟩ = some (.int .i64 z) := fun o => (hL.alloc o).cell
  have c2 : ∀ o, (w.alloc o).frozen? ⟨L, 0, none⟩ = false := fun o => (hL.alloc o).frozen
  have HL := Lib.hid hL
  have fin : Hid (∀ r o, r = (okAt (.mk 3 0 t ks cs) d && decide ((count (.mk 3 0 t ks cs) : Int) ≤ z)) → (r = true → cs = []) → Ending.returned (.bool r) = .returned (.bool (R (.mk 3 0 t ks cs) d z)) ∧ RightP (.mk 3 0 t ks cs) d z L B w (R (.mk 3 0 t ks cs) d z) ((w.setCell ⟨L, 0, none⟩ (.int .i64 (z - 1))).alloc o)) := Lib.hid (by
    intro r o hr h0
    have hR : R _ d z = r := hr.symm
    rw [hR]
    refine ⟨rfl, hr, ⟨z - 1, (HL.out.set _).alloc o, by omega, by omega, fun h => ?_⟩, ((Below.refl _ _).setCell (p := ⟨L, 0, none⟩) hB _).alloc (by simpa [World.setCell] using hBw) _⟩
    rw [h0 h]; simp [count, counts])
  have hE : t.toList.isEmpty = true := by rw [em, ht]; rfl
  have hcount : Hid (cs = [] → (count (.mk 3 0 t ks cs) : Int) ≤ z) := Lib.hid (by intro h; subst h; simp [count, counts]; omega)
  have hok : Hid (okAt (.mk 3 0 t ks cs) d = (ks.isEmpty && cs.isEmpty)) := Lib.hid (by cases cs <;> simp [okAt, one, oks, ht])
  have HN : Hid ((ks.isEmpty && cs.isEmpty) = (okAt (.mk 3 0 t ks cs) d && decide ((count (.mk 3 0 t ks cs) : Int) ≤ z))) := Lib.hid (by
    rw [hok.out]
    cases cs with
    | nil => simp [hcount.out rfl]
    | cons c cs => simp)
  clear hL hx hc hn ha hck hak hsk hm hmk htm ht
  cases ks with
  | nil =>
    cases cs with
    | nil =>
      go_enter Tryd.func26, Tryd.ntmps26
      go_wp2
      go_ret
      exact fin.out true _ HN.out (by simp)
    | cons c cs =>
      have hne1 : ¬ ((cs.length : Int) + 1 = 0) := by omega
      go_enter Tryd.func26, Tryd.ntmps26
      go_wp2
      go_ret
      exact fin.out false _ HN.out (fun h => by cases h)
  | cons a ks =>
    have hne1 : ¬ ((ks.length : Int) + 1 = 0) := by omega
    go_enter Tryd.func26, Tryd.ntmps26
    go_wp2
    go_ret
    exact fin.out false _ HN.out (fun h => by cases h)
set_option maxHeartbeats 2000000 in
set_option maxRecDepth 100000 in
theorem right_4 (n : Int) (t : ByteArray) (ks : List ByteArray) (cs : List Nd) (l : List Value) (w : World) (B L d : Nat) (z : Int) (hx : NodeAt w B (.mk 4 n t ks cs) l) (hB : B ≤ L) (hBw : B ≤ w.heap.size) (hL : NumAt w L z) (hz : 1 ≤ z) (hz2 : z ≤ 20000) (ht : t.size = 0) :
    Calls Tryd.prog 26 #[.agg l.toArray, .int .i64 d, .pointer (some ⟨L, 0, none⟩)] w fun e w' => e = .returned (.bool (R (.mk 4 n t ks cs) d z)) ∧ RightP (.mk 4 n t ks cs) d z L B w (R (.mk 4 n t ks cs) d z) w' := by
  obtain ⟨kv, cv, rfl, _, _, htm, hkv, hcv⟩ := hx.open
  obtain ⟨ao, cap, b, off, ls, rfl, hm, ha, hc, hn⟩ := hcv
  obtain ⟨ak, capk, bk, offk, rfl, hmk, hak, hck, hsk⟩ := hkv
  have hlt := hL.lt
  have hne : w.heap.size ≠ L := by omega
  have c1 : ∀ o, (w.alloc o).cell? ⟨L, 0, none⟩ = some (.int .i64 z) := fun o => (hL.alloc o).cell
  have c2 : ∀ o, (w.alloc o).frozen? ⟨L, 0, none⟩ = false := fun o => (hL.alloc o).frozen
  have HL := Lib.hid hL
  have fin : Hid (∀ r o, r = (okAt (.mk 4 n t ks cs) d && decide ((count (.mk 4 n t ks cs) : Int) ≤ z)) → (r = true → cs = []) → Ending.returned (.bool r) = .returned (.bool (R (.mk 4 n t ks cs) d z)) ∧ RightP (.mk 4 n t ks cs) d z L B w (R (.mk 4 n t ks cs) d z) ((w.setCell ⟨L, 0, none⟩ (.int .i64 (z - 1))).alloc o)) := Lib.hid (by
    intro r o hr h0
    have hR : R _ d z = r := hr.symm
    rw [hR]
    refine ⟨rfl, hr, ⟨z - 1, (HL.out.set _).alloc o, by omega, by omega, fun h => ?_⟩, ((Below.refl _ _).setCell (p := ⟨L, 0, none⟩) hB _).alloc (by simpa [World.setCell] using hBw) _⟩
    rw [h0 h]; simp [count, counts])
  have hE : t.toList.isEmpty = true := by rw [em, ht]; rfl
  have hcount : Hid (cs = [] → (count (.mk 4 n t ks cs) : Int) ≤ z) := Lib.hid (by intro h; subst h; simp [count, counts]; omega)
  have hok : Hid (okAt (.mk 4 n t ks cs) d = (ks.isEmpty && cs.isEmpty)) := Lib.hid (by cases cs <;> simp [okAt, one, oks, ht])
  have HN : Hid ((ks.isEmpty && cs.isEmpty) = (okAt (.mk 4 n t ks cs) d && decide ((count (.mk 4 n t ks cs) : Int) ≤ z))) := Lib.hid (by
    rw [hok.out]
    cases cs with
    | nil => simp [hcount.out rfl]
    | cons c cs => simp)
  clear hL hx hc hn ha hck hak hsk hm hmk htm ht
  cases ks with
  | nil =>
    cases cs with
    | nil =>
      go_enter Tryd.func26, Tryd.ntmps26
      go_wp2
      go_ret
      exact fin.out true _ HN.out (by simp)
    | cons c cs =>
      have hne1 : ¬ ((cs.length : Int) + 1 = 0) := by omega
      go_enter Tryd.func26, Tryd.ntmps26
      go_wp2
      go_ret
      exact fin.out false _ HN.out (fun h => by cases h)
  | cons a ks =>
    have hne1 : ¬ ((ks.length : Int) + 1 = 0) := by omega
    go_enter Tryd.func26, Tryd.ntmps26
    go_wp2
    go_ret
    exact fin.out false _ HN.out (fun h => by cases h)
set_option maxHeartbeats 2000000 in
set_option maxRecDepth 100000 in
theorem right_other (k : Int) (t : ByteArray) (ks : List ByteArray) (cs : List Nd) (l : List Value) (w : World) (B L d : Nat) (z : Int) (hx : NodeAt w B (.mk k 0 t ks cs) l) (hB : B ≤ L) (hBw : B ≤ w.heap.size) (hL : NumAt w L z) (hz : 1 ≤ z) (hz2 : z ≤ 20000) (ht : t.size = 0) (hk : k < 1 ∨ 7 < k) :
    Calls Tryd.prog 26 #[.agg l.toArray, .int .i64 d, .pointer (some ⟨L, 0, none⟩)] w fun e w' => e = .returned (.bool (R (.mk k 0 t ks cs) d z)) ∧ RightP (.mk k 0 t ks cs) d z L B w (R (.mk k 0 t ks cs) d z) w' := by
  obtain ⟨kv, cv, rfl, _, _, htm, hkv, hcv⟩ := hx.open
  obtain ⟨ao, cap, b, off, ls, rfl, hm, ha, hc, hn⟩ := hcv
  obtain ⟨ak, capk, bk, offk, rfl, hmk, hak, hck, hsk⟩ := hkv
  have hlt := hL.lt
  have hne : w.heap.size ≠ L := by omega
  have c1 : ∀ o, (w.alloc o).cell? ⟨L, 0, none⟩ = some (.int .i64 z) := fun o => (hL.alloc o).cell
  have c2 : ∀ o, (w.alloc o).frozen? ⟨L, 0, none⟩ = false := fun o => (hL.alloc o).frozen
  have HL := Lib.hid hL
  have fin : Hid (∀ r o, r = (okAt (.mk k 0 t ks cs) d && decide ((count (.mk k 0 t ks cs) : Int) ≤ z)) → (r = true → cs = []) → Ending.returned (.bool r) = .returned (.bool (R (.mk k 0 t ks cs) d z)) ∧ RightP (.mk k 0 t ks cs) d z L B w (R (.mk k 0 t ks cs) d z) ((w.setCell ⟨L, 0, none⟩ (.int .i64 (z - 1))).alloc o)) := Lib.hid (by
    intro r o hr h0
    have hR : R _ d z = r := hr.symm
    rw [hR]
    refine ⟨rfl, hr, ⟨z - 1, (HL.out.set _).alloc o, by omega, by omega, fun h => ?_⟩, ((Below.refl _ _).setCell (p := ⟨L, 0, none⟩) hB _).alloc (by simpa [World.setCell] using hBw) _⟩
    rw [h0 h]; simp [count, counts])
  have hE : t.toList.isEmpty = true := by rw [em, ht]; rfl
  have HN : Hid (false = (okAt (.mk k 0 t ks cs) d && decide ((count (.mk k 0 t ks cs) : Int) ≤ z))) := Lib.hid (by
    have : decide (1 ≤ k ∧ k ≤ 7) = false := by simp; omega
    simp [okAt, one, this])
  have k1 : ¬ k = 1 := by omega
  have k2 : ¬ k = 2 := by omega
  have k3 : ¬ k = 3 := by omega
  have k4 : ¬ k = 4 := by omega
  have k5 : ¬ k = 5 := by omega
  have k6 : ¬ k = 6 := by omega
  have k7 : ¬ k = 7 := by omega
  clear hL hx hc hn ha hck hak hsk hm hmk htm ht hk
  go_enter Tryd.func26, Tryd.ntmps26
  go_wp2
  go_ret
  exact fin.out false _ HN.out (fun h => by cases h)
set_option maxHeartbeats 2000000 in
set_option maxRecDepth 100000 in
theorem right_5 (t : ByteArray) (ks : List ByteArray) (cs : List Nd) (l : List Value) (w : World) (B L d : Nat) (z : Int) (hx : NodeAt w B (.mk 5 0 t ks cs) l) (hB : B ≤ L) (hBw : B ≤ w.heap.size) (hL : NumAt w L z) (hz : 1 ≤ z) (hz2 : z ≤ 20000) (hT : ∀ w', Below B w w' → Tabs w') :
    Calls Tryd.prog 26 #[.agg l.toArray, .int .i64 d, .pointer (some ⟨L, 0, none⟩)] w fun e w' => e = .returned (.bool (R (.mk 5 0 t ks cs) d z)) ∧ RightP (.mk 5 0 t ks cs) d z L B w (R (.mk 5 0 t ks cs) d z) w' := by
  obtain ⟨kv, cv, rfl, _, _, htm, hkv, hcv⟩ := hx.open
  obtain ⟨ao, cap, b, off, ls, rfl, hm, ha, hc, hn⟩ := hcv
  obtain ⟨ak, capk, bk, offk, rfl, hmk, hak, hck, hsk⟩ := hkv
  have hlt := hL.lt
  have hne : w.heap.size ≠ L := by omega
  have c1 : ∀ o, (w.alloc o).cell? ⟨L, 0, none⟩ = some (.int .i64 z) := fun o => (hL.alloc o).cell
  have c2 : ∀ o, (w.alloc o).frozen? ⟨L, 0, none⟩ = false := fun o => (hL.alloc o).frozen
  have HL := Lib.hid hL
  have fin : Hid (∀ r o, r = (okAt (.mk 5 0 t ks cs) d && decide ((count (.mk 5 0 t ks cs) : Int) ≤ z)) → (r = true → cs = []) → Ending.returned (.bool r) = .returned (.bool (R (.mk 5 0 t ks cs) d z)) ∧ RightP (.mk 5 0 t ks cs) d z L B w (R (.mk 5 0 t ks cs) d z) ((w.setCell ⟨L, 0, none⟩ (.int .i64 (z - 1))).alloc o)) := Lib.hid (by
    intro r o hr h0
    have hR : R _ d z = r := hr.symm
    rw [hR]
    refine ⟨rfl, hr, ⟨z - 1, (HL.out.set _).alloc o, by omega, by omega, fun h => ?_⟩, ((Below.refl _ _).setCell (p := ⟨L, 0, none⟩) hB _).alloc (by simpa [World.setCell] using hBw) _⟩
    rw [h0 h]; simp [count, counts])
  have hcount : Hid (cs = [] → (count (.mk 5 0 t ks cs) : Int) ≤ z) := Lib.hid (by intro h; subst h; simp [count, counts]; omega)
  have hok : Hid (okAt (.mk 5 0 t ks cs) d = (ks.isEmpty && cs.isEmpty && vld t)) := Lib.hid (by cases cs <;> simp [okAt, one, oks])
  have HN : Hid ((ks.isEmpty && cs.isEmpty && vld t) = (okAt (.mk 5 0 t ks cs) d && decide ((count (.mk 5 0 t ks cs) : Int) ≤ z))) := Lib.hid (by
    rw [hok.out]
    cases cs with
    | nil => simp [hcount.out rfl]
    | cons c cs => simp)
  have HT := Lib.hid hT
  have HM := Lib.hid htm
  clear hL hx hc hn ha hck hak hsk hm hmk htm hT
  cases ks with
  | nil =>
    cases cs with
    | nil =>
      have HV := Lib.hid (fun w' h => pointsB.valid_is t (vld t) rfl w' HM.out h)
      have HF : Hid (∀ r', r' = vld t → ∀ o w', Below ((w.setCell ⟨L, 0, none⟩ (.int .i64 (z - 1))).alloc o).heap.size ((w.setCell ⟨L, 0, none⟩ (.int .i64 (z - 1))).alloc o) w' → RightP (.mk 5 0 t [] []) d z L B w r' w') := Lib.hid (by
        intro r' hr' o w' hb
        have hsz : (w.setCell ⟨L, 0, none⟩ (.int .i64 (z - 1))).heap.size = w.heap.size := by simp [World.setCell]
        refine ⟨?_, ⟨z - 1, ((HL.out.set _).alloc o).below hb, by omega, by omega, fun _ => by simp [count, counts]⟩, (((Below.refl _ _).setCell (p := ⟨L, 0, none⟩) hB _).alloc (by rw [hsz]; exact hBw) _).trans (Go.Joins.below_le hb (by simp [hsz]; omega))⟩
        rw [← HN.out, hr']; simp)
      have HB0 : Hid (∀ o, Below B w ((w.setCell ⟨L, 0, none⟩ (.int .i64 (z - 1))).alloc o)) := Lib.hid (fun o => ((Below.refl _ _).setCell (p := ⟨L, 0, none⟩) hB _).alloc (by simpa [World.setCell] using hBw) _)
      go_enter Tryd.func26, Tryd.ntmps26
      go_wp2_with fail
      refine (HV.out _ (HT.out _ (HB0.out _))).mono ?_
      rintro e w1 ⟨rfl, hb1⟩
      have HF1 := Lib.hid (HF.out _ rfl _ _ hb1)
      clear hb1
      cases hv : vld t
      · rw [hv] at HF1
        go_wp2
        go_ret
        have hR : R (.mk 5 0 t [] []) d z = false := HF1.out.1.symm
        rw [hR]; exact ⟨rfl, HF1.out⟩
      · rw [hv] at HF1
        go_wp2
        go_ret
        have hR : R (.mk 5 0 t [] []) d z = true := HF1.out.1.symm
        rw [hR]; exact ⟨rfl, HF1.out⟩
    | cons c cs =>
      have hne1 : ¬ ((cs.length : Int) + 1 = 0) := by omega
      go_enter Tryd.func26, Tryd.ntmps26
      go_wp2
      go_ret
      exact fin.out false _ HN.out (fun h => by cases h)
  | cons a ks =>
    have hne1 : ¬ ((ks.length : Int) + 1 = 0) := by omega
    go_enter Tryd.func26, Tryd.ntmps26
    go_wp2
    go_ret
    exact fin.out false _ HN.out (fun h => by cases h)
end Go.Proofs.YtdbidkfjbhclcaaDoor.nodeD
