/-
  Contracts of haversacknum.SameTexts and slices.Equal at []string.
-/
import Derived.Test.YtdbidkfjbhclcaaDoorNodeA
import Derived.Lib.Hide
namespace Go.Proofs.YtdbidkfjbhclcaaDoor.sameTexts
open Go.ChangeShapes Go.WideShapes Go.ChangeAt Go.RowKit nodeP nodeQ
set_option linter.unusedSimpArgs false
set_option linter.unusedVariables false

theorem ret_bool {a b : Bool} (h : a = b) : Ending.returned (.bool a) = .returned (.bool b) := by rw [h]
theorem all_same {xs ys : List ByteArray} (hl : xs.length = ys.length) (h : ∀ j, j < xs.length → xs.getD j ByteArray.empty = ys.getD j ByteArray.empty) : decide (xs = ys) = true := by
  rw [decide_eq_true_iff]
  apply List.ext_getElem hl
  intro i h1 h2
  have := h i h1
  simpa [List.getD, List.getElem?_eq_getElem h1, List.getElem?_eq_getElem h2] using this
theorem texts_empty (w : World) (a1 a2 : Option Addr) (c1 c2 : Nat) :
    Calls Tryd.prog 23 #[.slice a1 0 c1, .slice a2 0 c2] w fun e w' => e = .returned (.bool true) ∧ w = w' := by
  go_enter Tryd.func23, Tryd.ntmps23
  go_wp2
  go_loop [13] (fun i => i = .int .i64 0) (fun _ => 0)
  case atStart => rfl
  case round =>
    subst hrel
    go_wp2
    go_ret
    exact ⟨rfl, rfl⟩
theorem texts_lens (w : World) (a1 a2 : Option Addr) (n1 n2 c1 c2 : Nat) (h : ¬ n1 = n2) :
    Calls Tryd.prog 23 #[.slice a1 n1 c1, .slice a2 n2 c2] w fun e w' => e = .returned (.bool false) ∧ w = w' := by
  have q : ((n1 : Int) != (n2 : Int)) = true := by rw [bne_iff_ne]; omega
  go_enter Tryd.func23, Tryd.ntmps23
  go_wp2
  go_ret
  exact ⟨rfl, rfl⟩
theorem texts_cells (w : World) (b1 o1 b2 o2 c1 c2 : Nat) (xs ys : List ByteArray) (hl : xs.length = ys.length) (hm : xs.length ≤ maxLen)
    (hx : ∀ i, i < xs.length → w.cell? ⟨b1, o1 + i, none⟩ = some (.string (xs.getD i ByteArray.empty))) (hy : ∀ i, i < xs.length → w.cell? ⟨b2, o2 + i, none⟩ = some (.string (ys.getD i ByteArray.empty))) :
    Calls Tryd.prog 23 #[.slice (some ⟨b1, o1, none⟩) xs.length c1, .slice (some ⟨b2, o2, none⟩) xs.length c2] w fun e w' => e = .returned (.bool (decide (xs = ys))) ∧ ∃ n, w' = w.drewN n := by
  unfold maxLen at hm
  have HX := Lib.hid hx
  have HY := Lib.hid hy
  have HL := Lib.hid hl
  clear hx hy hl
  generalize hlen : xs.length = len at *
  have HLEN := Lib.hid hlen
  clear hlen
  go_enter Tryd.func23, Tryd.ntmps23
  go_wp2
  go_loopw [13] (fun i wr => ∃ k : Nat, k ≤ len ∧ i = .int .i64 k ∧ (∃ n, wr = w.drewN n) ∧ Hid (∀ j, j < k → xs.getD j ByteArray.empty = ys.getD j ByteArray.empty)) (fun i _ => len - (intOf i).toNat)
  case atStart => exact ⟨0, Nat.zero_le _, rfl, ⟨0, rfl⟩, Lib.hid (fun j hj => by omega)⟩
  case round =>
    obtain ⟨k, hk, rfl, ⟨nq, rfl⟩, hall⟩ := hrel
    by_cases hlt : k < len
    · have h1 := HX.out k hlt
      have h2 := HY.out k hlt
      generalize hx : xs.getD k ByteArray.empty = x at *
      generalize hy : ys.getD k ByteArray.empty = y at *
      have EX := Lib.hid hx
      have EY := Lib.hid hy
      clear hx hy
      have hki : (k : Int) < (len : Int) := by omega
      by_cases he : x = y
      · have hN : Hid (∀ j, j < k + 1 → xs.getD j ByteArray.empty = ys.getD j ByteArray.empty) := Lib.hid (by
          intro j hj
          by_cases e : j = k
          · subst e; rw [EX.out, EY.out, he]
          · exact hall.out j (by omega))
        subst he
        go_wp2
        go_quiet (fail)
        go_wp2
        go_roundw
        case rel => exact ⟨k + 1, by omega, by go_num, ⟨_, rfl⟩, hN⟩
        case measure => simp [intOf]; omega
      · have q : (x.toList == y.toList) = false := by
          rw [beq_eq_false_iff_ne]; intro h; apply he; rw [Go.ByteArray.toList_eq, Go.ByteArray.toList_eq] at h
          exact ByteArray.ext (by simpa using congrArg List.toArray h)
        have hN : Hid (decide (xs = ys) = false) := Lib.hid (by rw [decide_eq_false_iff_not]; rintro rfl; exact he (EX.out.symm.trans EY.out))
        clear he
        go_wp2
        go_quiet (fail)
        go_wp2
        go_ret
        exact ⟨ret_bool (by rw [hN.out]), _, World.drewN_drewN _ _ _⟩
    · have hN : Hid (decide (xs = ys) = true) := Lib.hid (by
        exact all_same (HLEN.out.trans HL.out) (fun j hj => hall.out j (by have := HLEN.out; omega)))
      go_wp2
      go_ret
      exact ⟨ret_bool (by rw [hN.out]), _, rfl⟩
theorem texts_any (w : World) (B B' : Nat) (u v : Value) (xs ys : List ByteArray) (hx : KeysAt w B u xs) (hy : KeysAt w B' v ys) :
    Calls Tryd.prog 23 #[u, v] w fun e w' => e = .returned (.bool (decide (xs = ys))) ∧ ∃ n, w' = w.drewN n := by
  obtain ⟨a1, c1, b1, o1, rfl, hm, ha, hcx, _⟩ := hx
  obtain ⟨a2, c2, b2, o2, rfl, hm2, ha2, hcy, _⟩ := hy
  by_cases hl : xs.length = ys.length
  · by_cases h0 : xs = []
    · subst h0
      obtain rfl : ys = [] := by simpa using hl.symm
      refine (texts_empty w a1 a2 c1 c2).mono ?_
      rintro e w' ⟨rfl, rfl⟩
      exact ⟨rfl, 0, rfl⟩
    · have h0' : ys ≠ [] := by rintro rfl; apply h0; simpa using hl
      have e1 := (ha h0).1
      have e2 := (ha2 h0').1
      subst e1 e2
      rw [← hl] at hcy ⊢
      exact texts_cells w b1 o1 b2 o2 c1 c2 xs ys hl hm.1 hcx hcy
  · refine (texts_lens w a1 a2 _ _ c1 c2 hl).mono ?_
    rintro e w' ⟨rfl, rfl⟩
    have : decide (xs = ys) = false := by rw [decide_eq_false_iff_not]; rintro rfl; exact hl rfl
    exact ⟨ret_bool this.symm, 0, rfl⟩
theorem equal_empty (w : World) (a1 a2 : Option Addr) (c1 c2 : Nat) :
    Calls Tryd.prog 25 #[.slice a1 0 c1, .slice a2 0 c2] w fun e w' => e = .returned (.bool true) ∧ w = w' := by
  go_enter Tryd.func25, Tryd.ntmps25
  go_wp2
  go_loop [13] (fun i => i = .int .i64 0) (fun _ => 0)
  case atStart => rfl
  case round =>
    subst hrel
    go_wp2
    go_ret
    exact ⟨rfl, rfl⟩
theorem equal_lens (w : World) (a1 a2 : Option Addr) (n1 n2 c1 c2 : Nat) (h : ¬ n1 = n2) :
    Calls Tryd.prog 25 #[.slice a1 n1 c1, .slice a2 n2 c2] w fun e w' => e = .returned (.bool false) ∧ w = w' := by
  have q : ((n1 : Int) != (n2 : Int)) = true := by rw [bne_iff_ne]; omega
  go_enter Tryd.func25, Tryd.ntmps25
  go_wp2
  go_ret
  exact ⟨rfl, rfl⟩
theorem equal_cells (w : World) (b1 o1 b2 o2 c1 c2 : Nat) (xs ys : List ByteArray) (hl : xs.length = ys.length) (hm : xs.length ≤ maxLen)
    (hx : ∀ i, i < xs.length → w.cell? ⟨b1, o1 + i, none⟩ = some (.string (xs.getD i ByteArray.empty))) (hy : ∀ i, i < xs.length → w.cell? ⟨b2, o2 + i, none⟩ = some (.string (ys.getD i ByteArray.empty))) :
    Calls Tryd.prog 25 #[.slice (some ⟨b1, o1, none⟩) xs.length c1, .slice (some ⟨b2, o2, none⟩) xs.length c2] w fun e w' => e = .returned (.bool (decide (xs = ys))) ∧ ∃ n, w' = w.drewN n := by
  unfold maxLen at hm
  have HX := Lib.hid hx
  have HY := Lib.hid hy
  have HL := Lib.hid hl
  clear hx hy hl
  generalize hlen : xs.length = len at *
  have HLEN := Lib.hid hlen
  clear hlen
  go_enter Tryd.func25, Tryd.ntmps25
  go_wp2
  go_loopw [13] (fun i wr => ∃ k : Nat, k ≤ len ∧ i = .int .i64 k ∧ (∃ n, wr = w.drewN n) ∧ Hid (∀ j, j < k → xs.getD j ByteArray.empty = ys.getD j ByteArray.empty)) (fun i _ => len - (intOf i).toNat)
  case atStart => exact ⟨0, Nat.zero_le _, rfl, ⟨0, rfl⟩, Lib.hid (fun j hj => by omega)⟩
  case round =>
    obtain ⟨k, hk, rfl, ⟨nq, rfl⟩, hall⟩ := hrel
    by_cases hlt : k < len
    · have h1 := HX.out k hlt
      have h2 := HY.out k hlt
      generalize hx : xs.getD k ByteArray.empty = x at *
      generalize hy : ys.getD k ByteArray.empty = y at *
      have EX := Lib.hid hx
      have EY := Lib.hid hy
      clear hx hy
      have hki : (k : Int) < (len : Int) := by omega
      by_cases he : x = y
      · have hN : Hid (∀ j, j < k + 1 → xs.getD j ByteArray.empty = ys.getD j ByteArray.empty) := Lib.hid (by
          intro j hj
          by_cases e : j = k
          · subst e; rw [EX.out, EY.out, he]
          · exact hall.out j (by omega))
        subst he
        go_wp2
        go_quiet (fail)
        go_wp2
        go_roundw
        case rel => exact ⟨k + 1, by omega, by go_num, ⟨_, rfl⟩, hN⟩
        case measure => simp [intOf]; omega
      · have q : (x.toList == y.toList) = false := by
          rw [beq_eq_false_iff_ne]; intro h; apply he; rw [Go.ByteArray.toList_eq, Go.ByteArray.toList_eq] at h
          exact ByteArray.ext (by simpa using congrArg List.toArray h)
        have hN : Hid (decide (xs = ys) = false) := Lib.hid (by rw [decide_eq_false_iff_not]; rintro rfl; exact he (EX.out.symm.trans EY.out))
        clear he
        go_wp2
        go_quiet (fail)
        go_wp2
        go_ret
        exact ⟨ret_bool (by rw [hN.out]), _, World.drewN_drewN _ _ _⟩
    · have hN : Hid (decide (xs = ys) = true) := Lib.hid (by
        exact all_same (HLEN.out.trans HL.out) (fun j hj => hall.out j (by have := HLEN.out; omega)))
      go_wp2
      go_ret
      exact ⟨ret_bool (by rw [hN.out]), _, rfl⟩
theorem equal_any (w : World) (B B' : Nat) (u v : Value) (xs ys : List ByteArray) (hx : KeysAt w B u xs) (hy : KeysAt w B' v ys) :
    Calls Tryd.prog 25 #[u, v] w fun e w' => e = .returned (.bool (decide (xs = ys))) ∧ ∃ n, w' = w.drewN n := by
  obtain ⟨a1, c1, b1, o1, rfl, hm, ha, hcx, _⟩ := hx
  obtain ⟨a2, c2, b2, o2, rfl, hm2, ha2, hcy, _⟩ := hy
  by_cases hl : xs.length = ys.length
  · by_cases h0 : xs = []
    · subst h0
      obtain rfl : ys = [] := by simpa using hl.symm
      refine (equal_empty w a1 a2 c1 c2).mono ?_
      rintro e w' ⟨rfl, rfl⟩
      exact ⟨rfl, 0, rfl⟩
    · have h0' : ys ≠ [] := by rintro rfl; apply h0; simpa using hl
      have e1 := (ha h0).1
      have e2 := (ha2 h0').1
      subst e1 e2
      rw [← hl] at hcy ⊢
      exact equal_cells w b1 o1 b2 o2 c1 c2 xs ys hl hm.1 hcx hcy
  · refine (equal_lens w a1 a2 _ _ c1 c2 hl).mono ?_
    rintro e w' ⟨rfl, rfl⟩
    have : decide (xs = ys) = false := by rw [decide_eq_false_iff_not]; rintro rfl; exact hl rfl
    exact ⟨ret_bool this.symm, 0, rfl⟩
end Go.Proofs.YtdbidkfjbhclcaaDoor.sameTexts
