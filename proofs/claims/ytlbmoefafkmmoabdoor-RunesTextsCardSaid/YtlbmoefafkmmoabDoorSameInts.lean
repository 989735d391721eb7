/-
  The contract of haversacknum.SameInts.
-/
import Derived.Test.YtlbmoefafkmmoabDoorChecked
import Derived.WalkKit
import Derived.ProofKit
import Derived.WalkLawsBesides
import Derived.Lib.Hide
import Derived.Deep.QuietTactic
import Derived.BigQuiet
import Derived.Deep.LoopGhost
namespace Go.Proofs.YtlbmoefafkmmoabDoor.sameInts
open Go.ChangeShapes Go.WideShapes Go.ChangeAt Go.RowKit

/-- a slice that reads as numbers -/
def IntsAt (w : World) (v : Value) (xs : List Int) : Prop :=
  xs.length ≤ maxLen ∧ ∃ a cap, v = .slice a xs.length cap ∧ (xs = [] ∨ ∃ b off, a = some ⟨b, off, none⟩ ∧ ∀ i, i < xs.length → w.cell? ⟨b, off + i, none⟩ = some (.int .i64 (xs.getD i 0)))

theorem ret_bool {a b : Bool} (h : a = b) : Ending.returned (.bool a) = .returned (.bool b) := by rw [h]

theorem all_same {xs ys : List Int} (hl : xs.length = ys.length) (h : ∀ j, j < xs.length → xs.getD j 0 = ys.getD j 0) : (xs == ys) = true := by
  rw [beq_iff_eq]
  apply List.ext_getElem hl
  intro i h1 h2
  have := h i h1
  simpa [List.getD, List.getElem?_eq_getElem h1, List.getElem?_eq_getElem h2] using this

theorem same_empty (w : World) (a1 a2 : Option Addr) (c1 c2 : Nat) :
    Calls Tryd.prog 11 #[.slice a1 0 c1, .slice a2 0 c2] w fun e w' => e = .returned (.bool true) ∧ w = w' := by
  go_enter Tryd.func11, Tryd.ntmps11
  go_wp2
  go_loop [13] (fun i => i = .int .i64 0) (fun _ => 0)
  case atStart => rfl
  case round =>
    subst hrel
    go_wp2
    go_ret
    exact ⟨rfl, rfl⟩

theorem same_lens (w : World) (a1 a2 : Option Addr) (n1 n2 c1 c2 : Nat) (h : ¬ n1 = n2) :
    Calls Tryd.prog 11 #[.slice a1 n1 c1, .slice a2 n2 c2] w fun e w' => e = .returned (.bool false) ∧ w = w' := by
  have q : ((n1 : Int) != (n2 : Int)) = true := by rw [bne_iff_ne]; omega
  go_enter Tryd.func11, Tryd.ntmps11
  go_wp2
  go_ret
  exact ⟨rfl, rfl⟩

theorem same_cells (w : World) (b1 o1 b2 o2 c1 c2 : Nat) (xs ys : List Int) (hl : xs.length = ys.length) (hm : xs.length ≤ maxLen)
    (hx : ∀ i, i < xs.length → w.cell? ⟨b1, o1 + i, none⟩ = some (.int .i64 (xs.getD i 0))) (hy : ∀ i, i < xs.length → w.cell? ⟨b2, o2 + i, none⟩ = some (.int .i64 (ys.getD i 0))) :
    Calls Tryd.prog 11 #[.slice (some ⟨b1, o1, none⟩) xs.length c1, .slice (some ⟨b2, o2, none⟩) xs.length c2] w fun e w' => e = .returned (.bool (xs == ys)) ∧ ∃ n, w' = w.drewN n := by
  unfold maxLen at hm
  have HX := Lib.hid hx
  have HY := Lib.hid hy
  have HL := Lib.hid hl
  clear hx hy hl
  generalize hlen : xs.length = len at *
  have HLEN := Lib.hid hlen
  clear hlen
  go_enter Tryd.func11, Tryd.ntmps11
  go_wp2
  go_loopw [13] (fun i wr => ∃ k : Nat, k ≤ len ∧ i = .int .i64 k ∧ (∃ n, wr = w.drewN n) ∧ Hid (∀ j, j < k → xs.getD j 0 = ys.getD j 0)) (fun i _ => len - (intOf i).toNat)
  case atStart => exact ⟨0, Nat.zero_le _, rfl, ⟨0, rfl⟩, Lib.hid (fun j hj => by omega)⟩
  case round =>
    obtain ⟨k, hk, rfl, ⟨nq, rfl⟩, hall⟩ := hrel
    by_cases hlt : k < len
    · have h1 := HX.out k hlt
      have h2 := HY.out k hlt
      generalize hx : xs.getD k 0 = x at *
      generalize hy : ys.getD k 0 = y at *
      have EX := Lib.hid hx
      have EY := Lib.hid hy
      clear hx hy
      have hki : (k : Int) < (len : Int) := by omega
      by_cases he : x = y
      · have q : (x != y) = false := by simp [he]
        have hN : Hid (∀ j, j < k + 1 → xs.getD j 0 = ys.getD j 0) := Lib.hid (by
          intro j hj
          by_cases e : j = k
          · subst e; rw [EX.out, EY.out, he]
          · exact hall.out j (by omega))
        clear he
        go_wp2
        go_quiet (fail)
        go_wp2
        go_roundw
        case rel => exact ⟨k + 1, by omega, by go_num, ⟨_, rfl⟩, hN⟩
        case measure => simp [intOf]; omega
      · have q : (x != y) = true := by simp [he]
        have hN : Hid ((xs == ys) = false) := Lib.hid (by rw [beq_eq_false_iff_ne]; rintro rfl; exact he (EX.out.symm.trans EY.out))
        clear he
        go_wp2
        go_quiet (fail)
        go_wp2
        go_ret
        exact ⟨ret_bool (by rw [hN.out]), _, World.drewN_drewN _ _ _⟩
    · have hN : Hid ((xs == ys) = true) := Lib.hid (by
        exact all_same (HLEN.out.trans HL.out) (fun j hj => hall.out j (by have := HLEN.out; omega)))
      go_wp2
      go_ret
      exact ⟨ret_bool (by rw [hN.out]), _, rfl⟩

theorem same_any (w : World) (u v : Value) (xs ys : List Int) (hx : IntsAt w u xs) (hy : IntsAt w v ys) :
    Calls Tryd.prog 11 #[u, v] w fun e w' => e = .returned (.bool (xs == ys)) ∧ ∃ n, w' = w.drewN n := by
  obtain ⟨hm, a1, c1, rfl, h1⟩ := hx
  obtain ⟨hm2, a2, c2, rfl, h2⟩ := hy
  by_cases hl : xs.length = ys.length
  · rcases h1 with rfl | ⟨b1, o1, rfl, h1⟩
    · obtain rfl : ys = [] := by simpa using hl.symm
      refine (same_empty w a1 a2 c1 c2).mono ?_
      rintro e w' ⟨rfl, rfl⟩
      exact ⟨rfl, 0, rfl⟩
    · rcases h2 with rfl | ⟨b2, o2, rfl, h2⟩
      · obtain rfl : xs = [] := by simpa using hl
        refine (same_empty w _ _ c1 c2).mono ?_
        rintro e w' ⟨rfl, rfl⟩
        exact ⟨rfl, 0, rfl⟩
      · rw [← hl] at h2 ⊢
        exact same_cells w b1 o1 b2 o2 c1 c2 xs ys hl hm h1 h2
  · refine (same_lens w a1 a2 _ _ c1 c2 hl).mono ?_
    rintro e w' ⟨rfl, rfl⟩
    refine ⟨ret_bool ?_, 0, rfl⟩
    symm; rw [beq_eq_false_iff_ne]; rintro rfl; exact hl rfl

end Go.Proofs.YtlbmoefafkmmoabDoor.sameInts
