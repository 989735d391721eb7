/-
  Contracts of runes.digit, runes.Hex and the reference's Hex; the law RunesHex returns true.
-/
import Derived.Test.YtjcaffpmcgfhaaaDoorRunesA
import Derived.RowKit3
namespace Go.Proofs.YtjcaffpmcgfhaaaDoor.runesC
open Go.ChangeShapes Go.WideShapes Go.ChangeAt Go.RowKit utfP runesA

theorem ret_int {k : IntKind} {a b : Int} (h : a = b) : Ending.returned (.int k a) = .returned (.int k b) := by rw [h]

theorem digit_any (c : Int) (w : World) (h0 : 0 ≤ c) (h1 : c ≤ 255) :
    Calls Tryd.prog 57 #[.int .u8 c] w fun e w' => e = .returned (.int .i64 (dg c)) ∧ w = w' := by
  go_enter Tryd.func57, Tryd.ntmps57
  go_wp2
  all_goals go_ret
  all_goals refine ⟨ret_int ?_, rfl⟩
  all_goals unfold dg; (try simp); repeat' split
  all_goals omega

theorem hex_no (s : ByteArray) (p : Int) (w : World) (hs : s.size ≤ maxLen) (h : p < 0 ∨ (s.size : Int) - 4 < p) :
    Calls Tryd.prog 47 #[.string s, .int .i64 p] w fun e w' => e = .returned (.tuple #[.int .i64 0, .bool false]) ∧ w = w' := by
  unfold maxLen at hs
  by_cases h1 : p < 0
  · clear h
    go_enter Tryd.func47, Tryd.ntmps47
    go_wp2
    go_ret2
    exact ⟨rfl, rfl⟩
  · have h2 : (s.size : Int) - 4 < p := by omega
    clear h
    go_enter Tryd.func47, Tryd.ntmps47
    go_wp2
    go_ret2
    exact ⟨rfl, rfl⟩

theorem digit_byte (c : UInt8) (w : World) :
    Calls Tryd.prog 57 #[.int .u8 (c.toNat : Int)] w fun e w' => e = .returned (.int .i64 (dg c.toNat)) ∧ w = w' :=
  digit_any _ w (by omega) (by have := c.toNat_lt; omega)

theorem bget (s : ByteArray) (i : Nat) (h : i < s.size) : s.data.toList.getD i 0 = s[i] := by
  rw [List.getD_eq_getElem?_getD, List.getElem?_eq_getElem (by simpa using h)]; rfl

theorem hx_step (s : ByteArray) (p k : Nat) (h : p + k < s.size) (h0 : 0 ≤ hx s.data.toList p k) (h1 : 0 ≤ dg s[p + k].toNat) : hx s.data.toList p (k + 1) = hx s.data.toList p k * 16 + dg s[p + k].toNat := by
  rw [hx, bget s _ h, if_neg (by omega)]
theorem hx_stop (s : ByteArray) (p k : Nat) (h : p + k < s.size) (h1 : dg s[p + k].toNat < 0) (hk : k < 4) : hx s.data.toList p 4 < 0 := by
  refine hx_neg _ _ (k + 1) ?_ 4 (by omega)
  rw [hx, bget s _ h, if_pos (by omega)]; omega

def hexRes (s : ByteArray) (p : Nat) : Value := if 0 ≤ hx s.data.toList p 4 then .tuple #[.int .i64 (hx s.data.toList p 4), .bool true] else .tuple #[.int .i64 0, .bool false]

theorem hex_at (s : ByteArray) (p : Nat) (w : World) (hs : s.size ≤ maxLen) (h : p + 4 ≤ s.size) :
    Calls Tryd.prog 47 #[.string s, .int .i64 p] w fun e w' => e = .returned (hexRes s p) ∧ w = w' := by
  unfold maxLen at hs
  go_enter Tryd.func47, Tryd.ntmps47
  go_wp2
  go_loop [6, 18] (fun n i => ∃ k : Nat, k ≤ 4 ∧ i = .int .i64 k ∧ 0 ≤ hx s.data.toList p k ∧ n = .int .i64 (hx s.data.toList p k)) (fun _ i => 4 - (intOf i).toNat)
  case atStart => exact ⟨0, Nat.zero_le _, rfl, Int.le_refl _, rfl⟩
  case round =>
    obtain ⟨k, hk, rfl, hn, rfl⟩ := hrel
    have hb := (hx_bd s.data.toList p k hk).2
    by_cases hlt : k < 4
    · have hpk : p + k < s.size := by omega
      have hd := dg_bd s[p + k].toNat
      by_cases hneg : dg s[p + k].toNat < 0
      · have hst := Lib.hid (hx_stop s p k hpk hneg hlt)
        go_wp2_with (go_at_call 57; refine (digit_byte _ _).mono ?_; rintro e w' ⟨rfl, rfl⟩)
        go_ret2
        exact ⟨by have := hst.out; rw [hexRes, if_neg (by omega)]; rfl, rfl⟩
      · have hst := Lib.hid (hx_step s p k hpk hn (by omega))
        go_wp2_with (go_at_call 57; refine (digit_byte _ _).mono ?_; rintro e w' ⟨rfl, rfl⟩)
        go_round
        case rel => exact ⟨k + 1, by omega, by go_num, by rw [hst.out]; omega, by rw [hst.out]⟩
        case measure => simp [intOf]; omega
    · obtain rfl : k = 4 := by omega
      go_wp2
      go_ret2
      exact ⟨by rw [hexRes, if_pos hn]; rfl, rfl⟩

end Go.Proofs.YtjcaffpmcgfhaaaDoor.runesC
