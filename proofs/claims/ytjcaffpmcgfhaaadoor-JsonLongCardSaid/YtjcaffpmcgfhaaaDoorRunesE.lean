/-
  Contracts: runes.Decode and the reference's Decode tell the code point at a place (dec).
-/
import Derived.Test.YtjcaffpmcgfhaaaDoorRunesD
import Derived.Test.YtjcaffpmcgfhaaaDoorUtfQ
import Derived.Test.YtjcaffpmcgfhaaaDoorShelf
import Derived.Deep.LoopGhost
import Derived.WalkSpells
namespace Go.Proofs.YtjcaffpmcgfhaaaDoor.runesE
open Go.ChangeShapes Go.WideShapes Go.ChangeAt Go.RowKit utfP utfQ runesA runesD

/-- the tables of the library's decoder, as its text lays them -/
def Tabs (w : World) : Prop := Lib.Utf8Tabs 15 16 w

theorem tabs_size {w : World} (h : Tabs w) : 15 < w.heap.size ∧ 16 < w.heap.size :=
  ⟨World.block_lt_of_cell? w ⟨15, 0, none⟩ (h.1 0 (by decide)), World.block_lt_of_cell? w ⟨16, 2 * 0, none⟩ (h.2 0 (by decide)).1⟩
theorem tabs_below {w w' : World} (h : Tabs w) (hb : Below w.heap.size w w') : Tabs w' := by
  obtain ⟨s1, s2⟩ := tabs_size h
  refine ⟨fun c hc => ?_, fun i hi => ⟨?_, ?_⟩⟩
  · rw [hb.cell (p := ⟨15, c, none⟩) s1]; exact h.1 c hc
  · rw [hb.cell (p := ⟨16, 2 * i, none⟩) s2]; exact (h.2 i hi).1
  · rw [hb.cell (p := ⟨16, 2 * i + 1, none⟩) s2]; exact (h.2 i hi).2

theorem ext_drop (S : ByteArray) (k : Nat) : (S.extract k S.size).data.toList = S.data.toList.drop k := by
  rw [ByteArray.data_extract, Array.toList_extract]
  simp [List.extract, List.take_of_length_le]
theorem ext_take (S : ByteArray) (k j : Nat) : (S.extract k (k + j)).data.toList = (S.data.toList.drop k).take j := by
  rw [ByteArray.data_extract, Array.toList_extract]
  simp [List.extract]
theorem ext_size (S : ByteArray) (k : Nat) : (S.extract k S.size).size = S.size - k := by
  rw [ByteArray.size_extract]; omega
theorem toL (s : ByteArray) : s.toList = s.data.toList := Go.ByteArray.toList_eq s

theorem decodeN_bd (n b0 b1 b2 b3 : Nat) (h0 : b0 < 256) : (Lib.decodeN n b0 b1 b2 b3).1 ≤ 2097151 ∧ 1 ≤ (Lib.decodeN n b0 b1 b2 b3).2 ∧ (Lib.decodeN n b0 b1 b2 b3).2 ≤ 4 := by
  unfold Lib.decodeN
  split
  · exact ⟨by dsimp only; omega, by dsimp only; omega, by dsimp only; omega⟩
  split
  · split
    · exact ⟨by dsimp only; omega, by dsimp only; omega, by dsimp only; omega⟩
    · exact ⟨by decide, by decide, by decide⟩
  split
  · split
    · exact ⟨by dsimp only; omega, by dsimp only; omega, by dsimp only; omega⟩
    · exact ⟨by decide, by decide, by decide⟩
  split
  · split
    · exact ⟨by dsimp only; omega, by dsimp only; omega, by dsimp only; omega⟩
    · exact ⟨by decide, by decide, by decide⟩
  · exact ⟨by decide, by decide, by decide⟩

theorem dgo (s : ByteArray) (p : Nat) (h : p < s.size) : ∃ a b : Nat, Lib.decodeGo (s.extract p s.size) = (a, b) ∧ (a : Int) ≤ 2097151 ∧ 1 ≤ b ∧ b ≤ 4 ∧ dec (s.data.toList.drop p) = if a = 65533 ∧ b < 2 then (0, 0) else (a, b) := by
  have e : Lib.decodeGo (s.extract p s.size) = Lib.decodeL (s.data.toList.drop p) := by
    unfold Lib.decodeGo
    rw [if_neg (by rw [ext_size]; omega), ← Lib.decodeL_drop (s.extract p s.size) 0, ext_drop, List.drop_zero]
  have hb := decodeN_bd (s.data.toList.drop p).length _ (bt (s.data.toList.drop p) 1) (bt (s.data.toList.drop p) 2) (bt (s.data.toList.drop p) 3) (bt_lt (s.data.toList.drop p) 0)
  rw [← dcd_eq] at hb
  refine ⟨(Lib.decodeL (s.data.toList.drop p)).1, (Lib.decodeL (s.data.toList.drop p)).2, e, by omega, hb.2.1, hb.2.2, ?_⟩
  have hne : s.data.toList.drop p ≠ [] := by
    rw [ne_eq, List.drop_eq_nil_iff]; simp; omega
  unfold dec
  by_cases c : (Lib.decodeL (s.data.toList.drop p)).1 = 65533 ∧ (Lib.decodeL (s.data.toList.drop p)).2 < 2
  · rw [if_pos (Or.inr c), if_pos c]
  · rw [if_neg (by rintro (h | h); exact hne h; exact c h), if_neg c]

theorem decode_no (s : ByteArray) (p : Int) (w : World) (h : p < 0 ∨ (s.size : Int) ≤ p) :
    Calls Tryd.prog 38 #[.string s, .int .i64 p] w fun e w' => e = .returned (.tuple #[.int .i64 0, .int .i64 0, .bool false]) ∧ w = w' := by
  by_cases h1 : p < 0
  · clear h
    go_enter Tryd.func38, Tryd.ntmps38
    go_wp2
    go_ret3
    exact ⟨rfl, rfl⟩
  · have h2 : (s.size : Int) ≤ p := by omega
    clear h
    go_enter Tryd.func38, Tryd.ntmps38
    go_wp2
    go_ret3
    exact ⟨rfl, rfl⟩

def decR (l : List UInt8) : Value := .tuple #[.int .i64 ((dec l).1 : Int), .int .i64 ((dec l).2 : Int), .bool (decide (0 < (dec l).2))]

theorem decode_at (s : ByteArray) (p : Nat) (w : World) (h : p < s.size) (hT : Tabs w) :
    Calls Tryd.prog 38 #[.string s, .int .i64 p] w fun e w' => e = .returned (decR (s.data.toList.drop p)) ∧ Below w.heap.size w w' := by
  obtain ⟨a, b, hg, ha, hb1, hb4, hd⟩ := dgo s p h
  have HD := Tryd.utf8_DecodeRuneInString (s.extract p s.size) w hT
  rw [hg] at HD
  have HD := Lib.hid HD
  clear hg
  by_cases c : a = 65533 ∧ b < 2
  · rw [if_pos c] at hd
    have hr : Hid (decR (s.data.toList.drop p) = .tuple #[.int .i64 0, .int .i64 0, .bool false]) := Lib.hid (by unfold decR; rw [hd]; rfl)
    obtain ⟨c1, c2⟩ := c
    have q1 : ((a : Int) == 65533) = true := by rw [c1]; rfl
    clear hd c1
    go_enter Tryd.func38, Tryd.ntmps38
    go_wp2_with (go_at_call 46; refine HD.out.mono ?_; rintro e w' ⟨rfl, hb⟩)
    go_ret3
    exact ⟨by rw [hr.out]; rfl, by assumption⟩
  · rw [if_neg c] at hd
    have hr : Hid (decR (s.data.toList.drop p) = .tuple #[.int .i64 a, .int .i64 b, .bool true]) := Lib.hid (by
      unfold decR; rw [hd]; dsimp only; rw [decide_eq_true (by omega)])
    by_cases c1 : a = 65533
    · have q1 : ((a : Int) == 65533) = true := by rw [c1]; rfl
      have q2 : ¬ b < 2 := by omega
      clear hd c c1
      go_enter Tryd.func38, Tryd.ntmps38
      go_wp2_with (go_at_call 46; refine HD.out.mono ?_; rintro e w' ⟨rfl, hb⟩)
      go_ret3
      exact ⟨by rw [hr.out]; rfl, by assumption⟩
    · have q1 : ((a : Int) == 65533) = false := by rw [beq_eq_false_iff_ne]; omega
      clear hd c c1
      go_enter Tryd.func38, Tryd.ntmps38
      go_wp2_with (go_at_call 46; refine HD.out.mono ?_; rintro e w' ⟨rfl, hb⟩)
      go_ret3
      exact ⟨by rw [hr.out]; rfl, by assumption⟩

end Go.Proofs.YtjcaffpmcgfhaaaDoor.runesE
