/-
  Contracts: runes.Decode and the reference's Decode tell the code point at a place (dec).
-/
import Derived.Test.YtlbmoefafkmmoabDoorRunesD
import Derived.Test.YtlbmoefafkmmoabDoorUtfQ
import Derived.Test.YtlbmoefafkmmoabDoorShelf
import Derived.Deep.LoopGhost
import Derived.WalkSpells
namespace Go.Proofs.YtlbmoefafkmmoabDoor.runesE
open Go.ChangeShapes Go.WideShapes Go.ChangeAt Go.RowKit utfP utfQ runesA runesD

/-- the tables of the library's decoder, as its text lays them -/
def Tabs (w : World) : Prop := Lib.Utf8Tabs 13 14 w

theorem tabs_size {w : World} (h : Tabs w) : 13 < w.heap.size ∧ 14 < w.heap.size :=
  ⟨World.block_lt_of_cell? w ⟨13, 0, none⟩ (h.1 0 (by decide)), World.block_lt_of_cell? w ⟨14, 2 * 0, none⟩ (h.2 0 (by decide)).1⟩
theorem tabs_below {w w' : World} (h : Tabs w) (hb : Below w.heap.size w w') : Tabs w' := by
  obtain ⟨s1, s2⟩ := tabs_size h
  refine ⟨fun c hc => ?_, fun i hi => ⟨?_, ?_⟩⟩
  · rw [hb.cell (p := ⟨13, c, none⟩) s1]; exact h.1 c hc
  · rw [hb.cell (p := ⟨14, 2 * i, none⟩) s2]; exact (h.2 i hi).1
  · rw [hb.cell (p := ⟨14, 2 * i + 1, none⟩) s2]; exact (h.2 i hi).2

theorem ext_drop (S : ByteArray) (k : Nat) : (S.extract k S.size).data.toList = S.data.toList.drop k := by
  rw [ByteArray.data_extract, Array.toList_extract]
  simp [List.extract, List.take_of_length_le]
theorem ext_take (S : ByteArray) (k j : Nat) : (S.extract k (k + j)).data.toList = (S.data.toList.drop k).take j := by
  rw [ByteArray.data_extract, Array.toList_extract]
  simp [List.extract]
theorem ext_size (S : ByteArray) (k : Nat) : (S.extract k S.size).size = S.size - k := by
  rw [ByteArray.size_extract]; omega
theorem toL (s : ByteArray) : s.toList = s.data.toList := Go.ByteArray.toList_eq s

end Go.Proofs.YtlbmoefafkmmoabDoor.runesE
