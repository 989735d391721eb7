/-
  Contracts: runes.Valid and runes.Points.
-/
import Derived.Test.YtdbidkfjbhclcaaDoorPointsA
namespace Go.Proofs.YtdbidkfjbhclcaaDoor.pointsB
open Go.ChangeShapes Go.WideShapes Go.ChangeAt Go.RowKit utfP utfQ utfR runesA runesD runesE pointsA

theorem valid_any (s : ByteArray) (w : World) (hs : s.size ≤ maxLen) (hT : Tabs w) :
    Calls Tryd.prog 44 #[.string s] w fun e w' => e = .returned (.bool (pts s.data.toList).isSome) ∧ Below w.heap.size w w' := by
  unfold maxLen at hs
  have h1 := Tryd.utf8_ValidString s w (by omega) hT
  rw [valid_eq] at h1
  have H1 := Lib.hid h1
  clear h1 hT
  go_enter Tryd.func44, Tryd.ntmps44
  go_wp2_with (go_at_call 55; refine H1.out.mono ?_; rintro e w' ⟨rfl, hb⟩)
  go_ret
  exact ⟨rfl, by assumption⟩
theorem valid_is (s : ByteArray) (b : Bool) (hb : (pts s.data.toList).isSome = b) (w : World) (hs : s.size ≤ maxLen) (hT : Tabs w) :
    Calls Tryd.prog 44 #[.string s] w fun e w' => e = .returned (.bool b) ∧ Below w.heap.size w w' := by
  subst hb; exact valid_any s w hs hT

theorem own_iterAt {w : World} {B : Nat} {v : Value} {l : List Nat} (h : OwnI w B v l) {k p p' : Nat} {s : ByteArray} (hk : w.heap[k]? = some (.stringIter s p)) : OwnI (w.iterAt k s p') B v l := by
  refine ⟨h.1, ?_⟩
  rcases h.2 with hn | ⟨g, cap, cur, rfl, hb, hgg, rest⟩
  · exact .inl hn
  · refine .inr ⟨g, cap, cur, rfl, hb, ?_, rest⟩
    rw [Lib.iterAt_other w k g s p' (by rintro rfl; rw [hk] at hgg; cases hgg)]; exact hgg

theorem own_ne {w : World} {B : Nat} {v : Value} {l : List Nat} (h : OwnI w B v l) {k p : Nat} {s : ByteArray} (hk : w.heap[k]? = some (.stringIter s p)) : some k ≠ v.ownBlock := by
  intro e
  rcases h.2 with ⟨rfl, _⟩ | ⟨g, cap, cur, rfl, hb, hgg, rest⟩
  · cases e
  · have : k = g := by simpa [Value.ownBlock] using e
    subst this; rw [hk] at hgg; cases hgg
theorem iter_grown {w w' : World} {v : Value} {k p : Nat} {s : ByteArray} {o : Obj} (hk : w.heap[k]? = some (.stringIter s p)) (hne : some k ≠ v.ownBlock) (hg : (w.alloc o).grownBy w' v.ownBlock) : w'.heap[k]? = some (.stringIter s p) := by
  have hlt : k < w.heap.size := (Array.getElem?_eq_some_iff.1 hk).1
  rw [hg.block k (by simp; omega) hne, Below.heap_alloc w o k hlt]; exact hk

theorem pts_pos {l : List UInt8} {k : Nat} {d full : List Nat} (h : k < l.length) (hf : pts l = some full) (hp : pts l = (pts (l.drop k)).map (d ++ ·)) : (dec (l.drop k)).2 ≠ 0 := by
  intro z
  rw [pts_stop h z hp] at hf; cases hf
theorem decode_dec {s : ByteArray} {k : Nat} (z : (dec (s.data.toList.drop k)).2 ≠ 0) : Utf8.decode s k = dec (s.data.toList.drop k) := by
  rw [← Lib.decodeL_drop, dec_decodeL z]

end Go.Proofs.YtdbidkfjbhclcaaDoor.pointsB
