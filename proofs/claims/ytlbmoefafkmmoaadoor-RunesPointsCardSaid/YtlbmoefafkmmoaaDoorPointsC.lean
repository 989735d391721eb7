/-
  The law RunesPoints returns true, where the decoder's tables are laid.
-/
import Derived.Test.YtlbmoefafkmmoaaDoorPointsB
import Derived.Test.YtlbmoefafkmmoaaDoorSameInts
namespace Go.Proofs.YtlbmoefafkmmoaaDoor.pointsC
open Go.ChangeShapes Go.WideShapes Go.ChangeAt Go.RowKit utfP utfQ utfR runesA runesD runesE pointsA pointsB sameInts

theorem ints_nil (w : World) : IntsAt w (.slice none 0 0) [] := ⟨Nat.zero_le _, none, 0, rfl, Or.inl rfl⟩
theorem ints_own {w : World} {B : Nat} {v : Value} {d : List Nat} (h : OwnI w B v d) : IntsAt w v (d.map Int.ofNat) := by
  rcases h.2 with ⟨rfl, hn⟩ | ⟨g, cap, cur, rfl, hb, hgg, hc, hm, _⟩
  · obtain rfl : d = [] := List.length_eq_zero_iff.1 hn
    exact ints_nil w
  · refine ⟨by simp; omega, some ⟨g, 0, none⟩, cap, by simp, Or.inr ⟨g, 0, rfl, fun i hi => ?_⟩⟩
    simp only [List.length_map] at hi
    rw [Nat.zero_add, World.ownsRow.cellAt (cap := cap) h i (by omega)]
    simp [iv, List.getD, hi]
theorem ints_kept {w w' : World} {v : Value} {xs : List Int} {B : Nat} (h : IntsAt w v xs) (hb : Below B w w') (hB : w.heap.size ≤ B) : IntsAt w' v xs := by
  obtain ⟨h1, a, cap, rfl, h2⟩ := h
  refine ⟨h1, a, cap, rfl, ?_⟩
  rcases h2 with h2 | ⟨b, off, rfl, h2⟩
  · exact Or.inl h2
  · refine Or.inr ⟨b, off, rfl, fun i hi => ?_⟩
    have hlt := World.block_lt_of_cell? w ⟨b, off + i, none⟩ (h2 i hi)
    rw [hb.cell (p := ⟨b, off + i, none⟩) (by show b < B; exact Nat.lt_of_lt_of_le hlt hB)]; exact h2 i hi

theorem lawPoints (s : ByteArray) (w : World) (hT : Tabs w) :
    Calls Tryd.prog 5 #[.string s] w fun e w' => e = .returned (.bool true) ∧ Below w.heap.size w w' := by
  by_cases h1 : 2000 < s.size
  · clear hT
    go_enter Tryd.func5, Tryd.ntmps5
    go_wp2_with fail
    refine (runesA.alive _).mono ?_
    rintro e w' ⟨rfl, rfl⟩
    go_wp2
    go_ret
    exact ⟨rfl, Below.refl _ _⟩
  have HT := Lib.hid hT
  clear hT
  have hs : s.size ≤ 100000 := by omega
  go_enter Tryd.func5, Tryd.ntmps5
  go_wp2_with fail
  refine (runesA.alive _).mono ?_
  rintro e w' ⟨rfl, rfl⟩
  go_wp2_with fail
  refine (points_any s w hs HT.out).mono ?_
  rintro e w1 ⟨hb1, hq1⟩
  have HB1 := Lib.hid hb1
  have hz1 := hb1.size
  have HT1 := Lib.hid (tabs_below HT.out hb1)
  clear hb1
  rcases hq1 with ⟨hn, rfl⟩ | ⟨d, v, hn, ho, _, rfl⟩
  · have HN := Lib.hid hn
    clear hn
    go_wp2_with fail
    refine (refPoints s _ hs).mono ?_
    rintro e w2 ⟨hb2, hq2⟩
    have HB2 := Lib.hid (HB1.out.trans (hb2.mono hz1))
    have HT2 := Lib.hid (tabs_below HT1.out hb2)
    clear hb2
    rcases hq2 with ⟨_, rfl⟩ | ⟨d2, v2, hn2, _⟩
    · go_wp2_with fail
      refine (same_any _ _ _ [] [] (ints_nil _) (ints_nil _)).mono ?_
      rintro e w3 ⟨rfl, n3, rfl⟩
      go_wp2_with fail
      refine (valid_is s false (by rw [HN.out]; rfl) _ (by unfold maxLen; omega) (tabs_below HT2.out (below_drewN (Below.refl _ _) _))).mono ?_
      rintro e w4 ⟨rfl, hb4⟩
      have HB4 := Lib.hid hb4
      clear hb4
      go_wp2
      go_ret
      exact ⟨rfl, (below_drewN HB2.out n3).trans (HB4.out.mono HB2.out.size)⟩
    · rw [HN.out] at hn2; cases hn2
  · have HN := Lib.hid hn
    have HO := Lib.hid ho
    clear hn ho
    go_wp2_with fail
    refine (refPoints s _ hs).mono ?_
    rintro e w2 ⟨hb2, hq2⟩
    have HB2 := Lib.hid (HB1.out.trans (hb2.mono hz1))
    have HT2 := Lib.hid (tabs_below HT1.out hb2)
    have HI := Lib.hid (ints_kept (ints_own HO.out) hb2 (Nat.le_refl _))
    clear hb2
    rcases hq2 with ⟨hn2, _⟩ | ⟨d2, v2, hn2, ho2, _, rfl⟩
    · rw [HN.out] at hn2; cases hn2
    · obtain rfl : d2 = d := Option.some.inj (hn2.symm.trans HN.out)
      have HI2 := Lib.hid (ints_own ho2)
      clear hn2 ho2
      go_wp2_with fail
      refine (same_any _ _ _ _ _ HI.out HI2.out).mono ?_
      rintro e w3 ⟨rfl, n3, rfl⟩
      rw [beq_self_eq_true]
      go_wp2_with fail
      refine (valid_is s true (by rw [HN.out]; rfl) _ (by unfold maxLen; omega) (tabs_below HT2.out (below_drewN (Below.refl _ _) _))).mono ?_
      rintro e w4 ⟨rfl, hb4⟩
      have HB4 := Lib.hid hb4
      clear hb4
      go_wp2
      go_ret
      exact ⟨rfl, (below_drewN HB2.out n3).trans (HB4.out.mono HB2.out.size)⟩

end Go.Proofs.YtlbmoefafkmmoaaDoor.pointsC
