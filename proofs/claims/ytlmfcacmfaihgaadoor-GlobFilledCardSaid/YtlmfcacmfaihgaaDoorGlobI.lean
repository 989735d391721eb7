/-
  glob.Least; the law GlobParts returns true.
-/
import Derived.Test.YtlmfcacmfaihgaaDoorGlobH
namespace Go.Proofs.YtlmfcacmfaihgaaDoor.globI
open Go.ChangeShapes Go.WideShapes Go.ChangeAt Go.RowKit globP globQ globA globB globC globD globE globF ownB globG globH

theorem rk_ne (b c : UInt8) (l : List UInt8) (k : Nat) (h : b ≠ c) : Lib.replaceK [c] [] k (b :: l) = b :: Lib.replaceK [c] [] k l := by
  cases k with
  | zero => rfl
  | succ k =>
    have hp : ([c] : List UInt8).isPrefixOf (b :: l) = false := by simp [List.isPrefixOf, Ne.symm h]
    have hix : Lib.index (b :: l) [c] = if Lib.index l [c] == -1 then -1 else Lib.index l [c] + 1 := by rw [Lib.index, hp]; simp
    by_cases hm : Lib.index l [c] = -1
    · rw [Lib.replaceK, Lib.replaceK, hix, hm]; rfl
    · have hge := Lib.index_ge l [c]
      obtain ⟨j, hj⟩ : ∃ j : Nat, Lib.index l [c] = j := ⟨(Lib.index l [c]).toNat, by omega⟩
      have hix' : Lib.index (b :: l) [c] = ((j + 1 : Nat) : Int) := by rw [hix, if_neg (fun e => hm (beq_iff_eq.1 e)), hj]; omega
      rw [Lib.replaceK_hit _ _ _ _ _ hj, Lib.replaceK_hit _ _ _ _ _ hix']
      simp
theorem rk_eq (c : UInt8) (l : List UInt8) (k : Nat) : Lib.replaceK [c] [] (k + 1) (c :: l) = Lib.replaceK [c] [] k l := by
  have hix : Lib.index (c :: l) [c] = ((0 : Nat) : Int) := by rw [Lib.index]; simp [List.isPrefixOf]
  rw [Lib.replaceK_hit _ _ _ _ _ hix]; simp
theorem rk_nil (c : UInt8) (k : Nat) : Lib.replaceK [c] [] k [] = [] := by
  cases k with
  | zero => rfl
  | succ k => rw [Lib.replaceK]; simp [Lib.index]
theorem rk_all (c : UInt8) : ∀ (l : List UInt8) (k : Nat), l.count c ≤ k → Lib.replaceK [c] [] k l = l.filter (· != c)
  | [], k, _ => rk_nil c k
  | b :: l, k, hk => by
    by_cases h : b = c
    · subst h
      rw [List.count_cons_self] at hk
      obtain ⟨k', rfl⟩ : ∃ k', k = k' + 1 := ⟨k - 1, by omega⟩
      rw [rk_eq, rk_all b l k' (by omega)]; simp
    · rw [List.count_cons_of_ne (by simpa using h)] at hk
      rw [rk_ne b c l k h, rk_all c l k hk]; simp [h]
theorem replace_is (c : UInt8) (l : List UInt8) : Lib.replaceAll l [c] [] = l.filter (· != c) := by
  unfold Lib.replaceAll Lib.replace
  rw [if_neg (by simp)]
  have : Lib.replaceNum l [c] (-1) = l.count c := by unfold Lib.replaceNum; rw [if_pos (Or.inl (by decide)), Lib.count_one]
  rw [this]; exact rk_all c l _ (Nat.le_refl _)

/-- the search's bound holds some number -/
def MaxL (w : World) : Prop := ∃ m, w.cell? ⟨0, 0, none⟩ = some (.int .i64 m)

theorem maxL_below {B : Nat} {w w' : World} (h0 : 0 < B) (h : MaxL w) (hb : Below B w w') : MaxL w' := by
  obtain ⟨m, hm⟩ := h
  refine ⟨m, ?_⟩
  unfold World.cell? at *
  rw [hb.block _ h0]; exact hm

theorem maxL_lt {w : World} (h : MaxL w) : 0 < w.heap.size := by
  obtain ⟨m, hm⟩ := h
  unfold World.cell? at hm
  rcases Nat.lt_or_ge 0 w.heap.size with h' | h'
  · exact h'
  · rw [Array.getElem?_eq_none h'] at hm; cases hm

theorem maxL_shaped {w : World} (h : w.ShapedOpen Tryd.prog) : MaxL w := Tryd.laysM155.s1_3 w h

theorem least_any (s : ByteArray) (w : World) (hm : MaxL w) (hs : s.size ≤ 500) :
    Calls Tryd.prog 7 #[.string s] w fun e w' => e = .returned (.string ⟨(s.data.toList.filter (· != star)).toArray⟩) ∧ Below w.heap.size w w' := by
  obtain ⟨m, hm⟩ := hm
  have hc := Lib.countB_le { data := #[42] } (by decide) s.size s (Nat.le_refl _)
  have H := Lib.hid (Tryd.strings_ReplaceAll s { data := #[42] } { data := #[] } m w (by omega) hm (by decide) (by show s.size + _ * 0 ≤ _; omega))
  have hr : Hid (Lib.replaceAll s.data.toList [42] [] = s.data.toList.filter (· != star)) := Lib.hid (replace_is 42 _)
  clear hm hc
  go_enter Tryd.func7, Tryd.ntmps7
  go_wp2_with fail
  refine H.out.mono ?_
  rintro e w' ⟨rfl, hb⟩
  have HB := Lib.hid hb
  clear hb
  go_wp2
  go_ret
  refine ⟨?_, HB.out⟩
  rw [← hr.out]; rfl

theorem plain_filter (l : List UInt8) : plainB l = (l.filter (· != star) == l) := by
  rw [Bool.eq_iff_iff, beq_iff_eq, List.filter_eq_self]
  unfold plainB
  rw [List.all_eq_true]

theorem below_drewN' {B : Nat} {w w' : World} (h : Below B w w') : ∀ n, Below B w (w'.drewN n)
  | 0 => h
  | n + 1 => (below_drewN' h n).drew

theorem law_big (s : ByteArray) (w : World) (h : 500 < s.size) :
    Calls Tryd.prog 4 #[.string s] w fun e w' => e = .returned (.bool true) ∧ Below w.heap.size w w' := by
  go_enter Tryd.func4, Tryd.ntmps4
  go_wp2_with fail
  refine (globD.alive _).mono ?_
  rintro e w' ⟨rfl, n1', rfl⟩
  go_wp2
  go_ret
  exact ⟨rfl, below_drewN' (Below.refl _ _) _⟩

theorem law_small (s : ByteArray) (w : World) (hm : MaxL w) (hs : s.size ≤ 500) :
    Calls Tryd.prog 4 #[.string s] w fun e w' => e = .returned (.bool true) ∧ Below w.heap.size w w' := by
  have HM := Lib.hid hm
  have hq : ((⟨(s.data.toList.filter (· != star)).toArray⟩ : ByteArray).toList == s.toList) = plainB s.data.toList := by
    rw [plain_filter, toL, toL]
  have HW := Lib.hid (fun w => without_any s star w hs)
  have HL := Lib.hid (fun w hw => least_any s w hw hs)
  have HP := Lib.hid (fun w => plain_is s _ hq.symm w)
  have HA := Lib.hid (fun w => lower_any s w hs)
  have HB := Lib.hid (fun w => refLower_any s w hs)
  clear hq hm
  generalize (⟨(s.data.toList.filter (· != star)).toArray⟩ : ByteArray) = F at *
  generalize (⟨(s.data.toList.map lowB).toArray⟩ : ByteArray) = L at *
  have hs' : ¬ 500 < s.size := by omega
  go_enter Tryd.func4, Tryd.ntmps4
  go_wp2_with fail
  refine (globD.alive _).mono ?_
  rintro e w' ⟨rfl, n1', rfl⟩
  have HB0 := Lib.hid (below_drewN' (Below.refl w.heap.size w) n1')
  have hz0 := HB0.out.size
  generalize w.drewN n1' = w0 at *
  go_wp2_with fail
  refine (HW.out _).mono ?_
  rintro e w1 ⟨rfl, hb1⟩
  have HB1 := Lib.hid (HB0.out.trans (hb1.mono hz0))
  have hz1 := HB1.out.size
  clear hb1
  go_wp2_with fail
  refine (HL.out _ (maxL_below (maxL_lt HM.out) HM.out HB1.out)).mono ?_
  rintro e w2 ⟨rfl, hb2⟩
  have HB2 := Lib.hid (HB1.out.trans (hb2.mono hz1))
  have hz2 := HB2.out.size
  clear hb2
  go_wp2_with fail
  refine (HP.out _).mono ?_
  rintro e w' ⟨rfl, rfl⟩
  go_wp2_with fail
  refine (HA.out _).mono ?_
  rintro e w3 ⟨rfl, hb3⟩
  have HB3 := Lib.hid (HB2.out.trans (hb3.mono hz2))
  have hz3 := HB3.out.size
  clear hb3
  go_wp2_with fail
  refine (HB.out _).mono ?_
  rintro e w4 ⟨rfl, hb4⟩
  have HB4 := Lib.hid (HB3.out.trans (hb4.mono hz3))
  clear hb4
  go_wp2
  go_ret
  exact ⟨ret_bool (by simp), HB4.out⟩

theorem law_parts (s : ByteArray) (w : World) (hm : MaxL w) :
    Calls Tryd.prog 4 #[.string s] w fun e w' => e = .returned (.bool true) ∧ Below w.heap.size w w' := by
  by_cases h : 500 < s.size
  · exact law_big s w h
  · exact law_small s w hm (by omega)

end Go.Proofs.YtlmfcacmfaihgaaDoor.globI
