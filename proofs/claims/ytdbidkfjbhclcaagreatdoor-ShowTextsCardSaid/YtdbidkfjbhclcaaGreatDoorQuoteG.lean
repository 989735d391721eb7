/-
  The laws QuotePieces and QuoteJoins return true.
-/
import Derived.Test.YtdbidkfjbhclcaaGreatDoorQuoM
import Derived.IntWalk
namespace Go.Proofs.YtdbidkfjbhclcaaGreatDoor.quoteG
open Go.ChangeShapes Go.WideShapes Go.ChangeAt Go.RowKit utfP utfQ utfR runesA runesC runesD runesE quoteP quoteA quoteB quoteC errIs errs
open pointsA (PtsPost OwnI refPoints)

theorem ret_bool {a b : Bool} (h : a = b) : Ending.returned (.bool a) = .returned (.bool b) := by rw [h]
theorem prs_q {l : List UInt8} {x : List UInt8} (h : prs (34 :: l) = some x) : tk l = some (x, l.length) := by
  unfold prs stk at h
  rw [if_pos (show bt (34 :: l) 0 = 34 from rfl), List.tail_cons] at h
  cases ht : tk l with
  | none => rw [ht] at h; cases h
  | some q =>
    rw [ht] at h
    simp only [Option.map_some, List.length_cons] at h
    by_cases e : q.2 + 1 = l.length + 1
    · rw [if_pos e] at h
      have := Option.some.inj h
      rw [← this, show l.length = q.2 by omega]
    · rw [if_neg e] at h; cases h
theorem prs_mk {l : List UInt8} {x : List UInt8} (h : tk l = some (x, l.length)) : prs (34 :: l) = some x := by
  unfold prs stk
  rw [if_pos (show bt (34 :: l) 0 = 34 from rfl), List.tail_cons, h]
  simp

theorem q_list (A : ByteArray) : ((({ data := #[34] } : ByteArray) ++ A) ++ { data := #[34] }).data.toList = 34 :: (A.data.toList ++ [34]) := by simp [ByteArray.data_append]
theorem q_list2 (A B : ByteArray) : (((({ data := #[34] } : ByteArray) ++ A) ++ B) ++ { data := #[34] }).data.toList = 34 :: (A.data.toList ++ (B.data.toList ++ [34])) := by simp [ByteArray.data_append]
theorem q_size (A : ByteArray) : ((({ data := #[34] } : ByteArray) ++ A) ++ { data := #[34] }).size = A.size + 2 := by
  rw [ByteArray.size_append, ByteArray.size_append]; show 1 + A.size + 1 = _; omega
theorem q_size2 (A B : ByteArray) : (((({ data := #[34] } : ByteArray) ++ A) ++ B) ++ { data := #[34] }).size = A.size + B.size + 2 := by
  rw [ByteArray.size_append, ByteArray.size_append, ByteArray.size_append]; show 1 + A.size + B.size + 1 = _; omega

/-- the plain law -/
theorem pieces {a b x y : List UInt8} (h1 : prs (34 :: (a ++ [34])) = some x) (h2 : prs (34 :: (b ++ [34])) = some y) :
    prs (34 :: (a ++ (b ++ [34]))) = some (x ++ y) ∧ (pts x).isSome = true ∧ x.length ≤ a.length ∧ y.length ≤ b.length := by
  have t1 := prs_q h1
  have t2 := prs_q h2
  rw [List.length_append, List.length_singleton] at t1 t2
  obtain ⟨_, _, l1, p1⟩ := tk_len _ _ (Nat.le_refl _) _ _ t1
  obtain ⟨_, _, l2, _⟩ := tk_len _ _ (Nat.le_refl _) _ _ t2
  have t3 := tk_app _ a (Nat.le_refl _) x t1 (b ++ [34])
  rw [t2, Option.map_some] at t3
  refine ⟨prs_mk ?_, p1, by omega, by omega⟩
  rw [t3]; simp

/-! ### QuoteJoins -/
theorem qt_join (a b : List UInt8) : qt (a ++ b) = (qt a).dropLast ++ (qt b).tail := by
  unfold qt
  rw [List.flatMap_append]
  have : (34 :: (a.flatMap qB ++ [34])).dropLast = 34 :: a.flatMap qB := by
    rw [← List.cons_append, List.dropLast_concat]
  rw [this]; simp
theorem qt_len (l : List UInt8) : 2 ≤ (qt l).length ∧ (qt l).length ≤ 6 * l.length + 2 := by
  unfold qt
  have := flat_len l
  simp only [List.length_cons, List.length_append, List.length_nil]
  omega
theorem cut_join (a b : List UInt8) : (⟨(qt (a ++ b)).toArray⟩ : ByteArray) = (⟨(qt a).toArray⟩ : ByteArray).extract 0 ((⟨(qt a).toArray⟩ : ByteArray).size - 1) ++ (⟨(qt b).toArray⟩ : ByteArray).extract 1 (⟨(qt b).toArray⟩ : ByteArray).size := by
  have hx : (((⟨(qt a).toArray⟩ : ByteArray).extract 0 ((⟨(qt a).toArray⟩ : ByteArray).size - 1)) ++ ((⟨(qt b).toArray⟩ : ByteArray).extract 1 (⟨(qt b).toArray⟩ : ByteArray).size)).data.toList = qt (a ++ b) := by
    rw [ByteArray.data_append, Array.toList_append, ext_drop]
    have e0 : ((⟨(qt a).toArray⟩ : ByteArray).extract 0 ((⟨(qt a).toArray⟩ : ByteArray).size - 1)).data.toList = (qt a).dropLast := by
      have := ext_take (⟨(qt a).toArray⟩ : ByteArray) 0 ((⟨(qt a).toArray⟩ : ByteArray).size - 1)
      rw [Nat.zero_add] at this
      rw [this, List.drop_zero, List.dropLast_eq_take]
      rfl
    rw [e0, qt_join]
    simp
  cases h : ((⟨(qt a).toArray⟩ : ByteArray).extract 0 ((⟨(qt a).toArray⟩ : ByteArray).size - 1)) ++ ((⟨(qt b).toArray⟩ : ByteArray).extract 1 (⟨(qt b).toArray⟩ : ByteArray).size) with
  | mk d => rw [h] at hx; simp only at hx; rw [← hx]

theorem qtV_two (ad : Nat → Addr) (l : List UInt8) : ∃ u v, qtV ad l = .tuple #[.string u, v] := by
  unfold qtV; split
  · exact ⟨_, _, rfl⟩
  · exact ⟨_, _, rfl⟩

end Go.Proofs.YtdbidkfjbhclcaaGreatDoor.quoteG
