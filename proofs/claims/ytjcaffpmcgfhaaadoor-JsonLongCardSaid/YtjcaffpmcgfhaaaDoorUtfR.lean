/-
  Plain: a text's code points (pts), and when there are such.
-/
import Derived.Test.YtjcaffpmcgfhaaaDoorUtfQ
import Derived.Lib.ValidU
namespace Go.Proofs.YtjcaffpmcgfhaaaDoor.utfR
open utfP utfQ

def ptsF : Nat → List UInt8 → Option (List Nat)
  | 0, l => if l = [] then some [] else none
  | n + 1, l => if l = [] then some [] else if (dec l).2 = 0 then none else (ptsF n (l.drop (dec l).2)).map ((dec l).1 :: ·)
/-- a text's code points; none: it is no code points' -/
def pts (l : List UInt8) : Option (List Nat) := ptsF l.length l

theorem dec_le {l : List UInt8} : (dec l).2 ≤ l.length := by
  by_cases h : 0 < (dec l).2
  · obtain ⟨k, _, _, ho, e⟩ := dec_sound h
    rw [e]; exact ho.1
  · omega

theorem ptsF_nil (n : Nat) : ptsF n [] = some [] := by cases n <;> simp [ptsF]
theorem ptsF_more : ∀ (n m : Nat) (l : List UInt8), l.length ≤ n → l.length ≤ m → ptsF n l = ptsF m l := by
  intro n
  induction n with
  | zero =>
    intro m l h _
    have : l = [] := by cases l with
      | nil => rfl
      | cons a t => simp at h
    subst this; rw [ptsF_nil, ptsF_nil]
  | succ n ih =>
    intro m l h hm
    by_cases e : l = []
    · subst e; rw [ptsF_nil, ptsF_nil]
    · cases m with
      | zero => have : l.length = 0 := by omega
                exact absurd (List.length_eq_zero_iff.1 this) e
      | succ m =>
        simp only [ptsF]
        rw [if_neg e, if_neg e]
        by_cases z : (dec l).2 = 0
        · rw [if_pos z, if_pos z]
        · rw [if_neg z, if_neg z, ih m _ (by rw [List.length_drop]; omega) (by rw [List.length_drop]; omega)]
theorem pts_nil : pts [] = some [] := rfl
theorem pts_step {l : List UInt8} (h : l ≠ []) : pts l = if (dec l).2 = 0 then none else (pts (l.drop (dec l).2)).map ((dec l).1 :: ·) := by
  unfold pts
  cases hl : l.length with
  | zero => exact absurd (List.length_eq_zero_iff.1 hl) h
  | succ n =>
    simp only [ptsF]
    rw [if_neg h]
    by_cases z : (dec l).2 = 0
    · rw [if_pos z, if_pos z]
    · rw [if_neg z, if_neg z, ptsF_more n (l.drop (dec l).2).length _ (by rw [List.length_drop]; omega) (Nat.le_refl _)]
theorem pts_no {l : List UInt8} (h : l ≠ []) (z : (dec l).2 = 0) : pts l = none := by rw [pts_step h, if_pos z]
theorem pts_yes {l : List UInt8} (h : l ≠ []) (z : (dec l).2 ≠ 0) : pts l = (pts (l.drop (dec l).2)).map ((dec l).1 :: ·) := by rw [pts_step h, if_neg z]

theorem decodeL_pos (l : List UInt8) : 1 ≤ (Lib.decodeL l).2 := by
  rw [dcd_eq]; unfold Lib.decodeN
  repeat' split
  all_goals dsimp only
  all_goals omega
theorem dec_zero {l : List UInt8} (h : l ≠ []) : (dec l).2 = 0 ↔ ((Lib.decodeL l).1 = 65533 ∧ (Lib.decodeL l).2 = 1) := by
  have hp := decodeL_pos l
  unfold dec
  by_cases c : (Lib.decodeL l).1 = 65533 ∧ (Lib.decodeL l).2 < 2
  · rw [if_pos (Or.inr c)]; simp only [true_iff]; omega
  · rw [if_neg (by rintro (x | x); exact h x; exact c x)]; omega
theorem dec_decodeL {l : List UInt8} (z : (dec l).2 ≠ 0) : Lib.decodeL l = dec l := by
  unfold dec at *
  split at z
  · exact absurd rfl z
  · rename_i c; rw [if_neg c]

theorem valid_pts : ∀ (n : Nat) (l : List UInt8), l.length ≤ n → Lib.validGoD n l = (ptsF n l).isSome := by
  intro n
  induction n with
  | zero =>
    intro l h
    have : l = [] := by cases l with
      | nil => rfl
      | cons a t => simp at h
    subst this; rfl
  | succ n ih =>
    intro l h
    simp only [Lib.validGoD, ptsF]
    by_cases e : l = []
    · rw [if_pos e, if_pos e]; rfl
    · rw [if_neg e, if_neg e]
      by_cases z : (dec l).2 = 0
      · rw [if_pos z, if_pos ((dec_zero e).1 z)]; rfl
      · rw [if_neg z, if_neg (fun x => z ((dec_zero e).2 x)), dec_decodeL z, ih _ (by rw [List.length_drop]; omega), Option.isSome_map]
theorem valid_eq (l : List UInt8) : Lib.validD l = (pts l).isSome := valid_pts _ l (Nat.le_refl _)

end Go.Proofs.YtjcaffpmcgfhaaaDoor.utfR
