/-
  Contracts: the reference's Points; SameInts on two lists.
-/
import Derived.Test.YtdbidkfjbhclcaaDoorRunesE
import Derived.Test.YtdbidkfjbhclcaaDoorUtfR
import Derived.WalkSmall
import Derived.Lib.OthersKept
namespace Go.Proofs.YtdbidkfjbhclcaaDoor.pointsA
open Go.ChangeShapes Go.WideShapes Go.ChangeAt Go.RowKit utfP utfQ utfR runesA runesD runesE

theorem infoI : (Tryd.prog.info? 3).map (fun i => (i.zero, i.size, i.bytes)) = some (some (.int .i64 0), 1, 8) := by kernel_rfl

def iv (n : Nat) : Value := .int .i64 (n : Int)
/-- a slice of the call's own that holds numbers -/
def OwnI (w : World) (B : Nat) (v : Value) (l : List Nat) : Prop := w.ownsRow B 3 1 v l.length (l.map iv)

theorem ownI_lt {w : World} {B : Nat} {v : Value} {l : List Nat} (h : OwnI w B v l) : ∀ k, v.ownBlock = some k → B ≤ k := fun k hk => (World.ownsRow.lt h k hk).1
theorem ownI_snoc {w : World} {B : Nat} {v : Value} {l : List Nat} {n : Nat} (h : w.ownsRow B 3 1 v (l.length + 1) ((l.map iv) ++ [iv n])) : OwnI w B v (l ++ [n]) := by
  unfold OwnI; rw [List.length_append, List.map_append]; exact h
theorem ownI_kept {w w' : World} {B : Nat} {v : Value} {l : List Nat} (h : OwnI w B v l) (hb : Below w.heap.size w w') : OwnI w' B v l := by
  refine World.ownsRow.kept h (row := none) ?_ (Classical.em _)
  exact ⟨hb.os, hb.tape, hb.output, hb.size, fun k hk _ => hb.block k hk⟩

theorem pts_go {l : List UInt8} {k : Nat} {done : List Nat} (h : k < l.length) (z : (dec (l.drop k)).2 ≠ 0) (hp : pts l = (pts (l.drop k)).map (done ++ ·)) :
    pts l = (pts (l.drop (k + (dec (l.drop k)).2))).map ((done ++ [(dec (l.drop k)).1]) ++ ·) := by
  have hne : l.drop k ≠ [] := by rw [ne_eq, List.drop_eq_nil_iff]; omega
  rw [hp, pts_yes hne z, List.drop_drop]
  cases pts (l.drop (k + (dec (l.drop k)).2)) <;> simp
theorem pts_stop {l : List UInt8} {k : Nat} {done : List Nat} (h : k < l.length) (z : (dec (l.drop k)).2 = 0) (hp : pts l = (pts (l.drop k)).map (done ++ ·)) : pts l = none := by
  have hne : l.drop k ≠ [] := by rw [ne_eq, List.drop_eq_nil_iff]; omega
  rw [hp, pts_no hne z]; rfl
theorem pts_end {l : List UInt8} {k : Nat} {done : List Nat} (h : ¬ k < l.length) (hp : pts l = (pts (l.drop k)).map (done ++ ·)) : pts l = some done := by
  rw [hp, List.drop_eq_nil_of_le (by omega), pts_nil]; simp
theorem dec_bd {l : List UInt8} : (dec l).1 ≤ 1114111 ∧ (dec l).2 ≤ 4 := by
  by_cases h : 0 < (dec l).2
  · obtain ⟨k, h1, h4, ho, e⟩ := dec_sound h
    have := ho.2.1.2.1
    rw [e]; exact ⟨by dsimp only; omega, h4⟩
  · unfold dec at *
    split
    · exact ⟨Nat.zero_le _, Nat.zero_le _⟩
    · rename_i c; rw [if_neg c] at h; have := decodeL_pos l; omega

/-- what Points hands back -/
def PtsPost (w : World) (l : List UInt8) (e : Ending) (w' : World) : Prop :=
  Below w.heap.size w w' ∧ ((pts l = none ∧ e = .returned (.tuple #[.slice none 0 0, .bool false])) ∨ ∃ (d : List Nat) (v : Value), pts l = some d ∧ OwnI w' w.heap.size v d ∧ d.length ≤ l.length ∧ e = .returned (.tuple #[v, .bool true]))

end Go.Proofs.YtdbidkfjbhclcaaDoor.pointsA
