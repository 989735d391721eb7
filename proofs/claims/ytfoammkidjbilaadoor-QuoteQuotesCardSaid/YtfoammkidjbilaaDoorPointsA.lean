/-
  Contracts: the reference's Points; SameInts on two lists.
-/
import Derived.Test.YtfoammkidjbilaaDoorRunesE
import Derived.Test.YtfoammkidjbilaaDoorUtfR
import Derived.WalkSmall
import Derived.Lib.OthersKept
namespace Go.Proofs.YtfoammkidjbilaaDoor.pointsA
open Go.ChangeShapes Go.WideShapes Go.ChangeAt Go.RowKit utfP utfQ utfR runesA runesD runesE

theorem infoI : (Tryd.prog.info? 3).map (fun i => (i.zero, i.size, i.bytes)) = some (some (.int .i64 0), 1, 8) := by kernel_rfl

def iv (n : Nat) : Value := .int .i64 (n : Int)
/-- a slice of the call's own that holds numbers -/
def OwnI (w : World) (B : Nat) (v : Value) (l : List Nat) : Prop := w.ownsRow B 3 1 v l.length (l.map iv)

theorem ownI_lt {w : World} {B : Nat} {v : Value} {l : List Nat} (h : OwnI w B v l) : ∀ k, v.ownBlock = some k → B ≤ k := fun k hk => (World.ownsRow.lt h k hk).1
theorem ownI_snoc {w : World} {B : Nat} {v : Value} {l : List Nat} {n : Nat} (h : w.ownsRow B 3 1 v (l.length + 1) ((l.map iv) ++ [iv n])) : OwnI w B v (l ++ [n]) := by
  unfold OwnI; rw [List.length_append, List.map_append]; exact h
theorem ownI_kept {w w' : World} {B : Nat} {v : Value} {l : List Nat} (h : OwnI w B v l) (hb : Below w.heap.size w w') : OwnI w' B v l := by
  refine World.ownsRow.kept h (row := none) ?_ (Classical.em _)
  exact ⟨hb.os, hb.tape, hb.output, hb.size, fun k hk _ => hb.block k hk⟩

theorem pts_go {l : List UInt8} {k : Nat} {done : List Nat} (h : k < l.length) (z : (dec (l.drop k)).2 ≠ 0) (hp : pts l = (pts (l.drop k)).map (done ++ ·)) :
    pts l = (pts (l.drop (k + (dec (l.drop k)).2))).map ((done ++ [(dec (l.drop k)).1]) ++ ·) := by
  have hne : l.drop k ≠ [] := by rw [ne_eq, List.drop_eq_nil_iff]; omega
  rw [hp, pts_yes hne z, List.drop_drop]
  cases pts (l.drop (k + (dec (l.drop k)).2)) <;> simp
theorem pts_stop {l : List UInt8} {k : Nat} {done : List Nat} (h : k < l.length) (z : (dec (l.drop k)).2 = 0) (hp : pts l = (pts (l.drop k)).map (done ++ ·)) : pts l = none := by
  have hne : l.drop k ≠ [] := by rw [ne_eq, List.drop_eq_nil_iff]; omega
  rw [hp, pts_no hne z]; rfl
theorem pts_end {l : List UInt8} {k : Nat} {done : List Nat} (h : ¬ k < l.length) (hp : pts l = (pts (l.drop k)).map (done ++ ·)) : pts l = some done := by
  rw [hp, List.drop_eq_nil_of_le (by omega), pts_nil]; simp
theorem dec_bd {l : List UInt8} : (dec l).1 ≤ 1114111 ∧ (dec l).2 ≤ 4 := by
  by_cases h : 0 < (dec l).2
  · obtain ⟨k, h1, h4, ho, e⟩ := dec_sound h
    have := ho.2.1.2.1
    rw [e]; exact ⟨by dsimp only; omega, h4⟩
  · unfold dec at *
    split
    · exact ⟨Nat.zero_le _, Nat.zero_le _⟩
    · rename_i c; rw [if_neg c] at h; have := decodeL_pos l; omega

/-- what Points hands back -/
def PtsPost (w : World) (l : List UInt8) (e : Ending) (w' : World) : Prop :=
  Below w.heap.size w w' ∧ ((pts l = none ∧ e = .returned (.tuple #[.slice none 0 0, .bool false])) ∨ ∃ (d : List Nat) (v : Value), pts l = some d ∧ OwnI w' w.heap.size v d ∧ d.length ≤ l.length ∧ e = .returned (.tuple #[v, .bool true]))

set_option maxRecDepth 100000 in
theorem refPoints (s : ByteArray) (w : World) (hs : s.size ≤ 100000) :
    Calls Tryd.prog 14 #[.string s] w (PtsPost w s.data.toList) := by
  obtain ⟨i0, hi, hz0, hz1, hz2⟩ := info_parts infoI
  go_enter Tryd.func14, Tryd.ntmps14
  go_wp2
  go_loopw [4, 5] (fun v i wr => ∃ (k : Nat) (d : List Nat), k ≤ s.size ∧ d.length ≤ k ∧ i = .int .i64 k ∧ OwnI wr w.heap.size v d ∧ Below w.heap.size w wr ∧ Hid (pts s.data.toList = (pts (s.data.toList.drop k)).map (d ++ ·))) (fun _ i _ => s.size - (intOf i).toNat)
  case atStart => exact ⟨0, [], Nat.zero_le _, Nat.le_refl _, rfl, World.ownsRow_lit w #[] 0 (Nat.le_refl _) (Nat.zero_le _) rfl, (Below.refl _ _).alloc (Nat.le_refl _) _, Lib.hid (by rw [List.drop_zero]; cases pts s.data.toList <;> simp)⟩
  case round =>
    obtain ⟨k, d, hk, hd, rfl, hown, hb, hp⟩ := hrel
    have hlt' := ownI_lt hown
    have hsz := hb.size
    by_cases hlt : k < s.size
    · have hdb := dec_bd (l := s.data.toList.drop k)
      have hdl := dec_le (l := s.data.toList.drop k)
      rw [List.length_drop, Array.length_toList, ByteArray.size_data] at hdl
      have h2 := refdec_at s k wr (by unfold maxLen; omega) hlt
      unfold decP at h2
      have hgo := Lib.hid (fun z => pts_go (l := s.data.toList) (k := k) (done := d) (by simpa using hlt) z hp.out)
      have hst := Lib.hid (fun z => pts_stop (l := s.data.toList) (k := k) (done := d) (by simpa using hlt) z hp.out)
      generalize dec (s.data.toList.drop k) = q at *
      obtain ⟨a, b⟩ := q
      simp only at h2 hgo hst hdb hdl
      have H2 := Lib.hid h2
      have HO := Lib.hid hown
      have HB := Lib.hid hb
      have HL := Lib.hid hlt'
      have ha : (a : Int) ≤ 1114111 := by omega
      have hb4 := hdb.2
      clear h2 hown hb hlt' hdb hp
      by_cases hz : b = 0
      · have q1 : ((b : Int) == 0) = true := by rw [hz]; rfl
        have hN := Lib.hid (hst.out hz)
        clear hz hgo hst
        go_wp2_with fail
        refine H2.out.mono ?_
        rintro e w1 ⟨rfl, hb1⟩
        have HB1 := Lib.hid hb1
        clear hb1
        go_wp2
        go_ret2
        exact ⟨HB.out.trans (HB1.out.mono hsz), Or.inl ⟨hN.out, rfl⟩⟩
      · have q1 : ((b : Int) == 0) = false := by rw [beq_eq_false_iff_ne]; omega
        have hN := Lib.hid (hgo.out hz)
        have hb1 : 1 ≤ b := by omega
        clear hz hgo hst
        go_wp2_with fail
        refine H2.out.mono ?_
        rintro e w1 ⟨rfl, hb1⟩
        have hown1 := ownI_kept HO.out hb1
        have HB1 := Lib.hid (HB.out.trans (hb1.mono hsz))
        have hsz1 := HB1.out.size
        clear hb1
        go_wp2_with (at_builtin; refine wpList_append_own _ rfl _ _ 24 rfl w.heap.size 3 i0 (.int .i64 0) 1 8 Tryd.underlying24 hi hz0 hz1 hz2 rfl (by decide) _ _ _ rfl (World.ownsRow.alloc hown1 _) ⟨w1.heap.size, 0, none⟩ 1 1 [iv a] rfl rfl ?c1 ?c2 ?c3 ?c4 ?c5 ?_)
        case c1 => exact cell_one_new _ _ _
        case c2 => intro u hu; simp at hu; subst hu; rfl
        case c3 => unfold maxLen; omega
        case c4 => omega
        case c5 => simp; omega
        intro v' w2 hown2 hgr2 _
        have HO2 := Lib.hid (ownI_snoc hown2)
        have HB2 := Lib.hid ((HB1.out.alloc hsz1 _).grown hgr2 (by simp; omega) HL.out)
        clear hown1 hown2 hgr2
        go_wp2
        go_roundw
        case rel => exact ⟨k + b, d ++ [a], by omega, by simp; omega, by go_num, HO2.out, HB2.out, hN⟩
        case measure => simp [intOf]; omega
    · have hN := Lib.hid (pts_end (l := s.data.toList) (k := k) (done := d) (by simpa using hlt) hp.out)
      have HO := Lib.hid hown
      have HB := Lib.hid hb
      clear hown hb hp
      go_wp2
      go_ret2
      exact ⟨HB.out, Or.inr ⟨d, _, hN.out, HO.out, by simp; omega, rfl⟩⟩

end Go.Proofs.YtfoammkidjbilaaDoor.pointsA
