/-
  Contracts: runes.Valid and runes.Points.
-/
import Derived.Test.YtlbmoefafkmmoabDoorPointsA
namespace Go.Proofs.YtlbmoefafkmmoabDoor.pointsB
open Go.ChangeShapes Go.WideShapes Go.ChangeAt Go.RowKit utfP utfQ utfR runesA runesD runesE pointsA

theorem valid_any (s : ByteArray) (w : World) (hs : s.size ≤ maxLen) (hT : Tabs w) :
    Calls Tryd.prog 19 #[.string s] w fun e w' => e = .returned (.bool (pts s.data.toList).isSome) ∧ Below w.heap.size w w' := by
  unfold maxLen at hs
  have h1 := Tryd.utf8_ValidString s w (by omega) hT
  rw [valid_eq] at h1
  have H1 := Lib.hid h1
  clear h1 hT
  go_enter Tryd.func19, Tryd.ntmps19
  go_wp2_with (go_at_call 25; refine H1.out.mono ?_; rintro e w' ⟨rfl, hb⟩)
  go_ret
  exact ⟨rfl, by assumption⟩
theorem valid_is (s : ByteArray) (b : Bool) (hb : (pts s.data.toList).isSome = b) (w : World) (hs : s.size ≤ maxLen) (hT : Tabs w) :
    Calls Tryd.prog 19 #[.string s] w fun e w' => e = .returned (.bool b) ∧ Below w.heap.size w w' := by
  subst hb; exact valid_any s w hs hT

theorem own_iterAt {w : World} {B : Nat} {v : Value} {l : List Nat} (h : OwnI w B v l) {k p p' : Nat} {s : ByteArray} (hk : w.heap[k]? = some (.stringIter s p)) : OwnI (w.iterAt k s p') B v l := by
  refine ⟨h.1, ?_⟩
  rcases h.2 with hn | ⟨g, cap, cur, rfl, hb, hgg, rest⟩
  · exact .inl hn
  · refine .inr ⟨g, cap, cur, rfl, hb, ?_, rest⟩
    rw [Lib.iterAt_other w k g s p' (by rintro rfl; rw [hk] at hgg; cases hgg)]; exact hgg

theorem own_ne {w : World} {B : Nat} {v : Value} {l : List Nat} (h : OwnI w B v l) {k p : Nat} {s : ByteArray} (hk : w.heap[k]? = some (.stringIter s p)) : some k ≠ v.ownBlock := by
  intro e
  rcases h.2 with ⟨rfl, _⟩ | ⟨g, cap, cur, rfl, hb, hgg, rest⟩
  · cases e
  · have : k = g := by simpa [Value.ownBlock] using e
    subst this; rw [hk] at hgg; cases hgg
theorem iter_grown {w w' : World} {v : Value} {k p : Nat} {s : ByteArray} {o : Obj} (hk : w.heap[k]? = some (.stringIter s p)) (hne : some k ≠ v.ownBlock) (hg : (w.alloc o).grownBy w' v.ownBlock) : w'.heap[k]? = some (.stringIter s p) := by
  have hlt : k < w.heap.size := (Array.getElem?_eq_some_iff.1 hk).1
  rw [hg.block k (by simp; omega) hne, Below.heap_alloc w o k hlt]; exact hk

theorem pts_pos {l : List UInt8} {k : Nat} {d full : List Nat} (h : k < l.length) (hf : pts l = some full) (hp : pts l = (pts (l.drop k)).map (d ++ ·)) : (dec (l.drop k)).2 ≠ 0 := by
  intro z
  rw [pts_stop h z hp] at hf; cases hf
theorem decode_dec {s : ByteArray} {k : Nat} (z : (dec (s.data.toList.drop k)).2 ≠ 0) : Utf8.decode s k = dec (s.data.toList.drop k) := by
  rw [← Lib.decodeL_drop, dec_decodeL z]

set_option maxRecDepth 100000 in
theorem points_some (s : ByteArray) (w : World) (hs : s.size ≤ 100000) (hT : Tabs w) (full : List Nat) (hf : pts s.data.toList = some full) :
    Calls Tryd.prog 10 #[.string s] w (PtsPost w s.data.toList) := by
  obtain ⟨i0, hi, hz0, hz1, hz2⟩ := info_parts infoI
  have hcl : Lib.runeCount s ≤ s.size := Lib.runeCount_le s
  have HV := Lib.hid (valid_is s true (by rw [hf]; rfl) w (by unfold maxLen; omega) hT)
  have HC := Lib.hid (fun w => Tryd.utf8_RuneCountInString s w (by omega))
  have HF := Lib.hid hf
  generalize Lib.runeCount s = c at *
  clear hf hT
  go_enter Tryd.func10, Tryd.ntmps10
  go_wp2_with fail
  refine HV.out.mono ?_
  rintro e w1 ⟨rfl, hb1⟩
  have HB1 := Lib.hid hb1
  have hz1' := hb1.size
  clear hb1
  go_wp2_with fail
  refine (HC.out _).mono ?_
  rintro e w2 ⟨rfl, pos, hw2⟩
  have HB2 : Hid (Below w.heap.size w w2) := Lib.hid (by rw [hw2]; exact HB1.out.alloc hz1' _)
  have hz2' := HB2.out.size
  clear hw2
  go_wp2_with (at_make; refine wpList_make_own _ rfl _ _ 22 rfl w.heap.size 3 i0 (.int .i64 0) 1 Tryd.underlying22 hi hz0 hz1 .i64 .i64 _ c rfl rfl rfl ?c1 ?c2 ?c3 ?_)
  case c1 => rw [hz2]; omega
  case c2 => unfold maxLen; omega
  case c3 => omega
  intro w3 hown3 hgr3
  have HB3 := Lib.hid (HB2.out.grown hgr3 hz2' (by intro k hk; cases hk))
  have hz3' := HB3.out.size
  have HO3 : Hid (OwnI w3 w.heap.size (.slice (some ⟨w2.heap.size, 0, none⟩) 0 c) []) := Lib.hid hown3
  clear hown3 hgr3
  go_wp2
  go_loopw [4] (fun v wr => ∃ (k : Nat) (d : List Nat), k ≤ s.size ∧ d.length ≤ k ∧ wr.heap[w3.heap.size]? = some (.stringIter s k) ∧ OwnI wr w.heap.size v d ∧ Below w.heap.size w wr ∧ Hid (pts s.data.toList = (pts (s.data.toList.drop k)).map (d ++ ·))) (fun _ wr => s.size - wr.iterPos w3.heap.size)
  case atStart => exact ⟨0, [], Nat.zero_le _, Nat.le_refl _, World.iter_heap _ _ _, World.ownsRow.alloc HO3.out _, HB3.out.alloc hz3' _, Lib.hid (by rw [List.drop_zero]; cases pts s.data.toList <;> simp)⟩
  case round =>
    obtain ⟨k, d, hk, hd, hit, hown, hb, hp⟩ := hrel
    have hlt' := ownI_lt hown
    have hsz := hb.size
    have hpos := iterPos_of hit
    by_cases hlt : k < s.size
    · have hz := pts_pos (by simpa using hlt) HF.out hp.out
      have hdb := dec_bd (l := s.data.toList.drop k)
      have hdl := dec_le (l := s.data.toList.drop k)
      rw [List.length_drop, Array.length_toList, ByteArray.size_data] at hdl
      have hnx := fun ty => Lib.run_next_any_at (P := Tryd.prog) wr w3.heap.size s k ty hit hlt
      rw [decode_dec hz] at hnx
      have hN := Lib.hid (pts_go (l := s.data.toList) (k := k) (done := d) (by simpa using hlt) hz hp.out)
      generalize dec (s.data.toList.drop k) = q at *
      obtain ⟨a, b⟩ := q
      simp only at hnx hN hdb hdl hz
      have hownW := own_iterAt (p' := k + b) hown hit
      have hitW := Lib.iterAt_heap wr w3.heap.size s k (k + b) hit
      have hbW := Lib.below_iterAt hb (k := w3.heap.size) (by omega) s (k + b)
      have hszW := hbW.size
      generalize wr.iterAt w3.heap.size s (k + b) = W at *
      have HiW := Lib.hid hitW
      have HbW := Lib.hid hbW
      have HP := Lib.hid hpos
      have ha : (a : Int) ≤ 1114111 := by omega
      have HL := Lib.hid hlt'
      clear hown hb hlt' hitW hbW hpos hdb hp
      have hkb : k + b ≤ s.size := by omega
      go_wp2_with (at_builtin; refine wpList_append_own _ rfl _ _ 22 rfl w.heap.size 3 i0 (.int .i64 0) 1 8 Tryd.underlying22 hi hz0 hz1 hz2 rfl (by decide) _ _ _ rfl (World.ownsRow.alloc hownW _) ⟨W.heap.size, 0, none⟩ 1 1 [iv a] rfl rfl ?c1 ?c2 ?c3 ?c4 ?c5 ?_)
      case c1 => exact cell_one_new _ _ _
      case c2 => intro u hu; simp at hu; subst hu; rfl
      case c3 => unfold maxLen; omega
      case c4 => omega
      case c5 => simp; omega
      intro v' w2 hown2 hgr2 _
      have HO2 := Lib.hid (ownI_snoc hown2)
      have HB2 := Lib.hid ((HbW.out.alloc hszW _).grown hgr2 (by simp; omega) HL.out)
      have HI2 := Lib.hid (iter_grown HiW.out (own_ne hownW HiW.out) hgr2)
      have HP2 := Lib.hid (iterPos_of HI2.out)
      clear hownW hown2 hgr2
      go_wp2
      go_roundw
      case rel => exact ⟨k + b, d ++ [a], by omega, by simp; omega, HI2.out, HO2.out, HB2.out, hN⟩
      case measure => rw [HP2.out, HP.out]; omega
    · have hN := Lib.hid (pts_end (l := s.data.toList) (k := k) (done := d) (by simpa using hlt) hp.out)
      have HO := Lib.hid hown
      have HB := Lib.hid hb
      have hnx := fun ty => Lib.run_next_end_at (P := Tryd.prog) wr w3.heap.size s k ty hit hlt
      clear hown hb hp hpos hit
      go_wp2
      go_ret2
      exact ⟨HB.out, Or.inr ⟨d, _, hN.out, HO.out, by simp; omega, rfl⟩⟩

theorem points_none (s : ByteArray) (w : World) (hs : s.size ≤ 100000) (hT : Tabs w) (hf : pts s.data.toList = none) :
    Calls Tryd.prog 10 #[.string s] w (PtsPost w s.data.toList) := by
  have HV := Lib.hid (valid_is s false (by rw [hf]; rfl) w (by unfold maxLen; omega) hT)
  have HF := Lib.hid hf
  clear hf hT
  go_enter Tryd.func10, Tryd.ntmps10
  go_wp2_with fail
  refine HV.out.mono ?_
  rintro e w1 ⟨rfl, hb1⟩
  have HB1 := Lib.hid hb1
  clear hb1
  go_wp2
  go_ret2
  exact ⟨HB1.out, Or.inl ⟨HF.out, rfl⟩⟩

theorem points_any (s : ByteArray) (w : World) (hs : s.size ≤ 100000) (hT : Tabs w) :
    Calls Tryd.prog 10 #[.string s] w (PtsPost w s.data.toList) := by
  cases hf : pts s.data.toList with
  | none => exact points_none s w hs hT hf
  | some full => exact points_some s w hs hT full hf

end Go.Proofs.YtlbmoefafkmmoabDoor.pointsB
