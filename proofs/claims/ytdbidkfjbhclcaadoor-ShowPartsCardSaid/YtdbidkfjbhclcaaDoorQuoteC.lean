/-
  Contracts of quote.Quote and quote.Safe; of haversacklaw03.alive.
-/
import Derived.Test.YtdbidkfjbhclcaaDoorQuoteB
import Derived.Test.YtdbidkfjbhclcaaDoorPointsB
namespace Go.Proofs.YtdbidkfjbhclcaaDoor.quoteC
open Go.ChangeShapes Go.WideShapes Go.ChangeAt Go.RowKit utfP utfQ utfR runesA runesC runesD runesE quoteP quoteA quoteB errIs errs pointsB

/-- what is written when k bytes are done -/
def qw (l : List UInt8) (k : Nat) : List UInt8 := 34 :: (l.take k).flatMap qB
theorem qw_len (l : List UInt8) (k : Nat) : (qw l k).length ≤ 6 * k + 1 := by
  unfold qw
  have := (flat_len (l.take k)).2
  have := List.length_take_le k l
  rw [List.length_cons]; omega
theorem take_go (s : ByteArray) (k : Nat) (h : k < s.size) : s.data.toList.take (k + 1) = s.data.toList.take k ++ [s[k]] := by
  rw [List.take_succ_eq_append_getElem (by simpa using h)]; rfl
theorem qw_go (s : ByteArray) (k : Nat) (h : k < s.size) : qw s.data.toList (k + 1) = qw s.data.toList k ++ qB s[k] := by
  unfold qw; rw [take_go s k h, List.flatMap_append]; simp
theorem qw_all (l : List UInt8) (k : Nat) (h : ¬ k < l.length) : qw l k ++ [34] = qt l := by
  unfold qw qt; rw [List.take_of_length_le (by omega)]; rfl
theorem cells1 (l : List UInt8) (c : UInt8) : Lib.byteCells l ++ [.int .u8 (c.toNat : Int)] = Lib.byteCells (l ++ [c]) := by rw [Lib.byteCells_append]; rfl
theorem cellsE (l : List UInt8) (c : UInt8) : Lib.byteCells l ++ Lib.strCells (escS c) = Lib.byteCells (l ++ esc c.toNat) := by rw [Lib.strCells_eq, Lib.byteCells_append]; rfl
theorem esc_nil {c : UInt8} (h : esc c.toNat = []) : (escS c).toList.isEmpty = true := by rw [toL]; unfold escS; rw [h]; rfl
theorem esc_not {c : UInt8} (h : esc c.toNat ≠ []) : (escS c).toList.isEmpty = false := by
  rw [toL]; unfold escS; simpa using h
theorem qB_one {c : UInt8} (h : esc c.toNat = []) : qB c = [c] := by unfold qB; rw [if_pos h]
theorem qB_esc {c : UInt8} (h : esc c.toNat ≠ []) : qB c = esc c.toNat := by unfold qB; rw [if_neg h]

def qtV (ad : Nat → Addr) (l : List UInt8) : Value := if (pts l).isSome = true then .tuple #[.string ⟨(qt l).toArray⟩, .nilIface] else .tuple #[.string ⟨#[]⟩, ev (ad 0)]

theorem quote_no (s : ByteArray) (w : World) (ad : Nat → Addr) (hs : s.size ≤ 100000) (hT : Tabs w) (hE : Syn w ad) (hv : (pts s.data.toList).isSome = false) :
    Calls Tryd.prog 48 #[.string s] w fun e w' => e = .returned (qtV ad s.data.toList) ∧ Below w.heap.size w w' := by
  have HV := Lib.hid (valid_is s false hv w (by unfold maxLen; omega) hT)
  have hr : Hid (qtV ad s.data.toList = .tuple #[.string ⟨#[]⟩, ev (ad 0)]) := Lib.hid (by unfold qtV; rw [hv]; rfl)
  have HE := Lib.hid hE
  clear hT hE hv
  go_enter Tryd.func48, Tryd.ntmps48
  go_wp2_with fail
  refine HV.out.mono ?_
  rintro e w1 ⟨rfl, hb1⟩
  have HB1 := Lib.hid hb1
  have hg : w1.cell? ⟨2, 0, none⟩ = some (ev (ad 0)) := syn_below HE.out hb1
  clear hb1
  go_wp2
  go_quiet (fail)
  go_wp2
  go_ret2
  exact ⟨by rw [hr.out]; rfl, below_drewN HB1.out _⟩

set_option maxRecDepth 100000 in
theorem quote_yes (s : ByteArray) (w : World) (ad : Nat → Addr) (hs : s.size ≤ 100000) (hT : Tabs w) (hC : Ctl w) (hv : (pts s.data.toList).isSome = true) :
    Calls Tryd.prog 48 #[.string s] w fun e w' => e = .returned (qtV ad s.data.toList) ∧ Below w.heap.size w w' := by
  have HV := Lib.hid (valid_is s true hv w (by unfold maxLen; omega) hT)
  have hr : Hid (qtV ad s.data.toList = .tuple #[.string ⟨(qt s.data.toList).toArray⟩, .nilIface]) := Lib.hid (by unfold qtV; rw [if_pos hv])
  have HC := Lib.hid hC
  clear hT hv hC
  go_enter Tryd.func48, Tryd.ntmps48
  go_wp2_with fail
  refine HV.out.mono ?_
  rintro e w1 ⟨rfl, hb1⟩
  have HB1 := Lib.hid hb1
  have hz1 := hb1.size
  clear hb1
  have HW0 := Lib.hid (Tryd.Builder_WriteByte_k w1.heap.size w1.heap.size (Lib.byteCells []) 34 _ (new_builder w1 _ rfl) (by decide) (by simp))
  go_wp2_with fail
  refine HW0.out.mono ?_
  rintro e w2 ⟨rfl, hbd2, hb2, _⟩
  have HBd2 : Hid (IsB w1.heap.size w1.heap.size (qw s.data.toList 0) w2) := Lib.hid (Or.inr hbd2)
  have HB2 := Lib.hid (((Below.refl w1.heap.size w1).alloc (Nat.le_refl _) _).trans hb2)
  have hz2 := HB2.out.size
  clear hbd2 hb2
  go_wp2
  go_loopw [14] (fun i wr => ∃ k : Nat, k ≤ s.size ∧ i = .int .i64 k ∧ IsB w1.heap.size w1.heap.size (qw s.data.toList k) wr ∧ Below w1.heap.size w1 wr) (fun i _ => s.size - (intOf i).toNat)
  case atStart => exact ⟨0, Nat.zero_le _, rfl, HBd2.out, HB2.out⟩
  case round =>
    obtain ⟨k, hk, rfl, hB, hb⟩ := hrel
    have hsz := hb.size
    have HBd := Lib.hid hB
    have HB := Lib.hid hb
    have hl6 := qw_len s.data.toList k
    clear hB hb
    by_cases hlt : k < s.size
    · have HCr := Lib.hid (ctl_below (ctl_below HC.out HB1.out) HB.out)
      have hgo := Lib.hid (qw_go s k hlt)
      by_cases he : esc s[k].toNat = []
      · have q1 := esc_nil he
        have hN : Hid (qw s.data.toList (k + 1) = qw s.data.toList k ++ [s[k]]) := Lib.hid (by rw [hgo.out, qB_one he])
        have HW := Lib.hid (Tryd.Builder_WriteByte_k w1.heap.size w1.heap.size (Lib.byteCells (qw s.data.toList k)) (s[k].toNat : Int) wr HBd.out (by rw [Lib.byteCells_length]; omega) hsz)
        clear he hgo
        go_wp2_with fail
        refine (escaped_any _ _ HCr.out).mono ?_
        rintro e w' ⟨rfl, rfl⟩
        go_wp2_with fail
        refine HW.out.mono ?_
        rintro e w3 ⟨rfl, hbd3, hb3, _⟩
        rw [cells1, ← hN.out] at hbd3
        have HBd3 := Lib.hid hbd3
        have HB3 := Lib.hid (HB.out.trans hb3)
        clear hbd3 hb3
        go_wp2
        go_roundw
        case rel => exact ⟨k + 1, by omega, by go_num, Or.inr HBd3.out, HB3.out⟩
        case measure => simp [intOf]; omega
      · have q1 := esc_not he
        have hN : Hid (qw s.data.toList (k + 1) = qw s.data.toList k ++ esc s[k].toNat) := Lib.hid (by rw [hgo.out, qB_esc he])
        have hel := (esc_len _ he).2
        have hes : (escS s[k]).size ≤ 6 := by unfold escS; show (esc s[k].toNat).toArray.size ≤ 6; simpa using hel
        have HW := Lib.hid (Tryd.Builder_WriteString_k w1.heap.size w1.heap.size (Lib.byteCells (qw s.data.toList k)) (escS s[k]) wr HBd.out (by rw [Lib.byteCells_length]; omega) hsz)
        clear he hgo
        go_wp2_with fail
        refine (escaped_any _ _ HCr.out).mono ?_
        rintro e w' ⟨rfl, rfl⟩
        go_wp2_with fail
        refine HW.out.mono ?_
        rintro e w3 ⟨rfl, hbd3, hb3, _⟩
        rw [cellsE, ← hN.out] at hbd3
        have HBd3 := Lib.hid hbd3
        have HB3 := Lib.hid (HB.out.trans hb3)
        clear hbd3 hb3
        go_wp2
        go_roundw
        case rel => exact ⟨k + 1, by omega, by go_num, Or.inr HBd3.out, HB3.out⟩
        case measure => simp [intOf]; omega
    · have hN := Lib.hid (qw_all s.data.toList k (by simpa using hlt))
      have HW := Lib.hid (Tryd.Builder_WriteByte_k w1.heap.size w1.heap.size (Lib.byteCells (qw s.data.toList k)) 34 wr HBd.out (by rw [Lib.byteCells_length]; omega) hsz)
      go_wp2_with fail
      refine HW.out.mono ?_
      rintro e w3 ⟨rfl, hbd3, hb3, _⟩
      have hbd3' := cells1 (qw s.data.toList k) 34
      rw [show ((34 : UInt8).toNat : Int) = 34 from rfl] at hbd3'
      rw [hbd3', hN.out] at hbd3
      have HB3 := Lib.hid (HB.out.trans hb3)
      have hz3 := HB3.out.size
      have HS := Lib.hid (Tryd.Builder_String_any_f w1.heap.size w1.heap.size (qt s.data.toList) w3 (Or.inr hbd3) hz3)
      clear hbd3 hb3 hbd3'
      go_wp2_with fail
      refine HS.out.mono ?_
      rintro e w4 ⟨rfl, _, hb4⟩
      have HB4 := Lib.hid (HB3.out.trans hb4)
      clear hb4
      go_wp2
      go_ret2
      exact ⟨by rw [hr.out]; rfl, HB1.out.trans (HB4.out.mono hz1)⟩

theorem quote_any (s : ByteArray) (w : World) (ad : Nat → Addr) (hs : s.size ≤ 100000) (hT : Tabs w) (hE : Syn w ad) (hC : Ctl w) :
    Calls Tryd.prog 48 #[.string s] w fun e w' => e = .returned (qtV ad s.data.toList) ∧ Below w.heap.size w w' := by
  cases hv : (pts s.data.toList).isSome
  · exact quote_no s w ad hs hT hE hv
  · exact quote_yes s w ad hs hT hC hv



end Go.Proofs.YtdbidkfjbhclcaaDoor.quoteC
