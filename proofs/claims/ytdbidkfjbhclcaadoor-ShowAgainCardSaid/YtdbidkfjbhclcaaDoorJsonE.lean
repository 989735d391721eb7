/-
  Contract of (*reader).word.
-/
import Derived.Test.YtdbidkfjbhclcaaDoorJsonD
import Derived.Test.YtdbidkfjbhclcaaDoorShelf
namespace Go.Proofs.YtdbidkfjbhclcaaDoor.jsonE
open Go.ChangeShapes Go.WideShapes Go.ChangeAt Go.RowKit Go.WideMaps Go.Maps nodeP nodeQ nodeS ownI jsonP jsonM jsonN jsonO jsonA jsonB
set_option linter.unusedSimpArgs false
set_option linter.unusedVariables false

/-- what word leaves -/
def WdP (B rb : Nat) (s : ByteArray) (p n d : Nat) (fr : Nat → Fr) (F : Ix → Thing) (P : Nat → Prop) (b : Bool) (k : Nat) (w : World) (e : Ending) (w' : World) : Prop :=
  e = .returned (.bool b) ∧ RM w' B rb s (if b then p + k else p) n d fr F P ∧ Near B rb w w' ∧ w.grownBy w' (some rb)

set_option maxRecDepth 100000 in
set_option maxHeartbeats 2000000 in
theorem word_any (w : World) (B rb : Nat) (s t : ByteArray) (p n d : Nat) (fr : Nat → Fr) (F : Ix → Thing) (P : Nat → Prop) (h : RM w B rb s p n d fr F P) (hp : p ≤ s.size) (hs : s.size ≤ 1000000) (ht : t.size ≤ 10) :
    Calls Tryd.prog 54 #[.pointer (some ⟨rb, 0, none⟩), .string t] w (WdP B rb s p n d fr F P (Lib.hasPrefix (s.data.toList.drop p) t.data.toList) t.size w) := by
  have HM := Lib.hid h
  obtain ⟨f0, f1, f2, f3, f4⟩ := h.field
  have hpI : (p : Int) ≤ (s.size : Int) := by omega
  have hp0 : (0 : Int) ≤ (p : Int) := by omega
  have HPX : Hid (∀ w', Calls Tryd.prog 62 #[.string (s.extract p s.size), .string t] w' fun e w'' => e = .returned (.bool (Lib.hasPrefix (s.data.toList.drop p) t.data.toList)) ∧ w'' = w') := Lib.hid (fun w' => by
    have := Tryd.strings_HasPrefix (s.extract p s.size) t w'
    have e : (s.extract p s.size).data.toList = s.data.toList.drop p := by
      rw [ByteArray.data_extract, Array.toList_extract, List.extract_eq_take_drop]
      rw [List.take_of_length_le]
      rw [List.length_drop, Array.length_toList, ByteArray.size_data]; omega
    rw [e] at this; exact this)
  generalize hr : Lib.hasPrefix (s.data.toList.drop p) t.data.toList = r at *
  clear h f2 f3 f4 hr
  cases r
  · go_enter Tryd.func54, Tryd.ntmps54
    go_wp2
    go_quiet ((go_at_call 62; refine Calls.quiet_of_same (HPX.out _)))
    have hM1 := HM.out.new (Go.Joins.below_draws w.heap.size w nq)
    have HN1 := Lib.hid (Near.below (rb := rb) (Go.Joins.below_draws B w nq))
    have HGR1 := Lib.hid (grown_below (Go.Joins.below_draws w.heap.size w nq) (some rb))
    generalize w.drewN nq = w1 at *
    clear f0 f1 HM
    have HM1 := Lib.hid hM1
    clear hM1
    go_wp2
    go_ret
    exact ⟨rfl, HM1.out, HN1.out, HGR1.out⟩
  · go_enter Tryd.func54, Tryd.ntmps54
    go_wp2
    go_quiet ((go_at_call 62; refine Calls.quiet_of_same (HPX.out _)))
    have hM1 := HM.out.new (Go.Joins.below_draws w.heap.size w nq)
    have HN1 := Lib.hid (Near.below (rb := rb) (Go.Joins.below_draws B w nq))
    have HGR1 := Lib.hid (grown_below (Go.Joins.below_draws w.heap.size w nq) (some rb))
    generalize w.drewN nq = w1 at *
    clear f0 f1 HM
    obtain ⟨f0, f1, f2, f3, f4⟩ := hM1.field
    have z1 := f4 1
    have HM2 := Lib.hid (hM1.setP (p + t.size))
    have HN2 := Lib.hid (HN1.out.set 1 (.int .i64 ((p + t.size : Nat) : Int)))
    have hts : (t.size : Int) ≤ 10 := by omega
    have HGR2 := Lib.hid (grown_same HGR1.out (set1_grown w1 rb 1 (.int .i64 ((p + t.size : Nat) : Int))))
    clear hM1 f2 f3 f4
    go_wp2
    go_ret
    exact ⟨rfl, HM2.out, HN2.out, HGR2.out⟩
end Go.Proofs.YtdbidkfjbhclcaaDoor.jsonE
