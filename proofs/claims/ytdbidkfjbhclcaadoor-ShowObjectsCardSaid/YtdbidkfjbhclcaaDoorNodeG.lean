/-
  json.right at any value; json.Right.
-/
import Derived.Test.YtdbidkfjbhclcaaDoorNodeF
namespace Go.Proofs.YtdbidkfjbhclcaaDoor.nodeG
open Go.ChangeShapes Go.WideShapes Go.ChangeAt Go.RowKit Go.WideMaps Go.Maps nodeP nodeQ nodeA nodeB nodeC nodeD nodeE nodeF runesE
set_option linter.unusedSimpArgs false
set_option linter.unusedVariables false

theorem right_any (B L : Nat) (hB : B ≤ L) : ∀ (x : Nd) (d : Nat) (l : List Value) (w : World) (z : Int), NodeAt w B x l → B ≤ w.heap.size → NumAt w L z → 0 ≤ z → z ≤ 20000 → (∀ w', Below B w w' → Tabs w') → sz x ≤ 100000 →
    Calls Tryd.prog 26 #[.agg l.toArray, .int .i64 d, .pointer (some ⟨L, 0, none⟩)] w fun e w' => e = .returned (.bool (R x d z)) ∧ RightP x d z L B w (R x d z) w' := by
  intro x
  induction x using Nd.ind with
  | _ k n t ks cs ih =>
  intro d l w z hx hBw hL hz hz2 hT hs
  by_cases h0 : z = 0
  · subst h0
    exact right_none _ l w B L d hx hB hL
  have hz1 : 1 ≤ z := by omega
  by_cases hbad : (k ≠ 4 ∧ n ≠ 0) ∨ (k ≠ 5 ∧ t.size ≠ 0)
  · exact right_bad k n t ks cs l w B L d z hx hB hBw hL hz1 hz2 hbad
  have hn : k = 4 ∨ n = 0 := by
    by_cases h : k = 4
    · exact .inl h
    · by_cases h' : n = 0
      · exact .inr h'
      · exact absurd (.inl ⟨h, h'⟩) hbad
  have ht : k = 5 ∨ t.size = 0 := by
    by_cases h : k = 5
    · exact .inl h
    · by_cases h' : t.size = 0
      · exact .inr h'
      · exact absurd (.inr ⟨h, h'⟩) hbad
  clear hbad
  by_cases h4 : k = 4
  · subst h4
    exact right_4 n t ks cs l w B L d z hx hB hBw hL hz1 hz2 (ht.resolve_left (by omega))
  obtain rfl : n = 0 := hn.resolve_left h4
  by_cases h5 : k = 5
  · subst h5
    exact right_5 t ks cs l w B L d z hx hB hBw hL hz1 hz2 hT
  have ht0 := ht.resolve_left h5
  by_cases ho : k < 1 ∨ 7 < k
  · exact right_other k t ks cs l w B L d z hx hB hBw hL hz1 hz2 ht0 ho
  by_cases h1 : k = 1
  · subst h1; exact right_1 t ks cs l w B L d z hx hB hBw hL hz1 hz2 ht0
  by_cases h2 : k = 2
  · subst h2; exact right_2 t ks cs l w B L d z hx hB hBw hL hz1 hz2 ht0
  by_cases h3 : k = 3
  · subst h3; exact right_3 t ks cs l w B L d z hx hB hBw hL hz1 hz2 ht0
  have hkl : (ks.length : Int) ≤ 100000 := by simp only [sz] at hs; omega
  have ih' : ∀ c ∈ cs, ∀ (l : List Value) (w : World) (z : Int), NodeAt w B c l → B ≤ w.heap.size → NumAt w L z → 0 ≤ z → z ≤ 20000 → (∀ w', Below B w w' → Tabs w') →
      Calls Tryd.prog 26 #[.agg l.toArray, .int .i64 ((d : Int) + 1), .pointer (some ⟨L, 0, none⟩)] w fun e w' => e = .returned (.bool (R c (d + 1) z)) ∧ RightP c (d + 1) z L B w (R c (d + 1) z) w' := by
    intro c hc l w z a1 a2 a3 a4 a5 a6
    have := ih c hc (d + 1) l w z a1 a2 a3 a4 a5 a6 (by have := szs_mem hc; simp only [sz] at hs; omega)
    rw [show ((d : Int) + 1) = ((d + 1 : Nat) : Int) by omega]
    exact this
  by_cases hno : 32 ≤ (d : Int) ∨ z - 1 < (cs.length : Int)
  · by_cases h6 : k = 6
    · subst h6; exact box_no6 t ks cs l w B L d z hx hB hBw hL hz1 hz2 ht0 hno
    · obtain rfl : k = 7 := by omega
      exact box_no7 t ks cs l w B L d z hx hB hBw hL hz1 hz2 ht0 hno
  · by_cases h6 : k = 6
    · subst h6; exact box_6 t ks cs l w B L d z hx hB hBw hL hz1 hz2 ht0 (by omega) (by omega) hT hkl ih'
    · obtain rfl : k = 7 := by omega
      exact box_7 t ks cs l w B L d z hx hB hBw hL hz1 hz2 ht0 (by omega) (by omega) hT hkl ih'

/-- what json.Right tells -/
def RT (x : Nd) : Bool := okAt x 0 && decide ((count x : Int) ≤ 20000)

set_option maxRecDepth 100000 in
theorem Right_any (x : Nd) (l : List Value) (w : World) (hx : NodeAt w w.heap.size x l) (hT : Tabs w) (hs : sz x ≤ 100000) :
    Calls Tryd.prog 17 #[.agg l.toArray] w fun e w' => e = .returned (.bool (RT x)) ∧ Below w.heap.size w w' := by
  have HX := Lib.hid hx
  cases x with
  | mk k n t ks cs =>
  obtain ⟨kv, cv, rfl, _, _, htm, hkv, hcv⟩ := hx.open
  obtain ⟨ao, cap, b, off, ls, rfl, hm, ha, hc, hn⟩ := hcv
  obtain ⟨ak, capk, bk, offk, rfl, hmk, hak, hck, hsk⟩ := hkv
  have HT := Lib.hid hT
  have HS := Lib.hid hs
  clear hx hc hn ha hck hak hsk hm hmk htm hT hs
  go_enter Tryd.func17, Tryd.ntmps17
  go_wp2_with fail
  have hb : Below w.heap.size w ((w.alloc (.cells #[.int .i64 k, .int .i64 n, .string t, .slice ak ks.length capk, .slice ao cs.length cap] 26)).alloc (.cells #[.int .i64 20000] 3)) := ((Below.refl _ _).alloc (Nat.le_refl _) _).alloc (by simp) _
  refine (right_any w.heap.size (w.heap.size + 1) (by omega) _ 0 _ _ 20000 (HX.out.keep hb) (by simp; omega) ?_ (by omega) (by omega) (fun w' h => tabs_below HT.out (hb.trans h)) HS.out).mono ?_
  · unfold NumAt
    have := heap_alloc_new (w.alloc (.cells #[.int .i64 k, .int .i64 n, .string t, .slice ak ks.length capk, .slice ao cs.length cap] 26)) (.cells #[.int .i64 20000] 3)
    simpa using this
  rintro e w1 ⟨rfl, hr, _, hb1⟩
  have HB := Lib.hid (hb.trans hb1)
  clear hb hb1 hr
  go_wp2
  go_ret
  exact ⟨rfl, HB.out⟩
end Go.Proofs.YtdbidkfjbhclcaaDoor.nodeG
