/-
  The law JsonSame.
-/
import Derived.Test.YtjcaffpmcgfhaaaDoorJsonV
import Derived.Test.YtjcaffpmcgfhaaaDoorSameQ
import Derived.Test.YtjcaffpmcgfhaaaDoorHeld2
namespace Go.Proofs.YtjcaffpmcgfhaaaDoor.jsonW
open Go.ChangeShapes Go.WideShapes Go.ChangeAt Go.RowKit Go.WideMaps Go.Maps nodeP nodeQ nodeA sameN sameQ errs errIs runesE quoteB
set_option linter.unusedSimpArgs false
set_option linter.unusedVariables false

theorem five {w : World} {B : Nat} {x : Nd} {l : List Value} (hx : NodeAt w B x l) : ∃ k n t a1 n1 c1 a2 n2 c2, l = [.int .i64 k, .int .i64 n, .string t, .slice a1 n1 c1, .slice a2 n2 c2] := by
  cases x with
  | mk k n t ks cs =>
  obtain ⟨kv, cv, rfl, _, _, _, ⟨ak, ck, _, _, rfl, _⟩, ⟨ac, cc, _, _, _, rfl, _⟩⟩ := hx.open
  exact ⟨_, _, _, _, _, _, _, _, _, rfl⟩

set_option maxRecDepth 100000 in
set_option maxHeartbeats 8000000 in
theorem lawSame (x y : Nd) (l m : List Value) (w : World) (ad : Nat → Addr) (hx : NodeAt w w.heap.size x l) (hy : NodeAt w w.heap.size y m) (hT : Tabs w) (hE : Errs w ad) (hR : intsC.Rng w) :
    Calls Tryd.prog 4 #[.agg l.toArray, .agg m.toArray] w fun e w' => e = .returned (.bool true) ∧ Below w.heap.size w w' := by
  obtain ⟨xk, xn, xt, xa1, xn1, xc1, xa2, xn2, xc2, rfl⟩ := five hx
  obtain ⟨yk, yn, yt, ya1, yn1, yc1, ya2, yn2, yc2, rfl⟩ := five hy
  have HX := Lib.hid hx
  have HY := Lib.hid hy
  have hb1 : Below w.heap.size w (w.alloc (.cells #[.int .i64 xk, .int .i64 xn, .string xt, .slice xa1 xn1 xc1, .slice xa2 xn2 xc2] 28)) := (Below.refl _ _).alloc (Nat.le_refl _) _
  have hb2 := hb1.alloc (by simp) (.cells #[.int .i64 yk, .int .i64 yn, .string yt, .slice ya1 yn1 yc1, .slice ya2 yn2 yc2] 28)
  have HB2 := Lib.hid hb2
  have HAL := Lib.hid (jsonV.alive _ ad (tabs_below hT hb2) (hE.below hb2) (intsC.rng_below hR hb2))
  clear hx hy hT hE hR hb1 hb2
  go_enter Tryd.func4, Tryd.ntmps4
  go_wp2_with fail
  refine HAL.out.mono ?_
  rintro e w3 ⟨rfl, hb3⟩
  have a0 := hb3.cell (p := ⟨w.heap.size, 0, none⟩) (by simp; omega)
  have a1 := hb3.cell (p := ⟨w.heap.size, 1, none⟩) (by simp; omega)
  have a2 := hb3.cell (p := ⟨w.heap.size, 2, none⟩) (by simp; omega)
  have a3 := hb3.cell (p := ⟨w.heap.size, 3, none⟩) (by simp; omega)
  have a4 := hb3.cell (p := ⟨w.heap.size, 4, none⟩) (by simp; omega)
  have d0 := hb3.cell (p := ⟨w.heap.size + 1, 0, none⟩) (by simp)
  have d1 := hb3.cell (p := ⟨w.heap.size + 1, 1, none⟩) (by simp)
  have d2 := hb3.cell (p := ⟨w.heap.size + 1, 2, none⟩) (by simp)
  have d3 := hb3.cell (p := ⟨w.heap.size + 1, 3, none⟩) (by simp)
  have d4 := hb3.cell (p := ⟨w.heap.size + 1, 4, none⟩) (by simp)
  simp at a0 a1 a2 a3 a4 d0 d1 d2 d3 d4
  have HB3 := Lib.hid (HB2.out.trans (hb3.mono HB2.out.size))
  have hs3 : w.heap.size + 2 ≤ w3.heap.size := by have := hb3.size; simp at this; omega
  clear hb3 HAL
  go_wp2_with fail
  refine (size_any x _ w3 2000 0 (stays HX.out HB3.out) (by omega) (by omega) (by omega) (by omega)).mono ?_
  rintro e w4 ⟨z, rfl, hz0, hz1, hz2, hb4⟩
  have HB4 : Hid (Below w.heap.size w w4) := Lib.hid (HB3.out.trans (hb4.mono (by omega)))
  have a0z := (hb4.cell (p := ⟨w.heap.size, 0, none⟩) (by show w.heap.size < w3.heap.size; omega)).trans a0
  have a1z := (hb4.cell (p := ⟨w.heap.size, 1, none⟩) (by show w.heap.size < w3.heap.size; omega)).trans a1
  have a2z := (hb4.cell (p := ⟨w.heap.size, 2, none⟩) (by show w.heap.size < w3.heap.size; omega)).trans a2
  have a3z := (hb4.cell (p := ⟨w.heap.size, 3, none⟩) (by show w.heap.size < w3.heap.size; omega)).trans a3
  have a4z := (hb4.cell (p := ⟨w.heap.size, 4, none⟩) (by show w.heap.size < w3.heap.size; omega)).trans a4
  have d0z := (hb4.cell (p := ⟨w.heap.size + 1, 0, none⟩) (by show w.heap.size + 1 < w3.heap.size; omega)).trans d0
  have d1z := (hb4.cell (p := ⟨w.heap.size + 1, 1, none⟩) (by show w.heap.size + 1 < w3.heap.size; omega)).trans d1
  have d2z := (hb4.cell (p := ⟨w.heap.size + 1, 2, none⟩) (by show w.heap.size + 1 < w3.heap.size; omega)).trans d2
  have d3z := (hb4.cell (p := ⟨w.heap.size + 1, 3, none⟩) (by show w.heap.size + 1 < w3.heap.size; omega)).trans d3
  have d4z := (hb4.cell (p := ⟨w.heap.size + 1, 4, none⟩) (by show w.heap.size + 1 < w3.heap.size; omega)).trans d4
  clear a0 a1 a2 a3 a4 d0 d1 d2 d3 d4
  have a0 := a0z
  have a1 := a1z
  have a2 := a2z
  have a3 := a3z
  have a4 := a4z
  have d0 := d0z
  have d1 := d1z
  have d2 := d2z
  have d3 := d3z
  have d4 := d4z
  clear a0z a1z a2z a3z a4z d0z d1z d2z d3z d4z
  have hs4 : w.heap.size + 2 ≤ w4.heap.size := by have := hb4.size; omega
  clear hb4
  by_cases h1 : 2000 < z
  · clear hz2
    go_wp2
    go_ret
    exact ⟨rfl, HB4.out⟩
  have HZ := Lib.hid (hz2 (by omega))
  clear hz2
  go_wp2_with fail
  refine (size_any y _ w4 2000 0 (stays HY.out HB4.out) (by omega) (by omega) (by omega) (by omega)).mono ?_
  rintro e w5 ⟨z', rfl, hz0', hz1', hz2', hb5⟩
  have HB5 : Hid (Below w.heap.size w w5) := Lib.hid (HB4.out.trans (hb5.mono (by omega)))
  have a0z := (hb5.cell (p := ⟨w.heap.size, 0, none⟩) (by show w.heap.size < w4.heap.size; omega)).trans a0
  have a1z := (hb5.cell (p := ⟨w.heap.size, 1, none⟩) (by show w.heap.size < w4.heap.size; omega)).trans a1
  have a2z := (hb5.cell (p := ⟨w.heap.size, 2, none⟩) (by show w.heap.size < w4.heap.size; omega)).trans a2
  have a3z := (hb5.cell (p := ⟨w.heap.size, 3, none⟩) (by show w.heap.size < w4.heap.size; omega)).trans a3
  have a4z := (hb5.cell (p := ⟨w.heap.size, 4, none⟩) (by show w.heap.size < w4.heap.size; omega)).trans a4
  have d0z := (hb5.cell (p := ⟨w.heap.size + 1, 0, none⟩) (by show w.heap.size + 1 < w4.heap.size; omega)).trans d0
  have d1z := (hb5.cell (p := ⟨w.heap.size + 1, 1, none⟩) (by show w.heap.size + 1 < w4.heap.size; omega)).trans d1
  have d2z := (hb5.cell (p := ⟨w.heap.size + 1, 2, none⟩) (by show w.heap.size + 1 < w4.heap.size; omega)).trans d2
  have d3z := (hb5.cell (p := ⟨w.heap.size + 1, 3, none⟩) (by show w.heap.size + 1 < w4.heap.size; omega)).trans d3
  have d4z := (hb5.cell (p := ⟨w.heap.size + 1, 4, none⟩) (by show w.heap.size + 1 < w4.heap.size; omega)).trans d4
  clear a0 a1 a2 a3 a4 d0 d1 d2 d3 d4
  have a0 := a0z
  have a1 := a1z
  have a2 := a2z
  have a3 := a3z
  have a4 := a4z
  have d0 := d0z
  have d1 := d1z
  have d2 := d2z
  have d3 := d3z
  have d4 := d4z
  clear a0z a1z a2z a3z a4z d0z d1z d2z d3z d4z
  have hs5 : w.heap.size + 2 ≤ w5.heap.size := by have := hb5.size; omega
  clear hb5
  by_cases h2 : 2000 < z'
  · clear hz2'
    go_wp2
    go_ret
    exact ⟨rfl, HB5.out⟩
  have HZ' := Lib.hid (hz2' (by omega))
  clear hz2'
  have HC : Hid ((count x : Int) ≤ 2000 ∧ (count y : Int) ≤ 2000) := Lib.hid (by
    have e1 := HZ.out
    have e2 := HZ'.out
    have c1 := count_sz x
    have c2 := count_sz y
    omega)
  have HJ : Hid (∀ w', Below w.heap.size w w' → Calls Tryd.prog 12 #[.agg #[.int .i64 xk, .int .i64 xn, .string xt, .slice xa1 xn1 xc1, .slice xa2 xn2 xc2], .agg #[.int .i64 yk, .int .i64 yn, .string yt, .slice ya1 yn1 yc1, .slice ya2 yn2 yc2]] w' fun e w'' => e = .returned (.bool (same x y)) ∧ Below w'.heap.size w' w'') := Lib.hid (fun w' hb => jsame_any x y _ _ w' (stays HX.out hb) (stays HY.out hb) (by have := HC.out; omega))
  have HJ2 : Hid (∀ w', Below w.heap.size w w' → Calls Tryd.prog 12 #[.agg #[.int .i64 xk, .int .i64 xn, .string xt, .slice xa1 xn1 xc1, .slice xa2 xn2 xc2], .agg #[.int .i64 xk, .int .i64 xn, .string xt, .slice xa1 xn1 xc1, .slice xa2 xn2 xc2]] w' fun e w'' => e = .returned (.bool (same x x)) ∧ Below w'.heap.size w' w'') := Lib.hid (fun w' hb => jsame_any x x _ _ w' (stays HX.out hb) (stays HX.out hb) (by have := HC.out; omega))
  have HR2 : Hid (∀ w', Below w.heap.size w w' → Calls Tryd.prog 13 #[.agg #[.int .i64 xk, .int .i64 xn, .string xt, .slice xa1 xn1 xc1, .slice xa2 xn2 xc2], .agg #[.int .i64 yk, .int .i64 yn, .string yt, .slice ya1 yn1 yc1, .slice ya2 yn2 yc2]] w' fun e w'' => e = .returned (.bool (same x y)) ∧ Below w'.heap.size w' w'') := Lib.hid (fun w' hb => rsame_any x y _ _ w' (stays HX.out hb) (stays HY.out hb))
  rw [same_yes (rfl : x = x)] at HJ2
  generalize same x y = sb at *
  clear HZ HZ' HC
  have HBw5d : Hid (Below w.heap.size w w5.drew) := Lib.hid (HB5.out.drew)
  have hs5d : w.heap.size + 2 ≤ w5.drew.heap.size := hs5
  go_wp2
  refine held2.region (fun _ w' => w'.cell? ⟨w.heap.size, 0, none⟩ = some (.int .i64 xk) ∧ w'.cell? ⟨w.heap.size, 1, none⟩ = some (.int .i64 xn) ∧ w'.cell? ⟨w.heap.size, 2, none⟩ = some (.string xt) ∧ w'.cell? ⟨w.heap.size, 3, none⟩ = some (.slice xa1 xn1 xc1) ∧ w'.cell? ⟨w.heap.size, 4, none⟩ = some (.slice xa2 xn2 xc2) ∧ w'.cell? ⟨w.heap.size + 1, 0, none⟩ = some (.int .i64 yk) ∧ w'.cell? ⟨w.heap.size + 1, 1, none⟩ = some (.int .i64 yn) ∧ w'.cell? ⟨w.heap.size + 1, 2, none⟩ = some (.string yt) ∧ w'.cell? ⟨w.heap.size + 1, 3, none⟩ = some (.slice ya1 yn1 yc1) ∧ w'.cell? ⟨w.heap.size + 1, 4, none⟩ = some (.slice ya2 yn2 yc2)) (by kernel_rfl) ?_
  generalize hw6 : w5.drew = w6 at *
  have hS5 : w6.cell? ⟨w.heap.size, 0, none⟩ = some (.int .i64 xk) ∧ w6.cell? ⟨w.heap.size, 1, none⟩ = some (.int .i64 xn) ∧ w6.cell? ⟨w.heap.size, 2, none⟩ = some (.string xt) ∧ w6.cell? ⟨w.heap.size, 3, none⟩ = some (.slice xa1 xn1 xc1) ∧ w6.cell? ⟨w.heap.size, 4, none⟩ = some (.slice xa2 xn2 xc2) ∧ w6.cell? ⟨w.heap.size + 1, 0, none⟩ = some (.int .i64 yk) ∧ w6.cell? ⟨w.heap.size + 1, 1, none⟩ = some (.int .i64 yn) ∧ w6.cell? ⟨w.heap.size + 1, 2, none⟩ = some (.string yt) ∧ w6.cell? ⟨w.heap.size + 1, 3, none⟩ = some (.slice ya1 yn1 yc1) ∧ w6.cell? ⟨w.heap.size + 1, 4, none⟩ = some (.slice ya2 yn2 yc2) := by
    rw [← hw6]; exact ⟨a0, a1, a2, a3, a4, d0, d1, d2, d3, d4⟩
  clear a0 a1 a2 a3 a4 d0 d1 d2 d3 d4
  obtain ⟨a0, a1, a2, a3, a4, d0, d1, d2, d3, d4⟩ := id hS5
  have HBw6 : Hid (Below w.heap.size w w6) := HBw5d
  clear HBw5d hw6
  refine held2.wpLeft.take (i := 0) (v := ?_) rfl (by kernel_rfl) (by kernel_rfl) (by kernel_rfl) (by kernel_rfl) (fun _ _ => Iff.rfl) (fun _ _ _ h => h) (by rfl) ?_ hS5 ?_
  rotate_left
  · (intro w l hl1 hl2 hSw; obtain ⟨s0, s1, s2, s3, s4, s5, s6, s7, s8, s9⟩ := hSw; go_simp; try with_reducible rfl)
  simp only [Act.put, List.setIfInBounds_toArray, List.set_cons_zero, List.set_cons_succ, List.getElem_toArray, List.getElem_cons_succ, List.getElem_cons_zero]
  refine held2.wpLeft.take (i := 1) (v := ?_) rfl (by kernel_rfl) (by kernel_rfl) (by kernel_rfl) (by kernel_rfl) (fun _ _ => Iff.rfl) (fun _ _ _ h => h) (by rfl) ?_ hS5 ?_
  rotate_left
  · (intro w l hl1 hl2 hSw; obtain ⟨s0, s1, s2, s3, s4, s5, s6, s7, s8, s9⟩ := hSw; go_simp; try with_reducible rfl)
  simp only [Act.put, List.setIfInBounds_toArray, List.set_cons_zero, List.set_cons_succ, List.getElem_toArray, List.getElem_cons_succ, List.getElem_cons_zero]
  refine held2.wpLeft.take (i := 3) (v := ?_) rfl (by kernel_rfl) (by kernel_rfl) (by kernel_rfl) (by kernel_rfl) (fun _ _ => Iff.rfl) (fun _ _ _ h => h) (by rfl) ?_ hS5 ?_
  rotate_left
  · (intro w l hl1 hl2 hSw; obtain ⟨s0, s1, s2, s3, s4, s5, s6, s7, s8, s9⟩ := hSw; go_simp; try with_reducible rfl)
  simp only [Act.put, List.setIfInBounds_toArray, List.set_cons_zero, List.set_cons_succ, List.getElem_toArray, List.getElem_cons_succ, List.getElem_cons_zero]
  refine held2.wpLeft.take (i := 4) (v := ?_) rfl (by kernel_rfl) (by kernel_rfl) (by kernel_rfl) (by kernel_rfl) (fun _ _ => Iff.rfl) (fun _ _ _ h => h) (by rfl) ?_ hS5 ?_
  rotate_left
  · (intro w l hl1 hl2 hSw; obtain ⟨s0, s1, s2, s3, s4, s5, s6, s7, s8, s9⟩ := hSw; go_simp; try with_reducible rfl)
  simp only [Act.put, List.setIfInBounds_toArray, List.set_cons_zero, List.set_cons_succ, List.getElem_toArray, List.getElem_cons_succ, List.getElem_cons_zero]
  refine held2.wpLeft.one (i := 2) (by kernel_rfl) rfl (fun K hK => ?_)
  go_simp
  refine (HJ.out w6 HBw6.out).mono ?_
  rintro e w7 ⟨rfl, hb⟩
  have HBw7 : Hid (Below w.heap.size w w7) := Lib.hid (HBw6.out.trans (hb.mono HBw6.out.size))
  have hsw7 : w.heap.size + 2 ≤ w7.heap.size := by have := hb.size; omega
  have a0z := (hb.cell (p := ⟨w.heap.size, 0, none⟩) (by show w.heap.size < w6.heap.size; omega)).trans a0
  have a1z := (hb.cell (p := ⟨w.heap.size, 1, none⟩) (by show w.heap.size < w6.heap.size; omega)).trans a1
  have a2z := (hb.cell (p := ⟨w.heap.size, 2, none⟩) (by show w.heap.size < w6.heap.size; omega)).trans a2
  have a3z := (hb.cell (p := ⟨w.heap.size, 3, none⟩) (by show w.heap.size < w6.heap.size; omega)).trans a3
  have a4z := (hb.cell (p := ⟨w.heap.size, 4, none⟩) (by show w.heap.size < w6.heap.size; omega)).trans a4
  have d0z := (hb.cell (p := ⟨w.heap.size + 1, 0, none⟩) (by show w.heap.size + 1 < w6.heap.size; omega)).trans d0
  have d1z := (hb.cell (p := ⟨w.heap.size + 1, 1, none⟩) (by show w.heap.size + 1 < w6.heap.size; omega)).trans d1
  have d2z := (hb.cell (p := ⟨w.heap.size + 1, 2, none⟩) (by show w.heap.size + 1 < w6.heap.size; omega)).trans d2
  have d3z := (hb.cell (p := ⟨w.heap.size + 1, 3, none⟩) (by show w.heap.size + 1 < w6.heap.size; omega)).trans d3
  have d4z := (hb.cell (p := ⟨w.heap.size + 1, 4, none⟩) (by show w.heap.size + 1 < w6.heap.size; omega)).trans d4
  clear a0 a1 a2 a3 a4 d0 d1 d2 d3 d4
  have a0 := a0z
  have a1 := a1z
  have a2 := a2z
  have a3 := a3z
  have a4 := a4z
  have d0 := d0z
  have d1 := d1z
  have d2 := d2z
  have d3 := d3z
  have d4 := d4z
  clear a0z a1z a2z a3z a4z d0z d1z d2z d3z d4z
  have hSw7 := And.intro a0 (And.intro a1 (And.intro a2 (And.intro a3 (And.intro a4 (And.intro d0 (And.intro d1 (And.intro d2 (And.intro d3 d4))))))))
  refine hK.out _ _ hSw7 ?_
  clear hK K hb
  refine held2.wpLeft.one (i := 5) (by kernel_rfl) rfl (fun K hK => ?_)
  go_simp
  refine (HR2.out w7 HBw7.out).mono ?_
  rintro e w8 ⟨rfl, hb⟩
  have HBw8 : Hid (Below w.heap.size w w8) := Lib.hid (HBw7.out.trans (hb.mono HBw7.out.size))
  have hsw8 : w.heap.size + 2 ≤ w8.heap.size := by have := hb.size; omega
  have a0z := (hb.cell (p := ⟨w.heap.size, 0, none⟩) (by show w.heap.size < w7.heap.size; omega)).trans a0
  have a1z := (hb.cell (p := ⟨w.heap.size, 1, none⟩) (by show w.heap.size < w7.heap.size; omega)).trans a1
  have a2z := (hb.cell (p := ⟨w.heap.size, 2, none⟩) (by show w.heap.size < w7.heap.size; omega)).trans a2
  have a3z := (hb.cell (p := ⟨w.heap.size, 3, none⟩) (by show w.heap.size < w7.heap.size; omega)).trans a3
  have a4z := (hb.cell (p := ⟨w.heap.size, 4, none⟩) (by show w.heap.size < w7.heap.size; omega)).trans a4
  have d0z := (hb.cell (p := ⟨w.heap.size + 1, 0, none⟩) (by show w.heap.size + 1 < w7.heap.size; omega)).trans d0
  have d1z := (hb.cell (p := ⟨w.heap.size + 1, 1, none⟩) (by show w.heap.size + 1 < w7.heap.size; omega)).trans d1
  have d2z := (hb.cell (p := ⟨w.heap.size + 1, 2, none⟩) (by show w.heap.size + 1 < w7.heap.size; omega)).trans d2
  have d3z := (hb.cell (p := ⟨w.heap.size + 1, 3, none⟩) (by show w.heap.size + 1 < w7.heap.size; omega)).trans d3
  have d4z := (hb.cell (p := ⟨w.heap.size + 1, 4, none⟩) (by show w.heap.size + 1 < w7.heap.size; omega)).trans d4
  clear a0 a1 a2 a3 a4 d0 d1 d2 d3 d4
  have a0 := a0z
  have a1 := a1z
  have a2 := a2z
  have a3 := a3z
  have a4 := a4z
  have d0 := d0z
  have d1 := d1z
  have d2 := d2z
  have d3 := d3z
  have d4 := d4z
  clear a0z a1z a2z a3z a4z d0z d1z d2z d3z d4z
  have hSw8 := And.intro a0 (And.intro a1 (And.intro a2 (And.intro a3 (And.intro a4 (And.intro d0 (And.intro d1 (And.intro d2 (And.intro d3 d4))))))))
  refine hK.out _ _ hSw8 ?_
  clear hK K hb
  refine held2.wpLeft.take (i := 6) (v := ?_) rfl (by kernel_rfl) (by kernel_rfl) (by kernel_rfl) (by kernel_rfl) (fun _ _ => Iff.rfl) (fun _ _ _ h => h) (by rfl) ?_ hSw8 ?_
  rotate_left
  · (intro w l hl1 hl2 hSw; obtain ⟨s0, s1, s2, s3, s4, s5, s6, s7, s8, s9⟩ := hSw; go_simp; try with_reducible rfl)
  simp only [Act.put, List.setIfInBounds_toArray, List.set_cons_zero, List.set_cons_succ, List.getElem_toArray, List.getElem_cons_succ, List.getElem_cons_zero]
  refine held2.wpLeft.take (i := 7) (v := ?_) rfl (by kernel_rfl) (by kernel_rfl) (by kernel_rfl) (by kernel_rfl) (fun _ _ => Iff.rfl) (fun _ _ _ h => h) (by rfl) ?_ hSw8 ?_
  rotate_left
  · (intro w l hl1 hl2 hSw; obtain ⟨s0, s1, s2, s3, s4, s5, s6, s7, s8, s9⟩ := hSw; go_simp; try with_reducible rfl)
  simp only [Act.put, List.setIfInBounds_toArray, List.set_cons_zero, List.set_cons_succ, List.getElem_toArray, List.getElem_cons_succ, List.getElem_cons_zero]
  refine held2.wpLeft.take (i := 8) (v := ?_) rfl (by kernel_rfl) (by kernel_rfl) (by kernel_rfl) (by kernel_rfl) (fun _ _ => Iff.rfl) (fun _ _ _ h => h) (by rfl) ?_ hSw8 ?_
  rotate_left
  · (intro w l hl1 hl2 hSw; obtain ⟨s0, s1, s2, s3, s4, s5, s6, s7, s8, s9⟩ := hSw; go_simp; try with_reducible rfl)
  simp only [Act.put, List.setIfInBounds_toArray, List.set_cons_zero, List.set_cons_succ, List.getElem_toArray, List.getElem_cons_succ, List.getElem_cons_zero]
  refine held2.wpLeft.take (i := 9) (v := ?_) rfl (by kernel_rfl) (by kernel_rfl) (by kernel_rfl) (by kernel_rfl) (fun _ _ => Iff.rfl) (fun _ _ _ h => h) (by rfl) ?_ hSw8 ?_
  rotate_left
  · (intro w l hl1 hl2 hSw; obtain ⟨s0, s1, s2, s3, s4, s5, s6, s7, s8, s9⟩ := hSw; go_simp; try with_reducible rfl)
  simp only [Act.put, List.setIfInBounds_toArray, List.set_cons_zero, List.set_cons_succ, List.getElem_toArray, List.getElem_cons_succ, List.getElem_cons_zero]
  refine held2.wpLeft.one (i := 10) (by kernel_rfl) rfl (fun K hK => ?_)
  go_simp
  refine (HJ2.out w8 HBw8.out).mono ?_
  rintro e w9 ⟨rfl, hb⟩
  have HBw9 : Hid (Below w.heap.size w w9) := Lib.hid (HBw8.out.trans (hb.mono HBw8.out.size))
  have hsw9 : w.heap.size + 2 ≤ w9.heap.size := by have := hb.size; omega
  have a0z := (hb.cell (p := ⟨w.heap.size, 0, none⟩) (by show w.heap.size < w8.heap.size; omega)).trans a0
  have a1z := (hb.cell (p := ⟨w.heap.size, 1, none⟩) (by show w.heap.size < w8.heap.size; omega)).trans a1
  have a2z := (hb.cell (p := ⟨w.heap.size, 2, none⟩) (by show w.heap.size < w8.heap.size; omega)).trans a2
  have a3z := (hb.cell (p := ⟨w.heap.size, 3, none⟩) (by show w.heap.size < w8.heap.size; omega)).trans a3
  have a4z := (hb.cell (p := ⟨w.heap.size, 4, none⟩) (by show w.heap.size < w8.heap.size; omega)).trans a4
  have d0z := (hb.cell (p := ⟨w.heap.size + 1, 0, none⟩) (by show w.heap.size + 1 < w8.heap.size; omega)).trans d0
  have d1z := (hb.cell (p := ⟨w.heap.size + 1, 1, none⟩) (by show w.heap.size + 1 < w8.heap.size; omega)).trans d1
  have d2z := (hb.cell (p := ⟨w.heap.size + 1, 2, none⟩) (by show w.heap.size + 1 < w8.heap.size; omega)).trans d2
  have d3z := (hb.cell (p := ⟨w.heap.size + 1, 3, none⟩) (by show w.heap.size + 1 < w8.heap.size; omega)).trans d3
  have d4z := (hb.cell (p := ⟨w.heap.size + 1, 4, none⟩) (by show w.heap.size + 1 < w8.heap.size; omega)).trans d4
  clear a0 a1 a2 a3 a4 d0 d1 d2 d3 d4
  have a0 := a0z
  have a1 := a1z
  have a2 := a2z
  have a3 := a3z
  have a4 := a4z
  have d0 := d0z
  have d1 := d1z
  have d2 := d2z
  have d3 := d3z
  have d4 := d4z
  clear a0z a1z a2z a3z a4z d0z d1z d2z d3z d4z
  have hSw9 := And.intro a0 (And.intro a1 (And.intro a2 (And.intro a3 (And.intro a4 (And.intro d0 (And.intro d1 (And.intro d2 (And.intro d3 d4))))))))
  refine hK.out _ _ hSw9 ?_
  clear hK K hb
  refine held2.wpLeft.take (i := 11) (v := ?_) rfl (by kernel_rfl) (by kernel_rfl) (by kernel_rfl) (by kernel_rfl) (fun _ _ => Iff.rfl) (fun _ _ _ h => h) (by rfl) ?_ hSw9 ?_
  rotate_left
  · (intro w l hl1 hl2 hSw; obtain ⟨s0, s1, s2, s3, s4, s5, s6, s7, s8, s9⟩ := hSw; go_simp; try with_reducible rfl)
  simp only [Act.put, List.setIfInBounds_toArray, List.set_cons_zero, List.set_cons_succ, List.getElem_toArray, List.getElem_cons_succ, List.getElem_cons_zero]
  refine held2.wpLeft.take (i := 12) (v := ?_) rfl (by kernel_rfl) (by kernel_rfl) (by kernel_rfl) (by kernel_rfl) (fun _ _ => Iff.rfl) (fun _ _ _ h => h) (by rfl) ?_ hSw9 ?_
  rotate_left
  · (intro w l hl1 hl2 hSw; obtain ⟨s0, s1, s2, s3, s4, s5, s6, s7, s8, s9⟩ := hSw; go_simp; try with_reducible rfl)
  simp only [Act.put, List.setIfInBounds_toArray, List.set_cons_zero, List.set_cons_succ, List.getElem_toArray, List.getElem_cons_succ, List.getElem_cons_zero]
  refine held2.wpLeft.done (by kernel_rfl) ?_
  go_wp2
  go_ret
  exact ⟨rfl, HBw9.out⟩

theorem law_same (v0 v1 : Value) (w : World) (ad : Nat → Addr) (h0 : ∃ x cs, v0 = .agg cs ∧ NodeAt w w.heap.size x cs.toList) (h1 : ∃ x cs, v1 = .agg cs ∧ NodeAt w w.heap.size x cs.toList) (hT : Tabs w) (hE : Errs w ad) (hR : intsC.Rng w) :
    Calls Tryd.prog 4 #[v0, v1] w fun e w' => e = .returned (.bool true) ∧ Below w.heap.size w w' := by
  obtain ⟨x, cs, rfl, hx⟩ := h0
  obtain ⟨y, cs', rfl, hy⟩ := h1
  exact lawSame x y cs.toList cs'.toList w ad hx hy hT hE hR
end Go.Proofs.YtjcaffpmcgfhaaaDoor.jsonW
