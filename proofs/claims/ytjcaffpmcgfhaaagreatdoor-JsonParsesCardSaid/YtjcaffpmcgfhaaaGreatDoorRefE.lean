/-
  Contract of the reference's value (written by gen_refE.py).
-/
import Derived.Test.YtjcaffpmcgfhaaaGreatDoorRefD
import Derived.Test.YtjcaffpmcgfhaaaGreatDoorRefW
namespace Go.Proofs.YtjcaffpmcgfhaaaGreatDoor.refE
open Go.ChangeShapes Go.WideShapes Go.ChangeAt Go.RowKit Go.WideMaps Go.Maps nodeP nodeQ nodeS ownI jsonP jsonM jsonN jsonO jsonA jsonB refP refA refB refC refD refW jsonQ
set_option linter.unusedSimpArgs false
set_option linter.unusedVariables false

theorem flat_in {w : World} {P : Nat → Prop} {k n : Int} {t : ByteArray} (h : In64 k ∧ In64 n ∧ t.size ≤ maxLen) : NodeIn w P (.mk k n t [] []) [.int .i64 k, .int .i64 n, .string t, .slice none 0 0, .slice none 0 0] :=
  .mk k n t [] [] _ none 0 0 0 (fun _ => []) h ⟨none, 0, 0, 0, rfl, Nat.zero_le _, fun h => absurd rfl h, fun i hi => absurd hi (Nat.not_lt_zero _), by simp⟩ (Nat.zero_le _) (fun h => absurd rfl h) (fun i hi => absurd hi (Nat.not_lt_zero _)) (fun i hi => absurd hi (Nat.not_lt_zero _))
/-- a value without kids is handed back -/
theorem fin_flat {w w9 : World} {rb qb : Nat} {s : ByteArray} {p e n : Nat} {k m : Int} {t : ByteArray} {q0 q1 q2 q3 q4 : Value} {r : R3} (hR : Rw w9 rb s p e n) (hq : Whole w9 qb 26 [q0, q1, q2, q3, q4]) (hqB : qb ≠ rb) (hg : w.grownBy w9 (some rb)) (h2 : w.heap.size ≤ qb)
    (hr0 : e = 0 → r = .ok (.mk k m t [] []) (s.data.toList.drop p) n ∧ p ≤ s.size ∧ In64 k ∧ In64 m ∧ t.size ≤ maxLen) (hr1 : e ≠ 0 → r = .err e) :
    Whole (((((w9.setCell ⟨qb, 0, none⟩ (.int .i64 k)).setCell ⟨qb, 1, none⟩ (.int .i64 m)).setCell ⟨qb, 2, none⟩ (.string t)).setCell ⟨qb, 3, none⟩ (.slice none 0 0)).setCell ⟨qb, 4, none⟩ (.slice none 0 0)) qb 26 [.int .i64 k, .int .i64 m, .string t, .slice none 0 0, .slice none 0 0] ∧
    VlP rb s r w (.returned (.agg #[.int .i64 k, .int .i64 m, .string t, .slice none 0 0, .slice none 0 0])) (((((w9.setCell ⟨qb, 0, none⟩ (.int .i64 k)).setCell ⟨qb, 1, none⟩ (.int .i64 m)).setCell ⟨qb, 2, none⟩ (.string t)).setCell ⟨qb, 3, none⟩ (.slice none 0 0)).setCell ⟨qb, 4, none⟩ (.slice none 0 0)) := by
  have hW := set5_whole hq (.int .i64 k) (.int .i64 m) (.string t) (.slice none 0 0) (.slice none 0 0)
  have hG := set5_grown w9 qb (.int .i64 k) (.int .i64 m) (.string t) (.slice none 0 0) (.slice none 0 0)
  refine ⟨hW, ⟨k, m, t, none, 0, 0, none, 0, 0⟩, rfl, gr_two hg hG (.inr h2), p, e, n, Whole.kept hR hG (fun e => hqB (Option.some.inj e)), ?_⟩
  by_cases he : e = 0
  · obtain ⟨rfl, hp, h1, h2, h3⟩ := hr0 he
    exact ⟨he, rfl, hp, rfl, flat_in ⟨h1, h2, h3⟩⟩
  · rw [hr1 he]; exact ⟨rfl, he⟩
/-- .. one that was read by array or object -/
theorem fin_pass {w w6 w9 : World} {rb qb : Nat} {s : ByteArray} {v : Nw} {q0 q1 q2 q3 q4 : Value} {r : R3} (hP : R3P rb s r w6 w9 v.l) (hq : Whole w9 qb 26 [q0, q1, q2, q3, q4]) (hqB : qb ≠ rb) (hg6 : w6.grownBy w9 (some rb)) (hg : w.grownBy w6 (some rb)) (h2 : w.heap.size ≤ qb) (h3 : qb < w6.heap.size) :
    Whole (((((w9.setCell ⟨qb, 0, none⟩ (.int .i64 v.k)).setCell ⟨qb, 1, none⟩ (.int .i64 v.m)).setCell ⟨qb, 2, none⟩ (.string v.t)).setCell ⟨qb, 3, none⟩ (.slice v.a1 v.n1 v.c1)).setCell ⟨qb, 4, none⟩ (.slice v.a2 v.n2 v.c2)) qb 26 [.int .i64 v.k, .int .i64 v.m, .string v.t, .slice v.a1 v.n1 v.c1, .slice v.a2 v.n2 v.c2] ∧
    VlP rb s r w (.returned (.agg #[.int .i64 v.k, .int .i64 v.m, .string v.t, .slice v.a1 v.n1 v.c1, .slice v.a2 v.n2 v.c2])) (((((w9.setCell ⟨qb, 0, none⟩ (.int .i64 v.k)).setCell ⟨qb, 1, none⟩ (.int .i64 v.m)).setCell ⟨qb, 2, none⟩ (.string v.t)).setCell ⟨qb, 3, none⟩ (.slice v.a1 v.n1 v.c1)).setCell ⟨qb, 4, none⟩ (.slice v.a2 v.n2 v.c2)) := by
  have hW := set5_whole hq (.int .i64 v.k) (.int .i64 v.m) (.string v.t) (.slice v.a1 v.n1 v.c1) (.slice v.a2 v.n2 v.c2)
  have hG := set5_grown w9 qb (.int .i64 v.k) (.int .i64 v.m) (.string v.t) (.slice v.a1 v.n1 v.c1) (.slice v.a2 v.n2 v.c2)
  obtain ⟨p, e, n, hR, hm⟩ := hP
  refine ⟨hW, v, rfl, gr_two (gs hg hg6) hG (.inr h2), p, e, n, Whole.kept hR hG (fun e => hqB (Option.some.inj e)), ?_⟩
  cases r with
  | ok x u m =>
    obtain ⟨h1, h2, h3', h4, h5⟩ := hm
    exact ⟨h1, h2, h3', h4, h5.keep (fun b hb => ⟨Nat.le_trans hg.size hb.1, Nat.lt_of_lt_of_le hb.2 hG.size⟩) (fun b hb => hG.block b hb.2 (fun e => by have := Option.some.inj e; have := hb.1; omega))⟩
  | err k => exact hm
  | stuck => exact hm
theorem rr_bs (d n : Nat) (u : List UInt8) (g : Fr) : rr d n (bs u) g = rr d n u g := by
  rw [rr_eq, rr_eq, bs_bs]
  by_cases ho : g.obj = true
  · rw [if_pos ho, if_pos ho]
  · rw [if_neg ho, if_neg ho]
    have : rv (d + 1) n (bs u) = rv (d + 1) n u := by rw [rv_eq, rv_eq, bs_bs]
    rw [this]
theorem bs_ne {u : List UInt8} (h : hd (bs u) ≠ 0) : bs u ≠ [] := fun e => h (by rw [e]; rfl)

set_option maxRecDepth 100000 in
set_option maxHeartbeats 8000000 in
theorem value_null (s : ByteArray) (hs : s.size ≤ 100000) (w : World) (rb p d n : Nat) (hp : p ≤ s.size) (hdp : d ≤ 32) (hn : n < 20000) (h : Rw w rb s p 0 n) (hq : hd (bs (s.data.toList.drop p)) = 110) :
    Calls Tryz.prog 11 #[.pointer (some ⟨rb, 0, none⟩), .int .i64 d] w (VlP rb s (rv d n (s.data.toList.drop p)) w) := by
  have hrw := Whole.lt h
  have hba : Below w.heap.size w (w.alloc (.cells #[.int .i64 0, .int .i64 0, .string ⟨#[]⟩, .slice none 0 0, .slice none 0 0] 26)) := (Below.refl _ _).alloc (Nat.le_refl _) _
  have hM1 := h.new hba
  have hQ1 : Whole (w.alloc (.cells #[.int .i64 0, .int .i64 0, .string ⟨#[]⟩, .slice none 0 0, .slice none 0 0] 26)) w.heap.size 26 [.int .i64 0, .int .i64 0, .string ⟨#[]⟩, .slice none 0 0, .slice none 0 0] := Whole.new w 26 [.int .i64 0, .int .i64 0, .string ⟨#[]⟩, .slice none 0 0, .slice none 0 0]
  have HG1 := Lib.hid (grown_below hba (some rb))
  have HQ1 := Lib.hid hQ1
  have HNX := Lib.hid (next_any _ rb s p n hM1 hp (by omega))
  have hqb : w.heap.size ≠ rb := by omega
  clear h hba hM1 hQ1
  go_enter Tryz.func11, Tryz.ntmps11
  go_wp2_with fail
  generalize w.alloc (.cells #[.int .i64 0, .int .i64 0, .string ⟨#[]⟩, .slice none 0 0, .slice none 0 0] 26) = w1 at *
  refine HNX.out.mono ?_
  rintro x w2 ⟨rfl, p1, hpp, hp1, hdr, hM2, hG2⟩
  have HM2 := Lib.hid hM2
  have HG2 := Lib.hid (gs HG1.out hG2)
  have HQ2 := Lib.hid (HQ1.out.kept hG2 (fun e => hqb (Option.some.inj e).symm))
  have HDR := Lib.hid hdr
  generalize hub : bs (s.data.toList.drop p) = u at *
  have HUB := Lib.hid hub
  generalize hqe : w.heap.size = qb at *
  have HLE2 : Hid (w.heap.size ≤ qb) := Lib.hid (Nat.le_of_eq hqe)
  clear hqe
  obtain ⟨f0, f1, f2, f3, f4⟩ := hM2.field
  have z3 := f4 3
  have f2' : w2.cell? ⟨rb, 2, none⟩ = some (.int .i64 0) := f2
  have hnn : IntKind.i64.wrap ((n : Int) + 1) = (n : Int) + 1 := IntWalk.i64_in _ (by omega)
  have HM3 : Hid (Rw (w2.setCell ⟨rb, 3, none⟩ (.int .i64 ((n : Int) + 1))) rb s p1 0 (n + 1)) := Lib.hid (HM2.out.setN (n + 1))
  have HG3 := Lib.hid (gr_set HG2.out 3 (.int .i64 ((n : Int) + 1)))
  have HQ3 := Lib.hid (HQ2.out.kept (g1 w2 rb 3 (.int .i64 ((n : Int) + 1))) (fun e => hqb (Option.some.inj e).symm))
  clear hub hdr hM2 hG2 f2 f4 HNX HG1 HQ1
  have HR : Hid (rv d n (s.data.toList.drop p) = if Lib.hasPrefix u wNull = true then .ok (word 1) (u.drop 4) (n + 1) else .err 1) := Lib.hid (by
    rw [rv_eq, HUB.out, if_neg (by intro e; rw [e] at hq; cases hq), if_neg (by omega), if_neg (by rw [hq]; decide), scal_null hq]
    by_cases h1 : Lib.hasPrefix u wNull = true
    · rw [if_pos h1, if_pos h1]; rfl
    · rw [if_neg h1, if_neg h1]; rfl)
  rw [hq]
  clear hq
  have hn3 : (n : Int) < (20000 : Int) := by omega
  clear hn
  go_wp2
  generalize w2.setCell ⟨rb, 3, none⟩ (.int .i64 ((n : Int) + 1)) = w3 at *
  clear f0 f1 f3 z3 f2'
  obtain ⟨f0, f1, f2, f3, f4⟩ := HM3.out.field
  rw [show (((n + 1 : Nat)) : Int) = (n : Int) + 1 from by omega] at f3
  clear f2 f4
  have hn4 : ¬ ((20000 : Int) < (n : Int) + 1) := by omega
  go_quiet (fail)
  have HM4 := Lib.hid (HM3.out.draws nq)
  have HG4 := Lib.hid (gr_draws HG3.out nq)
  have HQ4 := Lib.hid (HQ3.out.below (Go.Joins.below_draws _ _ nq) HQ3.out.lt)
  generalize w3.drewN nq = w4 at *
  clear f0 f1 f3 HM3 HG3 HQ3 HM2 HG2 HQ2
  have HWO := Lib.hid (word_any w4 rb s ⟨#[110, 117, 108, 108]⟩ p1 (n + 1) 1 HM4.out hp1 (by omega) (by decide))
  go_wp2_with fail
  refine HWO.out.mono ?_
  rintro x w5 ⟨rfl, hG5, hM5⟩
  have HM5 := Lib.hid hM5
  have HG5 := Lib.hid (gs HG4.out hG5)
  have HQ5 := Lib.hid (HQ4.out.kept hG5 (fun e => hqb (Option.some.inj e).symm))
  have HPX : Hid (Lib.hasPrefix (s.data.toList.drop p1) (⟨#[110, 117, 108, 108]⟩ : ByteArray).data.toList = Lib.hasPrefix u wNull) := Lib.hid (by rw [HDR.out]; rfl)
  clear hM5 hG5 HWO HM4 HG4 HQ4
  obtain ⟨x0, x1, x2, x3, x4⟩ := whole5 HQ5.out
  have y0 := HQ5.out.frozen 0
  have y1 := HQ5.out.frozen 1
  have y2 := HQ5.out.frozen 2
  have y3 := HQ5.out.frozen 3
  have y4 := HQ5.out.frozen 4
  go_wp2
  obtain ⟨hW9, hP9⟩ := fin_flat (r := rv d n (s.data.toList.drop p)) (w := w) (k := 1) (m := 0) (t := ⟨#[]⟩) HM5.out HQ5.out hqb HG5.out HLE2.out (fun e0 => by
    have hpx : Lib.hasPrefix u wNull = true := by
      rw [HPX.out] at e0
      by_cases h1 : Lib.hasPrefix u wNull = true
      · exact h1
      · rw [if_neg h1] at e0; cases e0
    refine ⟨?_, ?_, by unfold In64; omega, by unfold In64; omega, Nat.zero_le _⟩
    · rw [HR.out, if_pos hpx, drop_add, HDR.out]; rfl
    · have hpl := jsonQ.pre_len hpx
      have h6 : u.length = s.size - p1 := by rw [← HDR.out, List.length_drop, Array.length_toList, ByteArray.size_data]
      have h4 : (⟨#[110, 117, 108, 108]⟩ : ByteArray).size = 4 := rfl
      have h5 : wNull.length = 4 := rfl
      rw [h4]
      rw [h5] at hpl
      omega) (fun e0 => by
    rw [HPX.out] at e0 ⊢
    by_cases h1 : Lib.hasPrefix u wNull = true
    · rw [if_pos h1] at e0; exact absurd rfl e0
    · rw [if_neg h1, HR.out, if_neg h1])
  generalize ((((w5.setCell ⟨qb, 0, none⟩ (.int .i64 1)).setCell ⟨qb, 1, none⟩ (.int .i64 0)).setCell ⟨qb, 2, none⟩ (.string ⟨#[]⟩)).setCell ⟨qb, 3, none⟩ (.slice none 0 0)).setCell ⟨qb, 4, none⟩ (.slice none 0 0) = wZ at *
  obtain ⟨k0', k1', k2', k3', k4'⟩ := whole5 hW9
  refine bodyPost_ret (v := .agg #[.int .i64 1, .int .i64 0, .string ⟨#[]⟩, .slice none 0 0, .slice none 0 0]) (by simp [results, Tryz.results11, go_sem, k0', k1', k2', k3', k4']) rfl ?_
  exact hP9
set_option maxRecDepth 100000 in
set_option maxHeartbeats 8000000 in
theorem value_false (s : ByteArray) (hs : s.size ≤ 100000) (w : World) (rb p d n : Nat) (hp : p ≤ s.size) (hdp : d ≤ 32) (hn : n < 20000) (h : Rw w rb s p 0 n) (hq : hd (bs (s.data.toList.drop p)) = 102) :
    Calls Tryz.prog 11 #[.pointer (some ⟨rb, 0, none⟩), .int .i64 d] w (VlP rb s (rv d n (s.data.toList.drop p)) w) := by
  have hrw := Whole.lt h
  have hba : Below w.heap.size w (w.alloc (.cells #[.int .i64 0, .int .i64 0, .string ⟨#[]⟩, .slice none 0 0, .slice none 0 0] 26)) := (Below.refl _ _).alloc (Nat.le_refl _) _
  have hM1 := h.new hba
  have hQ1 : Whole (w.alloc (.cells #[.int .i64 0, .int .i64 0, .string ⟨#[]⟩, .slice none 0 0, .slice none 0 0] 26)) w.heap.size 26 [.int .i64 0, .int .i64 0, .string ⟨#[]⟩, .slice none 0 0, .slice none 0 0] := Whole.new w 26 [.int .i64 0, .int .i64 0, .string ⟨#[]⟩, .slice none 0 0, .slice none 0 0]
  have HG1 := Lib.hid (grown_below hba (some rb))
  have HQ1 := Lib.hid hQ1
  have HNX := Lib.hid (next_any _ rb s p n hM1 hp (by omega))
  have hqb : w.heap.size ≠ rb := by omega
  clear h hba hM1 hQ1
  go_enter Tryz.func11, Tryz.ntmps11
  go_wp2_with fail
  generalize w.alloc (.cells #[.int .i64 0, .int .i64 0, .string ⟨#[]⟩, .slice none 0 0, .slice none 0 0] 26) = w1 at *
  refine HNX.out.mono ?_
  rintro x w2 ⟨rfl, p1, hpp, hp1, hdr, hM2, hG2⟩
  have HM2 := Lib.hid hM2
  have HG2 := Lib.hid (gs HG1.out hG2)
  have HQ2 := Lib.hid (HQ1.out.kept hG2 (fun e => hqb (Option.some.inj e).symm))
  have HDR := Lib.hid hdr
  generalize hub : bs (s.data.toList.drop p) = u at *
  have HUB := Lib.hid hub
  generalize hqe : w.heap.size = qb at *
  have HLE2 : Hid (w.heap.size ≤ qb) := Lib.hid (Nat.le_of_eq hqe)
  clear hqe
  obtain ⟨f0, f1, f2, f3, f4⟩ := hM2.field
  have z3 := f4 3
  have f2' : w2.cell? ⟨rb, 2, none⟩ = some (.int .i64 0) := f2
  have hnn : IntKind.i64.wrap ((n : Int) + 1) = (n : Int) + 1 := IntWalk.i64_in _ (by omega)
  have HM3 : Hid (Rw (w2.setCell ⟨rb, 3, none⟩ (.int .i64 ((n : Int) + 1))) rb s p1 0 (n + 1)) := Lib.hid (HM2.out.setN (n + 1))
  have HG3 := Lib.hid (gr_set HG2.out 3 (.int .i64 ((n : Int) + 1)))
  have HQ3 := Lib.hid (HQ2.out.kept (g1 w2 rb 3 (.int .i64 ((n : Int) + 1))) (fun e => hqb (Option.some.inj e).symm))
  clear hub hdr hM2 hG2 f2 f4 HNX HG1 HQ1
  have HR : Hid (rv d n (s.data.toList.drop p) = if Lib.hasPrefix u wFalse = true then .ok (word 2) (u.drop 5) (n + 1) else .err 1) := Lib.hid (by
    rw [rv_eq, HUB.out, if_neg (by intro e; rw [e] at hq; cases hq), if_neg (by omega), if_neg (by rw [hq]; decide), scal_false hq]
    by_cases h1 : Lib.hasPrefix u wFalse = true
    · rw [if_pos h1, if_pos h1]; rfl
    · rw [if_neg h1, if_neg h1]; rfl)
  rw [hq]
  clear hq
  have hn3 : (n : Int) < (20000 : Int) := by omega
  clear hn
  go_wp2
  generalize w2.setCell ⟨rb, 3, none⟩ (.int .i64 ((n : Int) + 1)) = w3 at *
  clear f0 f1 f3 z3 f2'
  obtain ⟨f0, f1, f2, f3, f4⟩ := HM3.out.field
  rw [show (((n + 1 : Nat)) : Int) = (n : Int) + 1 from by omega] at f3
  clear f2 f4
  have hn4 : ¬ ((20000 : Int) < (n : Int) + 1) := by omega
  go_quiet (fail)
  have HM4 := Lib.hid (HM3.out.draws nq)
  have HG4 := Lib.hid (gr_draws HG3.out nq)
  have HQ4 := Lib.hid (HQ3.out.below (Go.Joins.below_draws _ _ nq) HQ3.out.lt)
  generalize w3.drewN nq = w4 at *
  clear f0 f1 f3 HM3 HG3 HQ3 HM2 HG2 HQ2
  have HWO := Lib.hid (word_any w4 rb s ⟨#[102, 97, 108, 115, 101]⟩ p1 (n + 1) 2 HM4.out hp1 (by omega) (by decide))
  go_wp2_with fail
  refine HWO.out.mono ?_
  rintro x w5 ⟨rfl, hG5, hM5⟩
  have HM5 := Lib.hid hM5
  have HG5 := Lib.hid (gs HG4.out hG5)
  have HQ5 := Lib.hid (HQ4.out.kept hG5 (fun e => hqb (Option.some.inj e).symm))
  have HPX : Hid (Lib.hasPrefix (s.data.toList.drop p1) (⟨#[102, 97, 108, 115, 101]⟩ : ByteArray).data.toList = Lib.hasPrefix u wFalse) := Lib.hid (by rw [HDR.out]; rfl)
  clear hM5 hG5 HWO HM4 HG4 HQ4
  obtain ⟨x0, x1, x2, x3, x4⟩ := whole5 HQ5.out
  have y0 := HQ5.out.frozen 0
  have y1 := HQ5.out.frozen 1
  have y2 := HQ5.out.frozen 2
  have y3 := HQ5.out.frozen 3
  have y4 := HQ5.out.frozen 4
  go_wp2
  obtain ⟨hW9, hP9⟩ := fin_flat (r := rv d n (s.data.toList.drop p)) (w := w) (k := 2) (m := 0) (t := ⟨#[]⟩) HM5.out HQ5.out hqb HG5.out HLE2.out (fun e0 => by
    have hpx : Lib.hasPrefix u wFalse = true := by
      rw [HPX.out] at e0
      by_cases h1 : Lib.hasPrefix u wFalse = true
      · exact h1
      · rw [if_neg h1] at e0; cases e0
    refine ⟨?_, ?_, by unfold In64; omega, by unfold In64; omega, Nat.zero_le _⟩
    · rw [HR.out, if_pos hpx, drop_add, HDR.out]; rfl
    · have hpl := jsonQ.pre_len hpx
      have h6 : u.length = s.size - p1 := by rw [← HDR.out, List.length_drop, Array.length_toList, ByteArray.size_data]
      have h4 : (⟨#[102, 97, 108, 115, 101]⟩ : ByteArray).size = 5 := rfl
      have h5 : wFalse.length = 5 := rfl
      rw [h4]
      rw [h5] at hpl
      omega) (fun e0 => by
    rw [HPX.out] at e0 ⊢
    by_cases h1 : Lib.hasPrefix u wFalse = true
    · rw [if_pos h1] at e0; exact absurd rfl e0
    · rw [if_neg h1, HR.out, if_neg h1])
  generalize ((((w5.setCell ⟨qb, 0, none⟩ (.int .i64 2)).setCell ⟨qb, 1, none⟩ (.int .i64 0)).setCell ⟨qb, 2, none⟩ (.string ⟨#[]⟩)).setCell ⟨qb, 3, none⟩ (.slice none 0 0)).setCell ⟨qb, 4, none⟩ (.slice none 0 0) = wZ at *
  obtain ⟨k0', k1', k2', k3', k4'⟩ := whole5 hW9
  refine bodyPost_ret (v := .agg #[.int .i64 2, .int .i64 0, .string ⟨#[]⟩, .slice none 0 0, .slice none 0 0]) (by simp [results, Tryz.results11, go_sem, k0', k1', k2', k3', k4']) rfl ?_
  exact hP9
set_option maxRecDepth 100000 in
set_option maxHeartbeats 8000000 in
theorem value_true (s : ByteArray) (hs : s.size ≤ 100000) (w : World) (rb p d n : Nat) (hp : p ≤ s.size) (hdp : d ≤ 32) (hn : n < 20000) (h : Rw w rb s p 0 n) (hq : hd (bs (s.data.toList.drop p)) = 116) :
    Calls Tryz.prog 11 #[.pointer (some ⟨rb, 0, none⟩), .int .i64 d] w (VlP rb s (rv d n (s.data.toList.drop p)) w) := by
  have hrw := Whole.lt h
  have hba : Below w.heap.size w (w.alloc (.cells #[.int .i64 0, .int .i64 0, .string ⟨#[]⟩, .slice none 0 0, .slice none 0 0] 26)) := (Below.refl _ _).alloc (Nat.le_refl _) _
  have hM1 := h.new hba
  have hQ1 : Whole (w.alloc (.cells #[.int .i64 0, .int .i64 0, .string ⟨#[]⟩, .slice none 0 0, .slice none 0 0] 26)) w.heap.size 26 [.int .i64 0, .int .i64 0, .string ⟨#[]⟩, .slice none 0 0, .slice none 0 0] := Whole.new w 26 [.int .i64 0, .int .i64 0, .string ⟨#[]⟩, .slice none 0 0, .slice none 0 0]
  have HG1 := Lib.hid (grown_below hba (some rb))
  have HQ1 := Lib.hid hQ1
  have HNX := Lib.hid (next_any _ rb s p n hM1 hp (by omega))
  have hqb : w.heap.size ≠ rb := by omega
  clear h hba hM1 hQ1
  go_enter Tryz.func11, Tryz.ntmps11
  go_wp2_with fail
  generalize w.alloc (.cells #[.int .i64 0, .int .i64 0, .string ⟨#[]⟩, .slice none 0 0, .slice none 0 0] 26) = w1 at *
  refine HNX.out.mono ?_
  rintro x w2 ⟨rfl, p1, hpp, hp1, hdr, hM2, hG2⟩
  have HM2 := Lib.hid hM2
  have HG2 := Lib.hid (gs HG1.out hG2)
  have HQ2 := Lib.hid (HQ1.out.kept hG2 (fun e => hqb (Option.some.inj e).symm))
  have HDR := Lib.hid hdr
  generalize hub : bs (s.data.toList.drop p) = u at *
  have HUB := Lib.hid hub
  generalize hqe : w.heap.size = qb at *
  have HLE2 : Hid (w.heap.size ≤ qb) := Lib.hid (Nat.le_of_eq hqe)
  clear hqe
  obtain ⟨f0, f1, f2, f3, f4⟩ := hM2.field
  have z3 := f4 3
  have f2' : w2.cell? ⟨rb, 2, none⟩ = some (.int .i64 0) := f2
  have hnn : IntKind.i64.wrap ((n : Int) + 1) = (n : Int) + 1 := IntWalk.i64_in _ (by omega)
  have HM3 : Hid (Rw (w2.setCell ⟨rb, 3, none⟩ (.int .i64 ((n : Int) + 1))) rb s p1 0 (n + 1)) := Lib.hid (HM2.out.setN (n + 1))
  have HG3 := Lib.hid (gr_set HG2.out 3 (.int .i64 ((n : Int) + 1)))
  have HQ3 := Lib.hid (HQ2.out.kept (g1 w2 rb 3 (.int .i64 ((n : Int) + 1))) (fun e => hqb (Option.some.inj e).symm))
  clear hub hdr hM2 hG2 f2 f4 HNX HG1 HQ1
  have HR : Hid (rv d n (s.data.toList.drop p) = if Lib.hasPrefix u wTrue = true then .ok (word 3) (u.drop 4) (n + 1) else .err 1) := Lib.hid (by
    rw [rv_eq, HUB.out, if_neg (by intro e; rw [e] at hq; cases hq), if_neg (by omega), if_neg (by rw [hq]; decide), scal_true hq]
    by_cases h1 : Lib.hasPrefix u wTrue = true
    · rw [if_pos h1, if_pos h1]; rfl
    · rw [if_neg h1, if_neg h1]; rfl)
  rw [hq]
  clear hq
  have hn3 : (n : Int) < (20000 : Int) := by omega
  clear hn
  go_wp2
  generalize w2.setCell ⟨rb, 3, none⟩ (.int .i64 ((n : Int) + 1)) = w3 at *
  clear f0 f1 f3 z3 f2'
  obtain ⟨f0, f1, f2, f3, f4⟩ := HM3.out.field
  rw [show (((n + 1 : Nat)) : Int) = (n : Int) + 1 from by omega] at f3
  clear f2 f4
  have hn4 : ¬ ((20000 : Int) < (n : Int) + 1) := by omega
  go_quiet (fail)
  have HM4 := Lib.hid (HM3.out.draws nq)
  have HG4 := Lib.hid (gr_draws HG3.out nq)
  have HQ4 := Lib.hid (HQ3.out.below (Go.Joins.below_draws _ _ nq) HQ3.out.lt)
  generalize w3.drewN nq = w4 at *
  clear f0 f1 f3 HM3 HG3 HQ3 HM2 HG2 HQ2
  have HWO := Lib.hid (word_any w4 rb s ⟨#[116, 114, 117, 101]⟩ p1 (n + 1) 3 HM4.out hp1 (by omega) (by decide))
  go_wp2_with fail
  refine HWO.out.mono ?_
  rintro x w5 ⟨rfl, hG5, hM5⟩
  have HM5 := Lib.hid hM5
  have HG5 := Lib.hid (gs HG4.out hG5)
  have HQ5 := Lib.hid (HQ4.out.kept hG5 (fun e => hqb (Option.some.inj e).symm))
  have HPX : Hid (Lib.hasPrefix (s.data.toList.drop p1) (⟨#[116, 114, 117, 101]⟩ : ByteArray).data.toList = Lib.hasPrefix u wTrue) := Lib.hid (by rw [HDR.out]; rfl)
  clear hM5 hG5 HWO HM4 HG4 HQ4
  obtain ⟨x0, x1, x2, x3, x4⟩ := whole5 HQ5.out
  have y0 := HQ5.out.frozen 0
  have y1 := HQ5.out.frozen 1
  have y2 := HQ5.out.frozen 2
  have y3 := HQ5.out.frozen 3
  have y4 := HQ5.out.frozen 4
  go_wp2
  obtain ⟨hW9, hP9⟩ := fin_flat (r := rv d n (s.data.toList.drop p)) (w := w) (k := 3) (m := 0) (t := ⟨#[]⟩) HM5.out HQ5.out hqb HG5.out HLE2.out (fun e0 => by
    have hpx : Lib.hasPrefix u wTrue = true := by
      rw [HPX.out] at e0
      by_cases h1 : Lib.hasPrefix u wTrue = true
      · exact h1
      · rw [if_neg h1] at e0; cases e0
    refine ⟨?_, ?_, by unfold In64; omega, by unfold In64; omega, Nat.zero_le _⟩
    · rw [HR.out, if_pos hpx, drop_add, HDR.out]; rfl
    · have hpl := jsonQ.pre_len hpx
      have h6 : u.length = s.size - p1 := by rw [← HDR.out, List.length_drop, Array.length_toList, ByteArray.size_data]
      have h4 : (⟨#[116, 114, 117, 101]⟩ : ByteArray).size = 4 := rfl
      have h5 : wTrue.length = 4 := rfl
      rw [h4]
      rw [h5] at hpl
      omega) (fun e0 => by
    rw [HPX.out] at e0 ⊢
    by_cases h1 : Lib.hasPrefix u wTrue = true
    · rw [if_pos h1] at e0; exact absurd rfl e0
    · rw [if_neg h1, HR.out, if_neg h1])
  generalize ((((w5.setCell ⟨qb, 0, none⟩ (.int .i64 3)).setCell ⟨qb, 1, none⟩ (.int .i64 0)).setCell ⟨qb, 2, none⟩ (.string ⟨#[]⟩)).setCell ⟨qb, 3, none⟩ (.slice none 0 0)).setCell ⟨qb, 4, none⟩ (.slice none 0 0) = wZ at *
  obtain ⟨k0', k1', k2', k3', k4'⟩ := whole5 hW9
  refine bodyPost_ret (v := .agg #[.int .i64 3, .int .i64 0, .string ⟨#[]⟩, .slice none 0 0, .slice none 0 0]) (by simp [results, Tryz.results11, go_sem, k0', k1', k2', k3', k4']) rfl ?_
  exact hP9
set_option maxRecDepth 100000 in
set_option maxHeartbeats 8000000 in
theorem value_text (s : ByteArray) (hs : s.size ≤ 100000) (w : World) (rb p d n : Nat) (hp : p ≤ s.size) (hdp : d ≤ 32) (hn : n < 20000) (h : Rw w rb s p 0 n) (hq : hd (bs (s.data.toList.drop p)) = 34) :
    Calls Tryz.prog 11 #[.pointer (some ⟨rb, 0, none⟩), .int .i64 d] w (VlP rb s (rv d n (s.data.toList.drop p)) w) := by
  have hrw := Whole.lt h
  have hba : Below w.heap.size w (w.alloc (.cells #[.int .i64 0, .int .i64 0, .string ⟨#[]⟩, .slice none 0 0, .slice none 0 0] 26)) := (Below.refl _ _).alloc (Nat.le_refl _) _
  have hM1 := h.new hba
  have hQ1 : Whole (w.alloc (.cells #[.int .i64 0, .int .i64 0, .string ⟨#[]⟩, .slice none 0 0, .slice none 0 0] 26)) w.heap.size 26 [.int .i64 0, .int .i64 0, .string ⟨#[]⟩, .slice none 0 0, .slice none 0 0] := Whole.new w 26 [.int .i64 0, .int .i64 0, .string ⟨#[]⟩, .slice none 0 0, .slice none 0 0]
  have HG1 := Lib.hid (grown_below hba (some rb))
  have HQ1 := Lib.hid hQ1
  have HNX := Lib.hid (next_any _ rb s p n hM1 hp (by omega))
  have hqb : w.heap.size ≠ rb := by omega
  clear h hba hM1 hQ1
  go_enter Tryz.func11, Tryz.ntmps11
  go_wp2_with fail
  generalize w.alloc (.cells #[.int .i64 0, .int .i64 0, .string ⟨#[]⟩, .slice none 0 0, .slice none 0 0] 26) = w1 at *
  refine HNX.out.mono ?_
  rintro x w2 ⟨rfl, p1, hpp, hp1, hdr, hM2, hG2⟩
  have HM2 := Lib.hid hM2
  have HG2 := Lib.hid (gs HG1.out hG2)
  have HQ2 := Lib.hid (HQ1.out.kept hG2 (fun e => hqb (Option.some.inj e).symm))
  have HDR := Lib.hid hdr
  generalize hub : bs (s.data.toList.drop p) = u at *
  have HUB := Lib.hid hub
  generalize hqe : w.heap.size = qb at *
  have HLE2 : Hid (w.heap.size ≤ qb) := Lib.hid (Nat.le_of_eq hqe)
  clear hqe
  obtain ⟨f0, f1, f2, f3, f4⟩ := hM2.field
  have z3 := f4 3
  have f2' : w2.cell? ⟨rb, 2, none⟩ = some (.int .i64 0) := f2
  have hnn : IntKind.i64.wrap ((n : Int) + 1) = (n : Int) + 1 := IntWalk.i64_in _ (by omega)
  have HM3 : Hid (Rw (w2.setCell ⟨rb, 3, none⟩ (.int .i64 ((n : Int) + 1))) rb s p1 0 (n + 1)) := Lib.hid (HM2.out.setN (n + 1))
  have HG3 := Lib.hid (gr_set HG2.out 3 (.int .i64 ((n : Int) + 1)))
  have HQ3 := Lib.hid (HQ2.out.kept (g1 w2 rb 3 (.int .i64 ((n : Int) + 1))) (fun e => hqb (Option.some.inj e).symm))
  clear hub hdr hM2 hG2 f2 f4 HNX HG1 HQ1
  have HR : Hid (rv d n (s.data.toList.drop p) = match stk u with | some (x, k) => .ok (.mk 5 0 ⟨x.toArray⟩ [] []) (u.drop k) (n + 1) | none => .err 1) := Lib.hid (by
    rw [rv_eq, HUB.out, if_neg (by intro e; rw [e] at hq; cases hq), if_neg (by omega), if_neg (by rw [hq]; decide)]
    unfold scal
    rw [if_pos hq]
    cases stk u with
    | none => rfl
    | some q => rfl)
  have HBS : Hid (bs (s.data.toList.drop p1) = u) := Lib.hid (by rw [HDR.out, ← HUB.out, bs_bs])
  rw [hq]
  clear hq
  have hn3 : (n : Int) < (20000 : Int) := by omega
  clear hn
  go_wp2
  generalize w2.setCell ⟨rb, 3, none⟩ (.int .i64 ((n : Int) + 1)) = w3 at *
  clear f0 f1 f3 z3 f2'
  obtain ⟨f0, f1, f2, f3, f4⟩ := HM3.out.field
  rw [show (((n + 1 : Nat)) : Int) = (n : Int) + 1 from by omega] at f3
  clear f2 f4
  have hn4 : ¬ ((20000 : Int) < (n : Int) + 1) := by omega
  go_quiet (fail)
  have HM4 := Lib.hid (HM3.out.draws nq)
  have HG4 := Lib.hid (gr_draws HG3.out nq)
  have HQ4 := Lib.hid (HQ3.out.below (Go.Joins.below_draws _ _ nq) HQ3.out.lt)
  generalize w3.drewN nq = w4 at *
  clear f0 f1 f3 HM3 HG3 HQ3 HM2 HG2 HQ2
  have HTX := Lib.hid (text_any w4 rb s p1 (n + 1) HM4.out hp1 hs)
  rw [HBS.out] at HTX
  go_wp2_with fail
  refine HTX.out.mono ?_
  rintro x w5 ⟨hG5, hx5⟩
  have HG5 := Lib.hid (gs HG4.out hG5)
  have HQ5 := Lib.hid (HQ4.out.kept hG5 (fun e => hqb (Option.some.inj e).symm))
  clear HTX hG5 HM4 HG4 HQ4
  cases hst : stk u with
  | none =>
    rw [hst] at hx5
    obtain ⟨rfl, p5, hM5⟩ := hx5
    have HM5 := Lib.hid hM5
    have HRe : Hid (rv d n (s.data.toList.drop p) = .err 1) := Lib.hid (by rw [HR.out, hst])
    clear hM5 hst HR
    obtain ⟨x0, x1, x2, x3, x4⟩ := whole5 HQ5.out
    have y0 := HQ5.out.frozen 0
    have y1 := HQ5.out.frozen 1
    have y2 := HQ5.out.frozen 2
    have y3 := HQ5.out.frozen 3
    have y4 := HQ5.out.frozen 4
    go_wp2
    obtain ⟨hW9, hP9⟩ := fin_flat (r := rv d n (s.data.toList.drop p)) (w := w) (k := 5) (m := 0) (t := ⟨#[]⟩) HM5.out HQ5.out hqb HG5.out HLE2.out (fun e0 => absurd e0 (by decide)) (fun _ => HRe.out)
    generalize ((((w5.setCell ⟨qb, 0, none⟩ (.int .i64 5)).setCell ⟨qb, 1, none⟩ (.int .i64 0)).setCell ⟨qb, 2, none⟩ (.string ⟨#[]⟩)).setCell ⟨qb, 3, none⟩ (.slice none 0 0)).setCell ⟨qb, 4, none⟩ (.slice none 0 0) = wZ at *
    obtain ⟨k0', k1', k2', k3', k4'⟩ := whole5 hW9
    refine bodyPost_ret (v := .agg #[.int .i64 5, .int .i64 0, .string ⟨#[]⟩, .slice none 0 0, .slice none 0 0]) (by simp [results, Tryz.results11, go_sem, k0', k1', k2', k3', k4']) rfl ?_
    exact hP9
  | some q0 =>
    obtain ⟨xs, kk⟩ := q0
    rw [hst] at hx5
    obtain ⟨rfl, p5, hp15, hp5, hd5, hM5⟩ := hx5
    have HM5 := Lib.hid hM5
    have HRe : Hid (rv d n (s.data.toList.drop p) = .ok (.mk 5 0 ⟨xs.toArray⟩ [] []) (u.drop kk) (n + 1)) := Lib.hid (by rw [HR.out, hst])
    have HD5 : Hid (s.data.toList.drop p5 = u.drop kk) := Lib.hid (by rw [hd5, HBS.out])
    have HXS : Hid ((⟨xs.toArray⟩ : ByteArray).size ≤ maxLen) := Lib.hid (by
      have := stk_len hst
      have h2 : (⟨xs.toArray⟩ : ByteArray).size = xs.length := by simp [ByteArray.size]
      have h4 : u.length = s.size - p1 := by rw [← HDR.out, List.length_drop, Array.length_toList, ByteArray.size_data]
      rw [h2]; unfold maxLen; omega)
    clear hM5 hst HR hd5
    dsimp only
    generalize (⟨xs.toArray⟩ : ByteArray) = X at *
    obtain ⟨x0, x1, x2, x3, x4⟩ := whole5 HQ5.out
    have y0 := HQ5.out.frozen 0
    have y1 := HQ5.out.frozen 1
    have y2 := HQ5.out.frozen 2
    have y3 := HQ5.out.frozen 3
    have y4 := HQ5.out.frozen 4
    go_wp2
    obtain ⟨hW9, hP9⟩ := fin_flat (r := rv d n (s.data.toList.drop p)) (w := w) (k := 5) (m := 0) (t := X) HM5.out HQ5.out hqb HG5.out HLE2.out (fun _ => ⟨HRe.out.trans (by rw [HD5.out]), hp5, by unfold In64; omega, by unfold In64; omega, HXS.out⟩) (fun e0 => absurd rfl e0)
    generalize ((((w5.setCell ⟨qb, 0, none⟩ (.int .i64 5)).setCell ⟨qb, 1, none⟩ (.int .i64 0)).setCell ⟨qb, 2, none⟩ (.string X)).setCell ⟨qb, 3, none⟩ (.slice none 0 0)).setCell ⟨qb, 4, none⟩ (.slice none 0 0) = wZ at *
    obtain ⟨k0', k1', k2', k3', k4'⟩ := whole5 hW9
    refine bodyPost_ret (v := .agg #[.int .i64 5, .int .i64 0, .string X, .slice none 0 0, .slice none 0 0]) (by simp [results, Tryz.results11, go_sem, k0', k1', k2', k3', k4']) rfl ?_
    exact hP9
set_option maxRecDepth 100000 in
set_option maxHeartbeats 8000000 in
theorem value_arr (s : ByteArray) (hs : s.size ≤ 100000) (w : World) (rb p d n : Nat) (hp : p ≤ s.size) (hdp : d ≤ 32) (hn : n < 20000) (h : Rw w rb s p 0 n) (hq : hd (bs (s.data.toList.drop p)) = 91) (hA : d < 32 → ∀ (w' : World) (p' : Nat), p < p' → p' ≤ s.size → Rw w' rb s p' 0 (n + 1) → Calls Tryz.prog 27 #[.pointer (some ⟨rb, 0, none⟩), .int .i64 d] w' (VlP rb s (arrR d (n + 1) (s.data.toList.drop p')) w')) :
    Calls Tryz.prog 11 #[.pointer (some ⟨rb, 0, none⟩), .int .i64 d] w (VlP rb s (rv d n (s.data.toList.drop p)) w) := by
  have hrw := Whole.lt h
  have hba : Below w.heap.size w (w.alloc (.cells #[.int .i64 0, .int .i64 0, .string ⟨#[]⟩, .slice none 0 0, .slice none 0 0] 26)) := (Below.refl _ _).alloc (Nat.le_refl _) _
  have hM1 := h.new hba
  have hQ1 : Whole (w.alloc (.cells #[.int .i64 0, .int .i64 0, .string ⟨#[]⟩, .slice none 0 0, .slice none 0 0] 26)) w.heap.size 26 [.int .i64 0, .int .i64 0, .string ⟨#[]⟩, .slice none 0 0, .slice none 0 0] := Whole.new w 26 [.int .i64 0, .int .i64 0, .string ⟨#[]⟩, .slice none 0 0, .slice none 0 0]
  have HG1 := Lib.hid (grown_below hba (some rb))
  have HQ1 := Lib.hid hQ1
  have HNX := Lib.hid (next_any _ rb s p n hM1 hp (by omega))
  have hqb : w.heap.size ≠ rb := by omega
  clear h hba hM1 hQ1
  go_enter Tryz.func11, Tryz.ntmps11
  go_wp2_with fail
  generalize w.alloc (.cells #[.int .i64 0, .int .i64 0, .string ⟨#[]⟩, .slice none 0 0, .slice none 0 0] 26) = w1 at *
  refine HNX.out.mono ?_
  rintro x w2 ⟨rfl, p1, hpp, hp1, hdr, hM2, hG2⟩
  have HM2 := Lib.hid hM2
  have HG2 := Lib.hid (gs HG1.out hG2)
  have HQ2 := Lib.hid (HQ1.out.kept hG2 (fun e => hqb (Option.some.inj e).symm))
  have HDR := Lib.hid hdr
  generalize hub : bs (s.data.toList.drop p) = u at *
  have HUB := Lib.hid hub
  generalize hqe : w.heap.size = qb at *
  have HLE2 : Hid (w.heap.size ≤ qb) := Lib.hid (Nat.le_of_eq hqe)
  clear hqe
  obtain ⟨f0, f1, f2, f3, f4⟩ := hM2.field
  have z3 := f4 3
  have f2' : w2.cell? ⟨rb, 2, none⟩ = some (.int .i64 0) := f2
  have hnn : IntKind.i64.wrap ((n : Int) + 1) = (n : Int) + 1 := IntWalk.i64_in _ (by omega)
  have HM3 : Hid (Rw (w2.setCell ⟨rb, 3, none⟩ (.int .i64 ((n : Int) + 1))) rb s p1 0 (n + 1)) := Lib.hid (HM2.out.setN (n + 1))
  have HG3 := Lib.hid (gr_set HG2.out 3 (.int .i64 ((n : Int) + 1)))
  have HQ3 := Lib.hid (HQ2.out.kept (g1 w2 rb 3 (.int .i64 ((n : Int) + 1))) (fun e => hqb (Option.some.inj e).symm))
  clear hub hdr hM2 hG2 f2 f4 HNX HG1 HQ1
  have HR : Hid (rv d n (s.data.toList.drop p) = if d = 32 then .err 2 else arrR d (n + 1) u.tail) := Lib.hid (by
    rw [rv_eq, HUB.out, if_neg (by intro e; rw [e] at hq; cases hq), if_neg (by omega), if_pos (by rw [hq]; decide)]
    by_cases h32 : d = 32
    · rw [if_pos h32, if_pos h32]
    · rw [if_neg h32, if_neg h32]
      have ho : decide (hd u = 123) = false := by rw [hq]; rfl
      rw [ho]
      unfold arrR
      have hcl : (Fr.mk false [] []).close = 93 := rfl
      rw [hcl]
      by_cases h2 : hd (bs u.tail) = 93
      · rw [if_pos h2, if_pos ⟨(by intro e; rw [e] at h2; cases h2), h2⟩]
      · rw [if_neg h2, if_neg (fun h => h2 h.2)])
  have hlt : p1 < s.size := hd_drop (by rw [HDR.out, hq]; decide)
  have HT : Hid (s.data.toList.drop (p1 + 1) = u.tail) := Lib.hid (by rw [← HDR.out, List.tail_drop])
  rw [hq]
  clear hq
  have hn3 : (n : Int) < (20000 : Int) := by omega
  clear hn
  go_wp2
  generalize w2.setCell ⟨rb, 3, none⟩ (.int .i64 ((n : Int) + 1)) = w3 at *
  clear f0 f1 f3 z3 f2'
  obtain ⟨f0, f1, f2, f3, f4⟩ := HM3.out.field
  rw [show (((n + 1 : Nat)) : Int) = (n : Int) + 1 from by omega] at f3
  clear f2 f4
  have hn4 : ¬ ((20000 : Int) < (n : Int) + 1) := by omega
  go_quiet (fail)
  have HM4 := Lib.hid (HM3.out.draws nq)
  have HG4 := Lib.hid (gr_draws HG3.out nq)
  have HQ4 := Lib.hid (HQ3.out.below (Go.Joins.below_draws _ _ nq) HQ3.out.lt)
  generalize w3.drewN nq = w4 at *
  clear f0 f1 f3 HM3 HG3 HQ3 HM2 HG2 HQ2
  by_cases h32 : d = 32
  · have hdI : (32 : Int) ≤ (d : Int) := by omega
    have HRe : Hid (rv d n (s.data.toList.drop p) = .err 2) := Lib.hid (by rw [HR.out, if_pos h32])
    have HFL := Lib.hid (fail_new w4 rb s p1 (n + 1) 2 HM4.out (by omega))
    clear HR h32 hA
    go_wp2_with fail
    refine HFL.out.mono ?_
    rintro x w5 ⟨rfl, hM5, hG5⟩
    have HM5 := Lib.hid hM5
    have HG5 := Lib.hid (gs HG4.out hG5)
    have HQ5 := Lib.hid (HQ4.out.kept hG5 (fun e => hqb (Option.some.inj e).symm))
    clear hM5 hG5 HFL HM4 HG4 HQ4
    obtain ⟨x0, x1, x2, x3, x4⟩ := whole5 HQ5.out
    have y0 := HQ5.out.frozen 0
    have y1 := HQ5.out.frozen 1
    have y2 := HQ5.out.frozen 2
    have y3 := HQ5.out.frozen 3
    have y4 := HQ5.out.frozen 4
    go_wp2
    obtain ⟨hW9, hP9⟩ := fin_flat (r := rv d n (s.data.toList.drop p)) (w := w) (k := 0) (m := 0) (t := ⟨#[]⟩) HM5.out HQ5.out hqb HG5.out HLE2.out (fun e0 => absurd e0 (by decide)) (fun _ => HRe.out)
    generalize ((((w5.setCell ⟨qb, 0, none⟩ (.int .i64 0)).setCell ⟨qb, 1, none⟩ (.int .i64 0)).setCell ⟨qb, 2, none⟩ (.string ⟨#[]⟩)).setCell ⟨qb, 3, none⟩ (.slice none 0 0)).setCell ⟨qb, 4, none⟩ (.slice none 0 0) = wZ at *
    obtain ⟨k0', k1', k2', k3', k4'⟩ := whole5 hW9
    refine bodyPost_ret (v := .agg #[.int .i64 0, .int .i64 0, .string ⟨#[]⟩, .slice none 0 0, .slice none 0 0]) (by simp [results, Tryz.results11, go_sem, k0', k1', k2', k3', k4']) rfl ?_
    exact hP9
  · have hdI : ¬ ((32 : Int) ≤ (d : Int)) := by omega
    have HRe : Hid (rv d n (s.data.toList.drop p) = arrR d (n + 1) (s.data.toList.drop (p1 + 1))) := Lib.hid (by rw [HR.out, if_neg h32, HT.out])
    obtain ⟨f0, f1, f2, f3, f4⟩ := HM4.out.field
    have z1 := f4 1
    have hM5 : Rw (w4.setCell ⟨rb, 1, none⟩ (.int .i64 ((p1 : Int) + 1))) rb s (p1 + 1) 0 (n + 1) := HM4.out.setP (p1 + 1)
    have HG5 := Lib.hid (gr_set HG4.out 1 (.int .i64 ((p1 : Int) + 1)))
    have HQ5 := Lib.hid (HQ4.out.kept (g1 w4 rb 1 (.int .i64 ((p1 : Int) + 1))) (fun e => hqb (Option.some.inj e).symm))
    have HAR := Lib.hid (hA (by omega) _ (p1 + 1) (by omega) (by omega) hM5)
    clear f0 f2 f3 f4 hM5 HR h32 hA
    go_wp2_with fail
    generalize w4.setCell ⟨rb, 1, none⟩ (.int .i64 ((p1 : Int) + 1)) = w5 at *
    refine HAR.out.mono ?_
    rintro x w6 ⟨⟨k, m, t, a1, n1, c1, a2, n2, c2⟩, rfl, hG6, hR6⟩
    have HG6 := Lib.hid hG6
    have HR6 := Lib.hid hR6
    have HQ6 := Lib.hid (HQ5.out.kept hG6 (fun e => hqb (Option.some.inj e).symm))
    clear hG6 hR6 HAR HM4 HG4 HQ4 f1 z1
    obtain ⟨x0, x1, x2, x3, x4⟩ := whole5 HQ6.out
    have y0 := HQ6.out.frozen 0
    have y1 := HQ6.out.frozen 1
    have y2 := HQ6.out.frozen 2
    have y3 := HQ6.out.frozen 3
    have y4 := HQ6.out.frozen 4
    go_wp2
    obtain ⟨hW9, hP9⟩ := fin_pass (r := rv d n (s.data.toList.drop p)) (w := w) (v := ⟨k, m, t, a1, n1, c1, a2, n2, c2⟩) (by rw [HRe.out]; exact HR6.out) HQ6.out hqb HG6.out HG5.out HLE2.out HQ5.out.lt
    generalize ((((w6.setCell ⟨qb, 0, none⟩ (.int .i64 k)).setCell ⟨qb, 1, none⟩ (.int .i64 m)).setCell ⟨qb, 2, none⟩ (.string t)).setCell ⟨qb, 3, none⟩ (.slice a1 n1 c1)).setCell ⟨qb, 4, none⟩ (.slice a2 n2 c2) = wZ at *
    obtain ⟨k0', k1', k2', k3', k4'⟩ := whole5 hW9
    refine bodyPost_ret (v := .agg #[.int .i64 k, .int .i64 m, .string t, .slice a1 n1 c1, .slice a2 n2 c2]) (by simp [results, Tryz.results11, go_sem, k0', k1', k2', k3', k4']) rfl ?_
    exact hP9
set_option maxRecDepth 100000 in
set_option maxHeartbeats 8000000 in
theorem value_obj (s : ByteArray) (hs : s.size ≤ 100000) (w : World) (rb p d n : Nat) (hp : p ≤ s.size) (hdp : d ≤ 32) (hn : n < 20000) (h : Rw w rb s p 0 n) (hq : hd (bs (s.data.toList.drop p)) = 123) (hA : d < 32 → ∀ (w' : World) (p' : Nat), p < p' → p' ≤ s.size → Rw w' rb s p' 0 (n + 1) → Calls Tryz.prog 28 #[.pointer (some ⟨rb, 0, none⟩), .int .i64 d] w' (VlP rb s (objR d (n + 1) (s.data.toList.drop p')) w')) :
    Calls Tryz.prog 11 #[.pointer (some ⟨rb, 0, none⟩), .int .i64 d] w (VlP rb s (rv d n (s.data.toList.drop p)) w) := by
  have hrw := Whole.lt h
  have hba : Below w.heap.size w (w.alloc (.cells #[.int .i64 0, .int .i64 0, .string ⟨#[]⟩, .slice none 0 0, .slice none 0 0] 26)) := (Below.refl _ _).alloc (Nat.le_refl _) _
  have hM1 := h.new hba
  have hQ1 : Whole (w.alloc (.cells #[.int .i64 0, .int .i64 0, .string ⟨#[]⟩, .slice none 0 0, .slice none 0 0] 26)) w.heap.size 26 [.int .i64 0, .int .i64 0, .string ⟨#[]⟩, .slice none 0 0, .slice none 0 0] := Whole.new w 26 [.int .i64 0, .int .i64 0, .string ⟨#[]⟩, .slice none 0 0, .slice none 0 0]
  have HG1 := Lib.hid (grown_below hba (some rb))
  have HQ1 := Lib.hid hQ1
  have HNX := Lib.hid (next_any _ rb s p n hM1 hp (by omega))
  have hqb : w.heap.size ≠ rb := by omega
  clear h hba hM1 hQ1
  go_enter Tryz.func11, Tryz.ntmps11
  go_wp2_with fail
  generalize w.alloc (.cells #[.int .i64 0, .int .i64 0, .string ⟨#[]⟩, .slice none 0 0, .slice none 0 0] 26) = w1 at *
  refine HNX.out.mono ?_
  rintro x w2 ⟨rfl, p1, hpp, hp1, hdr, hM2, hG2⟩
  have HM2 := Lib.hid hM2
  have HG2 := Lib.hid (gs HG1.out hG2)
  have HQ2 := Lib.hid (HQ1.out.kept hG2 (fun e => hqb (Option.some.inj e).symm))
  have HDR := Lib.hid hdr
  generalize hub : bs (s.data.toList.drop p) = u at *
  have HUB := Lib.hid hub
  generalize hqe : w.heap.size = qb at *
  have HLE2 : Hid (w.heap.size ≤ qb) := Lib.hid (Nat.le_of_eq hqe)
  clear hqe
  obtain ⟨f0, f1, f2, f3, f4⟩ := hM2.field
  have z3 := f4 3
  have f2' : w2.cell? ⟨rb, 2, none⟩ = some (.int .i64 0) := f2
  have hnn : IntKind.i64.wrap ((n : Int) + 1) = (n : Int) + 1 := IntWalk.i64_in _ (by omega)
  have HM3 : Hid (Rw (w2.setCell ⟨rb, 3, none⟩ (.int .i64 ((n : Int) + 1))) rb s p1 0 (n + 1)) := Lib.hid (HM2.out.setN (n + 1))
  have HG3 := Lib.hid (gr_set HG2.out 3 (.int .i64 ((n : Int) + 1)))
  have HQ3 := Lib.hid (HQ2.out.kept (g1 w2 rb 3 (.int .i64 ((n : Int) + 1))) (fun e => hqb (Option.some.inj e).symm))
  clear hub hdr hM2 hG2 f2 f4 HNX HG1 HQ1
  have HR : Hid (rv d n (s.data.toList.drop p) = if d = 32 then .err 2 else objR d (n + 1) u.tail) := Lib.hid (by
    rw [rv_eq, HUB.out, if_neg (by intro e; rw [e] at hq; cases hq), if_neg (by omega), if_pos (by rw [hq]; decide)]
    by_cases h32 : d = 32
    · rw [if_pos h32, if_pos h32]
    · rw [if_neg h32, if_neg h32]
      have ho : decide (hd u = 123) = true := by rw [hq]; rfl
      rw [ho]
      unfold objR
      have hcl : (Fr.mk true [] []).close = 125 := rfl
      rw [hcl]
      by_cases h2 : hd (bs u.tail) = 125
      · rw [if_pos h2, if_pos ⟨(by intro e; rw [e] at h2; cases h2), h2⟩]
      · rw [if_neg h2, if_neg (fun h => h2 h.2)])
  have hlt : p1 < s.size := hd_drop (by rw [HDR.out, hq]; decide)
  have HT : Hid (s.data.toList.drop (p1 + 1) = u.tail) := Lib.hid (by rw [← HDR.out, List.tail_drop])
  rw [hq]
  clear hq
  have hn3 : (n : Int) < (20000 : Int) := by omega
  clear hn
  go_wp2
  generalize w2.setCell ⟨rb, 3, none⟩ (.int .i64 ((n : Int) + 1)) = w3 at *
  clear f0 f1 f3 z3 f2'
  obtain ⟨f0, f1, f2, f3, f4⟩ := HM3.out.field
  rw [show (((n + 1 : Nat)) : Int) = (n : Int) + 1 from by omega] at f3
  clear f2 f4
  have hn4 : ¬ ((20000 : Int) < (n : Int) + 1) := by omega
  go_quiet (fail)
  have HM4 := Lib.hid (HM3.out.draws nq)
  have HG4 := Lib.hid (gr_draws HG3.out nq)
  have HQ4 := Lib.hid (HQ3.out.below (Go.Joins.below_draws _ _ nq) HQ3.out.lt)
  generalize w3.drewN nq = w4 at *
  clear f0 f1 f3 HM3 HG3 HQ3 HM2 HG2 HQ2
  by_cases h32 : d = 32
  · have hdI : (32 : Int) ≤ (d : Int) := by omega
    have HRe : Hid (rv d n (s.data.toList.drop p) = .err 2) := Lib.hid (by rw [HR.out, if_pos h32])
    have HFL := Lib.hid (fail_new w4 rb s p1 (n + 1) 2 HM4.out (by omega))
    clear HR h32 hA
    go_wp2_with fail
    refine HFL.out.mono ?_
    rintro x w5 ⟨rfl, hM5, hG5⟩
    have HM5 := Lib.hid hM5
    have HG5 := Lib.hid (gs HG4.out hG5)
    have HQ5 := Lib.hid (HQ4.out.kept hG5 (fun e => hqb (Option.some.inj e).symm))
    clear hM5 hG5 HFL HM4 HG4 HQ4
    obtain ⟨x0, x1, x2, x3, x4⟩ := whole5 HQ5.out
    have y0 := HQ5.out.frozen 0
    have y1 := HQ5.out.frozen 1
    have y2 := HQ5.out.frozen 2
    have y3 := HQ5.out.frozen 3
    have y4 := HQ5.out.frozen 4
    go_wp2
    obtain ⟨hW9, hP9⟩ := fin_flat (r := rv d n (s.data.toList.drop p)) (w := w) (k := 0) (m := 0) (t := ⟨#[]⟩) HM5.out HQ5.out hqb HG5.out HLE2.out (fun e0 => absurd e0 (by decide)) (fun _ => HRe.out)
    generalize ((((w5.setCell ⟨qb, 0, none⟩ (.int .i64 0)).setCell ⟨qb, 1, none⟩ (.int .i64 0)).setCell ⟨qb, 2, none⟩ (.string ⟨#[]⟩)).setCell ⟨qb, 3, none⟩ (.slice none 0 0)).setCell ⟨qb, 4, none⟩ (.slice none 0 0) = wZ at *
    obtain ⟨k0', k1', k2', k3', k4'⟩ := whole5 hW9
    refine bodyPost_ret (v := .agg #[.int .i64 0, .int .i64 0, .string ⟨#[]⟩, .slice none 0 0, .slice none 0 0]) (by simp [results, Tryz.results11, go_sem, k0', k1', k2', k3', k4']) rfl ?_
    exact hP9
  · have hdI : ¬ ((32 : Int) ≤ (d : Int)) := by omega
    have HRe : Hid (rv d n (s.data.toList.drop p) = objR d (n + 1) (s.data.toList.drop (p1 + 1))) := Lib.hid (by rw [HR.out, if_neg h32, HT.out])
    obtain ⟨f0, f1, f2, f3, f4⟩ := HM4.out.field
    have z1 := f4 1
    have hM5 : Rw (w4.setCell ⟨rb, 1, none⟩ (.int .i64 ((p1 : Int) + 1))) rb s (p1 + 1) 0 (n + 1) := HM4.out.setP (p1 + 1)
    have HG5 := Lib.hid (gr_set HG4.out 1 (.int .i64 ((p1 : Int) + 1)))
    have HQ5 := Lib.hid (HQ4.out.kept (g1 w4 rb 1 (.int .i64 ((p1 : Int) + 1))) (fun e => hqb (Option.some.inj e).symm))
    have HAR := Lib.hid (hA (by omega) _ (p1 + 1) (by omega) (by omega) hM5)
    clear f0 f2 f3 f4 hM5 HR h32 hA
    go_wp2_with fail
    generalize w4.setCell ⟨rb, 1, none⟩ (.int .i64 ((p1 : Int) + 1)) = w5 at *
    refine HAR.out.mono ?_
    rintro x w6 ⟨⟨k, m, t, a1, n1, c1, a2, n2, c2⟩, rfl, hG6, hR6⟩
    have HG6 := Lib.hid hG6
    have HR6 := Lib.hid hR6
    have HQ6 := Lib.hid (HQ5.out.kept hG6 (fun e => hqb (Option.some.inj e).symm))
    clear hG6 hR6 HAR HM4 HG4 HQ4 f1 z1
    obtain ⟨x0, x1, x2, x3, x4⟩ := whole5 HQ6.out
    have y0 := HQ6.out.frozen 0
    have y1 := HQ6.out.frozen 1
    have y2 := HQ6.out.frozen 2
    have y3 := HQ6.out.frozen 3
    have y4 := HQ6.out.frozen 4
    go_wp2
    obtain ⟨hW9, hP9⟩ := fin_pass (r := rv d n (s.data.toList.drop p)) (w := w) (v := ⟨k, m, t, a1, n1, c1, a2, n2, c2⟩) (by rw [HRe.out]; exact HR6.out) HQ6.out hqb HG6.out HG5.out HLE2.out HQ5.out.lt
    generalize ((((w6.setCell ⟨qb, 0, none⟩ (.int .i64 k)).setCell ⟨qb, 1, none⟩ (.int .i64 m)).setCell ⟨qb, 2, none⟩ (.string t)).setCell ⟨qb, 3, none⟩ (.slice a1 n1 c1)).setCell ⟨qb, 4, none⟩ (.slice a2 n2 c2) = wZ at *
    obtain ⟨k0', k1', k2', k3', k4'⟩ := whole5 hW9
    refine bodyPost_ret (v := .agg #[.int .i64 k, .int .i64 m, .string t, .slice a1 n1 c1, .slice a2 n2 c2]) (by simp [results, Tryz.results11, go_sem, k0', k1', k2', k3', k4']) rfl ?_
    exact hP9
set_option maxRecDepth 100000 in
set_option maxHeartbeats 8000000 in
theorem value_full (s : ByteArray) (hs : s.size ≤ 100000) (w : World) (rb p d n : Nat) (hp : p ≤ s.size) (hdp : d ≤ 32) (hn : n = 20000) (h : Rw w rb s p 0 n) (hq : bs (s.data.toList.drop p) ≠ []) :
    Calls Tryz.prog 11 #[.pointer (some ⟨rb, 0, none⟩), .int .i64 d] w (VlP rb s (rv d n (s.data.toList.drop p)) w) := by
  have hrw := Whole.lt h
  have hba : Below w.heap.size w (w.alloc (.cells #[.int .i64 0, .int .i64 0, .string ⟨#[]⟩, .slice none 0 0, .slice none 0 0] 26)) := (Below.refl _ _).alloc (Nat.le_refl _) _
  have hM1 := h.new hba
  have hQ1 : Whole (w.alloc (.cells #[.int .i64 0, .int .i64 0, .string ⟨#[]⟩, .slice none 0 0, .slice none 0 0] 26)) w.heap.size 26 [.int .i64 0, .int .i64 0, .string ⟨#[]⟩, .slice none 0 0, .slice none 0 0] := Whole.new w 26 [.int .i64 0, .int .i64 0, .string ⟨#[]⟩, .slice none 0 0, .slice none 0 0]
  have HG1 := Lib.hid (grown_below hba (some rb))
  have HQ1 := Lib.hid hQ1
  have HNX := Lib.hid (next_any _ rb s p n hM1 hp (by omega))
  have hqb : w.heap.size ≠ rb := by omega
  clear h hba hM1 hQ1
  go_enter Tryz.func11, Tryz.ntmps11
  go_wp2_with fail
  generalize w.alloc (.cells #[.int .i64 0, .int .i64 0, .string ⟨#[]⟩, .slice none 0 0, .slice none 0 0] 26) = w1 at *
  refine HNX.out.mono ?_
  rintro x w2 ⟨rfl, p1, hpp, hp1, hdr, hM2, hG2⟩
  have HM2 := Lib.hid hM2
  have HG2 := Lib.hid (gs HG1.out hG2)
  have HQ2 := Lib.hid (HQ1.out.kept hG2 (fun e => hqb (Option.some.inj e).symm))
  have HDR := Lib.hid hdr
  generalize hub : bs (s.data.toList.drop p) = u at *
  have HUB := Lib.hid hub
  generalize hqe : w.heap.size = qb at *
  have HLE2 : Hid (w.heap.size ≤ qb) := Lib.hid (Nat.le_of_eq hqe)
  clear hqe
  obtain ⟨f0, f1, f2, f3, f4⟩ := hM2.field
  have z3 := f4 3
  have f2' : w2.cell? ⟨rb, 2, none⟩ = some (.int .i64 0) := f2
  have hnn : IntKind.i64.wrap ((n : Int) + 1) = (n : Int) + 1 := IntWalk.i64_in _ (by omega)
  have HM3 : Hid (Rw (w2.setCell ⟨rb, 3, none⟩ (.int .i64 ((n : Int) + 1))) rb s p1 0 (n + 1)) := Lib.hid (HM2.out.setN (n + 1))
  have HG3 := Lib.hid (gr_set HG2.out 3 (.int .i64 ((n : Int) + 1)))
  have HQ3 := Lib.hid (HQ2.out.kept (g1 w2 rb 3 (.int .i64 ((n : Int) + 1))) (fun e => hqb (Option.some.inj e).symm))
  clear hub hdr hM2 hG2 f2 f4 HNX HG1 HQ1
  have HRe : Hid (rv d n (s.data.toList.drop p) = .err 3) := Lib.hid (by rw [rv_eq, HUB.out, if_neg hq, if_pos hn])
  have hlt : p1 < s.size := Decidable.byContradiction fun h => hq (by rw [← HDR.out, drop_no s h])
  have hltI : (p1 : Int) < (s.size : Int) := by omega
  have hn2 : (20000 : Int) < (n : Int) + 1 := by omega
  generalize hd u = q at *
  clear hq
  have hn3 : (20000 : Int) ≤ (n : Int) := by omega
  clear hn
  go_wp2
  generalize w2.setCell ⟨rb, 3, none⟩ (.int .i64 ((n : Int) + 1)) = w3 at *
  clear f0 f1 f3 z3 f2'
  obtain ⟨f0, f1, f2, f3, f4⟩ := HM3.out.field
  rw [show (((n + 1 : Nat)) : Int) = (n : Int) + 1 from by omega] at f3
  clear f2 f4
  go_quiet (fail)
  have HM4 := Lib.hid (HM3.out.draws nq)
  have HG4 := Lib.hid (gr_draws HG3.out nq)
  have HQ4 := Lib.hid (HQ3.out.below (Go.Joins.below_draws _ _ nq) HQ3.out.lt)
  generalize w3.drewN nq = w4 at *
  clear f0 f1 f3 HM3 HG3 HQ3 HM2 HG2 HQ2
  have HFL := Lib.hid (fail_new w4 rb s p1 (n + 1) 3 HM4.out (by omega))
  go_wp2_with fail
  refine HFL.out.mono ?_
  rintro x w5 ⟨rfl, hM5, hG5⟩
  have HM5 := Lib.hid hM5
  have HG5 := Lib.hid (gs HG4.out hG5)
  have HQ5 := Lib.hid (HQ4.out.kept hG5 (fun e => hqb (Option.some.inj e).symm))
  clear hM5 hG5 HFL HM4 HG4 HQ4
  obtain ⟨x0, x1, x2, x3, x4⟩ := whole5 HQ5.out
  have y0 := HQ5.out.frozen 0
  have y1 := HQ5.out.frozen 1
  have y2 := HQ5.out.frozen 2
  have y3 := HQ5.out.frozen 3
  have y4 := HQ5.out.frozen 4
  go_wp2
  obtain ⟨hW9, hP9⟩ := fin_flat (r := rv d n (s.data.toList.drop p)) (w := w) (k := 0) (m := 0) (t := ⟨#[]⟩) HM5.out HQ5.out hqb HG5.out HLE2.out (fun e0 => absurd e0 (by decide)) (fun _ => HRe.out)
  generalize ((((w5.setCell ⟨qb, 0, none⟩ (.int .i64 0)).setCell ⟨qb, 1, none⟩ (.int .i64 0)).setCell ⟨qb, 2, none⟩ (.string ⟨#[]⟩)).setCell ⟨qb, 3, none⟩ (.slice none 0 0)).setCell ⟨qb, 4, none⟩ (.slice none 0 0) = wZ at *
  obtain ⟨k0', k1', k2', k3', k4'⟩ := whole5 hW9
  refine bodyPost_ret (v := .agg #[.int .i64 0, .int .i64 0, .string ⟨#[]⟩, .slice none 0 0, .slice none 0 0]) (by simp [results, Tryz.results11, go_sem, k0', k1', k2', k3', k4']) rfl ?_
  exact hP9
set_option maxRecDepth 100000 in
set_option maxHeartbeats 8000000 in
theorem value_num (s : ByteArray) (hs : s.size ≤ 100000) (w : World) (rb p d n : Nat) (hp : p ≤ s.size) (hdp : d ≤ 32) (hn : n < 20000) (h : Rw w rb s p 0 n) (hq : hd (bs (s.data.toList.drop p)) ≠ 110 ∧ hd (bs (s.data.toList.drop p)) ≠ 102 ∧ hd (bs (s.data.toList.drop p)) ≠ 116 ∧ hd (bs (s.data.toList.drop p)) ≠ 34 ∧ hd (bs (s.data.toList.drop p)) ≠ 91 ∧ hd (bs (s.data.toList.drop p)) ≠ 123) :
    Calls Tryz.prog 11 #[.pointer (some ⟨rb, 0, none⟩), .int .i64 d] w (VlP rb s (rv d n (s.data.toList.drop p)) w) := by
  have hrw := Whole.lt h
  have hba : Below w.heap.size w (w.alloc (.cells #[.int .i64 0, .int .i64 0, .string ⟨#[]⟩, .slice none 0 0, .slice none 0 0] 26)) := (Below.refl _ _).alloc (Nat.le_refl _) _
  have hM1 := h.new hba
  have hQ1 : Whole (w.alloc (.cells #[.int .i64 0, .int .i64 0, .string ⟨#[]⟩, .slice none 0 0, .slice none 0 0] 26)) w.heap.size 26 [.int .i64 0, .int .i64 0, .string ⟨#[]⟩, .slice none 0 0, .slice none 0 0] := Whole.new w 26 [.int .i64 0, .int .i64 0, .string ⟨#[]⟩, .slice none 0 0, .slice none 0 0]
  have HG1 := Lib.hid (grown_below hba (some rb))
  have HQ1 := Lib.hid hQ1
  have HNX := Lib.hid (next_any _ rb s p n hM1 hp (by omega))
  have hqb : w.heap.size ≠ rb := by omega
  clear h hba hM1 hQ1
  go_enter Tryz.func11, Tryz.ntmps11
  go_wp2_with fail
  generalize w.alloc (.cells #[.int .i64 0, .int .i64 0, .string ⟨#[]⟩, .slice none 0 0, .slice none 0 0] 26) = w1 at *
  refine HNX.out.mono ?_
  rintro x w2 ⟨rfl, p1, hpp, hp1, hdr, hM2, hG2⟩
  have HM2 := Lib.hid hM2
  have HG2 := Lib.hid (gs HG1.out hG2)
  have HQ2 := Lib.hid (HQ1.out.kept hG2 (fun e => hqb (Option.some.inj e).symm))
  have HDR := Lib.hid hdr
  generalize hub : bs (s.data.toList.drop p) = u at *
  have HUB := Lib.hid hub
  generalize hqe : w.heap.size = qb at *
  have HLE2 : Hid (w.heap.size ≤ qb) := Lib.hid (Nat.le_of_eq hqe)
  clear hqe
  obtain ⟨f0, f1, f2, f3, f4⟩ := hM2.field
  have z3 := f4 3
  have f2' : w2.cell? ⟨rb, 2, none⟩ = some (.int .i64 0) := f2
  have hnn : IntKind.i64.wrap ((n : Int) + 1) = (n : Int) + 1 := IntWalk.i64_in _ (by omega)
  have HM3 : Hid (Rw (w2.setCell ⟨rb, 3, none⟩ (.int .i64 ((n : Int) + 1))) rb s p1 0 (n + 1)) := Lib.hid (HM2.out.setN (n + 1))
  have HG3 := Lib.hid (gr_set HG2.out 3 (.int .i64 ((n : Int) + 1)))
  have HQ3 := Lib.hid (HQ2.out.kept (g1 w2 rb 3 (.int .i64 ((n : Int) + 1))) (fun e => hqb (Option.some.inj e).symm))
  clear hub hdr hM2 hG2 f2 f4 HNX HG1 HQ1
  have HR : Hid (rv d n (s.data.toList.drop p) = if (intsP.takeN u).2.2 = 0 then .ok (.mk 4 (intsP.takeN u).1 ByteArray.empty [] []) (u.drop (intsP.takeN u).2.1) (n + 1) else .err (intsP.takeN u).2.2) := Lib.hid (by
    rw [rv_eq, HUB.out]
    by_cases h0 : u = []
    · rw [if_pos h0, h0]; rfl
    · rw [if_neg h0, if_neg (by omega), if_neg (by omega), scal_num hq.2.2.2.1 hq.1 hq.2.1 hq.2.2.1]
      by_cases h1 : (intsP.takeN u).2.2 = 0
      · rw [if_pos h1, if_pos h1]; rfl
      · rw [if_neg h1, if_neg h1]; exact if_pos h1)
  have q1 : (((hd u : Nat) : Int) == 110) = false := by rw [beq_eq_false_iff_ne]; omega
  have q2 : (((hd u : Nat) : Int) == 102) = false := by rw [beq_eq_false_iff_ne]; omega
  have q3 : (((hd u : Nat) : Int) == 116) = false := by rw [beq_eq_false_iff_ne]; omega
  have q4 : (((hd u : Nat) : Int) == 34) = false := by rw [beq_eq_false_iff_ne]; omega
  have q5 : (((hd u : Nat) : Int) == 91) = false := by rw [beq_eq_false_iff_ne]; omega
  have q6 : (((hd u : Nat) : Int) == 123) = false := by rw [beq_eq_false_iff_ne]; omega
  generalize hd u = q at *
  clear hq
  have hn3 : (n : Int) < (20000 : Int) := by omega
  clear hn
  go_wp2
  generalize w2.setCell ⟨rb, 3, none⟩ (.int .i64 ((n : Int) + 1)) = w3 at *
  clear f0 f1 f3 z3 f2'
  obtain ⟨f0, f1, f2, f3, f4⟩ := HM3.out.field
  rw [show (((n + 1 : Nat)) : Int) = (n : Int) + 1 from by omega] at f3
  clear f2 f4
  have hn4 : ¬ ((20000 : Int) < (n : Int) + 1) := by omega
  go_quiet (fail)
  have HM4 := Lib.hid (HM3.out.draws nq)
  have HG4 := Lib.hid (gr_draws HG3.out nq)
  have HQ4 := Lib.hid (HQ3.out.below (Go.Joins.below_draws _ _ nq) HQ3.out.lt)
  generalize w3.drewN nq = w4 at *
  clear f0 f1 f3 HM3 HG3 HQ3 HM2 HG2 HQ2
  have HTO : Hid (intsC.takeO s.data.toList (p1 : Int) = intsP.takeN u) := Lib.hid (by
    unfold intsC.takeO
    rw [if_neg (by omega), show ((p1 : Int)).toNat = p1 from by omega, HDR.out])
  have HTK : Hid (∀ w', Calls Tryz.prog 29 #[.string s, .int .i64 (p1 : Int)] w' fun e w'' => e = .returned (intsD.rtV (intsP.takeN u)) ∧ w'' = w') := Lib.hid (fun w' => by
    have := intsD.rtake_any s (p1 : Int) w' (by omega)
    rw [HTO.out] at this
    exact this.mono (fun e w'' h => ⟨h.1, h.2.symm⟩))
  have HIN := Lib.hid (takeN_in u)
  have HTS : Hid (p1 + (intsP.takeN u).2.1 ≤ s.size) := Lib.hid (by
    have := takeN_size u
    have h4 : u.length = s.size - p1 := by rw [← HDR.out, List.length_drop, Array.length_toList, ByteArray.size_data]
    omega)
  have HER := Lib.hid (jsonR.takeN_err u)
  generalize intsP.takeN u = tk at *
  obtain ⟨z, sz, er⟩ := tk
  dsimp only at HR HIN HTS HER
  simp only [intsD.rtV] at HTK
  have hsz := HTS.out
  have her := HER.out
  obtain ⟨f0, f1, f2, f3, f4⟩ := HM4.out.field
  clear f2 f3 f4 HTO
  go_wp2
  go_quiet ((go_at_call 29; refine Calls.quiet_of_same (HTK.out _)))
  have HM5 := Lib.hid (HM4.out.draws nq)
  have HG5 := Lib.hid (gr_draws HG4.out nq)
  have HQ5 := Lib.hid (HQ4.out.below (Go.Joins.below_draws _ _ nq) HQ4.out.lt)
  generalize w4.drewN nq = w5 at *
  clear f0 f1 HM4 HG4 HQ4 HTK
  have hwI : IntKind.i64.wrap ((p1 : Int) + (sz : Int)) = (p1 : Int) + (sz : Int) := IntWalk.i64_in _ (by omega)
  by_cases h0 : er = 0
  · have HRe : Hid (rv d n (s.data.toList.drop p) = .ok (.mk 4 z ByteArray.empty [] []) (u.drop sz) (n + 1)) := Lib.hid (by rw [HR.out, if_pos h0])
    subst h0
    clear HR
    have HM6 : Hid (Rw (w5.setCell ⟨rb, 1, none⟩ (.int .i64 ((p1 : Int) + (sz : Int)))) rb s (p1 + sz) 0 (n + 1)) := Lib.hid (HM5.out.setP (p1 + sz))
    have HG6 := Lib.hid (gr_set HG5.out 1 (.int .i64 ((p1 : Int) + (sz : Int))))
    have HQ6 := Lib.hid (HQ5.out.kept (g1 w5 rb 1 (.int .i64 ((p1 : Int) + (sz : Int)))) (fun e => hqb (Option.some.inj e).symm))
    obtain ⟨f0, f1, f2, f3, f4⟩ := HM5.out.field
    have z1 := f4 1
    clear f0 f2 f3 f4
    obtain ⟨x0, x1, x2, x3, x4⟩ := whole5 HQ5.out
    have y0 := HQ5.out.frozen 0
    have y1 := HQ5.out.frozen 1
    have y2 := HQ5.out.frozen 2
    have y3 := HQ5.out.frozen 3
    have y4 := HQ5.out.frozen 4
    go_wp2
    generalize w5.setCell ⟨rb, 1, none⟩ (.int .i64 ((p1 : Int) + (sz : Int))) = w6 at *
    obtain ⟨hW9, hP9⟩ := fin_flat (r := rv d n (s.data.toList.drop p)) (w := w) (k := 4) (m := z) (t := ⟨#[]⟩) HM6.out HQ6.out hqb HG6.out HLE2.out (fun _ => ⟨by rw [HRe.out, drop_add, HDR.out]; rfl, hsz, by unfold In64; omega, HIN.out, Nat.zero_le _⟩) (fun e0 => absurd rfl e0)
    generalize ((((w6.setCell ⟨qb, 0, none⟩ (.int .i64 4)).setCell ⟨qb, 1, none⟩ (.int .i64 z)).setCell ⟨qb, 2, none⟩ (.string ⟨#[]⟩)).setCell ⟨qb, 3, none⟩ (.slice none 0 0)).setCell ⟨qb, 4, none⟩ (.slice none 0 0) = wZ at *
    obtain ⟨k0', k1', k2', k3', k4'⟩ := whole5 hW9
    refine bodyPost_ret (v := .agg #[.int .i64 4, .int .i64 z, .string ⟨#[]⟩, .slice none 0 0, .slice none 0 0]) (by simp [results, Tryz.results11, go_sem, k0', k1', k2', k3', k4']) rfl ?_
    exact hP9
  · have h0I : ¬ ((er : Int) = 0) := by omega
    have HFL := Lib.hid (fail_new w5 rb s p1 (n + 1) er HM5.out her)
    have HRe : Hid (rv d n (s.data.toList.drop p) = .err er) := Lib.hid (by rw [HR.out, if_neg h0])
    clear HR
    go_wp2_with fail
    refine HFL.out.mono ?_
    rintro x w6 ⟨rfl, hM6, hG6⟩
    have HQ6 := Lib.hid (HQ5.out.kept hG6 (fun e => hqb (Option.some.inj e).symm))
    have HM7 : Hid (Rw (w6.setCell ⟨rb, 1, none⟩ (.int .i64 ((p1 : Int) + (sz : Int)))) rb s (p1 + sz) er (n + 1)) := Lib.hid (hM6.setP (p1 + sz))
    have HG7 := Lib.hid (gr_set (gs HG5.out hG6) 1 (.int .i64 ((p1 : Int) + (sz : Int))))
    have HQ7 := Lib.hid (HQ6.out.kept (g1 w6 rb 1 (.int .i64 ((p1 : Int) + (sz : Int)))) (fun e => hqb (Option.some.inj e).symm))
    obtain ⟨f0, f1, f2, f3, f4⟩ := hM6.field
    have z1 := f4 1
    clear f0 f2 f3 f4 hM6 hG6 HFL
    obtain ⟨x0, x1, x2, x3, x4⟩ := whole5 HQ6.out
    have y0 := HQ6.out.frozen 0
    have y1 := HQ6.out.frozen 1
    have y2 := HQ6.out.frozen 2
    have y3 := HQ6.out.frozen 3
    have y4 := HQ6.out.frozen 4
    go_wp2
    generalize w6.setCell ⟨rb, 1, none⟩ (.int .i64 ((p1 : Int) + (sz : Int))) = w7 at *
    obtain ⟨hW9, hP9⟩ := fin_flat (r := rv d n (s.data.toList.drop p)) (w := w) (k := 4) (m := z) (t := ⟨#[]⟩) HM7.out HQ7.out hqb HG7.out HLE2.out (fun e0 => absurd e0 h0) (fun _ => HRe.out)
    generalize ((((w7.setCell ⟨qb, 0, none⟩ (.int .i64 4)).setCell ⟨qb, 1, none⟩ (.int .i64 z)).setCell ⟨qb, 2, none⟩ (.string ⟨#[]⟩)).setCell ⟨qb, 3, none⟩ (.slice none 0 0)).setCell ⟨qb, 4, none⟩ (.slice none 0 0) = wZ at *
    obtain ⟨k0', k1', k2', k3', k4'⟩ := whole5 hW9
    refine bodyPost_ret (v := .agg #[.int .i64 4, .int .i64 z, .string ⟨#[]⟩, .slice none 0 0, .slice none 0 0]) (by simp [results, Tryz.results11, go_sem, k0', k1', k2', k3', k4']) rfl ?_
    exact hP9
set_option maxRecDepth 100000 in
set_option maxHeartbeats 8000000 in
theorem value_none (s : ByteArray) (hs : s.size ≤ 100000) (w : World) (rb p d n : Nat) (hp : p ≤ s.size) (hdp : d ≤ 32) (hn : n = 20000) (h : Rw w rb s p 0 n) (hq : bs (s.data.toList.drop p) = []) :
    Calls Tryz.prog 11 #[.pointer (some ⟨rb, 0, none⟩), .int .i64 d] w (VlP rb s (rv d n (s.data.toList.drop p)) w) := by
  have hrw := Whole.lt h
  have hba : Below w.heap.size w (w.alloc (.cells #[.int .i64 0, .int .i64 0, .string ⟨#[]⟩, .slice none 0 0, .slice none 0 0] 26)) := (Below.refl _ _).alloc (Nat.le_refl _) _
  have hM1 := h.new hba
  have hQ1 : Whole (w.alloc (.cells #[.int .i64 0, .int .i64 0, .string ⟨#[]⟩, .slice none 0 0, .slice none 0 0] 26)) w.heap.size 26 [.int .i64 0, .int .i64 0, .string ⟨#[]⟩, .slice none 0 0, .slice none 0 0] := Whole.new w 26 [.int .i64 0, .int .i64 0, .string ⟨#[]⟩, .slice none 0 0, .slice none 0 0]
  have HG1 := Lib.hid (grown_below hba (some rb))
  have HQ1 := Lib.hid hQ1
  have HNX := Lib.hid (next_any _ rb s p n hM1 hp (by omega))
  have hqb : w.heap.size ≠ rb := by omega
  clear h hba hM1 hQ1
  go_enter Tryz.func11, Tryz.ntmps11
  go_wp2_with fail
  generalize w.alloc (.cells #[.int .i64 0, .int .i64 0, .string ⟨#[]⟩, .slice none 0 0, .slice none 0 0] 26) = w1 at *
  refine HNX.out.mono ?_
  rintro x w2 ⟨rfl, p1, hpp, hp1, hdr, hM2, hG2⟩
  have HM2 := Lib.hid hM2
  have HG2 := Lib.hid (gs HG1.out hG2)
  have HQ2 := Lib.hid (HQ1.out.kept hG2 (fun e => hqb (Option.some.inj e).symm))
  have HDR := Lib.hid hdr
  generalize hub : bs (s.data.toList.drop p) = u at *
  have HUB := Lib.hid hub
  generalize hqe : w.heap.size = qb at *
  have HLE2 : Hid (w.heap.size ≤ qb) := Lib.hid (Nat.le_of_eq hqe)
  clear hqe
  obtain ⟨f0, f1, f2, f3, f4⟩ := hM2.field
  have z3 := f4 3
  have f2' : w2.cell? ⟨rb, 2, none⟩ = some (.int .i64 0) := f2
  have hnn : IntKind.i64.wrap ((n : Int) + 1) = (n : Int) + 1 := IntWalk.i64_in _ (by omega)
  have HM3 : Hid (Rw (w2.setCell ⟨rb, 3, none⟩ (.int .i64 ((n : Int) + 1))) rb s p1 0 (n + 1)) := Lib.hid (HM2.out.setN (n + 1))
  have HG3 := Lib.hid (gr_set HG2.out 3 (.int .i64 ((n : Int) + 1)))
  have HQ3 := Lib.hid (HQ2.out.kept (g1 w2 rb 3 (.int .i64 ((n : Int) + 1))) (fun e => hqb (Option.some.inj e).symm))
  clear hub hdr hM2 hG2 f2 f4 HNX HG1 HQ1
  have HR : Hid (rv d n (s.data.toList.drop p) = if (intsP.takeN u).2.2 = 0 then .ok (.mk 4 (intsP.takeN u).1 ByteArray.empty [] []) (u.drop (intsP.takeN u).2.1) (n + 1) else .err (intsP.takeN u).2.2) := Lib.hid (by
    rw [rv_eq, HUB.out, if_pos hq, hq]; rfl)
  have hge : ¬ (p1 < s.size) := fun hlt => by
    have := HDR.out
    rw [hq, drop_at s hlt] at this; cases this
  have hltI : ¬ ((p1 : Int) < (s.size : Int)) := by omega
  have hn2 : (20000 : Int) < (n : Int) + 1 := by omega
  have hh : hd u = 0 := by rw [hq]; rfl
  rw [hh]
  clear hq hge hh
  have hn3 : (20000 : Int) ≤ (n : Int) := by omega
  clear hn
  go_wp2
  generalize w2.setCell ⟨rb, 3, none⟩ (.int .i64 ((n : Int) + 1)) = w3 at *
  clear f0 f1 f3 z3 f2'
  obtain ⟨f0, f1, f2, f3, f4⟩ := HM3.out.field
  rw [show (((n + 1 : Nat)) : Int) = (n : Int) + 1 from by omega] at f3
  clear f2 f4
  go_quiet (fail)
  have HM4 := Lib.hid (HM3.out.draws nq)
  have HG4 := Lib.hid (gr_draws HG3.out nq)
  have HQ4 := Lib.hid (HQ3.out.below (Go.Joins.below_draws _ _ nq) HQ3.out.lt)
  generalize w3.drewN nq = w4 at *
  clear f0 f1 f3 HM3 HG3 HQ3 HM2 HG2 HQ2
  have HTO : Hid (intsC.takeO s.data.toList (p1 : Int) = intsP.takeN u) := Lib.hid (by
    unfold intsC.takeO
    rw [if_neg (by omega), show ((p1 : Int)).toNat = p1 from by omega, HDR.out])
  have HTK : Hid (∀ w', Calls Tryz.prog 29 #[.string s, .int .i64 (p1 : Int)] w' fun e w'' => e = .returned (intsD.rtV (intsP.takeN u)) ∧ w'' = w') := Lib.hid (fun w' => by
    have := intsD.rtake_any s (p1 : Int) w' (by omega)
    rw [HTO.out] at this
    exact this.mono (fun e w'' h => ⟨h.1, h.2.symm⟩))
  have HIN := Lib.hid (takeN_in u)
  have HTS : Hid (p1 + (intsP.takeN u).2.1 ≤ s.size) := Lib.hid (by
    have := takeN_size u
    have h4 : u.length = s.size - p1 := by rw [← HDR.out, List.length_drop, Array.length_toList, ByteArray.size_data]
    omega)
  have HER := Lib.hid (jsonR.takeN_err u)
  generalize intsP.takeN u = tk at *
  obtain ⟨z, sz, er⟩ := tk
  dsimp only at HR HIN HTS HER
  simp only [intsD.rtV] at HTK
  have hsz := HTS.out
  have her := HER.out
  obtain ⟨f0, f1, f2, f3, f4⟩ := HM4.out.field
  clear f2 f3 f4 HTO
  go_wp2
  go_quiet ((go_at_call 29; refine Calls.quiet_of_same (HTK.out _)))
  have HM5 := Lib.hid (HM4.out.draws nq)
  have HG5 := Lib.hid (gr_draws HG4.out nq)
  have HQ5 := Lib.hid (HQ4.out.below (Go.Joins.below_draws _ _ nq) HQ4.out.lt)
  generalize w4.drewN nq = w5 at *
  clear f0 f1 HM4 HG4 HQ4 HTK
  have hwI : IntKind.i64.wrap ((p1 : Int) + (sz : Int)) = (p1 : Int) + (sz : Int) := IntWalk.i64_in _ (by omega)
  by_cases h0 : er = 0
  · have HRe : Hid (rv d n (s.data.toList.drop p) = .ok (.mk 4 z ByteArray.empty [] []) (u.drop sz) (n + 1)) := Lib.hid (by rw [HR.out, if_pos h0])
    subst h0
    clear HR
    have HM6 : Hid (Rw (w5.setCell ⟨rb, 1, none⟩ (.int .i64 ((p1 : Int) + (sz : Int)))) rb s (p1 + sz) 0 (n + 1)) := Lib.hid (HM5.out.setP (p1 + sz))
    have HG6 := Lib.hid (gr_set HG5.out 1 (.int .i64 ((p1 : Int) + (sz : Int))))
    have HQ6 := Lib.hid (HQ5.out.kept (g1 w5 rb 1 (.int .i64 ((p1 : Int) + (sz : Int)))) (fun e => hqb (Option.some.inj e).symm))
    obtain ⟨f0, f1, f2, f3, f4⟩ := HM5.out.field
    have z1 := f4 1
    clear f0 f2 f3 f4
    obtain ⟨x0, x1, x2, x3, x4⟩ := whole5 HQ5.out
    have y0 := HQ5.out.frozen 0
    have y1 := HQ5.out.frozen 1
    have y2 := HQ5.out.frozen 2
    have y3 := HQ5.out.frozen 3
    have y4 := HQ5.out.frozen 4
    go_wp2
    generalize w5.setCell ⟨rb, 1, none⟩ (.int .i64 ((p1 : Int) + (sz : Int))) = w6 at *
    obtain ⟨hW9, hP9⟩ := fin_flat (r := rv d n (s.data.toList.drop p)) (w := w) (k := 4) (m := z) (t := ⟨#[]⟩) HM6.out HQ6.out hqb HG6.out HLE2.out (fun _ => ⟨by rw [HRe.out, drop_add, HDR.out]; rfl, hsz, by unfold In64; omega, HIN.out, Nat.zero_le _⟩) (fun e0 => absurd rfl e0)
    generalize ((((w6.setCell ⟨qb, 0, none⟩ (.int .i64 4)).setCell ⟨qb, 1, none⟩ (.int .i64 z)).setCell ⟨qb, 2, none⟩ (.string ⟨#[]⟩)).setCell ⟨qb, 3, none⟩ (.slice none 0 0)).setCell ⟨qb, 4, none⟩ (.slice none 0 0) = wZ at *
    obtain ⟨k0', k1', k2', k3', k4'⟩ := whole5 hW9
    refine bodyPost_ret (v := .agg #[.int .i64 4, .int .i64 z, .string ⟨#[]⟩, .slice none 0 0, .slice none 0 0]) (by simp [results, Tryz.results11, go_sem, k0', k1', k2', k3', k4']) rfl ?_
    exact hP9
  · have h0I : ¬ ((er : Int) = 0) := by omega
    have HFL := Lib.hid (fail_new w5 rb s p1 (n + 1) er HM5.out her)
    have HRe : Hid (rv d n (s.data.toList.drop p) = .err er) := Lib.hid (by rw [HR.out, if_neg h0])
    clear HR
    go_wp2_with fail
    refine HFL.out.mono ?_
    rintro x w6 ⟨rfl, hM6, hG6⟩
    have HQ6 := Lib.hid (HQ5.out.kept hG6 (fun e => hqb (Option.some.inj e).symm))
    have HM7 : Hid (Rw (w6.setCell ⟨rb, 1, none⟩ (.int .i64 ((p1 : Int) + (sz : Int)))) rb s (p1 + sz) er (n + 1)) := Lib.hid (hM6.setP (p1 + sz))
    have HG7 := Lib.hid (gr_set (gs HG5.out hG6) 1 (.int .i64 ((p1 : Int) + (sz : Int))))
    have HQ7 := Lib.hid (HQ6.out.kept (g1 w6 rb 1 (.int .i64 ((p1 : Int) + (sz : Int)))) (fun e => hqb (Option.some.inj e).symm))
    obtain ⟨f0, f1, f2, f3, f4⟩ := hM6.field
    have z1 := f4 1
    clear f0 f2 f3 f4 hM6 hG6 HFL
    obtain ⟨x0, x1, x2, x3, x4⟩ := whole5 HQ6.out
    have y0 := HQ6.out.frozen 0
    have y1 := HQ6.out.frozen 1
    have y2 := HQ6.out.frozen 2
    have y3 := HQ6.out.frozen 3
    have y4 := HQ6.out.frozen 4
    go_wp2
    generalize w6.setCell ⟨rb, 1, none⟩ (.int .i64 ((p1 : Int) + (sz : Int))) = w7 at *
    obtain ⟨hW9, hP9⟩ := fin_flat (r := rv d n (s.data.toList.drop p)) (w := w) (k := 4) (m := z) (t := ⟨#[]⟩) HM7.out HQ7.out hqb HG7.out HLE2.out (fun e0 => absurd e0 h0) (fun _ => HRe.out)
    generalize ((((w7.setCell ⟨qb, 0, none⟩ (.int .i64 4)).setCell ⟨qb, 1, none⟩ (.int .i64 z)).setCell ⟨qb, 2, none⟩ (.string ⟨#[]⟩)).setCell ⟨qb, 3, none⟩ (.slice none 0 0)).setCell ⟨qb, 4, none⟩ (.slice none 0 0) = wZ at *
    obtain ⟨k0', k1', k2', k3', k4'⟩ := whole5 hW9
    refine bodyPost_ret (v := .agg #[.int .i64 4, .int .i64 z, .string ⟨#[]⟩, .slice none 0 0, .slice none 0 0]) (by simp [results, Tryz.results11, go_sem, k0', k1', k2', k3', k4']) rfl ?_
    exact hP9
end Go.Proofs.YtjcaffpmcgfhaaaGreatDoor.refE
