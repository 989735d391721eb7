/-
  Contracts of the reference's value, all cases, and of Parse.
-/
import Derived.Test.YtjcaffpmcgfhaaaGreatDoorRefE
import Derived.Test.YtjcaffpmcgfhaaaGreatDoorJsonL
namespace Go.Proofs.YtjcaffpmcgfhaaaGreatDoor.refF
open Go.ChangeShapes Go.WideShapes Go.ChangeAt Go.RowKit Go.WideMaps Go.Maps nodeP nodeQ nodeS ownI jsonP jsonM jsonN jsonO jsonA jsonB refP refA refB refC refD refW refE jsonQ jsonL
set_option linter.unusedSimpArgs false
set_option linter.unusedVariables false

theorem value_all (s : ByteArray) (hs : s.size ≤ 100000) : ∀ N, ValC s N := by
  intro N
  induction N using Nat.strongRecOn with
  | ind N ih =>
    intro w rb p d n hp hpN hd hn h
    have hA : n < 20000 → d < 32 → ∀ (w' : World) (p' : Nat), p < p' → p' ≤ s.size → Rw w' rb s p' 0 (n + 1) → Calls Tryz.prog 27 #[.pointer (some ⟨rb, 0, none⟩), .int .i64 d] w' (VlP rb s (arrR d (n + 1) (s.data.toList.drop p')) w') :=
      fun hn' hd' w' p' h1 h2 h3 => array_any s (s.size - p') (ih (s.size - p') (by omega)) hs w' rb p' d (n + 1) h2 (Nat.le_refl _) hd' (by omega) h3
    have hO : n < 20000 → d < 32 → ∀ (w' : World) (p' : Nat), p < p' → p' ≤ s.size → Rw w' rb s p' 0 (n + 1) → Calls Tryz.prog 28 #[.pointer (some ⟨rb, 0, none⟩), .int .i64 d] w' (VlP rb s (objR d (n + 1) (s.data.toList.drop p')) w') :=
      fun hn' hd' w' p' h1 h2 h3 => object_any s (s.size - p') (ih (s.size - p') (by omega)) hs w' rb p' d (n + 1) h2 (Nat.le_refl _) hd' (by omega) h3
    by_cases hf : n = 20000
    · by_cases hz : bs (s.data.toList.drop p) = []
      · exact value_none s hs w rb p d n hp hd hf h hz
      · exact value_full s hs w rb p d n hp hd hf h hz
    have hn' : n < 20000 := by omega
    by_cases h1 : jsonP.hd (bs (s.data.toList.drop p)) = 110
    · exact value_null s hs w rb p d n hp hd hn' h h1
    by_cases h2 : jsonP.hd (bs (s.data.toList.drop p)) = 102
    · exact value_false s hs w rb p d n hp hd hn' h h2
    by_cases h3 : jsonP.hd (bs (s.data.toList.drop p)) = 116
    · exact value_true s hs w rb p d n hp hd hn' h h3
    by_cases h4 : jsonP.hd (bs (s.data.toList.drop p)) = 34
    · exact value_text s hs w rb p d n hp hd hn' h h4
    by_cases h5 : jsonP.hd (bs (s.data.toList.drop p)) = 91
    · exact value_arr s hs w rb p d n hp hd hn' h h5 (hA hn')
    by_cases h6 : jsonP.hd (bs (s.data.toList.drop p)) = 123
    · exact value_obj s hs w rb p d n hp hd hn' h h6 (hO hn')
    exact value_num s hs w rb p d n hp hd hn' h ⟨h1, h2, h3, h4, h5, h6⟩

/-- what the reference's Parse leaves -/
def RpP (q : Nd × Nat) (w : World) (x : Ending) (w' : World) : Prop := ∃ v : Nw, x = .returned (.tuple #[.agg #[.int .i64 v.k, .int .i64 v.m, .string v.t, .slice v.a1 v.n1 v.c1, .slice v.a2 v.n2 v.c2], .int .i64 (q.2 : Nat)]) ∧ Below w.heap.size w w' ∧ NodeAt w' w'.heap.size q.1 v.l

theorem zero_in (w : World) (B : Nat) : NodeAt w B (word 0) [.int .i64 0, .int .i64 0, .string ⟨#[]⟩, .slice none 0 0, .slice none 0 0] :=
  .mk 0 0 ByteArray.empty [] [] _ none 0 0 0 (fun _ => []) ⟨by unfold In64; omega, by unfold In64; omega, Nat.zero_le _⟩ ⟨none, 0, 0, 0, rfl, Nat.zero_le _, fun h => absurd rfl h, fun i hi => absurd hi (Nat.not_lt_zero _), by simp⟩ (Nat.zero_le _) (fun h => absurd rfl h) (fun i hi => absurd hi (Nat.not_lt_zero _)) (fun i hi => absurd hi (Nat.not_lt_zero _))

set_option maxRecDepth 100000 in
set_option maxHeartbeats 8000000 in
theorem rparse_any (s : ByteArray) (w : World) (hs : s.size ≤ 100000) :
    Calls Tryz.prog 6 #[.string s] w (RpP (pOut s.data.toList) w) := by
  have hlen : s.data.toList.length = s.size := by rw [Array.length_toList, ByteArray.size_data]
  have HQ : Hid (pOut s.data.toList = match rv 0 0 s.data.toList with
      | .ok x v m => if bs v = [] then (x, 0) else (word 0, 1)
      | .err k => (word 0, k)
      | .stuck => (word 0, 0)) := Lib.hid (by
    unfold pOut
    rw [if_neg (by rw [hlen]; omega)]
    unfold parseJ
    cases rv 0 0 s.data.toList with
    | ok x v m => by_cases h : bs v = [] <;> simp [h]
    | err k => rfl
    | stuck => rfl)
  have hlI : ¬ ((100000 : Int) < (s.size : Int)) := by omega
  have b1 : Below w.heap.size w (w.alloc (.cells #[.int .i64 0, .int .i64 0, .string ⟨#[]⟩, .slice none 0 0, .slice none 0 0] 26)) := (Below.refl _ _).alloc (Nat.le_refl _) _
  have b2 : Below w.heap.size w ((w.alloc (.cells #[.int .i64 0, .int .i64 0, .string ⟨#[]⟩, .slice none 0 0, .slice none 0 0] 26)).alloc (.cells #[.string s, .int .i64 0, .int .i64 0, .int .i64 0] 43)) := b1.alloc (by simp) _
  have hb21 : Below (w.alloc (.cells #[.int .i64 0, .int .i64 0, .string ⟨#[]⟩, .slice none 0 0, .slice none 0 0] 26)).heap.size (w.alloc (.cells #[.int .i64 0, .int .i64 0, .string ⟨#[]⟩, .slice none 0 0, .slice none 0 0] 26)) ((w.alloc (.cells #[.int .i64 0, .int .i64 0, .string ⟨#[]⟩, .slice none 0 0, .slice none 0 0] 26)).alloc (.cells #[.string s, .int .i64 0, .int .i64 0, .int .i64 0] 43)) := (Below.refl _ _).alloc (Nat.le_refl _) _
  have n0 : Whole (w.alloc (.cells #[.int .i64 0, .int .i64 0, .string ⟨#[]⟩, .slice none 0 0, .slice none 0 0] 26)) w.heap.size 26 [.int .i64 0, .int .i64 0, .string ⟨#[]⟩, .slice none 0 0, .slice none 0 0] := Whole.new w 26 [.int .i64 0, .int .i64 0, .string ⟨#[]⟩, .slice none 0 0, .slice none 0 0]
  have w2Q := n0.below hb21 n0.lt
  have w2R : Rw ((w.alloc (.cells #[.int .i64 0, .int .i64 0, .string ⟨#[]⟩, .slice none 0 0, .slice none 0 0] 26)).alloc (.cells #[.string s, .int .i64 0, .int .i64 0, .int .i64 0] 43)) (w.heap.size + 1) s 0 0 0 := by
    have := Whole.new (w.alloc (.cells #[.int .i64 0, .int .i64 0, .string ⟨#[]⟩, .slice none 0 0, .slice none 0 0] 26)) 43 [.string s, .int .i64 0, .int .i64 0, .int .i64 0]
    rw [show (w.alloc (.cells #[.int .i64 0, .int .i64 0, .string ⟨#[]⟩, .slice none 0 0, .slice none 0 0] 26)).heap.size = w.heap.size + 1 from by simp] at this
    exact this
  have w2s : w.heap.size + 2 ≤ ((w.alloc (.cells #[.int .i64 0, .int .i64 0, .string ⟨#[]⟩, .slice none 0 0, .slice none 0 0] 26)).alloc (.cells #[.string s, .int .i64 0, .int .i64 0, .int .i64 0] 43)).heap.size := by simp
  have HV := Lib.hid (value_all s hs s.size _ (w.heap.size + 1) 0 0 0 (Nat.zero_le _) (by omega) (by omega) (by omega) w2R)
  rw [List.drop_zero] at HV
  have HGD := Lib.hid (jsonR.rv_good (d := 0) (n := 0) (u := s.data.toList) (by omega) (by omega))
  have HB2 := Lib.hid b2
  have HQ2 := Lib.hid w2Q
  clear hlen b1 b2 hb21 n0 w2Q w2R
  go_enter Tryz.func6, Tryz.ntmps6
  go_wp2_with fail
  generalize (w.alloc (.cells #[.int .i64 0, .int .i64 0, .string ⟨#[]⟩, .slice none 0 0, .slice none 0 0] 26)).alloc (.cells #[.string s, .int .i64 0, .int .i64 0, .int .i64 0] 43) = w2 at *
  refine HV.out.mono ?_
  rintro x w3 ⟨⟨k, m, t, a1, n1, c1, a2, n2, c2⟩, rfl, hG3, hR3⟩
  obtain ⟨p3, e3, n3, hM3, hm⟩ := hR3
  have hb34 : Below w3.heap.size w3 (w3.alloc (.cells #[.int .i64 k, .int .i64 m, .string t, .slice a1 n1 c1, .slice a2 n2 c2] 26)) := (Below.refl _ _).alloc (Nat.le_refl _) _
  have hrb : w.heap.size + 1 < w3.heap.size := hM3.lt
  have HM4 := Lib.hid (hM3.new hb34)
  have HN4 : Hid (Whole (w3.alloc (.cells #[.int .i64 k, .int .i64 m, .string t, .slice a1 n1 c1, .slice a2 n2 c2] 26)) w3.heap.size 26 [.int .i64 k, .int .i64 m, .string t, .slice a1 n1 c1, .slice a2 n2 c2]) := Lib.hid (Whole.new w3 26 [.int .i64 k, .int .i64 m, .string t, .slice a1 n1 c1, .slice a2 n2 c2])
  have hq3 := HQ2.out.kept hG3 (fun e => by have := Option.some.inj e; omega)
  have HQ4 := Lib.hid (hq3.below hb34 hq3.lt)
  have HB4 : Hid (Below w.heap.size w (w3.alloc (.cells #[.int .i64 k, .int .i64 m, .string t, .slice a1 n1 c1, .slice a2 n2 c2] 26))) := Lib.hid (HB2.out.trans ((Below.grown (Below.refl _ _) hG3 (by omega) (fun c hc => by have := Option.some.inj hc; omega)).trans (hb34.mono (by omega))))
  have HK4 : Hid (∀ b, w2.heap.size ≤ b → b < w3.heap.size → (w3.alloc (.cells #[.int .i64 k, .int .i64 m, .string t, .slice a1 n1 c1, .slice a2 n2 c2] 26)).heap[b]? = w3.heap[b]?) := Lib.hid (fun b _ hb => hb34.block b hb)
  have HS23 := Lib.hid hG3.size
  have HF3 := Lib.hid hM3.field.2.2.1
  have hsz4 : w3.heap.size < (w3.alloc (.cells #[.int .i64 k, .int .i64 m, .string t, .slice a1 n1 c1, .slice a2 n2 c2] 26)).heap.size := by simp
  have hnq : w3.heap.size ≠ w.heap.size := by omega
  have hnr : w3.heap.size ≠ w.heap.size + 1 := by omega
  have hqr : w.heap.size ≠ w.heap.size + 1 := by omega
  have hqb2 : w.heap.size < w2.heap.size := by omega
  have hrb2 : w.heap.size + 1 < w2.heap.size := by omega
  have HQB : Hid (w.heap.size ≤ w.heap.size) := Lib.hid (Nat.le_refl _)
  clear HV hG3 hM3 hb34 hq3 w2s
  cases hrv : rv 0 0 s.data.toList with
  | ok X v mm =>
    rw [hrv] at hm HQ
    obtain ⟨rfl, rfl, hp3, hd3, hx⟩ := hm
    have HX := Lib.hid hx
    have HNX := Lib.hid (next_any _ (w.heap.size + 1) s p3 n3 HM4.out hp3 (by omega))
    obtain ⟨f0, f1, f2, f3, f4⟩ := HM4.out.field
    have f2' : (w3.alloc (.cells #[.int .i64 k, .int .i64 m, .string t, .slice a1 n1 c1, .slice a2 n2 c2] 26)).cell? ⟨w.heap.size + 1, 2, none⟩ = some (.int .i64 0) := f2
    clear f0 f1 f2 f3 f4 hrv hx
    go_wp2_with fail
    generalize w3.alloc (.cells #[.int .i64 k, .int .i64 m, .string t, .slice a1 n1 c1, .slice a2 n2 c2] 26) = w4 at *
    refine HNX.out.mono ?_
    rintro x w5 ⟨rfl, p5, hp35, hp5, hdr5, hM5, hG5⟩
    have HM5 := Lib.hid hM5
    have HN5 := Lib.hid (HN4.out.kept hG5 (fun e => by have := Option.some.inj e; omega))
    have HQ5 := Lib.hid (HQ4.out.kept hG5 (fun e => by have := Option.some.inj e; omega))
    have HB5 := Lib.hid (HB4.out.grown hG5 (by have := HB4.out.size; omega) (fun c hc => by have := Option.some.inj hc; omega))
    have HK5 : Hid (∀ b, w2.heap.size ≤ b → b < w3.heap.size → w5.heap[b]? = w3.heap[b]?) := Lib.hid (fun b h1 h2 => (hG5.block b (by omega) (fun e => by have := Option.some.inj e; omega)).trans (HK4.out b h1 h2))
    clear hM5 hG5 HNX HN4 HQ4 HB4 HK4 f2' HM4
    have HS45 : Hid (w3.heap.size < w5.heap.size) := Lib.hid HN5.out.lt
    have HNB : Hid (w3.heap.size ≤ w3.heap.size) := Lib.hid (Nat.le_refl _)
    generalize hnb : w3.heap.size = nb at *
    have HNBE := Lib.hid hnb
    clear hnb
    obtain ⟨f0, f1, f2, f3, f4⟩ := HM5.out.field
    have f2' : w5.cell? ⟨w.heap.size + 1, 2, none⟩ = some (.int .i64 0) := f2
    clear f2 f3 f4
    by_cases hbv : bs v = []
    · have HQE : Hid (pOut s.data.toList = (X, 0)) := Lib.hid (by rw [HQ.out]; exact if_pos hbv)
      have hge : ¬ ((p5 : Int) < (s.size : Int)) := fun hlt => by
        have hlt' : p5 < s.size := by omega
        rw [hd3, hbv, drop_at s hlt'] at hdr5; cases hdr5
      obtain ⟨a0', a1', a2', a3', a4'⟩ := whole5 HN5.out
      clear hdr5 hd3 hbv
      obtain ⟨x0, x1, x2, x3, x4⟩ := whole5 HQ5.out
      have y0 := HQ5.out.frozen 0
      have y1 := HQ5.out.frozen 1
      have y2 := HQ5.out.frozen 2
      have y3 := HQ5.out.frozen 3
      have y4 := HQ5.out.frozen 4
      go_wp2
      have hW9 := set5_whole HQ5.out (.int .i64 k) (.int .i64 m) (.string t) (.slice a1 n1 c1) (.slice a2 n2 c2)
      have hG9 := set5_grown w5 w.heap.size (.int .i64 k) (.int .i64 m) (.string t) (.slice a1 n1 c1) (.slice a2 n2 c2)
      have hB9 := HB5.out.grown hG9 (by have := HQ5.out.lt; omega) (fun c hc => by have := Option.some.inj hc; omega)
      have hX9 : NodeAt (((((w5.setCell ⟨w.heap.size, 0, none⟩ (.int .i64 k)).setCell ⟨w.heap.size, 1, none⟩ (.int .i64 m)).setCell ⟨w.heap.size, 2, none⟩ (.string t)).setCell ⟨w.heap.size, 3, none⟩ (.slice a1 n1 c1)).setCell ⟨w.heap.size, 4, none⟩ (.slice a2 n2 c2)) (((((w5.setCell ⟨w.heap.size, 0, none⟩ (.int .i64 k)).setCell ⟨w.heap.size, 1, none⟩ (.int .i64 m)).setCell ⟨w.heap.size, 2, none⟩ (.string t)).setCell ⟨w.heap.size, 3, none⟩ (.slice a1 n1 c1)).setCell ⟨w.heap.size, 4, none⟩ (.slice a2 n2 c2)).heap.size X [.int .i64 k, .int .i64 m, .string t, .slice a1 n1 c1, .slice a2 n2 c2] :=
        (HX.out.keep (P' := Fresh w2 (((((w5.setCell ⟨w.heap.size, 0, none⟩ (.int .i64 k)).setCell ⟨w.heap.size, 1, none⟩ (.int .i64 m)).setCell ⟨w.heap.size, 2, none⟩ (.string t)).setCell ⟨w.heap.size, 3, none⟩ (.slice a1 n1 c1)).setCell ⟨w.heap.size, 4, none⟩ (.slice a2 n2 c2))) (fun b hb => ⟨hb.1, Nat.lt_of_lt_of_le hb.2 (by have h1 := HN5.out.lt; have h2 := hG9.size; have h3 := HS45.out; have h4 := HNBE.out; omega)⟩) (fun b hb => (hG9.block b (by have h1 := hb.2; have h3 := HS45.out; have h4 := HNBE.out; omega) (fun e => by have := Option.some.inj e; have := hb.1; omega)).trans (HK5.out b hb.1 (by have h1 := hb.2; have h3 := HNBE.out; omega)))).at (fun b hb => hb.2)
      generalize ((((w5.setCell ⟨w.heap.size, 0, none⟩ (.int .i64 k)).setCell ⟨w.heap.size, 1, none⟩ (.int .i64 m)).setCell ⟨w.heap.size, 2, none⟩ (.string t)).setCell ⟨w.heap.size, 3, none⟩ (.slice a1 n1 c1)).setCell ⟨w.heap.size, 4, none⟩ (.slice a2 n2 c2) = w9 at *
      obtain ⟨k0', k1', k2', k3', k4'⟩ := whole5 hW9
      refine bodyPost_ret (v := .tuple #[.agg #[.int .i64 k, .int .i64 m, .string t, .slice a1 n1 c1, .slice a2 n2 c2], .int .i64 0]) (by simp [results, Tryz.results6, go_sem, k0', k1', k2', k3', k4']) rfl ?_
      exact ⟨⟨k, m, t, a1, n1, c1, a2, n2, c2⟩, by rw [HQE.out]; rfl, hB9, by rw [HQE.out]; exact hX9⟩
    · have HQE : Hid (pOut s.data.toList = (word 0, 1)) := Lib.hid (by rw [HQ.out]; exact if_neg hbv)
      have hlt : p5 < s.size := Decidable.byContradiction fun h => hbv (by rw [← hd3, ← hdr5, drop_no s h])
      have hltI : (p5 : Int) < (s.size : Int) := by omega
      have HFL := Lib.hid (fail_new w5 (w.heap.size + 1) s p5 n3 1 HM5.out (by omega))
      clear hdr5 hd3 hbv HX
      go_wp2_with fail
      refine HFL.out.mono ?_
      rintro x w6 ⟨rfl, hM6, hG6⟩
      have HQ6 := Lib.hid (HQ5.out.kept hG6 (fun e => by have := Option.some.inj e; omega))
      have HB6 := Lib.hid (HB5.out.grown hG6 (by have := HB5.out.size; omega) (fun c hc => by have := Option.some.inj hc; omega))
      obtain ⟨g0, g1, g2, g3, g4⟩ := hM6.field
      have g2' : w6.cell? ⟨w.heap.size + 1, 2, none⟩ = some (.int .i64 1) := g2
      clear g0 g1 g2 g3 g4 f0 f1 f2' hM6 hG6 HFL
      obtain ⟨x0, x1, x2, x3, x4⟩ := whole5 HQ6.out
      have y0 := HQ6.out.frozen 0
      have y1 := HQ6.out.frozen 1
      have y2 := HQ6.out.frozen 2
      have y3 := HQ6.out.frozen 3
      have y4 := HQ6.out.frozen 4
      go_wp2
      go_region
      go_wp2
      have hW8 := set5_whole HQ6.out (.int .i64 0) (.int .i64 0) (.string ⟨#[]⟩) (.slice none 0 0) (.slice none 0 0)
      have hW9 := Whole.below hW8 (Below.refl _ _).drew (Whole.lt hW8)
      have hB9 : Below w.heap.size w (((((w6.setCell ⟨w.heap.size, 0, none⟩ (.int .i64 0)).setCell ⟨w.heap.size, 1, none⟩ (.int .i64 0)).setCell ⟨w.heap.size, 2, none⟩ (.string ⟨#[]⟩)).setCell ⟨w.heap.size, 3, none⟩ (.slice none 0 0)).setCell ⟨w.heap.size, 4, none⟩ (.slice none 0 0)).drew := (((((HB6.out.setCell (p := ⟨w.heap.size, 0, none⟩) HQB.out _).setCell (p := ⟨w.heap.size, 1, none⟩) HQB.out _).setCell (p := ⟨w.heap.size, 2, none⟩) HQB.out _).setCell (p := ⟨w.heap.size, 3, none⟩) HQB.out _).setCell (p := ⟨w.heap.size, 4, none⟩) HQB.out _).drew
      generalize (((((w6.setCell ⟨w.heap.size, 0, none⟩ (.int .i64 0)).setCell ⟨w.heap.size, 1, none⟩ (.int .i64 0)).setCell ⟨w.heap.size, 2, none⟩ (.string ⟨#[]⟩)).setCell ⟨w.heap.size, 3, none⟩ (.slice none 0 0)).setCell ⟨w.heap.size, 4, none⟩ (.slice none 0 0)).drew = w9 at *
      obtain ⟨k0', k1', k2', k3', k4'⟩ := whole5 hW9
      refine bodyPost_ret (v := .tuple #[.agg #[.int .i64 0, .int .i64 0, .string ⟨#[]⟩, .slice none 0 0, .slice none 0 0], .int .i64 1]) (by simp [results, Tryz.results6, go_sem, k0', k1', k2', k3', k4']) rfl ?_
      exact ⟨⟨0, 0, ⟨#[]⟩, none, 0, 0, none, 0, 0⟩, by rw [HQE.out]; rfl, hB9, by rw [HQE.out]; exact zero_in _ _⟩
  | err kk =>
    rw [hrv] at hm HQ
    obtain ⟨rfl, hk0⟩ := hm
    have HQE : Hid (pOut s.data.toList = (word 0, e3)) := Lib.hid HQ.out
    have heI : ¬ ((e3 : Int) = 0) := by omega
    have f2 := HF3.out
    clear hrv
    go_wp2
    generalize w3.alloc (.cells #[.int .i64 k, .int .i64 m, .string t, .slice a1 n1 c1, .slice a2 n2 c2] 26) = w4 at *
    clear f2
    obtain ⟨f0, f1, f2, f3, f4⟩ := HM4.out.field
    clear f0 f1 f3 f4
    obtain ⟨x0, x1, x2, x3, x4⟩ := whole5 HQ4.out
    have y0 := HQ4.out.frozen 0
    have y1 := HQ4.out.frozen 1
    have y2 := HQ4.out.frozen 2
    have y3 := HQ4.out.frozen 3
    have y4 := HQ4.out.frozen 4
    go_region
    go_wp2
    have hW8 := set5_whole HQ4.out (.int .i64 0) (.int .i64 0) (.string ⟨#[]⟩) (.slice none 0 0) (.slice none 0 0)
    have hW9 := Whole.below hW8 (Below.refl _ _).drew (Whole.lt hW8)
    have hB9 : Below w.heap.size w (((((w4.setCell ⟨w.heap.size, 0, none⟩ (.int .i64 0)).setCell ⟨w.heap.size, 1, none⟩ (.int .i64 0)).setCell ⟨w.heap.size, 2, none⟩ (.string ⟨#[]⟩)).setCell ⟨w.heap.size, 3, none⟩ (.slice none 0 0)).setCell ⟨w.heap.size, 4, none⟩ (.slice none 0 0)).drew := (((((HB4.out.setCell (p := ⟨w.heap.size, 0, none⟩) HQB.out _).setCell (p := ⟨w.heap.size, 1, none⟩) HQB.out _).setCell (p := ⟨w.heap.size, 2, none⟩) HQB.out _).setCell (p := ⟨w.heap.size, 3, none⟩) HQB.out _).setCell (p := ⟨w.heap.size, 4, none⟩) HQB.out _).drew
    generalize (((((w4.setCell ⟨w.heap.size, 0, none⟩ (.int .i64 0)).setCell ⟨w.heap.size, 1, none⟩ (.int .i64 0)).setCell ⟨w.heap.size, 2, none⟩ (.string ⟨#[]⟩)).setCell ⟨w.heap.size, 3, none⟩ (.slice none 0 0)).setCell ⟨w.heap.size, 4, none⟩ (.slice none 0 0)).drew = w9 at *
    obtain ⟨k0', k1', k2', k3', k4'⟩ := whole5 hW9
    refine bodyPost_ret (v := .tuple #[.agg #[.int .i64 0, .int .i64 0, .string ⟨#[]⟩, .slice none 0 0, .slice none 0 0], .int .i64 e3]) (by simp [results, Tryz.results6, go_sem, k0', k1', k2', k3', k4']) rfl ?_
    exact ⟨⟨0, 0, ⟨#[]⟩, none, 0, 0, none, 0, 0⟩, by rw [HQE.out], hB9, by rw [HQE.out]; exact zero_in _ _⟩
  | stuck => rw [hrv] at hm; exact hm.elim
end Go.Proofs.YtjcaffpmcgfhaaaGreatDoor.refF
