/-
  What is read is no greater than its text; the law JsonParses returns true.
-/
import Derived.Test.YtjcaffpmcgfhaaaGreatDoorRefF
import Derived.Test.YtjcaffpmcgfhaaaGreatDoorNodeG
import Derived.Test.YtjcaffpmcgfhaaaGreatDoorSameN
import Derived.Test.YtjcaffpmcgfhaaaGreatDoorJsonV
namespace Go.Proofs.YtjcaffpmcgfhaaaGreatDoor.refG
open Go.ChangeShapes Go.WideShapes Go.ChangeAt Go.RowKit Go.WideMaps Go.Maps nodeP nodeQ nodeS ownI jsonP jsonM jsonA jsonB errs errIs runesE quoteB jsonQ jsonR jsonL jsonV refC refF sameN nodeG
set_option linter.unusedSimpArgs false
set_option linter.unusedVariables false

theorem scal_sz {u : List UInt8} (h : (scal u).2.2 = 0) : sz (scal u).1 ≤ (scal u).2.1 := by
  unfold scal at h ⊢
  by_cases h1 : jsonP.hd u = 34
  · rw [if_pos h1] at h ⊢
    cases hs : jsonP.stk u with
    | none => rw [hs] at h; cases h
    | some q =>
      obtain ⟨x, n⟩ := q
      obtain ⟨i1, i2, i3, i4⟩ := stk_len hs
      show sz (.mk 5 0 ⟨x.toArray⟩ [] []) ≤ n
      have h2 : (⟨x.toArray⟩ : ByteArray).size = x.length := by simp [ByteArray.size]
      simp [sz, szs, sumL, h2]; omega
  rw [if_neg h1] at h ⊢
  by_cases h2 : isNum (jsonP.hd u) = true
  · rw [if_pos h2] at h ⊢
    by_cases h3 : (intsP.takeN u).2.2 = 0
    · rw [if_pos h3] at h ⊢
      obtain ⟨i1, i2, i3⟩ := takeN_len h3
      show sz (.mk 4 _ ByteArray.empty [] []) ≤ (intsP.takeN u).2.1
      simp [sz, szs, sumL]; omega
    · rw [if_neg h3] at h; exact absurd h h3
  rw [if_neg h2] at h ⊢
  by_cases h3 : Lib.hasPrefix u wNull = true
  · rw [if_pos h3]; show sz (word 1) ≤ 4; simp [word, sz, szs, sumL]
  rw [if_neg h3] at h ⊢
  by_cases h4 : Lib.hasPrefix u wFalse = true
  · rw [if_pos h4]; show sz (word 2) ≤ 5; simp [word, sz, szs, sumL]
  rw [if_neg h4] at h ⊢
  by_cases h5 : Lib.hasPrefix u wTrue = true
  · rw [if_pos h5]; show sz (word 3) ≤ 4; simp [word, sz, szs, sumL]
  rw [if_neg h5] at h; cases h
theorem sumL_app (a : List ByteArray) (x : ByteArray) : sumL (a ++ [x]) = sumL a + x.size := by simp [sumL]
theorem szs_app (a : List Nd) (x : Nd) : szs (a ++ [x]) = szs a + sz x := by
  induction a with
  | nil => simp [szs]
  | cons c a ih => simp [szs, ih]; omega
def fsz (g : Fr) : Nat := 1 + g.keys.length + sumL g.keys + szs g.kids
theorem fsz_node (g : Fr) : sz g.node = fsz g := by unfold Fr.node fsz; simp [sz]
def GV (d n : Nat) (u : List UInt8) (r : R3) : Prop := match r with
  | .ok x v m => sz x + v.length ≤ u.length
  | _ => True
def GK (d n : Nat) (u : List UInt8) (g : Fr) (r : R3) : Prop := match r with
  | .ok x v m => sz x + v.length ≤ u.length + fsz g
  | _ => True
theorem grow (N : Nat) : (∀ d n u, u.length ≤ N → GV d n u (rv d n u)) ∧ (∀ d n u g, u.length ≤ N → GK d n u g (rr d n u g)) ∧ (∀ d m v g, v.length ≤ N + 1 → GK d m v g (rt d m v g)) := by
  refine rd_ind (MV := GV) (MK := GK) (MT := GK) ?_ ?_ ?_ ?_ ?_ ?_ ?_ ?_ ?_ ?_ ?_ ?_ ?_ ?_ ?_ ?_ ?_ ?_ N
  · intros; trivial
  · intros; trivial
  · intros; trivial
  · intro d n u h1 h2 h3 h4 h5 h6
    show sz (Fr.node _) + _ ≤ _
    rw [fsz_node]
    have a1 := bs_len u
    have a2 := tail_len h1
    have a3 := bs_len (bs u).tail
    have a4 := tail_len h5
    simp [fsz, sumL, szs] at *; omega
  · intro d n u r h1 h2 h3 h4 h5 hr
    cases r with
    | ok x v m =>
      have a1 := bs_len u
      have a2 := tail_len h1
      have a3 := bs_len (bs u).tail
      have hr' : sz x + v.length ≤ (bs (bs u).tail).length + fsz ⟨decide (jsonP.hd (bs u) = 123), [], []⟩ := hr
      have h0 : fsz ⟨decide (jsonP.hd (bs u) = 123), [], []⟩ = 1 := by simp [fsz, sumL, szs]
      show sz x + v.length ≤ u.length
      omega
    | err e => trivial
    | stuck => trivial
  · intros; trivial
  · intro d n u h1 h2 h3 h4
    have a1 := bs_len u
    have a2 := scal_sz h4
    obtain ⟨i1, i2, _⟩ := scal_ok (u := bs u) h4 0
    show sz (scal (bs u)).1 + ((bs u).drop (scal (bs u)).2.1).length ≤ u.length
    rw [List.length_drop]; omega
  · intros; trivial
  · intros; trivial
  · intros; trivial
  · intros; trivial
  · intro d n u g x k y v m r ho hs hk h1 h2 hv ht
    cases r with
    | ok z w m2 =>
      have hv' : sz y + v.length ≤ (bs ((bs u).drop k)).tail.length := hv
      have ht' : sz z + w.length ≤ v.length + fsz ⟨g.obj, g.keys ++ [⟨x.toArray⟩], g.kids ++ [y]⟩ := ht
      have e : fsz ⟨g.obj, g.keys ++ [⟨x.toArray⟩], g.kids ++ [y]⟩ = fsz g + 1 + x.length + sz y := by
        have h2 : (⟨x.toArray⟩ : ByteArray).size = x.length := by simp [ByteArray.size]
        unfold fsz
        dsimp only
        rw [sumL_app, szs_app, List.length_append, h2]; simp; omega
      obtain ⟨i1, i2, i3, i4⟩ := stk_len hs
      have a1 := bs_len u
      have a2 := bs_len ((bs u).drop k)
      have a3 := tail_len h1
      rw [List.length_drop] at a2
      show sz z + w.length ≤ u.length + fsz g
      omega
    | err e => trivial
    | stuck => trivial
  · intros; trivial
  · intro d n u g y v m r ho hv ht
    cases r with
    | ok z w m2 =>
      have hv' : sz y + v.length ≤ u.length := hv
      have ht' : sz z + w.length ≤ v.length + fsz ⟨g.obj, g.keys, g.kids ++ [y]⟩ := ht
      have e : fsz ⟨g.obj, g.keys, g.kids ++ [y]⟩ = fsz g + sz y := by unfold fsz; dsimp only; rw [szs_app]; omega
      show sz z + w.length ≤ u.length + fsz g
      omega
    | err e => trivial
    | stuck => trivial
  · intros; trivial
  · intro d m v g h1 h2
    have a1 := bs_len v
    have a2 := tail_len h1
    show sz g.node + (bs v).tail.length ≤ v.length + fsz g
    rw [fsz_node]; omega
  · intro d m v g r h1 h2 h3 hr
    cases r with
    | ok z w m2 =>
      have hr' : sz z + w.length ≤ (bs v).tail.length + fsz g := hr
      have a1 := bs_len v
      have a2 := tail_len h1
      show sz z + w.length ≤ v.length + fsz g
      omega
    | err e => trivial
    | stuck => trivial
  · intros; trivial
/-- what Parse hands back is right, and no greater than the text -/
theorem out_good (l : List UInt8) (hl : l.length ≤ 100000) : sz (pOut l).1 ≤ l.length + 1 ∧ (pOut l).2 ≤ 13 ∧ ((pOut l).2 = 0 → RT (pOut l).1 = true) := by
  unfold pOut
  rw [if_neg (by omega)]
  have hg := rv_good (d := 0) (n := 0) (u := l) (by omega) (by omega)
  have hs := (grow l.length).1 0 0 l (Nat.le_refl _)
  have h0 : sz (word 0) = 1 := by simp [word, sz, szs, sumL]
  unfold parseJ
  cases hr : rv 0 0 l with
  | ok x v m =>
    rw [hr] at hg hs
    obtain ⟨i1, i2, i3, i4, i5⟩ := hg (by omega) (by omega)
    have hs' : sz x + v.length ≤ l.length := hs
    dsimp only
    by_cases hb : bs v = []
    · rw [if_pos hb]
      refine ⟨by dsimp only; omega, Nat.zero_le _, fun _ => ?_⟩
      unfold RT
      rw [i1]
      have : decide ((count x : Int) ≤ 20000) = true := by rw [decide_eq_true_eq]; omega
      rw [this]; rfl
    · rw [if_neg hb]
      exact ⟨by dsimp only; omega, by decide, fun e => by cases e⟩
  | err k =>
    rw [hr] at hg
    have h2 := hg (by omega) (by omega)
    exact ⟨by dsimp only; omega, h2.2, fun e => by dsimp only at e; omega⟩
  | stuck => exact absurd hr (rv_ne _ _ _)

theorem num_any (w : World) (ad : Nat → Addr) (hE : Errs w ad) (k : Nat) (hk : k ≤ 13) :
    Calls Tryz.prog 8 #[intsC.errV ad k] w fun e w' => e = .returned (.int .i64 (k : Int)) ∧ Below w.heap.size w w' := by
  cases k with
  | zero =>
    refine (num_nil w).mono ?_
    rintro e w' ⟨he, rfl⟩
    exact ⟨he, Below.refl _ _⟩
  | succ k =>
    refine (num_err w ad hE k (by omega)).mono ?_
    rintro e w' ⟨he, hb⟩
    exact ⟨he, hb⟩

set_option maxRecDepth 100000 in
set_option maxHeartbeats 8000000 in
theorem law_parses (s : ByteArray) (w : World) (ad : Nat → Addr) (hT : Tabs w) (hE : Errs w ad) (hR : intsC.Rng w) :
    Calls Tryz.prog 3 #[.string s] w fun e w' => e = .returned (.bool true) ∧ Below w.heap.size w w' := by
  have HAL := Lib.hid (alive w ad hT hE hR)
  have HT := Lib.hid hT
  have HE := Lib.hid hE
  have HR := Lib.hid hR
  clear hT hE hR
  by_cases hl : 3000 < s.size
  · have hlI : (3000 : Int) < (s.size : Int) := by omega
    clear hl
    go_enter Tryz.func3, Tryz.ntmps3
    go_wp2_with fail
    refine HAL.out.mono ?_
    rintro e w1 ⟨rfl, hb⟩
    have HB := Lib.hid hb
    clear hb
    go_wp2
    go_ret
    exact ⟨rfl, HB.out⟩
  · have hlI : ¬ ((3000 : Int) < (s.size : Int)) := by omega
    have hsI : (s.size : Int) ≤ 1000000 := by omega
    have HS : Hid (s.size ≤ 100000) := Lib.hid (by omega)
    have HO := Lib.hid (out_good s.data.toList (by rw [Array.length_toList, ByteArray.size_data]; omega))
    have HSZ : Hid (sz (pOut s.data.toList).1 ≤ 100000) := Lib.hid (by have := HO.out.1; rw [Array.length_toList, ByteArray.size_data] at this; omega)
    generalize hq0 : pOut s.data.toList = q at *
    have HQ0 := Lib.hid hq0
    clear hq0
    clear hl
    go_enter Tryz.func3, Tryz.ntmps3
    go_wp2_with fail
    refine HAL.out.mono ?_
    rintro e w1 ⟨rfl, hb1⟩
    have HB1 := Lib.hid hb1
    have HPA := Lib.hid (parse_any s w1 ad (tabs_below HT.out hb1) (HE.out.below hb1) (intsC.rng_below HR.out hb1) hsI)
    rw [HQ0.out] at HPA
    clear hb1 HAL
    go_wp2_with fail
    refine HPA.out.mono ?_
    rintro e w2 ⟨⟨k, m, t, a1, n1, c1, a2, n2, c2⟩, rfl, hb2, hx2⟩
    have hb3 : Below w2.heap.size w2 (w2.alloc (.cells #[.int .i64 k, .int .i64 m, .string t, .slice a1 n1 c1, .slice a2 n2 c2] 26)) := (Below.refl _ _).alloc (Nat.le_refl _) _
    have HB3 := Lib.hid ((HB1.out.trans (hb2.mono HB1.out.size)).trans (hb3.mono (by have := HB1.out.size; have := hb2.size; omega)))
    have HX3 := Lib.hid ((hx2.keep hb3).mono hb3.size)
    have HN3 : Hid (Whole (w2.alloc (.cells #[.int .i64 k, .int .i64 m, .string t, .slice a1 n1 c1, .slice a2 n2 c2] 26)) w2.heap.size 26 [.int .i64 k, .int .i64 m, .string t, .slice a1 n1 c1, .slice a2 n2 c2]) := Lib.hid (Whole.new w2 26 [.int .i64 k, .int .i64 m, .string t, .slice a1 n1 c1, .slice a2 n2 c2])
    have HRP := Lib.hid (rparse_any s (w2.alloc (.cells #[.int .i64 k, .int .i64 m, .string t, .slice a1 n1 c1, .slice a2 n2 c2] 26)) HS.out)
    rw [HQ0.out] at HRP
    clear hb2 hx2 hb3 HPA HB1
    dsimp only
    go_wp2_with fail
    generalize w2.alloc (.cells #[.int .i64 k, .int .i64 m, .string t, .slice a1 n1 c1, .slice a2 n2 c2] 26) = w3 at *
    generalize w2.heap.size = nb at *
    refine HRP.out.mono ?_
    rintro e w4 ⟨⟨k', m', t', a1', n1', c1', a2', n2', c2'⟩, rfl, hb4, hx4⟩
    have hb5 : Below w4.heap.size w4 (w4.alloc (.cells #[.int .i64 k', .int .i64 m', .string t', .slice a1' n1' c1', .slice a2' n2' c2'] 26)) := (Below.refl _ _).alloc (Nat.le_refl _) _
    have hb35 := hb4.trans (hb5.mono hb4.size)
    have HB5 := Lib.hid (HB3.out.trans (hb35.mono HB3.out.size))
    have HX5 := Lib.hid ((HX3.out.keep hb35).mono hb35.size)
    have HN5 := Lib.hid (HN3.out.below hb35 HN3.out.lt)
    have HY5 := Lib.hid ((hx4.keep hb5).mono hb5.size)
    have HM5 : Hid (Whole (w4.alloc (.cells #[.int .i64 k', .int .i64 m', .string t', .slice a1' n1' c1', .slice a2' n2' c2'] 26)) w4.heap.size 26 [.int .i64 k', .int .i64 m', .string t', .slice a1' n1' c1', .slice a2' n2' c2']) := Lib.hid (Whole.new w4 26 [.int .i64 k', .int .i64 m', .string t', .slice a1' n1' c1', .slice a2' n2' c2'])
    have HSM := Lib.hid (rsame_any q.1 q.1 _ _ _ HX5.out HY5.out)
    rw [same_yes rfl] at HSM
    have hnb : nb < w4.heap.size := Nat.lt_of_lt_of_le HN3.out.lt hb4.size
    have hne : nb ≠ w4.heap.size := by omega
    obtain ⟨x0, x1, x2, x3, x4⟩ := whole5 (HN3.out.below hb4 HN3.out.lt)
    clear hb4 hx4 hb5 hb35 HRP HX3 HN3 HB3
    dsimp only
    go_wp2_with fail
    generalize w4.alloc (.cells #[.int .i64 k', .int .i64 m', .string t', .slice a1' n1' c1', .slice a2' n2' c2'] 26) = w5 at *
    generalize w4.heap.size = mb at *
    clear x0 x1 x2 x3 x4
    refine HSM.out.mono ?_
    rintro e w6 ⟨rfl, hb6⟩
    have HB6 := Lib.hid (HB5.out.trans (hb6.mono HB5.out.size))
    have HX6 := Lib.hid ((HX5.out.keep hb6).mono hb6.size)
    have HN6 := Lib.hid (HN5.out.below hb6 HN5.out.lt)
    have HNM := Lib.hid (num_any w6 ad (HE.out.below HB6.out) q.2 HO.out.2.1)
    clear hb6 HSM HB5 HX5 HN5 HY5 HM5
    go_wp2_with fail
    refine HNM.out.mono ?_
    rintro e w7 ⟨rfl, hb7⟩
    have HB7 := Lib.hid (HB6.out.trans (hb7.mono HB6.out.size))
    have HX7 := Lib.hid ((HX6.out.keep hb7).mono hb7.size)
    obtain ⟨x0, x1, x2, x3, x4⟩ := whole5 (HN6.out.below hb7 HN6.out.lt)
    clear hb7 HNM HB6 HX6 HN6
    by_cases h0 : q.2 = 0
    · have HRT := Lib.hid (Right_any q.1 _ w7 HX7.out (tabs_below HT.out HB7.out) HSZ.out)
      rw [HO.out.2.2 h0] at HRT
      rw [h0]
      clear h0
      go_wp2_with fail
      refine HRT.out.mono ?_
      rintro e w8 ⟨rfl, hb8⟩
      have HB8 := Lib.hid (HB7.out.trans (hb8.mono HB7.out.size))
      clear hb8 HRT HB7
      go_wp2
      go_ret
      exact ⟨rfl, HB8.out⟩
    · have h0I : ¬ ((q.2 : Int) = 0) := by omega
      generalize q.2 = z at *
      clear h0
      go_wp2
      go_ret
      exact ⟨rfl, HB7.out⟩
end Go.Proofs.YtjcaffpmcgfhaaaGreatDoor.refG
