/-
  Plain law of reading JSON: what is behind a value, and blanks behind a text, don't matter; a right value's text is read as that value.
-/
import Derived.Test.YtdbidkfjbhclcaaDoorJsoM
namespace Go.Proofs.YtdbidkfjbhclcaaDoor.jsonS
open Go.Proofs.YtdbidkfjbhclcaaDoor.nodeP Go.Proofs.YtdbidkfjbhclcaaDoor.nodeQ Go.Proofs.YtdbidkfjbhclcaaDoor.utfP Go.Proofs.YtdbidkfjbhclcaaDoor.utfQ Go.Proofs.YtdbidkfjbhclcaaDoor.utfR Go.Proofs.YtdbidkfjbhclcaaDoor.jsonP Go.Proofs.YtdbidkfjbhclcaaDoor.jsonQ Go.Proofs.YtdbidkfjbhclcaaDoor.jsonR
set_option linter.unusedSimpArgs false
set_option linter.unusedVariables false

/-- nothing that goes on a number -/
def gH (u : List UInt8) : Prop := ¬ (48 ≤ hd u ∧ hd u ≤ 57) ∧ hd u ≠ 46 ∧ hd u ≠ 101 ∧ hd u ≠ 69
theorem hd_get (u : List UInt8) : hd u = (u.getD 0 0).toNat := by cases u <;> rfl
theorem hd_app {u : List UInt8} (h : u ≠ []) (t : List UInt8) : hd (u ++ t) = hd u := by cases u with | nil => exact absurd rfl h | cons c u => rfl
theorem tail_app {u : List UInt8} (h : u ≠ []) (t : List UInt8) : (u ++ t).tail = u.tail ++ t := by cases u with | nil => exact absurd rfl h | cons c u => rfl
theorem bs_app {u : List UInt8} (h : bs u ≠ []) (t : List UInt8) : bs (u ++ t) = bs u ++ t := by
  induction u with
  | nil => exact absurd rfl h
  | cons c u ih =>
    by_cases hc : isBl c = true
    · have e : bs (c :: u) = bs u := by unfold bs; rw [List.dropWhile_cons, if_pos hc]
      rw [e] at h ⊢
      rw [List.cons_append]
      have e2 : bs (c :: (u ++ t)) = bs (u ++ t) := by unfold bs; rw [List.dropWhile_cons, if_pos hc]
      rw [e2]; exact ih h
    · have e : bs (c :: u) = c :: u := by unfold bs; rw [List.dropWhile_cons, if_neg hc]
      rw [e, List.cons_append]
      unfold bs; rw [List.dropWhile_cons, if_neg hc]
theorem bs_app0 {u : List UInt8} (h : bs u = []) (t : List UInt8) : bs (u ++ t) = bs t := by
  induction u with
  | nil => rfl
  | cons c u ih =>
    by_cases hc : isBl c = true
    · have e : bs (c :: u) = bs u := by unfold bs; rw [List.dropWhile_cons, if_pos hc]
      rw [e] at h
      rw [List.cons_append]
      have e2 : bs (c :: (u ++ t)) = bs (u ++ t) := by unfold bs; rw [List.dropWhile_cons, if_pos hc]
      rw [e2]; exact ih h
    · have e : bs (c :: u) = c :: u := by unfold bs; rw [List.dropWhile_cons, if_neg hc]
      rw [e] at h; cases h
theorem bs_head {u : List UInt8} (h : bs u ≠ []) : bs u = u ∨ (u ≠ [] ∧ (hd u = 9 ∨ hd u = 10 ∨ hd u = 13 ∨ hd u = 32)) := by
  cases u with
  | nil => exact absurd rfl h
  | cons c u =>
    by_cases hc : isBl c = true
    · right
      refine ⟨by simp, ?_⟩
      show c.toNat = 9 ∨ c.toNat = 10 ∨ c.toNat = 13 ∨ c.toNat = 32
      simp only [isBl, Bool.or_eq_true, beq_iff_eq] at hc
      rcases hc with ((h | h) | h) | h <;> rw [h] <;> simp
    · left; unfold bs; rw [List.dropWhile_cons, if_neg hc]
theorem bs_nil_head {u : List UInt8} (h : bs u = []) : hd u = 0 ∨ hd u = 9 ∨ hd u = 10 ∨ hd u = 13 ∨ hd u = 32 := by
  cases u with
  | nil => left; rfl
  | cons c u =>
    by_cases hc : isBl c = true
    · right
      show c.toNat = 9 ∨ c.toNat = 10 ∨ c.toNat = 13 ∨ c.toNat = 32
      simp only [isBl, Bool.or_eq_true, beq_iff_eq] at hc
      rcases hc with ((h | h) | h) | h <;> rw [h] <;> simp
    · have e : bs (c :: u) = c :: u := by unfold bs; rw [List.dropWhile_cons, if_neg hc]
      rw [e] at h; cases h
theorem gH_of {u : List UInt8} (h : bs u ≠ []) (h2 : hd (bs u) = 93 ∨ hd (bs u) = 125 ∨ hd (bs u) = 44) (t : List UInt8) : gH (u ++ t) := by
  unfold gH
  rcases bs_head h with e | ⟨hne, e⟩
  · rw [e] at h h2
    rw [hd_app h]; omega
  · rw [hd_app hne]; omega
theorem gH_bl {u t : List UInt8} (h : bs u = []) (ht : gH t) : gH (u ++ t) := by
  cases u with
  | nil => exact ht
  | cons c u =>
    have := bs_nil_head h
    unfold gH
    rw [hd_app (by simp)]
    have hc : hd (c :: u) ≠ 0 := by
      intro e
      have hb : isBl c = true := by
        by_cases hc : isBl c = true
        · exact hc
        · have e : bs (c :: u) = c :: u := by unfold bs; rw [List.dropWhile_cons, if_neg hc]
          rw [e] at h; cases h
      have e' : c.toNat = 0 := e
      simp only [isBl, Bool.or_eq_true, beq_iff_eq] at hb
      rcases hb with ((h | h) | h) | h <;> (rw [h] at e'; simp at e')
    omega

/-- a string doesn't hang on what is behind -/
theorem tk_local : ∀ (N : Nat) (l : List UInt8), l.length ≤ N → ∀ x m, quoteP.tk l = some (x, m) → ∀ t, quoteP.tk (l.take m ++ t) = some (x, m) := by
  intro N
  induction N with
  | zero =>
    intro l h x m e
    obtain rfl : l = [] := List.length_eq_zero_iff.1 (by omega)
    cases e
  | succ N ih =>
    intro l h x m e t
    by_cases hn : l = []
    · subst hn; cases e
    have hp : 0 < l.length := List.length_pos_iff.2 hn
    by_cases z : bt l 0 = 34
    · rw [quoteP.tk_end hn z] at e
      have := Option.some.inj e
      rw [Prod.mk.injEq] at this
      obtain ⟨rfl, rfl⟩ := this
      have hb := quoteP.take_bt l t 1 0 (by omega) (by omega)
      rw [quoteP.tk_end (by cases l with | nil => exact absurd rfl hn | cons c l => simp) (by rw [hb]; exact z)]
    · cases hq : quoteP.pc l with
      | none => rw [quoteP.tk_no z hq] at e; cases e
      | some q =>
        obtain ⟨r, k⟩ := q
        obtain ⟨p1, p2, p3, p4, p5, p6, _⟩ := quoteP.pc_ok hq
        rw [quoteP.tk_yes z hq] at e
        cases ht : quoteP.tk (l.drop k) with
        | none => rw [ht] at e; cases e
        | some y =>
          obtain ⟨y1, y2⟩ := y
          rw [ht] at e
          have := Option.some.inj e
          rw [Prod.mk.injEq] at this
          obtain ⟨rfl, rfl⟩ := this
          have hi := ih (l.drop k) (by rw [List.length_drop]; omega) y1 y2 ht t
          have hlen := (quoteP.tk_len _ _ (Nat.le_refl _) _ _ ht).2.1
          rw [List.length_drop] at hlen
          have es : l.take (k + y2) ++ t = l.take k ++ ((l.drop k).take y2 ++ t) := by
            rw [List.take_add, List.append_assoc]
          dsimp only
          rw [es]
          have hb : bt (l.take k ++ ((l.drop k).take y2 ++ t)) 0 = bt l 0 := quoteP.take_bt l _ k 0 p4 (by omega)
          have hd' : (l.take k ++ ((l.drop k).take y2 ++ t)).drop k = (l.drop k).take y2 ++ t := by
            rw [List.drop_append_of_le_length (by rw [List.length_take]; omega), List.drop_of_length_le (by rw [List.length_take]; omega), List.nil_append]
          rw [quoteP.tk_yes (by rw [hb]; exact z) (quoteP.pc_local hq _), hd', hi]
          rfl
theorem stk_app {l x : List UInt8} {n : Nat} (h : stk l = some (x, n)) (t : List UInt8) : stk (l ++ t) = some (x, n) := by
  have hl := stk_len h
  unfold stk at h ⊢
  by_cases h34 : bt l 0 = 34
  · have hne : l ≠ [] := by rintro rfl; cases h34
    have hb : bt (l ++ t) 0 = bt l 0 := by rw [← hd_bt, ← hd_bt, hd_app hne]
    rw [if_pos h34] at h
    rw [if_pos (by rw [hb]; exact h34), tail_app hne]
    obtain ⟨q, hq, e⟩ := Option.map_eq_some_iff.1 h
    obtain ⟨y, m⟩ := q
    rw [Prod.mk.injEq] at e
    obtain ⟨rfl, rfl⟩ := e
    have := tk_local _ _ (Nat.le_refl _) y m hq (l.tail.drop m ++ t)
    rw [← List.append_assoc, List.take_append_drop] at this
    rw [this]; rfl
  · rw [if_neg h34] at h; cases h

theorem num_app {l t : List UInt8} (h : (intsP.takeN l).2.2 = 0) (ht : gH (l.drop (intsP.takeN l).2.1 ++ t)) : intsP.takeN (l ++ t) = intsP.takeN l := by
  have hw := intsP.whole_le l
  unfold intsP.takeN at h ht
  by_cases h0 : intsP.whole l = 0
  · rw [if_pos h0] at h; cases h
  rw [if_neg h0] at h ht
  by_cases h1 : intsP.whole l < intsP.every l
  · rw [if_pos h1] at h; cases h
  rw [if_neg h1] at h ht
  cases hv : intsP.valO (l.take (intsP.whole l)) with
  | none => rw [hv] at h; cases h
  | some v =>
    rw [hv] at h ht
    dsimp only at ht
    have e0 : intsP.takeN l = (v, intsP.whole l, 0) := by unfold intsP.takeN; rw [if_neg h0, if_neg h1, hv]
    obtain ⟨d1, d2, d3, d4⟩ := intsP.whole_digits l h0
    have ha : l.take (intsP.whole l) = intsP.sgn (decide (intsP.sg l = 1)) ((l.take (intsP.whole l)).drop (intsP.sg l)) := by
      unfold intsP.sg at d4 ⊢
      by_cases hb : intsP.bt l 0 = 45
      · rw [if_pos hb]
        cases l with
        | nil => cases hb
        | cons c l =>
          have hc : c = 45 := UInt8.toNat_inj.1 hb
          subst hc
          obtain ⟨k, hk⟩ : ∃ k, intsP.whole (45 :: l) = k + 1 := ⟨intsP.whole (45 :: l) - 1, by omega⟩
          rw [hk]; rfl
      · rw [if_neg hb]; rfl
    rw [d3] at d1 d2
    generalize hdg : (l.take (intsP.whole l)).drop (intsP.sg l) = dg at *
    have h48 : intsP.bt dg 0 = 48 → dg.length = 1 := by
      intro hz
      have hlen : dg.length = intsP.whole l - intsP.sg l := by rw [← hdg, List.length_drop, List.length_take]; omega
      have hb : intsP.bt l (intsP.sg l) = 48 := by
        rw [← hz, ← hdg]
        unfold intsP.bt
        rw [List.getD_eq_getElem?_getD, List.getD_eq_getElem?_getD, List.getElem?_drop, List.getElem?_take, if_pos (by omega)]; rfl
      have : intsP.whole l = intsP.sg l + 1 := by
        unfold intsP.whole at h0 ⊢
        by_cases hz : intsP.dn (l.drop (intsP.sg l)) = 0
        · rw [if_pos hz] at h0; exact absurd rfl h0
        · rw [if_neg hz, if_pos hb]
      omega
    obtain ⟨g1, g2, g3, g4⟩ := ht
    have hh : ∀ u : List UInt8, hd u = intsP.bt u 0 := fun u => by cases u <;> rfl
    have hu : intsP.isD ((l.drop (intsP.whole l) ++ t).getD 0 0) = false := by
      unfold intsP.isD; rw [← hd_get]; simpa using g1
    rw [hh] at g2 g3 g4
    have := intsP.take_text (decide (intsP.sg l = 1)) dg (l.drop (intsP.whole l) ++ t) v d2 d1 h48 hu ⟨g2, g3, g4⟩ (by rw [← ha]; exact hv)
    rw [← ha, ← List.append_assoc, List.take_append_drop] at this
    rw [e0, this, List.length_take, Nat.min_eq_left hw]

theorem pre_app {u t w : List UInt8} (h : Lib.hasPrefix u w = true) : Lib.hasPrefix (u ++ t) w = true := pre_iff.2 ((pre_iff.1 h).trans (List.prefix_append _ _))
theorem pre_hd {u w : List UInt8} (h : Lib.hasPrefix u w = true) (hw : w ≠ []) : hd u = hd w := by
  obtain ⟨t, rfl⟩ := pre_iff.1 h
  exact hd_app hw t

theorem scal_app {u t : List UInt8} (h : (scal u).2.2 = 0) (hu : u ≠ []) (ht : gH (u.drop (scal u).2.1 ++ t)) : scal (u ++ t) = scal u := by
  unfold scal at h ht ⊢
  rw [hd_app hu]
  by_cases h1 : hd u = 34
  · rw [if_pos h1] at h ⊢
    rw [if_pos h1]
    cases hs : stk u with
    | none => rw [hs] at h; cases h
    | some q => obtain ⟨x, n⟩ := q; rw [stk_app hs t]
  rw [if_neg h1] at h ht ⊢
  rw [if_neg h1]
  by_cases h2 : isNum (hd u) = true
  · rw [if_pos h2] at h ht ⊢
    rw [if_pos h2]
    by_cases h3 : (intsP.takeN u).2.2 = 0
    · rw [if_pos h3] at h ht ⊢
      rw [num_app h3 ht, if_pos h3]
    · rw [if_neg h3] at h; exact absurd h h3
  rw [if_neg h2] at h ⊢
  rw [if_neg h2]
  have hn : ∀ w, Lib.hasPrefix (u ++ t) w = true → w ≠ [] → hd u = hd w := fun w hw hn => by rw [← hd_app hu t]; exact pre_hd hw hn
  by_cases h3 : Lib.hasPrefix u wNull = true
  · rw [if_pos h3, if_pos (pre_app h3)]
  rw [if_neg h3] at h ⊢
  by_cases h4 : Lib.hasPrefix u wFalse = true
  · have e4 := pre_hd h4 (by decide)
    rw [if_pos h4, if_neg (fun hh => by have := hn _ hh (by decide); rw [e4] at this; revert this; decide), if_pos (pre_app h4)]
  rw [if_neg h4] at h ⊢
  by_cases h5 : Lib.hasPrefix u wTrue = true
  · have e5 := pre_hd h5 (by decide)
    rw [if_pos h5, if_neg (fun hh => by have := hn _ hh (by decide); rw [e5] at this; revert this; decide), if_neg (fun hh => by have := hn _ hh (by decide); rw [e5] at this; revert this; decide), if_pos (pre_app h5)]
  rw [if_neg h5] at h; cases h

/-- what is behind a value doesn't matter -/
def AV (d n : Nat) (u : List UInt8) (r : R3) : Prop := match r with
  | .ok x v m => ∀ t, gH (v ++ t) → rv d n (u ++ t) = .ok x (v ++ t) m
  | _ => True
def AK (d n : Nat) (u : List UInt8) (g : Fr) (r : R3) : Prop := match r with
  | .ok x v m => ∀ t, rr d n (u ++ t) g = .ok x (v ++ t) m
  | _ => True
def AT (d m : Nat) (v : List UInt8) (g : Fr) (r : R3) : Prop := match r with
  | .ok x w k => ∀ t, gH (v ++ t) ∧ rt d m (v ++ t) g = .ok x (w ++ t) k
  | _ => True
theorem close_val (g : Fr) : g.close = 93 ∨ g.close = 125 := by unfold Fr.close; split <;> simp
theorem drop_app {u : List UInt8} {k : Nat} (h : k ≤ u.length) (t : List UInt8) : (u ++ t).drop k = u.drop k ++ t := List.drop_append_of_le_length h
theorem app_ne {u : List UInt8} (h : u ≠ []) (t : List UInt8) : u ++ t ≠ [] := by simp [h]
theorem ahead (N : Nat) : (∀ d n u, u.length ≤ N → AV d n u (rv d n u)) ∧ (∀ d n u g, u.length ≤ N → AK d n u g (rr d n u g)) ∧ (∀ d m v g, v.length ≤ N + 1 → AT d m v g (rt d m v g)) := by
  refine rd_ind (MV := AV) (MK := AK) (MT := AT) ?_ ?_ ?_ ?_ ?_ ?_ ?_ ?_ ?_ ?_ ?_ ?_ ?_ ?_ ?_ ?_ ?_ ?_ N
  · intro d n u _; trivial
  · intro d u _; trivial
  · intro n u _ _ _; trivial
  · intro d n u h1 h2 h3 h4 h5 h6 t ht
    rw [rv_eq, bs_app h1, hd_app h1, tail_app h1, bs_app h5, hd_app h5, tail_app h5, if_neg (app_ne h1 t), if_neg h2, if_pos h3, if_neg h4, if_pos ⟨app_ne h5 t, h6⟩]
  · intro d n u r h1 h2 h3 h4 h5 hr
    cases r with
    | ok x v m =>
      intro t ht
      by_cases h6 : bs (bs u).tail = []
      · exfalso
        -- nothing is left to read
        have h7 := hr []
        rw [List.append_nil, h6, rr_eq] at h7
        by_cases ho : (decide (hd (bs u) = 123)) = true
        · rw [if_pos ho] at h7; cases h7
        · rw [if_neg ho, rv_eq, if_pos (show bs ([] : List UInt8) = [] from rfl)] at h7; cases h7
      · rw [rv_eq, bs_app h1, hd_app h1, tail_app h1, bs_app h6, hd_app h6, if_neg (app_ne h1 t), if_neg h2, if_pos h3, if_neg h4, if_neg (fun h => h5 ⟨h6, h.2⟩)]
        exact hr t
    | err e => trivial
    | stuck => trivial
  · intro d n u h1 h2 h3 h4; trivial
  · intro d n u h1 h2 h3 h4 t ht
    have hl := (scal_ok h4 0).2.1
    have hs := scal_app h4 h1 ht
    rw [rv_eq, bs_app h1, hd_app h1, hs, if_neg (app_ne h1 t), if_neg h2, if_neg h3, if_neg (by omega), drop_app hl]
  · intro d n u g ho hs; trivial
  · intro d n u g x k ho hs hk; trivial
  · intro d n u g x k ho hs hk h; trivial
  · intro d n u g x k e ho hs hk h1 h2 hv; trivial
  · intro d n u g x k y v m r ho hs hk h1 h2 hv ht
    cases r with
    | ok z w m2 =>
      intro t
      have hl := (stk_len hs).2.1
      have hb : bs u ≠ [] := by intro e; rw [e] at hs; cases hs
      have hr := hv t (ht t).1
      rw [rr_eq, if_pos ho, bs_app hb, stk_app hs]
      dsimp only
      rw [drop_app hl, bs_app h1, hd_app h1, tail_app h1, if_neg (by rw [hk]; simp), if_neg (by rintro (h | h); exact app_ne h1 t h; exact h h2), hr]
      exact (ht t).2
    | err e => trivial
    | stuck => trivial
  · intro d n u g e ho hv; trivial
  · intro d n u g y v m r ho hv ht
    cases r with
    | ok z w m2 =>
      intro t
      have hr := hv t (ht t).1
      rw [rr_eq, if_neg (by rw [ho]; simp), hr]
      exact (ht t).2
    | err e => trivial
    | stuck => trivial
  · intro d m v g _; trivial
  · intro d m v g h1 h2 t
    refine ⟨gH_of h1 (by have := close_val g; omega) t, ?_⟩
    unfold rt
    rw [bs_app h1, hd_app h1, tail_app h1, if_neg (app_ne h1 t), if_pos h2]
  · intro d m v g r h1 h2 h3 hr
    cases r with
    | ok z w m2 =>
      intro t
      refine ⟨gH_of h1 (by omega) t, ?_⟩
      unfold rt
      rw [bs_app h1, hd_app h1, tail_app h1, if_neg (app_ne h1 t), if_neg h2, if_pos h3]
      exact hr t
    | err e => trivial
    | stuck => trivial
  · intro d m v g _ _ _; trivial
theorem rv_app {d n : Nat} {u : List UInt8} {x : Nd} {v : List UInt8} {m : Nat} (h : rv d n u = .ok x v m) (t : List UInt8) (ht : gH (v ++ t)) : rv d n (u ++ t) = .ok x (v ++ t) m := by
  have := (ahead u.length).1 d n u (Nat.le_refl _)
  rw [h] at this
  exact this t ht
theorem rr_app {d n : Nat} {u : List UInt8} {g : Fr} {x : Nd} {v : List UInt8} {m : Nat} (h : rr d n u g = .ok x v m) (t : List UInt8) : rr d n (u ++ t) g = .ok x (v ++ t) m := by
  have := (ahead u.length).2.1 d n u g (Nat.le_refl _)
  rw [h] at this
  exact this t
/-- blanks ahead -/
theorem rv_bl (d n : Nat) (b u : List UInt8) (h : bs b = []) : rv d n (b ++ u) = rv d n u := by rw [rv_eq, rv_eq d n u, bs_app0 h]
end Go.Proofs.YtdbidkfjbhclcaaDoor.jsonS

namespace Go.Proofs.YtdbidkfjbhclcaaDoor.jsonT
open Go.Proofs.YtdbidkfjbhclcaaDoor.nodeP Go.Proofs.YtdbidkfjbhclcaaDoor.nodeQ Go.Proofs.YtdbidkfjbhclcaaDoor.utfP Go.Proofs.YtdbidkfjbhclcaaDoor.utfQ Go.Proofs.YtdbidkfjbhclcaaDoor.utfR Go.Proofs.YtdbidkfjbhclcaaDoor.jsonP Go.Proofs.YtdbidkfjbhclcaaDoor.jsonQ Go.Proofs.YtdbidkfjbhclcaaDoor.jsonR Go.Proofs.YtdbidkfjbhclcaaDoor.jsonS
set_option linter.unusedSimpArgs false
set_option linter.unusedVariables false

theorem ifc {P Q : Prop} [Decidable P] [Decidable Q] (h : P ↔ Q) (a b : Nat) : (if P then a else b) = if Q then a else b := by
  by_cases hp : P
  · rw [if_pos hp, if_pos (h.1 hp)]
  · rw [if_neg hp, if_neg (fun hq => hp (h.2 hq))]
theorem bl_all {t : List UInt8} (h : bs t = []) : ∀ c ∈ t, isBl c = true := by
  induction t with
  | nil => intro c hc; cases hc
  | cons a t ih =>
    by_cases ha : isBl a = true
    · have e : bs (a :: t) = bs t := by unfold bs; rw [List.dropWhile_cons, if_pos ha]
      rw [e] at h
      intro c hc
      rcases List.mem_cons.1 hc with rfl | hc
      · exact ha
      · exact ih h c hc
    · have e : bs (a :: t) = a :: t := by unfold bs; rw [List.dropWhile_cons, if_neg ha]
      rw [e] at h; cases h
theorem all_bl {t : List UInt8} (h : ∀ c ∈ t, isBl c = true) : bs t = [] := by
  induction t with
  | nil => rfl
  | cons a t ih =>
    unfold bs at ih ⊢
    rw [List.dropWhile_cons, if_pos (h a (by simp))]
    exact ih (fun c hc => h c (by simp [hc]))
theorem bl_val {c : UInt8} (h : isBl c = true) : c.toNat = 9 ∨ c.toNat = 10 ∨ c.toNat = 13 ∨ c.toNat = 32 := by
  simp only [isBl, Bool.or_eq_true, beq_iff_eq] at h
  rcases h with ((h | h) | h) | h <;> rw [h] <;> simp
theorem bl_get {t : List UInt8} (h : bs t = []) (k : Nat) : (t.getD k 0).toNat = 0 ∨ (t.getD k 0).toNat = 9 ∨ (t.getD k 0).toNat = 10 ∨ (t.getD k 0).toNat = 13 ∨ (t.getD k 0).toNat = 32 := by
  by_cases hk : k < t.length
  · right
    rw [List.getD_eq_getElem?_getD, List.getElem?_eq_getElem hk]
    exact bl_val (bl_all h _ (List.getElem_mem hk))
  · left; rw [List.getD_eq_getElem?_getD, List.getElem?_eq_none (by omega)]; rfl
theorem app_get (l : List UInt8) {t : List UInt8} (h : bs t = []) (k : Nat) : (l ++ t).getD k 0 = l.getD k 0 ∨ ((l.getD k 0).toNat = 0 ∧ (((l ++ t).getD k 0).toNat = 0 ∨ ((l ++ t).getD k 0).toNat = 9 ∨ ((l ++ t).getD k 0).toNat = 10 ∨ ((l ++ t).getD k 0).toNat = 13 ∨ ((l ++ t).getD k 0).toNat = 32)) := by
  by_cases hk : k < l.length
  · left; rw [List.getD_eq_getElem?_getD, List.getD_eq_getElem?_getD, List.getElem?_append_left hk]
  · right
    refine ⟨by rw [List.getD_eq_getElem?_getD, List.getElem?_eq_none (by omega)]; rfl, ?_⟩
    have : (l ++ t).getD k 0 = t.getD (k - l.length) 0 := by rw [List.getD_eq_getElem?_getD, List.getD_eq_getElem?_getD, List.getElem?_append_right (by omega)]
    rw [this]; exact bl_get h _
theorem bt_bl (l : List UInt8) {t : List UInt8} (h : bs t = []) (k c : Nat) (hc : c ≠ 0 ∧ c ≠ 9 ∧ c ≠ 10 ∧ c ≠ 13 ∧ c ≠ 32) : intsP.bt (l ++ t) k = c ↔ intsP.bt l k = c := by
  unfold intsP.bt
  rcases app_get l h k with e | e
  · rw [e]
  · omega
theorem dg_bl (l : List UInt8) {t : List UInt8} (h : bs t = []) (k : Nat) : intsP.isD ((l ++ t).getD k 0) = intsP.isD (l.getD k 0) := by
  unfold intsP.isD
  rcases app_get l h k with e | e
  · rw [e]
  · simp only [decide_eq_decide]; omega
theorem dn_bl (l : List UInt8) {t : List UInt8} (h : bs t = []) : intsP.dn (l ++ t) = intsP.dn l :=
  intsP.dn_eq _ _ (fun k hk => by rw [dg_bl l h]; exact intsP.dn_at hk) (by rw [dg_bl l h]; exact intsP.dn_end l)
theorem bs_dropN {t : List UInt8} (h : bs t = []) (k : Nat) : bs (t.drop k) = [] := all_bl (fun c hc => bl_all h c (List.mem_of_mem_drop hc))
theorem dnd_bl (l : List UInt8) {t : List UInt8} (h : bs t = []) (p : Nat) : intsP.dn ((l ++ t).drop p) = intsP.dn (l.drop p) := by
  rw [List.drop_append]
  exact dn_bl _ (bs_dropN h _)
theorem take_bl (l : List UInt8) {t : List UInt8} (h : bs t = []) : intsP.takeN (l ++ t) = intsP.takeN l := by
  have sg : intsP.sg (l ++ t) = intsP.sg l := by unfold intsP.sg; rw [ifc (bt_bl l h 0 45 (by decide))]
  have wh : intsP.whole (l ++ t) = intsP.whole l := by
    unfold intsP.whole
    rw [sg, dnd_bl l h, ifc (bt_bl l h (intsP.sg l) 48 (by decide))]
  have fr : ∀ p, intsP.frac (l ++ t) p = intsP.frac l p := by
    intro p
    unfold intsP.frac
    rw [dnd_bl l h, ifc (and_congr (bt_bl l h p 46 (by decide)) Iff.rfl)]
  have si : ∀ p, intsP.sig (l ++ t) p = intsP.sig l p := by
    intro p
    unfold intsP.sig
    rw [ifc (or_congr (bt_bl l h p 43 (by decide)) (bt_bl l h p 45 (by decide)))]
  have ex : ∀ p, intsP.expo (l ++ t) p = intsP.expo l p := by
    intro p
    unfold intsP.expo
    rw [si, dnd_bl l h, ifc (and_congr (or_congr (bt_bl l h p 101 (by decide)) (bt_bl l h p 69 (by decide))) Iff.rfl)]
  have ev : intsP.every (l ++ t) = intsP.every l := by unfold intsP.every; rw [wh, fr, ex]
  unfold intsP.takeN
  rw [wh, ev, List.take_append_of_le_length (intsP.whole_le l)]

theorem tk_last : ∀ (N : Nat) (l : List UInt8), l.length ≤ N → ∀ x m, quoteP.tk l = some (x, m) → bt l (m - 1) = 34 := by
  intro N
  induction N with
  | zero =>
    intro l h x m e
    obtain rfl : l = [] := List.length_eq_zero_iff.1 (by omega)
    cases e
  | succ N ih =>
    intro l h x m e
    by_cases hn : l = []
    · subst hn; cases e
    by_cases z : bt l 0 = 34
    · rw [quoteP.tk_end hn z] at e
      have := Option.some.inj e
      rw [Prod.mk.injEq] at this
      obtain ⟨rfl, rfl⟩ := this
      exact z
    · cases hq : quoteP.pc l with
      | none => rw [quoteP.tk_no z hq] at e; cases e
      | some q =>
        obtain ⟨r, k⟩ := q
        obtain ⟨p1, p2, p3, p4, p5, p6, _⟩ := quoteP.pc_ok hq
        rw [quoteP.tk_yes z hq] at e
        cases ht : quoteP.tk (l.drop k) with
        | none => rw [ht] at e; cases e
        | some y =>
          obtain ⟨y1, y2⟩ := y
          rw [ht] at e
          have := Option.some.inj e
          rw [Prod.mk.injEq] at this
          obtain ⟨rfl, rfl⟩ := this
          have hl : 0 < l.length := List.length_pos_iff.2 hn
          have hi := ih (l.drop k) (by rw [List.length_drop]; omega) y1 y2 ht
          have hlen := (quoteP.tk_len _ _ (Nat.le_refl _) _ _ ht).1
          unfold bt at hi ⊢
          rw [List.getD_eq_getElem?_getD, List.getElem?_drop] at hi
          rw [List.getD_eq_getElem?_getD]
          dsimp only
          rw [show k + y2 - 1 = k + (y2 - 1) from by omega]
          exact hi
theorem tk_bl (l : List UInt8) {t : List UInt8} (h : bs t = []) : quoteP.tk (l ++ t) = quoteP.tk l := by
  cases hq : quoteP.tk l with
  | some q =>
    obtain ⟨x, m⟩ := q
    have := tk_local _ _ (Nat.le_refl _) x m hq (l.drop m ++ t)
    rw [← List.append_assoc, List.take_append_drop] at this
    exact this
  | none =>
    cases hq2 : quoteP.tk (l ++ t) with
    | none => rfl
    | some q =>
      exfalso
      obtain ⟨x, m⟩ := q
      obtain ⟨i1, i2, _⟩ := quoteP.tk_len _ _ (Nat.le_refl _) _ _ hq2
      by_cases hm : m ≤ l.length
      · have := tk_local _ _ (Nat.le_refl _) x m hq2 (l.drop m)
        rw [List.take_append_of_le_length hm, List.take_append_drop, hq] at this
        cases this
      · have h34 := tk_last _ _ (Nat.le_refl _) x m hq2
        unfold bt at h34
        rw [List.getD_eq_getElem?_getD, List.getElem?_append_right (by omega), ← List.getD_eq_getElem?_getD] at h34
        have := bl_get h (m - 1 - l.length)
        omega
theorem stk_bl {l : List UInt8} (hl : l ≠ []) {t : List UInt8} (h : bs t = []) : stk (l ++ t) = stk l := by
  unfold stk
  rw [← hd_bt, ← hd_bt, hd_app hl, tail_app hl, tk_bl _ h]
theorem pre_bl {w t z : List UInt8} (h : bs t = []) (hz : ∀ c ∈ z, isBl c = false) : Lib.hasPrefix (w ++ t) z = Lib.hasPrefix w z := by
  rw [Bool.eq_iff_iff, pre_iff, pre_iff]
  refine ⟨fun hp => ?_, fun hp => hp.trans (List.prefix_append _ _)⟩
  rcases Nat.le_total z.length w.length with hl | hl
  · exact List.prefix_of_prefix_length_le hp (List.prefix_append _ _) hl
  · have hw : w <+: z := List.prefix_of_prefix_length_le (List.prefix_append _ _) hp hl
    obtain ⟨y, rfl⟩ := hw
    have hy : y <+: t := by
      obtain ⟨q, hq⟩ := hp
      rw [List.append_assoc] at hq
      exact ⟨q, List.append_cancel_left hq⟩
    cases y with
    | nil => exact ⟨[], by simp⟩
    | cons c y =>
      have h1 := hz c (by simp)
      have h2 := bl_all h c (hy.subset (by simp))
      rw [h1] at h2; cases h2
theorem scal_bl {u t : List UInt8} (hu : u ≠ []) (h : bs t = []) : scal (u ++ t) = scal u := by
  unfold scal
  rw [hd_app hu, stk_bl hu h, take_bl _ h, pre_bl h (by decide), pre_bl h (by decide), pre_bl h (by decide)]

def app (t : List UInt8) : R3 → R3
  | .ok x v m => .ok x (v ++ t) m
  | r => r
theorem blanks (t : List UInt8) (h : bs t = []) (N : Nat) : (∀ d n u, u.length ≤ N → rv d n (u ++ t) = app t (rv d n u)) ∧ (∀ d n u g, u.length ≤ N → rr d n (u ++ t) g = app t (rr d n u g)) ∧ (∀ d m v g, v.length ≤ N + 1 → rt d m (v ++ t) g = app t (rt d m v g)) := by
  refine rd_ind (MV := fun d n u r => rv d n (u ++ t) = app t r) (MK := fun d n u g r => rr d n (u ++ t) g = app t r) (MT := fun d m v g r => rt d m (v ++ t) g = app t r) ?_ ?_ ?_ ?_ ?_ ?_ ?_ ?_ ?_ ?_ ?_ ?_ ?_ ?_ ?_ ?_ ?_ ?_ N
  · intro d n u h1
    rw [rv_eq, bs_app0 h1, h, if_pos rfl]; rfl
  · intro d u h1
    rw [rv_eq, bs_app h1, if_neg (app_ne h1 t), if_pos rfl]; rfl
  · intro n u h1 h2 h3
    rw [rv_eq, bs_app h1, hd_app h1, if_neg (app_ne h1 t), if_neg h2, if_pos h3, if_pos rfl]; rfl
  · intro d n u h1 h2 h3 h4 h5 h6
    rw [rv_eq, bs_app h1, hd_app h1, tail_app h1, bs_app h5, hd_app h5, tail_app h5, if_neg (app_ne h1 t), if_neg h2, if_pos h3, if_neg h4, if_pos ⟨app_ne h5 t, h6⟩]; rfl
  · intro d n u r h1 h2 h3 h4 h5 hr
    rw [rv_eq, bs_app h1, hd_app h1, tail_app h1, if_neg (app_ne h1 t), if_neg h2, if_pos h3, if_neg h4]
    by_cases h6 : bs (bs u).tail = []
    · rw [h6] at hr
      rw [bs_app0 h6, h, if_neg (fun e => e.1 rfl)]
      have e0 : ∀ v : List UInt8, bs v = [] → ∀ d n g, rr d n v g = .err 1 := by
        intro v hv d n g
        rw [rr_eq]
        by_cases ho : g.obj = true
        · rw [if_pos ho, hv]; rfl
        · rw [if_neg ho, rv_eq, if_pos hv]
      rw [e0 [] rfl]
      rw [e0 ([] ++ t) (by simpa using h)] at hr
      exact hr
    · rw [bs_app h6, hd_app h6, if_neg (fun e => h5 ⟨h6, e.2⟩)]; exact hr
  · intro d n u h1 h2 h3 h4
    rw [rv_eq, bs_app h1, hd_app h1, scal_bl h1 h, if_neg (app_ne h1 t), if_neg h2, if_neg h3, if_pos h4]; rfl
  · intro d n u h1 h2 h3 h4
    have hl := (scal_ok h4 0).2.1
    rw [rv_eq, bs_app h1, hd_app h1, scal_bl h1 h, if_neg (app_ne h1 t), if_neg h2, if_neg h3, if_neg (by omega), drop_app hl]; rfl
  · intro d n u g ho hs
    rw [rr_eq, if_pos ho]
    by_cases hb : bs u = []
    · rw [bs_app0 hb, h]; rfl
    · rw [bs_app hb, stk_bl hb h, hs]; rfl
  · intro d n u g x k ho hs hk
    have hb : bs u ≠ [] := by intro e; rw [e] at hs; cases hs
    rw [rr_eq, if_pos ho, bs_app hb, stk_bl hb h, hs]
    dsimp only
    rw [if_pos hk]; rfl
  · intro d n u g x k ho hs hk hh
    have hb : bs u ≠ [] := by intro e; rw [e] at hs; cases hs
    have hl := (stk_len hs).2.1
    rw [rr_eq, if_pos ho, bs_app hb, stk_bl hb h, hs]
    dsimp only
    rw [if_neg (by rw [hk]; simp), drop_app hl, if_pos]
    · rfl
    · by_cases h1 : bs ((bs u).drop k) = []
      · left; rw [bs_app0 h1, h]
      · right; rw [bs_app h1, hd_app h1]
        rcases hh with e | e
        · exact absurd e h1
        · exact e
  · intro d n u g x k e ho hs hk h1 h2 hv
    have hb : bs u ≠ [] := by intro e; rw [e] at hs; cases hs
    have hl := (stk_len hs).2.1
    rw [rr_eq, if_pos ho, bs_app hb, stk_bl hb h, hs]
    dsimp only
    rw [drop_app hl, bs_app h1, hd_app h1, tail_app h1, if_neg (by rw [hk]; simp), if_neg (by rintro (h | h); exact app_ne h1 t h; exact h h2), hv]; rfl
  · intro d n u g x k y v m r ho hs hk h1 h2 hv ht
    have hb : bs u ≠ [] := by intro e; rw [e] at hs; cases hs
    have hl := (stk_len hs).2.1
    rw [rr_eq, if_pos ho, bs_app hb, stk_bl hb h, hs]
    dsimp only
    rw [drop_app hl, bs_app h1, hd_app h1, tail_app h1, if_neg (by rw [hk]; simp), if_neg (by rintro (h | h); exact app_ne h1 t h; exact h h2), hv]
    exact ht
  · intro d n u g e ho hv
    rw [rr_eq, if_neg (by rw [ho]; simp), hv]; rfl
  · intro d n u g y v m r ho hv ht
    rw [rr_eq, if_neg (by rw [ho]; simp), hv]; exact ht
  · intro d m v g h1
    unfold rt
    rw [bs_app0 h1, h, if_pos rfl]; rfl
  · intro d m v g h1 h2
    unfold rt
    rw [bs_app h1, hd_app h1, tail_app h1, if_neg (app_ne h1 t), if_pos h2]; rfl
  · intro d m v g r h1 h2 h3 hr
    unfold rt
    rw [bs_app h1, hd_app h1, tail_app h1, if_neg (app_ne h1 t), if_neg h2, if_pos h3]; exact hr
  · intro d m v g h1 h2 h3
    unfold rt
    rw [bs_app h1, hd_app h1, if_neg (app_ne h1 t), if_neg h2, if_neg h3]; rfl
/-- blanks ahead and behind don't matter -/
theorem parse_bl (a b l : List UInt8) (ha : bs a = []) (hb : bs b = []) : parseJ (a ++ l ++ b) = parseJ l := by
  unfold parseJ
  rw [List.append_assoc, rv_bl _ _ _ _ ha, (blanks b hb l.length).1 0 0 l (Nat.le_refl _)]
  cases hr : rv 0 0 l with
  | ok x v m =>
    dsimp only [app]
    by_cases hv : bs v = []
    · rw [if_pos hv, if_pos (by rw [bs_app0 hv, hb])]
    · rw [if_neg hv, if_neg (by rw [bs_app hv]; exact app_ne hv b)]
  | err e => rfl
  | stuck => rfl
theorem parse_ok {l : List UInt8} {x : Nd} (h : parseJ l = .ok x) : ∃ v, rv 0 0 l = .ok x v (count x) ∧ bs v = [] ∧ okAt x 0 = true ∧ count x ≤ 20000 ∧ dp x ≤ 32 := by
  unfold parseJ at h
  have hg := rv_good (d := 0) (n := 0) (u := l) (by omega) (by omega) (by omega) (by omega)
  cases hr : rv 0 0 l with
  | ok y v m =>
    rw [hr] at h hg
    dsimp only at h hg
    by_cases hv : bs v = []
    · rw [if_pos hv] at h
      cases h
      obtain ⟨g1, g2, g3, g4, _⟩ := hg
      refine ⟨v, ?_, hv, g1, by omega, by omega⟩
      congr 1; omega
    · rw [if_neg hv] at h; cases h
  | err e => rw [hr] at h; cases h
  | stuck => rw [hr] at h; cases h
theorem parse_err {l : List UInt8} {e : Nat} (h : parseJ l = .err e) : 1 ≤ e ∧ e ≤ 13 := by
  unfold parseJ at h
  have hg := rv_good (d := 0) (n := 0) (u := l) (by omega) (by omega) (by omega) (by omega)
  cases hr : rv 0 0 l with
  | ok y v m =>
    rw [hr] at h
    dsimp only at h
    by_cases hv : bs v = []
    · rw [if_pos hv] at h; cases h
    · rw [if_neg hv] at h; cases h; decide
  | err e => rw [hr] at h hg; cases h; exact hg
  | stuck => exact absurd hr (rv_ne _ _ _)
theorem rv_no93 {d n : Nat} {u : List UInt8} {x : Nd} {v : List UInt8} {m : Nat} (h : rv d n u = .ok x v m) : bs u ≠ [] ∧ hd (bs u) ≠ 93 := by
  rw [rv_eq] at h
  by_cases h1 : bs u = []
  · rw [if_pos h1] at h; cases h
  refine ⟨h1, fun h93 => ?_⟩
  rw [if_neg h1] at h
  by_cases h2 : n = 20000
  · rw [if_pos h2] at h; cases h
  rw [if_neg h2, h93, if_neg (by decide)] at h
  have : (scal (bs u)).2.2 = 1 := by
    unfold scal
    rw [h93, if_neg (by decide), if_neg (by decide)]
    have hn : ∀ w, w ≠ [] → hd w ≠ 93 → ¬ Lib.hasPrefix (bs u) w = true := fun w hw h9 hp => h9 (by rw [← pre_hd hp hw]; exact h93)
    rw [if_neg (hn _ (by decide) (by decide)), if_neg (hn _ (by decide) (by decide)), if_neg (hn _ (by decide) (by decide))]
  rw [if_pos (by rw [this]; decide)] at h; cases h
/-- two values in an Array -/
theorem parse_two {l b : List UInt8} {x : Nd} (h : parseJ l = .ok x) (hb : bs b = []) (hd31 : dp x < 31) (hc : 2 * count x + 1 ≤ 20000) :
    parseJ (91 :: (b ++ (l ++ (b ++ (44 :: (l ++ [93])))))) = .ok (.mk 6 0 ByteArray.empty [] [x, x]) := by
  obtain ⟨v, hr, hv, hok, _, _⟩ := parse_ok h
  have hok1 : okAt x 1 = true := ok_depth x 0 1 hok (by omega)
  have hcp := count_pos x
  obtain ⟨hne, h93⟩ := rv_no93 hr
  -- the second one
  have r2 : rv 1 (1 + count x) (l ++ [93]) = .ok x (v ++ [93]) (1 + count x + count x) := by
    have e := (rv_same hr).2 1 (1 + count x) hok1 (by omega)
    rw [Nat.sub_zero] at e
    exact rv_app e [93] (gH_bl hv (by unfold gH; decide))
  have t2 : rt 0 (1 + count x + count x) (v ++ [93]) ⟨false, [], [x] ++ [x]⟩ = .ok (.mk 6 0 ByteArray.empty [] [x, x]) [] (1 + count x + count x) := by
    unfold rt
    have e : bs (v ++ [93]) = [93] := by rw [bs_app0 hv]; rfl
    rw [e, if_neg (by simp), if_pos (show hd [93] = (Fr.mk false [] ([x] ++ [x])).close from rfl)]; rfl
  have k2 : rr 0 (1 + count x) (l ++ [93]) ⟨false, [], [x]⟩ = .ok (.mk 6 0 ByteArray.empty [] [x, x]) [] (1 + count x + count x) := by
    rw [rr_eq, if_neg (by simp), r2]
    exact t2
  have r1 : rv 1 1 (bs (b ++ (l ++ (b ++ (44 :: (l ++ [93])))))) = .ok x (v ++ (b ++ (44 :: (l ++ [93])))) (1 + count x) := by
    have e := (rv_same hr).2 1 1 hok1 (by omega)
    rw [Nat.sub_zero] at e
    have e2 := rv_app e (b ++ (44 :: (l ++ [93]))) (gH_bl hv (gH_bl hb (show ¬ (48 ≤ 44 ∧ 44 ≤ 57) ∧ 44 ≠ 46 ∧ 44 ≠ 101 ∧ 44 ≠ 69 from by decide)))
    have e3 : ∀ u, rv 1 1 (bs u) = rv 1 1 u := fun u => by rw [rv_eq, rv_eq 1 1 u, bs_bs]
    rw [e3, rv_bl _ _ _ _ hb]; exact e2
  have t1 : rt 0 (1 + count x) (v ++ (b ++ (44 :: (l ++ [93])))) ⟨false, [], [] ++ [x]⟩ = .ok (.mk 6 0 ByteArray.empty [] [x, x]) [] (1 + count x + count x) := by
    unfold rt
    have e : bs (v ++ (b ++ (44 :: (l ++ [93])))) = 44 :: (l ++ [93]) := by rw [bs_app0 hv, bs_app0 hb]; rfl
    have hh : hd (44 :: (l ++ [93])) = 44 := rfl
    rw [e, if_neg (by simp), if_neg (by rw [hh]; show ¬ (44 : Nat) = 93; decide), if_pos hh]
    exact k2
  have hb0 : bs (b ++ (l ++ (b ++ (44 :: (l ++ [93]))))) = bs l ++ (b ++ (44 :: (l ++ [93]))) := by rw [bs_app0 hb, bs_app hne]
  unfold parseJ
  have hb91 : bs (91 :: (b ++ (l ++ (b ++ (44 :: (l ++ [93])))))) = 91 :: (b ++ (l ++ (b ++ (44 :: (l ++ [93]))))) := rfl
  have hh : hd (91 :: (b ++ (l ++ (b ++ (44 :: (l ++ [93])))))) = 91 := rfl
  rw [rv_eq, hb91, hh, List.tail_cons, if_neg (by simp), if_neg (by decide), if_pos (.inl rfl), if_neg (by decide), if_neg (by
    rintro ⟨_, e⟩
    rw [hb0, hd_app hne] at e
    exact h93 e), rr_eq, if_neg (by decide), r1]
  dsimp only
  have t1' : rt 0 (1 + count x) (v ++ (b ++ (44 :: (l ++ [93])))) ⟨decide (91 = 123), [], [] ++ [x]⟩ = .ok (.mk 6 0 ByteArray.empty [] [x, x]) [] (1 + count x + count x) := t1
  rw [t1']
  rfl
end Go.Proofs.YtdbidkfjbhclcaaDoor.jsonT

namespace Go.Proofs.YtdbidkfjbhclcaaDoor.jsonU
open Go.Proofs.YtdbidkfjbhclcaaDoor.nodeP Go.Proofs.YtdbidkfjbhclcaaDoor.nodeQ Go.Proofs.YtdbidkfjbhclcaaDoor.utfP Go.Proofs.YtdbidkfjbhclcaaDoor.utfQ Go.Proofs.YtdbidkfjbhclcaaDoor.utfR Go.Proofs.YtdbidkfjbhclcaaDoor.jsonP Go.Proofs.YtdbidkfjbhclcaaDoor.jsonQ Go.Proofs.YtdbidkfjbhclcaaDoor.jsonR Go.Proofs.YtdbidkfjbhclcaaDoor.jsonS Go.Proofs.YtdbidkfjbhclcaaDoor.jsonT
set_option linter.unusedSimpArgs false
set_option linter.unusedVariables false

/-- all numbers fit -/
inductive Fit : Nd → Prop where
  | mk (k n : Int) (t : ByteArray) (ks : List ByteArray) (cs : List Nd) (hn : In64 n) (hc : ∀ c ∈ cs, Fit c) : Fit (.mk k n t ks cs)
theorem Fit.n {k n : Int} {t : ByteArray} {ks : List ByteArray} {cs : List Nd} (h : Fit (.mk k n t ks cs)) : In64 n ∧ ∀ c ∈ cs, Fit c := by cases h with | mk _ _ _ _ _ h1 h2 => exact ⟨h1, h2⟩

theorem txt_empty {t : ByteArray} (h : t.size = 0) : t = ByteArray.empty := by
  apply ByteArray.ext
  apply Array.ext
  · rw [ByteArray.size_data, h]; rfl
  · intro i h1 h2
    rw [ByteArray.size_data, h] at h1; omega
theorem arr_list (t : ByteArray) : (⟨t.data.toList.toArray⟩ : ByteArray) = t := rfl
theorem stk_qt {k : ByteArray} (h : vld k = true) (t : List UInt8) : stk (quoteP.qt k.data.toList ++ t) = some (k.data.toList, (quoteP.qt k.data.toList).length) := by
  have e := quoteP.tk_qt (l := k.data.toList) h
  have e2 := tk_local _ _ (Nat.le_refl _) _ _ e t
  rw [List.take_of_length_le (by simp)] at e2
  unfold stk quoteP.qt
  rw [if_pos (by rfl)]
  show Option.map _ (quoteP.tk (k.data.toList.flatMap quoteP.qB ++ [34] ++ t)) = _
  rw [e2]
  simp
theorem qt_drop (k t : List UInt8) : (quoteP.qt k ++ t).drop (quoteP.qt k).length = t := List.drop_left
theorem bs_id {u : List UInt8} (h : u ≠ []) (h2 : hd u ≠ 9 ∧ hd u ≠ 10 ∧ hd u ≠ 13 ∧ hd u ≠ 32) : bs u = u := by
  cases u with
  | nil => exact absurd rfl h
  | cons c u =>
    have hc : isBl c = false := by
      cases hb : isBl c with
      | false => rfl
      | true =>
        have := bl_val hb
        have e : hd (c :: u) = c.toNat := rfl
        omega
    unfold bs; rw [List.dropWhile_cons, hc]; rfl

/-- reading at the head -/
def Rds (x : Nd) : Prop := ∀ d n t, okAt x d = true → n + count x ≤ 20000 → gH t → rv d n (tx x ++ t) = .ok x t (n + count x)
theorem rv_scal {d n : Nat} {u : List UInt8} (h1 : bs u = u) (h0 : u ≠ []) (h2 : n ≠ 20000) (h3 : hd u ≠ 91 ∧ hd u ≠ 123) (h4 : (scal u).2.2 = 0) : rv d n u = .ok (scal u).1 (u.drop (scal u).2.1) (n + 1) := by
  rw [rv_eq, h1, if_neg h0, if_neg h2, if_neg (by rintro (h | h); exact h3.1 h; exact h3.2 h), if_neg (by rw [h4]; decide)]
theorem rds_word {k : Int} {w : List UInt8} (hk : (k = 1 ∧ w = wNull) ∨ (k = 2 ∧ w = wFalse) ∨ (k = 3 ∧ w = wTrue)) (d n : Nat) (t : List UInt8) (hn : n + 1 ≤ 20000) : rv d n (w ++ t) = .ok (word k) t (n + 1) := by
  rcases hk with ⟨rfl, rfl⟩ | ⟨rfl, rfl⟩ | ⟨rfl, rfl⟩
  · have e : scal (wNull ++ t) = (word 1, 4, 0) := by
      unfold scal
      have hh : hd (wNull ++ t) = 110 := rfl
      rw [hh, if_neg (by decide), if_neg (by decide), if_pos (pre_iff.2 (List.prefix_append _ _))]
    rw [rv_scal (bs_id (by simp [wNull]) (by show 110 ≠ 9 ∧ 110 ≠ 10 ∧ 110 ≠ 13 ∧ 110 ≠ 32; decide)) (by simp [wNull]) (by omega) (by show 110 ≠ 91 ∧ 110 ≠ 123; decide) (by rw [e]), e]; rfl
  · have e : scal (wFalse ++ t) = (word 2, 5, 0) := by
      unfold scal
      have hh : hd (wFalse ++ t) = 102 := rfl
      have hno : ∀ w, w ≠ [] → hd w ≠ 102 → ¬ Lib.hasPrefix (wFalse ++ t) w = true := fun w hw h9 hp => h9 (by rw [← pre_hd hp hw]; exact hh)
      rw [hh, if_neg (by decide), if_neg (by decide), if_neg (hno _ (by decide) (by decide)), if_pos (pre_iff.2 (List.prefix_append _ _))]
    rw [rv_scal (bs_id (by simp [wFalse]) (by show 102 ≠ 9 ∧ 102 ≠ 10 ∧ 102 ≠ 13 ∧ 102 ≠ 32; decide)) (by simp [wFalse]) (by omega) (by show 102 ≠ 91 ∧ 102 ≠ 123; decide) (by rw [e]), e]; rfl
  · have e : scal (wTrue ++ t) = (word 3, 4, 0) := by
      unfold scal
      have hh : hd (wTrue ++ t) = 116 := rfl
      have hno : ∀ w, w ≠ [] → hd w ≠ 116 → ¬ Lib.hasPrefix (wTrue ++ t) w = true := fun w hw h9 hp => h9 (by rw [← pre_hd hp hw]; exact hh)
      rw [hh, if_neg (by decide), if_neg (by decide), if_neg (hno _ (by decide) (by decide)), if_neg (hno _ (by decide) (by decide)), if_pos (pre_iff.2 (List.prefix_append _ _))]
    rw [rv_scal (bs_id (by simp [wTrue]) (by show 116 ≠ 9 ∧ 116 ≠ 10 ∧ 116 ≠ 13 ∧ 116 ≠ 32; decide)) (by simp [wTrue]) (by omega) (by show 116 ≠ 91 ∧ 116 ≠ 123; decide) (by rw [e]), e]; rfl
theorem itoa_hd (n : Int) (t : List UInt8) : hd (Lib.itoa n ++ t) = 45 ∨ (48 ≤ hd (Lib.itoa n ++ t) ∧ hd (Lib.itoa n ++ t) ≤ 57) := by
  rw [intsP.itoa_sgn]
  cases hs : decide (n < 0)
  · right
    have hne := intsP.dec_ne n.natAbs
    have h := intsP.dec_isD n.natAbs
    show 48 ≤ hd (Lib.decDigits n.natAbs ++ t) ∧ hd (Lib.decDigits n.natAbs ++ t) ≤ 57
    rw [hd_app hne]
    cases hl : Lib.decDigits n.natAbs with
    | nil => exact absurd hl hne
    | cons c l => exact intsP.isD_val (h c (by rw [hl]; simp))
  · left; rfl
theorem isD_hd {t : List UInt8} (h : gH t) : intsP.isD (t.getD 0 0) = false ∧ intsP.bt t 0 ≠ 46 ∧ intsP.bt t 0 ≠ 101 ∧ intsP.bt t 0 ≠ 69 := by
  obtain ⟨h1, h2, h3, h4⟩ := h
  have hh : hd t = intsP.bt t 0 := by cases t <;> rfl
  rw [hh] at h2 h3 h4
  refine ⟨?_, h2, h3, h4⟩
  unfold intsP.isD; rw [← hd_get]; simpa using h1
theorem rds_int (m : Int) (hm : In64 m) (d n : Nat) (t : List UInt8) (hn : n + 1 ≤ 20000) (ht : gH t) : rv d n (Lib.itoa m ++ t) = .ok (.mk 4 m ByteArray.empty [] []) t (n + 1) := by
  obtain ⟨i1, i2, i3, i4⟩ := isD_hd ht
  have hh := itoa_hd m t
  have hl := intsP.itoa_len m hm.1 hm.2
  have hne : Lib.itoa m ++ t ≠ [] := by
    intro e
    have := congrArg List.length e
    rw [List.length_append, List.length_nil] at this; omega
  have e := intsP.take_itoa m t hm.1 hm.2 i1 ⟨i2, i3, i4⟩
  have es : scal (Lib.itoa m ++ t) = (.mk 4 m ByteArray.empty [] [], (Lib.itoa m).length, 0) := by
    unfold scal
    rw [if_neg (by omega), if_pos (by unfold isNum; simp; omega), e, if_pos rfl]
  rw [rv_scal (bs_id hne (by omega)) hne (by omega) (by omega) (by rw [es]), es]
  show R3.ok _ ((Lib.itoa m ++ t).drop _) _ = _
  rw [List.drop_left]
theorem rds_str (k : ByteArray) (hk : vld k = true) (d n : Nat) (t : List UInt8) (hn : n + 1 ≤ 20000) : rv d n (quoteP.qt k.data.toList ++ t) = .ok (.mk 5 0 k [] []) t (n + 1) := by
  have hh : hd (quoteP.qt k.data.toList ++ t) = 34 := rfl
  have hne : quoteP.qt k.data.toList ++ t ≠ [] := by unfold quoteP.qt; simp
  have es : scal (quoteP.qt k.data.toList ++ t) = (.mk 5 0 k [] [], (quoteP.qt k.data.toList).length, 0) := by
    unfold scal
    rw [if_pos hh, stk_qt hk]
  rw [rv_scal (bs_id hne (by rw [hh]; decide)) hne (by omega) (by rw [hh]; decide) (by rw [es]), es]
  show R3.ok _ ((quoteP.qt k.data.toList ++ t).drop _) _ = _
  rw [List.drop_left]

theorem tx_hd {x : Nd} {d : Nat} (h : okAt x d = true) (t : List UInt8) : tx x ≠ [] ∧ hd (tx x ++ t) ≠ 93 ∧ hd (tx x ++ t) ≠ 9 ∧ hd (tx x ++ t) ≠ 10 ∧ hd (tx x ++ t) ≠ 13 ∧ hd (tx x ++ t) ≠ 32 ∧ hd (tx x ++ t) ≠ 125 := by
  cases x with
  | mk k n txt ks cs =>
    have hk : 1 ≤ k ∧ k ≤ 7 := by
      simp only [okAt, one, Bool.and_eq_true, decide_eq_true_eq] at h
      exact h.1.1.2
    unfold tx
    by_cases h1 : k = 1
    · rw [if_pos h1]; exact ⟨by decide, by show 110 ≠ 93 ∧ 110 ≠ 9 ∧ 110 ≠ 10 ∧ 110 ≠ 13 ∧ 110 ≠ 32 ∧ 110 ≠ 125; decide⟩
    rw [if_neg h1]
    by_cases h2 : k = 2
    · rw [if_pos h2]; exact ⟨by decide, by show 102 ≠ 93 ∧ 102 ≠ 9 ∧ 102 ≠ 10 ∧ 102 ≠ 13 ∧ 102 ≠ 32 ∧ 102 ≠ 125; decide⟩
    rw [if_neg h2]
    by_cases h3 : k = 3
    · rw [if_pos h3]; exact ⟨by decide, by show 116 ≠ 93 ∧ 116 ≠ 9 ∧ 116 ≠ 10 ∧ 116 ≠ 13 ∧ 116 ≠ 32 ∧ 116 ≠ 125; decide⟩
    rw [if_neg h3]
    by_cases h4 : k = 4
    · rw [if_pos h4]
      have := itoa_hd n t
      refine ⟨?_, by omega⟩
      rw [intsP.itoa_sgn]
      unfold intsP.sgn
      split
      · simp
      · exact intsP.dec_ne _
    rw [if_neg h4]
    by_cases h5 : k = 5
    · rw [if_pos h5]; exact ⟨by unfold quoteP.qt; simp, by show 34 ≠ 93 ∧ 34 ≠ 9 ∧ 34 ≠ 10 ∧ 34 ≠ 13 ∧ 34 ≠ 32 ∧ 34 ≠ 125; decide⟩
    rw [if_neg h5]
    by_cases h6 : k = 6
    · rw [if_pos h6]; exact ⟨by simp, by show 91 ≠ 93 ∧ 91 ≠ 9 ∧ 91 ≠ 10 ∧ 91 ≠ 13 ∧ 91 ≠ 32 ∧ 91 ≠ 125; decide⟩
    · rw [if_neg h6]; exact ⟨by simp, by show 123 ≠ 93 ∧ 123 ≠ 9 ∧ 123 ≠ 10 ∧ 123 ≠ 13 ∧ 123 ≠ 32 ∧ 123 ≠ 125; decide⟩
theorem gH_44 (t : List UInt8) : gH (44 :: t) := by show ¬ (48 ≤ 44 ∧ 44 ≤ 57) ∧ 44 ≠ 46 ∧ 44 ≠ 101 ∧ 44 ≠ 69; decide
theorem gH_93 (t : List UInt8) : gH (93 :: t) := by show ¬ (48 ≤ 93 ∧ 93 ≤ 57) ∧ 93 ≠ 46 ∧ 93 ≠ 101 ∧ 93 ≠ 69; decide
theorem gH_125 (t : List UInt8) : gH (125 :: t) := by show ¬ (48 ≤ 125 ∧ 125 ≤ 57) ∧ 125 ≠ 46 ∧ 125 ≠ 101 ∧ 125 ≠ 69; decide
theorem gH_nil : gH [] := by show ¬ (48 ≤ 0 ∧ 0 ≤ 57) ∧ 0 ≠ 46 ∧ 0 ≠ 101 ∧ 0 ≠ 69; decide

/-- the kids of an Array -/
theorem rds_arr : ∀ (cs : List Nd) (c : Nd) (pre : List Nd) (d n : Nat) (t : List UInt8), Rds c → (∀ x ∈ cs, Rds x) → okAt c (d + 1) = true → oks cs (d + 1) = true → n + count c + counts cs ≤ 20000 →
    rr d n (tx c ++ (txs false cs ++ 93 :: t)) ⟨false, [], pre⟩ = .ok (.mk 6 0 ByteArray.empty [] (pre ++ c :: cs)) t (n + count c + counts cs)
  | [], c, pre, d, n, t, hc, _, h1, _, h3 => by
    rw [rr_eq, if_neg (by simp)]
    have e : txs false [] ++ 93 :: t = 93 :: t := rfl
    simp only [counts] at h3
    rw [e, hc (d + 1) n (93 :: t) h1 (by omega) (gH_93 t)]
    show rt d (n + count c) (93 :: t) ⟨false, [], pre ++ [c]⟩ = _
    unfold rt
    have hb : bs (93 :: t) = 93 :: t := rfl
    rw [hb, if_neg (by simp), if_pos (show hd (93 :: t) = (Fr.mk false [] (pre ++ [c])).close from rfl)]
    rfl
  | c2 :: cs, c, pre, d, n, t, hc, hcs, h1, h2, h3 => by
    rw [rr_eq, if_neg (by simp)]
    have e : txs false (c2 :: cs) ++ 93 :: t = 44 :: (tx c2 ++ (txs false cs ++ 93 :: t)) := by simp [txs, sep]
    simp only [counts] at h3
    simp only [oks, Bool.and_eq_true] at h2
    rw [e, hc (d + 1) n _ h1 (by omega) (gH_44 _)]
    show rt d (n + count c) (44 :: (tx c2 ++ (txs false cs ++ 93 :: t))) ⟨false, [], pre ++ [c]⟩ = _
    unfold rt
    have hb : bs (44 :: (tx c2 ++ (txs false cs ++ 93 :: t))) = 44 :: (tx c2 ++ (txs false cs ++ 93 :: t)) := rfl
    have hh : hd (44 :: (tx c2 ++ (txs false cs ++ 93 :: t))) = 44 := rfl
    rw [hb, if_neg (by simp), hh, if_neg (show ¬ (44 : Nat) = (Fr.mk false [] (pre ++ [c])).close from (show ¬ (44 : Nat) = 93 by decide)), if_pos rfl, List.tail_cons]
    rw [rds_arr cs c2 (pre ++ [c]) d (n + count c) t (hcs c2 (by simp)) (fun x hx => hcs x (by simp [hx])) h2.1 h2.2 (by omega)]
    simp only [counts, List.append_assoc, List.singleton_append]
    congr 1; omega

/-- the keys and kids of an Object -/
theorem rds_obj : ∀ (cs : List Nd) (ks : List ByteArray) (c : Nd) (k : ByteArray) (pk : List ByteArray) (pre : List Nd) (d n : Nat) (t : List UInt8), Rds c → (∀ x ∈ cs, Rds x) → okAt c (d + 1) = true → oks cs (d + 1) = true → n + count c + counts cs ≤ 20000 →
    ks.length = cs.length → (pk ++ k :: ks).Nodup → (k :: ks).all vld = true →
    rr d n (quoteP.qt k.data.toList ++ (58 :: (tx c ++ (txo false ks cs ++ 125 :: t)))) ⟨true, pk, pre⟩ = .ok (.mk 7 0 ByteArray.empty (pk ++ k :: ks) (pre ++ c :: cs)) t (n + count c + counts cs) := by
  intro cs
  induction cs with
  | nil =>
    intro ks c k pk pre d n t hc _ h1 _ h3 hl hnd hv
    obtain rfl : ks = [] := List.length_eq_zero_iff.1 hl
    simp only [List.all_cons, List.all_nil, Bool.and_true] at hv
    have hni : inK k pk = false := by
      cases hi : inK k pk with
      | false => rfl
      | true => exact absurd rfl ((List.nodup_append.1 hnd).2.2 k (inK_iff.1 hi) k (by simp))
    have hne : quoteP.qt k.data.toList ++ (58 :: (tx c ++ (txo false [] [] ++ 125 :: t))) ≠ [] := by unfold quoteP.qt; simp
    have hb0 : bs (quoteP.qt k.data.toList ++ (58 :: (tx c ++ (txo false [] [] ++ 125 :: t)))) = quoteP.qt k.data.toList ++ (58 :: (tx c ++ (txo false [] [] ++ 125 :: t))) := bs_id hne (by show 34 ≠ 9 ∧ 34 ≠ 10 ∧ 34 ≠ 13 ∧ 34 ≠ 32; decide)
    have hb1 : bs (58 :: (tx c ++ (txo false [] [] ++ 125 :: t))) = 58 :: (tx c ++ (txo false [] [] ++ 125 :: t)) := rfl
    have hh : hd (58 :: (tx c ++ (txo false [] [] ++ 125 :: t))) = 58 := rfl
    have e : txo false [] [] ++ 125 :: t = 125 :: t := rfl
    simp only [counts] at h3
    rw [rr_eq, if_pos rfl, hb0, stk_qt hv]
    dsimp only
    rw [arr_list, List.drop_left, if_neg (by rw [hni]; simp), hb1, hh, if_neg (by simp), List.tail_cons, e, hc (d + 1) n (125 :: t) h1 (by omega) (gH_125 t)]
    show rt d (n + count c) (125 :: t) ⟨true, pk ++ [k], pre ++ [c]⟩ = _
    unfold rt
    have hb : bs (125 :: t) = 125 :: t := rfl
    rw [hb, if_neg (by simp), if_pos (show hd (125 :: t) = (Fr.mk true (pk ++ [k]) (pre ++ [c])).close from rfl)]
    rfl
  | cons c2 cs ih =>
    intro ks c k pk pre d n t hc hcs h1 h2 h3 hl hnd hv
    cases ks with
    | nil => simp at hl
    | cons k2 ks =>
      simp only [List.all_cons, Bool.and_eq_true] at hv
      have hni : inK k pk = false := by
        cases hi : inK k pk with
        | false => rfl
        | true => exact absurd rfl ((List.nodup_append.1 hnd).2.2 k (inK_iff.1 hi) k (by simp))
      generalize hR : tx c ++ (txo false (k2 :: ks) (c2 :: cs) ++ 125 :: t) = R
      have hne : quoteP.qt k.data.toList ++ (58 :: R) ≠ [] := by unfold quoteP.qt; simp
      have hb0 : bs (quoteP.qt k.data.toList ++ (58 :: R)) = quoteP.qt k.data.toList ++ (58 :: R) := bs_id hne (by show 34 ≠ 9 ∧ 34 ≠ 10 ∧ 34 ≠ 13 ∧ 34 ≠ 32; decide)
      have hb1 : bs (58 :: R) = 58 :: R := rfl
      have hh : hd (58 :: R) = 58 := rfl
      have e : txo false (k2 :: ks) (c2 :: cs) ++ 125 :: t = 44 :: (quoteP.qt k2.data.toList ++ (58 :: (tx c2 ++ (txo false ks cs ++ 125 :: t)))) := by simp [txo, sep]
      simp only [counts] at h3
      simp only [oks, Bool.and_eq_true] at h2
      rw [rr_eq, if_pos rfl, hb0, stk_qt hv.1]
      dsimp only
      rw [arr_list, List.drop_left, if_neg (by rw [hni]; simp), hb1, hh, if_neg (by simp), List.tail_cons, ← hR, e, hc (d + 1) n _ h1 (by omega) (gH_44 _)]
      generalize hQ : quoteP.qt k2.data.toList ++ (58 :: (tx c2 ++ (txo false ks cs ++ 125 :: t))) = Q
      show rt d (n + count c) (44 :: Q) ⟨true, pk ++ [k], pre ++ [c]⟩ = _
      unfold rt
      have hb : bs (44 :: Q) = 44 :: Q := rfl
      have hh2 : hd (44 :: Q) = 44 := rfl
      rw [hb, if_neg (by simp), hh2, if_neg (show ¬ (44 : Nat) = (Fr.mk true (pk ++ [k]) (pre ++ [c])).close from (show ¬ (44 : Nat) = 125 by decide)), if_pos rfl, List.tail_cons, ← hQ]
      rw [ih ks c2 k2 (pk ++ [k]) (pre ++ [c]) d (n + count c) t (hcs c2 (by simp)) (fun x hx => hcs x (by simp [hx])) h2.1 h2.2 (by omega) (by simpa using hl) (by simpa using hnd) (by simp [hv.2])]
      simp only [counts, List.append_assoc, List.singleton_append]
      congr 1; omega

theorem rds_all : ∀ x, Fit x → Rds x := by
  intro x
  induction x using Nd.ind with
  | _ k m txt ks cs ih =>
  intro hf d n t hok hn ht
  obtain ⟨hm, hfc⟩ := hf.n
  have hrd : ∀ c ∈ cs, Rds c := fun c hc => ih c hc (hfc c hc)
  simp only [okAt, one, Bool.and_eq_true, Bool.or_eq_true, beq_iff_eq, decide_eq_true_eq] at hok
  obtain ⟨⟨⟨⟨h1, h2⟩, h3⟩, h4⟩, h5⟩ := hok
  have hcnt : count (.mk k m txt ks cs) = 1 + counts cs := rfl
  rw [hcnt] at hn ⊢
  unfold tx
  by_cases hk6 : k < 6
  · rw [if_pos hk6] at h4
    simp only [Bool.and_eq_true, Bool.or_eq_true, beq_iff_eq, List.isEmpty_iff, bne_iff_ne] at h4
    obtain ⟨⟨rfl, hc0⟩, h6⟩ := h4
    obtain rfl : cs = [] := List.length_eq_zero_iff.1 hc0
    simp only [counts] at hn ⊢
    by_cases k4 : k = 4
    · subst k4
      have he : txt = ByteArray.empty := by rcases h2 with h2 | h2; exact absurd h2 (by decide); exact txt_empty h2
      rw [if_neg (by decide), if_neg (by decide), if_neg (by decide), if_pos rfl, he]
      exact rds_int m hm d n t (by omega) ht
    by_cases k5 : k = 5
    · subst k5
      have hm0 : m = 0 := by rcases h1 with h1 | h1; exact absurd h1 (by decide); exact h1
      have hv : vld txt = true := by rcases h6 with h6 | h6; exact absurd rfl h6; exact h6
      rw [if_neg (by decide), if_neg (by decide), if_neg (by decide), if_neg (by decide), if_pos rfl, hm0]
      exact rds_str txt hv d n t (by omega)
    · have hm0 : m = 0 := by rcases h1 with h1 | h1; exact absurd h1 k4; exact h1
      have he : txt = ByteArray.empty := by rcases h2 with h2 | h2; exact absurd h2 k5; exact txt_empty h2
      rw [hm0, he]
      by_cases k1 : k = 1
      · subst k1; rw [if_pos rfl]; exact rds_word (.inl ⟨rfl, rfl⟩) d n t (by omega)
      rw [if_neg k1]
      by_cases k2 : k = 2
      · subst k2; rw [if_pos rfl]; exact rds_word (.inr (.inl ⟨rfl, rfl⟩)) d n t (by omega)
      rw [if_neg k2]
      have k3 : k = 3 := by omega
      subst k3; rw [if_pos rfl]; exact rds_word (.inr (.inr ⟨rfl, rfl⟩)) d n t (by omega)
  · rw [if_neg hk6] at h4
    simp only [Bool.and_eq_true, decide_eq_true_eq] at h4
    obtain ⟨hd32, hrk⟩ := h4
    have hm0 : m = 0 := by rcases h1 with h1 | h1; omega; exact h1
    have he : txt = ByteArray.empty := by rcases h2 with h2 | h2; omega; exact txt_empty h2
    rw [hm0, he, if_neg (by omega), if_neg (by omega), if_neg (by omega), if_neg (by omega), if_neg (by omega)]
    by_cases k6 : k = 6
    · subst k6
      rw [if_pos rfl]
      unfold nodeQ.rk at hrk
      rw [if_pos rfl, List.isEmpty_iff] at hrk
      subst hrk
      have e91 : ∀ u, bs (91 :: u) = 91 :: u := fun u => rfl
      have hh : ∀ u, hd (91 :: u) = 91 := fun u => rfl
      cases cs with
      | nil =>
        show rv d n (91 :: 93 :: t) = _
        have e93 : bs (93 :: t) = 93 :: t := rfl
        rw [rv_eq, e91, hh, if_neg (by simp), if_neg (by simp only [counts] at hn; omega), if_pos (.inl rfl), if_neg (by omega), List.tail_cons, e93, if_pos ⟨by simp, rfl⟩]; rfl
      | cons c cs =>
        have e : 91 :: (txs true (c :: cs) ++ [93]) ++ t = 91 :: (tx c ++ (txs false cs ++ 93 :: t)) := by simp [txs, sep]
        simp only [oks, Bool.and_eq_true] at h5
        simp only [counts] at hn ⊢
        obtain ⟨q1, q2, q3, q4, q5, q6, q7⟩ := tx_hd h5.1 (txs false cs ++ 93 :: t)
        have hb := bs_id (u := tx c ++ (txs false cs ++ 93 :: t)) (by simp [q1]) ⟨q3, q4, q5, q6⟩
        rw [e, rv_eq, e91, hh, if_neg (by simp), if_neg (by omega), if_pos (.inl rfl), if_neg (by omega), List.tail_cons, hb, if_neg (fun h => q2 h.2)]
        have := rds_arr cs c [] d (n + 1) t (hrd c (by simp)) (fun x hx => hrd x (by simp [hx])) h5.1 h5.2 (by omega)
        refine Eq.trans this ?_
        rw [List.nil_append]
        congr 1; omega
    · have k7 : k = 7 := by omega
      subst k7
      rw [if_neg (by decide)]
      unfold nodeQ.rk at hrk
      rw [if_neg (by decide)] at hrk
      simp only [Bool.and_eq_true, beq_iff_eq, decide_eq_true_eq] at hrk
      obtain ⟨⟨hl, hnd⟩, hv⟩ := hrk
      have e123 : ∀ u, bs (123 :: u) = 123 :: u := fun u => rfl
      have hh : ∀ u, hd (123 :: u) = 123 := fun u => rfl
      cases cs with
      | nil =>
        obtain rfl : ks = [] := List.length_eq_zero_iff.1 hl
        show rv d n (123 :: 125 :: t) = _
        have e125 : bs (125 :: t) = 125 :: t := rfl
        rw [rv_eq, e123, hh, if_neg (by simp), if_neg (by simp only [counts] at hn; omega), if_pos (.inr rfl), if_neg (by omega), List.tail_cons, e125, if_pos ⟨by simp, rfl⟩]; rfl
      | cons c cs =>
        cases ks with
        | nil => simp at hl
        | cons k ks =>
          have e : 123 :: (txo true (k :: ks) (c :: cs) ++ [125]) ++ t = 123 :: (quoteP.qt k.data.toList ++ (58 :: (tx c ++ (txo false ks cs ++ 125 :: t)))) := by simp [txo, sep]
          simp only [oks, Bool.and_eq_true] at h5
          simp only [counts] at hn ⊢
          have hb : bs (quoteP.qt k.data.toList ++ (58 :: (tx c ++ (txo false ks cs ++ 125 :: t)))) = quoteP.qt k.data.toList ++ (58 :: (tx c ++ (txo false ks cs ++ 125 :: t))) := bs_id (by unfold quoteP.qt; simp) (by show 34 ≠ 9 ∧ 34 ≠ 10 ∧ 34 ≠ 13 ∧ 34 ≠ 32; decide)
          have h34 : hd (quoteP.qt k.data.toList ++ (58 :: (tx c ++ (txo false ks cs ++ 125 :: t)))) = 34 := rfl
          rw [e, rv_eq, e123, hh, if_neg (by simp), if_neg (by omega), if_pos (.inr rfl), if_neg (by omega), List.tail_cons, hb, h34, if_neg (fun h => absurd h.2 (show ¬ (34 : Nat) = 125 by decide))]
          have := rds_obj cs ks c k [] [] d (n + 1) t (hrd c (by simp)) (fun x hx => hrd x (by simp [hx])) h5.1 h5.2 (by omega) (by simpa using hl) (by simpa using hnd) (by simpa using hv)
          refine Eq.trans this ?_
          rw [List.nil_append, List.nil_append]
          congr 1; omega
/-- a right value's text is read as that value -/
theorem parse_tx {x : Nd} (hf : Fit x) (hok : okAt x 0 = true) (hc : count x ≤ 20000) : parseJ (tx x) = .ok x := by
  have := rds_all x hf 0 0 [] hok (by omega) gH_nil
  rw [List.append_nil] at this
  unfold parseJ
  rw [this]; rfl
theorem fit_at {w : World} {B : Nat} {x : Nd} {l : List Value} (h : NodeAt w B x l) : Fit x := by
  induction h with
  | mk k n t ks cs kv ao cap b off ls hz hk hm ha hc hn ih =>
    refine .mk k n t ks cs hz.2.1 (fun c hc => ?_)
    obtain ⟨i, hi, e⟩ := List.getElem_of_mem hc
    rw [← e]; exact ih i hi
end Go.Proofs.YtdbidkfjbhclcaaDoor.jsonU

