/-
  Plain law of reading JSON: fuel is no matter; what is read is right; rests are shorter.
-/
import Derived.Test.YtjcaffpmcgfhaaaDoorJsonP
namespace Go.Proofs.YtjcaffpmcgfhaaaDoor.jsonQ
open Go.Proofs.YtjcaffpmcgfhaaaDoor.nodeP Go.Proofs.YtjcaffpmcgfhaaaDoor.nodeQ Go.Proofs.YtjcaffpmcgfhaaaDoor.utfP Go.Proofs.YtjcaffpmcgfhaaaDoor.utfQ Go.Proofs.YtjcaffpmcgfhaaaDoor.utfR Go.Proofs.YtjcaffpmcgfhaaaDoor.jsonP
set_option linter.unusedSimpArgs false
set_option linter.unusedVariables false

theorem hd_bt (u : List UInt8) : hd u = bt u 0 := by cases u <;> rfl
theorem hd_ne {u : List UInt8} {n : Nat} (h : hd u = n) (hn : n ≠ 0) : u ≠ [] := by rintro rfl; exact hn h.symm
theorem tail_le (u : List UInt8) : u.tail.length ≤ u.length := by rw [List.length_tail]; omega
theorem stk_len {l x : List UInt8} {n : Nat} (h : stk l = some (x, n)) : 1 ≤ n ∧ n ≤ l.length ∧ x.length + 2 ≤ n ∧ (pts x).isSome = true := by
  unfold stk at h
  by_cases h34 : bt l 0 = 34
  · rw [if_pos h34] at h
    obtain ⟨q, hq, e⟩ := Option.map_eq_some_iff.1 h
    obtain ⟨y, m⟩ := q
    rw [Prod.mk.injEq] at e
    obtain ⟨rfl, rfl⟩ := e
    obtain ⟨i1, i2, i3, i4⟩ := quoteP.tk_len _ _ (Nat.le_refl _) y m hq
    have hne : l ≠ [] := by rintro rfl; cases h34
    have := tail_len hne
    exact ⟨by omega, by dsimp only; omega, by dsimp only; omega, i4⟩
  · rw [if_neg h34] at h; cases h
theorem takeN_len {l : List UInt8} (h : (intsP.takeN l).2.2 = 0) : 1 ≤ (intsP.takeN l).2.1 ∧ (intsP.takeN l).2.1 ≤ l.length ∧ In64 (intsP.takeN l).1 := by
  have hw := intsP.whole_le l
  unfold intsP.takeN at h ⊢
  by_cases h0 : intsP.whole l = 0
  · rw [if_pos h0] at h; cases h
  rw [if_neg h0] at h ⊢
  by_cases h1 : intsP.whole l < intsP.every l
  · rw [if_pos h1] at h; cases h
  rw [if_neg h1] at h ⊢
  cases hv : intsP.valO (l.take (intsP.whole l)) with
  | none => rw [hv] at h; cases h
  | some v =>
    dsimp only
    have := intsP.valO_bd hv
    exact ⟨by omega, hw, this.1, this.2⟩
theorem pre_iff {u t : List UInt8} : Lib.hasPrefix u t = true ↔ t <+: u := List.isPrefixOf_iff_prefix
theorem pre_len {u t : List UInt8} (h : Lib.hasPrefix u t = true) : t.length ≤ u.length := (pre_iff.1 h).length_le
/-- a value without kids -/
theorem scal_ok {u : List UInt8} (h : (scal u).2.2 = 0) (d : Nat) : 1 ≤ (scal u).2.1 ∧ (scal u).2.1 ≤ u.length ∧ okAt (scal u).1 d = true ∧ count (scal u).1 = 1 ∧ dp (scal u).1 = 0 := by
  unfold scal at h ⊢
  by_cases h1 : hd u = 34
  · rw [if_pos h1] at h ⊢
    cases hs : stk u with
    | none => rw [hs] at h; cases h
    | some q =>
      obtain ⟨x, n⟩ := q
      obtain ⟨i1, i2, i3, i4⟩ := stk_len hs
      have hv : vld ⟨x.toArray⟩ = true := by unfold vld; exact i4
      refine ⟨i1, i2, ?_, rfl, rfl⟩
      simp [okAt, one, oks, hv]
  rw [if_neg h1] at h ⊢
  by_cases h2 : isNum (hd u) = true
  · rw [if_pos h2] at h ⊢
    by_cases h3 : (intsP.takeN u).2.2 = 0
    · rw [if_pos h3] at h ⊢
      obtain ⟨i1, i2, i3⟩ := takeN_len h3
      refine ⟨i1, i2, ?_, rfl, rfl⟩
      simp [okAt, one, oks]
    · rw [if_neg h3] at h; exact absurd h h3
  rw [if_neg h2] at h ⊢
  have hw : ∀ k : Int, (k = 1 ∨ k = 2 ∨ k = 3) → okAt (word k) d = true ∧ count (word k) = 1 ∧ dp (word k) = 0 := by
    intro k hk
    refine ⟨?_, rfl, rfl⟩
    rcases hk with rfl | rfl | rfl <;> simp [okAt, one, oks, word]
  by_cases h3 : Lib.hasPrefix u wNull = true
  · rw [if_pos h3]; have := pre_len h3; exact ⟨by decide, this, hw 1 (by simp)⟩
  rw [if_neg h3] at h ⊢
  by_cases h4 : Lib.hasPrefix u wFalse = true
  · rw [if_pos h4]; have := pre_len h4; exact ⟨by decide, this, hw 2 (by simp)⟩
  rw [if_neg h4] at h ⊢
  by_cases h5 : Lib.hasPrefix u wTrue = true
  · rw [if_pos h5]; have := pre_len h5; exact ⟨by decide, this, hw 3 (by simp)⟩
  rw [if_neg h5] at h; cases h

/-- rests are shorter -/
theorem rd_len (f : Nat) : (∀ d n u x v m, rdV f d n u = .ok x v m → v.length < u.length) ∧ (∀ d n u g x v m, rdK f d n u g = .ok x v m → v.length < u.length) := by
  induction f with
  | zero => exact ⟨fun d n u x v m h => (by unfold rdV at h; cases h), fun d n u g x v m h => (by unfold rdK at h; cases h)⟩
  | succ f ih =>
    obtain ⟨ihV, ihK⟩ := ih
    have tail : ∀ (d : Nat) (v : List UInt8) (g : Fr) (y : Nd) (m : Nat) (x : Nd) (v' : List UInt8) (m' : Nat),
        (if bs v = [] then R3.err 1 else if hd (bs v) = g.close then .ok (Fr.mk g.obj g.keys (g.kids ++ [y])).node (bs v).tail m else if hd (bs v) = 44 then rdK f d m (bs v).tail ⟨g.obj, g.keys, g.kids ++ [y]⟩ else .err 1) = .ok x v' m' → v'.length < v.length := by
      intro d v g y m x v' m' h
      have hb := bs_len v
      by_cases h1 : bs v = []
      · rw [if_pos h1] at h; cases h
      have ht := tail_len h1
      rw [if_neg h1] at h
      by_cases h2 : hd (bs v) = g.close
      · rw [if_pos h2] at h; cases h; omega
      rw [if_neg h2] at h
      by_cases h3 : hd (bs v) = 44
      · rw [if_pos h3] at h
        have := ihK _ _ _ _ _ _ _ h; omega
      · rw [if_neg h3] at h; cases h
    refine ⟨fun d n u x v m h => ?_, fun d n u g x v m h => ?_⟩
    · unfold rdV at h
      have hb := bs_len u
      by_cases h1 : bs u = []
      · rw [if_pos h1] at h; cases h
      have ht := tail_len h1
      rw [if_neg h1] at h
      by_cases h2 : n = 20000
      · rw [if_pos h2] at h; cases h
      rw [if_neg h2] at h
      by_cases h3 : hd (bs u) = 91 ∨ hd (bs u) = 123
      · rw [if_pos h3] at h
        by_cases h4 : d = 32
        · rw [if_pos h4] at h; cases h
        rw [if_neg h4] at h
        by_cases h5 : bs (bs u).tail ≠ [] ∧ hd (bs (bs u).tail) = (Fr.mk (decide (hd (bs u) = 123)) [] []).close
        · rw [if_pos h5] at h; cases h
          have := bs_len (bs u).tail
          have := tail_le (bs (bs u).tail)
          omega
        · rw [if_neg h5] at h
          have := ihK _ _ _ _ _ _ _ h
          have := bs_len (bs u).tail
          omega
      · rw [if_neg h3] at h
        by_cases h4 : (scal (bs u)).2.2 ≠ 0
        · rw [if_pos h4] at h; cases h
        · rw [if_neg h4] at h; cases h
          obtain ⟨i1, i2, _⟩ := scal_ok (u := bs u) (by omega) 0
          rw [List.length_drop]; omega
    · unfold rdK at h
      by_cases ho : g.obj = true
      · rw [if_pos ho] at h
        cases hs : stk (bs u) with
        | none => rw [hs] at h; cases h
        | some q =>
          obtain ⟨k, kn⟩ := q
          rw [hs] at h
          dsimp only at h
          by_cases h1 : inK ⟨k.toArray⟩ g.keys = true
          · rw [if_pos h1] at h; cases h
          rw [if_neg h1] at h
          by_cases h2 : bs ((bs u).drop kn) = [] ∨ hd (bs ((bs u).drop kn)) ≠ 58
          · rw [if_pos h2] at h; cases h
          rw [if_neg h2] at h
          cases hr : rdV f (d + 1) n (bs ((bs u).drop kn)).tail with
          | ok y w m2 =>
            rw [hr] at h
            have h3 := ihV _ _ _ _ _ _ hr
            have h4 := tail d w ⟨g.obj, g.keys ++ [⟨k.toArray⟩], g.kids⟩ y m2 x v m h
            have := bs_len u
            have := bs_len ((bs u).drop kn)
            have := tail_le (bs ((bs u).drop kn))
            rw [List.length_drop] at *
            omega
          | err e => rw [hr] at h; cases h
          | stuck => rw [hr] at h; cases h
      · rw [if_neg ho] at h
        cases hr : rdV f (d + 1) n u with
        | ok y w m2 =>
          rw [hr] at h
          have h3 := ihV _ _ _ _ _ _ hr
          have h4 := tail d w g y m2 x v m h
          omega
        | err e => rw [hr] at h; cases h
        | stuck => rw [hr] at h; cases h

/-- so much fuel is enough -/
theorem rd_enough (f : Nat) : (∀ d n u, 2 * u.length + 1 ≤ f → rdV f d n u ≠ .stuck) ∧ (∀ d n u g, 2 * u.length + 2 ≤ f → rdK f d n u g ≠ .stuck) := by
  induction f with
  | zero => exact ⟨fun d n u h => by omega, fun d n u g h => by omega⟩
  | succ f ih =>
    obtain ⟨ihV, ihK⟩ := ih
    have tail : ∀ (d : Nat) (v : List UInt8) (g : Fr) (y : Nd) (m : Nat), 2 * v.length ≤ f →
        (if bs v = [] then R3.err 1 else if hd (bs v) = g.close then .ok (Fr.mk g.obj g.keys (g.kids ++ [y])).node (bs v).tail m else if hd (bs v) = 44 then rdK f d m (bs v).tail ⟨g.obj, g.keys, g.kids ++ [y]⟩ else .err 1) ≠ .stuck := by
      intro d v g y m hf h
      have hb := bs_len v
      by_cases h1 : bs v = []
      · rw [if_pos h1] at h; cases h
      have ht := tail_len h1
      rw [if_neg h1] at h
      by_cases h2 : hd (bs v) = g.close
      · rw [if_pos h2] at h; cases h
      rw [if_neg h2] at h
      by_cases h3 : hd (bs v) = 44
      · rw [if_pos h3] at h
        exact ihK _ _ _ _ (by omega) h
      · rw [if_neg h3] at h; cases h
    refine ⟨fun d n u hf h => ?_, fun d n u g hf h => ?_⟩
    · unfold rdV at h
      have hb := bs_len u
      by_cases h1 : bs u = []
      · rw [if_pos h1] at h; cases h
      have ht := tail_len h1
      rw [if_neg h1] at h
      by_cases h2 : n = 20000
      · rw [if_pos h2] at h; cases h
      rw [if_neg h2] at h
      by_cases h3 : hd (bs u) = 91 ∨ hd (bs u) = 123
      · rw [if_pos h3] at h
        by_cases h4 : d = 32
        · rw [if_pos h4] at h; cases h
        rw [if_neg h4] at h
        by_cases h5 : bs (bs u).tail ≠ [] ∧ hd (bs (bs u).tail) = (Fr.mk (decide (hd (bs u) = 123)) [] []).close
        · rw [if_pos h5] at h; cases h
        · rw [if_neg h5] at h
          have := bs_len (bs u).tail
          exact ihK _ _ _ _ (by omega) h
      · rw [if_neg h3] at h
        by_cases h4 : (scal (bs u)).2.2 ≠ 0
        · rw [if_pos h4] at h; cases h
        · rw [if_neg h4] at h; cases h
    · unfold rdK at h
      by_cases ho : g.obj = true
      · rw [if_pos ho] at h
        cases hs : stk (bs u) with
        | none => rw [hs] at h; cases h
        | some q =>
          obtain ⟨k, kn⟩ := q
          rw [hs] at h
          dsimp only at h
          by_cases h1 : inK ⟨k.toArray⟩ g.keys = true
          · rw [if_pos h1] at h; cases h
          rw [if_neg h1] at h
          by_cases h2 : bs ((bs u).drop kn) = [] ∨ hd (bs ((bs u).drop kn)) ≠ 58
          · rw [if_pos h2] at h; cases h
          rw [if_neg h2] at h
          have := bs_len u
          have := bs_len ((bs u).drop kn)
          have := tail_le (bs ((bs u).drop kn))
          rw [List.length_drop] at *
          cases hr : rdV f (d + 1) n (bs ((bs u).drop kn)).tail with
          | ok y w m2 =>
            rw [hr] at h
            have h3 := (rd_len f).1 _ _ _ _ _ _ hr
            exact tail d w ⟨g.obj, g.keys ++ [⟨k.toArray⟩], g.kids⟩ y m2 (by omega) h
          | err e => rw [hr] at h; cases h
          | stuck => exact ihV _ _ _ (by omega) hr
      · rw [if_neg ho] at h
        cases hr : rdV f (d + 1) n u with
        | ok y w m2 =>
          rw [hr] at h
          have h3 := (rd_len f).1 _ _ _ _ _ _ hr
          exact tail d w g y m2 (by omega) h
        | err e => rw [hr] at h; cases h
        | stuck => exact ihV _ _ _ (by omega) hr

/-- what is read with some fuel is read with more -/
theorem rd_more (f : Nat) : (∀ d n u, rdV f d n u ≠ .stuck → rdV (f + 1) d n u = rdV f d n u) ∧ (∀ d n u g, rdK f d n u g ≠ .stuck → rdK (f + 1) d n u g = rdK f d n u g) := by
  induction f with
  | zero => exact ⟨fun d n u h => by unfold rdV at h; exact absurd rfl h, fun d n u g h => by unfold rdK at h; exact absurd rfl h⟩
  | succ f ih =>
    obtain ⟨ihV, ihK⟩ := ih
    have tail : ∀ (d : Nat) (v : List UInt8) (g : Fr) (y : Nd) (m : Nat),
        (if bs v = [] then R3.err 1 else if hd (bs v) = g.close then .ok (Fr.mk g.obj g.keys (g.kids ++ [y])).node (bs v).tail m else if hd (bs v) = 44 then rdK f d m (bs v).tail ⟨g.obj, g.keys, g.kids ++ [y]⟩ else .err 1) ≠ .stuck →
        (if bs v = [] then R3.err 1 else if hd (bs v) = g.close then .ok (Fr.mk g.obj g.keys (g.kids ++ [y])).node (bs v).tail m else if hd (bs v) = 44 then rdK (f + 1) d m (bs v).tail ⟨g.obj, g.keys, g.kids ++ [y]⟩ else .err 1) =
        (if bs v = [] then R3.err 1 else if hd (bs v) = g.close then .ok (Fr.mk g.obj g.keys (g.kids ++ [y])).node (bs v).tail m else if hd (bs v) = 44 then rdK f d m (bs v).tail ⟨g.obj, g.keys, g.kids ++ [y]⟩ else .err 1) := by
      intro d v g y m h
      by_cases h1 : bs v = []
      · rw [if_pos h1, if_pos h1]
      rw [if_neg h1] at h ⊢
      rw [if_neg h1]
      by_cases h2 : hd (bs v) = g.close
      · rw [if_pos h2, if_pos h2]
      rw [if_neg h2] at h ⊢
      rw [if_neg h2]
      by_cases h3 : hd (bs v) = 44
      · rw [if_pos h3] at h ⊢
        rw [if_pos h3]
        exact ihK _ _ _ _ h
      · rw [if_neg h3, if_neg h3]
    refine ⟨fun d n u h => ?_, fun d n u g h => ?_⟩
    · rw [rdV.eq_2 d n u (f + 1), rdV.eq_2 d n u f] at *
      by_cases h1 : bs u = []
      · rw [if_pos h1, if_pos h1]
      rw [if_neg h1] at h ⊢
      rw [if_neg h1]
      by_cases h2 : n = 20000
      · rw [if_pos h2, if_pos h2]
      rw [if_neg h2] at h ⊢
      rw [if_neg h2]
      by_cases h3 : hd (bs u) = 91 ∨ hd (bs u) = 123
      · rw [if_pos h3] at h ⊢
        rw [if_pos h3]
        by_cases h4 : d = 32
        · rw [if_pos h4, if_pos h4]
        rw [if_neg h4] at h ⊢
        rw [if_neg h4]
        by_cases h5 : bs (bs u).tail ≠ [] ∧ hd (bs (bs u).tail) = (Fr.mk (decide (hd (bs u) = 123)) [] []).close
        · rw [if_pos h5, if_pos h5]
        · rw [if_neg h5] at h ⊢
          rw [if_neg h5]
          exact ihK _ _ _ _ h
      · rw [if_neg h3, if_neg h3]
    · rw [rdK.eq_2 d n u g (f + 1), rdK.eq_2 d n u g f] at *
      by_cases ho : g.obj = true
      · rw [if_pos ho] at h ⊢
        rw [if_pos ho]
        cases hs : stk (bs u) with
        | none => rfl
        | some q =>
          obtain ⟨k, kn⟩ := q
          rw [hs] at h
          dsimp only at h ⊢
          by_cases h1 : inK ⟨k.toArray⟩ g.keys = true
          · rw [if_pos h1, if_pos h1]
          rw [if_neg h1] at h ⊢
          rw [if_neg h1]
          by_cases h2 : bs ((bs u).drop kn) = [] ∨ hd (bs ((bs u).drop kn)) ≠ 58
          · rw [if_pos h2, if_pos h2]
          rw [if_neg h2] at h ⊢
          rw [if_neg h2]
          have hv := ihV (d + 1) n (bs ((bs u).drop kn)).tail (by intro e; rw [e] at h; exact h rfl)
          rw [hv]
          cases hr : rdV f (d + 1) n (bs ((bs u).drop kn)).tail with
          | ok y w m2 => rw [hr] at h; exact tail d w ⟨g.obj, g.keys ++ [⟨k.toArray⟩], g.kids⟩ y m2 h
          | err e => rfl
          | stuck => rfl
      · rw [if_neg ho] at h ⊢
        rw [if_neg ho]
        have hv := ihV (d + 1) n u (by intro e; rw [e] at h; exact h rfl)
        rw [hv]
        cases hr : rdV f (d + 1) n u with
        | ok y w m2 => rw [hr] at h; exact tail d w g y m2 h
        | err e => rfl
        | stuck => rfl
theorem rdV_more {f g : Nat} (hfg : f ≤ g) {d n : Nat} {u : List UInt8} (h : rdV f d n u ≠ .stuck) : rdV g d n u = rdV f d n u := by
  induction hfg with
  | refl => rfl
  | @step g _ ih => rw [← ih]; exact (rd_more g).1 d n u (by rw [ih]; exact h)
theorem rdK_more {f g : Nat} (hfg : f ≤ g) {d n : Nat} {u : List UInt8} {r : Fr} (h : rdK f d n u r ≠ .stuck) : rdK g d n u r = rdK f d n u r := by
  induction hfg with
  | refl => rfl
  | @step g _ ih => rw [← ih]; exact (rd_more g).2 d n u r (by rw [ih]; exact h)
/-- a value at a depth, without fuel -/
noncomputable def rv (d n : Nat) (u : List UInt8) : R3 := rdV (2 * u.length + 1) d n u
noncomputable def rr (d n : Nat) (u : List UInt8) (g : Fr) : R3 := rdK (2 * u.length + 2) d n u g
theorem rv_of {f d n : Nat} {u : List UInt8} (h : 2 * u.length + 1 ≤ f) : rdV f d n u = rv d n u := rdV_more h ((rd_enough _).1 d n u (Nat.le_refl _))
theorem rr_of {f d n : Nat} {u : List UInt8} {g : Fr} (h : 2 * u.length + 2 ≤ f) : rdK f d n u g = rr d n u g := rdK_more h ((rd_enough _).2 d n u g (Nat.le_refl _))
theorem rv_ne (d n : Nat) (u : List UInt8) : rv d n u ≠ .stuck := (rd_enough _).1 d n u (Nat.le_refl _)
theorem rr_ne (d n : Nat) (u : List UInt8) (g : Fr) : rr d n u g ≠ .stuck := (rd_enough _).2 d n u g (Nat.le_refl _)
theorem rv_len {d n : Nat} {u : List UInt8} {x : Nd} {v : List UInt8} {m : Nat} (h : rv d n u = .ok x v m) : v.length < u.length := (rd_len _).1 _ _ _ _ _ _ h

/-- behind a kid -/
noncomputable def rt (d m : Nat) (v : List UInt8) (g : Fr) : R3 :=
  if bs v = [] then .err 1 else if hd (bs v) = g.close then .ok g.node (bs v).tail m else if hd (bs v) = 44 then rr d m (bs v).tail g else .err 1
theorem rv_eq (d n : Nat) (u : List UInt8) : rv d n u =
    if bs u = [] then .err 1
    else if n = 20000 then .err 3
    else if hd (bs u) = 91 ∨ hd (bs u) = 123 then
      if d = 32 then .err 2
      else if bs (bs u).tail ≠ [] ∧ hd (bs (bs u).tail) = (Fr.mk (decide (hd (bs u) = 123)) [] []).close then .ok (Fr.mk (decide (hd (bs u) = 123)) [] []).node (bs (bs u).tail).tail (n + 1)
      else rr d (n + 1) (bs (bs u).tail) ⟨decide (hd (bs u) = 123), [], []⟩
    else if (scal (bs u)).2.2 ≠ 0 then .err (scal (bs u)).2.2
    else .ok (scal (bs u)).1 ((bs u).drop (scal (bs u)).2.1) (n + 1) := by
  unfold rv
  rw [rdV.eq_2]
  by_cases h1 : bs u = []
  · rw [if_pos h1, if_pos h1]
  rw [if_neg h1, if_neg h1]
  have hb := bs_len u
  have ht := tail_len h1
  have := bs_len (bs u).tail
  rw [rr_of (by omega)]
theorem rr_eq (d n : Nat) (u : List UInt8) (g : Fr) : rr d n u g =
    if g.obj = true then
      match stk (bs u) with
      | none => .err 1
      | some (x, k) =>
        if inK ⟨x.toArray⟩ g.keys = true then .err 5
        else if bs ((bs u).drop k) = [] ∨ hd (bs ((bs u).drop k)) ≠ 58 then .err 1
        else match rv (d + 1) n (bs ((bs u).drop k)).tail with
          | .ok y v m => rt d m v ⟨g.obj, g.keys ++ [⟨x.toArray⟩], g.kids ++ [y]⟩
          | r => r
    else match rv (d + 1) n u with
      | .ok y v m => rt d m v ⟨g.obj, g.keys, g.kids ++ [y]⟩
      | r => r := by
  unfold rr
  rw [rdK.eq_2]
  have tail : ∀ (v : List UInt8) (r : Fr) (m : Nat), v.length < u.length →
      (if bs v = [] then R3.err 1 else if hd (bs v) = r.close then .ok r.node (bs v).tail m else if hd (bs v) = 44 then rdK (2 * u.length + 1) d m (bs v).tail r else .err 1) = rt d m v r := by
    intro v r m hl
    unfold rt
    have hb := bs_len v
    by_cases h1 : bs v = []
    · rw [if_pos h1, if_pos h1]
    have ht := tail_len h1
    rw [if_neg h1, if_neg h1, rr_of (by omega)]
  by_cases ho : g.obj = true
  · rw [if_pos ho, if_pos ho]
    cases hs : stk (bs u) with
    | none => rfl
    | some q =>
      obtain ⟨k, kn⟩ := q
      dsimp only
      by_cases h1 : inK ⟨k.toArray⟩ g.keys = true
      · rw [if_pos h1, if_pos h1]
      rw [if_neg h1, if_neg h1]
      by_cases h2 : bs ((bs u).drop kn) = [] ∨ hd (bs ((bs u).drop kn)) ≠ 58
      · rw [if_pos h2, if_pos h2]
      rw [if_neg h2, if_neg h2]
      have := bs_len u
      have := bs_len ((bs u).drop kn)
      have := tail_le (bs ((bs u).drop kn))
      rw [List.length_drop] at *
      rw [rv_of (by omega)]
      cases hr : rv (d + 1) n (bs ((bs u).drop kn)).tail with
      | ok y w m2 =>
        have h3 := rv_len hr
        exact tail w ⟨g.obj, g.keys ++ [⟨k.toArray⟩], g.kids ++ [y]⟩ m2 (by omega)
      | err e => rfl
      | stuck => rfl
  · rw [if_neg ho, if_neg ho, rv_of (by omega)]
    cases hr : rv (d + 1) n u with
    | ok y w m2 =>
      have h3 := rv_len hr
      exact tail w ⟨g.obj, g.keys, g.kids ++ [y]⟩ m2 (by omega)
    | err e => rfl
    | stuck => rfl

/-- reading by induction: what holds of each value and of each rest of an Array or an Object -/
theorem rd_ind {MV : Nat → Nat → List UInt8 → R3 → Prop} {MK : Nat → Nat → List UInt8 → Fr → R3 → Prop} {MT : Nat → Nat → List UInt8 → Fr → R3 → Prop}
    (hV : ∀ d n u, bs u = [] → MV d n u (.err 1)) (hV2 : ∀ d u, bs u ≠ [] → MV d 20000 u (.err 3))
    (hV3 : ∀ n u, bs u ≠ [] → n ≠ 20000 → hd (bs u) = 91 ∨ hd (bs u) = 123 → MV 32 n u (.err 2))
    (hV4 : ∀ d n u, bs u ≠ [] → n ≠ 20000 → hd (bs u) = 91 ∨ hd (bs u) = 123 → d ≠ 32 → bs (bs u).tail ≠ [] → hd (bs (bs u).tail) = (Fr.mk (decide (hd (bs u) = 123)) [] []).close → MV d n u (.ok (Fr.mk (decide (hd (bs u) = 123)) [] []).node (bs (bs u).tail).tail (n + 1)))
    (hV5 : ∀ d n u r, bs u ≠ [] → n ≠ 20000 → hd (bs u) = 91 ∨ hd (bs u) = 123 → d ≠ 32 → ¬ (bs (bs u).tail ≠ [] ∧ hd (bs (bs u).tail) = (Fr.mk (decide (hd (bs u) = 123)) [] []).close) → MK d (n + 1) (bs (bs u).tail) ⟨decide (hd (bs u) = 123), [], []⟩ r → MV d n u r)
    (hV6 : ∀ d n u, bs u ≠ [] → n ≠ 20000 → ¬ (hd (bs u) = 91 ∨ hd (bs u) = 123) → (scal (bs u)).2.2 ≠ 0 → MV d n u (.err (scal (bs u)).2.2))
    (hV7 : ∀ d n u, bs u ≠ [] → n ≠ 20000 → ¬ (hd (bs u) = 91 ∨ hd (bs u) = 123) → (scal (bs u)).2.2 = 0 → MV d n u (.ok (scal (bs u)).1 ((bs u).drop (scal (bs u)).2.1) (n + 1)))
    (hK1 : ∀ d n u g, g.obj = true → stk (bs u) = none → MK d n u g (.err 1))
    (hK2 : ∀ d n u g x k, g.obj = true → stk (bs u) = some (x, k) → inK ⟨x.toArray⟩ g.keys = true → MK d n u g (.err 5))
    (hK3 : ∀ d n u g x k, g.obj = true → stk (bs u) = some (x, k) → inK ⟨x.toArray⟩ g.keys = false → bs ((bs u).drop k) = [] ∨ hd (bs ((bs u).drop k)) ≠ 58 → MK d n u g (.err 1))
    (hK4 : ∀ d n u g x k e, g.obj = true → stk (bs u) = some (x, k) → inK ⟨x.toArray⟩ g.keys = false → bs ((bs u).drop k) ≠ [] → hd (bs ((bs u).drop k)) = 58 → MV (d + 1) n (bs ((bs u).drop k)).tail (.err e) → MK d n u g (.err e))
    (hK5 : ∀ d n u g x k y v m r, g.obj = true → stk (bs u) = some (x, k) → inK ⟨x.toArray⟩ g.keys = false → bs ((bs u).drop k) ≠ [] → hd (bs ((bs u).drop k)) = 58 → MV (d + 1) n (bs ((bs u).drop k)).tail (.ok y v m) → MT d m v ⟨g.obj, g.keys ++ [⟨x.toArray⟩], g.kids ++ [y]⟩ r → MK d n u g r)
    (hK6 : ∀ d n u g e, g.obj = false → MV (d + 1) n u (.err e) → MK d n u g (.err e))
    (hK7 : ∀ d n u g y v m r, g.obj = false → MV (d + 1) n u (.ok y v m) → MT d m v ⟨g.obj, g.keys, g.kids ++ [y]⟩ r → MK d n u g r)
    (hT1 : ∀ d m v g, bs v = [] → MT d m v g (.err 1))
    (hT2 : ∀ d m v g, bs v ≠ [] → hd (bs v) = g.close → MT d m v g (.ok g.node (bs v).tail m))
    (hT3 : ∀ d m v g r, bs v ≠ [] → hd (bs v) ≠ g.close → hd (bs v) = 44 → MK d m (bs v).tail g r → MT d m v g r)
    (hT4 : ∀ d m v g, bs v ≠ [] → hd (bs v) ≠ g.close → hd (bs v) ≠ 44 → MT d m v g (.err 1)) :
    ∀ N, (∀ d n u, u.length ≤ N → MV d n u (rv d n u)) ∧ (∀ d n u g, u.length ≤ N → MK d n u g (rr d n u g)) ∧ (∀ d m v g, v.length ≤ N + 1 → MT d m v g (rt d m v g)) := by
  intro N
  induction N using Nat.strongRecOn with
  | ind N ih =>
    have T : ∀ d m v g, v.length ≤ N → MT d m v g (rt d m v g) := by
      intro d m v g hl
      unfold rt
      by_cases h1 : bs v = []
      · rw [if_pos h1]; exact hT1 d m v g h1
      have hb := bs_len v
      have ht := tail_len h1
      rw [if_neg h1]
      by_cases h2 : hd (bs v) = g.close
      · rw [if_pos h2]; exact hT2 d m v g h1 h2
      rw [if_neg h2]
      by_cases h3 : hd (bs v) = 44
      · rw [if_pos h3]; exact hT3 d m v g _ h1 h2 h3 ((ih (N - 1) (by omega)).2.1 d m _ g (by omega))
      · rw [if_neg h3]; exact hT4 d m v g h1 h2 h3
    have V : ∀ d n u, u.length ≤ N → MV d n u (rv d n u) := by
      intro d n u hl
      rw [rv_eq]
      by_cases h1 : bs u = []
      · rw [if_pos h1]; exact hV d n u h1
      have hb := bs_len u
      have ht := tail_len h1
      rw [if_neg h1]
      by_cases h2 : n = 20000
      · rw [if_pos h2, h2]; exact hV2 d u h1
      rw [if_neg h2]
      by_cases h3 : hd (bs u) = 91 ∨ hd (bs u) = 123
      · rw [if_pos h3]
        by_cases h4 : d = 32
        · rw [if_pos h4, h4]; exact hV3 n u h1 h2 h3
        rw [if_neg h4]
        by_cases h5 : bs (bs u).tail ≠ [] ∧ hd (bs (bs u).tail) = (Fr.mk (decide (hd (bs u) = 123)) [] []).close
        · rw [if_pos h5]; exact hV4 d n u h1 h2 h3 h4 h5.1 h5.2
        · rw [if_neg h5]
          have := bs_len (bs u).tail
          exact hV5 d n u _ h1 h2 h3 h4 h5 ((ih (N - 1) (by omega)).2.1 d (n + 1) _ _ (by omega))
      · rw [if_neg h3]
        by_cases h4 : (scal (bs u)).2.2 ≠ 0
        · rw [if_pos h4]; exact hV6 d n u h1 h2 h3 h4
        · rw [if_neg h4]; exact hV7 d n u h1 h2 h3 (by omega)
    have K : ∀ d n u g, u.length ≤ N → MK d n u g (rr d n u g) := by
      intro d n u g hl
      rw [rr_eq]
      by_cases ho : g.obj = true
      · rw [if_pos ho]
        cases hs : stk (bs u) with
        | none => exact hK1 d n u g ho hs
        | some q =>
          obtain ⟨x, k⟩ := q
          dsimp only
          by_cases h1 : inK ⟨x.toArray⟩ g.keys = true
          · rw [if_pos h1]; exact hK2 d n u g x k ho hs h1
          have h1' : inK ⟨x.toArray⟩ g.keys = false := by simpa using h1
          rw [if_neg h1]
          by_cases h2 : bs ((bs u).drop k) = [] ∨ hd (bs ((bs u).drop k)) ≠ 58
          · rw [if_pos h2]; exact hK3 d n u g x k ho hs h1' h2
          rw [if_neg h2]
          have e1 : bs ((bs u).drop k) ≠ [] := fun e => h2 (.inl e)
          have e2 : hd (bs ((bs u).drop k)) = 58 := Decidable.byContradiction fun e => h2 (.inr e)
          have := bs_len u
          have := bs_len ((bs u).drop k)
          have := tail_len e1
          rw [List.length_drop] at *
          have hv := V (d + 1) n (bs ((bs u).drop k)).tail (by omega)
          cases hr : rv (d + 1) n (bs ((bs u).drop k)).tail with
          | ok y w m =>
            rw [hr] at hv
            have := rv_len hr
            exact hK5 d n u g x k y w m _ ho hs h1' e1 e2 hv (T d m w _ (by omega))
          | err e => rw [hr] at hv; exact hK4 d n u g x k e ho hs h1' e1 e2 hv
          | stuck => exact absurd hr (rv_ne _ _ _)
      · have ho' : g.obj = false := by simpa using ho
        rw [if_neg ho]
        have hv := V (d + 1) n u hl
        cases hr : rv (d + 1) n u with
        | ok y w m =>
          rw [hr] at hv
          have := rv_len hr
          exact hK7 d n u g y w m _ ho' hv (T d m w _ (by omega))
        | err e => rw [hr] at hv; exact hK6 d n u g e ho' hv
        | stuck => exact absurd hr (rv_ne _ _ _)
    refine ⟨V, K, fun d m v g hl => ?_⟩
    by_cases hl' : v.length ≤ N
    · exact T d m v g hl'
    unfold rt
    by_cases h1 : bs v = []
    · rw [if_pos h1]; exact hT1 d m v g h1
    have hb := bs_len v
    have ht := tail_len h1
    rw [if_neg h1]
    by_cases h2 : hd (bs v) = g.close
    · rw [if_pos h2]; exact hT2 d m v g h1 h2
    rw [if_neg h2]
    by_cases h3 : hd (bs v) = 44
    · rw [if_pos h3]; exact hT3 d m v g _ h1 h2 h3 (K d m _ g (by omega))
    · rw [if_neg h3]; exact hT4 d m v g h1 h2 h3

/-- what a text is read as -/
noncomputable def parseJ (l : List UInt8) : Res := match rv 0 0 l with
  | .ok x v m => if bs v = [] then .ok x else .err 1
  | .err e => .err e
  | .stuck => .err 0
theorem runs (l : List UInt8) : Runs ⟨.value, l, 0, []⟩ (parseJ l) := by
  have h := (leads (2 * l.length + 1)).1 0 0 l [] rfl
  change Leads _ _ (rv 0 0 l) at h
  unfold parseJ
  cases hr : rv 0 0 l with
  | ok x v m =>
    rw [hr] at h
    dsimp only
    refine h _ (.fin ?_)
    by_cases h1 : bs v = [] <;> simp [jsonP.step, h1]
  | err e => rw [hr] at h; exact h
  | stuck => exact absurd hr (rv_ne _ _ _)
end Go.Proofs.YtjcaffpmcgfhaaaDoor.jsonQ
