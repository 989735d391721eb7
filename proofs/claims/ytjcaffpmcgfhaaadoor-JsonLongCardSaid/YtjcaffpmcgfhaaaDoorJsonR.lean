/-
  Plain law of reading JSON: what is read is right, and how many values it has; depths and counts may be others.
-/
import Derived.Test.YtjcaffpmcgfhaaaDoorJsonQ
namespace Go.Proofs.YtjcaffpmcgfhaaaDoor.jsonR
open Go.Proofs.YtjcaffpmcgfhaaaDoor.nodeP Go.Proofs.YtjcaffpmcgfhaaaDoor.nodeQ Go.Proofs.YtjcaffpmcgfhaaaDoor.utfP Go.Proofs.YtjcaffpmcgfhaaaDoor.utfQ Go.Proofs.YtjcaffpmcgfhaaaDoor.utfR Go.Proofs.YtjcaffpmcgfhaaaDoor.jsonP Go.Proofs.YtjcaffpmcgfhaaaDoor.jsonQ
set_option linter.unusedSimpArgs false
set_option linter.unusedVariables false

theorem oks_app (a b : List Nd) (d : Nat) : oks (a ++ b) d = (oks a d && oks b d) := by simp [oks_all]
theorem counts_app (a b : List Nd) : counts (a ++ b) = counts a + counts b := by
  induction a with
  | nil => simp [counts]
  | cons c a ih => simp [counts, ih]; omega
theorem dps_app (a b : List Nd) : dps (a ++ b) = max (dps a) (dps b) := by
  induction a with
  | nil => simp [dps]
  | cons c a ih => simp [dps, ih, Nat.max_assoc]
/-- a frame that is right at a depth -/
structure Gd (d : Nat) (g : Fr) : Prop where
  nd : g.keys.Nodup
  vl : g.keys.all vld = true
  ar : g.obj = false → g.keys = []
  ok : oks g.kids (d + 1) = true
  dp : dps g.kids + d ≤ 32
theorem Gd.kid {d : Nat} {g : Fr} (h : Gd d g) {y : Nd} (h1 : okAt y (d + 1) = true) (h2 : d + 1 + nodeQ.dp y ≤ 32) : Gd d ⟨g.obj, g.keys, g.kids ++ [y]⟩ :=
  ⟨h.nd, h.vl, h.ar, by rw [oks_app, h.ok]; simp [oks, h1], by rw [dps_app]; have := h.dp; simp [dps]; omega⟩
theorem Gd.key {d : Nat} {g : Fr} (h : Gd d g) (ho : g.obj = true) {x : ByteArray} (h1 : vld x = true) (h2 : inK x g.keys = false) : Gd d ⟨g.obj, g.keys ++ [x], g.kids⟩ :=
  ⟨List.nodup_append.2 ⟨h.nd, by simp, fun a ha b hb e => by simp at hb; subst hb; subst e; rw [inK_iff.2 ha] at h2; cases h2⟩, by rw [List.all_append, h.vl]; simp [h1], fun e => (by rw [ho] at e; cases e), h.ok, h.dp⟩
theorem Gd.node {d : Nat} {g : Fr} (h : Gd d g) (hd : d < 32) (he : g.obj = true → g.keys.length = g.kids.length) : okAt g.node d = true ∧ count g.node = 1 + counts g.kids ∧ d + nodeQ.dp g.node ≤ 32 := by
  refine ⟨?_, rfl, by have := h.dp; show d + dps g.kids ≤ 32; omega⟩
  unfold Fr.node
  simp only [okAt, one]
  rw [h.ok]
  cases ho : g.obj
  · rw [h.ar ho]; simp [nodeQ.rk, hd]
  · have h1 := h.vl
    have h2 := h.nd
    have h3 := he ho
    simp [nodeQ.rk, hd, h2, h3]
    simpa using h1

def RV (d n : Nat) (u : List UInt8) (r : R3) : Prop := d ≤ 32 → n ≤ 20000 → match r with
  | .ok x v m => okAt x d = true ∧ n + count x = m ∧ d + dp x ≤ 32 ∧ m ≤ 20000 ∧ ∃ k, v = u.drop k
  | .err e => 1 ≤ e ∧ e ≤ 13
  | .stuck => False
def RK (d n : Nat) (u : List UInt8) (g : Fr) (r : R3) : Prop := d < 32 → n ≤ 20000 → Gd d g → (g.obj = true → g.keys.length = g.kids.length) → match r with
  | .ok x v m => okAt x d = true ∧ n + count x = m + 1 + counts g.kids ∧ d + dp x ≤ 32 ∧ m ≤ 20000 ∧ ∃ k, v = u.drop k
  | .err e => 1 ≤ e ∧ e ≤ 13
  | .stuck => False
theorem takeN_err (l : List UInt8) : (intsP.takeN l).2.2 ≤ 13 := by
  unfold intsP.takeN
  by_cases h0 : intsP.whole l = 0
  · rw [if_pos h0]; decide
  rw [if_neg h0]
  by_cases h1 : intsP.whole l < intsP.every l
  · rw [if_pos h1]; decide
  rw [if_neg h1]
  cases intsP.valO (l.take (intsP.whole l)) <;> simp
theorem scal_err (u : List UInt8) : (scal u).2.2 ≤ 13 := by
  unfold scal
  by_cases h1 : hd u = 34
  · rw [if_pos h1]; cases stk u <;> simp
  rw [if_neg h1]
  by_cases h2 : isNum (hd u) = true
  · rw [if_pos h2]
    by_cases h3 : (intsP.takeN u).2.2 = 0
    · rw [if_pos h3]; exact Nat.zero_le _
    · rw [if_neg h3]; exact takeN_err u
  rw [if_neg h2]
  by_cases h3 : Lib.hasPrefix u wNull = true
  · rw [if_pos h3]; decide
  rw [if_neg h3]
  by_cases h4 : Lib.hasPrefix u wFalse = true
  · rw [if_pos h4]; decide
  rw [if_neg h4]
  by_cases h5 : Lib.hasPrefix u wTrue = true
  · rw [if_pos h5]; decide
  rw [if_neg h5]; decide
theorem bs_drop (u : List UInt8) : ∃ k, bs u = u.drop k := by
  induction u with
  | nil => exact ⟨0, rfl⟩
  | cons c u ih =>
    by_cases h : isBl c = true
    · obtain ⟨k, hk⟩ := ih
      exact ⟨k + 1, by unfold bs at hk ⊢; rw [List.dropWhile_cons, if_pos h]; exact hk⟩
    · exact ⟨0, by unfold bs; rw [List.dropWhile_cons, if_neg h]; rfl⟩
def Sfx (u v : List UInt8) : Prop := ∃ k, v = u.drop k
theorem Sfx.refl (u : List UInt8) : Sfx u u := ⟨0, rfl⟩
theorem Sfx.trans {u v w : List UInt8} (h : Sfx u v) (k : Sfx v w) : Sfx u w := by
  obtain ⟨a, rfl⟩ := h; obtain ⟨b, rfl⟩ := k; exact ⟨a + b, by rw [List.drop_drop]⟩
theorem Sfx.bs {u v : List UInt8} (h : Sfx u v) : Sfx u (bs v) := h.trans (bs_drop v)
theorem Sfx.tail {u v : List UInt8} (h : Sfx u v) : Sfx u v.tail := h.trans ⟨1, by simp⟩
theorem Sfx.drop {u v : List UInt8} (h : Sfx u v) (k : Nat) : Sfx u (v.drop k) := h.trans ⟨k, rfl⟩

theorem good (N : Nat) : (∀ d n u, u.length ≤ N → RV d n u (rv d n u)) ∧ (∀ d n u g, u.length ≤ N → RK d n u g (rr d n u g)) ∧ (∀ d m v g, v.length ≤ N + 1 → RK d m v g (rt d m v g)) := by
  refine rd_ind ?_ ?_ ?_ ?_ ?_ ?_ ?_ ?_ ?_ ?_ ?_ ?_ ?_ ?_ ?_ ?_ ?_ ?_ N
  · intro d n u _ _ _; exact ⟨by decide, by decide⟩
  · intro d u _ _ _; exact ⟨by decide, by decide⟩
  · intro n u _ _ _ _ _; exact ⟨by decide, by decide⟩
  · intro d n u h1 h2 h3 h4 h5 h6 hq hn
    have hg : Gd d ⟨decide (hd (bs u) = 123), [], []⟩ := ⟨by simp, rfl, fun _ => rfl, rfl, by simp [dps]; omega⟩
    obtain ⟨i1, i2, i3⟩ := hg.node (by omega) (fun _ => rfl)
    exact ⟨i1, by rw [i2]; simp [counts], i3, by omega, ((((Sfx.refl u).bs).tail).bs).tail⟩
  · intro d n u r h1 h2 h3 h4 h5 hr hq hn
    have := hr (by omega) (by omega) ⟨by simp, rfl, fun _ => rfl, rfl, by simp [dps]; omega⟩ (fun _ => rfl)
    cases r with
    | ok x v m =>
      obtain ⟨i1, i2, i3, i4, i5⟩ := this
      exact ⟨i1, by simp [counts] at i2; omega, i3, i4, (((Sfx.refl u).bs).tail).bs.trans i5⟩
    | err e => exact this
    | stuck => exact this
  · intro d n u h1 h2 h3 h4 _ _
    have := scal_err (bs u)
    exact ⟨by omega, this⟩
  · intro d n u h1 h2 h3 h4 hq hn
    obtain ⟨i1, i2, i3, i4, i5⟩ := scal_ok h4 d
    exact ⟨i3, by omega, by omega, by omega, ((Sfx.refl u).bs).drop _⟩
  · intro d n u g ho hs _ _ _ _; exact ⟨by decide, by decide⟩
  · intro d n u g x k ho hs hk _ _ _ _; exact ⟨by decide, by decide⟩
  · intro d n u g x k ho hs hk h _ _ _ _; exact ⟨by decide, by decide⟩
  · intro d n u g x k e ho hs hk h1 h2 hv hq hn hg he; exact hv (by omega) hn
  · intro d n u g x k y v m r ho hs hk h1 h2 hv ht hq hn hg he
    obtain ⟨j1, j2, j3, j4, j5⟩ := hv (by omega) hn
    obtain ⟨_, _, _, s4⟩ := stk_len hs
    have := ht hq j4 ((hg.key ho (by unfold vld; exact s4) hk).kid j1 j3) (fun _ => by have := he ho; simp; omega)
    cases r with
    | ok z w m2 =>
      obtain ⟨i1, i2, i3, i4, i5⟩ := this
      exact ⟨i1, by rw [counts_app] at i2; simp [counts] at i2; omega, i3, i4, ((((((Sfx.refl u).bs).drop k).bs).tail).trans j5).trans i5⟩
    | err e => exact this
    | stuck => exact this
  · intro d n u g e ho hv hq hn hg he; exact hv (by omega) hn
  · intro d n u g y v m r ho hv ht hq hn hg he
    obtain ⟨j1, j2, j3, j4, j5⟩ := hv (by omega) hn
    have := ht hq j4 (hg.kid j1 j3) (fun h => by rw [ho] at h; cases h)
    cases r with
    | ok z w m2 =>
      obtain ⟨i1, i2, i3, i4, i5⟩ := this
      exact ⟨i1, by rw [counts_app] at i2; simp [counts] at i2; omega, i3, i4, Sfx.trans j5 i5⟩
    | err e => exact this
    | stuck => exact this
  · intro d m v g _ _ _ _ _; exact ⟨by decide, by decide⟩
  · intro d m v g h1 h2 hq hm hg he
    obtain ⟨i1, i2, i3⟩ := hg.node hq he
    exact ⟨i1, by omega, i3, hm, ((Sfx.refl v).bs).tail⟩
  · intro d m v g r h1 h2 h3 hr hq hm hg he
    have := hr hq hm hg he
    cases r with
    | ok z w m2 =>
      obtain ⟨i1, i2, i3, i4, i5⟩ := this
      exact ⟨i1, i2, i3, i4, (((Sfx.refl v).bs).tail).trans i5⟩
    | err e => exact this
    | stuck => exact this
  · intro d m v g _ _ _ _ _ _ _; exact ⟨by decide, by decide⟩
theorem rv_good {d n : Nat} {u : List UInt8} (hd : d ≤ 32) (hn : n ≤ 20000) : RV d n u (rv d n u) := (good u.length).1 d n u (Nat.le_refl _)

/-- what is read at one depth, behind so many values, is read at another, if it is right there and they are not too many -/
def SV (d n : Nat) (u : List UInt8) (r : R3) : Prop := match r with
  | .ok x v m => n < m ∧ ∀ d' n', okAt x d' = true → n' + (m - n) ≤ 20000 → rv d' n' u = .ok x v (n' + (m - n))
  | _ => True
def SK (f : Nat → Nat → List UInt8 → Fr → R3) (d n : Nat) (u : List UInt8) (g : Fr) (r : R3) : Prop := match r with
  | .ok x v m => n ≤ m ∧ (∃ l, x.kids = g.kids ++ l) ∧ ¬ x.kind < 6 ∧ ∀ d' n', okAt x d' = true → n' + (m - n) ≤ 20000 → f d' n' u g = .ok x v (n' + (m - n))
  | _ => True
theorem ok_in {x : Nd} {d : Nat} (h : okAt x d = true) (hk : ¬ x.kind < 6) : d < 32 ∧ oks x.kids (d + 1) = true := by
  cases x with
  | mk k n t ks cs =>
    have hk' : ¬ k < 6 := hk
    simp only [okAt, one, Bool.and_eq_true] at h
    rw [if_neg hk'] at h
    simp only [Bool.and_eq_true, decide_eq_true_eq] at h
    exact ⟨h.1.2.1, h.2⟩
theorem oks_last {a l : List Nd} {y : Nd} {d : Nat} (h : oks (a ++ [y] ++ l) d = true) : okAt y d = true := by
  rw [oks_app, oks_app] at h
  simp only [Bool.and_eq_true, oks] at h
  exact h.1.2.1
theorem node_kind (g : Fr) : ¬ g.node.kind < 6 := by
  show ¬ (if g.obj then (7 : Int) else 6) < 6
  split <;> decide
theorem same (N : Nat) : (∀ d n u, u.length ≤ N → SV d n u (rv d n u)) ∧ (∀ d n u g, u.length ≤ N → SK rr d n u g (rr d n u g)) ∧ (∀ d m v g, v.length ≤ N + 1 → SK rt d m v g (rt d m v g)) := by
  refine rd_ind (MV := SV) (MK := SK rr) (MT := SK rt) ?_ ?_ ?_ ?_ ?_ ?_ ?_ ?_ ?_ ?_ ?_ ?_ ?_ ?_ ?_ ?_ ?_ ?_ N
  · intro d n u _; trivial
  · intro d u _; trivial
  · intro n u _ _ _; trivial
  · intro d n u h1 h2 h3 h4 h5 h6
    refine ⟨by omega, fun d' n' ho hn => ?_⟩
    have := ok_in ho (node_kind _)
    rw [rv_eq, if_neg h1, if_neg (by omega), if_pos h3, if_neg (by omega), if_pos ⟨h5, h6⟩]
    congr 1; omega
  · intro d n u r h1 h2 h3 h4 h5 hr
    cases r with
    | ok x v m =>
      obtain ⟨i1, i2, i3, i4⟩ := hr
      refine ⟨by omega, fun d' n' ho hn => ?_⟩
      have := ok_in ho i3
      rw [rv_eq, if_neg h1, if_neg (by omega), if_pos h3, if_neg (by omega), if_neg h5, i4 d' (n' + 1) ho (by omega)]
      congr 1; omega
    | err e => trivial
    | stuck => trivial
  · intro d n u h1 h2 h3 h4; trivial
  · intro d n u h1 h2 h3 h4
    refine ⟨by omega, fun d' n' ho hn => ?_⟩
    rw [rv_eq, if_neg h1, if_neg (by omega), if_neg h3, if_neg (by omega)]
    congr 1; omega
  · intro d n u g ho hs; trivial
  · intro d n u g x k ho hs hk; trivial
  · intro d n u g x k ho hs hk h; trivial
  · intro d n u g x k e ho hs hk h1 h2 hv; trivial
  · intro d n u g x k y v m r ho hs hk h1 h2 hv ht
    cases r with
    | ok z w m2 =>
      obtain ⟨j1, j2⟩ := hv
      obtain ⟨i1, ⟨l, i2⟩, i3, i4⟩ := ht
      refine ⟨by omega, ⟨y :: l, by rw [i2]; simp⟩, i3, fun d' n' hz hn => ?_⟩
      have hin := ok_in hz i3
      rw [i2] at hin
      rw [rr_eq, if_pos ho, hs]
      dsimp only
      rw [if_neg (by rw [hk]; simp), if_neg (by rintro (h | h); exact h1 h; exact h h2), j2 (d' + 1) n' (oks_last hin.2) (by omega)]
      dsimp only
      rw [i4 d' (n' + (m - n)) hz (by omega)]
      congr 1; omega
    | err e => trivial
    | stuck => trivial
  · intro d n u g e ho hv; trivial
  · intro d n u g y v m r ho hv ht
    cases r with
    | ok z w m2 =>
      obtain ⟨j1, j2⟩ := hv
      obtain ⟨i1, ⟨l, i2⟩, i3, i4⟩ := ht
      refine ⟨by omega, ⟨y :: l, by rw [i2]; simp⟩, i3, fun d' n' hz hn => ?_⟩
      have hin := ok_in hz i3
      rw [i2] at hin
      rw [rr_eq, if_neg (by rw [ho]; simp), j2 (d' + 1) n' (oks_last hin.2) (by omega)]
      dsimp only
      rw [i4 d' (n' + (m - n)) hz (by omega)]
      congr 1; omega
    | err e => trivial
    | stuck => trivial
  · intro d m v g _; trivial
  · intro d m v g h1 h2
    refine ⟨Nat.le_refl _, ⟨[], by simp [Fr.node, Nd.kids]⟩, node_kind g, fun d' n' ho hn => ?_⟩
    unfold rt
    rw [if_neg h1, if_pos h2]
    congr 1; omega
  · intro d m v g r h1 h2 h3 hr
    cases r with
    | ok z w m2 =>
      obtain ⟨i1, i2, i3, i4⟩ := hr
      refine ⟨i1, i2, i3, fun d' n' ho hn => ?_⟩
      unfold rt
      rw [if_neg h1, if_neg h2, if_pos h3, i4 d' n' ho hn]
    | err e => trivial
    | stuck => trivial
  · intro d m v g _ _ _; trivial
theorem rv_same {d n : Nat} {u : List UInt8} {x : Nd} {v : List UInt8} {m : Nat} (h : rv d n u = .ok x v m) : n < m ∧ ∀ d' n', okAt x d' = true → n' + (m - n) ≤ 20000 → rv d' n' u = .ok x v (n' + (m - n)) := by
  have := (same u.length).1 d n u (Nat.le_refl _)
  rw [h] at this
  exact this
end Go.Proofs.YtjcaffpmcgfhaaaDoor.jsonR
