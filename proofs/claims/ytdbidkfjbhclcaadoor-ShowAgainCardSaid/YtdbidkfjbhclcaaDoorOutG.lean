/-
  Plain: what is read is no greater than its text, and right.
-/
import Derived.Test.YtdbidkfjbhclcaaDoorJsonL
import Derived.Test.YtdbidkfjbhclcaaDoorNodeG
namespace Go.Proofs.YtdbidkfjbhclcaaDoor.outG
open nodeP nodeQ nodeS ownI jsonP jsonQ jsonR jsonL nodeG
set_option linter.unusedSimpArgs false
set_option linter.unusedVariables false

theorem scal_sz {u : List UInt8} (h : (scal u).2.2 = 0) : sz (scal u).1 ≤ (scal u).2.1 := by
  unfold scal at h ⊢
  by_cases h1 : jsonP.hd u = 34
  · rw [if_pos h1] at h ⊢
    cases hs : jsonP.stk u with
    | none => rw [hs] at h; cases h
    | some q =>
      obtain ⟨x, n⟩ := q
      obtain ⟨i1, i2, i3, i4⟩ := stk_len hs
      show sz (.mk 5 0 ⟨x.toArray⟩ [] []) ≤ n
      have h2 : (⟨x.toArray⟩ : ByteArray).size = x.length := by simp [ByteArray.size]
      simp [sz, szs, sumL, h2]; omega
  rw [if_neg h1] at h ⊢
  by_cases h2 : isNum (jsonP.hd u) = true
  · rw [if_pos h2] at h ⊢
    by_cases h3 : (intsP.takeN u).2.2 = 0
    · rw [if_pos h3] at h ⊢
      obtain ⟨i1, i2, i3⟩ := takeN_len h3
      show sz (.mk 4 _ ByteArray.empty [] []) ≤ (intsP.takeN u).2.1
      simp [sz, szs, sumL]; omega
    · rw [if_neg h3] at h; exact absurd h h3
  rw [if_neg h2] at h ⊢
  by_cases h3 : Lib.hasPrefix u wNull = true
  · rw [if_pos h3]; show sz (word 1) ≤ 4; simp [word, sz, szs, sumL]
  rw [if_neg h3] at h ⊢
  by_cases h4 : Lib.hasPrefix u wFalse = true
  · rw [if_pos h4]; show sz (word 2) ≤ 5; simp [word, sz, szs, sumL]
  rw [if_neg h4] at h ⊢
  by_cases h5 : Lib.hasPrefix u wTrue = true
  · rw [if_pos h5]; show sz (word 3) ≤ 4; simp [word, sz, szs, sumL]
  rw [if_neg h5] at h; cases h
theorem sumL_app (a : List ByteArray) (x : ByteArray) : sumL (a ++ [x]) = sumL a + x.size := by simp [sumL]
theorem szs_app (a : List Nd) (x : Nd) : szs (a ++ [x]) = szs a + sz x := by
  induction a with
  | nil => simp [szs]
  | cons c a ih => simp [szs, ih]; omega
def fsz (g : Fr) : Nat := 1 + g.keys.length + sumL g.keys + szs g.kids
theorem fsz_node (g : Fr) : sz g.node = fsz g := by unfold Fr.node fsz; simp [sz]
def GV (d n : Nat) (u : List UInt8) (r : R3) : Prop := match r with
  | .ok x v m => sz x + v.length ≤ u.length
  | _ => True
def GK (d n : Nat) (u : List UInt8) (g : Fr) (r : R3) : Prop := match r with
  | .ok x v m => sz x + v.length ≤ u.length + fsz g
  | _ => True
theorem grow (N : Nat) : (∀ d n u, u.length ≤ N → GV d n u (rv d n u)) ∧ (∀ d n u g, u.length ≤ N → GK d n u g (rr d n u g)) ∧ (∀ d m v g, v.length ≤ N + 1 → GK d m v g (rt d m v g)) := by
  refine rd_ind (MV := GV) (MK := GK) (MT := GK) ?_ ?_ ?_ ?_ ?_ ?_ ?_ ?_ ?_ ?_ ?_ ?_ ?_ ?_ ?_ ?_ ?_ ?_ N
  · intros; trivial
  · intros; trivial
  · intros; trivial
  · intro d n u h1 h2 h3 h4 h5 h6
    show sz (Fr.node _) + _ ≤ _
    rw [fsz_node]
    have a1 := bs_len u
    have a2 := tail_len h1
    have a3 := bs_len (bs u).tail
    have a4 := tail_len h5
    simp [fsz, sumL, szs] at *; omega
  · intro d n u r h1 h2 h3 h4 h5 hr
    cases r with
    | ok x v m =>
      have a1 := bs_len u
      have a2 := tail_len h1
      have a3 := bs_len (bs u).tail
      have hr' : sz x + v.length ≤ (bs (bs u).tail).length + fsz ⟨decide (jsonP.hd (bs u) = 123), [], []⟩ := hr
      have h0 : fsz ⟨decide (jsonP.hd (bs u) = 123), [], []⟩ = 1 := by simp [fsz, sumL, szs]
      show sz x + v.length ≤ u.length
      omega
    | err e => trivial
    | stuck => trivial
  · intros; trivial
  · intro d n u h1 h2 h3 h4
    have a1 := bs_len u
    have a2 := scal_sz h4
    obtain ⟨i1, i2, _⟩ := scal_ok (u := bs u) h4 0
    show sz (scal (bs u)).1 + ((bs u).drop (scal (bs u)).2.1).length ≤ u.length
    rw [List.length_drop]; omega
  · intros; trivial
  · intros; trivial
  · intros; trivial
  · intros; trivial
  · intro d n u g x k y v m r ho hs hk h1 h2 hv ht
    cases r with
    | ok z w m2 =>
      have hv' : sz y + v.length ≤ (bs ((bs u).drop k)).tail.length := hv
      have ht' : sz z + w.length ≤ v.length + fsz ⟨g.obj, g.keys ++ [⟨x.toArray⟩], g.kids ++ [y]⟩ := ht
      have e : fsz ⟨g.obj, g.keys ++ [⟨x.toArray⟩], g.kids ++ [y]⟩ = fsz g + 1 + x.length + sz y := by
        have h2 : (⟨x.toArray⟩ : ByteArray).size = x.length := by simp [ByteArray.size]
        unfold fsz
        dsimp only
        rw [sumL_app, szs_app, List.length_append, h2]; simp; omega
      obtain ⟨i1, i2, i3, i4⟩ := stk_len hs
      have a1 := bs_len u
      have a2 := bs_len ((bs u).drop k)
      have a3 := tail_len h1
      rw [List.length_drop] at a2
      show sz z + w.length ≤ u.length + fsz g
      omega
    | err e => trivial
    | stuck => trivial
  · intros; trivial
  · intro d n u g y v m r ho hv ht
    cases r with
    | ok z w m2 =>
      have hv' : sz y + v.length ≤ u.length := hv
      have ht' : sz z + w.length ≤ v.length + fsz ⟨g.obj, g.keys, g.kids ++ [y]⟩ := ht
      have e : fsz ⟨g.obj, g.keys, g.kids ++ [y]⟩ = fsz g + sz y := by unfold fsz; dsimp only; rw [szs_app]; omega
      show sz z + w.length ≤ u.length + fsz g
      omega
    | err e => trivial
    | stuck => trivial
  · intros; trivial
  · intro d m v g h1 h2
    have a1 := bs_len v
    have a2 := tail_len h1
    show sz g.node + (bs v).tail.length ≤ v.length + fsz g
    rw [fsz_node]; omega
  · intro d m v g r h1 h2 h3 hr
    cases r with
    | ok z w m2 =>
      have hr' : sz z + w.length ≤ (bs v).tail.length + fsz g := hr
      have a1 := bs_len v
      have a2 := tail_len h1
      show sz z + w.length ≤ v.length + fsz g
      omega
    | err e => trivial
    | stuck => trivial
  · intros; trivial
/-- what Parse hands back is right, and no greater than the text -/
theorem out_good (l : List UInt8) (hl : l.length ≤ 100000) : sz (pOut l).1 ≤ l.length + 1 ∧ (pOut l).2 ≤ 13 ∧ ((pOut l).2 = 0 → RT (pOut l).1 = true) := by
  unfold pOut
  rw [if_neg (by omega)]
  have hg := rv_good (d := 0) (n := 0) (u := l) (by omega) (by omega)
  have hs := (grow l.length).1 0 0 l (Nat.le_refl _)
  have h0 : sz (word 0) = 1 := by simp [word, sz, szs, sumL]
  unfold parseJ
  cases hr : rv 0 0 l with
  | ok x v m =>
    rw [hr] at hg hs
    obtain ⟨i1, i2, i3, i4, i5⟩ := hg (by omega) (by omega)
    have hs' : sz x + v.length ≤ l.length := hs
    dsimp only
    by_cases hb : bs v = []
    · rw [if_pos hb]
      refine ⟨by dsimp only; omega, Nat.zero_le _, fun _ => ?_⟩
      unfold RT
      rw [i1]
      have : decide ((count x : Int) ≤ 20000) = true := by rw [decide_eq_true_eq]; omega
      rw [this]; rfl
    · rw [if_neg hb]
      exact ⟨by dsimp only; omega, by decide, fun e => by cases e⟩
  | err k =>
    rw [hr] at hg
    have h2 := hg (by omega) (by omega)
    exact ⟨by dsimp only; omega, h2.2, fun e => by dsimp only at e; omega⟩
  | stuck => exact absurd hr (rv_ne _ _ _)

end Go.Proofs.YtdbidkfjbhclcaaDoor.outG
