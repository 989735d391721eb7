/-
  The greedy search's invariant, and that each step keeps it: plain lists.
-/
import Derived.Test.YtlmfcacmfaihgaaDoorGlobP
namespace Go.Proofs.YtlmfcacmfaihgaaDoor.globQ
open globP

def Inv (P S : List UInt8) (p i : Nat) (st : Int) (fr : Nat) : Prop :=
  p ≤ P.length ∧ i ≤ S.length ∧ fr ≤ i ∧
  ((st = -1 ∧ fr = 0 ∧ gm (P.drop p) (S.drop i) = gm P S) ∨
   ∃ (q : Nat) (seg : List UInt8), st = q ∧ q ≤ p ∧ plainT seg ∧ P.drop q = seg ++ P.drop p ∧ S.drop fr = seg ++ S.drop i ∧ gm (star :: P.drop q) (S.drop fr) = gm P S)

theorem plain_nil : plainT [] := fun c hc => by cases hc

theorem inv_start (P S : List UInt8) : Inv P S 0 0 (-1) 0 := ⟨Nat.zero_le _, Nat.zero_le _, Nat.le_refl _, Or.inl ⟨rfl, rfl, rfl⟩⟩

theorem drop_at {l : List UInt8} {p : Nat} {c : UInt8} (h : l[p]? = some c) : l.drop p = c :: l.drop (p + 1) := by
  obtain ⟨hp, rfl⟩ := List.getElem?_eq_some_iff.1 h
  exact List.drop_eq_getElem_cons hp

theorem lt_of_at {l : List UInt8} {p : Nat} {c : UInt8} (h : l[p]? = some c) : p < l.length := (List.getElem?_eq_some_iff.1 h).1

theorem s1 {P S : List UInt8} {p i fr : Nat} {st : Int} (h : Inv P S p i st fr) (hc : P[p]? = some star) : Inv P S (p + 1) i ((p + 1 : Nat) : Int) i := by
  obtain ⟨hp, hi, hf, h⟩ := h
  refine ⟨lt_of_at hc, hi, Nat.le_refl _, Or.inr ⟨p + 1, [], rfl, Nat.le_refl _, plain_nil, rfl, rfl, ?_⟩⟩
  rcases h with ⟨_, _, h⟩ | ⟨q, seg, rfl, hq, hs, h1, h2, h⟩
  · rw [drop_at hc] at h; exact h
  · rw [← h, h1, h2, drop_at hc, greedy_star _ _ _ hs]

theorem s2 {P S : List UInt8} {p fr : Nat} {st : Int} (h : Inv P S p S.length st fr) (hc : P[p]? ≠ some star) : gm P S = decide (p = P.length) := by
  obtain ⟨hp, hi, hf, h⟩ := h
  have hne : ∀ c r, P.drop p = c :: r → c ≠ star := by
    intro c r e hcs
    apply hc
    have : (P.drop p)[0]? = some c := by rw [e]; rfl
    rw [List.getElem?_drop] at this
    simpa [hcs] using this
  have he : (P.drop p).isEmpty = decide (p = P.length) := by
    rw [Bool.eq_iff_iff]; simp; omega
  rcases h with ⟨_, _, h⟩ | ⟨q, seg, rfl, hq, hs, h1, h2, h⟩
  · rw [← h, List.drop_length, ← he]
    cases hd : P.drop p with
    | nil => simp [gm]
    | cons c r => rw [gm_lit_nil _ _ (hne c r hd)]; rfl
  · rw [← h, h1, h2, List.drop_length, List.append_nil, greedy_end _ _ hs hne, he]

theorem s3 {P S : List UInt8} {p i fr : Nat} {st : Int} {c : UInt8} (h : Inv P S p i st fr) (hc : P[p]? = some c) (hs : S[i]? = some c) (hn : c ≠ star) : Inv P S (p + 1) (i + 1) st fr := by
  obtain ⟨hp, hi, hf, h⟩ := h
  refine ⟨lt_of_at hc, lt_of_at hs, by omega, ?_⟩
  rcases h with ⟨h0, h1, h⟩ | ⟨q, seg, rfl, hq, hp', h1, h2, h⟩
  · refine Or.inl ⟨h0, h1, ?_⟩
    rw [← h, drop_at hc, drop_at hs, gm_lit _ _ _ _ hn]; simp
  · refine Or.inr ⟨q, seg ++ [c], rfl, by omega, ?_, ?_, ?_, h⟩
    · intro x hx
      rcases List.mem_append.1 hx with hx | hx
      · exact hp' x hx
      · simp at hx; rw [hx]; exact hn
    · rw [h1, drop_at hc]; simp
    · rw [h2, drop_at hs]; simp

/-- at this place the search is at odds -/
def Odds (P S : List UInt8) (p i : Nat) : Prop := ∃ d, S[i]? = some d ∧ ∀ c, P[p]? = some c → c ≠ star ∧ c ≠ d

theorem odds_false {P S seg : List UInt8} {p i : Nat} (ho : Odds P S p i) (hs : plainT seg) : gm (seg ++ P.drop p) (seg ++ S.drop i) = false := by
  obtain ⟨d, hd, hm⟩ := ho
  rw [drop_at hd]
  cases he : P[p]? with
  | none =>
    have : P.length ≤ p := List.getElem?_eq_none_iff.1 he
    rw [List.drop_eq_nil_of_le this, List.append_nil]; exact miss_end _ _ _ hs
  | some c => rw [drop_at he]; exact miss _ _ _ _ _ hs (hm c he).1 (hm c he).2

theorem s4 {P S : List UInt8} {p i fr : Nat} {st : Int} (h : Inv P S p i st fr) (ho : Odds P S p i) (hst : st < 0) : gm P S = false := by
  obtain ⟨hp, hi, hf, h⟩ := h
  rcases h with ⟨_, _, h⟩ | ⟨q, seg, rfl, _⟩
  · rw [← h]
    exact odds_false (seg := []) ho plain_nil
  · omega

theorem s5 {P S : List UInt8} {p i fr : Nat} {st : Int} (h : Inv P S p i st fr) (hst : st = P.length) : gm P S = true := by
  obtain ⟨hp, hi, hf, h⟩ := h
  rcases h with ⟨h0, _, h⟩ | ⟨q, seg, rfl, hq, hs, h1, h2, h⟩
  · omega
  · obtain rfl : q = P.length := by omega
    rw [← h, List.drop_length]; exact gm_lone _

theorem s6 {P S : List UInt8} {p i fr : Nat} {st : Int} (h : Inv P S p i st fr) (ho : Odds P S p i) (hst : 0 ≤ st) : ∃ q : Nat, st = q ∧ q ≤ p ∧ Inv P S q (fr + 1) q (fr + 1) := by
  obtain ⟨hp, hi, hf, h⟩ := h
  rcases h with ⟨h0, _, h⟩ | ⟨q, seg, rfl, hq, hs, h1, h2, h⟩
  · omega
  · have hlt : i < S.length := lt_of_at ho.choose_spec.1
    have hfr : fr < S.length := by omega
    have hF := odds_false ho hs
    rw [← h1, ← h2] at hF
    refine ⟨q, rfl, hq, by omega, by omega, Nat.le_refl _, Or.inr ⟨q, [], rfl, Nat.le_refl _, plain_nil, rfl, rfl, ?_⟩⟩
    rw [← h, List.drop_eq_getElem_cons hfr] at *
    rw [greedy_next _ _ _ hF]

/-- what every pass lowers -/
def left (P S : List UInt8) (p fr : Nat) : Nat := (S.length - fr) * (P.length + 1) + (P.length - p)

theorem left_p {P S : List UInt8} {p fr fr' : Nat} (h : p < P.length) (hf : fr ≤ fr') : left P S (p + 1) fr' < left P S p fr := by
  unfold left
  have : (S.length - fr') * (P.length + 1) ≤ (S.length - fr) * (P.length + 1) := Nat.mul_le_mul_right _ (by omega)
  omega
theorem left_f {P S : List UInt8} {p q fr : Nat} (h : fr < S.length) : left P S q (fr + 1) < left P S p fr := by
  unfold left
  have : (S.length - (fr + 1)) * (P.length + 1) + (P.length + 1) = (S.length - fr) * (P.length + 1) := by
    rw [← Nat.succ_mul]; congr 1; omega
  omega
end Go.Proofs.YtlmfcacmfaihgaaDoor.globQ
