/-
  Plain: codes of literals, rows that are watched by two codes, what holds while propagation goes on.
-/
import Derived.Test.YtojjjndhabjhdaaProofP
namespace Go.Proofs.Ytojjjndhabjhdaa.proofQ
open proofP

def code (l : Int) : Nat := if l < 0 then (-2 * l).toNat else (2 * l + 1).toNat
def litOf (c : Nat) : Int := if c % 2 = 0 then -((c / 2 : Nat) : Int) else ((c / 2 : Nat) : Int)
def opp (c : Nat) : Nat := if c % 2 = 0 then c + 1 else c - 1

theorem litOf_code (l : Int) (h : lit l) : litOf (code l) = l := by
  unfold lit at h
  unfold litOf code
  by_cases h0 : l < 0
  · rw [if_pos h0, if_pos (by omega)]; omega
  · rw [if_neg h0, if_neg (by omega)]; omega
theorem code_litOf (c : Nat) (h : 2 ≤ c) : code (litOf c) = c := by
  unfold litOf code
  by_cases h0 : c % 2 = 0
  · rw [if_pos h0, if_pos (by omega)]; omega
  · rw [if_neg h0, if_neg (by omega)]; omega
theorem code_neg (l : Int) (h : lit l) : code (-l) = opp (code l) := by
  unfold lit at h
  unfold opp code
  by_cases h0 : l < 0
  · rw [if_pos h0, if_neg (by omega), if_pos (by omega)]; omega
  · rw [if_neg h0, if_pos (by omega), if_neg (by omega)]; omega
theorem code_rng (l : Int) (h : lit l) : 2 ≤ code l ∧ code l < 40002 := by
  unfold lit at h
  unfold code
  by_cases h0 : l < 0
  · rw [if_pos h0]; omega
  · rw [if_neg h0]; omega
theorem litOf_lit (c : Nat) (h : 2 ≤ c) (h' : c < 40002) : lit (litOf c) := by
  unfold lit litOf
  split <;> omega
theorem litOf_opp (c : Nat) (h : 2 ≤ c) : litOf (opp c) = - litOf c := by
  unfold litOf opp
  by_cases h0 : c % 2 = 0
  · rw [if_pos h0, if_pos h0, if_neg (by omega)]; omega
  · rw [if_neg h0, if_neg h0, if_pos (by omega)]; omega
theorem opp_opp (c : Nat) : opp (opp c) = c := by
  unfold opp
  by_cases h0 : c % 2 = 0
  · rw [if_pos h0, if_neg (by omega)]; omega
  · rw [if_neg h0, if_pos (by omega)]; omega
theorem opp_ne (c : Nat) : opp c ≠ c := by unfold opp; split <;> omega
theorem opp_rng (c : Nat) (h : 2 ≤ c) (h' : c < 40002) : 2 ≤ opp c ∧ opp c < 40002 := by unfold opp; split <;> omega
theorem opp_inj {a b : Nat} (h : opp a = opp b) : a = b := by rw [← opp_opp a, h, opp_opp]

def updN {α : Type} (f : Nat → α) (i : Nat) (x : α) : Nat → α := fun j => if j = i then x else f j
theorem updN_same {α : Type} (f : Nat → α) (i : Nat) (x : α) : updN f i x i = x := by simp [updN]
theorem updN_other {α : Type} (f : Nat → α) {i j : Nat} (x : α) (h : j ≠ i) : updN f i x j = f j := by simp [updN, h]

/-- a row holds the codes of a clause's literals -/
def RowOf (r : List Nat) (c : List Int) : Prop := ∀ x, x ∈ r ↔ ∃ l, l ∈ c ∧ lit l ∧ code l = x
theorem RowOf.rng {r : List Nat} {c : List Int} (h : RowOf r c) {x : Nat} (hx : x ∈ r) : 2 ≤ x ∧ x < 40002 := by
  obtain ⟨l, _, hl, rfl⟩ := (h x).1 hx; exact code_rng l hl
theorem RowOf.lit {r : List Nat} {c : List Int} (h : RowOf r c) {x : Nat} (hx : x ∈ r) : litOf x ∈ c ∧ proofP.lit (litOf x) := by
  obtain ⟨l, hm, hl, rfl⟩ := (h x).1 hx; rw [litOf_code l hl]; exact ⟨hm, hl⟩

def D (cl : List (List Int)) (fr : List Int) (c : Nat) : Prop := Der cl fr (litOf c)

theorem unitD {cl : List (List Int)} {fr : List Int} {r : List Nat} {c : List Int} (hr : RowOf r c) (hc : c ∈ cl) {x : Nat} (hx : x ∈ r) (ho : ∀ y ∈ r, y ≠ x → D cl fr (opp y)) : D cl fr x := by
  obtain ⟨hm, hl⟩ := hr.lit hx
  refine .unit hc hm hl fun y hy hly hne => ?_
  have hyr : code y ∈ r := (hr _).2 ⟨y, hy, hly, rfl⟩
  have := ho (code y) hyr (fun e => hne (by rw [← e, litOf_code y hly]))
  unfold D at this
  rw [litOf_opp _ (code_rng y hly).1, litOf_code y hly] at this
  exact this
theorem clashD {cl : List (List Int)} {fr : List Int} {x : Nat} (h2 : 2 ≤ x) (h : D cl fr x) (h' : D cl fr (opp x)) : Clash cl fr :=
  .inl ⟨litOf x, h, by rw [← litOf_opp x h2]; exact h'⟩

def taut (r : List Nat) : Prop := ∃ x, x ∈ r ∧ opp x ∈ r
/-- two places of a row exchanged -/
def sw (r : List Nat) (j k : Nat) : List Nat := (r.set j (r.getD k 0)).set k (r.getD j 0)
theorem sw_len (r : List Nat) (j k : Nat) : (sw r j k).length = r.length := by simp [sw]
theorem sw_get (r : List Nat) (j k i : Nat) (hj : j < r.length) (hk : k < r.length) : (sw r j k).getD i 0 = if i = k then r.getD j 0 else if i = j then r.getD k 0 else r.getD i 0 := by
  unfold sw
  simp only [List.getD_eq_getElem?_getD, List.getElem?_set, List.length_set]
  by_cases e1 : i = k
  · subst e1; simp [hk]
  · rw [if_neg (fun h => e1 h.symm), if_neg e1]
    by_cases e2 : i = j
    · subst e2; simp [hj]
    · rw [if_neg (fun h => e2 h.symm), if_neg e2]
theorem mem_get {r : List Nat} {x : Nat} : x ∈ r ↔ ∃ i, i < r.length ∧ r.getD i 0 = x := by
  rw [List.mem_iff_getElem]
  constructor
  · rintro ⟨i, h, rfl⟩; exact ⟨i, h, by rw [List.getD_eq_getElem?_getD, List.getElem?_eq_getElem h]; rfl⟩
  · rintro ⟨i, h, rfl⟩; exact ⟨i, h, by rw [List.getD_eq_getElem?_getD, List.getElem?_eq_getElem h]; rfl⟩
theorem get_mem {r : List Nat} {i : Nat} (h : i < r.length) : r.getD i 0 ∈ r := mem_get.2 ⟨i, h, rfl⟩
theorem sw_mem (r : List Nat) (j k : Nat) (hj : j < r.length) (hk : k < r.length) (x : Nat) : x ∈ sw r j k ↔ x ∈ r := by
  rw [mem_get, mem_get, sw_len]
  constructor
  · rintro ⟨i, hi, rfl⟩
    rw [sw_get r j k i hj hk]
    split
    · exact ⟨j, hj, rfl⟩
    · split
      · exact ⟨k, hk, rfl⟩
      · exact ⟨i, hi, rfl⟩
  · rintro ⟨i, hi, rfl⟩
    by_cases e1 : i = k
    · subst e1
      by_cases e2 : j = i
      · subst e2; exact ⟨j, hj, by rw [sw_get r j j j hj hk, if_pos rfl]⟩
      · exact ⟨j, hj, by rw [sw_get r j i j hj hk, if_neg e2, if_pos rfl]⟩
    · by_cases e2 : i = j
      · subst e2; exact ⟨k, hk, by rw [sw_get r i k k hj hk, if_pos rfl]⟩
      · exact ⟨i, hi, by rw [sw_get r j k i hj hk, if_neg e1, if_neg e2]⟩
theorem nodup_get {r : List Nat} : r.Nodup ↔ ∀ i j, i < r.length → j < r.length → r.getD i 0 = r.getD j 0 → i = j := by
  constructor
  · intro h i j hi hj e
    rw [List.getD_eq_getElem?_getD, List.getElem?_eq_getElem hi, List.getD_eq_getElem?_getD, List.getElem?_eq_getElem hj] at e
    exact (List.getElem?_inj hi h).1 (by rw [List.getElem?_eq_getElem hi, List.getElem?_eq_getElem hj]; simpa using e)
  · intro h
    rw [List.Nodup, List.pairwise_iff_getElem]
    intro i j hi hj hij e
    have := h i j hi hj (by rw [List.getD_eq_getElem?_getD, List.getElem?_eq_getElem hi, List.getD_eq_getElem?_getD, List.getElem?_eq_getElem hj, e])
    omega
theorem sw_nodup (r : List Nat) (j k : Nat) (hj : j < r.length) (hk : k < r.length) (h : r.Nodup) : (sw r j k).Nodup := by
  rw [nodup_get] at h ⊢
  intro a b ha hb e
  rw [sw_len] at ha hb
  rw [sw_get r j k a hj hk, sw_get r j k b hj hk] at e
  split at e <;> split at e <;> try split at e
  all_goals (try split at e)
  all_goals first
    | omega
    | (have h1 := h _ _ (by omega) (by omega) e; omega)

structure TI (trail : List Nat) : Prop where
  nd : trail.Nodup
  rng : ∀ x, x ∈ trail → 2 ≤ x ∧ x < 40002
  con : ∀ x, x ∈ trail → opp x ∉ trail
theorem TI.nil : TI [] := ⟨List.nodup_nil, by simp, by simp⟩
theorem TI.snoc {trail : List Nat} (h : TI trail) {x : Nat} (hx : 2 ≤ x ∧ x < 40002) (h1 : x ∉ trail) (h2 : opp x ∉ trail) : TI (trail ++ [x]) := by
  refine ⟨?_, ?_, ?_⟩
  · rw [List.nodup_append]
    refine ⟨h.nd, by simp, ?_⟩
    intro a ha b hb e
    simp at hb; subst hb; subst e; exact h1 ha
  · intro y hy
    rcases List.mem_append.1 hy with hy | hy
    · exact h.rng y hy
    · simp at hy; subst hy; exact hx
  · intro y hya hna
    rcases List.mem_append.1 hya with hy | hy <;> rcases List.mem_append.1 hna with hn | hn
    · exact h.con y hy hn
    · simp at hn; rw [← hn, opp_opp] at h2; exact h2 hy
    · simp at hy; rw [hy] at hn; exact h2 hn
    · simp at hy hn; rw [hy] at hn; exact opp_ne x hn
theorem nodup_bound {l : List Nat} (h : l.Nodup) {m : Nat} (hm : ∀ x, x ∈ l → x < m) : l.length ≤ m := by
  have := h.length_le_of_subset (l₂ := List.range m) (fun x hx => List.mem_range.2 (hm x hx))
  simpa using this
theorem TI.len {trail : List Nat} (h : TI trail) : trail.length ≤ 40002 := nodup_bound h.nd fun x hx => (h.rng x hx).2
/-- what a code's value is -/
def val (trail : List Nat) (x : Nat) : Int := if x ∈ trail then 1 else if opp x ∈ trail then -1 else 0
theorem val_pos {trail : List Nat} {x : Nat} (h : x ∈ trail) : val trail x = 1 := by unfold val; rw [if_pos h]
theorem val_neg {trail : List Nat} {x : Nat} (h : x ∉ trail) (h' : opp x ∈ trail) : val trail x = -1 := by unfold val; rw [if_neg h, if_pos h']
theorem val_zero {trail : List Nat} {x : Nat} (h : x ∉ trail) (h' : opp x ∉ trail) : val trail x = 0 := by unfold val; rw [if_neg h, if_neg h']

structure SI (n : Nat) (row W : Nat → List Nat) : Prop where
  nd : ∀ c, (W c).Nodup
  rd : ∀ i, i < n → (row i).Nodup
  wat : ∀ c i, i ∈ W c → i < n ∧ 2 ≤ (row i).length ∧ ((row i).getD 0 0 = c ∨ (row i).getD 1 0 = c)
  has : ∀ i, i < n → 2 ≤ (row i).length → ¬ taut (row i) → i ∈ W ((row i).getD 0 0) ∧ i ∈ W ((row i).getD 1 0)

theorem taut_sw {r : List Nat} {j k : Nat} (hj : j < r.length) (hk : k < r.length) : taut (sw r j k) ↔ taut r := by
  unfold taut
  constructor
  · rintro ⟨x, h1, h2⟩; exact ⟨x, (sw_mem r j k hj hk x).1 h1, (sw_mem r j k hj hk _).1 h2⟩
  · rintro ⟨x, h1, h2⟩; exact ⟨x, (sw_mem r j k hj hk x).2 h1, (sw_mem r j k hj hk _).2 h2⟩

theorem SI.swap {n : Nat} {row W : Nat → List Nat} (h : SI n row W) {i : Nat} (h2 : 2 ≤ (row i).length) : SI n (updN row i (sw (row i) 0 1)) W := by
  have g0 : (sw (row i) 0 1).getD 0 0 = (row i).getD 1 0 := by rw [sw_get _ 0 1 0 (by omega) (by omega)]; simp
  have g1 : (sw (row i) 0 1).getD 1 0 = (row i).getD 0 0 := by rw [sw_get _ 0 1 1 (by omega) (by omega)]; simp
  refine ⟨h.nd, fun j hj => ?_, fun c j hj => ?_, fun j hj hl ht => ?_⟩
  · by_cases e : j = i
    · subst e; rw [updN_same]; exact sw_nodup _ _ _ (by omega) (by omega) (h.rd j hj)
    · rw [updN_other _ _ e]; exact h.rd j hj
  · obtain ⟨a, b, c'⟩ := h.wat c j hj
    by_cases e : j = i
    · subst e; rw [updN_same, sw_len, g0, g1]; exact ⟨a, b, c'.symm⟩
    · rw [updN_other _ _ e]; exact ⟨a, b, c'⟩
  · by_cases e : j = i
    · subst e
      rw [updN_same] at hl ht ⊢
      rw [sw_len] at hl
      rw [taut_sw (by omega) (by omega)] at ht
      rw [g0, g1]
      exact (h.has j hj hl ht).symm
    · rw [updN_other _ _ e] at hl ht ⊢; exact h.has j hj hl ht

/-- rows that are on: satisfied, or watched by codes that are not false by what was followed -/
def PI (n : Nat) (row : Nat → List Nat) (on : Nat → Bool) (trail : List Nat) (head : Nat) : Prop :=
  ∀ i, i < n → on i = true → 2 ≤ (row i).length → ¬ taut (row i) → (∃ c, c ∈ row i ∧ c ∈ trail) ∨ ∀ j, j < 2 → opp ((row i).getD j 0) ∉ trail.take head
def PL (n : Nat) (row : Nat → List Nat) (on : Nat → Bool) (trail : List Nat) (head lost : Nat) (rest : List Nat) : Prop :=
  ∀ i, i < n → on i = true → 2 ≤ (row i).length → ¬ taut (row i) → (∃ c, c ∈ row i ∧ c ∈ trail) ∨ ∀ j, j < 2 → opp ((row i).getD j 0) ∉ trail.take head ∧ ((row i).getD j 0 = lost → i ∈ rest)

/-- while what watches a code is followed: kept rows, and the rest -/
structure FI (n : Nat) (on : Nat → Bool) (cls : Nat → List Int) (cl : List (List Int)) (fr : List Int) (row W : Nat → List Nat) (trail : List Nat) (head lost : Nat) (kept rest : List Nat) : Prop where
  si : SI n row (updN W lost (kept ++ rest))
  pi : PL n row on trail head lost rest
  ti : TI trail
  dv : ∀ x, x ∈ trail → D cl fr x
  hl : head < trail.length
  hd : trail.getD head 0 = opp lost
  ro : ∀ i, i < n → RowOf (row i) (cls i)
  on : ∀ i, i < n → on i = true → cls i ∈ cl

section
variable {n : Nat} {on : Nat → Bool} {cls : Nat → List Int} {cl : List (List Int)} {fr : List Int} {row W : Nat → List Nat} {trail : List Nat} {head lost i k : Nat} {kept rest : List Nat}

theorem FI.lostIn (h : FI n on cls cl fr row W trail head lost kept rest) : opp lost ∈ trail := by rw [← h.hd]; exact get_mem h.hl
theorem FI.at (h : FI n on cls cl fr row W trail head lost kept (i :: rest)) : i < n ∧ 2 ≤ (row i).length ∧ ((row i).getD 0 0 = lost ∨ (row i).getD 1 0 = lost) :=
  h.si.wat lost i (by rw [updN_same]; simp)
theorem FI.swap (h : FI n on cls cl fr row W trail head lost kept (i :: rest)) : FI n on cls cl fr (updN row i (sw (row i) 0 1)) W trail head lost kept (i :: rest) := by
  obtain ⟨hi, h2, _⟩ := h.at
  have g0 : (sw (row i) 0 1).getD 0 0 = (row i).getD 1 0 := by rw [sw_get _ 0 1 0 (by omega) (by omega)]; simp
  have g1 : (sw (row i) 0 1).getD 1 0 = (row i).getD 0 0 := by rw [sw_get _ 0 1 1 (by omega) (by omega)]; simp
  refine ⟨h.si.swap h2, fun j hj hon hl ht => ?_, h.ti, h.dv, h.hl, h.hd, fun j hj => ?_, h.on⟩
  · by_cases e : j = i
    · subst e
      rw [updN_same] at hl ht ⊢
      rw [sw_len] at hl
      rw [taut_sw (by omega) (by omega)] at ht
      rcases h.pi j hj hon hl ht with ⟨c, h1, h3⟩ | h1
      · exact .inl ⟨c, (sw_mem _ _ _ (by omega) (by omega) c).2 h1, h3⟩
      · right
        intro q hq
        rcases (show q = 0 ∨ q = 1 by omega) with rfl | rfl
        · rw [g0]; exact h1 1 (by omega)
        · rw [g1]; exact h1 0 (by omega)
    · rw [updN_other _ _ e] at hl ht ⊢; exact h.pi j hj hon hl ht
  · by_cases e : j = i
    · subst e; rw [updN_same]; intro x; rw [sw_mem _ _ _ (by omega) (by omega)]; exact h.ro j hj x
    · rw [updN_other _ _ e]; exact h.ro j hj
theorem FI.keep (h : FI n on cls cl fr row W trail head lost kept (i :: rest)) (hk : on i = false ∨ (row i).getD 0 0 ∈ trail) : FI n on cls cl fr row W trail head lost (kept ++ [i]) rest := by
  obtain ⟨hi, h2, _⟩ := h.at
  refine ⟨by rw [List.append_assoc]; exact h.si, fun j hj hon hl ht => ?_, h.ti, h.dv, h.hl, h.hd, h.ro, h.on⟩
  by_cases e : j = i
  · subst e
    rcases hk with hk | hk
    · rw [hk] at hon; cases hon
    · exact .inl ⟨_, get_mem (by omega), hk⟩
  · rcases h.pi j hj hon hl ht with h1 | h1
    · exact .inl h1
    · right
      intro q hq
      refine ⟨(h1 q hq).1, fun hh => ?_⟩
      rcases List.mem_cons.1 ((h1 q hq).2 hh) with h' | h'
      · exact absurd h' e
      · exact h'
theorem FI.unit (h : FI n on cls cl fr row W trail head lost kept (i :: rest)) (hon : on i = true) (h1 : (row i).getD 1 0 = lost) (hm : ∀ k, 2 ≤ k → k < (row i).length → opp ((row i).getD k 0) ∈ trail) : D cl fr ((row i).getD 0 0) := by
  obtain ⟨hi, h2, _⟩ := h.at
  refine unitD (h.ro i hi) (h.on i hi hon) (get_mem (by omega)) fun y hy hne => ?_
  obtain ⟨k, hk, rfl⟩ := mem_get.1 hy
  refine h.dv _ ?_
  by_cases e0 : k = 0
  · subst e0; exact absurd rfl hne
  · by_cases e1 : k = 1
    · subst e1; rw [h1]; exact h.lostIn
    · exact hm k (by omega) hk
theorem FI.fail (h : FI n on cls cl fr row W trail head lost kept (i :: rest)) (hon : on i = true) (h1 : (row i).getD 1 0 = lost) (hm : ∀ k, 2 ≤ k → k < (row i).length → opp ((row i).getD k 0) ∈ trail) (h0 : opp ((row i).getD 0 0) ∈ trail) : Clash cl fr :=
  clashD ((h.ro i h.at.1).rng (get_mem (by have := h.at.2.1; omega))).1 (h.unit hon h1 hm) (h.dv _ h0)
theorem FI.push (h : FI n on cls cl fr row W trail head lost kept (i :: rest)) (hon : on i = true) (h1 : (row i).getD 1 0 = lost) (hm : ∀ k, 2 ≤ k → k < (row i).length → opp ((row i).getD k 0) ∈ trail)
    (h0 : (row i).getD 0 0 ∉ trail) (h0' : opp ((row i).getD 0 0) ∉ trail) : FI n on cls cl fr row W (trail ++ [(row i).getD 0 0]) head lost (kept ++ [i]) rest := by
  obtain ⟨hi, h2, _⟩ := h.at
  have hD := h.unit hon h1 hm
  have hhl := h.hl
  have htk : (trail ++ [(row i).getD 0 0]).take head = trail.take head := List.take_append_of_le_length (by omega)
  refine ⟨by rw [List.append_assoc]; exact h.si, fun j hj hon' hl ht => ?_, h.ti.snoc ((h.ro i hi).rng (get_mem (by omega))) h0 h0', ?_, by simp; omega, ?_, h.ro, h.on⟩
  · by_cases e : j = i
    · subst e; exact .inl ⟨(row j).getD 0 0, get_mem (by omega), by simp⟩
    · rcases h.pi j hj hon' hl ht with ⟨c, hc, hc'⟩ | hq
      · exact .inl ⟨c, hc, by simp [hc']⟩
      · right
        intro q hqq
        rw [htk]
        refine ⟨(hq q hqq).1, fun hh => ?_⟩
        rcases List.mem_cons.1 ((hq q hqq).2 hh) with h' | h'
        · exact absurd h' e
        · exact h'
  · intro x hx
    rcases List.mem_append.1 hx with hx | hx
    · exact h.dv x hx
    · simp only [List.mem_singleton] at hx; rw [hx]; exact hD
  · rw [← h.hd]; simp only [List.getD_eq_getElem?_getD]; rw [List.getElem?_append_left hhl]

theorem FI.move (h : FI n on cls cl fr row W trail head lost kept (i :: rest)) (h1 : (row i).getD 1 0 = lost) (hk : 2 ≤ k) (hkl : k < (row i).length) (hc : opp ((row i).getD k 0) ∉ trail) :
    FI n on cls cl fr (updN row i (sw (row i) 1 k)) (updN W ((row i).getD k 0) (W ((row i).getD k 0) ++ [i])) trail head lost kept rest := by
  obtain ⟨hi, h2, _⟩ := h.at
  have hnd := nodup_get.1 (h.si.rd i hi)
  have g0 : (sw (row i) 1 k).getD 0 0 = (row i).getD 0 0 := by rw [sw_get _ 1 k 0 (by omega) hkl, if_neg (by omega), if_neg (by omega)]
  have g1 : (sw (row i) 1 k).getD 1 0 = (row i).getD k 0 := by rw [sw_get _ 1 k 1 (by omega) hkl, if_neg (by omega), if_pos rfl]
  generalize hcode : (row i).getD k 0 = code at *
  have n0 : (row i).getD 0 0 ≠ code := by rw [← hcode]; intro e; have := hnd 0 k (by omega) hkl e; omega
  have n1 : lost ≠ code := by rw [← hcode, ← h1]; intro e; have := hnd 1 k (by omega) hkl e; omega
  have n01 : (row i).getD 0 0 ≠ lost := by rw [← h1]; intro e; have := hnd 0 1 (by omega) (by omega) e; omega
  have hWc : updN W lost (kept ++ (i :: rest)) code = W code := updN_other _ _ (fun e => n1 e.symm)
  have hni : i ∉ W code := by
    intro hin
    rw [← hWc] at hin
    have hh := (h.si.wat code i hin).2.2
    rw [h1] at hh
    rcases hh with hh | hh
    · exact n0 hh
    · exact n1 hh
  have hnl : (kept ++ i :: rest).Nodup := by have := h.si.nd lost; rw [updN_same] at this; exact this
  have hnl' : (kept ++ rest).Nodup := hnl.sublist (List.Sublist.append (List.Sublist.refl _) (List.sublist_cons_self _ _))
  have hni2 : i ∉ kept ++ rest := by
    rw [List.nodup_append] at hnl
    intro hin
    rcases List.mem_append.1 hin with hin | hin
    · exact hnl.2.2 i hin i (by simp) rfl
    · exact (List.nodup_cons.1 hnl.2.1).1 hin
  have hW : ∀ c, (c = lost → updN (updN W code (W code ++ [i])) lost (kept ++ rest) c = kept ++ rest) ∧ (c = code → updN (updN W code (W code ++ [i])) lost (kept ++ rest) c = W code ++ [i]) ∧
      (c ≠ lost → c ≠ code → updN (updN W code (W code ++ [i])) lost (kept ++ rest) c = updN W lost (kept ++ i :: rest) c) := by
    intro c
    refine ⟨fun e => by rw [e, updN_same], fun e => ?_, fun e1 e2 => ?_⟩
    · rw [e, updN_other _ _ (fun e => n1 e.symm), updN_same]
    · rw [updN_other _ _ e1, updN_other _ _ e2, updN_other _ _ e1]
  -- for another row: in the new list iff in the old one
  have hoth : ∀ c j, j ≠ i → (j ∈ updN (updN W code (W code ++ [i])) lost (kept ++ rest) c ↔ j ∈ updN W lost (kept ++ i :: rest) c) := by
    intro c j hj
    by_cases e1 : c = lost
    · rw [(hW c).1 e1, e1, updN_same]
      simp [hj]
    · by_cases e2 : c = code
      · rw [(hW c).2.1 e2, e2, hWc]; simp [hj]
      · rw [(hW c).2.2 e1 e2]
  refine ⟨⟨fun c => ?_, fun j hj => ?_, fun c j hj => ?_, fun j hj hl ht => ?_⟩, fun j hj hon hl ht => ?_, h.ti, h.dv, h.hl, h.hd, fun j hj => ?_, h.on⟩
  · by_cases e1 : c = lost
    · rw [(hW c).1 e1]; exact hnl'
    · by_cases e2 : c = code
      · rw [(hW c).2.1 e2, List.nodup_append]
        refine ⟨by have := h.si.nd code; rw [hWc] at this; exact this, by simp, ?_⟩
        intro a ha b hb e
        simp at hb; subst hb; subst e; exact hni ha
      · rw [(hW c).2.2 e1 e2]; exact h.si.nd c
  · by_cases e : j = i
    · subst e; rw [updN_same]; exact sw_nodup _ _ _ (by omega) hkl (h.si.rd j hj)
    · rw [updN_other _ _ e]; exact h.si.rd j hj
  · by_cases e : j = i
    · subst e
      rw [updN_same, sw_len, g0, g1]
      refine ⟨hi, h2, ?_⟩
      by_cases e1 : c = lost
      · rw [(hW c).1 e1] at hj; exact absurd hj hni2
      · by_cases e2 : c = code
        · exact .inr e2.symm
        · rw [(hW c).2.2 e1 e2] at hj
          rcases (h.si.wat c j hj).2.2 with h' | h'
          · exact .inl h'
          · rw [h1] at h'; exact absurd h'.symm e1
    · rw [updN_other _ _ e]; exact h.si.wat c j ((hoth c j e).1 hj)
  · by_cases e : j = i
    · subst e
      rw [updN_same] at hl ht ⊢
      rw [sw_len] at hl
      rw [taut_sw (by omega) hkl] at ht
      rw [g0, g1, (hW code).2.1 rfl, (hW _).2.2 n01 n0]
      exact ⟨(h.si.has j hj hl ht).1, by simp⟩
    · rw [updN_other _ _ e] at hl ht ⊢
      rw [hoth _ _ e, hoth _ _ e]
      exact h.si.has j hj hl ht
  · by_cases e : j = i
    · subst e
      rw [updN_same] at hl ht ⊢
      rw [sw_len] at hl
      rw [taut_sw (by omega) hkl] at ht
      rcases h.pi j hj hon hl ht with ⟨c, hc1, hc2⟩ | hq
      · exact .inl ⟨c, (sw_mem _ _ _ (by omega) hkl c).2 hc1, hc2⟩
      · right
        intro q hqq
        rcases (show q = 0 ∨ q = 1 by omega) with rfl | rfl
        · rw [g0]; exact ⟨(hq 0 (by omega)).1, fun e => absurd e n01⟩
        · rw [g1]; exact ⟨fun hin => hc (List.mem_of_mem_take hin), fun e => absurd e.symm n1⟩
    · rw [updN_other _ _ e] at hl ht ⊢
      rcases h.pi j hj hon hl ht with hq | hq
      · exact .inl hq
      · right
        intro q hqq
        refine ⟨(hq q hqq).1, fun hh => ?_⟩
        rcases List.mem_cons.1 ((hq q hqq).2 hh) with h' | h'
        · exact absurd h' e
        · exact h'
  · by_cases e : j = i
    · subst e; rw [updN_same]; intro x; rw [sw_mem _ _ _ (by omega) hkl]; exact h.ro j hj x
    · rw [updN_other _ _ e]; exact h.ro j hj
theorem FI.done (h : FI n on cls cl fr row W trail head lost kept []) : PI n row on trail (head + 1) := by
  intro i hi hon hl ht
  rcases h.pi i hi hon hl ht with h1 | h1
  · exact .inl h1
  · right
    intro j hj
    have hhl := h.hl
    have hhd := h.hd
    rw [List.take_succ_eq_append_getElem hhl, List.mem_append]
    rintro (hin | hin)
    · exact (h1 j hj).1 hin
    · simp only [List.mem_singleton] at hin
      rw [List.getD_eq_getElem?_getD, List.getElem?_eq_getElem hhl, Option.getD_some, ← hin] at hhd
      have := (h1 j hj).2 (opp_inj hhd)
      simp at this
end

/-- what is followed to the end without a conflict is closed -/
theorem closed {n : Nat} {on : Nat → Bool} {cls : Nat → List Int} {cl : List (List Int)} {fr : List Int} {row : Nat → List Nat} {trail : List Nat} (T : TI trail) (ro : ∀ i, i < n → RowOf (row i) (cls i)) (rd : ∀ i, i < n → (row i).Nodup)
    (hcl : ∀ c, c ∈ cl → ∃ i, i < n ∧ on i = true ∧ cls i = c) (hfr : ∀ l, l ∈ fr → lit l → code l ∈ trail) (hs : ∀ i, i < n → on i = true → (row i).length < 2 → ∃ x, x ∈ row i ∧ x ∈ trail)
    (hp : PI n row on trail trail.length) : ¬ Clash cl fr := by
  refine no_clash (fun l => lit l ∧ code l ∈ trail) ?_ (fun l h hl => ⟨hl, hfr l h hl⟩) (fun c hc => ?_)
  · rintro l ⟨hl, h1⟩ ⟨_, h2⟩
    rw [code_neg l hl] at h2
    exact T.con _ h1 h2
  · obtain ⟨i, hi, hon, rfl⟩ := hcl c hc
    have sat : ∀ x, x ∈ row i → x ∈ trail → ∃ l ∈ cls i, lit l ∧ (lit l ∧ code l ∈ trail) := by
      intro x hx hxt
      obtain ⟨hm, hl⟩ := (ro i hi).lit hx
      exact ⟨_, hm, hl, hl, by rw [code_litOf x ((ro i hi).rng hx).1]; exact hxt⟩
    by_cases h2 : 2 ≤ (row i).length
    · by_cases ht : taut (row i)
      · obtain ⟨x, hx, hx'⟩ := ht
        obtain ⟨hm, hl⟩ := (ro i hi).lit hx
        obtain ⟨hm', _⟩ := (ro i hi).lit hx'
        rw [litOf_opp x ((ro i hi).rng hx).1] at hm'
        exact .inr (.inr ⟨_, hm, hl, hm'⟩)
      · rcases hp i hi hon h2 ht with ⟨x, hx, hxt⟩ | hq
        · exact .inl (sat x hx hxt)
        · rw [List.take_length] at hq
          have m0 : (row i).getD 0 0 ∈ row i := get_mem (by omega)
          have m1 : (row i).getD 1 0 ∈ row i := get_mem (by omega)
          obtain ⟨a1, a2⟩ := (ro i hi).lit m0
          obtain ⟨b1, b2⟩ := (ro i hi).lit m1
          have r0 := ((ro i hi).rng m0).1
          have r1 := ((ro i hi).rng m1).1
          refine .inr (.inl ⟨_, a1, _, b1, a2, b2, ?_, ?_, ?_⟩)
          · intro e
            have := congrArg code e
            rw [code_litOf _ r0, code_litOf _ r1] at this
            have := nodup_get.1 (rd i hi) 0 1 (by omega) (by omega) this
            omega
          · rintro ⟨_, h⟩
            rw [code_neg _ a2, code_litOf _ r0] at h
            exact hq 0 (by omega) h
          · rintro ⟨_, h⟩
            rw [code_neg _ b2, code_litOf _ r1] at h
            exact hq 1 (by omega) h
    · obtain ⟨x, hx, hxt⟩ := hs i hi hon (by omega)
      exact .inl (sat x hx hxt)
end Go.Proofs.Ytojjjndhabjhdaa.proofQ
