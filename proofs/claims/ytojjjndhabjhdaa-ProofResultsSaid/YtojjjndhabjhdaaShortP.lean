/-
  Plain law of shortening a log.
-/
import Derived.Test.YtojjjndhabjhdaaProofM
namespace Go.Proofs.Ytojjjndhabjhdaa.shortP
open Go.Proofs.Ytojjjndhabjhdaa.proofP Go.Proofs.Ytojjjndhabjhdaa.proofQ Go.Proofs.Ytojjjndhabjhdaa.proofM
set_option linter.unusedSimpArgs false
set_option linter.unusedVariables false

def chosen (log : List (List Int)) (m : Nat → Bool) (k : Nat) : List (List Int) := (List.range k).filterMap fun i => if m i = true then some (log.getD i []) else none
theorem chosen_yes {log : List (List Int)} {m : Nat → Bool} {k : Nat} (h : m k = true) : chosen log m (k + 1) = chosen log m k ++ [log.getD k []] := by
  unfold chosen; rw [List.range_succ, List.filterMap_append]; simp [h]
theorem chosen_no {log : List (List Int)} {m : Nat → Bool} {k : Nat} (h : m k = false) : chosen log m (k + 1) = chosen log m k := by
  unfold chosen; rw [List.range_succ, List.filterMap_append]; simp [h]
theorem chosen_congr {log : List (List Int)} {m m' : Nat → Bool} : ∀ {k : Nat}, (∀ i, i < k → m i = m' i) → chosen log m k = chosen log m' k := by
  intro k
  induction k with
  | zero => intro _; rfl
  | succ k ih =>
    intro h
    have e := ih (fun i hi => h i (by omega))
    have hk := h k (by omega)
    cases hm : m k
    · rw [chosen_no hm, chosen_no (hk ▸ hm), e]
    · rw [chosen_yes hm, chosen_yes (hk ▸ hm), e]
theorem chosen_len {log : List (List Int)} {m : Nat → Bool} (k : Nat) : (chosen log m k).length ≤ k := by
  induction k with
  | zero => simp [chosen]
  | succ k ih =>
    cases hm : m k
    · rw [chosen_no hm]; omega
    · rw [chosen_yes hm]; simp; omega
theorem mem_chosen {log : List (List Int)} {m : Nat → Bool} {k : Nat} {c : List Int} : c ∈ chosen log m k ↔ ∃ i, i < k ∧ m i = true ∧ log.getD i [] = c := by
  unfold chosen
  rw [List.mem_filterMap]
  constructor
  · rintro ⟨i, hi, h⟩
    rw [List.mem_range] at hi
    by_cases hf : m i = true
    · rw [if_pos hf] at h; exact ⟨i, hi, hf, by simpa using h⟩
    · rw [if_neg hf] at h; cases h
  · rintro ⟨i, hi, hf, h⟩
    exact ⟨i, List.mem_range.2 hi, by rw [if_pos hf, h]⟩
theorem chosen_take {log : List (List Int)} {m : Nat → Bool} : ∀ {k : Nat}, k ≤ log.length → (∀ i, i < k → m i = true) → chosen log m k = log.take k := by
  intro k
  induction k with
  | zero => intro _ _; simp [chosen]
  | succ k ih =>
    intro hk h
    rw [chosen_yes (h k (by omega)), ih (by omega) (fun i hi => h i (by omega)), List.take_succ_eq_append_getElem (by omega), List.getD_eq_getElem?_getD, List.getElem?_eq_getElem (by omega)]; rfl

theorem bad_iff {cl log : List (List Int)} : bad cl log = -1 ↔ ∀ j, j < log.length → pl (cl ++ log.take j) (log.getD j []) = true := by
  constructor
  · intro h
    rcases bad_cases cl log with ⟨_, h1⟩ | ⟨i, hi, h1, _⟩
    · exact h1
    · rw [h] at h1; omega
  · exact bad_none
theorem bad_neg {cl log : List (List Int)} : bad cl log < 0 ↔ bad cl log = -1 := by
  rcases bad_cases cl log with ⟨h, _⟩ | ⟨i, hi, h1, _⟩ <;> omega
theorem bad_snoc {cl l : List (List Int)} {x : List Int} : bad cl (l ++ [x]) = -1 ↔ bad cl l = -1 ∧ pl (cl ++ l) x = true := by
  rw [bad_iff, bad_iff]
  constructor
  · intro h
    refine ⟨fun j hj => ?_, ?_⟩
    · have := h j (by simp; omega)
      rw [List.take_append_of_le_length (by omega), List.getD_eq_getElem?_getD, List.getElem?_append_left hj, ← List.getD_eq_getElem?_getD] at this
      exact this
    · have := h l.length (by simp)
      rw [List.take_append_of_le_length (by omega), List.take_length, List.getD_eq_getElem?_getD, List.getElem?_append_right (by omega)] at this
      simpa using this
  · rintro ⟨h1, h2⟩ j hj
    simp at hj
    by_cases e : j < l.length
    · rw [List.take_append_of_le_length (by omega), List.getD_eq_getElem?_getD, List.getElem?_append_left e, ← List.getD_eq_getElem?_getD]
      exact h1 j e
    · obtain rfl : j = l.length := by omega
      rw [List.take_append_of_le_length (by omega), List.take_length, List.getD_eq_getElem?_getD, List.getElem?_append_right (by omega)]
      simpa using h2
theorem bad_chosen {cl log : List (List Int)} {m : Nat → Bool} (k : Nat) : bad cl (chosen log m k) = -1 ↔ ∀ i, i < k → m i = true → pl (cl ++ chosen log m i) (log.getD i []) = true := by
  induction k with
  | zero => exact ⟨fun _ i hi => absurd hi (Nat.not_lt_zero _), fun _ => bad_none fun j hj => by simp [chosen] at hj⟩
  | succ k ih =>
    cases hm : m k
    · rw [chosen_no hm, ih]
      exact ⟨fun h i hi hmi => by
        by_cases e : i = k
        · rw [e, hm] at hmi; cases hmi
        · exact h i (by omega) hmi, fun h i hi => h i (by omega)⟩
    · rw [chosen_yes hm, bad_snoc, ih]
      exact ⟨fun h i hi hmi => by
        by_cases e : i = k
        · rw [e]; exact h.2
        · exact h.1 i (by omega) hmi, fun h => ⟨fun i hi => h i (by omega), h k (by omega) hm⟩⟩

/-- the clauses behind a place stay plain without those that are out -/
theorem behind_iff {cl log : List (List Int)} (hb : bad cl log = -1) {m : Nat → Bool} {p : Nat} (hp : p < log.length) (hm : ∀ j, j < p → m j = true) (hmp : m p = false) :
    bad cl (chosen log m log.length) = -1 ↔ ∀ i, p < i → i < log.length → m i = true → pl (cl ++ chosen log m i) (log.getD i []) = true := by
  rw [bad_chosen]
  constructor
  · exact fun h i _ hi hmi => h i hi hmi
  · intro h i hi hmi
    by_cases e : p < i
    · exact h i e hi hmi
    · by_cases e2 : i = p
      · rw [e2, hmp] at hmi; cases hmi
      · rw [chosen_take (by omega) (fun j hj => hm j (by omega))]
        exact bad_iff.1 hb i hi

noncomputable def stepM (cl log : List (List Int)) (m : Nat → Bool) (i : Nat) : Nat → Bool := updN m i (decide (0 ≤ bad cl (chosen log (updN m i false) log.length)))
noncomputable def maskM (cl log : List (List Int)) : Nat → Nat → Bool
  | 0 => fun _ => true
  | t + 1 => stepM cl log (maskM cl log t) (log.length - 2 - t)
theorem mask_left {cl log : List (List Int)} : ∀ (t j : Nat), j + t + 1 < log.length → maskM cl log t j = true := by
  intro t
  induction t with
  | zero => intro j _; rfl
  | succ t ih =>
    intro j hj
    show stepM cl log (maskM cl log t) (log.length - 2 - t) j = true
    unfold stepM
    rw [updN_other _ _ (by omega)]
    exact ih j (by omega)
noncomputable def shortened (cl log : List (List Int)) : List (List Int) := if bad cl log = -1 then chosen log (maskM cl log (log.length - 1)) log.length else []

/-- one step of shortening, as the program takes it -/
theorem mask_step {cl log : List (List Int)} (hb : bad cl log = -1) {t place : Nat} (ht : t + 2 ≤ log.length) (hp : place = log.length - 2 - t) {b : Bool}
    (hbi : b = true ↔ ∀ i, place < i → i < log.length → updN (fun j => !maskM cl log t j) place true i = false → pl (cl ++ chosen log (fun j => !updN (fun j => !maskM cl log t j) place true j) i) (log.getD i []) = true) :
    updN (updN (fun j => !maskM cl log t j) place true) place b = fun j => !maskM cl log (t + 1) j := by
  have hm : ∀ j, (!updN (fun j => !maskM cl log t j) place true j) = updN (maskM cl log t) place false j := fun j => by
    by_cases e : j = place
    · subst e; rw [updN_same, updN_same]; rfl
    · rw [updN_other _ _ e, updN_other _ _ e]; simp
  have hfun : (fun j => !updN (fun j => !maskM cl log t j) place true j) = updN (maskM cl log t) place false := funext hm
  rw [hfun] at hbi
  have hbi2 : b = true ↔ bad cl (chosen log (updN (maskM cl log t) place false) log.length) = -1 := by
    rw [hbi, behind_iff hb (p := place) (by omega) (fun j hj => by rw [updN_other _ _ (by omega)]; exact mask_left t j (by omega)) (updN_same _ _ _)]
    constructor
    · intro h i h1 h2 h3
      exact h i h1 h2 (by have := hm i; rw [h3] at this; simpa using this)
    · intro h i h1 h2 h3
      exact h i h1 h2 (by have := hm i; rw [h3] at this; exact this.symm)
  funext j
  show _ = !stepM cl log (maskM cl log t) (log.length - 2 - t) j
  unfold stepM
  rw [← hp]
  by_cases e : j = place
  · subst e
    rw [updN_same, updN_same]
    rcases bad_cases cl (chosen log (updN (maskM cl log t) j false) log.length) with ⟨h, _⟩ | ⟨i, _, h, _⟩
    · rw [hbi2.2 h, h]; rfl
    · have : b = false := by
        cases b
        · rfl
        · have := hbi2.1 rfl; rw [h] at this; omega
      rw [this, h]; simp
  · rw [updN_other _ _ e, updN_other _ _ e, updN_other _ _ e]

/-- what checkBehind has on while it looks at a place -/
def onF (n : Nat) (o : Nat → Bool) (k j : Nat) : Bool := decide (j < n) || (decide (j - n < k) && !o (j - n))
theorem sel_onF {cl log : List (List Int)} {o : Nat → Bool} {k : Nat} (hk : k ≤ log.length) (c : List Int) : pl (sel (cl ++ log) (onF cl.length o k)) c = pl (cl ++ chosen log (fun j => !o j) k) c := pl_same _ fun x => by
  rw [mem_sel, List.mem_append, mem_chosen]
  constructor
  · rintro ⟨i, hi, hf, h⟩
    by_cases e : i < cl.length
    · left
      rw [List.getD_eq_getElem?_getD, List.getElem?_append_left e, List.getElem?_eq_getElem e] at h
      exact h ▸ List.getElem_mem e
    · right
      simp only [onF, e, decide_false, Bool.false_or, Bool.and_eq_true, decide_eq_true_eq] at hf
      refine ⟨i - cl.length, hf.1, hf.2, ?_⟩
      rw [List.getD_eq_getElem?_getD, List.getElem?_append_right (by omega), ← List.getD_eq_getElem?_getD] at h
      exact h
  · rintro (h | ⟨i, hi, hf, h⟩)
    · obtain ⟨i, hi, h⟩ := List.mem_iff_getElem.1 h
      refine ⟨i, by rw [List.length_append]; omega, by simp [onF, hi], ?_⟩
      rw [List.getD_eq_getElem?_getD, List.getElem?_append_left hi, List.getElem?_eq_getElem hi]; exact h
    · refine ⟨cl.length + i, by rw [List.length_append]; omega, by simp [onF, hi]; right; simpa using hf, ?_⟩
      rw [List.getD_eq_getElem?_getD, List.getElem?_append_right (by omega), ← List.getD_eq_getElem?_getD, Nat.add_sub_cancel_left]; exact h
end Go.Proofs.Ytojjjndhabjhdaa.shortP
