/-
  Plain: which number's text stands at a text's head, and what number it is.
-/
import Derived.Lib.ParseIntB
import Derived.Lib.ItoaNum
namespace Go.Proofs.YtjcaffpmcgfhaaaDoor.intsP

def isD (c : UInt8) : Bool := decide (48 ≤ c.toNat ∧ c.toNat ≤ 57)
def bt (l : List UInt8) (k : Nat) : Nat := (l.getD k 0).toNat
/-- how many digits stand at a text's head -/
def dn (l : List UInt8) : Nat := (l.takeWhile isD).length

theorem dn_nil : dn [] = 0 := rfl
theorem dn_cons (c : UInt8) (l : List UInt8) : dn (c :: l) = if isD c = true then dn l + 1 else 0 := by
  unfold dn; rw [List.takeWhile_cons]; split <;> simp_all
theorem dn_le (l : List UInt8) : dn l ≤ l.length := by
  induction l with
  | nil => exact Nat.le_refl _
  | cons c l ih => rw [dn_cons, List.length_cons]; split <;> omega
theorem dn_drop_le (l : List UInt8) (p : Nat) : dn (l.drop p) ≤ l.length - p := by
  have := dn_le (l.drop p); rwa [List.length_drop] at this
theorem dn_at {l : List UInt8} {k : Nat} (h : k < dn l) : isD (l.getD k 0) = true := by
  induction l generalizing k with
  | nil => simp [dn] at h
  | cons c l ih =>
    rw [dn_cons] at h
    by_cases hc : isD c = true
    · rw [if_pos hc] at h
      cases k with
      | zero => exact hc
      | succ k => exact ih (by omega)
    · rw [if_neg hc] at h; omega
theorem dn_end (l : List UInt8) : isD (l.getD (dn l) 0) = false := by
  induction l with
  | nil => rfl
  | cons c l ih =>
    rw [dn_cons]
    by_cases hc : isD c = true
    · rw [if_pos hc]; exact ih
    · rw [if_neg hc]; simpa using hc
/-- the digits end where a byte is none -/
theorem dn_eq (l : List UInt8) (n : Nat) (h1 : ∀ k, k < n → isD (l.getD k 0) = true) (h2 : isD (l.getD n 0) = false) : dn l = n := by
  rcases Nat.lt_trichotomy (dn l) n with h | h | h
  · have := h1 _ h; rw [dn_end] at this; cases this
  · exact h
  · have := dn_at h; rw [h2] at this; cases this

def sg (l : List UInt8) : Nat := if bt l 0 = 45 then 1 else 0
/-- how many bytes the whole part has; 0: there is none -/
def whole (l : List UInt8) : Nat := if dn (l.drop (sg l)) = 0 then 0 else sg l + (if bt l (sg l) = 48 then 1 else dn (l.drop (sg l)))
def frac (l : List UInt8) (p : Nat) : Nat := if bt l p = 46 ∧ dn (l.drop (p + 1)) ≠ 0 then p + 1 + dn (l.drop (p + 1)) else p
def sig (l : List UInt8) (p : Nat) : Nat := if bt l p = 43 ∨ bt l p = 45 then 1 else 0
def expo (l : List UInt8) (p : Nat) : Nat := if (bt l p = 101 ∨ bt l p = 69) ∧ dn (l.drop (p + 1 + sig l (p + 1))) ≠ 0 then p + 1 + sig l (p + 1) + dn (l.drop (p + 1 + sig l (p + 1))) else p
/-- how many bytes all has -/
def every (l : List UInt8) : Nat := expo l (frac l (whole l))

theorem bt_lt {l : List UInt8} {k : Nat} (h : bt l k ≠ 0) : k < l.length := by
  rcases Nat.lt_or_ge k l.length with h' | h'
  · exact h'
  · exfalso; apply h; unfold bt; rw [List.getD_eq_getElem?_getD, List.getElem?_eq_none h']; rfl
theorem sg_le (l : List UInt8) : sg l ≤ 1 := by unfold sg; split <;> omega
theorem whole_le (l : List UInt8) : whole l ≤ l.length := by
  unfold whole
  have h := dn_drop_le l (sg l)
  split
  · omega
  · split <;> omega
theorem frac_ge (l : List UInt8) (p : Nat) : p ≤ frac l p := by unfold frac; split <;> omega
theorem expo_ge (l : List UInt8) (p : Nat) : p ≤ expo l p := by unfold expo; split <;> omega
theorem frac_le (l : List UInt8) (p : Nat) (h : p ≤ l.length) : frac l p ≤ l.length := by
  unfold frac
  have := dn_drop_le l (p + 1)
  split <;> omega
theorem expo_le (l : List UInt8) (p : Nat) (h : p ≤ l.length) : expo l p ≤ l.length := by
  unfold expo
  have := dn_drop_le l (p + 1 + sig l (p + 1))
  split <;> omega
theorem every_ge (l : List UInt8) : whole l ≤ every l := Nat.le_trans (frac_ge l _) (expo_ge l _)
theorem every_le (l : List UInt8) : every l ≤ l.length := expo_le l _ (frac_le l _ (whole_le l))

/-! ### what number -/
def acc : Nat → List UInt8 → Nat
  | a, [] => a
  | a, c :: r => acc (a * 10 + (c.toNat - 48)) r
theorem acc_snoc (a : Nat) (l : List UInt8) (c : UInt8) : acc a (l ++ [c]) = acc a l * 10 + (c.toNat - 48) := by
  induction l generalizing a with
  | nil => rfl
  | cons b l ih => exact ih _
theorem acc_ge (a : Nat) (l : List UInt8) : a ≤ acc a l := by
  induction l generalizing a with
  | nil => exact Nat.le_refl _
  | cons b l ih => exact Nat.le_trans (by omega) (ih _)

def big : Nat := 9223372036854775808
/-- the number of a whole number's text; none: it doesn't fit -/
def valO (l : List UInt8) : Option Int :=
  if bt l 0 = 45 then (if acc 0 l.tail ≤ big then some (-(acc 0 l.tail : Int)) else none) else if acc 0 l < big then some (acc 0 l : Int) else none

theorem uintM (l : List UInt8) (h : ∀ c ∈ l, isD c = true) : ∀ a, a ≤ 18446744073709551615 → Lib.parseUintM 18446744073709551615 a l = if acc a l ≤ 18446744073709551615 then .ok (acc a l) else .range := by
  induction l with
  | nil => intro a ha; rw [Lib.parseUintM]; show _ = if a ≤ _ then _ else _; rw [if_pos ha]; rfl
  | cons c l ih =>
    intro a ha
    have hc : 48 ≤ c.toNat ∧ c.toNat ≤ 57 := by have := h c (by simp); simpa [isD] using this
    have hg := acc_ge (a * 10 + (c.toNat - 48)) l
    rw [Lib.parseUintM, if_pos hc]
    show _ = if acc (a * 10 + (c.toNat - 48)) l ≤ _ then Lib.NumEnd.ok (acc (a * 10 + (c.toNat - 48)) l) else _
    by_cases h1 : 1844674407370955162 ≤ a
    · rw [if_pos h1, if_neg (by omega)]
    rw [if_neg h1]
    by_cases h2 : 18446744073709551615 < a * 10 + (c.toNat - 48)
    · rw [if_pos h2, if_neg (by omega)]
    rw [if_neg h2, ih (fun x hx => h x (by simp [hx])) _ (by omega)]

/-- Go's own reading of such a text -/
theorem parse_val (l : List UInt8) (hn : l.drop (sg l) ≠ []) (h : ∀ c ∈ l.drop (sg l), isD c = true) :
    Lib.parseIntB 64 l = match valO l with | some v => .ok v | none => .range := by
  cases l with
  | nil => simp at hn
  | cons c r =>
    have p64 : 2 ^ 64 - 1 = 18446744073709551615 := by decide
    have p63 : 2 ^ (64 - 1) = 9223372036854775808 := by decide
    have b0 : bt (c :: r) 0 = c.toNat := rfl
    unfold sg at hn h
    rw [b0] at hn h
    by_cases hm : c.toNat = 45
    · have hv : valO (c :: r) = if acc 0 r ≤ big then some (-(acc 0 r : Int)) else none := by unfold valO; rw [b0, if_pos hm]; rfl
      rw [hv]
      unfold Lib.parseIntB Lib.parseUintB
      simp only [p64, p63]
      rw [if_pos hm] at hn h
      rw [List.drop_succ_cons, List.drop_zero] at hn h
      rw [if_pos (Or.inr hm), if_neg hn, uintM r h 0 (by omega)]
      unfold big
      by_cases h1 : acc 0 r ≤ 18446744073709551615
      · rw [if_pos h1]
        simp only [hm, not_true, false_and, if_false, true_and, if_true]
        by_cases h2 : acc 0 r ≤ 9223372036854775808
        · rw [if_neg (by omega), if_pos h2]
        · rw [if_pos (by omega), if_neg h2]
      · rw [if_neg h1, if_neg (by omega)]
    · rw [if_neg hm, List.drop_zero] at hn h
      have hv : valO (c :: r) = if acc 0 (c :: r) < big then some (acc 0 (c :: r) : Int) else none := by unfold valO; rw [b0, if_neg hm]
      have hc : isD c = true := h c (by simp)
      have hp : c.toNat ≠ 43 := by intro e; unfold isD at hc; rw [e] at hc; cases hc
      have hU : Lib.parseUintB 64 (c :: r) = if acc 0 (c :: r) ≤ 18446744073709551615 then .ok (acc 0 (c :: r)) else .range := by
        unfold Lib.parseUintB; rw [if_neg hn, p64]; exact uintM (c :: r) h 0 (by omega)
      rw [hv]
      unfold big
      by_cases h1 : acc 0 (c :: r) ≤ 18446744073709551615
      · rw [if_pos h1] at hU
        unfold Lib.parseIntB
        simp only [hp, hm, or_self, hU, p63, not_false_eq_true, true_and, false_and, if_false]
        by_cases h2 : acc 0 (c :: r) < 9223372036854775808
        · rw [if_neg (show ¬ 9223372036854775808 ≤ acc 0 (c :: r) by omega), if_pos h2]
        · rw [if_pos (show 9223372036854775808 ≤ acc 0 (c :: r) by omega), if_neg h2]
      · rw [if_neg h1] at hU
        unfold Lib.parseIntB
        simp only [hp, hm, or_self, hU, if_false]
        rw [if_neg (show ¬ acc 0 (c :: r) < 9223372036854775808 by omega)]

theorem valO_bd {l : List UInt8} {v : Int} (h : valO l = some v) : -9223372036854775808 ≤ v ∧ v ≤ 9223372036854775807 := by
  unfold valO big at h
  split at h
  · split at h
    · have := Option.some.inj h; omega
    · cases h
  · split at h
    · have := Option.some.inj h; omega
    · cases h

/-- the whole part: a sign, then digits -/
theorem whole_digits (l : List UInt8) (h : whole l ≠ 0) : (l.take (whole l)).drop (sg (l.take (whole l))) ≠ [] ∧ (∀ c ∈ (l.take (whole l)).drop (sg (l.take (whole l))), isD c = true) ∧ sg (l.take (whole l)) = sg l ∧ sg l < whole l := by
  have hw : sg l < whole l ∧ whole l ≤ sg l + dn (l.drop (sg l)) := by
    unfold whole at *
    split
    · rename_i hz; rw [if_pos hz] at h; exact absurd rfl h
    · split <;> omega
  have hb : bt (l.take (whole l)) 0 = bt l 0 := by
    unfold bt; rw [List.getD_eq_getElem?_getD, List.getD_eq_getElem?_getD, List.getElem?_take, if_pos (by omega)]
  have hs : sg (l.take (whole l)) = sg l := by unfold sg; rw [hb]
  have hl := whole_le l
  rw [hs]
  refine ⟨?_, ?_, rfl, hw.1⟩
  · rw [ne_eq, List.drop_eq_nil_iff, List.length_take]; omega
  · intro c hc
    obtain ⟨k, hk⟩ := List.getElem?_of_mem hc
    rw [List.getElem?_drop, List.getElem?_take] at hk
    split at hk
    · rename_i hlt
      have h3 := dn_at (l := l.drop (sg l)) (k := k) (by omega)
      rw [List.getD_eq_getElem?_getD, List.getElem?_drop, hk] at h3
      exact h3
    · cases hk

/-- what Take answers: the number, its size, the error's number -/
def takeN (l : List UInt8) : Int × Nat × Nat :=
  if whole l = 0 then (0, 0, 1) else if whole l < every l then (0, 0, 4) else match valO (l.take (whole l)) with
    | some v => (v, whole l, 0)
    | none => (0, 0, 4)

/-! ### a number's text -/
theorem dec_isD (n : Nat) : ∀ c ∈ Lib.decDigits n, isD c = true := by
  induction n using Nat.strongRecOn with
  | ind n ih =>
    intro c hc
    rw [Lib.decDigits] at hc
    split at hc
    · rename_i h
      simp only [List.mem_cons, List.mem_nil_iff, or_false] at hc
      subst hc
      unfold isD; simp; omega
    · rename_i h
      rcases List.mem_append.1 hc with hc | hc
      · exact ih (n / 10) (by omega) c hc
      · simp only [List.mem_cons, List.mem_nil_iff, or_false] at hc
        subst hc
        unfold isD; simp; omega

theorem dec_small {u : Nat} (h : u < 10) : Lib.decDigits u = [UInt8.ofNat (48 + u)] := by rw [Lib.decDigits, dif_pos h]
theorem dec_big {u : Nat} (h : ¬ u < 10) : Lib.decDigits u = Lib.decDigits (u / 10) ++ [UInt8.ofNat (48 + u % 10)] := by rw [Lib.decDigits, dif_neg h]
theorem dig_val (d : Nat) (h : d < 10) : (UInt8.ofNat (48 + d)).toNat = 48 + d := by simp; omega
theorem acc_dec (u : Nat) : acc 0 (Lib.decDigits u) = u := by
  induction u using Nat.strongRecOn with
  | ind u ih =>
    by_cases h : u < 10
    · rw [dec_small h]; show 0 * 10 + ((UInt8.ofNat (48 + u)).toNat - 48) = u; rw [dig_val u h]; omega
    · rw [dec_big h, acc_snoc, ih (u / 10) (by omega), dig_val _ (by omega)]; omega
theorem dec_pos (u : Nat) : 1 ≤ (Lib.decDigits u).length := by
  by_cases h : u < 10
  · rw [dec_small h]; simp
  · rw [dec_big h]; simp
theorem dec_len : ∀ (k u : Nat), u < 10 ^ (k + 1) → (Lib.decDigits u).length ≤ k + 1
  | 0, u, h => by rw [dec_small (by simpa using h)]; simp
  | k + 1, u, h => by
    by_cases h1 : u < 10
    · rw [dec_small h1]; simp
    · rw [dec_big h1, List.length_append]
      have := dec_len k (u / 10) (by rw [Nat.pow_succ] at h; omega)
      simp; omega
theorem dec_head (u : Nat) (h : 0 < u) : bt (Lib.decDigits u) 0 ≠ 48 := by
  induction u using Nat.strongRecOn with
  | ind u ih =>
    by_cases h1 : u < 10
    · rw [dec_small h1]; show (UInt8.ofNat (48 + u)).toNat ≠ 48; rw [dig_val u h1]; omega
    · rw [dec_big h1]
      have hp := dec_pos (u / 10)
      have : bt (Lib.decDigits (u / 10) ++ [UInt8.ofNat (48 + u % 10)]) 0 = bt (Lib.decDigits (u / 10)) 0 := by
        unfold bt; rw [List.getD_eq_getElem?_getD, List.getD_eq_getElem?_getD, List.getElem?_append_left (by omega)]
      rw [this]; exact ih (u / 10) (by omega) (by omega)

/-- a text of digits, with its sign -/
def sgn (neg : Bool) (t : List UInt8) : List UInt8 := if neg then 45 :: t else t
theorem isD_val {c : UInt8} (h : isD c = true) : 48 ≤ c.toNat ∧ c.toNat ≤ 57 := by simpa [isD] using h
theorem bt_app {t u : List UInt8} {k : Nat} (h : k < t.length) : bt (t ++ u) k = bt t k := by
  unfold bt; rw [List.getD_eq_getElem?_getD, List.getD_eq_getElem?_getD, List.getElem?_append_left h]
theorem bt_app2 (t u : List UInt8) : bt (t ++ u) t.length = bt u 0 := by
  unfold bt; rw [List.getD_eq_getElem?_getD, List.getD_eq_getElem?_getD, List.getElem?_append_right (Nat.le_refl _), Nat.sub_self]
theorem bt_mem {t : List UInt8} {k : Nat} (hk : k < t.length) (h : ∀ c ∈ t, isD c = true) : 48 ≤ bt t k ∧ bt t k ≤ 57 := by
  unfold bt; rw [List.getD_eq_getElem?_getD, List.getElem?_eq_getElem hk]; exact isD_val (h _ (List.getElem_mem _))
theorem dn_app {t u : List UInt8} (h : ∀ c ∈ t, isD c = true) (hu : isD (u.getD 0 0) = false) : dn (t ++ u) = t.length := by
  apply dn_eq
  · intro k hk
    rw [List.getD_eq_getElem?_getD, List.getElem?_append_left hk, List.getElem?_eq_getElem hk]
    exact h _ (List.getElem_mem _)
  · rw [List.getD_eq_getElem?_getD, List.getElem?_append_right (Nat.le_refl _), Nat.sub_self, ← List.getD_eq_getElem?_getD]; exact hu

theorem sg_sgn (neg : Bool) (t u : List UInt8) (h : ∀ c ∈ t, isD c = true) (hn : t ≠ []) : sg (sgn neg t ++ u) = if neg then 1 else 0 := by
  have hp : 0 < t.length := List.length_pos_iff.2 hn
  cases neg with
  | true => rfl
  | false =>
    unfold sg sgn
    have := bt_mem hp h
    simp only [Bool.false_eq_true, if_false]
    rw [bt_app hp, if_neg (by omega)]
theorem drop_sgn (neg : Bool) (t u : List UInt8) : (sgn neg t ++ u).drop (if neg then 1 else 0) = t ++ u := by cases neg <;> rfl
theorem bt_sgn (neg : Bool) (t u : List UInt8) (k : Nat) : bt (sgn neg t ++ u) ((if neg then 1 else 0) + k) = bt (t ++ u) k := by
  cases neg with
  | true => show bt (45 :: (t ++ u)) (1 + k) = _; rw [Nat.add_comm]; rfl
  | false => simp [sgn]
theorem len_sgn (neg : Bool) (t : List UInt8) : (sgn neg t).length = (if neg then 1 else 0) + t.length := by
  cases neg
  · simp [sgn]
  · simp [sgn]; omega

/-- the text of a number ends where no digit, point or letter goes on -/
theorem text_whole (neg : Bool) (t u : List UInt8) (h : ∀ c ∈ t, isD c = true) (hn : t ≠ []) (h0 : bt t 0 = 48 → t.length = 1) (hu : isD (u.getD 0 0) = false) : whole (sgn neg t ++ u) = (sgn neg t).length := by
  have hp : 0 < t.length := List.length_pos_iff.2 hn
  unfold whole
  rw [sg_sgn neg t u h hn, drop_sgn, dn_app h hu, if_neg (by omega)]
  have hb := bt_sgn neg t u 0
  rw [Nat.add_zero] at hb
  rw [hb, bt_app hp, len_sgn]
  by_cases h1 : bt t 0 = 48
  · rw [if_pos h1, h0 h1]
  · rw [if_neg h1]
theorem text_every (neg : Bool) (t u : List UInt8) (h : ∀ c ∈ t, isD c = true) (hn : t ≠ []) (h0 : bt t 0 = 48 → t.length = 1) (hu : isD (u.getD 0 0) = false) (hx : bt u 0 ≠ 46 ∧ bt u 0 ≠ 101 ∧ bt u 0 ≠ 69) : every (sgn neg t ++ u) = (sgn neg t).length := by
  unfold every
  rw [text_whole neg t u h hn h0 hu]
  have hb := bt_app2 (sgn neg t) u
  have hf : frac (sgn neg t ++ u) (sgn neg t).length = (sgn neg t).length := by unfold frac; rw [hb, if_neg (by omega)]
  rw [hf]
  unfold expo; rw [hb, if_neg (by omega)]
/-- a nought ahead of digits makes no number's text -/
theorem text_nought (neg : Bool) (t : List UInt8) (h : ∀ c ∈ t, isD c = true) (h2 : 2 ≤ t.length) (h0 : bt t 0 = 48) : every (sgn neg t) = (if neg then 1 else 0) + 1 ∧ whole (sgn neg t) ≠ 0 := by
  have hn : t ≠ [] := by rintro rfl; simp at h2
  have e : sgn neg t = sgn neg t ++ [] := (List.append_nil _).symm
  have hb0 := bt_sgn neg t [] 0
  have hb1 := bt_sgn neg t [] 1
  rw [Nat.add_zero] at hb0
  have hw : whole (sgn neg t ++ []) = (if neg then 1 else 0) + 1 := by
    unfold whole
    rw [sg_sgn neg t [] h hn, drop_sgn, dn_app h rfl, if_neg (by omega), hb0, bt_app (by omega), if_pos h0]
  have h1 := bt_mem (k := 1) (t := t) (by omega) h
  rw [List.append_nil t] at hb1
  rw [e]
  refine ⟨?_, by rw [hw]; omega⟩
  unfold every
  rw [hw]
  have hf : frac (sgn neg t ++ []) ((if neg then 1 else 0) + 1) = (if neg then 1 else 0) + 1 := by unfold frac; rw [hb1, if_neg (by omega)]
  rw [hf]
  unfold expo; rw [hb1, if_neg (by omega)]
theorem text_val (neg : Bool) (t : List UInt8) (h : ∀ c ∈ t, isD c = true) (hn : t ≠ []) : valO (sgn neg t) = if neg then (if acc 0 t ≤ big then some (-(acc 0 t : Int)) else none) else if acc 0 t < big then some (acc 0 t : Int) else none := by
  have hp : 0 < t.length := List.length_pos_iff.2 hn
  cases neg with
  | true => rfl
  | false =>
    unfold valO sgn
    have := bt_mem hp h
    simp only [Bool.false_eq_true, if_false]
    rw [if_neg (by omega)]

/-! ### what Parse answers -/
def parseN (l : List UInt8) : Int × Nat := if whole l = 0 ∨ every l ≠ l.length then (0, 1) else ((takeN l).1, (takeN l).2.2)

theorem take_text (neg : Bool) (t u : List UInt8) (v : Int) (h : ∀ c ∈ t, isD c = true) (hn : t ≠ []) (h0 : bt t 0 = 48 → t.length = 1) (hu : isD (u.getD 0 0) = false) (hx : bt u 0 ≠ 46 ∧ bt u 0 ≠ 101 ∧ bt u 0 ≠ 69) (hv : valO (sgn neg t) = some v) : takeN (sgn neg t ++ u) = (v, (sgn neg t).length, 0) := by
  have hp : 0 < t.length := List.length_pos_iff.2 hn
  unfold takeN
  rw [text_whole neg t u h hn h0 hu, text_every neg t u h hn h0 hu hx, if_neg (by rw [len_sgn]; omega), if_neg (by omega), List.take_left, hv]
theorem parse_text (neg : Bool) (t : List UInt8) (v : Int) (h : ∀ c ∈ t, isD c = true) (hn : t ≠ []) (h0 : bt t 0 = 48 → t.length = 1) (hv : valO (sgn neg t) = some v) : parseN (sgn neg t) = (v, 0) := by
  have hp : 0 < t.length := List.length_pos_iff.2 hn
  have hb : bt [] 0 = 0 := rfl
  have e1 := text_whole neg t [] h hn h0 rfl
  have e2 := text_every neg t [] h hn h0 rfl (by rw [hb]; omega)
  have e3 := take_text neg t [] v h hn h0 rfl (by rw [hb]; omega) hv
  rw [List.append_nil] at e1 e2 e3
  unfold parseN
  rw [e1, e2, e3, if_neg (by rw [len_sgn]; omega)]
theorem parse_nought (neg : Bool) (t : List UInt8) (h : ∀ c ∈ t, isD c = true) (h2 : 2 ≤ t.length) (h0 : bt t 0 = 48) : parseN (sgn neg t) = (0, 1) := by
  obtain ⟨e, _⟩ := text_nought neg t h h2 h0
  unfold parseN
  rw [if_pos (Or.inr (by rw [e, len_sgn]; omega))]

theorem itoa_sgn (n : Int) : Lib.itoa n = sgn (decide (n < 0)) (Lib.decDigits n.natAbs) := by
  unfold Lib.itoa sgn
  by_cases h : n < 0
  · rw [if_pos h, decide_eq_true h, if_pos rfl]
  · rw [if_neg h, decide_eq_false h, if_neg (by simp), show n.toNat = n.natAbs by omega]
theorem itoa_val (n : Int) (h0 : -9223372036854775808 ≤ n) (h1 : n ≤ 9223372036854775807) : valO (sgn (decide (n < 0)) (Lib.decDigits n.natAbs)) = some n := by
  have hd := dec_pos n.natAbs
  rw [text_val _ _ (dec_isD _) (by rintro e; rw [e] at hd; simp at hd), acc_dec]
  unfold big
  by_cases h : n < 0
  · rw [decide_eq_true h, if_pos rfl, if_pos (by omega)]; congr 1; omega
  · rw [decide_eq_false h, if_neg (by simp), if_pos (by omega)]; congr 1; omega
theorem dec_zero (u : Nat) (h : bt (Lib.decDigits u) 0 = 48) : (Lib.decDigits u).length = 1 := by
  rcases Nat.eq_zero_or_pos u with rfl | hp
  · rw [dec_small (by omega)]; rfl
  · exact absurd h (dec_head u hp)
theorem dec_ne (u : Nat) : Lib.decDigits u ≠ [] := by
  have := dec_pos u
  intro e; rw [e] at this; simp at this
theorem itoa_len (n : Int) (h0 : -9223372036854775808 ≤ n) (h1 : n ≤ 9223372036854775807) : 1 ≤ (Lib.itoa n).length ∧ (Lib.itoa n).length ≤ 20 := by
  rw [itoa_sgn, len_sgn]
  have := dec_pos n.natAbs
  have h2 := dec_len 18 n.natAbs (by show _ < 10 ^ 19; have : (10 : Nat) ^ 19 = 10000000000000000000 := by decide
                                     omega)
  split <;> omega
/-- a number's text is read back, whatever stands behind that doesn't go on with it -/
theorem take_itoa (n : Int) (u : List UInt8) (h0 : -9223372036854775808 ≤ n) (h1 : n ≤ 9223372036854775807) (hu : isD (u.getD 0 0) = false) (hx : bt u 0 ≠ 46 ∧ bt u 0 ≠ 101 ∧ bt u 0 ≠ 69) : takeN (Lib.itoa n ++ u) = (n, (Lib.itoa n).length, 0) := by
  rw [itoa_sgn]
  exact take_text _ _ u n (dec_isD _) (dec_ne _) (dec_zero _) hu hx (itoa_val n h0 h1)
theorem parse_itoa (n : Int) (h0 : -9223372036854775808 ≤ n) (h1 : n ≤ 9223372036854775807) : parseN (Lib.itoa n) = (n, 0) := by
  rw [itoa_sgn]
  exact parse_text _ _ n (dec_isD _) (dec_ne _) (dec_zero _) (itoa_val n h0 h1)

/-- the digits that are still to be written -/
def decZ (m : Nat) : List UInt8 := if m = 0 then [] else Lib.decDigits m
theorem decZ_go (m : Nat) (h : 0 < m) : decZ m = decZ (m / 10) ++ [UInt8.ofNat (48 + m % 10)] := by
  unfold decZ
  rw [if_neg (by omega)]
  by_cases h1 : m < 10
  · rw [dec_small h1, if_pos (by omega), show m % 10 = m by omega]; rfl
  · rw [dec_big h1, if_neg (by omega)]

/-! ### Small -/
theorem dn_all (l : List UInt8) : dn l = l.length ↔ ∀ c ∈ l, isD c = true := by
  constructor
  · intro h c hc
    obtain ⟨k, hk⟩ := List.getElem?_of_mem hc
    have hlt := (List.getElem?_eq_some_iff.1 hk).1
    have := dn_at (l := l) (k := k) (by omega)
    rw [List.getD_eq_getElem?_getD, hk] at this; exact this
  · intro h
    have := dn_app (t := l) (u := []) h rfl
    rwa [List.append_nil] at this
theorem acc_lt (l : List UInt8) (h : ∀ c ∈ l, isD c = true) : acc 0 l < 10 ^ l.length := by
  have key : ∀ (l : List UInt8) (a : Nat), (∀ c ∈ l, isD c = true) → acc a l < (a + 1) * 10 ^ l.length := by
    intro l
    induction l with
    | nil => intro a _; show a < (a + 1) * 1; omega
    | cons c l ih =>
      intro a hl
      have hc := isD_val (hl c (by simp))
      have := ih (a * 10 + (c.toNat - 48)) (fun x hx => hl x (by simp [hx]))
      show acc (a * 10 + (c.toNat - 48)) l < _
      refine Nat.lt_of_lt_of_le this ?_
      rw [List.length_cons, Nat.pow_succ, Nat.mul_comm (10 ^ l.length) 10, ← Nat.mul_assoc]
      exact Nat.mul_le_mul_right _ (by omega)
  have := key l 0 h
  simpa using this

end Go.Proofs.YtjcaffpmcgfhaaaDoor.intsP
