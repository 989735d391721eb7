/-
  Plain: which number's text stands at a text's head, and what number it is.
  Contracts of ints.digits and ints.scan.
  Contracts of the reference's run and Scan.
  Contracts of ints.Take, ints.Parse and ints.Text.
-/
import Derived.Lib.ParseIntB
import Derived.Lib.ItoaNum
import Derived.Test.YtdbidkfjbhclcaaDoorChecked
import Derived.WalkKit
import Derived.ProofKit
import Derived.WalkLawsBesides
import Derived.Lib.Hide
import Derived.RowKit3
import Derived.WalkSpells
import Derived.Deep.DeepCutAuto
import Derived.Test.YtdbidkfjbhclcaaDoorQuoM
import Derived.Test.YtdbidkfjbhclcaaDoorShelf
import Derived.Lib.AtoiErrMem
import Derived.Lib.SmallJoins
import Derived.WalkSmall
namespace Go.Proofs.YtdbidkfjbhclcaaDoor.intsP

def isD (c : UInt8) : Bool := decide (48 ≤ c.toNat ∧ c.toNat ≤ 57)
def bt (l : List UInt8) (k : Nat) : Nat := (l.getD k 0).toNat
/-- how many digits stand at a text's head -/
def dn (l : List UInt8) : Nat := (l.takeWhile isD).length

theorem dn_nil : dn [] = 0 := rfl
theorem dn_cons (c : UInt8) (l : List UInt8) : dn (c :: l) = if isD c = true then dn l + 1 else 0 := by
  unfold dn; rw [List.takeWhile_cons]; split <;> simp_all
theorem dn_le (l : List UInt8) : dn l ≤ l.length := by
  induction l with
  | nil => exact Nat.le_refl _
  | cons c l ih => rw [dn_cons, List.length_cons]; split <;> omega
theorem dn_drop_le (l : List UInt8) (p : Nat) : dn (l.drop p) ≤ l.length - p := by
  have := dn_le (l.drop p); rwa [List.length_drop] at this
theorem dn_at {l : List UInt8} {k : Nat} (h : k < dn l) : isD (l.getD k 0) = true := by
  induction l generalizing k with
  | nil => simp [dn] at h
  | cons c l ih =>
    rw [dn_cons] at h
    by_cases hc : isD c = true
    · rw [if_pos hc] at h
      cases k with
      | zero => exact hc
      | succ k => exact ih (by omega)
    · rw [if_neg hc] at h; omega
theorem dn_end (l : List UInt8) : isD (l.getD (dn l) 0) = false := by
  induction l with
  | nil => rfl
  | cons c l ih =>
    rw [dn_cons]
    by_cases hc : isD c = true
    · rw [if_pos hc]; exact ih
    · rw [if_neg hc]; simpa using hc
/-- the digits end where a byte is none -/
theorem dn_eq (l : List UInt8) (n : Nat) (h1 : ∀ k, k < n → isD (l.getD k 0) = true) (h2 : isD (l.getD n 0) = false) : dn l = n := by
  rcases Nat.lt_trichotomy (dn l) n with h | h | h
  · have := h1 _ h; rw [dn_end] at this; cases this
  · exact h
  · have := dn_at h; rw [h2] at this; cases this

def sg (l : List UInt8) : Nat := if bt l 0 = 45 then 1 else 0
/-- how many bytes the whole part has; 0: there is none -/
def whole (l : List UInt8) : Nat := if dn (l.drop (sg l)) = 0 then 0 else sg l + (if bt l (sg l) = 48 then 1 else dn (l.drop (sg l)))
def frac (l : List UInt8) (p : Nat) : Nat := if bt l p = 46 ∧ dn (l.drop (p + 1)) ≠ 0 then p + 1 + dn (l.drop (p + 1)) else p
def sig (l : List UInt8) (p : Nat) : Nat := if bt l p = 43 ∨ bt l p = 45 then 1 else 0
def expo (l : List UInt8) (p : Nat) : Nat := if (bt l p = 101 ∨ bt l p = 69) ∧ dn (l.drop (p + 1 + sig l (p + 1))) ≠ 0 then p + 1 + sig l (p + 1) + dn (l.drop (p + 1 + sig l (p + 1))) else p
/-- how many bytes all has -/
def every (l : List UInt8) : Nat := expo l (frac l (whole l))

theorem bt_lt {l : List UInt8} {k : Nat} (h : bt l k ≠ 0) : k < l.length := by
  rcases Nat.lt_or_ge k l.length with h' | h'
  · exact h'
  · exfalso; apply h; unfold bt; rw [List.getD_eq_getElem?_getD, List.getElem?_eq_none h']; rfl
theorem sg_le (l : List UInt8) : sg l ≤ 1 := by unfold sg; split <;> omega
theorem whole_le (l : List UInt8) : whole l ≤ l.length := by
  unfold whole
  have h := dn_drop_le l (sg l)
  split
  · omega
  · split <;> omega
theorem frac_ge (l : List UInt8) (p : Nat) : p ≤ frac l p := by unfold frac; split <;> omega
theorem expo_ge (l : List UInt8) (p : Nat) : p ≤ expo l p := by unfold expo; split <;> omega
theorem frac_le (l : List UInt8) (p : Nat) (h : p ≤ l.length) : frac l p ≤ l.length := by
  unfold frac
  have := dn_drop_le l (p + 1)
  split <;> omega
theorem expo_le (l : List UInt8) (p : Nat) (h : p ≤ l.length) : expo l p ≤ l.length := by
  unfold expo
  have := dn_drop_le l (p + 1 + sig l (p + 1))
  split <;> omega
theorem every_ge (l : List UInt8) : whole l ≤ every l := Nat.le_trans (frac_ge l _) (expo_ge l _)
theorem every_le (l : List UInt8) : every l ≤ l.length := expo_le l _ (frac_le l _ (whole_le l))

/-! ### what number -/
def acc : Nat → List UInt8 → Nat
  | a, [] => a
  | a, c :: r => acc (a * 10 + (c.toNat - 48)) r
theorem acc_snoc (a : Nat) (l : List UInt8) (c : UInt8) : acc a (l ++ [c]) = acc a l * 10 + (c.toNat - 48) := by
  induction l generalizing a with
  | nil => rfl
  | cons b l ih => exact ih _
theorem acc_ge (a : Nat) (l : List UInt8) : a ≤ acc a l := by
  induction l generalizing a with
  | nil => exact Nat.le_refl _
  | cons b l ih => exact Nat.le_trans (by omega) (ih _)

def big : Nat := 9223372036854775808
/-- the number of a whole number's text; none: it doesn't fit -/
def valO (l : List UInt8) : Option Int :=
  if bt l 0 = 45 then (if acc 0 l.tail ≤ big then some (-(acc 0 l.tail : Int)) else none) else if acc 0 l < big then some (acc 0 l : Int) else none

theorem uintM (l : List UInt8) (h : ∀ c ∈ l, isD c = true) : ∀ a, a ≤ 18446744073709551615 → Lib.parseUintM 18446744073709551615 a l = if acc a l ≤ 18446744073709551615 then .ok (acc a l) else .range := by
  induction l with
  | nil => intro a ha; rw [Lib.parseUintM]; show _ = if a ≤ _ then _ else _; rw [if_pos ha]; rfl
  | cons c l ih =>
    intro a ha
    have hc : 48 ≤ c.toNat ∧ c.toNat ≤ 57 := by have := h c (by simp); simpa [isD] using this
    have hg := acc_ge (a * 10 + (c.toNat - 48)) l
    rw [Lib.parseUintM, if_pos hc]
    show _ = if acc (a * 10 + (c.toNat - 48)) l ≤ _ then Lib.NumEnd.ok (acc (a * 10 + (c.toNat - 48)) l) else _
    by_cases h1 : 1844674407370955162 ≤ a
    · rw [if_pos h1, if_neg (by omega)]
    rw [if_neg h1]
    by_cases h2 : 18446744073709551615 < a * 10 + (c.toNat - 48)
    · rw [if_pos h2, if_neg (by omega)]
    rw [if_neg h2, ih (fun x hx => h x (by simp [hx])) _ (by omega)]

/-- Go's own reading of such a text -/
theorem parse_val (l : List UInt8) (hn : l.drop (sg l) ≠ []) (h : ∀ c ∈ l.drop (sg l), isD c = true) :
    Lib.parseIntB 64 l = match valO l with | some v => .ok v | none => .range := by
  cases l with
  | nil => simp at hn
  | cons c r =>
    have p64 : 2 ^ 64 - 1 = 18446744073709551615 := by decide
    have p63 : 2 ^ (64 - 1) = 9223372036854775808 := by decide
    have b0 : bt (c :: r) 0 = c.toNat := rfl
    unfold sg at hn h
    rw [b0] at hn h
    by_cases hm : c.toNat = 45
    · have hv : valO (c :: r) = if acc 0 r ≤ big then some (-(acc 0 r : Int)) else none := by unfold valO; rw [b0, if_pos hm]; rfl
      rw [hv]
      unfold Lib.parseIntB Lib.parseUintB
      simp only [p64, p63]
      rw [if_pos hm] at hn h
      rw [List.drop_succ_cons, List.drop_zero] at hn h
      rw [if_pos (Or.inr hm), if_neg hn, uintM r h 0 (by omega)]
      unfold big
      by_cases h1 : acc 0 r ≤ 18446744073709551615
      · rw [if_pos h1]
        simp only [hm, not_true, false_and, if_false, true_and, if_true]
        by_cases h2 : acc 0 r ≤ 9223372036854775808
        · rw [if_neg (by omega), if_pos h2]
        · rw [if_pos (by omega), if_neg h2]
      · rw [if_neg h1, if_neg (by omega)]
    · rw [if_neg hm, List.drop_zero] at hn h
      have hv : valO (c :: r) = if acc 0 (c :: r) < big then some (acc 0 (c :: r) : Int) else none := by unfold valO; rw [b0, if_neg hm]
      have hc : isD c = true := h c (by simp)
      have hp : c.toNat ≠ 43 := by intro e; unfold isD at hc; rw [e] at hc; cases hc
      have hU : Lib.parseUintB 64 (c :: r) = if acc 0 (c :: r) ≤ 18446744073709551615 then .ok (acc 0 (c :: r)) else .range := by
        unfold Lib.parseUintB; rw [if_neg hn, p64]; exact uintM (c :: r) h 0 (by omega)
      rw [hv]
      unfold big
      by_cases h1 : acc 0 (c :: r) ≤ 18446744073709551615
      · rw [if_pos h1] at hU
        unfold Lib.parseIntB
        simp only [hp, hm, or_self, hU, p63, not_false_eq_true, true_and, false_and, if_false]
        by_cases h2 : acc 0 (c :: r) < 9223372036854775808
        · rw [if_neg (show ¬ 9223372036854775808 ≤ acc 0 (c :: r) by omega), if_pos h2]
        · rw [if_pos (show 9223372036854775808 ≤ acc 0 (c :: r) by omega), if_neg h2]
      · rw [if_neg h1] at hU
        unfold Lib.parseIntB
        simp only [hp, hm, or_self, hU, if_false]
        rw [if_neg (show ¬ acc 0 (c :: r) < 9223372036854775808 by omega)]

theorem valO_bd {l : List UInt8} {v : Int} (h : valO l = some v) : -9223372036854775808 ≤ v ∧ v ≤ 9223372036854775807 := by
  unfold valO big at h
  split at h
  · split at h
    · have := Option.some.inj h; omega
    · cases h
  · split at h
    · have := Option.some.inj h; omega
    · cases h

/-- the whole part: a sign, then digits -/
theorem whole_digits (l : List UInt8) (h : whole l ≠ 0) : (l.take (whole l)).drop (sg (l.take (whole l))) ≠ [] ∧ (∀ c ∈ (l.take (whole l)).drop (sg (l.take (whole l))), isD c = true) ∧ sg (l.take (whole l)) = sg l ∧ sg l < whole l := by
  have hw : sg l < whole l ∧ whole l ≤ sg l + dn (l.drop (sg l)) := by
    unfold whole at *
    split
    · rename_i hz; rw [if_pos hz] at h; exact absurd rfl h
    · split <;> omega
  have hb : bt (l.take (whole l)) 0 = bt l 0 := by
    unfold bt; rw [List.getD_eq_getElem?_getD, List.getD_eq_getElem?_getD, List.getElem?_take, if_pos (by omega)]
  have hs : sg (l.take (whole l)) = sg l := by unfold sg; rw [hb]
  have hl := whole_le l
  rw [hs]
  refine ⟨?_, ?_, rfl, hw.1⟩
  · rw [ne_eq, List.drop_eq_nil_iff, List.length_take]; omega
  · intro c hc
    obtain ⟨k, hk⟩ := List.getElem?_of_mem hc
    rw [List.getElem?_drop, List.getElem?_take] at hk
    split at hk
    · rename_i hlt
      have h3 := dn_at (l := l.drop (sg l)) (k := k) (by omega)
      rw [List.getD_eq_getElem?_getD, List.getElem?_drop, hk] at h3
      exact h3
    · cases hk

/-- what Take answers: the number, its size, the error's number -/
def takeN (l : List UInt8) : Int × Nat × Nat :=
  if whole l = 0 then (0, 0, 1) else if whole l < every l then (0, 0, 4) else match valO (l.take (whole l)) with
    | some v => (v, whole l, 0)
    | none => (0, 0, 4)

/-! ### a number's text -/
theorem dec_isD (n : Nat) : ∀ c ∈ Lib.decDigits n, isD c = true := by
  induction n using Nat.strongRecOn with
  | ind n ih =>
    intro c hc
    rw [Lib.decDigits] at hc
    split at hc
    · rename_i h
      simp only [List.mem_cons, List.mem_nil_iff, or_false] at hc
      subst hc
      unfold isD; simp; omega
    · rename_i h
      rcases List.mem_append.1 hc with hc | hc
      · exact ih (n / 10) (by omega) c hc
      · simp only [List.mem_cons, List.mem_nil_iff, or_false] at hc
        subst hc
        unfold isD; simp; omega

theorem dec_small {u : Nat} (h : u < 10) : Lib.decDigits u = [UInt8.ofNat (48 + u)] := by rw [Lib.decDigits, dif_pos h]
theorem dec_big {u : Nat} (h : ¬ u < 10) : Lib.decDigits u = Lib.decDigits (u / 10) ++ [UInt8.ofNat (48 + u % 10)] := by rw [Lib.decDigits, dif_neg h]
theorem dig_val (d : Nat) (h : d < 10) : (UInt8.ofNat (48 + d)).toNat = 48 + d := by simp; omega
theorem acc_dec (u : Nat) : acc 0 (Lib.decDigits u) = u := by
  induction u using Nat.strongRecOn with
  | ind u ih =>
    by_cases h : u < 10
    · rw [dec_small h]; show 0 * 10 + ((UInt8.ofNat (48 + u)).toNat - 48) = u; rw [dig_val u h]; omega
    · rw [dec_big h, acc_snoc, ih (u / 10) (by omega), dig_val _ (by omega)]; omega
theorem dec_pos (u : Nat) : 1 ≤ (Lib.decDigits u).length := by
  by_cases h : u < 10
  · rw [dec_small h]; simp
  · rw [dec_big h]; simp
theorem dec_len : ∀ (k u : Nat), u < 10 ^ (k + 1) → (Lib.decDigits u).length ≤ k + 1
  | 0, u, h => by rw [dec_small (by simpa using h)]; simp
  | k + 1, u, h => by
    by_cases h1 : u < 10
    · rw [dec_small h1]; simp
    · rw [dec_big h1, List.length_append]
      have := dec_len k (u / 10) (by rw [Nat.pow_succ] at h; omega)
      simp; omega
theorem dec_head (u : Nat) (h : 0 < u) : bt (Lib.decDigits u) 0 ≠ 48 := by
  induction u using Nat.strongRecOn with
  | ind u ih =>
    by_cases h1 : u < 10
    · rw [dec_small h1]; show (UInt8.ofNat (48 + u)).toNat ≠ 48; rw [dig_val u h1]; omega
    · rw [dec_big h1]
      have hp := dec_pos (u / 10)
      have : bt (Lib.decDigits (u / 10) ++ [UInt8.ofNat (48 + u % 10)]) 0 = bt (Lib.decDigits (u / 10)) 0 := by
        unfold bt; rw [List.getD_eq_getElem?_getD, List.getD_eq_getElem?_getD, List.getElem?_append_left (by omega)]
      rw [this]; exact ih (u / 10) (by omega) (by omega)

/-- a text of digits, with its sign -/
def sgn (neg : Bool) (t : List UInt8) : List UInt8 := if neg then 45 :: t else t
theorem isD_val {c : UInt8} (h : isD c = true) : 48 ≤ c.toNat ∧ c.toNat ≤ 57 := by simpa [isD] using h
theorem bt_app {t u : List UInt8} {k : Nat} (h : k < t.length) : bt (t ++ u) k = bt t k := by
  unfold bt; rw [List.getD_eq_getElem?_getD, List.getD_eq_getElem?_getD, List.getElem?_append_left h]
theorem bt_app2 (t u : List UInt8) : bt (t ++ u) t.length = bt u 0 := by
  unfold bt; rw [List.getD_eq_getElem?_getD, List.getD_eq_getElem?_getD, List.getElem?_append_right (Nat.le_refl _), Nat.sub_self]
theorem bt_mem {t : List UInt8} {k : Nat} (hk : k < t.length) (h : ∀ c ∈ t, isD c = true) : 48 ≤ bt t k ∧ bt t k ≤ 57 := by
  unfold bt; rw [List.getD_eq_getElem?_getD, List.getElem?_eq_getElem hk]; exact isD_val (h _ (List.getElem_mem _))
theorem dn_app {t u : List UInt8} (h : ∀ c ∈ t, isD c = true) (hu : isD (u.getD 0 0) = false) : dn (t ++ u) = t.length := by
  apply dn_eq
  · intro k hk
    rw [List.getD_eq_getElem?_getD, List.getElem?_append_left hk, List.getElem?_eq_getElem hk]
    exact h _ (List.getElem_mem _)
  · rw [List.getD_eq_getElem?_getD, List.getElem?_append_right (Nat.le_refl _), Nat.sub_self, ← List.getD_eq_getElem?_getD]; exact hu

theorem sg_sgn (neg : Bool) (t u : List UInt8) (h : ∀ c ∈ t, isD c = true) (hn : t ≠ []) : sg (sgn neg t ++ u) = if neg then 1 else 0 := by
  have hp : 0 < t.length := List.length_pos_iff.2 hn
  cases neg with
  | true => rfl
  | false =>
    unfold sg sgn
    have := bt_mem hp h
    simp only [Bool.false_eq_true, if_false]
    rw [bt_app hp, if_neg (by omega)]
theorem drop_sgn (neg : Bool) (t u : List UInt8) : (sgn neg t ++ u).drop (if neg then 1 else 0) = t ++ u := by cases neg <;> rfl
theorem bt_sgn (neg : Bool) (t u : List UInt8) (k : Nat) : bt (sgn neg t ++ u) ((if neg then 1 else 0) + k) = bt (t ++ u) k := by
  cases neg with
  | true => show bt (45 :: (t ++ u)) (1 + k) = _; rw [Nat.add_comm]; rfl
  | false => simp [sgn]
theorem len_sgn (neg : Bool) (t : List UInt8) : (sgn neg t).length = (if neg then 1 else 0) + t.length := by
  cases neg
  · simp [sgn]
  · simp [sgn]; omega

/-- the text of a number ends where no digit, point or letter goes on -/
theorem text_whole (neg : Bool) (t u : List UInt8) (h : ∀ c ∈ t, isD c = true) (hn : t ≠ []) (h0 : bt t 0 = 48 → t.length = 1) (hu : isD (u.getD 0 0) = false) : whole (sgn neg t ++ u) = (sgn neg t).length := by
  have hp : 0 < t.length := List.length_pos_iff.2 hn
  unfold whole
  rw [sg_sgn neg t u h hn, drop_sgn, dn_app h hu, if_neg (by omega)]
  have hb := bt_sgn neg t u 0
  rw [Nat.add_zero] at hb
  rw [hb, bt_app hp, len_sgn]
  by_cases h1 : bt t 0 = 48
  · rw [if_pos h1, h0 h1]
  · rw [if_neg h1]
theorem text_every (neg : Bool) (t u : List UInt8) (h : ∀ c ∈ t, isD c = true) (hn : t ≠ []) (h0 : bt t 0 = 48 → t.length = 1) (hu : isD (u.getD 0 0) = false) (hx : bt u 0 ≠ 46 ∧ bt u 0 ≠ 101 ∧ bt u 0 ≠ 69) : every (sgn neg t ++ u) = (sgn neg t).length := by
  unfold every
  rw [text_whole neg t u h hn h0 hu]
  have hb := bt_app2 (sgn neg t) u
  have hf : frac (sgn neg t ++ u) (sgn neg t).length = (sgn neg t).length := by unfold frac; rw [hb, if_neg (by omega)]
  rw [hf]
  unfold expo; rw [hb, if_neg (by omega)]
/-- a nought ahead of digits makes no number's text -/
theorem text_nought (neg : Bool) (t : List UInt8) (h : ∀ c ∈ t, isD c = true) (h2 : 2 ≤ t.length) (h0 : bt t 0 = 48) : every (sgn neg t) = (if neg then 1 else 0) + 1 ∧ whole (sgn neg t) ≠ 0 := by
  have hn : t ≠ [] := by rintro rfl; simp at h2
  have e : sgn neg t = sgn neg t ++ [] := (List.append_nil _).symm
  have hb0 := bt_sgn neg t [] 0
  have hb1 := bt_sgn neg t [] 1
  rw [Nat.add_zero] at hb0
  have hw : whole (sgn neg t ++ []) = (if neg then 1 else 0) + 1 := by
    unfold whole
    rw [sg_sgn neg t [] h hn, drop_sgn, dn_app h rfl, if_neg (by omega), hb0, bt_app (by omega), if_pos h0]
  have h1 := bt_mem (k := 1) (t := t) (by omega) h
  rw [List.append_nil t] at hb1
  rw [e]
  refine ⟨?_, by rw [hw]; omega⟩
  unfold every
  rw [hw]
  have hf : frac (sgn neg t ++ []) ((if neg then 1 else 0) + 1) = (if neg then 1 else 0) + 1 := by unfold frac; rw [hb1, if_neg (by omega)]
  rw [hf]
  unfold expo; rw [hb1, if_neg (by omega)]
theorem text_val (neg : Bool) (t : List UInt8) (h : ∀ c ∈ t, isD c = true) (hn : t ≠ []) : valO (sgn neg t) = if neg then (if acc 0 t ≤ big then some (-(acc 0 t : Int)) else none) else if acc 0 t < big then some (acc 0 t : Int) else none := by
  have hp : 0 < t.length := List.length_pos_iff.2 hn
  cases neg with
  | true => rfl
  | false =>
    unfold valO sgn
    have := bt_mem hp h
    simp only [Bool.false_eq_true, if_false]
    rw [if_neg (by omega)]

/-! ### what Parse answers -/
def parseN (l : List UInt8) : Int × Nat := if whole l = 0 ∨ every l ≠ l.length then (0, 1) else ((takeN l).1, (takeN l).2.2)

theorem take_text (neg : Bool) (t u : List UInt8) (v : Int) (h : ∀ c ∈ t, isD c = true) (hn : t ≠ []) (h0 : bt t 0 = 48 → t.length = 1) (hu : isD (u.getD 0 0) = false) (hx : bt u 0 ≠ 46 ∧ bt u 0 ≠ 101 ∧ bt u 0 ≠ 69) (hv : valO (sgn neg t) = some v) : takeN (sgn neg t ++ u) = (v, (sgn neg t).length, 0) := by
  have hp : 0 < t.length := List.length_pos_iff.2 hn
  unfold takeN
  rw [text_whole neg t u h hn h0 hu, text_every neg t u h hn h0 hu hx, if_neg (by rw [len_sgn]; omega), if_neg (by omega), List.take_left, hv]
theorem parse_text (neg : Bool) (t : List UInt8) (v : Int) (h : ∀ c ∈ t, isD c = true) (hn : t ≠ []) (h0 : bt t 0 = 48 → t.length = 1) (hv : valO (sgn neg t) = some v) : parseN (sgn neg t) = (v, 0) := by
  have hp : 0 < t.length := List.length_pos_iff.2 hn
  have hb : bt [] 0 = 0 := rfl
  have e1 := text_whole neg t [] h hn h0 rfl
  have e2 := text_every neg t [] h hn h0 rfl (by rw [hb]; omega)
  have e3 := take_text neg t [] v h hn h0 rfl (by rw [hb]; omega) hv
  rw [List.append_nil] at e1 e2 e3
  unfold parseN
  rw [e1, e2, e3, if_neg (by rw [len_sgn]; omega)]
theorem parse_nought (neg : Bool) (t : List UInt8) (h : ∀ c ∈ t, isD c = true) (h2 : 2 ≤ t.length) (h0 : bt t 0 = 48) : parseN (sgn neg t) = (0, 1) := by
  obtain ⟨e, _⟩ := text_nought neg t h h2 h0
  unfold parseN
  rw [if_pos (Or.inr (by rw [e, len_sgn]; omega))]

theorem itoa_sgn (n : Int) : Lib.itoa n = sgn (decide (n < 0)) (Lib.decDigits n.natAbs) := by
  unfold Lib.itoa sgn
  by_cases h : n < 0
  · rw [if_pos h, decide_eq_true h, if_pos rfl]
  · rw [if_neg h, decide_eq_false h, if_neg (by simp), show n.toNat = n.natAbs by omega]
theorem itoa_val (n : Int) (h0 : -9223372036854775808 ≤ n) (h1 : n ≤ 9223372036854775807) : valO (sgn (decide (n < 0)) (Lib.decDigits n.natAbs)) = some n := by
  have hd := dec_pos n.natAbs
  rw [text_val _ _ (dec_isD _) (by rintro e; rw [e] at hd; simp at hd), acc_dec]
  unfold big
  by_cases h : n < 0
  · rw [decide_eq_true h, if_pos rfl, if_pos (by omega)]; congr 1; omega
  · rw [decide_eq_false h, if_neg (by simp), if_pos (by omega)]; congr 1; omega
theorem dec_zero (u : Nat) (h : bt (Lib.decDigits u) 0 = 48) : (Lib.decDigits u).length = 1 := by
  rcases Nat.eq_zero_or_pos u with rfl | hp
  · rw [dec_small (by omega)]; rfl
  · exact absurd h (dec_head u hp)
theorem dec_ne (u : Nat) : Lib.decDigits u ≠ [] := by
  have := dec_pos u
  intro e; rw [e] at this; simp at this
theorem itoa_len (n : Int) (h0 : -9223372036854775808 ≤ n) (h1 : n ≤ 9223372036854775807) : 1 ≤ (Lib.itoa n).length ∧ (Lib.itoa n).length ≤ 20 := by
  rw [itoa_sgn, len_sgn]
  have := dec_pos n.natAbs
  have h2 := dec_len 18 n.natAbs (by show _ < 10 ^ 19; have : (10 : Nat) ^ 19 = 10000000000000000000 := by decide
                                     omega)
  split <;> omega
/-- a number's text is read back, whatever stands behind that doesn't go on with it -/
theorem take_itoa (n : Int) (u : List UInt8) (h0 : -9223372036854775808 ≤ n) (h1 : n ≤ 9223372036854775807) (hu : isD (u.getD 0 0) = false) (hx : bt u 0 ≠ 46 ∧ bt u 0 ≠ 101 ∧ bt u 0 ≠ 69) : takeN (Lib.itoa n ++ u) = (n, (Lib.itoa n).length, 0) := by
  rw [itoa_sgn]
  exact take_text _ _ u n (dec_isD _) (dec_ne _) (dec_zero _) hu hx (itoa_val n h0 h1)
theorem parse_itoa (n : Int) (h0 : -9223372036854775808 ≤ n) (h1 : n ≤ 9223372036854775807) : parseN (Lib.itoa n) = (n, 0) := by
  rw [itoa_sgn]
  exact parse_text _ _ n (dec_isD _) (dec_ne _) (dec_zero _) (itoa_val n h0 h1)

/-- the digits that are still to be written -/
def decZ (m : Nat) : List UInt8 := if m = 0 then [] else Lib.decDigits m
theorem decZ_go (m : Nat) (h : 0 < m) : decZ m = decZ (m / 10) ++ [UInt8.ofNat (48 + m % 10)] := by
  unfold decZ
  rw [if_neg (by omega)]
  by_cases h1 : m < 10
  · rw [dec_small h1, if_pos (by omega), show m % 10 = m by omega]; rfl
  · rw [dec_big h1, if_neg (by omega)]

/-! ### Small -/
theorem dn_all (l : List UInt8) : dn l = l.length ↔ ∀ c ∈ l, isD c = true := by
  constructor
  · intro h c hc
    obtain ⟨k, hk⟩ := List.getElem?_of_mem hc
    have hlt := (List.getElem?_eq_some_iff.1 hk).1
    have := dn_at (l := l) (k := k) (by omega)
    rw [List.getD_eq_getElem?_getD, hk] at this; exact this
  · intro h
    have := dn_app (t := l) (u := []) h rfl
    rwa [List.append_nil] at this
theorem acc_lt (l : List UInt8) (h : ∀ c ∈ l, isD c = true) : acc 0 l < 10 ^ l.length := by
  have key : ∀ (l : List UInt8) (a : Nat), (∀ c ∈ l, isD c = true) → acc a l < (a + 1) * 10 ^ l.length := by
    intro l
    induction l with
    | nil => intro a _; show a < (a + 1) * 1; omega
    | cons c l ih =>
      intro a hl
      have hc := isD_val (hl c (by simp))
      have := ih (a * 10 + (c.toNat - 48)) (fun x hx => hl x (by simp [hx]))
      show acc (a * 10 + (c.toNat - 48)) l < _
      refine Nat.lt_of_lt_of_le this ?_
      rw [List.length_cons, Nat.pow_succ, Nat.mul_comm (10 ^ l.length) 10, ← Nat.mul_assoc]
      exact Nat.mul_le_mul_right _ (by omega)
  have := key l 0 h
  simpa using this

end Go.Proofs.YtdbidkfjbhclcaaDoor.intsP
namespace Go.Proofs.YtdbidkfjbhclcaaDoor.intsA
open Go.ChangeShapes Go.WideShapes Go.ChangeAt Go.RowKit intsP

theorem ret_int {k : IntKind} {a b : Int} (h : a = b) : Ending.returned (.int k a) = .returned (.int k b) := by rw [h]
theorem bget (s : ByteArray) (i : Nat) (h : i < s.size) : s.data.toList.getD i 0 = s[i] := by
  rw [List.getD_eq_getElem?_getD, List.getElem?_eq_getElem (by simpa using h)]; rfl
theorem dn_no (s : ByteArray) (k : Nat) (h : ¬ k < s.size) : dn (s.data.toList.drop k) = 0 := by
  rw [List.drop_eq_nil_of_le (by simp; omega)]; rfl
theorem dn_step (s : ByteArray) (k : Nat) (h : k < s.size) : dn (s.data.toList.drop k) = if isD s[k] = true then dn (s.data.toList.drop (k + 1)) + 1 else 0 := by
  have hl : k < s.data.toList.length := by simpa using h
  rw [List.drop_eq_getElem_cons hl, dn_cons]; rfl
theorem isD_yes {c : UInt8} (h1 : 48 ≤ c.toNat) (h2 : c.toNat ≤ 57) : isD c = true := by simp [isD, h1, h2]
theorem isD_no {c : UInt8} (h : ¬ (48 ≤ c.toNat ∧ c.toNat ≤ 57)) : isD c = false := by simp [isD]; omega

theorem digits_at (s : ByteArray) (p : Nat) (w : World) (hs : s.size ≤ 1000000) (hp : p ≤ s.size) :
    Calls Tryd.prog 68 #[.string s, .int .i64 p] w fun e w' => e = .returned (.int .i64 ((p : Int) + (dn (s.data.toList.drop p) : Int))) ∧ w = w' := by
  go_enter Tryd.func68, Tryd.ntmps68
  go_wp2
  go_loop [1] (fun i => ∃ k : Nat, p ≤ k ∧ k ≤ s.size ∧ i = .int .i64 k ∧ Hid (dn (s.data.toList.drop p) = (k - p) + dn (s.data.toList.drop k))) (fun i => s.size - (intOf i).toNat)
  case atStart => exact ⟨p, Nat.le_refl _, hp, rfl, Lib.hid (by omega)⟩
  case round =>
    obtain ⟨k, hpk, hk, rfl, hd⟩ := hrel
    by_cases hlt : k < s.size
    · have hst := Lib.hid (dn_step s k hlt)
      by_cases h1 : 48 ≤ s[k].toNat
      · by_cases h2 : s[k].toNat ≤ 57
        · have hN : Hid (dn (s.data.toList.drop p) = (k + 1 - p) + dn (s.data.toList.drop (k + 1))) := Lib.hid (by
            have := hst.out; rw [if_pos (isD_yes h1 h2)] at this; rw [hd.out]; omega)
          have g1 : (48 : Int) ≤ s[k].toNat := by omega
          have g2 : (s[k].toNat : Int) ≤ 57 := by omega
          clear hd hst
          go_wp2
          go_round
          case rel => exact ⟨k + 1, by omega, by omega, by go_num, hN⟩
          case measure => simp [intOf]; omega
        · have hN : Hid (dn (s.data.toList.drop p) = k - p) := Lib.hid (by
            have := hst.out; rw [if_neg (by rw [isD_no (by omega)]; simp)] at this; rw [hd.out, this]; rfl)
          have g1 : (48 : Int) ≤ s[k].toNat := by omega
          have g2 : ¬ (s[k].toNat : Int) ≤ 57 := by omega
          clear hd hst
          go_wp2
          go_ret
          exact ⟨ret_int (by rw [hN.out]; omega), rfl⟩
      · have hN : Hid (dn (s.data.toList.drop p) = k - p) := Lib.hid (by
          have := hst.out; rw [if_neg (by rw [isD_no (by omega)]; simp)] at this; rw [hd.out, this]; rfl)
        have g1 : ¬ (48 : Int) ≤ s[k].toNat := by omega
        clear hd hst
        go_wp2
        go_ret
        exact ⟨ret_int (by rw [hN.out]; omega), rfl⟩
    · have hN : Hid (dn (s.data.toList.drop p) = k - p) := Lib.hid (by rw [hd.out, dn_no s k hlt]; rfl)
      clear hd
      go_wp2
      go_ret
      exact ⟨ret_int (by rw [hN.out]; omega), rfl⟩
theorem digitsI (s : ByteArray) (p : Nat) (z : Int) (w : World) (hs : s.size ≤ 1000000) (hz : z = (p : Int)) (hp : p ≤ s.size) :
    Calls Tryd.prog 68 #[.string s, .int .i64 z] w fun e w' => e = .returned (.int .i64 ((p : Int) + (dn (s.data.toList.drop p) : Int))) ∧ w = w' := by
  subst hz; exact digits_at s p w hs hp

def scV (p : Nat) (l : List UInt8) : Value := if whole l = 0 then .tuple #[.int .i64 0, .bool false, .bool false] else .tuple #[.int .i64 ((p : Int) + (every l : Int)), .bool (decide (every l = whole l)), .bool true]

theorem scan_no (s : ByteArray) (p : Int) (w : World) (h : p < 0 ∨ (s.size : Int) ≤ p) :
    Calls Tryd.prog 60 #[.string s, .int .i64 p] w fun e w' => e = .returned (.tuple #[.int .i64 0, .bool false, .bool false]) ∧ w = w' := by
  by_cases h1 : p < 0
  · clear h
    go_enter Tryd.func60, Tryd.ntmps60
    go_wp2
    go_ret3
    exact ⟨rfl, rfl⟩
  · have h2 : (s.size : Int) ≤ p := by omega
    clear h
    go_enter Tryd.func60, Tryd.ntmps60
    go_wp2
    go_ret3
    exact ⟨rfl, rfl⟩

theorem bt_in (s : ByteArray) (p k : Nat) (h : p + k < s.size) : bt (s.data.toList.drop p) k = s[p + k].toNat := by
  unfold bt
  have : (s.data.toList.drop p).getD k 0 = s.data.toList.getD (p + k) 0 := by simp [List.getD]
  rw [this, bget s _ h]
theorem bt_out (s : ByteArray) (p k : Nat) (h : ¬ p + k < s.size) : bt (s.data.toList.drop p) k = 0 := by
  unfold bt
  have : (s.data.toList.drop p).getD k 0 = s.data.toList.getD (p + k) 0 := by simp [List.getD]
  rw [this, List.getD_eq_getElem?_getD, List.getElem?_eq_none (by simp; omega)]; rfl

/-- is it a point, a letter of an exponent, a sign? -/
def is46 (l : List UInt8) (k : Nat) : Bool := decide (bt l k = 46)
def isE (l : List UInt8) (k : Nat) : Bool := decide (bt l k = 101 ∨ bt l k = 69)
def isS (t : Nat) : Bool := decide (t = 1)
set_option maxRecDepth 100000 in
set_option maxHeartbeats 1000000 in
theorem scan_at (s : ByteArray) (p : Nat) (w : World) (hs : s.size ≤ 1000000) (hp : p < s.size) :
    Calls Tryd.prog 60 #[.string s, .int .i64 p] w fun e w' => e = .returned (scV p (s.data.toList.drop p)) ∧ w = w' := by
  have hll : (s.data.toList.drop p).length = s.size - p := by simp
  have b0 := bt_in s p 0 (by omega)
  simp only [Nat.add_zero] at b0
  go_enter Tryd.func60, Tryd.ntmps60
  go_upto_if 21 with (fail)
  go_cut [1] (fun a wx => a = .int .i64 ((p : Int) + (sg (s.data.toList.drop p) : Int)) ∧ w = wx)
  case first =>
    by_cases h : s[p].toNat = 45
    · have q1 : ((s[p].toNat : Int) == 45) = true := by rw [h]; rfl
      have hN : Hid (sg (s.data.toList.drop p) = 1) := Lib.hid (by unfold sg; rw [b0, if_pos h])
      clear h b0
      go_wp2
      go_meet
      exact ⟨by rw [hN.out]; go_num, rfl⟩
    · have q1 : ((s[p].toNat : Int) == 45) = false := by rw [beq_eq_false_iff_ne]; omega
      have hN : Hid (sg (s.data.toList.drop p) = 0) := Lib.hid (by unfold sg; rw [b0, if_neg h])
      clear h b0
      go_wp2
      go_meet
      exact ⟨by rw [hN.out]; go_num, rfl⟩
  case rest =>
    obtain ⟨rfl, rfl⟩ := hcut
    have hg := sg_le (s.data.toList.drop p)
    have hdn : dn (s.data.toList.drop (p + sg (s.data.toList.drop p))) = dn ((s.data.toList.drop p).drop (sg (s.data.toList.drop p))) := by rw [List.drop_drop]
    have hdl := dn_drop_le s.data.toList (p + sg (s.data.toList.drop p))
    rw [Array.length_toList, ByteArray.size_data] at hdl
    have hw0 : Hid (dn (s.data.toList.drop (p + sg (s.data.toList.drop p))) = 0 → scV p (s.data.toList.drop p) = .tuple #[.int .i64 0, .bool false, .bool false]) := Lib.hid (by
      intro h; unfold scV whole; rw [← hdn, if_pos (by rw [if_pos h])])
    have hw1 : Hid (dn (s.data.toList.drop (p + sg (s.data.toList.drop p))) ≠ 0 → bt (s.data.toList.drop p) (sg (s.data.toList.drop p)) = 48 → whole (s.data.toList.drop p) = sg (s.data.toList.drop p) + 1) := Lib.hid (by
      intro h h2; unfold whole; rw [← hdn, if_neg h, if_pos h2])
    have hw2 : Hid (dn (s.data.toList.drop (p + sg (s.data.toList.drop p))) ≠ 0 → bt (s.data.toList.drop p) (sg (s.data.toList.drop p)) ≠ 48 → whole (s.data.toList.drop p) = sg (s.data.toList.drop p) + dn (s.data.toList.drop (p + sg (s.data.toList.drop p)))) := Lib.hid (by
      intro h h2; unfold whole; rw [← hdn, if_neg h, if_neg h2])
    have hbi := Lib.hid (fun k h => bt_in s p k h)
    have hbo := Lib.hid (fun k h => bt_out s p k h)
    clear b0 hdn
    go_wp2_with fail
    refine (digitsI s (p + sg (s.data.toList.drop p)) _ _ hs (by omega) (by omega)).mono ?_
    rintro e w' ⟨rfl, rfl⟩
    generalize hG : sg (s.data.toList.drop p) = g at *
    generalize hNN : dn (s.data.toList.drop (p + g)) = n at *
    have HNN := Lib.hid hNN
    clear hG hNN
    by_cases hn : n = 0
    · have q1 : (((p : Int) + (g : Int) + (n : Int)) == ((p : Int) + (g : Int))) = true := by rw [beq_iff_eq, hn]; rfl
      have hN := Lib.hid (hw0.out hn)
      clear hn hw0 hw1 hw2
      go_wp2
      go_ret3
      exact ⟨by rw [hN.out]; rfl, rfl⟩
    have q1 : (((p : Int) + (g : Int) + (n : Int)) == ((p : Int) + (g : Int))) = false := by rw [beq_eq_false_iff_ne]; omega
    have hpg : p + g < s.size := by omega
    have hw1 := Lib.hid (hw1.out hn)
    have hw2 := Lib.hid (hw2.out hn)
    clear hw0
    go_upto_if 33 with (fail)
    go_cut [4] (fun e wx => e = .int .i64 ((p : Int) + (whole (s.data.toList.drop p) : Int)) ∧ w = wx)
    case first =>
      by_cases h : s[p + g].toNat = 48
      · have q2 : ((s[p + g].toNat : Int) == 48) = true := by rw [h]; rfl
        have hN := Lib.hid (hw1.out (by rw [hbi.out g hpg]; exact h))
        clear h
        go_wp2
        go_meet
        exact ⟨by rw [hN.out]; go_num, rfl⟩
      · have q2 : ((s[p + g].toNat : Int) == 48) = false := by rw [beq_eq_false_iff_ne]; omega
        have hN := Lib.hid (hw2.out (by rw [hbi.out g hpg]; exact h))
        clear h
        go_wp2
        go_meet
        exact ⟨by rw [hN.out]; go_num, rfl⟩
    case rest =>
      obtain ⟨rfl, rfl⟩ := hcut
      have hwl := whole_le (s.data.toList.drop p)
      have hw3 : whole (s.data.toList.drop p) ≠ 0 := by
        have a1 := hw1.out
        have a2 := hw2.out
        by_cases h : bt (s.data.toList.drop p) g = 48
        · rw [a1 h]; omega
        · rw [a2 h]; omega
      have hev : Hid (every (s.data.toList.drop p) = expo (s.data.toList.drop p) (frac (s.data.toList.drop p) (whole (s.data.toList.drop p)))) := Lib.hid rfl
      have hsc : Hid (scV p (s.data.toList.drop p) = .tuple #[.int .i64 ((p : Int) + (every (s.data.toList.drop p) : Int)), .bool (decide (every (s.data.toList.drop p) = whole (s.data.toList.drop p))), .bool true]) := Lib.hid (by unfold scV; rw [if_neg hw3])
      rw [hll] at hwl
      generalize whole (s.data.toList.drop p) = q at *
      clear hw1 hw2 q1 hw3 hdl HNN
      go_upto_region 11 with (fail)
      go_cut [45] (fun b wx => b = .bool (is46 (s.data.toList.drop p) q) ∧ w = wx)
      case first =>
        by_cases hlt : p + q < s.size
        · have hb := hbi.out q hlt
          by_cases h46 : s[p + q].toNat = 46
          · have q2 : ((s[p + q].toNat : Int) == 46) = true := by rw [h46]; rfl
            have hN : Hid (is46 (s.data.toList.drop p) q = true) := Lib.hid (by unfold is46; rw [hb]; exact decide_eq_true h46)
            clear h46 hb
            go_wp2
            go_meet
            exact ⟨by rw [hN.out], rfl⟩
          · have q2 : ((s[p + q].toNat : Int) == 46) = false := by rw [beq_eq_false_iff_ne]; omega
            have hN : Hid (is46 (s.data.toList.drop p) q = false) := Lib.hid (by unfold is46; rw [hb]; exact decide_eq_false h46)
            clear h46 hb
            go_wp2
            go_meet
            exact ⟨by rw [hN.out], rfl⟩
        · have hN : Hid (is46 (s.data.toList.drop p) q = false) := Lib.hid (by unfold is46; rw [hbo.out q hlt]; rfl)
          have g1 : ¬ ((p : Int) + (q : Int)) < s.size := by omega
          go_wp2
          go_meet
          exact ⟨by rw [hN.out], rfl⟩
      case rest =>
      obtain ⟨rfl, rfl⟩ := hcut
      have hl46 : Hid (bt (s.data.toList.drop p) q = 46 → p + q < s.size) := Lib.hid (by
        intro h
        by_cases hh : p + q < s.size
        · exact hh
        · rw [hbo.out q hh] at h; omega)
      have hfr : Hid (bt (s.data.toList.drop p) q ≠ 46 → frac (s.data.toList.drop p) q = q) := Lib.hid (by
        intro h; unfold frac; rw [if_neg (fun x => h x.1)])
      have hfr1 : Hid (bt (s.data.toList.drop p) q = 46 → dn (s.data.toList.drop (p + q + 1)) ≠ 0 → frac (s.data.toList.drop p) q = q + 1 + dn (s.data.toList.drop (p + q + 1))) := Lib.hid (by
        intro h0 h
        have hdr : dn ((s.data.toList.drop p).drop (q + 1)) = dn (s.data.toList.drop (p + q + 1)) := by rw [List.drop_drop, Nat.add_assoc]
        unfold frac; rw [hdr, if_pos ⟨h0, h⟩])
      have hfr0 : Hid (dn (s.data.toList.drop (p + q + 1)) = 0 → frac (s.data.toList.drop p) q = q) := Lib.hid (by
        intro h
        have hdr : dn ((s.data.toList.drop p).drop (q + 1)) = dn (s.data.toList.drop (p + q + 1)) := by rw [List.drop_drop, Nat.add_assoc]
        unfold frac; rw [hdr, if_neg (fun x => x.2 h)])
      go_upto_if 45 with (fail)
      go_cut [4, 5] (fun e b wx => e = .int .i64 ((p : Int) + (frac (s.data.toList.drop p) q : Int)) ∧ b = .bool (decide (frac (s.data.toList.drop p) q = q)) ∧ w = wx)
      case first =>
        cases hd : is46 (s.data.toList.drop p) q with
        | true =>
          have h46 : bt (s.data.toList.drop p) q = 46 := of_decide_eq_true hd
          have hlt := hl46.out h46
          have hfr1 := Lib.hid (hfr1.out h46)
          have hdl := dn_drop_le s.data.toList (p + q + 1)
          rw [Array.length_toList, ByteArray.size_data] at hdl
          clear h46 hfr hd
          go_wp2_with fail
          refine (digitsI s (p + q + 1) _ _ hs (by omega) (by omega)).mono ?_
          rintro e w' ⟨rfl, rfl⟩
          generalize dn (s.data.toList.drop (p + q + 1)) = m at *
          by_cases hm : m = 0
          · have hN := Lib.hid (hfr0.out hm)
            have g1 : ¬ ((p : Int) + (q : Int)) + 1 < ((p : Int) + (q : Int) + 1 + (m : Int)) := by omega
            clear hfr0 hfr1 hm
            go_wp2
            go_meet
            exact ⟨by rw [hN.out], by rw [hN.out]; simp, rfl⟩
          · have hN := Lib.hid (hfr1.out hm)
            have g1 : ((p : Int) + (q : Int)) + 1 < ((p : Int) + (q : Int) + 1 + (m : Int)) := by omega
            clear hfr0 hfr1
            go_wp2
            go_meet
            exact ⟨by rw [hN.out]; go_num, by rw [hN.out]; simp; omega, rfl⟩
        | false =>
          have h46 : ¬ bt (s.data.toList.drop p) q = 46 := of_decide_eq_false hd
          have hN := Lib.hid (hfr.out h46)
          clear h46 hd
          go_wp2
          go_meet
          exact ⟨by rw [hN.out], by rw [hN.out]; simp, rfl⟩
      case rest =>
        obtain ⟨rfl, rfl, rfl⟩ := hcut
        have hfl := frac_le (s.data.toList.drop p) q (by omega)
        have hfg := frac_ge (s.data.toList.drop p) q
        rw [hll] at hfl
        generalize frac (s.data.toList.drop p) q = f at *
        have hxp : Hid (every (s.data.toList.drop p) = expo (s.data.toList.drop p) f) := hev
        clear hev
        clear hl46 hfr hfr1 hfr0
        go_upto_region 15 with (fail)
        go_cut [70] (fun b wx => b = .bool (isE (s.data.toList.drop p) f) ∧ w = wx)
        case first =>
          by_cases hlt : p + f < s.size
          · have hb := hbi.out f hlt
            by_cases h1 : s[p + f].toNat = 101
            · have q2 : ((s[p + f].toNat : Int) == 101) = true := by rw [h1]; rfl
              have hN : Hid (isE (s.data.toList.drop p) f = true) := Lib.hid (by unfold isE; rw [hb]; exact decide_eq_true (Or.inl h1))
              clear h1 hb
              go_wp2
              go_meet
              exact ⟨by rw [hN.out], rfl⟩
            have q2 : ((s[p + f].toNat : Int) == 101) = false := by rw [beq_eq_false_iff_ne]; omega
            by_cases h2 : s[p + f].toNat = 69
            · have q3 : ((s[p + f].toNat : Int) == 69) = true := by rw [h2]; rfl
              have hN : Hid (isE (s.data.toList.drop p) f = true) := Lib.hid (by unfold isE; rw [hb]; exact decide_eq_true (Or.inr h2))
              clear h1 h2 hb
              go_wp2
              go_meet
              exact ⟨by rw [hN.out], rfl⟩
            · have q3 : ((s[p + f].toNat : Int) == 69) = false := by rw [beq_eq_false_iff_ne]; omega
              have hN : Hid (isE (s.data.toList.drop p) f = false) := Lib.hid (by unfold isE; rw [hb]; exact decide_eq_false (by omega))
              clear h1 h2 hb
              go_wp2
              go_meet
              exact ⟨by rw [hN.out], rfl⟩
          · have hN : Hid (isE (s.data.toList.drop p) f = false) := Lib.hid (by unfold isE; rw [hbo.out f hlt]; rfl)
            have g1 : ¬ ((p : Int) + (f : Int)) < s.size := by omega
            go_wp2
            go_meet
            exact ⟨by rw [hN.out], rfl⟩
        case rest =>
        obtain ⟨rfl, rfl⟩ := hcut
        have hlE : Hid ((bt (s.data.toList.drop p) f = 101 ∨ bt (s.data.toList.drop p) f = 69) → p + f < s.size) := Lib.hid (by
          intro h
          by_cases hh : p + f < s.size
          · exact hh
          · rw [hbo.out f hh] at h; omega)
        have hE0 : Hid (¬ (bt (s.data.toList.drop p) f = 101 ∨ bt (s.data.toList.drop p) f = 69) → every (s.data.toList.drop p) = f) := Lib.hid (by
          intro h; rw [hxp.out]; unfold expo; rw [if_neg (fun x => h x.1)])
        go_upto_if 70 with (fail)
        go_cut [4, 5] (fun e b wx => e = .int .i64 ((p : Int) + (every (s.data.toList.drop p) : Int)) ∧ b = .bool (decide (every (s.data.toList.drop p) = q)) ∧ w = wx)
        case first =>
          cases hd : isE (s.data.toList.drop p) f with
          | true =>
            have hE : bt (s.data.toList.drop p) f = 101 ∨ bt (s.data.toList.drop p) f = 69 := of_decide_eq_true hd
            have hlt := hlE.out hE
            have hpe := Lib.hid hE
            clear hE hE0 hlE hd
            go_upto_region 17 with (fail)
            go_cut [88] (fun v wx => v = .bool (isS (sig (s.data.toList.drop p) (f + 1))) ∧ w = wx)
            case first =>
              by_cases hl1 : p + (f + 1) < s.size
              · have hb1 := hbi.out (f + 1) hl1
                have hl1' : p + f + 1 < s.size := hl1
                have hb1 : bt (s.data.toList.drop p) (f + 1) = s[p + f + 1].toNat := hb1
                by_cases h43 : s[p + f + 1].toNat = 43
                · have t1 : ((s[p + f + 1].toNat : Int) == 43) = true := by rw [h43]; rfl
                  have hN : Hid (isS (sig (s.data.toList.drop p) (f + 1)) = true) := Lib.hid (decide_eq_true (by unfold sig; rw [if_pos (Or.inl (by rw [hb1]; exact h43))]))
                  clear hb1 h43
                  go_wp2
                  go_meet
                  exact ⟨by rw [hN.out], rfl⟩
                have t1 : ((s[p + f + 1].toNat : Int) == 43) = false := by rw [beq_eq_false_iff_ne]; omega
                by_cases h45 : s[p + f + 1].toNat = 45
                · have t2 : ((s[p + f + 1].toNat : Int) == 45) = true := by rw [h45]; rfl
                  have hN : Hid (isS (sig (s.data.toList.drop p) (f + 1)) = true) := Lib.hid (decide_eq_true (by unfold sig; rw [if_pos (Or.inr (by rw [hb1]; exact h45))]))
                  clear hb1 h43 h45
                  go_wp2
                  go_meet
                  exact ⟨by rw [hN.out], rfl⟩
                · have t2 : ((s[p + f + 1].toNat : Int) == 45) = false := by rw [beq_eq_false_iff_ne]; omega
                  have hN : Hid (isS (sig (s.data.toList.drop p) (f + 1)) = false) := Lib.hid (decide_eq_false (by unfold sig; rw [if_neg (by rw [hb1]; omega)]; omega))
                  clear hb1 h43 h45
                  go_wp2
                  go_meet
                  exact ⟨by rw [hN.out], rfl⟩
              · have hb1 := hbo.out (f + 1) hl1
                have g1 : ¬ ((p : Int) + (f : Int)) + 1 < s.size := by omega
                have hN : Hid (isS (sig (s.data.toList.drop p) (f + 1)) = false) := Lib.hid (decide_eq_false (by unfold sig; rw [hb1]; simp))
                clear hb1 hl1
                go_wp2
                go_meet
                exact ⟨by rw [hN.out], rfl⟩
            case rest =>
            obtain ⟨rfl, rfl⟩ := hcut
            have hs1 : sig (s.data.toList.drop p) (f + 1) ≤ 1 := by unfold sig; split <;> omega
            have hsl : p + f + 1 + sig (s.data.toList.drop p) (f + 1) ≤ s.size := by
              have : sig (s.data.toList.drop p) (f + 1) = 1 → p + (f + 1) < s.size := by
                intro h
                by_cases hh : p + (f + 1) < s.size
                · exact hh
                · unfold sig at h; rw [hbo.out (f + 1) hh] at h; cases h
              omega
            have hdl := dn_drop_le s.data.toList (p + f + 1 + sig (s.data.toList.drop p) (f + 1))
            rw [Array.length_toList, ByteArray.size_data] at hdl
            have hdr : dn ((s.data.toList.drop p).drop (f + 1 + sig (s.data.toList.drop p) (f + 1))) = dn (s.data.toList.drop (p + f + 1 + sig (s.data.toList.drop p) (f + 1))) := by rw [List.drop_drop, ← Nat.add_assoc, ← Nat.add_assoc]
            have hf1 : Hid (dn (s.data.toList.drop (p + f + 1 + sig (s.data.toList.drop p) (f + 1))) ≠ 0 → every (s.data.toList.drop p) = f + 1 + sig (s.data.toList.drop p) (f + 1) + dn (s.data.toList.drop (p + f + 1 + sig (s.data.toList.drop p) (f + 1)))) := Lib.hid (by
              intro h; rw [hxp.out]; unfold expo; rw [hdr, if_pos ⟨hpe.out, h⟩])
            have hf0 : Hid (dn (s.data.toList.drop (p + f + 1 + sig (s.data.toList.drop p) (f + 1))) = 0 → every (s.data.toList.drop p) = f) := Lib.hid (by
              intro h; rw [hxp.out]; unfold expo; rw [hdr, if_neg (fun x => x.2 h)])
            clear hdr
            generalize hT : sig (s.data.toList.drop p) (f + 1) = t at *
            clear hT
            go_upto_if 88 with (fail)
            go_cut [8] (fun v wx => v = .int .i64 ((p : Int) + (f : Int) + 1 + (t : Int)) ∧ w = wx)
            case first =>
              cases hd : isS t with
              | true =>
                have HT : Hid (t = 1) := Lib.hid (of_decide_eq_true hd)
                clear hd
                go_wp2
                go_meet
                exact ⟨by rw [HT.out]; go_num, rfl⟩
              | false =>
                have HT : Hid (t = 0) := Lib.hid (by have : ¬ t = 1 := of_decide_eq_false hd; omega)
                clear hd
                go_wp2
                go_meet
                exact ⟨by rw [HT.out]; go_num, rfl⟩
            case rest =>
            obtain ⟨rfl, rfl⟩ := hcut
            go_wp2_with fail
            refine (digitsI s (p + f + 1 + t) _ _ hs (by omega) hsl).mono ?_
            rintro e w' ⟨rfl, rfl⟩
            generalize dn (s.data.toList.drop (p + f + 1 + t)) = m at *
            by_cases hm : m = 0
            · have hN := Lib.hid (hf0.out hm)
              have g1 : ¬ ((p : Int) + (f : Int) + 1 + (t : Int)) < ((p : Int) + (f : Int) + 1 + (t : Int) + (m : Int)) := by omega
              clear hf0 hf1 hm
              go_wp2
              go_meet
              exact ⟨by rw [hN.out], by rw [hN.out], rfl⟩
            · have hN := Lib.hid (hf1.out hm)
              have g1 : ((p : Int) + (f : Int) + 1 + (t : Int)) < ((p : Int) + (f : Int) + 1 + (t : Int) + (m : Int)) := by omega
              clear hf0 hf1
              go_wp2
              go_meet
              exact ⟨by rw [hN.out]; go_num, by rw [hN.out]; simp; omega, rfl⟩
          | false =>
            have hE : ¬ (bt (s.data.toList.drop p) f = 101 ∨ bt (s.data.toList.drop p) f = 69) := of_decide_eq_false hd
            have hN := Lib.hid (hE0.out hE)
            clear hE hE0 hlE hd
            go_wp2
            go_meet
            exact ⟨by rw [hN.out], by rw [hN.out], rfl⟩
        case rest =>
          obtain ⟨rfl, rfl, rfl⟩ := hcut
          go_wp2
          go_ret3
          exact ⟨by rw [hsc.out]; rfl, rfl⟩

end Go.Proofs.YtdbidkfjbhclcaaDoor.intsA
namespace Go.Proofs.YtdbidkfjbhclcaaDoor.intsB
open Go.ChangeShapes Go.WideShapes Go.ChangeAt Go.RowKit intsP intsA

def scR (l : List UInt8) : Value := if whole l = 0 then .tuple #[.int .i64 0, .int .i64 0] else .tuple #[.int .i64 (whole l : Int), .int .i64 (every l : Int)]

def isF (l : List UInt8) (k : Nat) : Bool := decide (bt l k = 46 ∧ dn (l.drop (k + 1)) ≠ 0)

end Go.Proofs.YtdbidkfjbhclcaaDoor.intsB
namespace Go.Proofs.YtdbidkfjbhclcaaDoor.intsC
open Go.ChangeShapes Go.WideShapes Go.ChangeAt Go.RowKit intsP intsA intsB errIs errs

/-- the library's error of a range, and its table of powers, lie there -/
def Rng (w : World) : Prop := ∃ te pe, w.cell? ⟨19, 0, none⟩ = some (.iface te pe)
def Pow (w : World) : Prop := Lib.TabIs Tryd.prog w "internal/strconv.uint64pow10" .u64 Lib.pow10Tab
theorem rng_below {w w' : World} (h : Rng w) (hb : Below w.heap.size w w') : Rng w' := by
  obtain ⟨te, pe, h⟩ := h
  exact ⟨te, pe, by rw [hb.cell (World.block_lt_of_cell? w _ h)]; exact h⟩
theorem pow_n : Tryd.prog.globalNamed "internal/strconv.uint64pow10" = some 17 := by kernel_rfl
theorem pow_below {w w' : World} (h : Pow w) (hb : Below w.heap.size w w') : Pow w' := Go.Joins.tab_stays pow_n h hb (Nat.le_refl _)

theorem nneqE (t : TypeId) (v : Value) (w : World) : (binOp .neq 30 (.iface t v) .nilIface).run Tryd.prog w = .ok (.bool true) w := by kernel_rfl
theorem nneqN (w : World) : (binOp .neq 30 .nilIface .nilIface).run Tryd.prog w = .ok (.bool false) w := by kernel_rfl
theorem neqlN (w : World) : (binOp .eql 30 .nilIface .nilIface).run Tryd.prog w = .ok (.bool true) w := by kernel_rfl
theorem neqlE (t : TypeId) (v : Value) (w : World) : (binOp .eql 30 (.iface t v) .nilIface).run Tryd.prog w = .ok (.bool false) w := by kernel_rfl

def errV (ad : Nat → Addr) (k : Nat) : Value := if k = 0 then .nilIface else ev (ad (k - 1))
def tkV (ad : Nat → Addr) (q : Int × Nat × Nat) : Value := .tuple #[.int .i64 q.1, .int .i64 (q.2.1 : Int), errV ad q.2.2]
def takeO (l : List UInt8) (p : Int) : Int × Nat × Nat := if p < 0 then (0, 0, 1) else takeN (l.drop p.toNat)

/-- what the decimal numeral's reading hands back -/
theorem parse_int (s : ByteArray) (w : World) (hs : s.size ≤ 1000000) (hR : Rng w) (hn : s.data.toList.drop (sg s.data.toList) ≠ []) (hd : ∀ c ∈ s.data.toList.drop (sg s.data.toList), isD c = true) :
    Calls Tryd.prog 61 #[.string s, .int .i64 10, .int .i64 64] w fun e w' => Below w.heap.size w w' ∧ ((∃ v, valO s.data.toList = some v ∧ e = .returned (.tuple #[.int .i64 v, .nilIface])) ∨ (valO s.data.toList = none ∧ ∃ x t u, e = .returned (.tuple #[.int .i64 x, .iface t u]))) := by
  have hp := parse_val s.data.toList hn hd
  cases hv : valO s.data.toList with
  | none =>
    rw [hv] at hp
    obtain ⟨te, pe, hR⟩ := hR
    refine (Tryd.strconv_ParseInt_10_at64_range s (by omega) hp (.iface te pe) w hR (Or.inr ⟨te, pe, rfl⟩)).mono ?_
    rintro e w' ⟨N, rfl, _, _, hb⟩
    exact ⟨hb, Or.inr ⟨rfl, _, _, _, rfl⟩⟩
  | some v =>
    rw [hv] at hp
    refine (Tryd.strconv_ParseInt_10_at64_ok s (by omega) v hp w).mono ?_
    rintro e w' ⟨rfl, hw⟩
    refine ⟨?_, Or.inl ⟨v, rfl, rfl⟩⟩
    rcases hw with rfl | ⟨t, rfl⟩
    · exact Below.refl _ _
    · exact Lib.bytesWorld_below _ _ _

theorem ext_take (S : ByteArray) (k j : Nat) : (S.extract k (k + j)).data.toList = (S.data.toList.drop k).take j := by
  rw [ByteArray.data_extract, Array.toList_extract]
  simp [List.extract]

def TkPost (w : World) (ad : Nat → Addr) (q : Int × Nat × Nat) (e : Ending) (w' : World) : Prop := e = .returned (tkV ad q) ∧ Below w.heap.size w w'

theorem take_no (s : ByteArray) (p : Int) (w : World) (ad : Nat → Addr) (hE : Ej w ad) (h : p < 0 ∨ (s.size : Int) ≤ p) :
    Calls Tryd.prog 53 #[.string s, .int .i64 p] w (TkPost w ad (0, 0, 1)) := by
  have hg : w.cell? ⟨2, 0, none⟩ = some (ev (ad 0)) := hE.glob 0 (by decide)
  clear hE
  go_enter Tryd.func53, Tryd.ntmps53
  go_wp2_with fail
  refine (scan_no _ _ _ h).mono ?_
  rintro e w' ⟨rfl, rfl⟩
  go_wp2
  go_quiet (fail)
  go_wp2
  go_ret3
  exact ⟨rfl, below_drewN (Below.refl _ _) _⟩

set_option maxRecDepth 100000 in
theorem take_at (s : ByteArray) (p : Nat) (w : World) (ad : Nat → Addr) (hs : s.size ≤ 1000000) (hE : Ej w ad) (hR : Rng w) (hp : p < s.size) :
    Calls Tryd.prog 53 #[.string s, .int .i64 p] w (TkPost w ad (takeN (s.data.toList.drop p))) := by
  have hg : w.cell? ⟨2, 0, none⟩ = some (ev (ad 0)) := hE.glob 0 (by decide)
  have hg3 : w.cell? ⟨5, 0, none⟩ = some (ev (ad 3)) := hE.glob 3 (by decide)
  have HS := scan_at s p w hs hp
  have hwl := whole_le (s.data.toList.drop p)
  have heg := every_ge (s.data.toList.drop p)
  have hll : (s.data.toList.drop p).length = s.size - p := by simp
  rw [hll] at hwl
  unfold scV at HS
  by_cases h0 : whole (s.data.toList.drop p) = 0
  · rw [if_pos h0] at HS
    have HS := Lib.hid HS
    have hN : Hid (takeN (s.data.toList.drop p) = (0, 0, 1)) := Lib.hid (by unfold takeN; rw [if_pos h0])
    clear hE hR h0 hwl heg hll
    go_enter Tryd.func53, Tryd.ntmps53
    go_wp2_with fail
    refine HS.out.mono ?_
    rintro e w' ⟨rfl, rfl⟩
    go_wp2
    go_quiet (fail)
    go_wp2
    go_ret3
    exact ⟨by rw [hN.out]; rfl, below_drewN (Below.refl _ _) _⟩
  rw [if_neg h0] at HS
  by_cases h1 : whole (s.data.toList.drop p) < every (s.data.toList.drop p)
  · rw [decide_eq_false (show ¬ every (s.data.toList.drop p) = whole (s.data.toList.drop p) by omega)] at HS
    have HS := Lib.hid HS
    have hN : Hid (takeN (s.data.toList.drop p) = (0, 0, 4)) := Lib.hid (by unfold takeN; rw [if_neg h0, if_pos h1])
    clear hE hR h0 hwl heg hll h1
    go_enter Tryd.func53, Tryd.ntmps53
    go_wp2_with fail
    refine HS.out.mono ?_
    rintro e w' ⟨rfl, rfl⟩
    go_wp2
    go_quiet (fail)
    go_wp2
    go_ret3
    exact ⟨by rw [hN.out]; rfl, below_drewN (Below.refl _ _) _⟩
  rw [decide_eq_true (show every (s.data.toList.drop p) = whole (s.data.toList.drop p) by omega), show every (s.data.toList.drop p) = whole (s.data.toList.drop p) by omega] at HS
  have HS := Lib.hid HS
  have hxt : (s.extract p (p + whole (s.data.toList.drop p))).data.toList = (s.data.toList.drop p).take (whole (s.data.toList.drop p)) := ext_take s p _
  have HD := whole_digits (s.data.toList.drop p) h0
  rw [← hxt] at HD
  have hxs : (s.extract p (p + whole (s.data.toList.drop p))).size ≤ 1000000 := by rw [ByteArray.size_extract]; omega
  have HPI := Lib.hid (fun w hR => parse_int (s.extract p (p + whole (s.data.toList.drop p))) w hxs hR HD.1 HD.2.1)
  have hN : Hid (takeN (s.data.toList.drop p) = match valO (s.extract p (p + whole (s.data.toList.drop p))).data.toList with | some v => (v, whole (s.data.toList.drop p), 0) | none => (0, 0, 4)) := Lib.hid (by
    unfold takeN; rw [if_neg h0, if_neg h1, hxt]; try (cases valO ((s.data.toList.drop p).take (whole (s.data.toList.drop p))) <;> rfl))
  have HR := Lib.hid hR
  have HE := Lib.hid hE
  clear hE hR h0 heg hll h1 hxt HD
  generalize whole (s.data.toList.drop p) = q at *
  have d1 : (p : Int) ≤ (p : Int) + q := by omega
  have d2 : (p : Int) + q ≤ s.size := by omega
  have d3 : p + q ≤ s.size := by omega
  generalize hX : s.extract p (p + q) = X at *
  have HX := Lib.hid hX
  clear hX
  go_enter Tryd.func53, Tryd.ntmps53
  go_wp2_with fail
  refine HS.out.mono ?_
  rintro e w' ⟨rfl, rfl⟩
  go_wp2_with fail
  rw [HX.out]
  refine (HPI.out _ HR.out).mono ?_
  rintro e w1 ⟨hb1, hq⟩
  have HB1 := Lib.hid hb1
  have hg3' : w1.cell? ⟨5, 0, none⟩ = some (ev (ad 3)) := (HE.out.below hb1).glob 3 (by decide)
  clear hb1 hg hg3
  rcases hq with ⟨v, hv, rfl⟩ | ⟨hv, x, t, u, rfl⟩
  · have hN2 : Hid (takeN (s.data.toList.drop p) = (v, q, 0)) := Lib.hid (by rw [hN.out, hv])
    have hvb := valO_bd hv
    obtain ⟨v1, v2⟩ := hvb
    have hne := nneqN
    clear hN hv
    go_wp2
    go_ret3
    refine ⟨?_, HB1.out⟩
    rw [hN2.out]
    show Ending.returned (.tuple #[.int .i64 v, .int .i64 ((p : Int) + (q : Int) - (p : Int)), .nilIface]) = _
    rw [show (p : Int) + (q : Int) - (p : Int) = (q : Int) from by omega]
    rfl
  · have hN2 : Hid (takeN (s.data.toList.drop p) = (0, 0, 4)) := Lib.hid (by rw [hN.out, hv])
    have hne := nneqE t u
    clear hN hv
    go_wp2
    go_quiet (fail)
    go_wp2
    go_ret3
    exact ⟨by rw [hN2.out]; rfl, below_drewN HB1.out _⟩

theorem take_any (s : ByteArray) (p : Int) (w : World) (ad : Nat → Addr) (hs : s.size ≤ 1000000) (hE : Ej w ad) (hR : Rng w) :
    Calls Tryd.prog 53 #[.string s, .int .i64 p] w (TkPost w ad (takeO s.data.toList p)) := by
  by_cases h : p < 0 ∨ (s.size : Int) ≤ p
  · have e : takeO s.data.toList p = (0, 0, 1) := by
      unfold takeO
      by_cases h1 : p < 0
      · rw [if_pos h1]
      · rw [if_neg h1, List.drop_eq_nil_of_le (by simp; omega)]; rfl
    rw [e]; exact take_no s p w ad hE h
  · obtain ⟨n, rfl⟩ := Int.eq_ofNat_of_zero_le (show 0 ≤ p by omega)
    have e : takeO s.data.toList (n : Int) = takeN (s.data.toList.drop n) := by unfold takeO; rw [if_neg (by omega), Int.toNat_natCast]
    rw [e]; exact take_at s n w ad hs hE hR (by omega)

/-! ### Parse -/
def prV (ad : Nat → Addr) (q : Int × Nat) : Value := .tuple #[.int .i64 q.1, errV ad q.2]

/-! ### Text -/
theorem text_any (n : Int) (w : World) (hP : Pow w) (h0 : -9223372036854775808 ≤ n) (h1 : n ≤ 9223372036854775807) :
    Calls Tryd.prog 28 #[.int .i64 n] w fun e w' => e = .returned (.string ⟨(Lib.itoa n).toArray⟩) ∧ Below w.heap.size w w' := by
  have HI := Lib.hid (Tryd.strconv_Itoa n h0 h1 w hP)
  clear hP
  go_enter Tryd.func28, Tryd.ntmps28
  go_wp2_with fail
  refine HI.out.mono ?_
  rintro e w1 ⟨rfl, k, os, hw1⟩
  have HB : Hid (Below w.heap.size w w1) := Lib.hid (by
    rw [hw1]
    have hb := below_drewN (Below.refl w.heap.size w) k
    refine ⟨hb.os, hb.tape, hb.output, ?_, ?_⟩
    · simp
    · intro j hj
      have : (Go.Sort.grow (w.drewN k) os).heap[j]? = (w.drewN k).heap[j]? := by
        unfold Go.Sort.grow
        rw [Array.getElem?_append_left (by simpa using hj)]
      rw [this]; exact hb.block j hj)
  clear hw1
  go_wp2
  go_ret
  exact ⟨rfl, HB.out⟩

end Go.Proofs.YtdbidkfjbhclcaaDoor.intsC
