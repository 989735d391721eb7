/-
  Plain: a value without kids by its first byte, as the reference reads it.
-/
import Derived.Test.YtjcaffpmcgfhaaaGreatDoorJsoM
namespace Go.Proofs.YtjcaffpmcgfhaaaGreatDoor.refP
open Go.Proofs.YtjcaffpmcgfhaaaGreatDoor.nodeP Go.Proofs.YtjcaffpmcgfhaaaGreatDoor.nodeQ Go.Proofs.YtjcaffpmcgfhaaaGreatDoor.utfP Go.Proofs.YtjcaffpmcgfhaaaGreatDoor.utfQ Go.Proofs.YtjcaffpmcgfhaaaGreatDoor.utfR Go.Proofs.YtjcaffpmcgfhaaaGreatDoor.jsonP Go.Proofs.YtjcaffpmcgfhaaaGreatDoor.jsonQ Go.Proofs.YtjcaffpmcgfhaaaGreatDoor.jsonR
set_option linter.unusedSimpArgs false
set_option linter.unusedVariables false

theorem pre_hd {u : List UInt8} {c : UInt8} {t : List UInt8} (h : Lib.hasPrefix u (c :: t) = true) : hd u = c.toNat := by
  obtain ⟨v, rfl⟩ := pre_iff.1 h
  rfl
theorem pre_no {u : List UInt8} {c : UInt8} {t : List UInt8} (h : hd u ≠ c.toNat) : ¬ Lib.hasPrefix u (c :: t) = true := fun h' => h (pre_hd h')
theorem no_null {u : List UInt8} (h : hd u ≠ 110) : ¬ Lib.hasPrefix u wNull = true := pre_no (c := 110) h
theorem no_false {u : List UInt8} (h : hd u ≠ 102) : ¬ Lib.hasPrefix u wFalse = true := pre_no (c := 102) h
theorem no_true {u : List UInt8} (h : hd u ≠ 116) : ¬ Lib.hasPrefix u wTrue = true := pre_no (c := 116) h
theorem scal_null {u : List UInt8} (h : hd u = 110) : scal u = if Lib.hasPrefix u wNull = true then (word 1, 4, 0) else (word 0, 0, 1) := by
  unfold scal
  rw [if_neg (by omega), if_neg (by rw [h]; decide)]
  by_cases h1 : Lib.hasPrefix u wNull = true
  · rw [if_pos h1, if_pos h1]
  · rw [if_neg h1, if_neg (no_false (by omega)), if_neg (no_true (by omega)), if_neg h1]
theorem scal_false {u : List UInt8} (h : hd u = 102) : scal u = if Lib.hasPrefix u wFalse = true then (word 2, 5, 0) else (word 0, 0, 1) := by
  unfold scal
  rw [if_neg (by omega), if_neg (by rw [h]; decide), if_neg (no_null (by omega))]
  by_cases h1 : Lib.hasPrefix u wFalse = true
  · rw [if_pos h1, if_pos h1]
  · rw [if_neg h1, if_neg (no_true (by omega)), if_neg h1]
theorem scal_true {u : List UInt8} (h : hd u = 116) : scal u = if Lib.hasPrefix u wTrue = true then (word 3, 4, 0) else (word 0, 0, 1) := by
  unfold scal
  rw [if_neg (by omega), if_neg (by rw [h]; decide), if_neg (no_null (by omega)), if_neg (no_false (by omega))]
theorem takeN_no {u : List UInt8} (h : isNum (hd u) = false) : intsP.takeN u = (0, 0, 1) := by
  have hb : intsP.bt u 0 = hd u := by cases u <;> rfl
  have hw : intsP.whole u = 0 := by
    unfold intsP.whole
    have h0 : intsP.sg u = 0 := by
      unfold intsP.sg
      rw [if_neg]
      rw [hb]; intro e; rw [e] at h; cases h
    rw [h0, List.drop_zero, if_pos]
    cases u with
    | nil => rfl
    | cons c u =>
      rw [intsP.dn_cons, if_neg]
      have h' : isNum c.toNat = false := h
      unfold isNum at h'
      unfold intsP.isD
      simp at h' ⊢
      omega
  unfold intsP.takeN
  rw [if_pos hw]
/-- all but words and strings -/
theorem scal_num {u : List UInt8} (h1 : hd u ≠ 34) (h2 : hd u ≠ 110) (h3 : hd u ≠ 102) (h4 : hd u ≠ 116) :
    scal u = if (intsP.takeN u).2.2 = 0 then (.mk 4 (intsP.takeN u).1 ByteArray.empty [] [], (intsP.takeN u).2.1, 0) else (word 0, 0, (intsP.takeN u).2.2) := by
  unfold scal
  rw [if_neg h1]
  by_cases hn : isNum (hd u) = true
  · rw [if_pos hn]
  · rw [if_neg hn, if_neg (no_null h2), if_neg (no_false h3), if_neg (no_true h4), takeN_no (Bool.eq_false_iff.2 hn)]
    rfl
theorem takeN_in (u : List UInt8) : In64 (intsP.takeN u).1 := by
  unfold intsP.takeN
  by_cases h0 : intsP.whole u = 0
  · rw [if_pos h0]; unfold In64; omega
  rw [if_neg h0]
  by_cases h1 : intsP.whole u < intsP.every u
  · rw [if_pos h1]; unfold In64; dsimp only; omega
  rw [if_neg h1]
  cases hv : intsP.valO (u.take (intsP.whole u)) with
  | none => unfold In64; dsimp only; omega
  | some v => exact intsP.valO_bd hv
theorem takeN_size (u : List UInt8) : (intsP.takeN u).2.1 ≤ u.length := by
  unfold intsP.takeN
  have hw := intsP.whole_le u
  by_cases h0 : intsP.whole u = 0
  · rw [if_pos h0]; exact Nat.zero_le _
  rw [if_neg h0]
  by_cases h1 : intsP.whole u < intsP.every u
  · rw [if_pos h1]; exact Nat.zero_le _
  rw [if_neg h1]
  cases intsP.valO (u.take (intsP.whole u)) with
  | none => exact Nat.zero_le _
  | some v => exact hw
end Go.Proofs.YtjcaffpmcgfhaaaGreatDoor.refP
