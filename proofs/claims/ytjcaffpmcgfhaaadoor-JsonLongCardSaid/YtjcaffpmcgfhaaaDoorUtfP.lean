/-
  Plain facts on the model's own encoding of a code point, and on hexadecimal digits.
-/
import GoSem.Conv.IntToString
namespace Go.Proofs.YtjcaffpmcgfhaaaDoor.utfP

def Pt (r : Int) : Prop := 0 ≤ r ∧ r ≤ 1114111 ∧ (r < 55296 ∨ 57343 < r)

theorem enc1 (r : Nat) (c1 : r < 128) : Utf8.encode (r : Int) = ⟨#[UInt8.ofNat r]⟩ := by
  have v : Utf8.valid (r : Int) = true := by simp [Utf8.valid]; omega
  simp [Utf8.encode, v, c1]
theorem enc2 (r : Nat) (c1 : ¬ r < 128) (c2 : r < 2048) : Utf8.encode (r : Int) = ⟨#[UInt8.ofNat (192 + r / 64), UInt8.ofNat (128 + r % 64)]⟩ := by
  have v : Utf8.valid (r : Int) = true := by simp [Utf8.valid]; omega
  simp [Utf8.encode, v, c1, c2]
theorem enc3 (r : Nat) (c2 : ¬ r < 2048) (c3 : r < 65536) (hv : r < 55296 ∨ 57344 ≤ r) : Utf8.encode (r : Int) = ⟨#[UInt8.ofNat (224 + r / 4096), UInt8.ofNat (128 + r / 64 % 64), UInt8.ofNat (128 + r % 64)]⟩ := by
  have v : Utf8.valid (r : Int) = true := by simp [Utf8.valid]; omega
  have c1 : ¬ r < 128 := by omega
  simp [Utf8.encode, v, c1, c2, c3]
theorem enc4 (r : Nat) (c3 : ¬ r < 65536) (c4 : r ≤ 1114111) : Utf8.encode (r : Int) = ⟨#[UInt8.ofNat (240 + r / 262144), UInt8.ofNat (128 + r / 4096 % 64), UInt8.ofNat (128 + r / 64 % 64), UInt8.ofNat (128 + r % 64)]⟩ := by
  have v : Utf8.valid (r : Int) = true := by simp [Utf8.valid]; omega
  have c1 : ¬ r < 128 := by omega
  have c2 : ¬ r < 2048 := by omega
  simp [Utf8.encode, v, c1, c2, c3]

theorem enc_size4 (r : Int) (h1 : 65536 ≤ r) (h2 : r ≤ 1114111) : (Utf8.encode r).size = 4 := by
  obtain ⟨n, rfl⟩ := Int.eq_ofNat_of_zero_le (show 0 ≤ r by omega)
  rw [enc4 n (by omega) (by omega)]; rfl
theorem enc_size3 (r : Int) (h : Pt r) (h2 : r < 65536) : 1 ≤ (Utf8.encode r).size ∧ (Utf8.encode r).size ≤ 3 := by
  obtain ⟨h0, h1, h3⟩ := h
  obtain ⟨n, rfl⟩ := Int.eq_ofNat_of_zero_le h0
  by_cases c1 : n < 128
  · rw [enc1 n c1]; simp [ByteArray.size]
  by_cases c2 : n < 2048
  · rw [enc2 n c1 c2]; simp [ByteArray.size]
  · rw [enc3 n c2 (by omega) (by omega)]; simp [ByteArray.size]

/-- a hexadecimal digit's value; -1: it is none -/
def dg (c : Int) : Int := if 48 ≤ c ∧ c ≤ 57 then c - 48 else if 97 ≤ c ∧ c ≤ 102 then c - 87 else if 65 ≤ c ∧ c ≤ 70 then c - 55 else -1

theorem dg_bd (c : Int) : -1 ≤ dg c ∧ dg c ≤ 15 := by unfold dg; repeat' split
                                                      all_goals omega

/-- the number of the first k digits from a place on; -1: one is none -/
def hx (l : List UInt8) (p : Nat) : Nat → Int
  | 0 => 0
  | k + 1 => if hx l p k < 0 ∨ dg (l.getD (p + k) 0).toNat < 0 then -1 else hx l p k * 16 + dg (l.getD (p + k) 0).toNat

theorem hx_bd (l : List UInt8) (p : Nat) : ∀ k, k ≤ 4 → -1 ≤ hx l p k ∧ hx l p k ≤ 65535 := by
  have b : ∀ k, -1 ≤ hx l p k ∧ hx l p k < 16 ^ k := by
    intro k
    induction k with
    | zero => simp [hx]
    | succ k ih =>
      have d := dg_bd (l.getD (p + k) 0).toNat
      have e : (16 : Int) ^ (k + 1) = 16 ^ k * 16 := Int.pow_succ ..
      have pos : (0 : Int) < 16 ^ k := Int.pow_pos (by decide)
      unfold hx
      split <;> omega
  intro k hk
  have := b k
  have : (16 : Int) ^ k ≤ 65536 := by
    rcases (show k = 0 ∨ k = 1 ∨ k = 2 ∨ k = 3 ∨ k = 4 by omega) with rfl | rfl | rfl | rfl | rfl <;> decide
  omega
theorem hx_neg (l : List UInt8) (p k : Nat) (h : hx l p k < 0) : ∀ j, k ≤ j → hx l p j < 0 := by
  intro j hj
  induction j with
  | zero => obtain rfl : k = 0 := by omega
            exact h
  | succ j ih =>
    by_cases e : k = j + 1
    · subst e; exact h
    · have := ih (by omega)
      unfold hx; rw [if_pos (Or.inl this)]; omega
end Go.Proofs.YtjcaffpmcgfhaaaDoor.utfP
