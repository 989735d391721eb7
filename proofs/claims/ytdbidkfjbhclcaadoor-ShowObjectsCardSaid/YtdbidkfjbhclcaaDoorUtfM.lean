/-
  Plain facts on the model's own encoding of a code point, and on hexadecimal digits.
  Plain: the code point at the head of a text, as Go's decoder tells it, is the one whose bytes stand there.
  Plain: a text's code points (pts), and when there are such.
  Plain: which string stands at a text's head, piece by piece (pc, tk); a text's string (qB).
-/
import GoSem.Conv.IntToString
import Derived.Lib.TrimUEq
import Derived.Lib.ValidU
namespace Go.Proofs.YtdbidkfjbhclcaaDoor.utfP

def Pt (r : Int) : Prop := 0 ≤ r ∧ r ≤ 1114111 ∧ (r < 55296 ∨ 57343 < r)

theorem enc1 (r : Nat) (c1 : r < 128) : Utf8.encode (r : Int) = ⟨#[UInt8.ofNat r]⟩ := by
  have v : Utf8.valid (r : Int) = true := by simp [Utf8.valid]; omega
  simp [Utf8.encode, v, c1]
theorem enc2 (r : Nat) (c1 : ¬ r < 128) (c2 : r < 2048) : Utf8.encode (r : Int) = ⟨#[UInt8.ofNat (192 + r / 64), UInt8.ofNat (128 + r % 64)]⟩ := by
  have v : Utf8.valid (r : Int) = true := by simp [Utf8.valid]; omega
  simp [Utf8.encode, v, c1, c2]
theorem enc3 (r : Nat) (c2 : ¬ r < 2048) (c3 : r < 65536) (hv : r < 55296 ∨ 57344 ≤ r) : Utf8.encode (r : Int) = ⟨#[UInt8.ofNat (224 + r / 4096), UInt8.ofNat (128 + r / 64 % 64), UInt8.ofNat (128 + r % 64)]⟩ := by
  have v : Utf8.valid (r : Int) = true := by simp [Utf8.valid]; omega
  have c1 : ¬ r < 128 := by omega
  simp [Utf8.encode, v, c1, c2, c3]
theorem enc4 (r : Nat) (c3 : ¬ r < 65536) (c4 : r ≤ 1114111) : Utf8.encode (r : Int) = ⟨#[UInt8.ofNat (240 + r / 262144), UInt8.ofNat (128 + r / 4096 % 64), UInt8.ofNat (128 + r / 64 % 64), UInt8.ofNat (128 + r % 64)]⟩ := by
  have v : Utf8.valid (r : Int) = true := by simp [Utf8.valid]; omega
  have c1 : ¬ r < 128 := by omega
  have c2 : ¬ r < 2048 := by omega
  simp [Utf8.encode, v, c1, c2, c3]

theorem enc_size4 (r : Int) (h1 : 65536 ≤ r) (h2 : r ≤ 1114111) : (Utf8.encode r).size = 4 := by
  obtain ⟨n, rfl⟩ := Int.eq_ofNat_of_zero_le (show 0 ≤ r by omega)
  rw [enc4 n (by omega) (by omega)]; rfl
theorem enc_size3 (r : Int) (h : Pt r) (h2 : r < 65536) : 1 ≤ (Utf8.encode r).size ∧ (Utf8.encode r).size ≤ 3 := by
  obtain ⟨h0, h1, h3⟩ := h
  obtain ⟨n, rfl⟩ := Int.eq_ofNat_of_zero_le h0
  by_cases c1 : n < 128
  · rw [enc1 n c1]; simp [ByteArray.size]
  by_cases c2 : n < 2048
  · rw [enc2 n c1 c2]; simp [ByteArray.size]
  · rw [enc3 n c2 (by omega) (by omega)]; simp [ByteArray.size]

/-- a hexadecimal digit's value; -1: it is none -/
def dg (c : Int) : Int := if 48 ≤ c ∧ c ≤ 57 then c - 48 else if 97 ≤ c ∧ c ≤ 102 then c - 87 else if 65 ≤ c ∧ c ≤ 70 then c - 55 else -1

theorem dg_bd (c : Int) : -1 ≤ dg c ∧ dg c ≤ 15 := by unfold dg; repeat' split
                                                      all_goals omega

/-- the number of the first k digits from a place on; -1: one is none -/
def hx (l : List UInt8) (p : Nat) : Nat → Int
  | 0 => 0
  | k + 1 => if hx l p k < 0 ∨ dg (l.getD (p + k) 0).toNat < 0 then -1 else hx l p k * 16 + dg (l.getD (p + k) 0).toNat

theorem hx_bd (l : List UInt8) (p : Nat) : ∀ k, k ≤ 4 → -1 ≤ hx l p k ∧ hx l p k ≤ 65535 := by
  have b : ∀ k, -1 ≤ hx l p k ∧ hx l p k < 16 ^ k := by
    intro k
    induction k with
    | zero => simp [hx]
    | succ k ih =>
      have d := dg_bd (l.getD (p + k) 0).toNat
      have e : (16 : Int) ^ (k + 1) = 16 ^ k * 16 := Int.pow_succ ..
      have pos : (0 : Int) < 16 ^ k := Int.pow_pos (by decide)
      unfold hx
      split <;> omega
  intro k hk
  have := b k
  have : (16 : Int) ^ k ≤ 65536 := by
    rcases (show k = 0 ∨ k = 1 ∨ k = 2 ∨ k = 3 ∨ k = 4 by omega) with rfl | rfl | rfl | rfl | rfl <;> decide
  omega
theorem hx_neg (l : List UInt8) (p k : Nat) (h : hx l p k < 0) : ∀ j, k ≤ j → hx l p j < 0 := by
  intro j hj
  induction j with
  | zero => obtain rfl : k = 0 := by omega
            exact h
  | succ j ih =>
    by_cases e : k = j + 1
    · subst e; exact h
    · have := ih (by omega)
      unfold hx; rw [if_pos (Or.inl this)]; omega
end Go.Proofs.YtdbidkfjbhclcaaDoor.utfP
namespace Go.Proofs.YtdbidkfjbhclcaaDoor.utfQ
open utfP

/-- the code point at a text's head and its size; (0, 0): there is none -/
def dec (l : List UInt8) : Nat × Nat := if l = [] ∨ ((Lib.decodeL l).1 = 65533 ∧ (Lib.decodeL l).2 < 2) then (0, 0) else Lib.decodeL l

def bt (l : List UInt8) (k : Nat) : Nat := (l.getD k 0).toNat
theorem bt_lt (l : List UInt8) (k : Nat) : bt l k < 256 := (l.getD k 0).toNat_lt

/-- what the bytes would be, if they were k of one -/
def nk (l : List UInt8) : Nat → Nat
  | 1 => bt l 0
  | 2 => bt l 0 % 32 * 64 + bt l 1 % 64
  | 3 => (bt l 0 % 16 * 64 + bt l 1 % 64) * 64 + bt l 2 % 64
  | _ => ((bt l 0 % 8 * 64 + bt l 1 % 64) * 64 + bt l 2 % 64) * 64 + bt l 3 % 64

def Ok (l : List UInt8) (k : Nat) : Prop := k ≤ l.length ∧ Pt (nk l k) ∧ (Utf8.encode (nk l k : Int)).data.toList = l.take k

theorem take1 {l : List UInt8} (h : 1 ≤ l.length) : l.take 1 = [l.getD 0 0] := by
  match l, h with
  | a :: t, _ => simp
theorem take2 {l : List UInt8} (h : 2 ≤ l.length) : l.take 2 = [l.getD 0 0, l.getD 1 0] := by
  match l, h with
  | a :: b :: t, _ => simp
theorem take3 {l : List UInt8} (h : 3 ≤ l.length) : l.take 3 = [l.getD 0 0, l.getD 1 0, l.getD 2 0] := by
  match l, h with
  | a :: b :: c :: t, _ => simp
theorem take4 {l : List UInt8} (h : 4 ≤ l.length) : l.take 4 = [l.getD 0 0, l.getD 1 0, l.getD 2 0, l.getD 3 0] := by
  match l, h with
  | a :: b :: c :: d :: t, _ => simp
theorem of_eq (n : Nat) (c : UInt8) (h : n < 256) : UInt8.ofNat n = c ↔ n = c.toNat := by
  constructor
  · rintro rfl; simp; omega
  · intro e; rw [e]; simp

theorem ok1 (l : List UInt8) : Ok l 1 ↔ 1 ≤ l.length ∧ bt l 0 < 128 := by
  have hb := bt_lt l 0
  unfold Ok
  constructor
  · rintro ⟨h1, h2, h3⟩
    refine ⟨h1, ?_⟩
    by_cases c : bt l 0 < 128
    · exact c
    · rw [show nk l 1 = bt l 0 from rfl, enc2 _ c (by omega), take1 h1] at h3
      simp at h3
  · rintro ⟨h1, h2⟩
    refine ⟨h1, ⟨by omega, by simp [nk]; omega, by simp [nk]; omega⟩, ?_⟩
    rw [show nk l 1 = bt l 0 from rfl, enc1 _ h2, take1 h1]
    simp [bt]
theorem ok2 (l : List UInt8) : Ok l 2 ↔ 2 ≤ l.length ∧ 128 ≤ nk l 2 ∧ bt l 0 / 32 = 6 ∧ bt l 1 / 64 = 2 := by
  have hb := bt_lt l 0
  have hb1 := bt_lt l 1
  have hn : nk l 2 = bt l 0 % 32 * 64 + bt l 1 % 64 := rfl
  unfold Ok
  constructor
  · rintro ⟨h1, h2, h3⟩
    refine ⟨h1, ?_⟩
    by_cases c : nk l 2 < 128
    · rw [enc1 _ c, take2 h1] at h3
      simp at h3
    · rw [enc2 _ c (by omega), take2 h1] at h3
      simp only [List.cons.injEq, and_true] at h3
      obtain ⟨e1, e2⟩ := h3
      rw [of_eq _ _ (by omega)] at e1 e2
      change _ = bt l 0 at e1
      change _ = bt l 1 at e2
      omega
  · rintro ⟨h1, h2, h3, h4⟩
    refine ⟨h1, ⟨by omega, by omega, by omega⟩, ?_⟩
    rw [enc2 _ (by omega) (by omega), take2 h1]
    simp only [List.cons.injEq, and_true]
    rw [of_eq _ _ (by omega), of_eq _ _ (by omega)]
    change _ = bt l 0 ∧ _ = bt l 1
    omega
theorem ok3 (l : List UInt8) : Ok l 3 ↔ 3 ≤ l.length ∧ 2048 ≤ nk l 3 ∧ Pt (nk l 3) ∧ bt l 0 / 16 = 14 ∧ bt l 1 / 64 = 2 ∧ bt l 2 / 64 = 2 := by
  have hb := bt_lt l 0
  have hb1 := bt_lt l 1
  have hb2 := bt_lt l 2
  have hn : nk l 3 = (bt l 0 % 16 * 64 + bt l 1 % 64) * 64 + bt l 2 % 64 := rfl
  unfold Ok
  constructor
  · rintro ⟨h1, h2, h3⟩
    have hp := h2
    obtain ⟨p1, p2, p3⟩ := h2
    refine ⟨h1, ?_⟩
    by_cases c : nk l 3 < 128
    · rw [enc1 _ c, take3 h1] at h3
      simp at h3
    by_cases c2 : nk l 3 < 2048
    · rw [enc2 _ c c2, take3 h1] at h3
      simp at h3
    · rw [enc3 _ c2 (by omega) (by omega), take3 h1] at h3
      simp only [List.cons.injEq, and_true] at h3
      obtain ⟨e1, e2, e3⟩ := h3
      rw [of_eq _ _ (by omega)] at e1 e2 e3
      change _ = bt l 0 at e1
      change _ = bt l 1 at e2
      change _ = bt l 2 at e3
      exact ⟨by omega, hp, by omega, by omega, by omega⟩
  · rintro ⟨h1, h2, hp, h3, h4, h5⟩
    have hp' := hp
    obtain ⟨p1, p2, p3⟩ := hp
    refine ⟨h1, hp', ?_⟩
    rw [enc3 _ (by omega) (by omega) (by omega), take3 h1]
    simp only [List.cons.injEq, and_true]
    rw [of_eq _ _ (by omega), of_eq _ _ (by omega), of_eq _ _ (by omega)]
    change _ = bt l 0 ∧ _ = bt l 1 ∧ _ = bt l 2
    omega
theorem ok4 (l : List UInt8) : Ok l 4 ↔ 4 ≤ l.length ∧ 65536 ≤ nk l 4 ∧ nk l 4 ≤ 1114111 ∧ bt l 0 / 8 = 30 ∧ bt l 1 / 64 = 2 ∧ bt l 2 / 64 = 2 ∧ bt l 3 / 64 = 2 := by
  have hb := bt_lt l 0
  have hb1 := bt_lt l 1
  have hb2 := bt_lt l 2
  have hb3 := bt_lt l 3
  have hn : nk l 4 = ((bt l 0 % 8 * 64 + bt l 1 % 64) * 64 + bt l 2 % 64) * 64 + bt l 3 % 64 := rfl
  unfold Ok
  constructor
  · rintro ⟨h1, h2, h3⟩
    obtain ⟨p1, p2, p3⟩ := h2
    refine ⟨h1, ?_⟩
    by_cases c : nk l 4 < 128
    · rw [enc1 _ c, take4 h1] at h3
      simp at h3
    by_cases c2 : nk l 4 < 2048
    · rw [enc2 _ c c2, take4 h1] at h3
      simp at h3
    by_cases c3 : nk l 4 < 65536
    · rw [enc3 _ c2 c3 (by omega), take4 h1] at h3
      simp at h3
    · rw [enc4 _ c3 (by omega), take4 h1] at h3
      simp only [List.cons.injEq, and_true] at h3
      obtain ⟨e1, e2, e3, e4⟩ := h3
      rw [of_eq _ _ (by omega)] at e1 e2 e3 e4
      change _ = bt l 0 at e1
      change _ = bt l 1 at e2
      change _ = bt l 2 at e3
      change _ = bt l 3 at e4
      omega
  · rintro ⟨h1, h2, h2', h3, h4, h5, h6⟩
    refine ⟨h1, ⟨by omega, by omega, by omega⟩, ?_⟩
    rw [enc4 _ (by omega) (by omega), take4 h1]
    simp only [List.cons.injEq, and_true]
    rw [of_eq _ _ (by omega), of_eq _ _ (by omega), of_eq _ _ (by omega), of_eq _ _ (by omega)]
    change _ = bt l 0 ∧ _ = bt l 1 ∧ _ = bt l 2 ∧ _ = bt l 3
    omega

theorem dcd_eq (l : List UInt8) : Lib.decodeL l = Lib.decodeN l.length (bt l 0) (bt l 1) (bt l 2) (bt l 3) := Lib.decodeL_N l

theorem dec_of {l : List UInt8} {n k : Nat} (hl : 1 ≤ l.length) (h : Lib.decodeL l = (n, k)) (hn : ¬ (n = 65533 ∧ k < 2)) : dec l = (n, k) := by
  unfold dec; rw [h, if_neg]
  rintro (rfl | h2)
  · simp at hl
  · exact hn h2
theorem dec_no {l : List UInt8} (h : Lib.decodeL l = (65533, 1)) : dec l = (0, 0) := by
  unfold dec; rw [h, if_pos (Or.inr ⟨rfl, by decide⟩)]

theorem four (x y z u : Nat) : x * 262144 + y * 4096 + z * 64 + u = ((x * 64 + y) * 64 + z) * 64 + u := by omega
theorem three (x y z : Nat) : x * 4096 + y * 64 + z = (x * 64 + y) * 64 + z := by omega

theorem dec1 {l : List UInt8} (h : Ok l 1) : dec l = (nk l 1, 1) := by
  obtain ⟨h1, h2⟩ := (ok1 l).1 h
  refine dec_of h1 ?_ (by simp [nk]; omega)
  rw [dcd_eq, Lib.decodeN, if_pos h2]; rfl
theorem dec2 {l : List UInt8} (h : Ok l 2) : dec l = (nk l 2, 2) := by
  obtain ⟨h1, h2, h3, h4⟩ := (ok2 l).1 h
  refine dec_of (by omega) ?_ (by omega)
  have hn : nk l 2 = bt l 0 % 32 * 64 + bt l 1 % 64 := rfl
  rw [dcd_eq, Lib.decodeN, if_neg (by omega), if_pos ⟨h3, by omega, h4⟩, if_pos (by omega), hn]
theorem dec3 {l : List UInt8} (h : Ok l 3) : dec l = (nk l 3, 3) := by
  obtain ⟨h1, h2, ⟨p1, p2, p3⟩, h3, h4, h5⟩ := (ok3 l).1 h
  refine dec_of (by omega) ?_ (by omega)
  have hn : nk l 3 = (bt l 0 % 16 * 64 + bt l 1 % 64) * 64 + bt l 2 % 64 := rfl
  have e : bt l 0 % 16 * 4096 + bt l 1 % 64 * 64 + bt l 2 % 64 = nk l 3 := three _ _ _
  rw [dcd_eq, Lib.decodeN, if_neg (by omega), if_neg (by omega), if_pos ⟨h3, ⟨by omega, h4⟩, by omega, h5⟩, e, if_pos (by omega)]
theorem dec4 {l : List UInt8} (h : Ok l 4) : dec l = (nk l 4, 4) := by
  obtain ⟨h1, h2, h2', h3, h4, h5, h6⟩ := (ok4 l).1 h
  refine dec_of (by omega) ?_ (by omega)
  have hn : nk l 4 = ((bt l 0 % 8 * 64 + bt l 1 % 64) * 64 + bt l 2 % 64) * 64 + bt l 3 % 64 := rfl
  have e : bt l 0 % 8 * 262144 + bt l 1 % 64 * 4096 + bt l 2 % 64 * 64 + bt l 3 % 64 = nk l 4 := four _ _ _ _
  rw [dcd_eq, Lib.decodeN, if_neg (by omega), if_neg (by omega), if_neg (by omega), if_pos ⟨h3, ⟨by omega, h4⟩, ⟨by omega, h5⟩, by omega, h6⟩, e, if_pos (by omega)]
theorem dec0 {l : List UInt8} (hl : 1 ≤ l.length) (n1 : ¬ Ok l 1) (n2 : ¬ Ok l 2) (n3 : ¬ Ok l 3) (n4 : ¬ Ok l 4) : dec l = (0, 0) := by
  rw [ok1] at n1
  rw [ok2] at n2
  rw [ok3] at n3
  rw [ok4] at n4
  have e2 : nk l 2 = bt l 0 % 32 * 64 + bt l 1 % 64 := rfl
  have e3 : nk l 3 = (bt l 0 % 16 * 64 + bt l 1 % 64) * 64 + bt l 2 % 64 := rfl
  have e4 : nk l 4 = ((bt l 0 % 8 * 64 + bt l 1 % 64) * 64 + bt l 2 % 64) * 64 + bt l 3 % 64 := rfl
  have f3 : bt l 0 % 16 * 4096 + bt l 1 % 64 * 64 + bt l 2 % 64 = nk l 3 := three _ _ _
  have f4 : bt l 0 % 8 * 262144 + bt l 1 % 64 * 4096 + bt l 2 % 64 * 64 + bt l 3 % 64 = nk l 4 := four _ _ _ _
  apply dec_no
  have hb := bt_lt l 0
  rw [dcd_eq, Lib.decodeN, if_neg (by omega)]
  by_cases c2 : bt l 0 / 32 = 6 ∧ (1 < l.length ∧ bt l 1 / 64 = 2)
  · rw [if_pos c2, if_neg (by omega)]
  rw [if_neg c2]
  by_cases c3 : bt l 0 / 16 = 14 ∧ (1 < l.length ∧ bt l 1 / 64 = 2) ∧ (2 < l.length ∧ bt l 2 / 64 = 2)
  · rw [if_pos c3, f3, if_neg]
    intro h
    apply n3
    exact ⟨by omega, h.1, ⟨by omega, by omega, by omega⟩, c3.1, c3.2.1.2, c3.2.2.2⟩
  rw [if_neg c3]
  by_cases c4 : bt l 0 / 8 = 30 ∧ (1 < l.length ∧ bt l 1 / 64 = 2) ∧ (2 < l.length ∧ bt l 2 / 64 = 2) ∧ (3 < l.length ∧ bt l 3 / 64 = 2)
  · rw [if_pos c4, f4, if_neg]
    intro h
    apply n4
    exact ⟨by omega, h.1, by omega, c4.1, c4.2.1.2, c4.2.2.1.2, c4.2.2.2.2⟩
  rw [if_neg c4]

/-- what the decoder says, for any text -/
theorem dec_sound {l : List UInt8} (h : 0 < (dec l).2) : ∃ k, 1 ≤ k ∧ k ≤ 4 ∧ Ok l k ∧ dec l = (nk l k, k) := by
  by_cases hl : 1 ≤ l.length
  · by_cases o1 : Ok l 1
    · exact ⟨1, by omega, by omega, o1, dec1 o1⟩
    by_cases o2 : Ok l 2
    · exact ⟨2, by omega, by omega, o2, dec2 o2⟩
    by_cases o3 : Ok l 3
    · exact ⟨3, by omega, by omega, o3, dec3 o3⟩
    by_cases o4 : Ok l 4
    · exact ⟨4, by omega, by omega, o4, dec4 o4⟩
    · rw [dec0 hl o1 o2 o3 o4] at h; cases h
  · have : l = [] := by cases l with
      | nil => rfl
      | cons a t => simp at hl
    subst this; simp [dec] at h

theorem dec_key0 (n k : Nat) (l : List UInt8) (hp : Pt (n : Int)) (hk : ∀ l, Ok l k → dec l = (nk l k, k)) (hn : nk l k = n) (h1 : k ≤ l.length) (h2 : (Utf8.encode (n : Int)).data.toList = l.take k) : dec l = (n, k) := by
  have hok : Ok l k := ⟨h1, hn.symm ▸ hp, by rw [hn]; exact h2⟩
  rw [hk l hok, hn]
theorem dec_key (n : Nat) (hp : Pt (n : Int)) (t : List UInt8) (k : Nat) (hk : ∀ l, Ok l k → dec l = (nk l k, k)) (hn : nk ((Utf8.encode (n : Int)).data.toList ++ t) k = n) (hs : (Utf8.encode (n : Int)).size = k) :
    dec ((Utf8.encode (n : Int)).data.toList ++ t) = (n, (Utf8.encode (n : Int)).size) := by
  have e1 : (Utf8.encode (n : Int)).data.toList.length = k := by rw [Array.length_toList, ByteArray.size_data]; exact hs
  rw [dec_key0 n k _ hp hk hn (by rw [List.length_append, e1]; exact Nat.le_add_right _ _) (by rw [List.take_append_of_le_length (Nat.le_of_eq e1.symm), ← e1, List.take_length]), hs]
theorem size_mk (a : Array UInt8) : (ByteArray.mk a).size = a.size := rfl
theorem dec_enc1 (n : Nat) (c1 : n < 128) (t : List UInt8) (hp : Pt (n : Int)) : dec ((Utf8.encode (n : Int)).data.toList ++ t) = (n, (Utf8.encode (n : Int)).size) := by
  refine dec_key n hp t 1 (fun l => dec1) ?_ (by rw [enc1 n c1, size_mk]; simp)
  rw [enc1 n c1]; simp [nk, bt]; omega
theorem dec_enc2 (n : Nat) (c1 : ¬ n < 128) (c2 : n < 2048) (t : List UInt8) (hp : Pt (n : Int)) : dec ((Utf8.encode (n : Int)).data.toList ++ t) = (n, (Utf8.encode (n : Int)).size) := by
  refine dec_key n hp t 2 (fun l => dec2) ?_ (by rw [enc2 n c1 c2, size_mk]; simp)
  rw [enc2 n c1 c2]; simp [nk, bt]; omega
theorem dec_enc3 (n : Nat) (c2 : ¬ n < 2048) (c3 : n < 65536) (t : List UInt8) (hp : Pt (n : Int)) : dec ((Utf8.encode (n : Int)).data.toList ++ t) = (n, (Utf8.encode (n : Int)).size) := by
  have hp2 := hp.2.2
  refine dec_key n hp t 3 (fun l => dec3) ?_ (by rw [enc3 n c2 c3 (by omega), size_mk]; simp)
  rw [enc3 n c2 c3 (by omega)]; simp [nk, bt]; omega
theorem dec_enc4 (n : Nat) (c3 : ¬ n < 65536) (t : List UInt8) (hp : Pt (n : Int)) : dec ((Utf8.encode (n : Int)).data.toList ++ t) = (n, (Utf8.encode (n : Int)).size) := by
  have hp2 := hp.2.1
  refine dec_key n hp t 4 (fun l => dec4) ?_ (by rw [enc4 n c3 (by omega), size_mk]; simp)
  have e : ∀ x0 x1 x2 x3 : UInt8, nk ((ByteArray.mk #[x0, x1, x2, x3]).data.toList ++ t) 4 = ((x0.toNat % 8 * 64 + x1.toNat % 64) * 64 + x2.toNat % 64) * 64 + x3.toNat % 64 := fun _ _ _ _ => rfl
  rw [enc4 n c3 (by omega), e]
  have h0 : (UInt8.ofNat (240 + n / 262144)).toNat = 240 + n / 262144 := by simp; omega
  have h1 : (UInt8.ofNat (128 + n / 4096 % 64)).toNat = 128 + n / 4096 % 64 := by simp; omega
  have h2 : (UInt8.ofNat (128 + n / 64 % 64)).toNat = 128 + n / 64 % 64 := by simp; omega
  have h3 : (UInt8.ofNat (128 + n % 64)).toNat = 128 + n % 64 := by simp; omega
  rw [h0, h1, h2, h3]
  have a0 : (240 + n / 262144) % 8 = n / 262144 := by omega
  have a1 : (128 + n / 4096 % 64) % 64 = n / 4096 % 64 := by omega
  have a2 : (128 + n / 64 % 64) % 64 = n / 64 % 64 := by omega
  have a3 : (128 + n % 64) % 64 = n % 64 := by omega
  rw [a0, a1, a2, a3]
  omega

/-- a code point's bytes at the head of a text are it -/
theorem dec_enc (r : Int) (h : Pt r) (t : List UInt8) : dec ((Utf8.encode r).data.toList ++ t) = (r.toNat, (Utf8.encode r).size) := by
  obtain ⟨n, rfl⟩ := Int.eq_ofNat_of_zero_le h.1
  rw [Int.toNat_natCast]
  by_cases c1 : n < 128
  · exact dec_enc1 n c1 t h
  by_cases c2 : n < 2048
  · exact dec_enc2 n c1 c2 t h
  by_cases c3 : n < 65536
  · exact dec_enc3 n c2 c3 t h
  · exact dec_enc4 n c3 t h

end Go.Proofs.YtdbidkfjbhclcaaDoor.utfQ
namespace Go.Proofs.YtdbidkfjbhclcaaDoor.utfR
open utfP utfQ

def ptsF : Nat → List UInt8 → Option (List Nat)
  | 0, l => if l = [] then some [] else none
  | n + 1, l => if l = [] then some [] else if (dec l).2 = 0 then none else (ptsF n (l.drop (dec l).2)).map ((dec l).1 :: ·)
/-- a text's code points; none: it is no code points' -/
def pts (l : List UInt8) : Option (List Nat) := ptsF l.length l

theorem dec_le {l : List UInt8} : (dec l).2 ≤ l.length := by
  by_cases h : 0 < (dec l).2
  · obtain ⟨k, _, _, ho, e⟩ := dec_sound h
    rw [e]; exact ho.1
  · omega

theorem ptsF_nil (n : Nat) : ptsF n [] = some [] := by cases n <;> simp [ptsF]
theorem ptsF_more : ∀ (n m : Nat) (l : List UInt8), l.length ≤ n → l.length ≤ m → ptsF n l = ptsF m l := by
  intro n
  induction n with
  | zero =>
    intro m l h _
    have : l = [] := by cases l with
      | nil => rfl
      | cons a t => simp at h
    subst this; rw [ptsF_nil, ptsF_nil]
  | succ n ih =>
    intro m l h hm
    by_cases e : l = []
    · subst e; rw [ptsF_nil, ptsF_nil]
    · cases m with
      | zero => have : l.length = 0 := by omega
                exact absurd (List.length_eq_zero_iff.1 this) e
      | succ m =>
        simp only [ptsF]
        rw [if_neg e, if_neg e]
        by_cases z : (dec l).2 = 0
        · rw [if_pos z, if_pos z]
        · rw [if_neg z, if_neg z, ih m _ (by rw [List.length_drop]; omega) (by rw [List.length_drop]; omega)]
theorem pts_nil : pts [] = some [] := rfl
theorem pts_step {l : List UInt8} (h : l ≠ []) : pts l = if (dec l).2 = 0 then none else (pts (l.drop (dec l).2)).map ((dec l).1 :: ·) := by
  unfold pts
  cases hl : l.length with
  | zero => exact absurd (List.length_eq_zero_iff.1 hl) h
  | succ n =>
    simp only [ptsF]
    rw [if_neg h]
    by_cases z : (dec l).2 = 0
    · rw [if_pos z, if_pos z]
    · rw [if_neg z, if_neg z, ptsF_more n (l.drop (dec l).2).length _ (by rw [List.length_drop]; omega) (Nat.le_refl _)]
theorem pts_no {l : List UInt8} (h : l ≠ []) (z : (dec l).2 = 0) : pts l = none := by rw [pts_step h, if_pos z]
theorem pts_yes {l : List UInt8} (h : l ≠ []) (z : (dec l).2 ≠ 0) : pts l = (pts (l.drop (dec l).2)).map ((dec l).1 :: ·) := by rw [pts_step h, if_neg z]

theorem decodeL_pos (l : List UInt8) : 1 ≤ (Lib.decodeL l).2 := by
  rw [dcd_eq]; unfold Lib.decodeN
  repeat' split
  all_goals dsimp only
  all_goals omega
theorem dec_zero {l : List UInt8} (h : l ≠ []) : (dec l).2 = 0 ↔ ((Lib.decodeL l).1 = 65533 ∧ (Lib.decodeL l).2 = 1) := by
  have hp := decodeL_pos l
  unfold dec
  by_cases c : (Lib.decodeL l).1 = 65533 ∧ (Lib.decodeL l).2 < 2
  · rw [if_pos (Or.inr c)]; simp only [true_iff]; omega
  · rw [if_neg (by rintro (x | x); exact h x; exact c x)]; omega
theorem dec_decodeL {l : List UInt8} (z : (dec l).2 ≠ 0) : Lib.decodeL l = dec l := by
  unfold dec at *
  split at z
  · exact absurd rfl z
  · rename_i c; rw [if_neg c]

theorem valid_pts : ∀ (n : Nat) (l : List UInt8), l.length ≤ n → Lib.validGoD n l = (ptsF n l).isSome := by
  intro n
  induction n with
  | zero =>
    intro l h
    have : l = [] := by cases l with
      | nil => rfl
      | cons a t => simp at h
    subst this; rfl
  | succ n ih =>
    intro l h
    simp only [Lib.validGoD, ptsF]
    by_cases e : l = []
    · rw [if_pos e, if_pos e]; rfl
    · rw [if_neg e, if_neg e]
      by_cases z : (dec l).2 = 0
      · rw [if_pos z, if_pos ((dec_zero e).1 z)]; rfl
      · rw [if_neg z, if_neg (fun x => z ((dec_zero e).2 x)), dec_decodeL z, ih _ (by rw [List.length_drop]; omega), Option.isSome_map]
theorem valid_eq (l : List UInt8) : Lib.validD l = (pts l).isSome := valid_pts _ l (Nat.le_refl _)

end Go.Proofs.YtdbidkfjbhclcaaDoor.utfR
namespace Go.Proofs.YtdbidkfjbhclcaaDoor.quoteP
open utfP utfQ utfR

instance (r : Int) : Decidable (Pt r) := by unfold Pt; infer_instance

/-- the code point that a byte behind a backslash stands for, but for u -/
def letr (c : Nat) : Option Nat := if c = 34 ∨ c = 92 ∨ c = 47 then some c else if c = 98 then some 8 else if c = 102 then some 12 else if c = 110 then some 10 else if c = 114 then some 13 else if c = 116 then some 9 else none

/-- the piece that begins with a backslash and u: its code point and its size -/
def hexd (l : List UInt8) : Option (Int × Nat) :=
  if l.length < 6 ∨ hx l 2 4 < 0 then none
  else if Pt (hx l 2 4) then some (hx l 2 4, 6)
  else if l.length < 12 ∨ bt l 6 ≠ 92 ∨ bt l 7 ≠ 117 ∨ hx l 8 4 < 0 then none
  else if 55296 ≤ hx l 2 4 ∧ hx l 2 4 < 56320 ∧ 56320 ≤ hx l 8 4 ∧ hx l 8 4 ≤ 57343 then some (65536 + 1024 * (hx l 2 4 - 55296) + (hx l 8 4 - 56320), 12) else none

/-- the piece at a text's head -/
def pc (l : List UInt8) : Option (Int × Nat) :=
  if bt l 0 ≠ 92 then (if (dec l).2 = 0 ∨ (dec l).1 < 32 ∨ (dec l).1 = 34 then none else some (((dec l).1 : Int), (dec l).2))
  else if l.length < 2 then none
  else if bt l 1 = 117 then hexd l
  else (letr (bt l 1)).map fun r => ((r : Int), 2)

theorem ebEx : ∃ f : Int → List UInt8, ∀ r, f r = (Utf8.encode r).data.toList := ⟨fun r => (Utf8.encode r).data.toList, fun _ => rfl⟩
/-- a code point's bytes (behind a name that doesn't unfold) -/
noncomputable def eb (r : Int) : List UInt8 := Classical.choose ebEx r
theorem eb_def (r : Int) : eb r = (Utf8.encode r).data.toList := Classical.choose_spec ebEx r
theorem eb_len (r : Int) : (eb r).length = (Utf8.encode r).size := by rw [eb_def, Array.length_toList, ByteArray.size_data]

noncomputable def tkF : Nat → List UInt8 → Option (List UInt8 × Nat)
  | 0, _ => none
  | n + 1, l => if l = [] then none else if bt l 0 = 34 then some ([], 1) else
      match pc l with
      | none => none
      | some q => (tkF n (l.drop q.2)).map fun x => (eb q.1 ++ x.1, q.2 + x.2)
/-- what stands in a text up to its quote: the text that is meant, and how many bytes -/
noncomputable def tk (l : List UInt8) : Option (List UInt8 × Nat) := tkF l.length l

theorem hx_drop (l : List UInt8) (p q : Nat) : ∀ k, hx (l.drop p) q k = hx l (p + q) k
  | 0 => rfl
  | k + 1 => by
    have e : (l.drop p).getD (q + k) 0 = l.getD (p + q + k) 0 := by simp [List.getD, Nat.add_assoc]
    unfold hx
    rw [hx_drop l p q k, e]
theorem hx_congr (l m : List UInt8) (p : Nat) : ∀ k, (∀ j, j < k → l.getD (p + j) 0 = m.getD (p + j) 0) → hx l p k = hx m p k
  | 0, _ => rfl
  | k + 1, h => by
    unfold hx
    rw [hx_congr l m p k (fun j hj => h j (by omega)), h k (by omega)]

theorem letr_lt {c n : Nat} (h : letr c = some n) : n < 128 := by
  unfold letr at h
  split at h
  · obtain rfl := Option.some.inj h; omega
  repeat' (split at h)
  all_goals first | (obtain rfl := Option.some.inj h; omega) | cases h

theorem pc_view {l : List UInt8} {r : Int} {k : Nat} (h : pc l = some (r, k)) :
    (bt l 0 ≠ 92 ∧ (dec l).2 = k ∧ ((dec l).1 : Int) = r ∧ k ≠ 0 ∧ 32 ≤ r ∧ r ≠ 34) ∨ (bt l 0 = 92 ∧ 2 ≤ l.length ∧ bt l 1 ≠ 117 ∧ k = 2 ∧ ∃ n, letr (bt l 1) = some n ∧ r = (n : Int)) ∨ (bt l 0 = 92 ∧ 2 ≤ l.length ∧ bt l 1 = 117 ∧ hexd l = some (r, k)) := by
  unfold pc at h
  by_cases h0 : bt l 0 ≠ 92
  · rw [if_pos h0] at h
    by_cases hb : (dec l).2 = 0 ∨ (dec l).1 < 32 ∨ (dec l).1 = 34
    · rw [if_pos hb] at h; cases h
    · rw [if_neg hb] at h
      have := Option.some.inj h
      rw [Prod.mk.injEq] at this
      obtain ⟨e1, e2⟩ := this
      exact Or.inl ⟨h0, e2, e1, by omega, by omega, by omega⟩
  · rw [if_neg h0] at h
    have h0' : bt l 0 = 92 := by omega
    by_cases h2 : l.length < 2
    · rw [if_pos h2] at h; cases h
    · rw [if_neg h2] at h
      by_cases h1 : bt l 1 = 117
      · rw [if_pos h1] at h
        exact Or.inr (Or.inr ⟨h0', by omega, h1, h⟩)
      · rw [if_neg h1] at h
        cases hl : letr (bt l 1) with
        | none => rw [hl] at h; cases h
        | some n =>
          rw [hl] at h
          have := Option.some.inj h
          rw [Prod.mk.injEq] at this
          exact Or.inr (Or.inl ⟨h0', by omega, h1, this.2.symm, n, rfl, this.1.symm⟩)

theorem hexd_view {l : List UInt8} {r : Int} {k : Nat} (h : hexd l = some (r, k)) :
    (6 ≤ l.length ∧ 0 ≤ hx l 2 4 ∧ Pt (hx l 2 4) ∧ r = hx l 2 4 ∧ k = 6) ∨ (12 ≤ l.length ∧ ¬ Pt (hx l 2 4) ∧ bt l 6 = 92 ∧ bt l 7 = 117 ∧ 55296 ≤ hx l 2 4 ∧ hx l 2 4 < 56320 ∧ 56320 ≤ hx l 8 4 ∧ hx l 8 4 ≤ 57343 ∧ r = 65536 + 1024 * (hx l 2 4 - 55296) + (hx l 8 4 - 56320) ∧ k = 12) := by
  unfold hexd at h
  by_cases h0 : l.length < 6 ∨ hx l 2 4 < 0
  · rw [if_pos h0] at h; cases h
  rw [if_neg h0] at h
  by_cases h1 : Pt (hx l 2 4)
  · rw [if_pos h1] at h
    have := Option.some.inj h
    rw [Prod.mk.injEq] at this
    exact Or.inl ⟨by omega, by omega, h1, this.1.symm, this.2.symm⟩
  rw [if_neg h1] at h
  by_cases h2 : l.length < 12 ∨ bt l 6 ≠ 92 ∨ bt l 7 ≠ 117 ∨ hx l 8 4 < 0
  · rw [if_pos h2] at h; cases h
  rw [if_neg h2] at h
  by_cases h3 : 55296 ≤ hx l 2 4 ∧ hx l 2 4 < 56320 ∧ 56320 ≤ hx l 8 4 ∧ hx l 8 4 ≤ 57343
  · rw [if_pos h3] at h
    have := Option.some.inj h
    rw [Prod.mk.injEq] at this
    exact Or.inr ⟨by omega, h1, by omega, by omega, h3.1, h3.2.1, h3.2.2.1, h3.2.2.2, this.1.symm, this.2.symm⟩
  · rw [if_neg h3] at h; cases h

theorem dec_ok {l : List UInt8} {k : Nat} (h : (dec l).2 = k) (hk : k ≠ 0) : Pt ((dec l).1 : Int) ∧ 1 ≤ k ∧ k ≤ 4 ∧ k ≤ l.length ∧ eb ((dec l).1 : Int) = l.take k := by
  obtain ⟨j, h1, h4, ho, e⟩ := dec_sound (l := l) (by omega)
  rw [e] at h ⊢
  dsimp only at h ⊢
  subst h
  exact ⟨ho.2.1, h1, h4, ho.1, (eb_def _).trans ho.2.2⟩

theorem ok_dec {l : List UInt8} {r : Int} {k : Nat} (h1 : (dec l).2 = k) (h2 : ((dec l).1 : Int) = r) (h3 : k ≠ 0) : Pt r ∧ 1 ≤ k ∧ k ≤ 12 ∧ k ≤ l.length ∧ 1 ≤ (eb r).length ∧ (eb r).length ≤ k ∧ (eb r).length ≤ 4 := by
  obtain ⟨q1, q2, q3, q4, q5⟩ := dec_ok h1 h3
  rw [h2] at q1 q5
  have e : (eb r).length = k := by rw [q5, List.length_take]; omega
  exact ⟨q1, q2, by omega, q4, by omega, by omega, by omega⟩
theorem eb_small (n : Nat) (h : n < 128) : eb (n : Int) = [UInt8.ofNat n] := by rw [eb_def, enc1 n h]
theorem ok_small {n : Nat} (hn : n < 128) : Pt (n : Int) ∧ (eb (n : Int)).length = 1 := by
  have e : (eb (n : Int)).length = 1 := by rw [eb_small n hn, List.length_singleton]
  have h1 : (0 : Int) ≤ (n : Int) := by omega
  have h2 : (n : Int) ≤ 1114111 := by omega
  have h3 : (n : Int) < 55296 ∨ 57343 < (n : Int) := by omega
  exact ⟨⟨h1, h2, h3⟩, e⟩
theorem ok_four {r : Int} (h1 : 65536 ≤ r) (h2 : r ≤ 1114111) : Pt r ∧ (eb r).length = 4 := by
  refine ⟨⟨by omega, h2, by omega⟩, ?_⟩
  rw [eb_len]; exact enc_size4 r h1 h2
/-- what a piece is -/
theorem pc_ok {l : List UInt8} {r : Int} {k : Nat} (h : pc l = some (r, k)) : Pt r ∧ 1 ≤ k ∧ k ≤ 12 ∧ k ≤ l.length ∧ 1 ≤ (eb r).length ∧ (eb r).length ≤ k ∧ (eb r).length ≤ 4 := by
  rcases pc_view h with ⟨h0, h1, h2, h3, h4, h5⟩ | ⟨h0, h1, h2, h3, n, h4, h5⟩ | ⟨h0, h1, h2, h3⟩
  · exact ok_dec h1 h2 h3
  · obtain ⟨a1, a2⟩ := ok_small (letr_lt h4)
    rw [h5]
    exact ⟨a1, by omega, by omega, by omega, by omega, by omega, by omega⟩
  · rcases hexd_view h3 with ⟨a1, a2, a3, a4, a5⟩ | ⟨a1, a2, a3, a4, b1, b2, b3, b4, b5, b6⟩
    · have hb := hx_bd l 2 4 (Nat.le_refl _)
      have := enc_size3 _ a3 (by omega)
      rw [← eb_len] at this
      rw [a4]
      exact ⟨a3, by omega, by omega, by omega, by omega, by omega, by omega⟩
    · obtain ⟨c1, c2⟩ := ok_four (r := r) (by omega) (by omega)
      exact ⟨c1, by omega, by omega, by omega, by omega, by omega, by omega⟩

theorem take_getD (l t : List UInt8) (k j : Nat) (hk : k ≤ l.length) (hj : j < k) : (l.take k ++ t).getD j 0 = l.getD j 0 := by
  rw [List.getD_eq_getElem?_getD, List.getD_eq_getElem?_getD, List.getElem?_append_left (by rw [List.length_take]; omega), List.getElem?_take, if_pos hj]
theorem take_bt (l t : List UInt8) (k j : Nat) (hk : k ≤ l.length) (hj : j < k) : bt (l.take k ++ t) j = bt l j := by
  unfold bt; rw [take_getD l t k j hk hj]

theorem dec_eb (r : Int) (h : Pt r) (t : List UInt8) : dec (eb r ++ t) = (r.toNat, (eb r).length) := by
  rw [eb_len, eb_def]; exact dec_enc r h t
theorem dec_ebN (n : Nat) (h : Pt (n : Int)) (t : List UInt8) : dec (eb (n : Int) ++ t) = (n, (eb (n : Int)).length) := by
  rw [dec_eb _ h, Int.toNat_natCast]
theorem eb_pos (r : Int) (hp : Pt r) : 1 ≤ (eb r).length := by
  rw [eb_len]
  by_cases h2 : r < 65536
  · exact (enc_size3 _ hp h2).1
  · rw [enc_size4 _ (by omega) hp.2.1]; decide
/-- a piece doesn't hang on what is behind -/
theorem pc_local {l : List UInt8} {r : Int} {k : Nat} (h : pc l = some (r, k)) (t : List UInt8) : pc (l.take k ++ t) = some (r, k) := by
  obtain ⟨p1, p2, p3, p4, p5, p6, p7⟩ := pc_ok h
  have hlen : (l.take k ++ t).length = k + t.length := by rw [List.length_append, List.length_take, Nat.min_eq_left p4]
  have b0 : bt (l.take k ++ t) 0 = bt l 0 := take_bt l t k 0 p4 (by omega)
  rcases pc_view h with ⟨h0, h1, h2, h3, h4, h5⟩ | ⟨h0, h1, h2, rfl, n, h4, rfl⟩ | ⟨h0, h1, h2, h3⟩
  · obtain ⟨q1, q2, q3, q4, q5⟩ := dec_ok h1 h3
    rw [h2] at q1 q5
    have hd : dec (l.take k ++ t) = (r.toNat, k) := by
      rw [← q5]
      have := dec_enc r q1 t
      rw [eb_def, this, ← eb_len, q5, List.length_take, Nat.min_eq_left p4]
    unfold pc
    rw [b0, if_pos h0, hd, if_neg (by dsimp only; omega)]
    dsimp only
    rw [Int.toNat_of_nonneg q1.1]
  · unfold pc
    rw [b0, if_neg (by omega), if_neg (by omega), take_bt l t 2 1 p4 (by omega), if_neg h2, h4]; rfl
  · unfold pc
    have bb1 : bt (l.take k ++ t) 1 = bt l 1 := by
      refine take_bt l t k 1 p4 ?_
      rcases hexd_view h3 with ⟨a1, a2, a3, rfl, rfl⟩ | ⟨a1, a2, a3, a4, b1, b2, b3, b4, rfl, rfl⟩ <;> omega
    rw [b0, if_neg (by omega), bb1, if_pos h2]
    rcases hexd_view h3 with ⟨a1, a2, a3, rfl, rfl⟩ | ⟨a1, a2, a3, a4, b1, b2, b3, b4, rfl, rfl⟩
    · have e : hx (l.take 6 ++ t) 2 4 = hx l 2 4 := hx_congr _ _ _ _ (fun j hj => take_getD l t 6 (2 + j) p4 (by omega))
      rw [if_neg (by omega)]
      unfold hexd
      rw [e, if_neg (by omega), if_pos a3]
    · have e : hx (l.take 12 ++ t) 2 4 = hx l 2 4 := hx_congr _ _ _ _ (fun j hj => take_getD l t 12 (2 + j) p4 (by omega))
      have e2 : hx (l.take 12 ++ t) 8 4 = hx l 8 4 := hx_congr _ _ _ _ (fun j hj => take_getD l t 12 (8 + j) p4 (by omega))
      have c6 : bt (l.take 12 ++ t) 6 = bt l 6 := take_bt l t 12 6 p4 (by omega)
      have c7 : bt (l.take 12 ++ t) 7 = bt l 7 := take_bt l t 12 7 p4 (by omega)
      rw [if_neg (by omega)]
      unfold hexd
      rw [e, e2, c6, c7, if_neg (by omega), if_neg a2, if_neg (by omega), if_pos ⟨b1, b2, b3, b4⟩]

theorem tkF_more : ∀ (n m : Nat) (l : List UInt8), l.length ≤ n → l.length ≤ m → tkF n l = tkF m l := by
  intro n
  induction n with
  | zero =>
    intro m l h _
    obtain rfl : l = [] := List.length_eq_zero_iff.1 (by omega)
    cases m <;> simp [tkF]
  | succ n ih =>
    intro m l h hm
    by_cases e : l = []
    · subst e; cases m <;> simp [tkF]
    · have hp : 0 < l.length := List.length_pos_iff.2 e
      cases m with
      | zero => omega
      | succ m =>
        simp only [tkF]
        rw [if_neg e, if_neg e]
        by_cases z : bt l 0 = 34
        · rw [if_pos z, if_pos z]
        · rw [if_neg z, if_neg z]
          cases hq : pc l with
          | none => rfl
          | some q =>
            obtain ⟨r, k⟩ := q
            obtain ⟨_, p2, _⟩ := pc_ok hq
            dsimp only
            rw [ih m _ (by rw [List.length_drop]; omega) (by rw [List.length_drop]; omega)]
theorem tk_nil : tk [] = none := rfl
theorem tk_end {l : List UInt8} (h : l ≠ []) (z : bt l 0 = 34) : tk l = some ([], 1) := by
  unfold tk
  cases hl : l.length with
  | zero => exact absurd (List.length_eq_zero_iff.1 hl) h
  | succ n => simp only [tkF]; rw [if_neg h, if_pos z]
theorem tk_no {l : List UInt8} (z : bt l 0 ≠ 34) (hq : pc l = none) : tk l = none := by
  unfold tk
  cases hl : l.length with
  | zero => rfl
  | succ n =>
    simp only [tkF]
    rw [if_neg z, hq]; split <;> rfl
theorem tk_yes {l : List UInt8} {r : Int} {k : Nat} (z : bt l 0 ≠ 34) (hq : pc l = some (r, k)) : tk l = (tk (l.drop k)).map fun x => (eb r ++ x.1, k + x.2) := by
  obtain ⟨_, p2, _, p4, _⟩ := pc_ok hq
  have h : l ≠ [] := by rintro rfl; simp at p4; omega
  unfold tk
  cases hl : l.length with
  | zero => exact absurd (List.length_eq_zero_iff.1 hl) h
  | succ n =>
    simp only [tkF]
    rw [if_neg h, if_neg z, hq]
    dsimp only
    rw [tkF_more n (l.drop k).length _ (by rw [List.length_drop]; omega) (Nat.le_refl _)]

theorem tk_len : ∀ (n : Nat) (l : List UInt8), l.length ≤ n → ∀ x m, tk l = some (x, m) → 1 ≤ m ∧ m ≤ l.length ∧ x.length + 1 ≤ m ∧ (pts x).isSome = true := by
  intro n
  induction n with
  | zero =>
    intro l h x m e
    obtain rfl : l = [] := List.length_eq_zero_iff.1 (by omega)
    cases e
  | succ n ih =>
    intro l h x m e
    by_cases hn : l = []
    · subst hn; cases e
    have hp : 0 < l.length := List.length_pos_iff.2 hn
    by_cases z : bt l 0 = 34
    · rw [tk_end hn z] at e
      have := Option.some.inj e
      rw [Prod.mk.injEq] at this
      obtain ⟨rfl, rfl⟩ := this
      exact ⟨by omega, by omega, by simp, rfl⟩
    · cases hq : pc l with
      | none => rw [tk_no z hq] at e; cases e
      | some q =>
        obtain ⟨r, k⟩ := q
        obtain ⟨p1, p2, p3, p4, p5, p6, _⟩ := pc_ok hq
        rw [tk_yes z hq] at e
        cases ht : tk (l.drop k) with
        | none => rw [ht] at e; cases e
        | some y =>
          obtain ⟨y1, y2⟩ := y
          rw [ht] at e
          have := Option.some.inj e
          rw [Prod.mk.injEq] at this
          obtain ⟨rfl, rfl⟩ := this
          obtain ⟨i1, i2, i3, i4⟩ := ih (l.drop k) (by rw [List.length_drop]; omega) y1 y2 ht
          rw [List.length_drop] at i2
          refine ⟨by omega, by dsimp only; omega, by rw [List.length_append]; dsimp only; omega, ?_⟩
          have hd := dec_enc r p1 y1
          have hne : eb r ++ y1 ≠ [] := by
            intro hh
            have := congrArg List.length hh
            rw [List.length_append, List.length_nil] at this
            omega
          dsimp only
          have hz : (dec (eb r ++ y1)).2 ≠ 0 := by
            rw [eb_def, hd]; dsimp only; rw [← eb_len]; omega
          rw [pts_yes hne hz, Option.isSome_map]
          rw [eb_def, hd]
          dsimp only
          have hdr : ((Utf8.encode r).data.toList ++ y1).drop (Utf8.encode r).size = y1 := by
            rw [← eb_len, ← eb_def]; exact List.drop_left
          rw [hdr]; exact i4

/-- what is read of pieces doesn't hang on what is behind them -/
theorem tk_app : ∀ (n : Nat) (a : List UInt8), a.length ≤ n → ∀ x, tk (a ++ [34]) = some (x, a.length + 1) → ∀ t, tk (a ++ t) = (tk t).map fun y => (x ++ y.1, a.length + y.2) := by
  intro n
  induction n with
  | zero =>
    intro a h x e t
    obtain rfl : a = [] := List.length_eq_zero_iff.1 (by omega)
    have e' : tk [34] = some ([], 1) := tk_end (by simp) rfl
    rw [List.nil_append, e'] at e
    have := Option.some.inj e
    rw [Prod.mk.injEq] at this
    obtain ⟨rfl, _⟩ := this
    rw [List.nil_append]
    cases tk t <;> simp
  | succ n ih =>
    intro a h x e t
    by_cases hn : a = []
    · subst hn
      have e' : tk [34] = some ([], 1) := tk_end (by simp) rfl
      rw [List.nil_append, e'] at e
      have := Option.some.inj e
      rw [Prod.mk.injEq] at this
      obtain ⟨rfl, _⟩ := this
      rw [List.nil_append]
      cases tk t <;> simp
    have hp : 0 < a.length := List.length_pos_iff.2 hn
    have hb : ∀ s, bt (a ++ s) 0 = bt a 0 := by
      intro s; unfold bt; rw [List.getD_eq_getElem?_getD, List.getD_eq_getElem?_getD, List.getElem?_append_left hp]
    by_cases z : bt a 0 = 34
    · rw [tk_end (by simp) (by rw [hb]; exact z)] at e
      have := Option.some.inj e
      rw [Prod.mk.injEq] at this
      omega
    cases hq : pc (a ++ [34]) with
    | none => rw [tk_no (by rw [hb]; exact z) hq] at e; cases e
    | some q =>
      obtain ⟨r, k⟩ := q
      obtain ⟨p1, p2, p3, p4, p5, p6, _⟩ := pc_ok hq
      rw [tk_yes (by rw [hb]; exact z) hq] at e
      cases ht : tk ((a ++ [34]).drop k) with
      | none => rw [ht] at e; cases e
      | some y =>
        obtain ⟨y1, y2⟩ := y
        rw [ht] at e
        have := Option.some.inj e
        rw [Prod.mk.injEq] at this
        obtain ⟨rfl, e2⟩ := this
        dsimp only at e2
        obtain ⟨i1, i2, _, _⟩ := tk_len _ _ (Nat.le_refl _) y1 y2 ht
        have hk : k ≤ a.length := by omega
        rw [List.drop_append_of_le_length hk] at ht
        have hi := ih (a.drop k) (by rw [List.length_drop]; omega) y1 (by rw [ht, List.length_drop]; congr 2; omega) t
        have hl := pc_local hq (a.drop k ++ t)
        rw [List.take_append_of_le_length hk, ← List.append_assoc, List.take_append_drop] at hl
        rw [tk_yes (by rw [hb]; exact z) hl, List.drop_append_of_le_length hk, hi, Option.map_map]
        congr 1
        funext w
        simp only [Function.comp]
        rw [List.length_drop, List.append_assoc]
        congr 1
        omega

/-! ### a text's string -/
def u00 (a b : UInt8) : List UInt8 := [92, 117, 48, 48, a, b]
/-- the texts of the code points below 32 -/
def ctl : List (List UInt8) := [u00 48 48, u00 48 49, u00 48 50, u00 48 51, u00 48 52, u00 48 53, u00 48 54, u00 48 55, [92, 98], [92, 116], [92, 110], u00 48 98, [92, 102], [92, 114], u00 48 101, u00 48 102,
  u00 49 48, u00 49 49, u00 49 50, u00 49 51, u00 49 52, u00 49 53, u00 49 54, u00 49 55, u00 49 56, u00 49 57, u00 49 97, u00 49 98, u00 49 99, u00 49 100, u00 49 101, u00 49 102]
/-- the text of a byte that doesn't represent itself; [] of another one -/
def esc (c : Nat) : List UInt8 := if c < 32 then ctl.getD c [] else if c = 34 then [92, 34] else if c = 92 then [92, 92] else []
def qB (c : UInt8) : List UInt8 := if esc c.toNat = [] then [c] else esc c.toNat
/-- a code point's text in a string -/
noncomputable def qP (r : Nat) : List UInt8 := if esc r = [] then (if r < 128 then [UInt8.ofNat r] else eb (r : Int)) else esc r
/-- a text's string -/
def qt (l : List UInt8) : List UInt8 := 34 :: (l.flatMap qB ++ [34])

theorem esc_big {c : Nat} (h : 128 ≤ c) : esc c = [] := by unfold esc; rw [if_neg (by omega), if_neg (by omega), if_neg (by omega)]
theorem esc_len (c : Nat) (h : esc c ≠ []) : 2 ≤ (esc c).length ∧ (esc c).length ≤ 6 := by
  by_cases hc : c < 128
  · have : ∀ c : Fin 128, esc c.1 ≠ [] → 2 ≤ (esc c.1).length ∧ (esc c.1).length ≤ 6 := by decide +kernel
    exact this ⟨c, hc⟩ h
  · exact absurd (esc_big (by omega)) h
theorem eb_big {n : Nat} (h : 128 ≤ n) (hp : Pt (n : Int)) : ∀ c ∈ eb (n : Int), 128 ≤ c.toNat := by
  obtain ⟨p1, p2, p3⟩ := hp
  rw [eb_def]
  intro c hc
  by_cases c2 : n < 2048
  · rw [enc2 n (by omega) c2] at hc
    simp only [List.mem_cons, List.mem_nil_iff, or_false] at hc
    rcases hc with rfl | rfl <;> simp <;> omega
  by_cases c3 : n < 65536
  · rw [enc3 n c2 c3 (by omega)] at hc
    simp only [List.mem_cons, List.mem_nil_iff, or_false] at hc
    rcases hc with rfl | rfl | rfl <;> simp <;> omega
  · rw [enc4 n c3 (by omega)] at hc
    simp only [List.mem_cons, List.mem_nil_iff, or_false] at hc
    rcases hc with rfl | rfl | rfl | rfl <;> simp <;> omega

theorem qB_big : ∀ l : List UInt8, (∀ c ∈ l, 128 ≤ c.toNat) → l.flatMap qB = l
  | [], _ => rfl
  | c :: l, h => by
    rw [List.flatMap_cons, qB_big l (fun x hx => h x (by simp [hx]))]
    unfold qB; rw [if_pos (esc_big (h c (by simp)))]; rfl
theorem qP_bytes (n : Nat) (hp : Pt (n : Int)) : (eb (n : Int)).flatMap qB = qP n := by
  by_cases h : n < 128
  · rw [eb_small n h]
    have e : (UInt8.ofNat n).toNat = n := by simp; omega
    simp only [List.flatMap_cons, List.flatMap_nil, List.append_nil]
    unfold qB qP
    rw [e, if_pos h]
  · rw [qB_big _ (eb_big (by omega) hp)]
    unfold qP; rw [if_pos (esc_big (by omega)), if_neg h]

/-- a text is its code points' bytes -/
theorem pts_back : ∀ (n : Nat) (l : List UInt8), l.length ≤ n → ∀ d, pts l = some d → l = d.flatMap (fun r : Nat => eb (r : Int)) ∧ ∀ r ∈ d, Pt (r : Int) := by
  intro n
  induction n with
  | zero =>
    intro l h d e
    obtain rfl : l = [] := List.length_eq_zero_iff.1 (by omega)
    obtain rfl := Option.some.inj e
    exact ⟨rfl, fun r hr => by cases hr⟩
  | succ n ih =>
    intro l h d e
    by_cases hn : l = []
    · subst hn
      obtain rfl := Option.some.inj e
      exact ⟨rfl, fun r hr => by cases hr⟩
    by_cases z : (dec l).2 = 0
    · rw [pts_no hn z] at e; cases e
    · rw [pts_yes hn z] at e
      obtain ⟨q1, q2, q3, q4, q5⟩ := dec_ok (l := l) rfl z
      cases ht : pts (l.drop (dec l).2) with
      | none => rw [ht] at e; cases e
      | some y =>
        rw [ht] at e
        obtain rfl := Option.some.inj e
        obtain ⟨i1, i2⟩ := ih (l.drop (dec l).2) (by rw [List.length_drop]; omega) y ht
        refine ⟨?_, ?_⟩
        · rw [List.flatMap_cons, q5, ← i1, List.take_append_drop]
        · intro r hr
          rcases List.mem_cons.1 hr with rfl | hr
          · exact q1
          · exact i2 r hr
theorem pts_of : ∀ d : List Nat, (∀ r ∈ d, Pt (r : Int)) → pts (d.flatMap fun r : Nat => eb (r : Int)) = some d
  | [], _ => rfl
  | r :: d, h => by
    have hp := h r (by simp)
    have hz := eb_pos _ hp
    have ih := pts_of d (fun x hx => h x (by simp [hx]))
    rw [List.flatMap_cons]
    generalize (d.flatMap fun r : Nat => eb (r : Int)) = t at *
    have e1 := dec_ebN r hp t
    have hne : eb (r : Int) ++ t ≠ [] := by
      intro hh
      have := congrArg List.length hh
      rw [List.length_append, List.length_nil] at this
      omega
    generalize eb (r : Int) = x at *
    rw [pts_yes hne (by rw [e1]; dsimp only; omega), e1]
    dsimp only
    rw [List.drop_left, ih, Option.map_some]
theorem pts_append {a b : List UInt8} (ha : (pts a).isSome = true) (hb : (pts b).isSome = true) : (pts (a ++ b)).isSome = true := by
  obtain ⟨d, hd⟩ := Option.isSome_iff_exists.1 ha
  obtain ⟨f, hf⟩ := Option.isSome_iff_exists.1 hb
  obtain ⟨e1, p1⟩ := pts_back _ a (Nat.le_refl _) d hd
  obtain ⟨e2, p2⟩ := pts_back _ b (Nat.le_refl _) f hf
  rw [e1, e2, ← List.flatMap_append, pts_of _ (by
    intro r hr
    rcases List.mem_append.1 hr with hr | hr
    · exact p1 r hr
    · exact p2 r hr)]
  rfl

theorem qt_pts {l : List UInt8} {d : List Nat} (h : pts l = some d) : l.flatMap qB = d.flatMap qP := by
  obtain ⟨e, hp⟩ := pts_back _ l (Nat.le_refl _) d h
  rw [e, List.flatMap_assoc]
  have : ∀ d : List Nat, (∀ r ∈ d, Pt (r : Int)) → d.flatMap (fun r : Nat => (eb (r : Int)).flatMap qB) = d.flatMap qP := by
    intro d
    induction d with
    | nil => intro _; rfl
    | cons r d ih =>
      intro h
      rw [List.flatMap_cons, List.flatMap_cons, ih (fun x hx => h x (by simp [hx])), qP_bytes r (h r (by simp))]
  exact this d hp

theorem pc_small : ∀ n : Fin 128, pc (qP n.1) = some ((n.1 : Int), (qP n.1).length) ∧ bt (qP n.1) 0 ≠ 34 := by decide +kernel
theorem qP_pos (n : Nat) (hp : Pt (n : Int)) : 1 ≤ (qP n).length := by
  unfold qP
  by_cases h : esc n = []
  · rw [if_pos h]
    by_cases h1 : n < 128
    · rw [if_pos h1]; exact Nat.le_refl _
    rw [if_neg h1, eb_len]
    by_cases h2 : (n : Int) < 65536
    · exact (enc_size3 _ hp h2).1
    · rw [enc_size4 _ (by omega) hp.2.1]; decide
  · rw [if_neg h]; have := esc_len n h; omega
theorem pc_qP (n : Nat) (hp : Pt (n : Int)) (t : List UInt8) : pc (qP n ++ t) = some ((n : Int), (qP n).length) ∧ bt (qP n ++ t) 0 ≠ 34 := by
  have hb : bt (qP n ++ t) 0 = bt (qP n) 0 := by
    unfold bt; rw [List.getD_eq_getElem?_getD, List.getD_eq_getElem?_getD, List.getElem?_append_left (by have := qP_pos n hp; omega)]
  by_cases h : n < 128
  · obtain ⟨e1, e2⟩ := pc_small ⟨n, h⟩
    dsimp only at e1 e2
    have := pc_local e1 t
    rw [List.take_length] at this
    exact ⟨this, by rw [hb]; exact e2⟩
  · have e : qP n = eb (n : Int) := by unfold qP; rw [if_pos (esc_big (by omega)), if_neg h]
    have hd := dec_ebN n hp t
    have hpos := qP_pos n hp
    have hge : 128 ≤ bt (qP n) 0 := by
      unfold bt
      rw [e] at hpos ⊢
      rw [List.getD_eq_getElem?_getD, List.getElem?_eq_getElem (by omega)]
      exact eb_big (by omega) hp _ (List.getElem_mem _)
    refine ⟨?_, by rw [hb]; omega⟩
    unfold pc
    rw [hb, if_pos (by omega), e, hd, if_neg (by dsimp only; rw [e] at hpos; omega)]

/-- a text's string is read back -/
theorem tk_qP : ∀ d : List Nat, (∀ r ∈ d, Pt (r : Int)) → tk (d.flatMap qP ++ [34]) = some (d.flatMap (fun r : Nat => eb (r : Int)), (d.flatMap qP).length + 1)
  | [], _ => tk_end (by simp) rfl
  | r :: d, h => by
    have hp := h r (by simp)
    rw [List.flatMap_cons, List.append_assoc]
    obtain ⟨e1, e2⟩ := pc_qP r hp (d.flatMap qP ++ [34])
    rw [tk_yes e2 e1, List.drop_left, tk_qP d (fun x hx => h x (by simp [hx]))]
    rw [List.flatMap_cons, List.length_append, Option.map_some]
    dsimp only
    congr 2
theorem tk_qt {l : List UInt8} (h : (pts l).isSome = true) : tk (l.flatMap qB ++ [34]) = some (l, (l.flatMap qB).length + 1) := by
  obtain ⟨d, hd⟩ := Option.isSome_iff_exists.1 h
  obtain ⟨e, hp⟩ := pts_back _ l (Nat.le_refl _) d hd
  rw [qt_pts hd, tk_qP d hp, ← e]

theorem qB_len (c : UInt8) : 1 ≤ (qB c).length ∧ (qB c).length ≤ 6 := by
  unfold qB
  by_cases h : esc c.toNat = []
  · rw [if_pos h]; exact ⟨Nat.le_refl _, by simp⟩
  · rw [if_neg h]; have := esc_len _ h; omega
theorem flat_len (l : List UInt8) : l.length ≤ (l.flatMap qB).length ∧ (l.flatMap qB).length ≤ 6 * l.length := by
  induction l with
  | nil => simp
  | cons c l ih =>
    have := qB_len c
    rw [List.flatMap_cons, List.length_append, List.length_cons]; omega
/-- no byte of it needs a backslash -/
def safe (l : List UInt8) : Bool := l.all fun c => (esc c.toNat).isEmpty
theorem safe_iff (l : List UInt8) : safe l = true ↔ l.flatMap qB = l := by
  induction l with
  | nil => simp [safe]
  | cons c l ih =>
    have hs : safe (c :: l) = ((esc c.toNat).isEmpty && safe l) := rfl
    rw [hs, Bool.and_eq_true, ih, List.flatMap_cons]
    by_cases h : esc c.toNat = []
    · have : qB c = [c] := by unfold qB; rw [if_pos h]
      rw [this, h]; simp
    · have h2 := esc_len _ h
      have e : qB c = esc c.toNat := by unfold qB; rw [if_neg h]
      constructor
      · rintro ⟨h1, _⟩; exact absurd (by simpa using h1) h
      · intro h1
        have := congrArg List.length h1
        have hf := flat_len l
        rw [List.length_append, e, List.length_cons] at this
        omega

end Go.Proofs.YtdbidkfjbhclcaaDoor.quoteP
