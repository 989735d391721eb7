/-
  Plain: the code point at the head of a text, as Go's decoder tells it, is the one whose bytes stand there.
-/
import Derived.Lib.TrimUEq
import Derived.Test.YtjcaffpmcgfhaaaDoorUtfP
namespace Go.Proofs.YtjcaffpmcgfhaaaDoor.utfQ
open utfP

/-- the code point at a text's head and its size; (0, 0): there is none -/
def dec (l : List UInt8) : Nat × Nat := if l = [] ∨ ((Lib.decodeL l).1 = 65533 ∧ (Lib.decodeL l).2 < 2) then (0, 0) else Lib.decodeL l

def bt (l : List UInt8) (k : Nat) : Nat := (l.getD k 0).toNat
theorem bt_lt (l : List UInt8) (k : Nat) : bt l k < 256 := (l.getD k 0).toNat_lt

/-- what the bytes would be, if they were k of one -/
def nk (l : List UInt8) : Nat → Nat
  | 1 => bt l 0
  | 2 => bt l 0 % 32 * 64 + bt l 1 % 64
  | 3 => (bt l 0 % 16 * 64 + bt l 1 % 64) * 64 + bt l 2 % 64
  | _ => ((bt l 0 % 8 * 64 + bt l 1 % 64) * 64 + bt l 2 % 64) * 64 + bt l 3 % 64

def Ok (l : List UInt8) (k : Nat) : Prop := k ≤ l.length ∧ Pt (nk l k) ∧ (Utf8.encode (nk l k : Int)).data.toList = l.take k

theorem take1 {l : List UInt8} (h : 1 ≤ l.length) : l.take 1 = [l.getD 0 0] := by
  match l, h with
  | a :: t, _ => simp
theorem take2 {l : List UInt8} (h : 2 ≤ l.length) : l.take 2 = [l.getD 0 0, l.getD 1 0] := by
  match l, h with
  | a :: b :: t, _ => simp
theorem take3 {l : List UInt8} (h : 3 ≤ l.length) : l.take 3 = [l.getD 0 0, l.getD 1 0, l.getD 2 0] := by
  match l, h with
  | a :: b :: c :: t, _ => simp
theorem take4 {l : List UInt8} (h : 4 ≤ l.length) : l.take 4 = [l.getD 0 0, l.getD 1 0, l.getD 2 0, l.getD 3 0] := by
  match l, h with
  | a :: b :: c :: d :: t, _ => simp
theorem of_eq (n : Nat) (c : UInt8) (h : n < 256) : UInt8.ofNat n = c ↔ n = c.toNat := by
  constructor
  · rintro rfl; simp; omega
  · intro e; rw [e]; simp

theorem ok1 (l : List UInt8) : Ok l 1 ↔ 1 ≤ l.length ∧ bt l 0 < 128 := by
  have hb := bt_lt l 0
  unfold Ok
  constructor
  · rintro ⟨h1, h2, h3⟩
    refine ⟨h1, ?_⟩
    by_cases c : bt l 0 < 128
    · exact c
    · rw [show nk l 1 = bt l 0 from rfl, enc2 _ c (by omega), take1 h1] at h3
      simp at h3
  · rintro ⟨h1, h2⟩
    refine ⟨h1, ⟨by omega, by simp [nk]; omega, by simp [nk]; omega⟩, ?_⟩
    rw [show nk l 1 = bt l 0 from rfl, enc1 _ h2, take1 h1]
    simp [bt]
theorem ok2 (l : List UInt8) : Ok l 2 ↔ 2 ≤ l.length ∧ 128 ≤ nk l 2 ∧ bt l 0 / 32 = 6 ∧ bt l 1 / 64 = 2 := by
  have hb := bt_lt l 0
  have hb1 := bt_lt l 1
  have hn : nk l 2 = bt l 0 % 32 * 64 + bt l 1 % 64 := rfl
  unfold Ok
  constructor
  · rintro ⟨h1, h2, h3⟩
    refine ⟨h1, ?_⟩
    by_cases c : nk l 2 < 128
    · rw [enc1 _ c, take2 h1] at h3
      simp at h3
    · rw [enc2 _ c (by omega), take2 h1] at h3
      simp only [List.cons.injEq, and_true] at h3
      obtain ⟨e1, e2⟩ := h3
      rw [of_eq _ _ (by omega)] at e1 e2
      change _ = bt l 0 at e1
      change _ = bt l 1 at e2
      omega
  · rintro ⟨h1, h2, h3, h4⟩
    refine ⟨h1, ⟨by omega, by omega, by omega⟩, ?_⟩
    rw [enc2 _ (by omega) (by omega), take2 h1]
    simp only [List.cons.injEq, and_true]
    rw [of_eq _ _ (by omega), of_eq _ _ (by omega)]
    change _ = bt l 0 ∧ _ = bt l 1
    omega
theorem ok3 (l : List UInt8) : Ok l 3 ↔ 3 ≤ l.length ∧ 2048 ≤ nk l 3 ∧ Pt (nk l 3) ∧ bt l 0 / 16 = 14 ∧ bt l 1 / 64 = 2 ∧ bt l 2 / 64 = 2 := by
  have hb := bt_lt l 0
  have hb1 := bt_lt l 1
  have hb2 := bt_lt l 2
  have hn : nk l 3 = (bt l 0 % 16 * 64 + bt l 1 % 64) * 64 + bt l 2 % 64 := rfl
  unfold Ok
  constructor
  · rintro ⟨h1, h2, h3⟩
    have hp := h2
    obtain ⟨p1, p2, p3⟩ := h2
    refine ⟨h1, ?_⟩
    by_cases c : nk l 3 < 128
    · rw [enc1 _ c, take3 h1] at h3
      simp at h3
    by_cases c2 : nk l 3 < 2048
    · rw [enc2 _ c c2, take3 h1] at h3
      simp at h3
    · rw [enc3 _ c2 (by omega) (by omega), take3 h1] at h3
      simp only [List.cons.injEq, and_true] at h3
      obtain ⟨e1, e2, e3⟩ := h3
      rw [of_eq _ _ (by omega)] at e1 e2 e3
      change _ = bt l 0 at e1
      change _ = bt l 1 at e2
      change _ = bt l 2 at e3
      exact ⟨by omega, hp, by omega, by omega, by omega⟩
  · rintro ⟨h1, h2, hp, h3, h4, h5⟩
    have hp' := hp
    obtain ⟨p1, p2, p3⟩ := hp
    refine ⟨h1, hp', ?_⟩
    rw [enc3 _ (by omega) (by omega) (by omega), take3 h1]
    simp only [List.cons.injEq, and_true]
    rw [of_eq _ _ (by omega), of_eq _ _ (by omega), of_eq _ _ (by omega)]
    change _ = bt l 0 ∧ _ = bt l 1 ∧ _ = bt l 2
    omega
theorem ok4 (l : List UInt8) : Ok l 4 ↔ 4 ≤ l.length ∧ 65536 ≤ nk l 4 ∧ nk l 4 ≤ 1114111 ∧ bt l 0 / 8 = 30 ∧ bt l 1 / 64 = 2 ∧ bt l 2 / 64 = 2 ∧ bt l 3 / 64 = 2 := by
  have hb := bt_lt l 0
  have hb1 := bt_lt l 1
  have hb2 := bt_lt l 2
  have hb3 := bt_lt l 3
  have hn : nk l 4 = ((bt l 0 % 8 * 64 + bt l 1 % 64) * 64 + bt l 2 % 64) * 64 + bt l 3 % 64 := rfl
  unfold Ok
  constructor
  · rintro ⟨h1, h2, h3⟩
    obtain ⟨p1, p2, p3⟩ := h2
    refine ⟨h1, ?_⟩
    by_cases c : nk l 4 < 128
    · rw [enc1 _ c, take4 h1] at h3
      simp at h3
    by_cases c2 : nk l 4 < 2048
    · rw [enc2 _ c c2, take4 h1] at h3
      simp at h3
    by_cases c3 : nk l 4 < 65536
    · rw [enc3 _ c2 c3 (by omega), take4 h1] at h3
      simp at h3
    · rw [enc4 _ c3 (by omega), take4 h1] at h3
      simp only [List.cons.injEq, and_true] at h3
      obtain ⟨e1, e2, e3, e4⟩ := h3
      rw [of_eq _ _ (by omega)] at e1 e2 e3 e4
      change _ = bt l 0 at e1
      change _ = bt l 1 at e2
      change _ = bt l 2 at e3
      change _ = bt l 3 at e4
      omega
  · rintro ⟨h1, h2, h2', h3, h4, h5, h6⟩
    refine ⟨h1, ⟨by omega, by omega, by omega⟩, ?_⟩
    rw [enc4 _ (by omega) (by omega), take4 h1]
    simp only [List.cons.injEq, and_true]
    rw [of_eq _ _ (by omega), of_eq _ _ (by omega), of_eq _ _ (by omega), of_eq _ _ (by omega)]
    change _ = bt l 0 ∧ _ = bt l 1 ∧ _ = bt l 2 ∧ _ = bt l 3
    omega

theorem dcd_eq (l : List UInt8) : Lib.decodeL l = Lib.decodeN l.length (bt l 0) (bt l 1) (bt l 2) (bt l 3) := Lib.decodeL_N l

theorem dec_of {l : List UInt8} {n k : Nat} (hl : 1 ≤ l.length) (h : Lib.decodeL l = (n, k)) (hn : ¬ (n = 65533 ∧ k < 2)) : dec l = (n, k) := by
  unfold dec; rw [h, if_neg]
  rintro (rfl | h2)
  · simp at hl
  · exact hn h2
theorem dec_no {l : List UInt8} (h : Lib.decodeL l = (65533, 1)) : dec l = (0, 0) := by
  unfold dec; rw [h, if_pos (Or.inr ⟨rfl, by decide⟩)]

theorem four (x y z u : Nat) : x * 262144 + y * 4096 + z * 64 + u = ((x * 64 + y) * 64 + z) * 64 + u := by omega
theorem three (x y z : Nat) : x * 4096 + y * 64 + z = (x * 64 + y) * 64 + z := by omega

theorem dec1 {l : List UInt8} (h : Ok l 1) : dec l = (nk l 1, 1) := by
  obtain ⟨h1, h2⟩ := (ok1 l).1 h
  refine dec_of h1 ?_ (by simp [nk]; omega)
  rw [dcd_eq, Lib.decodeN, if_pos h2]; rfl
theorem dec2 {l : List UInt8} (h : Ok l 2) : dec l = (nk l 2, 2) := by
  obtain ⟨h1, h2, h3, h4⟩ := (ok2 l).1 h
  refine dec_of (by omega) ?_ (by omega)
  have hn : nk l 2 = bt l 0 % 32 * 64 + bt l 1 % 64 := rfl
  rw [dcd_eq, Lib.decodeN, if_neg (by omega), if_pos ⟨h3, by omega, h4⟩, if_pos (by omega), hn]
theorem dec3 {l : List UInt8} (h : Ok l 3) : dec l = (nk l 3, 3) := by
  obtain ⟨h1, h2, ⟨p1, p2, p3⟩, h3, h4, h5⟩ := (ok3 l).1 h
  refine dec_of (by omega) ?_ (by omega)
  have hn : nk l 3 = (bt l 0 % 16 * 64 + bt l 1 % 64) * 64 + bt l 2 % 64 := rfl
  have e : bt l 0 % 16 * 4096 + bt l 1 % 64 * 64 + bt l 2 % 64 = nk l 3 := three _ _ _
  rw [dcd_eq, Lib.decodeN, if_neg (by omega), if_neg (by omega), if_pos ⟨h3, ⟨by omega, h4⟩, by omega, h5⟩, e, if_pos (by omega)]
theorem dec4 {l : List UInt8} (h : Ok l 4) : dec l = (nk l 4, 4) := by
  obtain ⟨h1, h2, h2', h3, h4, h5, h6⟩ := (ok4 l).1 h
  refine dec_of (by omega) ?_ (by omega)
  have hn : nk l 4 = ((bt l 0 % 8 * 64 + bt l 1 % 64) * 64 + bt l 2 % 64) * 64 + bt l 3 % 64 := rfl
  have e : bt l 0 % 8 * 262144 + bt l 1 % 64 * 4096 + bt l 2 % 64 * 64 + bt l 3 % 64 = nk l 4 := four _ _ _ _
  rw [dcd_eq, Lib.decodeN, if_neg (by omega), if_neg (by omega), if_neg (by omega), if_pos ⟨h3, ⟨by omega, h4⟩, ⟨by omega, h5⟩, by omega, h6⟩, e, if_pos (by omega)]
theorem dec0 {l : List UInt8} (hl : 1 ≤ l.length) (n1 : ¬ Ok l 1) (n2 : ¬ Ok l 2) (n3 : ¬ Ok l 3) (n4 : ¬ Ok l 4) : dec l = (0, 0) := by
  rw [ok1] at n1
  rw [ok2] at n2
  rw [ok3] at n3
  rw [ok4] at n4
  have e2 : nk l 2 = bt l 0 % 32 * 64 + bt l 1 % 64 := rfl
  have e3 : nk l 3 = (bt l 0 % 16 * 64 + bt l 1 % 64) * 64 + bt l 2 % 64 := rfl
  have e4 : nk l 4 = ((bt l 0 % 8 * 64 + bt l 1 % 64) * 64 + bt l 2 % 64) * 64 + bt l 3 % 64 := rfl
  have f3 : bt l 0 % 16 * 4096 + bt l 1 % 64 * 64 + bt l 2 % 64 = nk l 3 := three _ _ _
  have f4 : bt l 0 % 8 * 262144 + bt l 1 % 64 * 4096 + bt l 2 % 64 * 64 + bt l 3 % 64 = nk l 4 := four _ _ _ _
  apply dec_no
  have hb := bt_lt l 0
  rw [dcd_eq, Lib.decodeN, if_neg (by omega)]
  by_cases c2 : bt l 0 / 32 = 6 ∧ (1 < l.length ∧ bt l 1 / 64 = 2)
  · rw [if_pos c2, if_neg (by omega)]
  rw [if_neg c2]
  by_cases c3 : bt l 0 / 16 = 14 ∧ (1 < l.length ∧ bt l 1 / 64 = 2) ∧ (2 < l.length ∧ bt l 2 / 64 = 2)
  · rw [if_pos c3, f3, if_neg]
    intro h
    apply n3
    exact ⟨by omega, h.1, ⟨by omega, by omega, by omega⟩, c3.1, c3.2.1.2, c3.2.2.2⟩
  rw [if_neg c3]
  by_cases c4 : bt l 0 / 8 = 30 ∧ (1 < l.length ∧ bt l 1 / 64 = 2) ∧ (2 < l.length ∧ bt l 2 / 64 = 2) ∧ (3 < l.length ∧ bt l 3 / 64 = 2)
  · rw [if_pos c4, f4, if_neg]
    intro h
    apply n4
    exact ⟨by omega, h.1, by omega, c4.1, c4.2.1.2, c4.2.2.1.2, c4.2.2.2.2⟩
  rw [if_neg c4]

/-- what the decoder says, for any text -/
theorem dec_sound {l : List UInt8} (h : 0 < (dec l).2) : ∃ k, 1 ≤ k ∧ k ≤ 4 ∧ Ok l k ∧ dec l = (nk l k, k) := by
  by_cases hl : 1 ≤ l.length
  · by_cases o1 : Ok l 1
    · exact ⟨1, by omega, by omega, o1, dec1 o1⟩
    by_cases o2 : Ok l 2
    · exact ⟨2, by omega, by omega, o2, dec2 o2⟩
    by_cases o3 : Ok l 3
    · exact ⟨3, by omega, by omega, o3, dec3 o3⟩
    by_cases o4 : Ok l 4
    · exact ⟨4, by omega, by omega, o4, dec4 o4⟩
    · rw [dec0 hl o1 o2 o3 o4] at h; cases h
  · have : l = [] := by cases l with
      | nil => rfl
      | cons a t => simp at hl
    subst this; simp [dec] at h

theorem dec_key0 (n k : Nat) (l : List UInt8) (hp : Pt (n : Int)) (hk : ∀ l, Ok l k → dec l = (nk l k, k)) (hn : nk l k = n) (h1 : k ≤ l.length) (h2 : (Utf8.encode (n : Int)).data.toList = l.take k) : dec l = (n, k) := by
  have hok : Ok l k := ⟨h1, hn.symm ▸ hp, by rw [hn]; exact h2⟩
  rw [hk l hok, hn]
theorem dec_key (n : Nat) (hp : Pt (n : Int)) (t : List UInt8) (k : Nat) (hk : ∀ l, Ok l k → dec l = (nk l k, k)) (hn : nk ((Utf8.encode (n : Int)).data.toList ++ t) k = n) (hs : (Utf8.encode (n : Int)).size = k) :
    dec ((Utf8.encode (n : Int)).data.toList ++ t) = (n, (Utf8.encode (n : Int)).size) := by
  have e1 : (Utf8.encode (n : Int)).data.toList.length = k := by rw [Array.length_toList, ByteArray.size_data]; exact hs
  rw [dec_key0 n k _ hp hk hn (by rw [List.length_append, e1]; exact Nat.le_add_right _ _) (by rw [List.take_append_of_le_length (Nat.le_of_eq e1.symm), ← e1, List.take_length]), hs]
theorem size_mk (a : Array UInt8) : (ByteArray.mk a).size = a.size := rfl
theorem dec_enc1 (n : Nat) (c1 : n < 128) (t : List UInt8) (hp : Pt (n : Int)) : dec ((Utf8.encode (n : Int)).data.toList ++ t) = (n, (Utf8.encode (n : Int)).size) := by
  refine dec_key n hp t 1 (fun l => dec1) ?_ (by rw [enc1 n c1, size_mk]; simp)
  rw [enc1 n c1]; simp [nk, bt]; omega
theorem dec_enc2 (n : Nat) (c1 : ¬ n < 128) (c2 : n < 2048) (t : List UInt8) (hp : Pt (n : Int)) : dec ((Utf8.encode (n : Int)).data.toList ++ t) = (n, (Utf8.encode (n : Int)).size) := by
  refine dec_key n hp t 2 (fun l => dec2) ?_ (by rw [enc2 n c1 c2, size_mk]; simp)
  rw [enc2 n c1 c2]; simp [nk, bt]; omega
theorem dec_enc3 (n : Nat) (c2 : ¬ n < 2048) (c3 : n < 65536) (t : List UInt8) (hp : Pt (n : Int)) : dec ((Utf8.encode (n : Int)).data.toList ++ t) = (n, (Utf8.encode (n : Int)).size) := by
  have hp2 := hp.2.2
  refine dec_key n hp t 3 (fun l => dec3) ?_ (by rw [enc3 n c2 c3 (by omega), size_mk]; simp)
  rw [enc3 n c2 c3 (by omega)]; simp [nk, bt]; omega
theorem dec_enc4 (n : Nat) (c3 : ¬ n < 65536) (t : List UInt8) (hp : Pt (n : Int)) : dec ((Utf8.encode (n : Int)).data.toList ++ t) = (n, (Utf8.encode (n : Int)).size) := by
  have hp2 := hp.2.1
  refine dec_key n hp t 4 (fun l => dec4) ?_ (by rw [enc4 n c3 (by omega), size_mk]; simp)
  have e : ∀ x0 x1 x2 x3 : UInt8, nk ((ByteArray.mk #[x0, x1, x2, x3]).data.toList ++ t) 4 = ((x0.toNat % 8 * 64 + x1.toNat % 64) * 64 + x2.toNat % 64) * 64 + x3.toNat % 64 := fun _ _ _ _ => rfl
  rw [enc4 n c3 (by omega), e]
  have h0 : (UInt8.ofNat (240 + n / 262144)).toNat = 240 + n / 262144 := by simp; omega
  have h1 : (UInt8.ofNat (128 + n / 4096 % 64)).toNat = 128 + n / 4096 % 64 := by simp; omega
  have h2 : (UInt8.ofNat (128 + n / 64 % 64)).toNat = 128 + n / 64 % 64 := by simp; omega
  have h3 : (UInt8.ofNat (128 + n % 64)).toNat = 128 + n % 64 := by simp; omega
  rw [h0, h1, h2, h3]
  have a0 : (240 + n / 262144) % 8 = n / 262144 := by omega
  have a1 : (128 + n / 4096 % 64) % 64 = n / 4096 % 64 := by omega
  have a2 : (128 + n / 64 % 64) % 64 = n / 64 % 64 := by omega
  have a3 : (128 + n % 64) % 64 = n % 64 := by omega
  rw [a0, a1, a2, a3]
  omega

/-- a code point's bytes at the head of a text are it -/
theorem dec_enc (r : Int) (h : Pt r) (t : List UInt8) : dec ((Utf8.encode r).data.toList ++ t) = (r.toNat, (Utf8.encode r).size) := by
  obtain ⟨n, rfl⟩ := Int.eq_ofNat_of_zero_le h.1
  rw [Int.toNat_natCast]
  by_cases c1 : n < 128
  · exact dec_enc1 n c1 t h
  by_cases c2 : n < 2048
  · exact dec_enc2 n c1 c2 t h
  by_cases c3 : n < 65536
  · exact dec_enc3 n c2 c3 t h
  · exact dec_enc4 n c3 t h

end Go.Proofs.YtjcaffpmcgfhaaaDoor.utfQ
