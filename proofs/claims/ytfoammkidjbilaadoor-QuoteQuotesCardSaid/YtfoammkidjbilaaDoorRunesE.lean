/-
  Contracts: runes.Decode and the reference's Decode tell the code point at a place (dec).
-/
import Derived.Test.YtfoammkidjbilaaDoorRunesD
import Derived.Test.YtfoammkidjbilaaDoorUtfQ
import Derived.Test.YtfoammkidjbilaaDoorShelf
import Derived.Deep.LoopGhost
import Derived.WalkSpells
namespace Go.Proofs.YtfoammkidjbilaaDoor.runesE
open Go.ChangeShapes Go.WideShapes Go.ChangeAt Go.RowKit utfP utfQ runesA runesD

/-- the tables of the library's decoder, as its text lays them -/
def Tabs (w : World) : Prop := Lib.Utf8Tabs 14 15 w

theorem tabs_size {w : World} (h : Tabs w) : 14 < w.heap.size ∧ 15 < w.heap.size :=
  ⟨World.block_lt_of_cell? w ⟨14, 0, none⟩ (h.1 0 (by decide)), World.block_lt_of_cell? w ⟨15, 2 * 0, none⟩ (h.2 0 (by decide)).1⟩
theorem tabs_below {w w' : World} (h : Tabs w) (hb : Below w.heap.size w w') : Tabs w' := by
  obtain ⟨s1, s2⟩ := tabs_size h
  refine ⟨fun c hc => ?_, fun i hi => ⟨?_, ?_⟩⟩
  · rw [hb.cell (p := ⟨14, c, none⟩) s1]; exact h.1 c hc
  · rw [hb.cell (p := ⟨15, 2 * i, none⟩) s2]; exact (h.2 i hi).1
  · rw [hb.cell (p := ⟨15, 2 * i + 1, none⟩) s2]; exact (h.2 i hi).2

theorem ext_drop (S : ByteArray) (k : Nat) : (S.extract k S.size).data.toList = S.data.toList.drop k := by
  rw [ByteArray.data_extract, Array.toList_extract]
  simp [List.extract, List.take_of_length_le]
theorem ext_take (S : ByteArray) (k j : Nat) : (S.extract k (k + j)).data.toList = (S.data.toList.drop k).take j := by
  rw [ByteArray.data_extract, Array.toList_extract]
  simp [List.extract]
theorem ext_size (S : ByteArray) (k : Nat) : (S.extract k S.size).size = S.size - k := by
  rw [ByteArray.size_extract]; omega
theorem toL (s : ByteArray) : s.toList = s.data.toList := Go.ByteArray.toList_eq s

theorem decodeN_bd (n b0 b1 b2 b3 : Nat) (h0 : b0 < 256) : (Lib.decodeN n b0 b1 b2 b3).1 ≤ 2097151 ∧ 1 ≤ (Lib.decodeN n b0 b1 b2 b3).2 ∧ (Lib.decodeN n b0 b1 b2 b3).2 ≤ 4 := by
  unfold Lib.decodeN
  split
  · exact ⟨by dsimp only; omega, by dsimp only; omega, by dsimp only; omega⟩
  split
  · split
    · exact ⟨by dsimp only; omega, by dsimp only; omega, by dsimp only; omega⟩
    · exact ⟨by decide, by decide, by decide⟩
  split
  · split
    · exact ⟨by dsimp only; omega, by dsimp only; omega, by dsimp only; omega⟩
    · exact ⟨by decide, by decide, by decide⟩
  split
  · split
    · exact ⟨by dsimp only; omega, by dsimp only; omega, by dsimp only; omega⟩
    · exact ⟨by decide, by decide, by decide⟩
  · exact ⟨by decide, by decide, by decide⟩

theorem dgo (s : ByteArray) (p : Nat) (h : p < s.size) : ∃ a b : Nat, Lib.decodeGo (s.extract p s.size) = (a, b) ∧ (a : Int) ≤ 2097151 ∧ 1 ≤ b ∧ b ≤ 4 ∧ dec (s.data.toList.drop p) = if a = 65533 ∧ b < 2 then (0, 0) else (a, b) := by
  have e : Lib.decodeGo (s.extract p s.size) = Lib.decodeL (s.data.toList.drop p) := by
    unfold Lib.decodeGo
    rw [if_neg (by rw [ext_size]; omega), ← Lib.decodeL_drop (s.extract p s.size) 0, ext_drop, List.drop_zero]
  have hb := decodeN_bd (s.data.toList.drop p).length _ (bt (s.data.toList.drop p) 1) (bt (s.data.toList.drop p) 2) (bt (s.data.toList.drop p) 3) (bt_lt (s.data.toList.drop p) 0)
  rw [← dcd_eq] at hb
  refine ⟨(Lib.decodeL (s.data.toList.drop p)).1, (Lib.decodeL (s.data.toList.drop p)).2, e, by omega, hb.2.1, hb.2.2, ?_⟩
  have hne : s.data.toList.drop p ≠ [] := by
    rw [ne_eq, List.drop_eq_nil_iff]; simp; omega
  unfold dec
  by_cases c : (Lib.decodeL (s.data.toList.drop p)).1 = 65533 ∧ (Lib.decodeL (s.data.toList.drop p)).2 < 2
  · rw [if_pos (Or.inr c), if_pos c]
  · rw [if_neg (by rintro (h | h); exact hne h; exact c h), if_neg c]

theorem decode_no (s : ByteArray) (p : Int) (w : World) (h : p < 0 ∨ (s.size : Int) ≤ p) :
    Calls Tryd.prog 31 #[.string s, .int .i64 p] w fun e w' => e = .returned (.tuple #[.int .i64 0, .int .i64 0, .bool false]) ∧ w = w' := by
  by_cases h1 : p < 0
  · clear h
    go_enter Tryd.func31, Tryd.ntmps31
    go_wp2
    go_ret3
    exact ⟨rfl, rfl⟩
  · have h2 : (s.size : Int) ≤ p := by omega
    clear h
    go_enter Tryd.func31, Tryd.ntmps31
    go_wp2
    go_ret3
    exact ⟨rfl, rfl⟩

def decR (l : List UInt8) : Value := .tuple #[.int .i64 ((dec l).1 : Int), .int .i64 ((dec l).2 : Int), .bool (decide (0 < (dec l).2))]

theorem decode_at (s : ByteArray) (p : Nat) (w : World) (h : p < s.size) (hT : Tabs w) :
    Calls Tryd.prog 31 #[.string s, .int .i64 p] w fun e w' => e = .returned (decR (s.data.toList.drop p)) ∧ Below w.heap.size w w' := by
  obtain ⟨a, b, hg, ha, hb1, hb4, hd⟩ := dgo s p h
  have HD := Tryd.utf8_DecodeRuneInString (s.extract p s.size) w hT
  rw [hg] at HD
  have HD := Lib.hid HD
  clear hg
  by_cases c : a = 65533 ∧ b < 2
  · rw [if_pos c] at hd
    have hr : Hid (decR (s.data.toList.drop p) = .tuple #[.int .i64 0, .int .i64 0, .bool false]) := Lib.hid (by unfold decR; rw [hd]; rfl)
    obtain ⟨c1, c2⟩ := c
    have q1 : ((a : Int) == 65533) = true := by rw [c1]; rfl
    clear hd c1
    go_enter Tryd.func31, Tryd.ntmps31
    go_wp2_with (go_at_call 38; refine HD.out.mono ?_; rintro e w' ⟨rfl, hb⟩)
    go_ret3
    exact ⟨by rw [hr.out]; rfl, by assumption⟩
  · rw [if_neg c] at hd
    have hr : Hid (decR (s.data.toList.drop p) = .tuple #[.int .i64 a, .int .i64 b, .bool true]) := Lib.hid (by
      unfold decR; rw [hd]; dsimp only; rw [decide_eq_true (by omega)])
    by_cases c1 : a = 65533
    · have q1 : ((a : Int) == 65533) = true := by rw [c1]; rfl
      have q2 : ¬ b < 2 := by omega
      clear hd c c1
      go_enter Tryd.func31, Tryd.ntmps31
      go_wp2_with (go_at_call 38; refine HD.out.mono ?_; rintro e w' ⟨rfl, hb⟩)
      go_ret3
      exact ⟨by rw [hr.out]; rfl, by assumption⟩
    · have q1 : ((a : Int) == 65533) = false := by rw [beq_eq_false_iff_ne]; omega
      clear hd c c1
      go_enter Tryd.func31, Tryd.ntmps31
      go_wp2_with (go_at_call 38; refine HD.out.mono ?_; rintro e w' ⟨rfl, hb⟩)
      go_ret3
      exact ⟨by rw [hr.out]; rfl, by assumption⟩

/-- the reference's sum, after j bytes of k -/
def nst (l : List UInt8) (k : Nat) : Nat → Nat
  | 0 => 0
  | 1 => bt l 0 % (match k with | 1 => 256 | 2 => 32 | 3 => 16 | _ => 8)
  | j + 2 => nst l k (j + 1) * 64 + bt l (j + 1) % 64

theorem nst_nk (l : List UInt8) (k : Nat) (h1 : 1 ≤ k) (h4 : k ≤ 4) : nst l k k = nk l k := by
  rcases (show k = 1 ∨ k = 2 ∨ k = 3 ∨ k = 4 by omega) with rfl | rfl | rfl | rfl
  · show bt l 0 % 256 = bt l 0
    exact Nat.mod_eq_of_lt (bt_lt l 0)
  · rfl
  · rfl
  · rfl
theorem nst_bd (l : List UInt8) (k j : Nat) (h1 : 1 ≤ j) (h4 : j ≤ 4) : (nst l k j : Int) ≤ 67108863 := by
  have hb := bt_lt l 0
  have h1' : nst l k 1 < 256 := by
    show bt l 0 % _ < 256
    exact Nat.lt_of_le_of_lt (Nat.mod_le _ _) hb
  have e2 : nst l k 2 = nst l k 1 * 64 + bt l 1 % 64 := rfl
  have e3 : nst l k 3 = nst l k 2 * 64 + bt l 2 % 64 := rfl
  have e4 : nst l k 4 = nst l k 3 * 64 + bt l 3 % 64 := rfl
  rcases (show j = 1 ∨ j = 2 ∨ j = 3 ∨ j = 4 by omega) with rfl | rfl | rfl | rfl <;> omega

theorem nst_succ (l : List UInt8) (k j : Nat) (h : 1 ≤ j) : nst l k (j + 1) = nst l k j * 64 + bt l j % 64 := by
  cases j with
  | zero => omega
  | succ j => rfl

theorem bt_at (s : ByteArray) (p j : Nat) (h : p + j < s.size) : bt (s.data.toList.drop p) j = s[p + j].toNat := by
  unfold bt
  rw [List.getD_eq_getElem?_getD, List.getElem?_drop, List.getElem?_eq_getElem (by simpa using h)]; rfl

theorem enc_pos (n : Nat) (h : Pt (n : Int)) : (enc (n : Int)).toList.isEmpty = false := by
  rw [toL, List.isEmpty_eq_false_iff, ← List.length_pos_iff, Array.length_toList, ByteArray.size_data]
  unfold enc
  by_cases h2 : (n : Int) < 65536
  · have := enc_size3 _ h h2; omega
  · have := enc_size4 _ (by omega) h.2.1; omega

theorem refdec_no (s : ByteArray) (p : Int) (w : World) (h : p < 0 ∨ (s.size : Int) ≤ p) :
    Calls Tryd.prog 25 #[.string s, .int .i64 p] w fun e w' => e = .returned (.tuple #[.int .i64 0, .int .i64 0]) ∧ w = w' := by
  by_cases h1 : p < 0
  · clear h
    go_enter Tryd.func25, Tryd.ntmps25
    go_wp2
    go_ret2
    exact ⟨rfl, rfl⟩
  · have h2 : (s.size : Int) ≤ p := by omega
    clear h
    go_enter Tryd.func25, Tryd.ntmps25
    go_wp2
    go_ret2
    exact ⟨rfl, rfl⟩

def decP (l : List UInt8) : Value := .tuple #[.int .i64 ((dec l).1 : Int), .int .i64 ((dec l).2 : Int)]

set_option maxRecDepth 100000 in
set_option maxHeartbeats 1000000 in
theorem refdec_at (s : ByteArray) (p : Nat) (w : World) (hs : s.size ≤ maxLen) (h : p < s.size) :
    Calls Tryd.prog 25 #[.string s, .int .i64 p] w fun e w' => e = .returned (decP (s.data.toList.drop p)) ∧ Below w.heap.size w w' := by
  unfold maxLen at hs
  have d1 : decide ((p : Int) < 0) = false := by simp
  have d2 : decide (s.size ≤ p) = false := by simp; omega
  go_enter Tryd.func25, Tryd.ntmps25
  go_wp2
  go_loopw [7] (fun z wr => ∃ k : Nat, 1 ≤ k ∧ k ≤ 5 ∧ z = .int .i64 k ∧ Hid (∀ j, 1 ≤ j → j < k → ¬ Ok (s.data.toList.drop p) j) ∧ Below w.heap.size w wr) (fun z _ => 5 - (intOf z).toNat)
  case atStart => exact ⟨1, by omega, by omega, rfl, Lib.hid (fun j h1 h2 => by omega), Below.refl _ _⟩
  case round =>
    obtain ⟨k, hk1, hk5, rfl, hno, hb⟩ := hrel
    have HB := Lib.hid hb
    have hsz := hb.size
    clear hb
    by_cases hk : k ≤ 4 ∧ k ≤ s.size - p
    · obtain ⟨hk4, hkl⟩ := hk
      have hc := Lib.hid (bt_at s p 0 (by omega))
      have hc0 := s[p].toNat_lt
      obtain ⟨kz, hkz⟩ : ∃ kz : Int, kz = (k : Int) := ⟨_, rfl⟩
      rw [← hkz]
      rcases (show k = 1 ∨ k = 2 ∨ k = 3 ∨ k = 4 by omega) with rfl | rfl | rfl | rfl
      · obtain rfl : kz = 1 := by omega
        clear hkz
        have d3 : (1 : Int) ≤ (s.size : Int) - (p : Int) := by omega
        go_wp2
        go_loop [6, 9] (fun n i => ∃ j : Nat, 1 ≤ j ∧ j ≤ 1 ∧ i = .int .i64 j ∧ n = .int .i64 (nst (s.data.toList.drop p) 1 j : Int)) (fun _ i => 1 - (intOf i).toNat)
        case atStart => exact ⟨1, by omega, by omega, rfl, congrArg _ (by
          have e : nst (s.data.toList.drop p) 1 1 = bt (s.data.toList.drop p) 0 % 256 := rfl
          have := hc.out; have := bt_lt (s.data.toList.drop p) 0; simp only [Nat.add_zero] at *; omega)⟩
        case round =>
          obtain ⟨j, hj1, hj2, rfl, rfl⟩ := hrel
          have hn := nst_bd (s.data.toList.drop p) 1 j hj1 (by omega)
          by_cases hjk : j < 1
          · have hst : Hid (nst (s.data.toList.drop p) 1 (j + 1) = nst (s.data.toList.drop p) 1 j * 64 + s[p + j].toNat % 64) := Lib.hid (by rw [nst_succ _ _ _ hj1, bt_at s p j (by omega)])
            have hcj := s[p + j].toNat_lt
            first
              | omega
              | (go_wp2
                 go_round
                 case rel => exact ⟨j + 1, by omega, by omega, by go_num, by rw [hst.out]; rfl⟩
                 case measure => simp [intOf]; omega)
          · obtain rfl : j = 1 := by omega
            have hN : Hid (nst (s.data.toList.drop p) 1 1 = nk (s.data.toList.drop p) 1) := Lib.hid (nst_nk _ _ (by omega) (by omega))
            have d4 : p + 1 ≤ s.size := by omega
            have d5 : (p : Int) + 1 ≤ s.size := by omega
            generalize hn0 : nst (s.data.toList.drop p) 1 1 = n0 at *
            have HN := Lib.hid hn0
            clear hn0
            by_cases hP : Pt (n0 : Int)
            · have hen := Lib.hid (enc_pos n0 hP)
              have q1 : (enc (n0 : Int)).toList.isEmpty = false := hen.out
              by_cases heq : (enc (n0 : Int)).toList = (s.extract p (p + 1)).toList
              · have hok : Hid (decP (s.data.toList.drop p) = .tuple #[.int .i64 (n0 : Int), .int .i64 1]) := Lib.hid (by
                  have ho : Ok (s.data.toList.drop p) 1 := ⟨by simp; omega, by rw [← hN.out]; exact hP, by rw [← hN.out, ← ext_take, ← toL, ← toL]; exact heq⟩
                  unfold decP; rw [dec1 ho, ← hN.out]; rfl)
                have q2 : ((enc (n0 : Int)).toList == (s.extract p (p + 1)).toList) = true := beq_iff_eq.2 heq
                clear heq
                go_wp2_with (go_at_call 12; refine (encR_yes _ _ hP).mono ?_; rintro e w' ⟨rfl, hb⟩)
                go_ret2
                exact ⟨by rw [hok.out]; rfl, HB.out.trans ((by assumption : Below _ _ _).mono hsz)⟩
              · have hnok : Hid (∀ j, 1 ≤ j → j < 1 + 1 → ¬ Ok (s.data.toList.drop p) j) := Lib.hid (by
                  intro j h1 h2 ho
                  by_cases hj : j < 1
                  · exact hno.out j h1 hj ho
                  · obtain rfl : j = 1 := by omega
                    apply heq
                    unfold enc; rw [toL, toL, ext_take, ← ho.2.2, ← hN.out])
                have q2 : ((enc (n0 : Int)).toList == (s.extract p (p + 1)).toList) = false := beq_eq_false_iff_ne.2 heq
                clear heq
                go_wp2_with (go_at_call 12; refine (encR_yes _ _ hP).mono ?_; rintro e w' ⟨rfl, hb⟩)
                go_roundw
                case rel => exact ⟨1 + 1, by omega, by omega, rfl, hnok, HB.out.trans ((by assumption : Below _ _ _).mono hsz)⟩
                case measure => simp [intOf]
            · have hnok : Hid (∀ j, 1 ≤ j → j < 1 + 1 → ¬ Ok (s.data.toList.drop p) j) := Lib.hid (by
                intro j h1 h2 ho
                by_cases hj : j < 1
                · exact hno.out j h1 hj ho
                · obtain rfl : j = 1 := by omega
                  apply hP
                  rw [hN.out]; exact ho.2.1)
              go_wp2_with (go_at_call 12; refine (encR_no _ _ hP).mono ?_; rintro e w' ⟨rfl, hb⟩)
              go_roundw
              case rel => exact ⟨1 + 1, by omega, by omega, rfl, hnok, HB.out.trans ((by assumption : Below _ _ _).mono hsz)⟩
              case measure => simp [intOf]
      · obtain rfl : kz = 2 := by omega
        clear hkz
        have d3 : (2 : Int) ≤ (s.size : Int) - (p : Int) := by omega
        go_wp2
        go_loop [6, 9] (fun n i => ∃ j : Nat, 1 ≤ j ∧ j ≤ 2 ∧ i = .int .i64 j ∧ n = .int .i64 (nst (s.data.toList.drop p) 2 j : Int)) (fun _ i => 2 - (intOf i).toNat)
        case atStart => exact ⟨1, by omega, by omega, rfl, congrArg _ (by
          have e : nst (s.data.toList.drop p) 2 1 = bt (s.data.toList.drop p) 0 % 32 := rfl
          have := hc.out; have := bt_lt (s.data.toList.drop p) 0; simp only [Nat.add_zero] at *; omega)⟩
        case round =>
          obtain ⟨j, hj1, hj2, rfl, rfl⟩ := hrel
          have hn := nst_bd (s.data.toList.drop p) 2 j hj1 (by omega)
          by_cases hjk : j < 2
          · have hst : Hid (nst (s.data.toList.drop p) 2 (j + 1) = nst (s.data.toList.drop p) 2 j * 64 + s[p + j].toNat % 64) := Lib.hid (by rw [nst_succ _ _ _ hj1, bt_at s p j (by omega)])
            have hcj := s[p + j].toNat_lt
            first
              | omega
              | (go_wp2
                 go_round
                 case rel => exact ⟨j + 1, by omega, by omega, by go_num, by rw [hst.out]; rfl⟩
                 case measure => simp [intOf]; omega)
          · obtain rfl : j = 2 := by omega
            have hN : Hid (nst (s.data.toList.drop p) 2 2 = nk (s.data.toList.drop p) 2) := Lib.hid (nst_nk _ _ (by omega) (by omega))
            have d4 : p + 2 ≤ s.size := by omega
            have d5 : (p : Int) + 2 ≤ s.size := by omega
            generalize hn0 : nst (s.data.toList.drop p) 2 2 = n0 at *
            have HN := Lib.hid hn0
            clear hn0
            by_cases hP : Pt (n0 : Int)
            · have hen := Lib.hid (enc_pos n0 hP)
              have q1 : (enc (n0 : Int)).toList.isEmpty = false := hen.out
              by_cases heq : (enc (n0 : Int)).toList = (s.extract p (p + 2)).toList
              · have hok : Hid (decP (s.data.toList.drop p) = .tuple #[.int .i64 (n0 : Int), .int .i64 2]) := Lib.hid (by
                  have ho : Ok (s.data.toList.drop p) 2 := ⟨by simp; omega, by rw [← hN.out]; exact hP, by rw [← hN.out, ← ext_take, ← toL, ← toL]; exact heq⟩
                  unfold decP; rw [dec2 ho, ← hN.out]; rfl)
                have q2 : ((enc (n0 : Int)).toList == (s.extract p (p + 2)).toList) = true := beq_iff_eq.2 heq
                clear heq
                go_wp2_with (go_at_call 12; refine (encR_yes _ _ hP).mono ?_; rintro e w' ⟨rfl, hb⟩)
                go_ret2
                exact ⟨by rw [hok.out]; rfl, HB.out.trans ((by assumption : Below _ _ _).mono hsz)⟩
              · have hnok : Hid (∀ j, 1 ≤ j → j < 2 + 1 → ¬ Ok (s.data.toList.drop p) j) := Lib.hid (by
                  intro j h1 h2 ho
                  by_cases hj : j < 2
                  · exact hno.out j h1 hj ho
                  · obtain rfl : j = 2 := by omega
                    apply heq
                    unfold enc; rw [toL, toL, ext_take, ← ho.2.2, ← hN.out])
                have q2 : ((enc (n0 : Int)).toList == (s.extract p (p + 2)).toList) = false := beq_eq_false_iff_ne.2 heq
                clear heq
                go_wp2_with (go_at_call 12; refine (encR_yes _ _ hP).mono ?_; rintro e w' ⟨rfl, hb⟩)
                go_roundw
                case rel => exact ⟨2 + 1, by omega, by omega, rfl, hnok, HB.out.trans ((by assumption : Below _ _ _).mono hsz)⟩
                case measure => simp [intOf]
            · have hnok : Hid (∀ j, 1 ≤ j → j < 2 + 1 → ¬ Ok (s.data.toList.drop p) j) := Lib.hid (by
                intro j h1 h2 ho
                by_cases hj : j < 2
                · exact hno.out j h1 hj ho
                · obtain rfl : j = 2 := by omega
                  apply hP
                  rw [hN.out]; exact ho.2.1)
              go_wp2_with (go_at_call 12; refine (encR_no _ _ hP).mono ?_; rintro e w' ⟨rfl, hb⟩)
              go_roundw
              case rel => exact ⟨2 + 1, by omega, by omega, rfl, hnok, HB.out.trans ((by assumption : Below _ _ _).mono hsz)⟩
              case measure => simp [intOf]
      · obtain rfl : kz = 3 := by omega
        clear hkz
        have d3 : (3 : Int) ≤ (s.size : Int) - (p : Int) := by omega
        go_wp2
        go_loop [6, 9] (fun n i => ∃ j : Nat, 1 ≤ j ∧ j ≤ 3 ∧ i = .int .i64 j ∧ n = .int .i64 (nst (s.data.toList.drop p) 3 j : Int)) (fun _ i => 3 - (intOf i).toNat)
        case atStart => exact ⟨1, by omega, by omega, rfl, congrArg _ (by
          have e : nst (s.data.toList.drop p) 3 1 = bt (s.data.toList.drop p) 0 % 16 := rfl
          have := hc.out; have := bt_lt (s.data.toList.drop p) 0; simp only [Nat.add_zero] at *; omega)⟩
        case round =>
          obtain ⟨j, hj1, hj2, rfl, rfl⟩ := hrel
          have hn := nst_bd (s.data.toList.drop p) 3 j hj1 (by omega)
          by_cases hjk : j < 3
          · have hst : Hid (nst (s.data.toList.drop p) 3 (j + 1) = nst (s.data.toList.drop p) 3 j * 64 + s[p + j].toNat % 64) := Lib.hid (by rw [nst_succ _ _ _ hj1, bt_at s p j (by omega)])
            have hcj := s[p + j].toNat_lt
            first
              | omega
              | (go_wp2
                 go_round
                 case rel => exact ⟨j + 1, by omega, by omega, by go_num, by rw [hst.out]; rfl⟩
                 case measure => simp [intOf]; omega)
          · obtain rfl : j = 3 := by omega
            have hN : Hid (nst (s.data.toList.drop p) 3 3 = nk (s.data.toList.drop p) 3) := Lib.hid (nst_nk _ _ (by omega) (by omega))
            have d4 : p + 3 ≤ s.size := by omega
            have d5 : (p : Int) + 3 ≤ s.size := by omega
            generalize hn0 : nst (s.data.toList.drop p) 3 3 = n0 at *
            have HN := Lib.hid hn0
            clear hn0
            by_cases hP : Pt (n0 : Int)
            · have hen := Lib.hid (enc_pos n0 hP)
              have q1 : (enc (n0 : Int)).toList.isEmpty = false := hen.out
              by_cases heq : (enc (n0 : Int)).toList = (s.extract p (p + 3)).toList
              · have hok : Hid (decP (s.data.toList.drop p) = .tuple #[.int .i64 (n0 : Int), .int .i64 3]) := Lib.hid (by
                  have ho : Ok (s.data.toList.drop p) 3 := ⟨by simp; omega, by rw [← hN.out]; exact hP, by rw [← hN.out, ← ext_take, ← toL, ← toL]; exact heq⟩
                  unfold decP; rw [dec3 ho, ← hN.out]; rfl)
                have q2 : ((enc (n0 : Int)).toList == (s.extract p (p + 3)).toList) = true := beq_iff_eq.2 heq
                clear heq
                go_wp2_with (go_at_call 12; refine (encR_yes _ _ hP).mono ?_; rintro e w' ⟨rfl, hb⟩)
                go_ret2
                exact ⟨by rw [hok.out]; rfl, HB.out.trans ((by assumption : Below _ _ _).mono hsz)⟩
              · have hnok : Hid (∀ j, 1 ≤ j → j < 3 + 1 → ¬ Ok (s.data.toList.drop p) j) := Lib.hid (by
                  intro j h1 h2 ho
                  by_cases hj : j < 3
                  · exact hno.out j h1 hj ho
                  · obtain rfl : j = 3 := by omega
                    apply heq
                    unfold enc; rw [toL, toL, ext_take, ← ho.2.2, ← hN.out])
                have q2 : ((enc (n0 : Int)).toList == (s.extract p (p + 3)).toList) = false := beq_eq_false_iff_ne.2 heq
                clear heq
                go_wp2_with (go_at_call 12; refine (encR_yes _ _ hP).mono ?_; rintro e w' ⟨rfl, hb⟩)
                go_roundw
                case rel => exact ⟨3 + 1, by omega, by omega, rfl, hnok, HB.out.trans ((by assumption : Below _ _ _).mono hsz)⟩
                case measure => simp [intOf]
            · have hnok : Hid (∀ j, 1 ≤ j → j < 3 + 1 → ¬ Ok (s.data.toList.drop p) j) := Lib.hid (by
                intro j h1 h2 ho
                by_cases hj : j < 3
                · exact hno.out j h1 hj ho
                · obtain rfl : j = 3 := by omega
                  apply hP
                  rw [hN.out]; exact ho.2.1)
              go_wp2_with (go_at_call 12; refine (encR_no _ _ hP).mono ?_; rintro e w' ⟨rfl, hb⟩)
              go_roundw
              case rel => exact ⟨3 + 1, by omega, by omega, rfl, hnok, HB.out.trans ((by assumption : Below _ _ _).mono hsz)⟩
              case measure => simp [intOf]
      · obtain rfl : kz = 4 := by omega
        clear hkz
        have d3 : (4 : Int) ≤ (s.size : Int) - (p : Int) := by omega
        go_wp2
        go_loop [6, 9] (fun n i => ∃ j : Nat, 1 ≤ j ∧ j ≤ 4 ∧ i = .int .i64 j ∧ n = .int .i64 (nst (s.data.toList.drop p) 4 j : Int)) (fun _ i => 4 - (intOf i).toNat)
        case atStart => exact ⟨1, by omega, by omega, rfl, congrArg _ (by
          have e : nst (s.data.toList.drop p) 4 1 = bt (s.data.toList.drop p) 0 % 8 := rfl
          have := hc.out; have := bt_lt (s.data.toList.drop p) 0; simp only [Nat.add_zero] at *; omega)⟩
        case round =>
          obtain ⟨j, hj1, hj2, rfl, rfl⟩ := hrel
          have hn := nst_bd (s.data.toList.drop p) 4 j hj1 (by omega)
          by_cases hjk : j < 4
          · have hst : Hid (nst (s.data.toList.drop p) 4 (j + 1) = nst (s.data.toList.drop p) 4 j * 64 + s[p + j].toNat % 64) := Lib.hid (by rw [nst_succ _ _ _ hj1, bt_at s p j (by omega)])
            have hcj := s[p + j].toNat_lt
            first
              | omega
              | (go_wp2
                 go_round
                 case rel => exact ⟨j + 1, by omega, by omega, by go_num, by rw [hst.out]; rfl⟩
                 case measure => simp [intOf]; omega)
          · obtain rfl : j = 4 := by omega
            have hN : Hid (nst (s.data.toList.drop p) 4 4 = nk (s.data.toList.drop p) 4) := Lib.hid (nst_nk _ _ (by omega) (by omega))
            have d4 : p + 4 ≤ s.size := by omega
            have d5 : (p : Int) + 4 ≤ s.size := by omega
            generalize hn0 : nst (s.data.toList.drop p) 4 4 = n0 at *
            have HN := Lib.hid hn0
            clear hn0
            by_cases hP : Pt (n0 : Int)
            · have hen := Lib.hid (enc_pos n0 hP)
              have q1 : (enc (n0 : Int)).toList.isEmpty = false := hen.out
              by_cases heq : (enc (n0 : Int)).toList = (s.extract p (p + 4)).toList
              · have hok : Hid (decP (s.data.toList.drop p) = .tuple #[.int .i64 (n0 : Int), .int .i64 4]) := Lib.hid (by
                  have ho : Ok (s.data.toList.drop p) 4 := ⟨by simp; omega, by rw [← hN.out]; exact hP, by rw [← hN.out, ← ext_take, ← toL, ← toL]; exact heq⟩
                  unfold decP; rw [dec4 ho, ← hN.out]; rfl)
                have q2 : ((enc (n0 : Int)).toList == (s.extract p (p + 4)).toList) = true := beq_iff_eq.2 heq
                clear heq
                go_wp2_with (go_at_call 12; refine (encR_yes _ _ hP).mono ?_; rintro e w' ⟨rfl, hb⟩)
                go_ret2
                exact ⟨by rw [hok.out]; rfl, HB.out.trans ((by assumption : Below _ _ _).mono hsz)⟩
              · have hnok : Hid (∀ j, 1 ≤ j → j < 4 + 1 → ¬ Ok (s.data.toList.drop p) j) := Lib.hid (by
                  intro j h1 h2 ho
                  by_cases hj : j < 4
                  · exact hno.out j h1 hj ho
                  · obtain rfl : j = 4 := by omega
                    apply heq
                    unfold enc; rw [toL, toL, ext_take, ← ho.2.2, ← hN.out])
                have q2 : ((enc (n0 : Int)).toList == (s.extract p (p + 4)).toList) = false := beq_eq_false_iff_ne.2 heq
                clear heq
                go_wp2_with (go_at_call 12; refine (encR_yes _ _ hP).mono ?_; rintro e w' ⟨rfl, hb⟩)
                go_roundw
                case rel => exact ⟨4 + 1, by omega, by omega, rfl, hnok, HB.out.trans ((by assumption : Below _ _ _).mono hsz)⟩
                case measure => simp [intOf]
            · have hnok : Hid (∀ j, 1 ≤ j → j < 4 + 1 → ¬ Ok (s.data.toList.drop p) j) := Lib.hid (by
                intro j h1 h2 ho
                by_cases hj : j < 4
                · exact hno.out j h1 hj ho
                · obtain rfl : j = 4 := by omega
                  apply hP
                  rw [hN.out]; exact ho.2.1)
              go_wp2_with (go_at_call 12; refine (encR_no _ _ hP).mono ?_; rintro e w' ⟨rfl, hb⟩)
              go_roundw
              case rel => exact ⟨4 + 1, by omega, by omega, rfl, hnok, HB.out.trans ((by assumption : Below _ _ _).mono hsz)⟩
              case measure => simp [intOf]
    · have hr : Hid (decP (s.data.toList.drop p) = .tuple #[.int .i64 0, .int .i64 0]) := Lib.hid (by
        have hl : (s.data.toList.drop p).length = s.size - p := by simp
        have hn : ∀ j, 1 ≤ j → j ≤ 4 → ¬ Ok (s.data.toList.drop p) j := by
          intro j h1 h4 ho
          by_cases hj : j < k
          · exact hno.out j h1 hj ho
          · have := ho.1; omega
        unfold decP
        rw [dec0 (by omega) (hn 1 (by omega) (by omega)) (hn 2 (by omega) (by omega)) (hn 3 (by omega) (by omega)) (hn 4 (by omega) (by omega))]; rfl)
      by_cases hk4 : k ≤ 4
      · have d3 : ¬ (k : Int) ≤ (s.size : Int) - (p : Int) := by omega
        go_wp2
        go_ret2
        exact ⟨by rw [hr.out]; rfl, HB.out⟩
      · go_wp2
        go_ret2
        exact ⟨by rw [hr.out]; rfl, HB.out⟩

end Go.Proofs.YtfoammkidjbilaaDoor.runesE
