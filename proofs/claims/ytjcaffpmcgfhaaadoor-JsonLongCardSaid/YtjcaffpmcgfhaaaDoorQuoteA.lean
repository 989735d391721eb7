/-
  Contracts of package quote's escaped, letter, hexed, piece.
-/
import Derived.Test.YtjcaffpmcgfhaaaDoorRunesC
import Derived.Test.YtjcaffpmcgfhaaaDoorRunesE
import Derived.Test.YtjcaffpmcgfhaaaDoorQuoteP
namespace Go.Proofs.YtjcaffpmcgfhaaaDoor.quoteA
open Go.ChangeShapes Go.WideShapes Go.ChangeAt Go.RowKit utfP utfQ utfR runesA runesC runesD runesE quoteP

def escS (c : UInt8) : ByteArray := ⟨(esc c.toNat).toArray⟩

def letR (c : Nat) : Value := match letr c with
  | some n => .tuple #[.int .i32 (n : Int), .bool true]
  | none => .tuple #[.int .i32 0, .bool false]

theorem letter_yes (c n : Nat) (z : Int) (w : World) (hz : z = (c : Int)) (h : (c = 34 ∧ n = 34) ∨ (c = 92 ∧ n = 92) ∨ (c = 47 ∧ n = 47) ∨ (c = 98 ∧ n = 8) ∨ (c = 102 ∧ n = 12) ∨ (c = 110 ∧ n = 10) ∨ (c = 114 ∧ n = 13) ∨ (c = 116 ∧ n = 9)) :
    Calls Tryd.prog 40 #[.int .u8 z] w fun e w' => e = .returned (letR c) ∧ w = w' := by
  subst hz
  rcases h with ⟨rfl, rfl⟩ | ⟨rfl, rfl⟩ | ⟨rfl, rfl⟩ | ⟨rfl, rfl⟩ | ⟨rfl, rfl⟩ | ⟨rfl, rfl⟩ | ⟨rfl, rfl⟩ | ⟨rfl, rfl⟩
  all_goals
    go_enter Tryd.func40, Tryd.ntmps40
    go_wp2
    go_ret2
    exact ⟨rfl, rfl⟩

theorem letter_no (c : Nat) (w : World) (h : letr c = none) :
    Calls Tryd.prog 40 #[.int .u8 (c : Int)] w fun e w' => e = .returned (letR c) ∧ w = w' := by
  have hr : Hid (letR c = .tuple #[.int .i32 0, .bool false]) := Lib.hid (by unfold letR; rw [h])
  have hn : c ≠ 34 ∧ c ≠ 92 ∧ c ≠ 47 ∧ c ≠ 98 ∧ c ≠ 102 ∧ c ≠ 110 ∧ c ≠ 114 ∧ c ≠ 116 := by
    refine ⟨?_, ?_, ?_, ?_, ?_, ?_, ?_, ?_⟩ <;> (rintro rfl; cases h)
  obtain ⟨n1, n2, n3, n4, n5, n6, n7, n8⟩ := hn
  have q1 : ((c : Int) == 34) = false := by rw [beq_eq_false_iff_ne]; omega
  have q2 : ((c : Int) == 92) = false := by rw [beq_eq_false_iff_ne]; omega
  have q3 : ((c : Int) == 47) = false := by rw [beq_eq_false_iff_ne]; omega
  have q4 : ((c : Int) == 98) = false := by rw [beq_eq_false_iff_ne]; omega
  have q5 : ((c : Int) == 102) = false := by rw [beq_eq_false_iff_ne]; omega
  have q6 : ((c : Int) == 110) = false := by rw [beq_eq_false_iff_ne]; omega
  have q7 : ((c : Int) == 114) = false := by rw [beq_eq_false_iff_ne]; omega
  have q8 : ((c : Int) == 116) = false := by rw [beq_eq_false_iff_ne]; omega
  clear h n1 n2 n3 n4 n5 n6 n7 n8
  go_enter Tryd.func40, Tryd.ntmps40
  go_wp2
  go_ret2
  exact ⟨by rw [hr.out]; rfl, rfl⟩

theorem letter_any (c : UInt8) (w : World) :
    Calls Tryd.prog 40 #[.int .u8 (c.toNat : Int)] w fun e w' => e = .returned (letR c.toNat) ∧ w = w' := by
  cases h : letr c.toNat with
  | none => exact letter_no c.toNat w h
  | some n =>
    refine letter_yes c.toNat n _ w rfl ?_
    unfold letr at h
    generalize c.toNat = m at *
    by_cases h0 : m = 34 ∨ m = 92 ∨ m = 47
    · rw [if_pos h0] at h
      obtain rfl := Option.some.inj h
      omega
    rw [if_neg h0] at h
    by_cases h1 : m = 98
    · rw [if_pos h1] at h
      have := Option.some.inj h
      omega
    rw [if_neg h1] at h
    by_cases h2 : m = 102
    · rw [if_pos h2] at h
      have := Option.some.inj h
      omega
    rw [if_neg h2] at h
    by_cases h3 : m = 110
    · rw [if_pos h3] at h
      have := Option.some.inj h
      omega
    rw [if_neg h3] at h
    by_cases h4 : m = 114
    · rw [if_pos h4] at h
      have := Option.some.inj h
      omega
    rw [if_neg h4] at h
    by_cases h5 : m = 116
    · rw [if_pos h5] at h
      have := Option.some.inj h
      omega
    rw [if_neg h5] at h
    cases h

/-- what piece and hexed hand back -/
def pcV (o : Option (Int × Nat)) : Value := match o with
  | some q => .tuple #[.int .i32 q.1, .int .i64 (q.2 : Int), .bool true]
  | none => .tuple #[.int .i32 0, .int .i64 0, .bool false]

/-- runes.Hex at a place, with the place as the walk spells it -/
theorem hexI (s : ByteArray) (p : Nat) (z : Int) (w : World) (hs : s.size ≤ maxLen) (hz : z = (p : Int)) (h : p + 4 ≤ s.size) (hh : 0 ≤ hx s.data.toList p 4) :
    Calls Tryd.prog 47 #[.string s, .int .i64 z] w fun e w' => e = .returned (.tuple #[.int .i64 (hx s.data.toList p 4), .bool true]) ∧ w = w' := by
  subst hz
  have := hex_at s p w hs h
  rw [hexRes, if_pos hh] at this
  exact this
theorem hexNo (s : ByteArray) (p : Nat) (z : Int) (w : World) (hs : s.size ≤ maxLen) (hz : z = (p : Int)) (h : s.size < p + 4 ∨ hx s.data.toList p 4 < 0) :
    Calls Tryd.prog 47 #[.string s, .int .i64 z] w fun e w' => e = .returned (.tuple #[.int .i64 0, .bool false]) ∧ w = w' := by
  subst hz
  by_cases h1 : s.size < p + 4
  · exact hex_no s p w hs (Or.inr (by omega))
  · have := hex_at s p w hs (by omega)
    rw [hexRes, if_neg (by omega)] at this
    exact this

theorem pre_u (l : List UInt8) : Lib.hasPrefix l [92, 117] = decide (2 ≤ l.length ∧ bt l 0 = 92 ∧ bt l 1 = 117) := by
  unfold Lib.hasPrefix bt
  match l with
  | [] => rfl
  | [a] => simp [List.isPrefixOf]
  | a :: b :: t =>
    rw [Bool.eq_iff_iff]
    simp only [List.isPrefixOf, Bool.and_true, Bool.and_eq_true, beq_iff_eq, decide_eq_true_eq, List.length_cons, List.getD_cons_zero, List.getD_cons_succ]
    constructor
    · rintro ⟨h1, h2⟩
      subst h1 h2
      exact ⟨by omega, rfl, rfl⟩
    · rintro ⟨_, h1, h2⟩
      exact ⟨UInt8.toNat_inj.1 h1.symm, UInt8.toNat_inj.1 h2.symm⟩
theorem bt_drop (l : List UInt8) (p k : Nat) : bt (l.drop p) k = bt l (p + k) := by
  unfold bt; simp [List.getD]

theorem hexed_at (s : ByteArray) (p : Nat) (w : World) (hs : s.size ≤ 1000000) (hp : p + 1 < s.size) :
    Calls Tryd.prog 39 #[.string s, .int .i64 p] w fun e w' => e = .returned (pcV (hexd (s.data.toList.drop p))) ∧ w = w' := by
  have hm : s.size ≤ maxLen := by unfold maxLen; omega
  have hlen : (s.data.toList.drop p).length = s.size - p := by simp
  have e2 : hx (s.data.toList.drop p) 2 4 = hx s.data.toList (p + 2) 4 := hx_drop _ _ _ _
  have e8 : hx (s.data.toList.drop p) 8 4 = hx s.data.toList (p + 8) 4 := hx_drop _ _ _ _
  have b2 := hx_bd s.data.toList (p + 2) 4 (Nat.le_refl _)
  have b8 := hx_bd s.data.toList (p + 8) 4 (Nat.le_refl _)
  by_cases h1 : s.size < p + 2 + 4 ∨ hx s.data.toList (p + 2) 4 < 0
  · have hr : Hid (pcV (hexd (s.data.toList.drop p)) = .tuple #[.int .i32 0, .int .i64 0, .bool false]) := Lib.hid (by
      unfold hexd; rw [e2, if_pos (by omega)]; rfl)
    have HX := Lib.hid (fun z w hz => hexNo s (p + 2) z w hm hz h1)
    clear e2 e8 b2 b8 h1 hlen
    go_enter Tryd.func39, Tryd.ntmps39
    go_wp2_with fail
    refine (HX.out _ _ (by omega)).mono ?_
    rintro e w' ⟨rfl, rfl⟩
    go_wp2
    go_ret3
    exact ⟨by rw [hr.out]; rfl, rfl⟩
  have HX := Lib.hid (fun z w hz => hexI s (p + 2) z w hm hz (by omega) (by omega))
  by_cases h2 : Pt (hx s.data.toList (p + 2) 4)
  · have hr : Hid (pcV (hexd (s.data.toList.drop p)) = .tuple #[.int .i32 (hx s.data.toList (p + 2) 4), .int .i64 6, .bool true]) := Lib.hid (by
      unfold hexd; rw [e2, if_neg (by omega), if_pos h2]; rfl)
    clear e2 e8 b8 h1 hlen
    generalize hx s.data.toList (p + 2) 4 = n at *
    go_enter Tryd.func39, Tryd.ntmps39
    go_wp2_with fail
    refine (HX.out _ _ (by omega)).mono ?_
    rintro e w' ⟨rfl, rfl⟩
    go_wp2_with fail
    refine (encode_yes _ _ h2).mono ?_
    rintro e w' ⟨rfl, rfl⟩
    go_wp2
    go_ret3
    exact ⟨by rw [hr.out]; rfl, rfl⟩
  have hd : (s.extract (p + 6) s.size).data.toList = s.data.toList.drop (p + 6) := ext_drop s (p + 6)
  have hpre : Lib.hasPrefix (s.extract (p + 6) s.size).data.toList [92, 117] = decide (2 ≤ s.size - (p + 6) ∧ bt s.data.toList (p + 6) = 92 ∧ bt s.data.toList (p + 7) = 117) := by
    rw [hd, pre_u, bt_drop, bt_drop]; simp
  have c6 : bt (s.data.toList.drop p) 6 = bt s.data.toList (p + 6) := bt_drop _ _ _
  have c7 : bt (s.data.toList.drop p) 7 = bt s.data.toList (p + 7) := bt_drop _ _ _
  have HP := fun w => Tryd.strings_HasPrefix (s.extract (p + 6) s.size) ⟨#[92, 117]⟩ w
  have hl6 : p + 6 ≤ s.size := by omega
  by_cases h3 : 2 ≤ s.size - (p + 6) ∧ bt s.data.toList (p + 6) = 92 ∧ bt s.data.toList (p + 7) = 117
  · rw [show Lib.hasPrefix (s.extract (p + 6) s.size).data.toList (ByteArray.mk #[92, 117]).data.toList = true from hpre.trans (decide_eq_true h3)] at HP
    have HP := Lib.hid HP
    by_cases h4 : s.size < p + 8 + 4 ∨ hx s.data.toList (p + 8) 4 < 0
    · have hr : Hid (pcV (hexd (s.data.toList.drop p)) = .tuple #[.int .i32 0, .int .i64 0, .bool false]) := Lib.hid (by
        unfold hexd; rw [e2, e8, if_neg (by omega), if_neg h2, if_pos (by omega)]; rfl)
      have HX8 := Lib.hid (fun z w hz => hexNo s (p + 8) z w hm hz h4)
      clear e2 e8 h1 hlen h3 h4 hd hpre c6 c7
      generalize hx s.data.toList (p + 2) 4 = n at *
      go_enter Tryd.func39, Tryd.ntmps39
      go_wp2_with fail
      refine (HX.out _ _ (by omega)).mono ?_
      rintro e w' ⟨rfl, rfl⟩
      go_wp2_with fail
      refine (encode_no _ _ h2).mono ?_
      rintro e w' ⟨rfl, rfl⟩
      go_wp2_with fail
      refine (HP.out _).mono ?_
      rintro e w' ⟨rfl, rfl⟩
      go_wp2_with fail
      refine (HX8.out _ _ (by omega)).mono ?_
      rintro e w' ⟨rfl, rfl⟩
      go_wp2
      go_ret3
      exact ⟨by rw [hr.out]; rfl, rfl⟩
    · have HX8 := Lib.hid (fun z w hz => hexI s (p + 8) z w hm hz (by omega) (by omega))
      have hn4 : 12 ≤ s.size - p := by omega
      have hge : 55296 ≤ hx s.data.toList (p + 2) 4 := by unfold Pt at h2; omega
      by_cases h5 : hx s.data.toList (p + 2) 4 < 56320 ∧ 56320 ≤ hx s.data.toList (p + 8) 4 ∧ hx s.data.toList (p + 8) 4 ≤ 57343
      · have hr : Hid (pcV (hexd (s.data.toList.drop p)) = .tuple #[.int .i32 (65536 + 1024 * (hx s.data.toList (p + 2) 4 - 55296) + (hx s.data.toList (p + 8) 4 - 56320)), .int .i64 12, .bool true]) := Lib.hid (by
          unfold hexd; rw [e2, e8, if_neg (by omega), if_neg h2, if_neg (by omega), if_pos ⟨hge, h5⟩]; rfl)
        obtain ⟨g1, g2, g3⟩ := h5
        clear e2 e8 h1 hlen h3 h4 hd hpre c6 c7
        generalize hx s.data.toList (p + 2) 4 = n at *
        generalize hx s.data.toList (p + 8) 4 = m at *
        go_enter Tryd.func39, Tryd.ntmps39
        go_wp2_with fail
        refine (HX.out _ _ (by omega)).mono ?_
        rintro e w' ⟨rfl, rfl⟩
        go_wp2_with fail
        refine (encode_no _ _ h2).mono ?_
        rintro e w' ⟨rfl, rfl⟩
        go_wp2_with fail
        refine (HP.out _).mono ?_
        rintro e w' ⟨rfl, rfl⟩
        go_wp2_with fail
        refine (HX8.out _ _ (by omega)).mono ?_
        rintro e w' ⟨rfl, rfl⟩
        go_wp2_with fail
        refine (join_yes _ _ _ hge g1 g2 g3).mono ?_
        rintro e w' ⟨rfl, rfl⟩
        go_wp2
        go_ret3
        exact ⟨by rw [hr.out]; rfl, rfl⟩
      · have hr : Hid (pcV (hexd (s.data.toList.drop p)) = .tuple #[.int .i32 0, .int .i64 0, .bool false]) := Lib.hid (by
          unfold hexd; rw [e2, e8, if_neg (by omega), if_neg h2, if_neg (by omega), if_neg (fun h => h5 h.2)]; rfl)
        have HJ := Lib.hid (fun w => join_no (hx s.data.toList (p + 2) 4) (hx s.data.toList (p + 8) 4) w (by omega))
        clear e2 e8 h1 hlen h3 h4 h5 hd hpre c6 c7
        generalize hx s.data.toList (p + 2) 4 = n at *
        generalize hx s.data.toList (p + 8) 4 = m at *
        go_enter Tryd.func39, Tryd.ntmps39
        go_wp2_with fail
        refine (HX.out _ _ (by omega)).mono ?_
        rintro e w' ⟨rfl, rfl⟩
        go_wp2_with fail
        refine (encode_no _ _ h2).mono ?_
        rintro e w' ⟨rfl, rfl⟩
        go_wp2_with fail
        refine (HP.out _).mono ?_
        rintro e w' ⟨rfl, rfl⟩
        go_wp2_with fail
        refine (HX8.out _ _ (by omega)).mono ?_
        rintro e w' ⟨rfl, rfl⟩
        go_wp2_with fail
        refine (HJ.out _).mono ?_
        rintro e w' ⟨rfl, rfl⟩
        go_wp2
        go_ret3
        exact ⟨by rw [hr.out]; rfl, rfl⟩
  · rw [show Lib.hasPrefix (s.extract (p + 6) s.size).data.toList (ByteArray.mk #[92, 117]).data.toList = false from hpre.trans (decide_eq_false h3)] at HP
    have HP := Lib.hid HP
    have hr : Hid (pcV (hexd (s.data.toList.drop p)) = .tuple #[.int .i32 0, .int .i64 0, .bool false]) := Lib.hid (by
      unfold hexd; rw [e2, e8, c6, c7, if_neg (by omega), if_neg h2, if_pos (by omega)]; rfl)
    clear e2 e8 h1 hlen h3 hd hpre c6 c7 b8
    generalize hx s.data.toList (p + 2) 4 = n at *
    go_enter Tryd.func39, Tryd.ntmps39
    go_wp2_with fail
    refine (HX.out _ _ (by omega)).mono ?_
    rintro e w' ⟨rfl, rfl⟩
    go_wp2_with fail
    refine (encode_no _ _ h2).mono ?_
    rintro e w' ⟨rfl, rfl⟩
    go_wp2_with fail
    refine (HP.out _).mono ?_
    rintro e w' ⟨rfl, rfl⟩
    go_wp2
    go_ret3
    exact ⟨by rw [hr.out]; rfl, rfl⟩

theorem bt_get (s : ByteArray) (p k : Nat) (h : p + k < s.size) : bt (s.data.toList.drop p) k = s[p + k].toNat := by
  unfold bt
  have : (s.data.toList.drop p).getD k 0 = s.data.toList.getD (p + k) 0 := by simp [List.getD]
  rw [this, bget s _ h]

def PcPost (w : World) (l : List UInt8) (e : Ending) (w' : World) : Prop := e = .returned (pcV (pc l)) ∧ Below w.heap.size w w'

theorem piece_raw (s : ByteArray) (p : Nat) (w : World) (hp : p < s.size) (h0 : s[p].toNat ≠ 92) (hT : Tabs w) :
    Calls Tryd.prog 33 #[.string s, .int .i64 p] w (PcPost w (s.data.toList.drop p)) := by
  have hb0 := bt_get s p 0 (by omega)
  simp only [Nat.add_zero] at hb0
  have hpc : pcV (pc (s.data.toList.drop p)) = if (dec (s.data.toList.drop p)).2 = 0 ∨ (dec (s.data.toList.drop p)).1 < 32 ∨ (dec (s.data.toList.drop p)).1 = 34 then .tuple #[.int .i32 0, .int .i64 0, .bool false] else .tuple #[.int .i32 ((dec (s.data.toList.drop p)).1 : Int), .int .i64 ((dec (s.data.toList.drop p)).2 : Int), .bool true] := by
    unfold pc
    rw [if_pos (by rw [hb0]; exact h0)]
    split <;> rfl
  have hbd : ((dec (s.data.toList.drop p)).1 : Int) ≤ 1114111 := by
    by_cases z : (dec (s.data.toList.drop p)).2 = 0
    · unfold dec at *
      split
      · simp
      · rename_i c; rw [if_neg c] at z; have := decodeL_pos (s.data.toList.drop p); omega
    · exact (dec_ok rfl z).1.2.1
  have HD := decode_at s p w hp hT
  unfold decR at HD
  generalize dec (s.data.toList.drop p) = q at *
  obtain ⟨a, b⟩ := q
  simp only at hpc hbd HD
  have q0 : ((s[p].toNat : Int) != 92) = true := by rw [bne_iff_ne]; omega
  unfold PcPost
  rw [hpc]
  clear hpc hb0 h0 hT
  by_cases z : b = 0
  · have d0 : decide (0 < b) = false := by simp; omega
    rw [d0] at HD
    have HD := Lib.hid HD
    rw [if_pos (Or.inl z)]
    clear d0 z
    go_enter Tryd.func33, Tryd.ntmps33
    go_wp2_with fail
    refine HD.out.mono ?_
    rintro e w1 ⟨rfl, hb1⟩
    have HB1 := Lib.hid hb1
    clear hb1
    go_wp2
    go_ret3
    exact ⟨rfl, HB1.out⟩
  have d0 : decide (0 < b) = true := by simp; omega
  rw [d0] at HD
  have HD := Lib.hid HD
  by_cases h1 : a < 32
  · rw [if_pos (Or.inr (Or.inl h1))]
    have d1 : (a : Int) < 32 := by omega
    clear d0 z
    go_enter Tryd.func33, Tryd.ntmps33
    go_wp2_with fail
    refine HD.out.mono ?_
    rintro e w1 ⟨rfl, hb1⟩
    have HB1 := Lib.hid hb1
    clear hb1
    go_wp2
    go_ret3
    exact ⟨rfl, HB1.out⟩
  have d1 : ¬ (a : Int) < 32 := by omega
  by_cases h2 : a = 34
  · rw [if_pos (Or.inr (Or.inr h2))]
    have d2 : ((a : Int) == 34) = true := by rw [h2]; rfl
    clear d0 z h2
    go_enter Tryd.func33, Tryd.ntmps33
    go_wp2_with fail
    refine HD.out.mono ?_
    rintro e w1 ⟨rfl, hb1⟩
    have HB1 := Lib.hid hb1
    clear hb1
    go_wp2
    go_ret3
    exact ⟨rfl, HB1.out⟩
  · rw [if_neg (by omega)]
    have d2 : ((a : Int) == 34) = false := by rw [beq_eq_false_iff_ne]; omega
    clear d0 z h2
    go_enter Tryd.func33, Tryd.ntmps33
    go_wp2_with fail
    refine HD.out.mono ?_
    rintro e w1 ⟨rfl, hb1⟩
    have HB1 := Lib.hid hb1
    clear hb1
    go_wp2
    go_ret3
    exact ⟨rfl, HB1.out⟩

theorem piece_at (s : ByteArray) (p : Nat) (w : World) (hs : s.size ≤ 1000000) (hp : p < s.size) (hT : Tabs w) :
    Calls Tryd.prog 33 #[.string s, .int .i64 p] w (PcPost w (s.data.toList.drop p)) := by
  by_cases h0 : s[p].toNat ≠ 92
  · exact piece_raw s p w hp h0 hT
  have h0' : s[p].toNat = 92 := by omega
  have hb0 := bt_get s p 0 (by omega)
  simp only [Nat.add_zero] at hb0
  have q0 : ((s[p].toNat : Int) != 92) = false := by rw [h0']; rfl
  have hlen : (s.data.toList.drop p).length = s.size - p := by simp
  clear hT
  unfold PcPost
  by_cases h1 : p + 1 < s.size
  · have hb1 := bt_get s p 1 h1
    by_cases h2 : s[p + 1].toNat = 117
    · have hr : Hid (pc (s.data.toList.drop p) = hexd (s.data.toList.drop p)) := Lib.hid (by
        unfold pc; rw [hb0, if_neg (by omega), if_neg (by omega), hb1, if_pos h2])
      rw [hr.out]
      have q1 : ((s[p + 1].toNat : Int) == 117) = true := by rw [h2]; rfl
      have HX := hexed_at s p w hs h1
      have hpv : ∃ x y z, pcV (hexd (s.data.toList.drop p)) = .tuple #[.int .i32 x, .int .i64 y, .bool z] := by
        unfold pcV; split
        · exact ⟨_, _, _, rfl⟩
        · exact ⟨_, _, _, rfl⟩
      obtain ⟨x, y, z, hpv⟩ := hpv
      rw [hpv] at HX ⊢
      have HX := Lib.hid HX
      clear hb0 hb1 h0 h0' h2 hpv hlen hr
      go_enter Tryd.func33, Tryd.ntmps33
      go_wp2_with fail
      refine HX.out.mono ?_
      rintro e w1 ⟨rfl, rfl⟩
      go_wp2
      go_ret3
      exact ⟨rfl, Below.refl _ _⟩
    · have hr : pc (s.data.toList.drop p) = (letr s[p + 1].toNat).map fun r => ((r : Int), 2) := by
        unfold pc; rw [hb0, if_neg (by omega), if_neg (by omega), hb1, if_neg h2]
      rw [hr]
      have q1 : ((s[p + 1].toNat : Int) == 117) = false := by rw [beq_eq_false_iff_ne]; omega
      have HL := fun w => letter_any s[p + 1] w
      unfold letR at HL
      cases hl : letr s[p + 1].toNat with
      | none =>
        rw [hl] at HL
        simp only at HL
        have HL := Lib.hid HL
        clear hb0 hb1 h0 h0' h2 hlen hr hl
        go_enter Tryd.func33, Tryd.ntmps33
        go_wp2_with fail
        refine (HL.out _).mono ?_
        rintro e w1 ⟨rfl, rfl⟩
        go_wp2
        go_ret3
        exact ⟨rfl, Below.refl _ _⟩
      | some n =>
        rw [hl] at HL
        simp only at HL
        have HL := Lib.hid HL
        clear hb0 hb1 h0 h0' h2 hlen hr hl
        go_enter Tryd.func33, Tryd.ntmps33
        go_wp2_with fail
        refine (HL.out _).mono ?_
        rintro e w1 ⟨rfl, rfl⟩
        go_wp2
        go_ret3
        exact ⟨rfl, Below.refl _ _⟩
  · have hr : Hid (pc (s.data.toList.drop p) = none) := Lib.hid (by
      unfold pc; rw [hb0, if_neg (by omega), if_pos (by omega)])
    rw [hr.out]
    clear hb0 h0 h0' hlen hr
    go_enter Tryd.func33, Tryd.ntmps33
    go_wp2
    go_ret3
    exact ⟨rfl, Below.refl _ _⟩

end Go.Proofs.YtjcaffpmcgfhaaaDoor.quoteA
