/-
  Contracts of ints.Small and the reference's Small; the law IntsSmall returns true.
-/
import Derived.Test.YtjkipgdjblbemaaDoorIntsF
namespace Go.Proofs.YtjkipgdjblbemaaDoor.intsG
open Go.ChangeShapes Go.WideShapes Go.ChangeAt Go.RowKit intsP intsA intsB intsC intsD intsE intsF errIs errs

def okS (l : List UInt8) : Prop := 1 ≤ l.length ∧ l.length ≤ 15 ∧ dn l = l.length
theorem take_isD {l : List UInt8} (h : ∀ c ∈ l, isD c = true) (k : Nat) : ∀ c ∈ l.take k, isD c = true := fun c hc => h c (List.mem_of_mem_take hc)
theorem acc_15 (l : List UInt8) (h : ∀ c ∈ l, isD c = true) (hl : l.length ≤ 15) (k : Nat) : (acc 0 (l.take k) : Int) < 1000000000000000 := by
  have h1 := acc_lt (l.take k) (take_isD h k)
  have h2 : (l.take k).length ≤ 15 := Nat.le_trans (List.length_take_le' k l) hl
  have h3 : 10 ^ (l.take k).length ≤ 10 ^ 15 := Nat.pow_le_pow_right (by decide) h2
  have h4 : (10 : Nat) ^ 15 = 1000000000000000 := by decide
  omega

theorem small_no (s : ByteArray) (m : Int) (w : World) (hs : s.size ≤ 1000000) (h : ¬ okS s.data.toList) :
    Calls Tryd.prog 17 #[.string s, .int .i64 m] w fun e w' => e = .returned (.tuple #[.int .i64 0, .bool false]) ∧ w = w' := by
  unfold okS at h
  rw [Array.length_toList, ByteArray.size_data] at h
  have HD := Lib.hid (fun z (hz : z = ((0 : Nat) : Int)) => digitsI s 0 z w hs hz (Nat.zero_le _))
  by_cases h1 : s.size < 1
  · have g1 : (s.size : Int) < 1 := by omega
    clear h
    go_enter Tryd.func17, Tryd.ntmps17
    go_wp2
    go_ret2
    exact ⟨rfl, rfl⟩
  have g1 : ¬ (s.size : Int) < 1 := by omega
  by_cases h2 : 15 < s.size
  · have g2 : (15 : Int) < s.size := by omega
    clear h
    go_enter Tryd.func17, Tryd.ntmps17
    go_wp2
    go_ret2
    exact ⟨rfl, rfl⟩
  · have g2 : ¬ (15 : Int) < s.size := by omega
    have h3 : dn s.data.toList ≠ s.size := by intro e; exact h ⟨by omega, by omega, e⟩
    have q1 : ((dn s.data.toList : Int) != (s.size : Int)) = true := by rw [bne_iff_ne]; omega
    have HE := HD
    rw [List.drop_zero] at HE
    clear h h3 HD
    generalize dn s.data.toList = n at *
    go_enter Tryd.func17, Tryd.ntmps17
    go_wp2_with fail
    refine (HE.out _ rfl).mono ?_
    rintro e w' ⟨rfl, rfl⟩
    go_wp2
    go_ret2
    exact ⟨rfl, rfl⟩

def smV (l : List UInt8) (m : Int) : Value := if m < (acc 0 l : Int) then .tuple #[.int .i64 0, .bool false] else .tuple #[.int .i64 (acc 0 l : Int), .bool true]

set_option maxRecDepth 100000 in
theorem small_yes (s : ByteArray) (m : Int) (w : World) (h : okS s.data.toList) :
    Calls Tryd.prog 17 #[.string s, .int .i64 m] w fun e w' => e = .returned (smV s.data.toList m) ∧ w = w' := by
  obtain ⟨l1, l2, l3⟩ := h
  have hall := (dn_all _).1 l3
  have h15 := Lib.hid (fun k => acc_15 s.data.toList hall l2 k)
  have HAll := Lib.hid hall
  have hll : s.data.toList.length = s.size := by simp
  have HD := Lib.hid (fun z (hz : z = ((0 : Nat) : Int)) => digitsI s 0 z w (by omega) hz (Nat.zero_le _))
  rw [List.drop_zero, l3, hll] at HD
  have g1 : ¬ (s.size : Int) < 1 := by omega
  have g2 : ¬ (15 : Int) < s.size := by omega
  have g3 : s.size ≤ 15 := by omega
  have d1 : decide ((s.size : Int) < 1) = false := decide_eq_false g1
  have d2 : decide ((15 : Int) < s.size) = false := decide_eq_false g2
  clear l1 l2 l3 hall
  go_enter Tryd.func17, Tryd.ntmps17
  go_wp2_with fail
  refine (HD.out _ rfl).mono ?_
  rintro e w' ⟨rfl, rfl⟩
  have q1 : (((0 : Nat) : Int) + (s.size : Int) != (s.size : Int)) = false := by simp
  go_wp2
  go_loop [6, 25] (fun n i => ∃ k : Nat, k ≤ s.size ∧ i = .int .i64 k ∧ n = .int .i64 (acc 0 (s.data.toList.take k) : Int)) (fun _ i => s.size - (intOf i).toNat)
  case atStart => exact ⟨0, Nat.zero_le _, rfl, by rw [acc0]; rfl⟩
  case round =>
    obtain ⟨k, hk, rfl, rfl⟩ := hrel
    have hb := h15.out k
    clear d1 d2
    by_cases hlt : k < s.size
    · have hc : 48 ≤ s[k].toNat ∧ s[k].toNat ≤ 57 := isD_val (HAll.out _ (List.getElem_mem (by simpa using hlt)))
      have hgo := acc_go s k hlt
      generalize acc 0 (s.data.toList.take k) = a at *
      have hN : Hid ((acc 0 (s.data.toList.take (k + 1)) : Int) = (a : Int) * 10 + ((s[k].toNat : Int) - 48)) := Lib.hid (by rw [hgo]; omega)
      have c1 : (48 : Int) ≤ s[k].toNat := by omega
      have c2 : (s[k].toNat : Int) ≤ 57 := by omega
      clear hgo hc
      go_wp2
      go_round
      case rel => exact ⟨k + 1, by omega, by go_num, by rw [hN.out]⟩
      case measure => simp [intOf]; omega
    · have hk2 : s.data.toList.take k = s.data.toList := List.take_of_length_le (by omega)
      rw [hk2] at hb ⊢
      have hN : Hid (smV s.data.toList m = if m < (acc 0 s.data.toList : Int) then .tuple #[.int .i64 0, .bool false] else .tuple #[.int .i64 (acc 0 s.data.toList : Int), .bool true]) := Lib.hid rfl
      generalize acc 0 s.data.toList = a at *
      clear hk2
      by_cases hm : m < (a : Int)
      · have hN : Hid (smV s.data.toList m = .tuple #[.int .i64 0, .bool false]) := Lib.hid (by rw [hN.out, if_pos hm])
        go_wp2
        go_ret2
        exact ⟨by rw [hN.out]; rfl, rfl⟩
      · have hN : Hid (smV s.data.toList m = .tuple #[.int .i64 (a : Int), .bool true]) := Lib.hid (by rw [hN.out, if_neg hm])
        go_wp2
        go_ret2
        exact ⟨by rw [hN.out]; rfl, rfl⟩

theorem rsmall_no (s : ByteArray) (m : Int) (w : World) (hs : s.size ≤ 1000000) (h : ¬ okS s.data.toList) :
    Calls Tryd.prog 18 #[.string s, .int .i64 m] w fun e w' => e = .returned (.int .i64 (-1)) ∧ w = w' := by
  unfold okS at h
  rw [Array.length_toList, ByteArray.size_data] at h
  have HD := Lib.hid (fun z (hz : z = ((0 : Nat) : Int)) => runI s 0 z w hs hz (Nat.zero_le _))
  rw [List.drop_zero] at HD
  by_cases h1 : 0 < s.size
  · have q0 := nonempty_yes s h1
    by_cases h2 : 15 < s.size
    · have g2 : (15 : Int) < s.size := by omega
      clear h
      go_enter Tryd.func18, Tryd.ntmps18
      go_wp2
      go_ret
      exact ⟨rfl, rfl⟩
    · have g2 : ¬ (15 : Int) < s.size := by omega
      have h3 : dn s.data.toList ≠ s.size := by intro e; exact h ⟨by omega, by omega, e⟩
      have hle := dn_le s.data.toList
      rw [Array.length_toList, ByteArray.size_data] at hle
      have q1 : (dn s.data.toList : Int) < (s.size : Int) := by omega
      clear h h3 hle
      generalize dn s.data.toList = n at *
      go_enter Tryd.func18, Tryd.ntmps18
      go_wp2_with fail
      refine (HD.out _ rfl).mono ?_
      rintro e w' ⟨rfl, rfl⟩
      go_wp2
      go_ret
      exact ⟨rfl, rfl⟩
  · have q0 := nonempty_no s h1
    clear h
    go_enter Tryd.func18, Tryd.ntmps18
    go_wp2
    go_ret
    exact ⟨rfl, rfl⟩

def rsV (l : List UInt8) (m : Int) : Value := if m < (acc 0 l : Int) then .int .i64 (-1) else .int .i64 (acc 0 l : Int)

set_option maxRecDepth 100000 in
theorem rsmall_yes (s : ByteArray) (m : Int) (w : World) (h : okS s.data.toList) :
    Calls Tryd.prog 18 #[.string s, .int .i64 m] w fun e w' => e = .returned (rsV s.data.toList m) ∧ w = w' := by
  obtain ⟨l1, l2, l3⟩ := h
  have hall := (dn_all _).1 l3
  have h15 := Lib.hid (fun k => acc_15 s.data.toList hall l2 k)
  have HAll := Lib.hid hall
  have hll : s.data.toList.length = s.size := by simp
  have HD := Lib.hid (fun z (hz : z = ((0 : Nat) : Int)) => runI s 0 z w (by omega) hz (Nat.zero_le _))
  rw [List.drop_zero, l3, hll] at HD
  have q0 := nonempty_yes s (by omega)
  have g2 : ¬ (15 : Int) < s.size := by omega
  have g3 : s.size ≤ 15 := by omega
  have d2 : decide ((15 : Int) < s.size) = false := decide_eq_false g2
  clear l1 l2 l3 hall
  go_enter Tryd.func18, Tryd.ntmps18
  go_wp2_with fail
  refine (HD.out _ rfl).mono ?_
  rintro e w' ⟨rfl, rfl⟩
  have d3 : decide ((s.size : Int) < (s.size : Int)) = false := by simp
  go_wp2
  go_loop [5, 6] (fun n i => ∃ k : Nat, k ≤ s.size ∧ i = .int .i64 k ∧ n = .int .i64 (acc 0 (s.data.toList.take k) : Int)) (fun _ i => s.size - (intOf i).toNat)
  case atStart => exact ⟨0, Nat.zero_le _, rfl, by rw [acc0]; rfl⟩
  case round =>
    obtain ⟨k, hk, rfl, rfl⟩ := hrel
    have hb := h15.out k
    clear d2 d3 q0
    by_cases hlt : k < s.size
    · have hc : 48 ≤ s[k].toNat ∧ s[k].toNat ≤ 57 := isD_val (HAll.out _ (List.getElem_mem (by simpa using hlt)))
      have hgo := acc_go s k hlt
      generalize acc 0 (s.data.toList.take k) = a at *
      have hN : Hid ((acc 0 (s.data.toList.take (k + 1)) : Int) = 10 * (a : Int) + ((s[k].toNat : Int) - 48)) := Lib.hid (by rw [hgo]; omega)
      have c1 : (48 : Int) ≤ s[k].toNat := by omega
      have c2 : (s[k].toNat : Int) ≤ 57 := by omega
      clear hgo hc
      go_wp2
      go_round
      case rel => exact ⟨k + 1, by omega, by go_num, by rw [hN.out]⟩
      case measure => simp [intOf]; omega
    · have hk2 : s.data.toList.take k = s.data.toList := List.take_of_length_le (by omega)
      rw [hk2] at hb ⊢
      have hN : Hid (rsV s.data.toList m = if m < (acc 0 s.data.toList : Int) then .int .i64 (-1) else .int .i64 (acc 0 s.data.toList : Int)) := Lib.hid rfl
      generalize acc 0 s.data.toList = a at *
      clear hk2
      by_cases hm : m < (a : Int)
      · have hN : Hid (rsV s.data.toList m = .int .i64 (-1)) := Lib.hid (by rw [hN.out, if_pos hm])
        go_wp2
        go_ret
        exact ⟨by rw [hN.out]; rfl, rfl⟩
      · have hN : Hid (rsV s.data.toList m = .int .i64 (a : Int)) := Lib.hid (by rw [hN.out, if_neg hm])
        go_wp2
        go_ret
        exact ⟨by rw [hN.out]; rfl, rfl⟩

theorem small_law (s : ByteArray) (m : Int) (w : World) (ad : Nat → Addr) (hE : Errs w ad) (hR : Rng w) (h : s.size ≤ 1000) :
    Calls Tryd.prog 8 #[.string s, .int .i64 m] w fun e w' => e = .returned (.bool true) ∧ Below w.heap.size w w' := by
  have HA := Lib.hid (alive w ad hE hR)
  have hs' : ¬ 1000 < s.size := by omega
  clear hE hR
  have no : ∀ (T1 : ∀ w, Calls Tryd.prog 17 #[.string s, .int .i64 m] w fun e w' => e = .returned (.tuple #[.int .i64 0, .bool false]) ∧ w = w') (T2 : ∀ w, Calls Tryd.prog 18 #[.string s, .int .i64 m] w fun e w' => e = .returned (.int .i64 (-1)) ∧ w = w'),
      Calls Tryd.prog 8 #[.string s, .int .i64 m] w fun e w' => e = .returned (.bool true) ∧ Below w.heap.size w w' := by
    intro T1 T2
    have T1 := Lib.hid T1
    have T2 := Lib.hid T2
    go_enter Tryd.func8, Tryd.ntmps8
    go_wp2_with fail
    refine HA.out.mono ?_
    rintro e w0 ⟨rfl, hb0⟩
    have HB0 := Lib.hid hb0
    clear hb0
    go_wp2_with fail
    refine (T1.out _).mono ?_
    rintro e w' ⟨rfl, rfl⟩
    go_wp2_with fail
    refine (T2.out _).mono ?_
    rintro e w' ⟨rfl, rfl⟩
    go_wp2
    go_ret
    exact ⟨rfl, HB0.out⟩
  by_cases ho : okS s.data.toList
  · have T1 := fun w => small_yes s m w ho
    have T2 := fun w => rsmall_yes s m w ho
    unfold smV at T1
    unfold rsV at T2
    generalize acc 0 s.data.toList = a at *
    by_cases hm : m < (a : Int)
    · rw [if_pos hm] at T1 T2
      exact no T1 T2
    · rw [if_neg hm] at T1 T2
      have T1 := Lib.hid T1
      have T2 := Lib.hid T2
      have g0 : (0 : Int) ≤ a := by omega
      clear no ho
      go_enter Tryd.func8, Tryd.ntmps8
      go_wp2_with fail
      refine HA.out.mono ?_
      rintro e w0 ⟨rfl, hb0⟩
      have HB0 := Lib.hid hb0
      clear hb0
      go_wp2_with fail
      refine (T1.out _).mono ?_
      rintro e w' ⟨rfl, rfl⟩
      go_wp2_with fail
      refine (T2.out _).mono ?_
      rintro e w' ⟨rfl, rfl⟩
      go_wp2
      go_ret
      exact ⟨ret_bool (by simp), HB0.out⟩
  · exact no (fun w => small_no s m w (by omega) ho) (fun w => rsmall_no s m w (by omega) ho)

theorem lawSmall (s : ByteArray) (m : Int) (w : World) (ad : Nat → Addr) (hE : Errs w ad) (hR : Rng w) :
    Calls Tryd.prog 8 #[.string s, .int .i64 m] w fun e w' => e = .returned (.bool true) ∧ Below w.heap.size w w' := by
  by_cases h : 1000 < s.size
  · exact IntsSmall_big s m w ad hE hR h
  · exact small_law s m w ad hE hR (by omega)

end Go.Proofs.YtjkipgdjblbemaaDoor.intsG
