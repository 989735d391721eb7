/-
  Contracts of the reference's Value and Take.
-/
import Derived.Test.YtjkipgdjblbemaaDoorIntsC
namespace Go.Proofs.YtjkipgdjblbemaaDoor.intsD
open Go.ChangeShapes Go.WideShapes Go.ChangeAt Go.RowKit intsP intsA intsB intsC errIs errs

def vlV (o : Option Int) : Value := match o with
  | some v => .tuple #[.int .i64 v, .bool true]
  | none => .tuple #[.int .i64 0, .bool false]

theorem take_go (s : ByteArray) (k : Nat) (h : k < s.size) : s.data.toList.take (k + 1) = s.data.toList.take k ++ [s[k]] := by
  rw [List.take_succ_eq_append_getElem (by simpa using h)]; rfl
theorem acc_go (s : ByteArray) (k : Nat) (h : k < s.size) : acc 0 (s.data.toList.take (k + 1)) = acc 0 (s.data.toList.take k) * 10 + (s[k].toNat - 48) := by
  rw [take_go s k h, acc_snoc]
theorem acc_mono (s : ByteArray) (k : Nat) : acc 0 (s.data.toList.take k) ≤ acc 0 s.data.toList := by
  have key : ∀ (l m : List UInt8) (a : Nat), acc a l ≤ acc a (l ++ m) := by
    intro l
    induction l with
    | nil => intro m a; exact acc_ge a m
    | cons c l ih => intro m a; exact ih m _
  have := key (s.data.toList.take k) (s.data.toList.drop k) 0
  rwa [List.take_append_drop] at this

theorem acc0 (l : List UInt8) : acc 0 (l.take 0) = 0 := by rw [List.take_zero]; rfl
theorem tdv (d : Int) (h0 : 0 ≤ d) (h9 : d ≤ 9) : (-9223372036854775808 + d).tdiv 10 = -((9223372036854775808 - d) / 10) := by
  have e : -9223372036854775808 + d = -(9223372036854775808 - d) := by omega
  rw [e, Int.neg_tdiv, Int.tdiv_eq_ediv_of_nonneg (by omega)]

set_option maxRecDepth 100000 in
theorem value_pos (s : ByteArray) (w : World) (hs : s.size ≤ 1000000) (hn : s.data.toList ≠ []) (hd : ∀ c ∈ s.data.toList, isD c = true) :
    Calls Tryd.prog 21 #[.string s] w fun e w' => e = .returned (vlV (valO s.data.toList)) ∧ w = w' := by
  have hp : 0 < s.size := by
    have := List.length_pos_iff.2 hn; simpa using this
  have hb0 := bt_mem (t := s.data.toList) (k := 0) (by simpa using hp) hd
  have HV : Hid (valO s.data.toList = if acc 0 s.data.toList < big then some (acc 0 s.data.toList : Int) else none) := Lib.hid (by
    unfold valO; rw [if_neg (by omega)])
  have hbb := bt_in s 0 0 (by omega)
  rw [List.drop_zero] at hbb
  simp only [Nat.add_zero] at hbb
  have q1 : ((s[0].toNat : Int) == 45) = false := by rw [beq_eq_false_iff_ne]; omega
  have HD := Lib.hid hd
  clear hb0 hbb hd hn
  go_enter Tryd.func21, Tryd.ntmps21
  go_wp2
  go_loop [5, 6] (fun n i => ∃ k : Nat, k ≤ s.size ∧ i = .int .i64 k ∧ n = .int .i64 (-(acc 0 (s.data.toList.take k) : Int)) ∧ (acc 0 (s.data.toList.take k) : Int) ≤ 9223372036854775808) (fun _ i => s.size - (intOf i).toNat)
  case atStart => exact ⟨0, Nat.zero_le _, rfl, by rw [acc0]; rfl, by rw [acc0]; omega⟩
  case round =>
    obtain ⟨k, hk, rfl, rfl, ha⟩ := hrel
    by_cases hlt : k < s.size
    · have hc : 48 ≤ s[k].toNat ∧ s[k].toNat ≤ 57 := isD_val (HD.out _ (List.getElem_mem (by simpa using hlt)))
      have hgo := Lib.hid (acc_go s k hlt)
      have hmo := Lib.hid (acc_mono s (k + 1))
      generalize acc 0 (s.data.toList.take k) = a at *
      obtain ⟨cc1, cc2⟩ := hc
      have c1 : (48 : Int) ≤ s[k].toNat := by omega
      have c2 : (s[k].toNat : Int) ≤ 57 := by omega
      have htd := tdv ((s[k].toNat : Int) - 48) (by omega) (by omega)
      by_cases hov : 9223372036854775808 < (a : Int) * 10 + ((s[k].toNat : Int) - 48)
      · have h1 : -(a : Int) < (-9223372036854775808 + ((s[k].toNat : Int) - 48)).tdiv 10 := by rw [htd]; omega
        have hN : Hid (vlV (valO s.data.toList) = .tuple #[.int .i64 0, .bool false]) := Lib.hid (by
          have := hmo.out
          rw [hgo.out] at this
          rw [HV.out, if_neg (by unfold big; omega)]; rfl)
        clear htd hov hmo hgo
        go_wp2
        go_ret2
        exact ⟨by rw [hN.out]; rfl, rfl⟩
      · have h1 : (-9223372036854775808 + ((s[k].toNat : Int) - 48)).tdiv 10 ≤ -(a : Int) := by rw [htd]; omega
        have h2 : (a : Int) * 10 + ((s[k].toNat : Int) - 48) ≤ 9223372036854775808 := by omega
        have hN : Hid ((acc 0 (s.data.toList.take (k + 1)) : Int) = (a : Int) * 10 + ((s[k].toNat : Int) - 48)) := Lib.hid (by rw [hgo.out]; omega)
        clear htd hov hmo hgo
        go_wp2
        go_round
        case rel => exact ⟨k + 1, by omega, by go_num, by rw [hN.out]; congr 1; omega, by rw [hN.out]; omega⟩
        case measure => simp [intOf]; omega
    · have hk2 : s.data.toList.take k = s.data.toList := List.take_of_length_le (by simp; omega)
      rw [hk2] at ha ⊢
      have hval := HV
      generalize acc 0 s.data.toList = a at *
      clear hk2
      have ha0 : -9223372036854775808 ≤ -(a : Int) := by omega
      by_cases h63 : (a : Int) = 9223372036854775808
      · have hN : Hid (vlV (valO s.data.toList) = .tuple #[.int .i64 0, .bool false]) := Lib.hid (by
          rw [hval.out, if_neg (by unfold big; omega)]; rfl)
        have q2 : (-(a : Int) == -9223372036854775808) = true := by rw [beq_iff_eq]; omega
        clear hval HV h63
        go_wp2
        go_ret2
        exact ⟨by rw [hN.out]; rfl, rfl⟩
      · have hN : Hid (vlV (valO s.data.toList) = .tuple #[.int .i64 (a : Int), .bool true]) := Lib.hid (by
          rw [hval.out, if_pos (by unfold big; omega)]; rfl)
        have q2 : (-(a : Int) == -9223372036854775808) = false := by rw [beq_eq_false_iff_ne]; omega
        have a3 : (a : Int) ≤ 9223372036854775807 := by omega
        clear hval HV h63
        go_wp2
        go_ret2
        refine ⟨?_, rfl⟩
        rw [hN.out]
        first
          | rfl
          | (show Ending.returned (.tuple #[.int .i64 (- -(a : Int)), .bool true]) = _; rw [Int.neg_neg])

theorem ext_tail (S : ByteArray) : (S.extract 1 S.size).data.toList = S.data.toList.tail := by
  rw [ByteArray.data_extract, Array.toList_extract]
  simp [List.extract, List.take_of_length_le]
set_option maxRecDepth 100000 in
theorem value_neg (s : ByteArray) (w : World) (hs : s.size ≤ 1000000) (h45 : bt s.data.toList 0 = 45) (hd : ∀ c ∈ s.data.toList.tail, isD c = true) :
    Calls Tryd.prog 21 #[.string s] w fun e w' => e = .returned (vlV (valO s.data.toList)) ∧ w = w' := by
  have hp : 0 < s.size := by
    have := bt_lt (l := s.data.toList) (k := 0) (by omega); simpa using this
  have hbb := bt_in s 0 0 (by omega)
  rw [List.drop_zero] at hbb
  simp only [Nat.add_zero] at hbb
  have q1 : ((s[0].toNat : Int) == 45) = true := by rw [beq_iff_eq]; omega
  have hT := ext_tail s
  have HV : Hid (valO s.data.toList = if acc 0 (s.extract 1 s.size).data.toList ≤ big then some (-(acc 0 (s.extract 1 s.size).data.toList : Int)) else none) := Lib.hid (by
    unfold valO; rw [if_pos h45, hT])
  have HD : Hid (∀ c ∈ (s.extract 1 s.size).data.toList, isD c = true) := Lib.hid (by rw [hT]; exact hd)
  have hTs : (s.extract 1 s.size).size ≤ 1000000 := by rw [ByteArray.size_extract]; omega
  have d1 : (1 : Int) ≤ s.size := by omega
  generalize hTT : s.extract 1 s.size = T at *
  have HTT := Lib.hid hTT
  clear hbb hd h45 hT hTT
  go_enter Tryd.func21, Tryd.ntmps21
  go_wp2
  rw [HTT.out]
  go_loop [5, 6] (fun n i => ∃ k : Nat, k ≤ T.size ∧ i = .int .i64 k ∧ n = .int .i64 (-(acc 0 (T.data.toList.take k) : Int)) ∧ (acc 0 (T.data.toList.take k) : Int) ≤ 9223372036854775808) (fun _ i => T.size - (intOf i).toNat)
  case atStart => exact ⟨0, Nat.zero_le _, rfl, by rw [acc0]; rfl, by rw [acc0]; omega⟩
  case round =>
    obtain ⟨k, hk, rfl, rfl, ha⟩ := hrel
    by_cases hlt : k < T.size
    · have hc : 48 ≤ T[k].toNat ∧ T[k].toNat ≤ 57 := isD_val (HD.out _ (List.getElem_mem (by simpa using hlt)))
      have hgo := Lib.hid (acc_go T k hlt)
      have hmo := Lib.hid (acc_mono T (k + 1))
      generalize acc 0 (T.data.toList.take k) = a at *
      obtain ⟨cc1, cc2⟩ := hc
      have c1 : (48 : Int) ≤ T[k].toNat := by omega
      have c2 : (T[k].toNat : Int) ≤ 57 := by omega
      have htd := tdv ((T[k].toNat : Int) - 48) (by omega) (by omega)
      by_cases hov : 9223372036854775808 < (a : Int) * 10 + ((T[k].toNat : Int) - 48)
      · have h1 : -(a : Int) < (-9223372036854775808 + ((T[k].toNat : Int) - 48)).tdiv 10 := by rw [htd]; omega
        have hN : Hid (vlV (valO s.data.toList) = .tuple #[.int .i64 0, .bool false]) := Lib.hid (by
          have := hmo.out
          rw [hgo.out] at this
          rw [HV.out, if_neg (by unfold big; omega)]; rfl)
        clear htd hov hmo hgo
        go_wp2
        go_ret2
        exact ⟨by rw [hN.out]; rfl, rfl⟩
      · have h1 : (-9223372036854775808 + ((T[k].toNat : Int) - 48)).tdiv 10 ≤ -(a : Int) := by rw [htd]; omega
        have h2 : (a : Int) * 10 + ((T[k].toNat : Int) - 48) ≤ 9223372036854775808 := by omega
        have hN : Hid ((acc 0 (T.data.toList.take (k + 1)) : Int) = (a : Int) * 10 + ((T[k].toNat : Int) - 48)) := Lib.hid (by rw [hgo.out]; omega)
        clear htd hov hmo hgo
        go_wp2
        go_round
        case rel => exact ⟨k + 1, by omega, by go_num, by rw [hN.out]; congr 1; omega, by rw [hN.out]; omega⟩
        case measure => simp [intOf]; omega
    · have hk2 : T.data.toList.take k = T.data.toList := List.take_of_length_le (by simp; omega)
      rw [hk2] at ha ⊢
      have hval := HV
      generalize acc 0 T.data.toList = a at *
      clear hk2
      have ha0 : -9223372036854775808 ≤ -(a : Int) := by omega
      have hN : Hid (vlV (valO s.data.toList) = .tuple #[.int .i64 (-(a : Int)), .bool true]) := Lib.hid (by
        rw [hval.out, if_pos (by unfold big; omega)]; rfl)
      clear hval HV
      go_wp2
      go_ret2
      exact ⟨by rw [hN.out]; rfl, rfl⟩

theorem value_any (s : ByteArray) (w : World) (hs : s.size ≤ 1000000) (hn : s.data.toList.drop (sg s.data.toList) ≠ []) (hd : ∀ c ∈ s.data.toList.drop (sg s.data.toList), isD c = true) :
    Calls Tryd.prog 21 #[.string s] w fun e w' => e = .returned (vlV (valO s.data.toList)) ∧ w = w' := by
  unfold sg at hn hd
  by_cases h : bt s.data.toList 0 = 45
  · rw [if_pos h, List.drop_one] at hd
    exact value_neg s w hs h hd
  · rw [if_neg h, List.drop_zero] at hn hd
    exact value_pos s w hs hn hd

/-! ### Take -/
def rtV (q : Int × Nat × Nat) : Value := .tuple #[.int .i64 q.1, .int .i64 (q.2.1 : Int), .int .i64 (q.2.2 : Int)]

theorem rtake_no (s : ByteArray) (p : Int) (w : World) (h : p < 0 ∨ (s.size : Int) ≤ p) :
    Calls Tryd.prog 11 #[.string s, .int .i64 p] w fun e w' => e = .returned (rtV (0, 0, 1)) ∧ w = w' := by
  go_enter Tryd.func11, Tryd.ntmps11
  go_wp2_with fail
  refine (rscan_no _ _ _ h).mono ?_
  rintro e w' ⟨rfl, rfl⟩
  go_wp2
  go_ret3
  exact ⟨rfl, rfl⟩

set_option maxRecDepth 100000 in
theorem rtake_at (s : ByteArray) (p : Nat) (w : World) (hs : s.size ≤ 1000000) (hp : p < s.size) :
    Calls Tryd.prog 11 #[.string s, .int .i64 p] w fun e w' => e = .returned (rtV (takeN (s.data.toList.drop p))) ∧ w = w' := by
  have HS := rscan_at s p w hs hp
  have hwl := whole_le (s.data.toList.drop p)
  have heg := every_ge (s.data.toList.drop p)
  have hll : (s.data.toList.drop p).length = s.size - p := by simp
  rw [hll] at hwl
  unfold scR at HS
  by_cases h0 : whole (s.data.toList.drop p) = 0
  · rw [if_pos h0] at HS
    have HS := Lib.hid HS
    have hN : Hid (takeN (s.data.toList.drop p) = (0, 0, 1)) := Lib.hid (by unfold takeN; rw [if_pos h0])
    clear h0 hwl heg hll
    go_enter Tryd.func11, Tryd.ntmps11
    go_wp2_with fail
    refine HS.out.mono ?_
    rintro e w' ⟨rfl, rfl⟩
    go_wp2
    go_ret3
    exact ⟨by rw [hN.out]; rfl, rfl⟩
  rw [if_neg h0] at HS
  have HS := Lib.hid HS
  have hxt : (s.extract p (p + whole (s.data.toList.drop p))).data.toList = (s.data.toList.drop p).take (whole (s.data.toList.drop p)) := ext_take s p _
  have HD := whole_digits (s.data.toList.drop p) h0
  rw [← hxt] at HD
  have hxs : (s.extract p (p + whole (s.data.toList.drop p))).size ≤ 1000000 := by rw [ByteArray.size_extract]; omega
  have HPV := fun w => value_any (s.extract p (p + whole (s.data.toList.drop p))) w hxs HD.1 HD.2.1
  have q1 : ((whole (s.data.toList.drop p) : Int) == 0) = false := by rw [beq_eq_false_iff_ne]; omega
  have hN0 : takeN (s.data.toList.drop p) = if whole (s.data.toList.drop p) < every (s.data.toList.drop p) then (0, 0, 4) else match valO (s.extract p (p + whole (s.data.toList.drop p))).data.toList with | some v => (v, whole (s.data.toList.drop p), 0) | none => (0, 0, 4) := by
    unfold takeN; rw [if_neg h0, hxt]; cases valO ((s.data.toList.drop p).take (whole (s.data.toList.drop p))) <;> rfl
  clear h0 hll hxt HD hxs
  generalize whole (s.data.toList.drop p) = q at *
  generalize every (s.data.toList.drop p) = ee at *
  have d1 : (p : Int) ≤ (p : Int) + q := by omega
  have d2 : (p : Int) + q ≤ s.size := by omega
  have d3 : p + q ≤ s.size := by omega
  generalize hX : s.extract p (p + q) = X at *
  have HX := Lib.hid hX
  clear hX
  cases hv : valO X.data.toList with
  | none =>
    rw [hv] at HPV hN0
    have hN : Hid (takeN (s.data.toList.drop p) = (0, 0, 4)) := Lib.hid (by rw [hN0]; split <;> rfl)
    have HPV := Lib.hid HPV
    clear hv hN0
    go_enter Tryd.func11, Tryd.ntmps11
    go_wp2_with fail
    refine HS.out.mono ?_
    rintro e w' ⟨rfl, rfl⟩
    go_wp2_with fail
    rw [HX.out]
    refine (HPV.out _).mono ?_
    rintro e w' ⟨rfl, rfl⟩
    unfold vlV
    go_wp2
    go_ret3
    exact ⟨by rw [hN.out]; rfl, rfl⟩
  | some v =>
    rw [hv] at HPV hN0
    have HPV := Lib.hid HPV
    by_cases h1 : q < ee
    · have hN : Hid (takeN (s.data.toList.drop p) = (0, 0, 4)) := Lib.hid (by rw [hN0, if_pos h1])
      have g1 : (q : Int) < (ee : Int) := by omega
      clear hv hN0
      go_enter Tryd.func11, Tryd.ntmps11
      go_wp2_with fail
      refine HS.out.mono ?_
      rintro e w' ⟨rfl, rfl⟩
      go_wp2_with fail
      rw [HX.out]
      refine (HPV.out _).mono ?_
      rintro e w' ⟨rfl, rfl⟩
      unfold vlV
      go_wp2
      go_ret3
      exact ⟨by rw [hN.out]; rfl, rfl⟩
    · have hN : Hid (takeN (s.data.toList.drop p) = (v, q, 0)) := Lib.hid (by rw [hN0, if_neg h1])
      have g1 : ¬ (q : Int) < (ee : Int) := by omega
      clear hv hN0
      go_enter Tryd.func11, Tryd.ntmps11
      go_wp2_with fail
      refine HS.out.mono ?_
      rintro e w' ⟨rfl, rfl⟩
      go_wp2_with fail
      rw [HX.out]
      refine (HPV.out _).mono ?_
      rintro e w' ⟨rfl, rfl⟩
      unfold vlV
      go_wp2
      go_ret3
      exact ⟨by rw [hN.out]; rfl, rfl⟩

theorem rtake_any (s : ByteArray) (p : Int) (w : World) (hs : s.size ≤ 1000000) :
    Calls Tryd.prog 11 #[.string s, .int .i64 p] w fun e w' => e = .returned (rtV (takeO s.data.toList p)) ∧ w = w' := by
  by_cases h : p < 0 ∨ (s.size : Int) ≤ p
  · have e : takeO s.data.toList p = (0, 0, 1) := by
      unfold takeO
      by_cases h1 : p < 0
      · rw [if_pos h1]
      · rw [if_neg h1, List.drop_eq_nil_of_le (by simp; omega)]; rfl
    rw [e]; exact rtake_no s p w h
  · obtain ⟨n, rfl⟩ := Int.eq_ofNat_of_zero_le (show 0 ≤ p by omega)
    have e : takeO s.data.toList (n : Int) = takeN (s.data.toList.drop n) := by unfold takeO; rw [if_neg (by omega), Int.toNat_natCast]
    rw [e]; exact rtake_at s n w hs (by omega)

end Go.Proofs.YtjkipgdjblbemaaDoor.intsD
