/-
  haversacklaw02.alive; the laws IntsTakes and IntsParses return true.
-/
import Derived.Test.YtjkipgdjblbemaaDoorIntsD
namespace Go.Proofs.YtjkipgdjblbemaaDoor.intsE
open Go.ChangeShapes Go.WideShapes Go.ChangeAt Go.RowKit intsP intsA intsB intsC intsD errIs errs

theorem ret_bool {a b : Bool} (h : a = b) : Ending.returned (.bool a) = .returned (.bool b) := by rw [h]
/-- an error's number -/
theorem num_is (w : World) (ad : Nat → Addr) (hE : Errs w ad) (k : Nat) (hk : k ≤ 13) :
    Calls Tryd.prog 12 #[errV ad k] w fun e w' => e = .returned (.int .i64 (k : Int)) ∧ Below w.heap.size w w' := by
  by_cases h : k = 0
  · subst h
    refine (num_nil w).mono ?_
    rintro e w' ⟨rfl, rfl⟩
    exact ⟨rfl, Below.refl _ _⟩
  · obtain ⟨j, rfl⟩ : ∃ j, k = j + 1 := ⟨k - 1, by omega⟩
    have := num_err w ad hE j (by omega)
    unfold errV
    rw [if_neg h]
    exact this
theorem takeN_err (l : List UInt8) : (takeN l).2.2 ≤ 13 := by
  unfold takeN
  split
  · simp
  · split
    · simp
    · split <;> simp
theorem takeO_err (l : List UInt8) (p : Int) : (takeO l p).2.2 ≤ 13 := by
  unfold takeO; split
  · simp
  · exact takeN_err _

theorem alive (w : World) (ad : Nat → Addr) (hE : Errs w ad) (hR : Rng w) :
    Calls Tryd.prog 9 #[] w fun e w' => e = .returned (.bool true) ∧ Below w.heap.size w w' := by
  have T1 := take_any ⟨#[49, 50, 44]⟩ 0 w ad (by decide) hE hR
  rw [show takeO (ByteArray.mk #[49, 50, 44]).data.toList 0 = (12, 2, 0) from by decide +kernel] at T1
  unfold TkPost tkV errV at T1
  have T2 := fun w hE hR => take_any ⟨#[49, 46, 53]⟩ 0 w ad (by decide) hE hR
  rw [show takeO (ByteArray.mk #[49, 46, 53]).data.toList 0 = (0, 0, 4) from by decide +kernel] at T2
  unfold TkPost tkV errV at T2
  have T1 := Lib.hid T1
  have T2 := Lib.hid T2
  have HE := Lib.hid hE
  have HR := Lib.hid hR
  have hn := neqlN
  clear hE hR
  go_enter Tryd.func9, Tryd.ntmps9
  go_wp2_with fail
  refine T1.out.mono ?_
  rintro e w1 ⟨rfl, hb1⟩
  have HB1 := Lib.hid hb1
  have hz1 := hb1.size
  clear hb1
  go_wp2_with fail
  refine (T2.out _ (HE.out.below HB1.out) (rng_below HR.out HB1.out)).mono ?_
  rintro e w2 ⟨rfl, hb2⟩
  have HB2 := Lib.hid (HB1.out.trans (hb2.mono hz1))
  have hz2 := HB2.out.size
  clear hb2
  have HN := Lib.hid (num_err w2 ad (HE.out.below HB2.out) 3 (by decide))
  go_wp2_with fail
  refine HN.out.mono ?_
  rintro e w3 ⟨rfl, hb3⟩
  have HB3 := Lib.hid (HB2.out.trans (hb3.mono hz2))
  clear hb3
  go_wp2
  go_ret
  exact ⟨rfl, HB3.out⟩

theorem IntsTakes_big (s : ByteArray) (p : Int) (w : World) (ad : Nat → Addr) (hE : Errs w ad) (hR : Rng w) (h : 1000 < s.size) :
    Calls Tryd.prog 3 #[.string s, .int .i64 p] w fun e w' => e = .returned (.bool true) ∧ Below w.heap.size w w' := by
  have HA := Lib.hid (alive w ad hE hR)
  clear hE hR
  go_enter Tryd.func3, Tryd.ntmps3
  go_wp2_with fail
  refine HA.out.mono ?_
  rintro e w0 ⟨rfl, hb0⟩
  have HB0 := Lib.hid hb0
  clear hb0
  go_wp2
  go_ret
  exact ⟨rfl, HB0.out⟩
theorem IntsParses_big (s : ByteArray) (w : World) (ad : Nat → Addr) (hE : Errs w ad) (hR : Rng w) (h : 1000 < s.size) :
    Calls Tryd.prog 5 #[.string s] w fun e w' => e = .returned (.bool true) ∧ Below w.heap.size w w' := by
  have HA := Lib.hid (alive w ad hE hR)
  clear hE hR
  go_enter Tryd.func5, Tryd.ntmps5
  go_wp2_with fail
  refine HA.out.mono ?_
  rintro e w0 ⟨rfl, hb0⟩
  have HB0 := Lib.hid hb0
  clear hb0
  go_wp2
  go_ret
  exact ⟨rfl, HB0.out⟩
theorem IntsSmall_big (s : ByteArray) (p : Int) (w : World) (ad : Nat → Addr) (hE : Errs w ad) (hR : Rng w) (h : 1000 < s.size) :
    Calls Tryd.prog 8 #[.string s, .int .i64 p] w fun e w' => e = .returned (.bool true) ∧ Below w.heap.size w w' := by
  have HA := Lib.hid (alive w ad hE hR)
  clear hE hR
  go_enter Tryd.func8, Tryd.ntmps8
  go_wp2_with fail
  refine HA.out.mono ?_
  rintro e w0 ⟨rfl, hb0⟩
  have HB0 := Lib.hid hb0
  clear hb0
  go_wp2
  go_ret
  exact ⟨rfl, HB0.out⟩

theorem takes_small (s : ByteArray) (p : Int) (w : World) (ad : Nat → Addr) (hE : Errs w ad) (hR : Rng w) (h : s.size ≤ 1000) :
    Calls Tryd.prog 3 #[.string s, .int .i64 p] w fun e w' => e = .returned (.bool true) ∧ Below w.heap.size w w' := by
  have HA := Lib.hid (alive w ad hE hR)
  have T1 := fun w hE hR => take_any s p w ad (by omega) hE hR
  have T2 := fun w => rtake_any s p w (by omega)
  have hq := takeO_err s.data.toList p
  unfold TkPost tkV at T1
  unfold rtV at T2
  generalize takeO s.data.toList p = q at *
  obtain ⟨n, z, k⟩ := q
  simp only at T1 T2 hq
  have T1 := Lib.hid T1
  have T2 := Lib.hid T2
  have HN := Lib.hid (fun w hE => num_is w ad hE k hq)
  have HE := Lib.hid hE
  have HR := Lib.hid hR
  have hs' : ¬ 1000 < s.size := by omega
  clear hE hR hq
  generalize errV ad k = ek at *
  go_enter Tryd.func3, Tryd.ntmps3
  go_wp2_with fail
  refine HA.out.mono ?_
  rintro e w0 ⟨rfl, hb0⟩
  have HB0 := Lib.hid hb0
  have hz0 := hb0.size
  clear hb0
  go_wp2_with fail
  refine (T1.out _ (HE.out.below HB0.out) (rng_below HR.out HB0.out)).mono ?_
  rintro e w1 ⟨rfl, hb1⟩
  have HB1 := Lib.hid (HB0.out.trans (hb1.mono hz0))
  have hz1 := HB1.out.size
  clear hb1
  go_wp2_with fail
  refine (T2.out _).mono ?_
  rintro e w' ⟨rfl, rfl⟩
  go_wp2_with fail
  refine (HN.out _ (HE.out.below HB1.out)).mono ?_
  rintro e w3 ⟨rfl, hb3⟩
  have HB3 := Lib.hid (HB1.out.trans (hb3.mono hz1))
  clear hb3
  go_wp2
  go_ret
  exact ⟨ret_bool (by simp), HB3.out⟩
theorem lawTakes (s : ByteArray) (p : Int) (w : World) (ad : Nat → Addr) (hE : Errs w ad) (hR : Rng w) :
    Calls Tryd.prog 3 #[.string s, .int .i64 p] w fun e w' => e = .returned (.bool true) ∧ Below w.heap.size w w' := by
  by_cases h : 1000 < s.size
  · exact IntsTakes_big s p w ad hE hR h
  · exact takes_small s p w ad hE hR (by omega)

/-- the reference's Scan at the text's head, whatever the text -/
theorem rscan0 (s : ByteArray) (w : World) (hs : s.size ≤ 1000000) :
    Calls Tryd.prog 15 #[.string s, .int .i64 0] w fun e w' => e = .returned (scR s.data.toList) ∧ w = w' := by
  by_cases h : s.size = 0
  · have e : s.data.toList = [] := List.length_eq_zero_iff.1 (by simpa using h)
    rw [e]
    exact rscan_no s 0 w (Or.inr (by omega))
  · have := rscan_at s 0 w hs (by omega)
    rw [List.drop_zero] at this
    exact this

theorem parses_small (s : ByteArray) (w : World) (ad : Nat → Addr) (hE : Errs w ad) (hR : Rng w) (h : s.size ≤ 1000) :
    Calls Tryd.prog 5 #[.string s] w fun e w' => e = .returned (.bool true) ∧ Below w.heap.size w w' := by
  have HA := Lib.hid (alive w ad hE hR)
  have T1 := fun w hE hR => parse_any s w ad (by omega) hE hR
  have T2 := fun w => rscan0 s w (by omega)
  have T3 := fun w => rtake_any s 0 w (by omega)
  have e0 : takeO s.data.toList 0 = takeN s.data.toList := by unfold takeO; rw [if_neg (by omega)]; rfl
  rw [e0] at T3
  have hq := takeN_err s.data.toList
  have hll : s.data.toList.length = s.size := by simp
  have HE := Lib.hid hE
  have HR := Lib.hid hR
  have hs' : ¬ 1000 < s.size := by omega
  unfold prV at T1
  unfold scR at T2
  unfold rtV at T3
  clear hE hR e0
  by_cases h0 : whole s.data.toList = 0
  · have e1 : parseN s.data.toList = (0, 1) := by unfold parseN; rw [if_pos (Or.inl h0)]
    rw [e1] at T1
    rw [if_pos h0] at T2
    have T1 := Lib.hid T1
    have T2 := Lib.hid T2
    have HN := Lib.hid (fun w hE => num_is w ad hE 1 (by decide))
    clear T3 e1 h0 hll hq
    go_enter Tryd.func5, Tryd.ntmps5
    go_wp2_with fail
    refine HA.out.mono ?_
    rintro e w0 ⟨rfl, hb0⟩
    have HB0 := Lib.hid hb0
    have hz0 := hb0.size
    clear hb0
    go_wp2_with fail
    refine (T1.out _ (HE.out.below HB0.out) (rng_below HR.out HB0.out)).mono ?_
    rintro e w1 ⟨rfl, hb1⟩
    have HB1 := Lib.hid (HB0.out.trans (hb1.mono hz0))
    have hz1 := HB1.out.size
    clear hb1
    go_wp2_with fail
    refine (T2.out _).mono ?_
    rintro e w' ⟨rfl, rfl⟩
    go_wp2_with fail
    refine (HN.out _ (HE.out.below HB1.out)).mono ?_
    rintro e w3 ⟨rfl, hb3⟩
    have HB3 := Lib.hid (HB1.out.trans (hb3.mono hz1))
    clear hb3
    go_wp2
    go_ret
    exact ⟨rfl, HB3.out⟩
  rw [if_neg h0] at T2
  have q1 : ((whole s.data.toList : Int) == 0) = false := by rw [beq_eq_false_iff_ne]; omega
  have T2 := Lib.hid T2
  by_cases h1 : every s.data.toList = s.data.toList.length
  · have e1 : parseN s.data.toList = ((takeN s.data.toList).1, (takeN s.data.toList).2.2) := by unfold parseN; rw [if_neg (by rw [h1]; omega)]
    rw [e1] at T1
    have q2 : ((every s.data.toList : Int) != (s.size : Int)) = false := by rw [h1, hll]; simp
    generalize takeN s.data.toList = q at *
    obtain ⟨n, z, k⟩ := q
    simp only at T1 T3 hq
    have T1 := Lib.hid T1
    have T3 := Lib.hid T3
    have HN := Lib.hid (fun w hE => num_is w ad hE k hq)
    clear e1 h0 hll h1 hq
    generalize errV ad k = ek at *
    generalize whole s.data.toList = ww at *
    generalize every s.data.toList = ee at *
    go_enter Tryd.func5, Tryd.ntmps5
    go_wp2_with fail
    refine HA.out.mono ?_
    rintro e w0 ⟨rfl, hb0⟩
    have HB0 := Lib.hid hb0
    have hz0 := hb0.size
    clear hb0
    go_wp2_with fail
    refine (T1.out _ (HE.out.below HB0.out) (rng_below HR.out HB0.out)).mono ?_
    rintro e w1 ⟨rfl, hb1⟩
    have HB1 := Lib.hid (HB0.out.trans (hb1.mono hz0))
    have hz1 := HB1.out.size
    clear hb1
    go_wp2_with fail
    refine (T2.out _).mono ?_
    rintro e w' ⟨rfl, rfl⟩
    go_wp2_with fail
    refine (T3.out _).mono ?_
    rintro e w' ⟨rfl, rfl⟩
    go_wp2_with fail
    refine (HN.out _ (HE.out.below HB1.out)).mono ?_
    rintro e w3 ⟨rfl, hb3⟩
    have HB3 := Lib.hid (HB1.out.trans (hb3.mono hz1))
    clear hb3
    go_wp2
    go_ret
    exact ⟨ret_bool (by simp), HB3.out⟩
  · have e1 : parseN s.data.toList = (0, 1) := by unfold parseN; rw [if_pos (Or.inr h1)]
    rw [e1] at T1
    have q2 : ((every s.data.toList : Int) != (s.size : Int)) = true := by rw [bne_iff_ne]; omega
    have T1 := Lib.hid T1
    have HN := Lib.hid (fun w hE => num_is w ad hE 1 (by decide))
    clear T3 e1 h0 hll hq h1
    generalize whole s.data.toList = ww at *
    generalize every s.data.toList = ee at *
    go_enter Tryd.func5, Tryd.ntmps5
    go_wp2_with fail
    refine HA.out.mono ?_
    rintro e w0 ⟨rfl, hb0⟩
    have HB0 := Lib.hid hb0
    have hz0 := hb0.size
    clear hb0
    go_wp2_with fail
    refine (T1.out _ (HE.out.below HB0.out) (rng_below HR.out HB0.out)).mono ?_
    rintro e w1 ⟨rfl, hb1⟩
    have HB1 := Lib.hid (HB0.out.trans (hb1.mono hz0))
    have hz1 := HB1.out.size
    clear hb1
    go_wp2_with fail
    refine (T2.out _).mono ?_
    rintro e w' ⟨rfl, rfl⟩
    go_wp2_with fail
    refine (HN.out _ (HE.out.below HB1.out)).mono ?_
    rintro e w3 ⟨rfl, hb3⟩
    have HB3 := Lib.hid (HB1.out.trans (hb3.mono hz1))
    clear hb3
    go_wp2
    go_ret
    exact ⟨rfl, HB3.out⟩
theorem lawParses (s : ByteArray) (w : World) (ad : Nat → Addr) (hE : Errs w ad) (hR : Rng w) :
    Calls Tryd.prog 5 #[.string s] w fun e w' => e = .returned (.bool true) ∧ Below w.heap.size w w' := by
  by_cases h : 1000 < s.size
  · exact IntsParses_big s w ad hE hR h
  · exact parses_small s w ad hE hR (by omega)

end Go.Proofs.YtjkipgdjblbemaaDoor.intsE
