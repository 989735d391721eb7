/-
  The laws GlobWords, GlobSteps and GlobStars return true.
-/
import Derived.Test.YtlmfcacmfaihgaaGlobD
namespace Go.Proofs.Ytlmfcacmfaihgaa.globE
open Go.ChangeShapes Go.WideShapes Go.ChangeAt Go.RowKit globP globQ globA globB globC globD

theorem words (s : ByteArray) (hs : s.size ≤ maxLen) (w : World) :
    Calls Try.prog 5 #[.string s] w fun e w' => e = .returned (.bool true) ∧ Grown w w' := by
  by_cases h1 : 500 < s.size
  · go_enter Try.func5, Try.ntmps5
    go_wp2_with fail
    refine (globD.alive _).mono ?_
    rintro e w' ⟨rfl, n1', rfl⟩
    go_wp2
    go_ret
    exact ⟨rfl, grown_drewN _⟩
  · go_enter Try.func5, Try.ntmps5
    go_wp2_with fail
    refine (globD.alive _).mono ?_
    rintro e w' ⟨rfl, n1', rfl⟩
    go_wp2_with (first | (go_at_call 10; refine (word_any _ _ hs).mono ?_; rintro e w' ⟨rfl, rfl⟩) | (go_at_call 12; refine (pattern_any _ _ hs).mono ?_; rintro e w' ⟨rfl, rfl⟩) | (go_at_call 14; refine (name_any _ _ hs).mono ?_; rintro e w' ⟨rfl, rfl⟩) | (go_at_call 11; refine (refword_any _ _ hs).mono ?_; rintro e w' ⟨rfl, rfl⟩) | (go_at_call 13; refine (refpattern_any _ _ hs).mono ?_; rintro e w' ⟨rfl, rfl⟩) | (go_at_call 15; refine (refname_any _ _ hs).mono ?_; rintro e w' ⟨rfl, rfl⟩))
    go_ret
    exact ⟨rfl, grown_drewN _⟩

theorem toL (s : ByteArray) : s.toList = s.data.toList := Go.ByteArray.toList_eq s
theorem app (c : UInt8) (P : ByteArray) : (({ data := #[c] } : ByteArray) ++ P).data.toList = c :: P.data.toList := by simp [ByteArray.data_append]
theorem app_size (c : UInt8) (P : ByteArray) : (({ data := #[c] } : ByteArray) ++ P).size = P.size + 1 := by
  rw [ByteArray.size_append]; show 1 + P.size = _; omega
theorem ext_drop (S : ByteArray) (k : Nat) : (S.extract k S.size).data.toList = S.data.toList.drop k := by
  rw [ByteArray.data_extract, Array.toList_extract]
  simp [List.extract, List.take_of_length_le]
theorem ext_size (S : ByteArray) (k : Nat) : (S.extract k S.size).size = S.size - k := by
  rw [ByteArray.size_extract]; omega
theorem emp (S : ByteArray) (h : S.size = 0) : S.data.toList = [] := by
  rw [← List.length_eq_zero_iff]; simpa using h
theorem nonemp (S : ByteArray) (h : ¬ S.size = 0) : ∃ d t, S.data.toList = d :: t := by
  cases e : S.data.toList with
  | nil => exact absurd (by rw [← ByteArray.size_data, ← Array.length_toList, e]; rfl) h
  | cons d t => exact ⟨d, t, rfl⟩

theorem steps_empty (P S : ByteArray) (hp : P.size ≤ 100) (h0 : S.size = 0) (w : World) :
    Calls Try.prog 4 #[.string P, .string S] w fun e w' => e = .returned (.bool true) ∧ Grown w w' := by
  have e0 := emp S h0
  have hS : S.size ≤ maxLen := by unfold maxLen; omega
  have q1 : S.toList.isEmpty = true := by rw [toL, e0]; rfl
  have f1 : Hid (gm (({ data := #[42] } : ByteArray) ++ P).data.toList S.data.toList = gm P.data.toList []) := Lib.hid (by rw [app, e0]; exact gm_star_nil _)
  have h1 : ¬ 100 < P.size := by omega
  have h2 : ¬ 100 < S.size := by omega
  clear e0
  have H0 := Lib.hid h0
  clear h0
  go_enter Try.func4, Try.ntmps4
  go_wp2_with fail
  refine (globD.alive _).mono ?_
  rintro e w' ⟨rfl, n1', rfl⟩
  go_wp2_with fail
  refine (match_is _ _ _ f1.out _ (by rw [app_size]; unfold maxLen; omega) hS).mono ?_
  rintro e w' ⟨rfl, n2', rfl⟩
  go_wp2_with fail
  refine (match_is _ _ _ rfl _ (by unfold maxLen; omega) (by decide)).mono ?_
  rintro e w' ⟨rfl, n3', rfl⟩
  go_wp2
  go_ret
  exact ⟨ret_bool (by simp), grown_drewN _⟩

theorem steps_more (P S : ByteArray) (hp : P.size ≤ 100) (hs : S.size ≤ 100) (h0 : ¬ S.size = 0) (w : World) :
    Calls Try.prog 4 #[.string P, .string S] w fun e w' => e = .returned (.bool true) ∧ Grown w w' := by
  obtain ⟨d, t, e0⟩ := nonemp S h0
  have hS : S.size ≤ maxLen := by unfold maxLen; omega
  have hP : P.size ≤ maxLen := by unfold maxLen; omega
  have hP1 : ∀ c : UInt8, (({ data := #[c] } : ByteArray) ++ P).size ≤ maxLen := fun c => by rw [app_size]; unfold maxLen; omega
  have hS1 : ∀ c : UInt8, (({ data := #[c] } : ByteArray) ++ S).size ≤ maxLen := fun c => by rw [app_size]; unfold maxLen; omega
  have hS2 : (S.extract 1 S.size).size ≤ maxLen := by rw [ext_size]; unfold maxLen; omega
  have q1 : S.toList.isEmpty = false := by rw [toL, e0]; rfl
  have f1 : Hid (gm (({ data := #[42] } : ByteArray) ++ P).data.toList S.data.toList = (gm P.data.toList S.data.toList || gm (star :: P.data.toList) t)) := Lib.hid (by rw [app, e0]; exact gm_star_cons _ _ _)
  have f2 : Hid (gm (({ data := #[42] } : ByteArray) ++ P).data.toList (S.extract 1 S.size).data.toList = gm (star :: P.data.toList) t) := Lib.hid (by rw [app, ext_drop, e0]; rfl)
  have f3 : Hid (gm (({ data := #[120] } : ByteArray) ++ P).data.toList (({ data := #[120] } : ByteArray) ++ S).data.toList = gm P.data.toList S.data.toList) := Lib.hid (by
    rw [app, app, gm_lit _ _ _ _ (by decide)]; simp)
  have f4 : Hid (gm (({ data := #[120] } : ByteArray) ++ P).data.toList (({ data := #[121] } : ByteArray) ++ S).data.toList = false) := Lib.hid (by
    rw [app, app, gm_lit _ _ _ _ (by decide)]; rfl)
  have h1 : ¬ 100 < P.size := by omega
  have h2 : ¬ 100 < S.size := by omega
  have h3 : 1 ≤ S.size := by omega
  have HP1 := Lib.hid hP1
  have HS1 := Lib.hid hS1
  clear e0 h0 hP1 hS1
  generalize gm (star :: P.data.toList) t = y at *
  generalize hx : gm P.data.toList S.data.toList = x at *
  have fx := Lib.hid hx
  clear hx
  cases x
  · go_enter Try.func4, Try.ntmps4
    go_wp2_with fail
    refine (globD.alive _).mono ?_
    rintro e w' ⟨rfl, n1', rfl⟩
    go_wp2_with fail
    refine (match_is _ _ _ f1.out _ (HP1.out _) hS).mono ?_
    rintro e w' ⟨rfl, n2', rfl⟩
    go_wp2_with fail
    refine (match_is _ _ _ fx.out _ hP hS).mono ?_
    rintro e w' ⟨rfl, n3', rfl⟩
    go_wp2_with fail
    refine (match_is _ _ _ f2.out _ (HP1.out _) hS2).mono ?_
    rintro e w' ⟨rfl, n4', rfl⟩
    go_wp2_with fail
    refine (match_is _ _ _ f3.out _ (HP1.out _) (HS1.out _)).mono ?_
    rintro e w' ⟨rfl, n5', rfl⟩
    go_wp2_with fail
    refine (match_is _ _ _ fx.out _ hP hS).mono ?_
    rintro e w' ⟨rfl, n6', rfl⟩
    go_wp2_with fail
    refine (match_is _ _ _ f4.out _ (HP1.out _) (HS1.out _)).mono ?_
    rintro e w' ⟨rfl, n7', rfl⟩
    go_wp2
    go_ret
    exact ⟨rfl, grown_drewN _⟩
  · go_enter Try.func4, Try.ntmps4
    go_wp2_with fail
    refine (globD.alive _).mono ?_
    rintro e w' ⟨rfl, n1', rfl⟩
    go_wp2_with fail
    refine (match_is _ _ _ f1.out _ (HP1.out _) hS).mono ?_
    rintro e w' ⟨rfl, n2', rfl⟩
    go_wp2_with fail
    refine (match_is _ _ _ fx.out _ hP hS).mono ?_
    rintro e w' ⟨rfl, n3', rfl⟩
    go_wp2_with fail
    refine (match_is _ _ _ f3.out _ (HP1.out _) (HS1.out _)).mono ?_
    rintro e w' ⟨rfl, n5', rfl⟩
    go_wp2_with fail
    refine (match_is _ _ _ fx.out _ hP hS).mono ?_
    rintro e w' ⟨rfl, n6', rfl⟩
    go_wp2_with fail
    refine (match_is _ _ _ f4.out _ (HP1.out _) (HS1.out _)).mono ?_
    rintro e w' ⟨rfl, n7', rfl⟩
    go_wp2
    go_ret
    exact ⟨rfl, grown_drewN _⟩

theorem steps (P S : ByteArray) (w : World) :
    Calls Try.prog 4 #[.string P, .string S] w fun e w' => e = .returned (.bool true) ∧ Grown w w' := by
  by_cases h1 : 100 < P.size
  · go_enter Try.func4, Try.ntmps4
    go_wp2_with fail
    refine (globD.alive _).mono ?_
    rintro e w' ⟨rfl, n1', rfl⟩
    go_wp2
    go_ret
    exact ⟨rfl, grown_drewN _⟩
  by_cases h2 : 100 < S.size
  · go_enter Try.func4, Try.ntmps4
    go_wp2_with fail
    refine (globD.alive _).mono ?_
    rintro e w' ⟨rfl, n1', rfl⟩
    go_wp2
    go_ret
    exact ⟨rfl, grown_drewN _⟩
  by_cases h0 : S.size = 0
  · exact steps_empty P S (by omega) h0 w
  · exact steps_more P S (by omega) (by omega) h0 w

end Go.Proofs.Ytlmfcacmfaihgaa.globE
