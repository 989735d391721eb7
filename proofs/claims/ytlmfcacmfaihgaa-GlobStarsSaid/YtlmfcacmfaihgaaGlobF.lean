/-
  glob.Plain; the law GlobStars returns true.
-/
import Derived.Test.YtlmfcacmfaihgaaGlobE
import Derived.Test.YtlmfcacmfaihgaaShelf
namespace Go.Proofs.Ytlmfcacmfaihgaa.globF
open Go.ChangeShapes Go.WideShapes Go.ChangeAt Go.RowKit globP globQ globA globB globC globD globE

def plainB (l : List UInt8) : Bool := l.all fun c => c != star

theorem index_neg (l : List UInt8) (c : UInt8) : decide (Lib.indexByte l c < 0) = l.all (fun x => x != c) := by
  have key : ∀ l : List UInt8, (Lib.indexByte l c = -1 ∧ l.all (fun x => x != c) = true) ∨ (0 ≤ Lib.indexByte l c ∧ l.all (fun x => x != c) = false) := by
    intro l
    induction l with
    | nil => left; exact ⟨rfl, rfl⟩
    | cons b l ih =>
      by_cases h : b = c
      · right; subst h; simp [Lib.indexByte]
      · rcases ih with ⟨h1, h2⟩ | ⟨h1, h2⟩
        · left; simp only [Lib.indexByte, List.all_cons]; rw [h1, h2]; simp [h]
        · right
          have h3 : ¬ Lib.indexByte l c = -1 := by omega
          simp only [Lib.indexByte, List.all_cons]; rw [h2]; simp [h, h3]; omega
  rcases key l with ⟨h1, h2⟩ | ⟨h1, h2⟩
  · rw [h1, h2]; rfl
  · rw [h2, decide_eq_false]; omega

theorem plain_any (P : ByteArray) (w : World) :
    Calls Try.prog 16 #[.string P] w fun e w' => e = .returned (.bool (plainB P.data.toList)) ∧ w = w' := by
  have hr := Lib.hid (index_neg P.data.toList (42 : Int).toNat.toUInt8)
  go_enter Try.func16, Try.ntmps16
  go_wp2_with (go_at_call 23; refine (Try.strings_IndexByte _ _ _).mono ?_; rintro e w' ⟨rfl, rfl⟩)
  go_ret
  exact ⟨ret_bool hr.out, rfl⟩

theorem plain_is (P : ByteArray) (b : Bool) (hb : plainB P.data.toList = b) (w : World) :
    Calls Try.prog 16 #[.string P] w fun e w' => e = .returned (.bool b) ∧ w = w' := by
  subst hb; exact plain_any P w

theorem plainB_plainT (l : List UInt8) (h : plainB l = true) : plainT l := by
  intro c hc
  have := (List.all_eq_true.1 h) c hc
  simpa using this

-- the law
theorem more_star (a b s : List UInt8) (h : gm (a ++ b) s = true) : gm (a ++ star :: b) s = true := by
  obtain ⟨x, y, rfl, hx, hy⟩ := (gm_append a b s).1 h
  exact (gm_append a (star :: b) _).2 ⟨x, y, rfl, hx, (gm_star b y).2 ⟨[], y, rfl, hy⟩⟩
theorem two_stars (a b s : List UInt8) : gm (a ++ star :: star :: b) s = gm (a ++ star :: b) s := by
  rw [Bool.eq_iff_iff, gm_append, gm_append]
  constructor
  · rintro ⟨x, y, rfl, hx, hy⟩
    obtain ⟨u, v, rfl, hv⟩ := (gm_star _ y).1 hy
    obtain ⟨u', v', rfl, hv'⟩ := (gm_star _ v).1 hv
    exact ⟨x, u ++ (u' ++ v'), rfl, hx, (gm_star b _).2 ⟨u ++ u', v', by simp, hv'⟩⟩
  · rintro ⟨x, y, rfl, hx, hy⟩
    exact ⟨x, y, rfl, hx, (gm_star _ y).2 ⟨[], y, rfl, hy⟩⟩

theorem l2 (A B : ByteArray) : (A ++ B).data.toList = A.data.toList ++ B.data.toList := by simp [ByteArray.data_append]
theorem l3 (A B : ByteArray) : (A ++ { data := #[42] } ++ B).data.toList = A.data.toList ++ star :: B.data.toList := by simp [ByteArray.data_append, star]
theorem l4 (A B : ByteArray) : (A ++ { data := #[42, 42] } ++ B).data.toList = A.data.toList ++ star :: star :: B.data.toList := by simp [ByteArray.data_append, star]
theorem z3 (A B : ByteArray) : (A ++ { data := #[42] } ++ B).size = A.size + 1 + B.size := by rw [ByteArray.size_append, ByteArray.size_append]; rfl
theorem z4 (A B : ByteArray) : (A ++ { data := #[42, 42] } ++ B).size = A.size + 2 + B.size := by rw [ByteArray.size_append, ByteArray.size_append]; rfl

theorem stars_small (A B S : ByteArray) (ha : A.size ≤ 60) (hb : B.size ≤ 60) (hs : S.size ≤ 100) (w : World) :
    Calls Try.prog 6 #[.string A, .string B, .string S] w fun e w' => e = .returned (.bool true) ∧ Grown w w' := by
  have hA : A.size ≤ maxLen := by unfold maxLen; omega
  have hS : S.size ≤ maxLen := by unfold maxLen; omega
  have hAB : (A ++ B).size ≤ maxLen := by rw [ByteArray.size_append]; unfold maxLen; omega
  have hA3 : (A ++ { data := #[42] } ++ B).size ≤ maxLen := by rw [z3]; unfold maxLen; omega
  have hA4 : (A ++ { data := #[42, 42] } ++ B).size ≤ maxLen := by rw [z4]; unfold maxLen; omega
  have h1 : ¬ 60 < A.size := by omega
  have h2 : ¬ 60 < B.size := by omega
  have h3 : ¬ 100 < S.size := by omega
  have f4 : Hid (gm (A ++ { data := #[42, 42] } ++ B).data.toList S.data.toList = gm (A ++ { data := #[42] } ++ B).data.toList S.data.toList) := Lib.hid (by rw [l3, l4]; exact two_stars _ _ _)
  have f3 : Hid (gm (A ++ B).data.toList S.data.toList = true → gm (A ++ { data := #[42] } ++ B).data.toList S.data.toList = true) := Lib.hid (by rw [l3, l2]; exact more_star _ _ _)
  have f5 : Hid (plainB A.data.toList = true → gm A.data.toList S.data.toList = (A.toList == S.toList)) := Lib.hid (by
    intro h
    rw [Bool.eq_iff_iff, gm_plain _ (plainB_plainT _ h), beq_iff_eq, toL, toL]; exact eq_comm)
  cases x1 : gm (A ++ B).data.toList S.data.toList
  · generalize hx2 : gm (A ++ { data := #[42] } ++ B).data.toList S.data.toList = x2
    rw [hx2] at f4
    have X1 := Lib.hid x1
    have X2 := Lib.hid hx2
    clear x1 hx2 f3
    cases x5 : plainB A.data.toList
    · have X5 := Lib.hid x5
      clear x5 f5
      go_enter Try.func6, Try.ntmps6
      go_wp2_with fail
      refine (globD.alive _).mono ?_
      rintro e w' ⟨rfl, n1', rfl⟩
      go_wp2_with fail
      refine (match_is _ _ _ X1.out _ hAB hS).mono ?_
      rintro e w' ⟨rfl, n2', rfl⟩
      go_wp2_with fail
      refine (match_is _ _ _ X2.out _ hA3 hS).mono ?_
      rintro e w' ⟨rfl, n3', rfl⟩
      go_wp2_with fail
      refine (match_is _ _ _ f4.out _ hA4 hS).mono ?_
      rintro e w' ⟨rfl, n4', rfl⟩
      go_wp2_with fail
      refine (plain_is _ _ X5.out _).mono ?_
      rintro e w' ⟨rfl, rfl⟩
      go_wp2
      go_ret
      exact ⟨rfl, grown_drewN _⟩
    · have X5 := Lib.hid x5
      have f6 := Lib.hid (f5.out x5)
      clear x5 f5
      go_enter Try.func6, Try.ntmps6
      go_wp2_with fail
      refine (globD.alive _).mono ?_
      rintro e w' ⟨rfl, n1', rfl⟩
      go_wp2_with fail
      refine (match_is _ _ _ X1.out _ hAB hS).mono ?_
      rintro e w' ⟨rfl, n2', rfl⟩
      go_wp2_with fail
      refine (match_is _ _ _ X2.out _ hA3 hS).mono ?_
      rintro e w' ⟨rfl, n3', rfl⟩
      go_wp2_with fail
      refine (match_is _ _ _ f4.out _ hA4 hS).mono ?_
      rintro e w' ⟨rfl, n4', rfl⟩
      go_wp2_with fail
      refine (plain_is _ _ X5.out _).mono ?_
      rintro e w' ⟨rfl, rfl⟩
      go_wp2_with fail
      refine (match_is _ _ _ f6.out _ hA hS).mono ?_
      rintro e w' ⟨rfl, n5', rfl⟩
      go_wp2
      go_ret
      exact ⟨ret_bool (by simp), grown_drewN _⟩
  · have x2 := f3.out x1
    rw [x2] at f4
    have X1 := Lib.hid x1
    have X2 := Lib.hid x2
    clear x1 x2 f3
    cases x5 : plainB A.data.toList
    · have X5 := Lib.hid x5
      clear x5 f5
      go_enter Try.func6, Try.ntmps6
      go_wp2_with fail
      refine (globD.alive _).mono ?_
      rintro e w' ⟨rfl, n1', rfl⟩
      go_wp2_with fail
      refine (match_is _ _ _ X1.out _ hAB hS).mono ?_
      rintro e w' ⟨rfl, n2', rfl⟩
      go_wp2_with fail
      refine (match_is _ _ _ X2.out _ hA3 hS).mono ?_
      rintro e w' ⟨rfl, n3', rfl⟩
      go_wp2_with fail
      refine (match_is _ _ _ X2.out _ hA3 hS).mono ?_
      rintro e w' ⟨rfl, n3'', rfl⟩
      go_wp2_with fail
      refine (match_is _ _ _ f4.out _ hA4 hS).mono ?_
      rintro e w' ⟨rfl, n4', rfl⟩
      go_wp2_with fail
      refine (plain_is _ _ X5.out _).mono ?_
      rintro e w' ⟨rfl, rfl⟩
      go_wp2
      go_ret
      exact ⟨rfl, grown_drewN _⟩
    · have X5 := Lib.hid x5
      have f6 := Lib.hid (f5.out x5)
      clear x5 f5
      go_enter Try.func6, Try.ntmps6
      go_wp2_with fail
      refine (globD.alive _).mono ?_
      rintro e w' ⟨rfl, n1', rfl⟩
      go_wp2_with fail
      refine (match_is _ _ _ X1.out _ hAB hS).mono ?_
      rintro e w' ⟨rfl, n2', rfl⟩
      go_wp2_with fail
      refine (match_is _ _ _ X2.out _ hA3 hS).mono ?_
      rintro e w' ⟨rfl, n3', rfl⟩
      go_wp2_with fail
      refine (match_is _ _ _ X2.out _ hA3 hS).mono ?_
      rintro e w' ⟨rfl, n3'', rfl⟩
      go_wp2_with fail
      refine (match_is _ _ _ f4.out _ hA4 hS).mono ?_
      rintro e w' ⟨rfl, n4', rfl⟩
      go_wp2_with fail
      refine (plain_is _ _ X5.out _).mono ?_
      rintro e w' ⟨rfl, rfl⟩
      go_wp2_with fail
      refine (match_is _ _ _ f6.out _ hA hS).mono ?_
      rintro e w' ⟨rfl, n5', rfl⟩
      go_wp2
      go_ret
      exact ⟨ret_bool (by simp), grown_drewN _⟩

theorem stars (A B S : ByteArray) (w : World) :
    Calls Try.prog 6 #[.string A, .string B, .string S] w fun e w' => e = .returned (.bool true) ∧ Grown w w' := by
  by_cases h1 : 60 < A.size
  · go_enter Try.func6, Try.ntmps6
    go_wp2_with fail
    refine (globD.alive _).mono ?_
    rintro e w' ⟨rfl, n1', rfl⟩
    go_wp2
    go_ret
    exact ⟨rfl, grown_drewN _⟩
  by_cases h2 : 60 < B.size
  · go_enter Try.func6, Try.ntmps6
    go_wp2_with fail
    refine (globD.alive _).mono ?_
    rintro e w' ⟨rfl, n1', rfl⟩
    go_wp2
    go_ret
    exact ⟨rfl, grown_drewN _⟩
  by_cases h3 : 100 < S.size
  · go_enter Try.func6, Try.ntmps6
    go_wp2_with fail
    refine (globD.alive _).mono ?_
    rintro e w' ⟨rfl, n1', rfl⟩
    go_wp2
    go_ret
    exact ⟨rfl, grown_drewN _⟩
  exact stars_small A B S (by omega) (by omega) (by omega) w

end Go.Proofs.Ytlmfcacmfaihgaa.globF
