/-
  glob.Word, Pattern, Name; the reference's in, All, Word, Pattern, Name; alive; the law GlobWords returns true.
-/
import Derived.Test.YtlmfcacmfaihgaaGlobB
import Derived.RowKit3
namespace Go.Proofs.Ytlmfcacmfaihgaa.globC
open Go.ChangeShapes Go.WideShapes Go.ChangeAt Go.RowKit globP globQ globA globB

def wordP (c : UInt8) : Bool := inW c.toNat
def patP (c : UInt8) : Bool := ((c.toNat : Int) == 42 || inW c.toNat)
def nameP (c : UInt8) : Bool := nmB c.toNat

theorem asks_word : Asks 18 wordP := fun _ w => inWord_any _ w
theorem asks_pattern : Asks 20 patP := fun _ w => pattern1_any _ w
theorem asks_name : Asks 21 nameP := fun _ w => name1_any _ w

def lowerS : ByteArray := ⟨#[97, 98, 99, 100, 101, 102, 103, 104, 105, 106, 107, 108, 109, 110, 111, 112, 113, 114, 115, 116, 117, 118, 119, 120, 121, 122, 48, 49, 50, 51, 52, 53, 54, 55, 56, 57, 95, 46, 45]⟩
def moreWord : ByteArray := ⟨#[65, 66, 67, 68, 69, 70, 71, 72, 73, 74, 75, 76, 77, 78, 79, 80, 81, 82, 83, 84, 85, 86, 87, 88, 89, 90, 43, 33]⟩
def morePattern : ByteArray := ⟨#[65, 66, 67, 68, 69, 70, 71, 72, 73, 74, 75, 76, 77, 78, 79, 80, 81, 82, 83, 84, 85, 86, 87, 88, 89, 90, 43, 33, 42]⟩
def moreName : ByteArray := ⟨#[]⟩

def has (l : List UInt8) (c : UInt8) : Bool := l.any fun x => x == c
def refP (more : ByteArray) (c : UInt8) : Bool := has lowerS.data.toList c || has more.data.toList c

theorem byte_all (p : UInt8 → Bool) (h : ∀ n : Fin 256, p (UInt8.ofNat n.val) = true) (c : UInt8) : p c = true := by
  have e := h ⟨c.toNat, c.toNat_lt⟩
  rwa [UInt8.ofNat_toNat] at e

theorem ref_word (c : UInt8) : refP moreWord c = wordP c := beq_iff_eq.1 (byte_all (fun c => refP moreWord c == wordP c) (by decide +kernel) c)
theorem ref_pattern (c : UInt8) : refP morePattern c = patP c := beq_iff_eq.1 (byte_all (fun c => refP morePattern c == patP c) (by decide +kernel) c)
theorem ref_name (c : UInt8) : refP moreName c = nameP c := beq_iff_eq.1 (byte_all (fun c => refP moreName c == nameP c) (by decide +kernel) c)

theorem word_any (s : ByteArray) (w : World) (hs : s.size ≤ maxLen) :
    Calls Try.prog 10 #[.string s] w fun e w' => e = .returned (.bool (eachB wordP s.data.toList)) ∧ w = w' := by
  go_enter Try.func10, Try.ntmps10
  go_wp2_with (go_at_call 17; refine (each_word wordP asks_word _ _ hs).mono ?_; rintro e w' ⟨rfl, rfl⟩)
  go_ret
  exact ⟨rfl, rfl⟩
theorem pattern_any (s : ByteArray) (w : World) (hs : s.size ≤ maxLen) :
    Calls Try.prog 12 #[.string s] w fun e w' => e = .returned (.bool (eachB patP s.data.toList)) ∧ w = w' := by
  go_enter Try.func12, Try.ntmps12
  go_wp2_with (go_at_call 17; refine (each_pattern patP asks_pattern _ _ hs).mono ?_; rintro e w' ⟨rfl, rfl⟩)
  go_ret
  exact ⟨rfl, rfl⟩
theorem name_any (s : ByteArray) (w : World) (hs : s.size ≤ maxLen) :
    Calls Try.prog 14 #[.string s] w fun e w' => e = .returned (.bool (eachB nameP s.data.toList)) ∧ w = w' := by
  go_enter Try.func14, Try.ntmps14
  go_wp2_with (go_at_call 17; refine (each_name nameP asks_name _ _ hs).mono ?_; rintro e w' ⟨rfl, rfl⟩)
  go_ret
  exact ⟨rfl, rfl⟩

-- the reference's
theorem in_any (c : UInt8) (s : ByteArray) (w : World) (hs : s.size ≤ maxLen) :
    Calls Try.prog 24 #[.int .u8 (c.toNat : Int), .string s] w fun e w' => e = .returned (.bool (has s.data.toList c)) ∧ w = w' := by
  unfold maxLen at hs
  go_enter Try.func24, Try.ntmps24
  go_wp2
  go_loop [5] (fun i => ∃ k : Nat, k ≤ s.size ∧ i = .int .i64 k ∧ Hid ((s.data.toList.take k).any (fun x => x == c) = false)) (fun i => s.size - (intOf i).toNat)
  case atStart => exact ⟨0, Nat.zero_le _, rfl, Lib.hid rfl⟩
  case round =>
    obtain ⟨k, hk, rfl, ha⟩ := hrel
    by_cases hlt : k < s.size
    · by_cases hc : s[k] = c
      · have hv : ((s[k].toNat : Int) == (c.toNat : Int)) = true := by rw [hc]; simp
        have hn : Hid (has s.data.toList c = true) := Lib.hid (by
          unfold has; rw [List.any_eq_true]; exact ⟨s[k], List.mem_of_getElem? (bat s k hlt), by simp [hc]⟩)
        clear hc
        go_wp2
        go_ret
        exact ⟨ret_bool (by rw [hn.out]), rfl⟩
      · have hv : ((s[k].toNat : Int) == (c.toNat : Int)) = false := by
          rw [beq_eq_false_iff_ne]; intro h; apply hc; exact UInt8.toNat_inj.1 (by omega)
        have hn : Hid ((s.data.toList.take (k + 1)).any (fun x => x == c) = false) := Lib.hid (by
          have e : s.data.toList.take (k + 1) = s.data.toList.take k ++ [s[k]] := by
            rw [List.take_succ_eq_append_getElem (by simpa using hlt)]; rfl
          rw [e, List.any_append, ha.out]; simp [hc])
        clear hc
        go_wp2
        go_round
        case rel => exact ⟨k + 1, by omega, by go_num, hn⟩
        case measure => simp [intOf]; omega
    · have hn : Hid (has s.data.toList c = false) := Lib.hid (by
        have := ha.out; rw [List.take_of_length_le (by simp; omega)] at this; exact this)
      go_wp2
      go_ret
      exact ⟨ret_bool (by rw [hn.out]), rfl⟩

theorem in_is (c : UInt8) (s : ByteArray) (b : Bool) (hb : has s.data.toList c = b) (w : World) (hs : s.size ≤ maxLen) :
    Calls Try.prog 24 #[.int .u8 (c.toNat : Int), .string s] w fun e w' => e = .returned (.bool b) ∧ w = w' := by
  subst hb; exact in_any c s w hs

theorem all_any (s more : ByteArray) (w : World) (hs : s.size ≤ maxLen) (hm : more.size ≤ maxLen) :
    Calls Try.prog 19 #[.string s, .string more] w fun e w' => e = .returned (.bool (eachB (refP more) s.data.toList)) ∧ w = w' := by
  have hl : lowerS.size ≤ maxLen := by decide
  have hs' := hs
  unfold maxLen at hs
  go_enter Try.func19, Try.ntmps19
  go_wp2
  go_loop [5] (fun i => ∃ k : Nat, k ≤ s.size ∧ i = .int .i64 k ∧ Hid ((s.data.toList.take k).all (refP more) = true)) (fun i => s.size - (intOf i).toNat)
  case atStart => exact ⟨0, Nat.zero_le _, rfl, Lib.hid rfl⟩
  case round =>
    obtain ⟨k, hk, rfl, ha⟩ := hrel
    by_cases hlt : k < s.size
    · cases h1 : has lowerS.data.toList s[k]
      · cases h2 : has more.data.toList s[k]
        · have hn : Hid (eachB (refP more) s.data.toList = false) := Lib.hid (by
            unfold eachB; rw [all_no (refP more) s k hlt (by unfold refP; rw [h1, h2]; rfl), Bool.and_false])
          have H1 := Lib.hid h1
          have H2 := Lib.hid h2
          clear h1 h2
          go_wp2_with fail
          refine (in_is _ _ false H1.out _ hl).mono ?_
          rintro e w' ⟨rfl, rfl⟩
          go_wp2_with fail
          refine (in_is _ _ false H2.out _ hm).mono ?_
          rintro e w' ⟨rfl, rfl⟩
          go_wp2
          go_ret
          exact ⟨ret_bool (by rw [hn.out]), rfl⟩
        · have hn : Hid ((s.data.toList.take (k + 1)).all (refP more) = true) := Lib.hid (by rw [all_take (refP more) s k hlt, ha.out]; unfold refP; rw [h1, h2]; rfl)
          have H1 := Lib.hid h1
          have H2 := Lib.hid h2
          clear h1 h2
          go_wp2_with fail
          refine (in_is _ _ false H1.out _ hl).mono ?_
          rintro e w' ⟨rfl, rfl⟩
          go_wp2_with fail
          refine (in_is _ _ true H2.out _ hm).mono ?_
          rintro e w' ⟨rfl, rfl⟩
          go_wp2
          go_round
          case rel => exact ⟨k + 1, by omega, by go_num, hn⟩
          case measure => simp [intOf]; omega
      · have hn : Hid ((s.data.toList.take (k + 1)).all (refP more) = true) := Lib.hid (by rw [all_take (refP more) s k hlt, ha.out]; unfold refP; rw [h1]; rfl)
        have H1 := Lib.hid h1
        clear h1
        go_wp2_with fail
        refine (in_is _ _ true H1.out _ hl).mono ?_
        rintro e w' ⟨rfl, rfl⟩
        go_wp2
        go_round
        case rel => exact ⟨k + 1, by omega, by go_num, hn⟩
        case measure => simp [intOf]; omega
    · have hn : Hid (eachB (refP more) s.data.toList = decide (1 ≤ s.size ∧ s.size ≤ 40)) := Lib.hid (by
        unfold eachB; rw [all_end (refP more) s k hlt ha.out, Bool.and_true]; simp)
      by_cases h1 : 0 < s.size
      · by_cases h2 : s.size < 41
        · go_wp2
          go_ret
          exact ⟨ret_bool (by rw [hn.out, decide_eq_true (show 1 ≤ s.size ∧ s.size ≤ 40 by omega)]; first | rfl | (simp; omega)), rfl⟩
        · go_wp2
          go_ret
          exact ⟨ret_bool (by rw [hn.out, decide_eq_false (show ¬ (1 ≤ s.size ∧ s.size ≤ 40) by omega)]; first | rfl | (simp; omega)), rfl⟩
      · go_wp2
        go_ret
        exact ⟨ret_bool (by rw [hn.out, decide_eq_false (show ¬ (1 ≤ s.size ∧ s.size ≤ 40) by omega)]), rfl⟩

theorem refword_any (s : ByteArray) (w : World) (hs : s.size ≤ maxLen) :
    Calls Try.prog 11 #[.string s] w fun e w' => e = .returned (.bool (eachB wordP s.data.toList)) ∧ w = w' := by
  have H : ∀ w, Calls Try.prog 19 #[.string s, .string moreWord] w fun e w' => e = .returned (.bool (eachB wordP s.data.toList)) ∧ w = w' := by
    intro w
    have := all_any s moreWord w hs (by decide)
    rwa [show refP moreWord = wordP from funext ref_word] at this
  have H := Lib.hid H
  go_enter Try.func11, Try.ntmps11
  go_wp2_with (go_at_call 19; refine (H.out _).mono ?_; rintro e w' ⟨rfl, rfl⟩)
  go_ret
  exact ⟨rfl, rfl⟩
theorem refpattern_any (s : ByteArray) (w : World) (hs : s.size ≤ maxLen) :
    Calls Try.prog 13 #[.string s] w fun e w' => e = .returned (.bool (eachB patP s.data.toList)) ∧ w = w' := by
  have H : ∀ w, Calls Try.prog 19 #[.string s, .string morePattern] w fun e w' => e = .returned (.bool (eachB patP s.data.toList)) ∧ w = w' := by
    intro w
    have := all_any s morePattern w hs (by decide)
    rwa [show refP morePattern = patP from funext ref_pattern] at this
  have H := Lib.hid H
  go_enter Try.func13, Try.ntmps13
  go_wp2_with (go_at_call 19; refine (H.out _).mono ?_; rintro e w' ⟨rfl, rfl⟩)
  go_ret
  exact ⟨rfl, rfl⟩
theorem refname_any (s : ByteArray) (w : World) (hs : s.size ≤ maxLen) :
    Calls Try.prog 15 #[.string s] w fun e w' => e = .returned (.bool (eachB nameP s.data.toList)) ∧ w = w' := by
  have H : ∀ w, Calls Try.prog 19 #[.string s, .string moreName] w fun e w' => e = .returned (.bool (eachB nameP s.data.toList)) ∧ w = w' := by
    intro w
    have := all_any s moreName w hs (by decide)
    rwa [show refP moreName = nameP from funext ref_name] at this
  have H := Lib.hid H
  go_enter Try.func15, Try.ntmps15
  go_wp2_with (go_at_call 19; refine (H.out _).mono ?_; rintro e w' ⟨rfl, rfl⟩)
  go_ret
  exact ⟨rfl, rfl⟩

end Go.Proofs.Ytlmfcacmfaihgaa.globC
