/-
  Contracts of glob's words: upper, inWord, each, Word, Pattern, Name; of the reference's in, All, Word, Pattern, Name.
-/
import Derived.Test.YtlmfcacmfaihgaaDoorGlobA
namespace Go.Proofs.YtlmfcacmfaihgaaDoor.globB
open Go.ChangeShapes Go.WideShapes Go.ChangeAt Go.RowKit globP globQ globA

theorem ret_bool {a b : Bool} (h : a = b) : Ending.returned (.bool a) = .returned (.bool b) := by rw [h]

def upB (c : Int) : Bool := decide (65 ≤ c ∧ c ≤ 90)
def inW (c : Int) : Bool := decide (c = 95 ∨ c = 46 ∨ c = 43 ∨ c = 33 ∨ c = 45 ∨ (97 ≤ c ∧ c ≤ 122) ∨ (65 ≤ c ∧ c ≤ 90) ∨ (48 ≤ c ∧ c ≤ 57))

theorem upper_any (c : Int) (w : World) :
    Calls Tryd.prog 15 #[.int .u8 c] w fun e w' => e = .returned (.bool (upB c)) ∧ w = w' := by
  go_enter Tryd.func15, Tryd.ntmps15
  go_wp2
  all_goals go_ret
  all_goals refine ⟨ret_bool ?_, rfl⟩
  all_goals (unfold upB; rw [Bool.eq_iff_iff]; simp; try omega)

theorem inWord_any (c : Int) (w : World) :
    Calls Tryd.prog 18 #[.int .u8 c] w fun e w' => e = .returned (.bool (inW c)) ∧ w = w' := by
  go_enter Tryd.func18, Tryd.ntmps18
  go_wp2_with (go_at_call 15; refine (upper_any _ _).mono ?_; rintro e w' ⟨rfl, rfl⟩)
  all_goals go_ret
  all_goals refine ⟨ret_bool ?_, rfl⟩
  all_goals (simp only [beq_iff_eq, beq_eq_false_iff_ne, ne_eq, upB, decide_eq_true_eq] at *)
  all_goals (unfold inW; rw [Bool.eq_iff_iff]; simp; try omega)

def nmB (c : Int) : Bool := inW c && !upB c && c != 43 && c != 33

theorem name1_any (c : Int) (w : World) :
    Calls Tryd.prog 17 #[.int .u8 c] w fun e w' => e = .returned (.bool (nmB c)) ∧ w = w' := by
  have h3 : ∀ k : Int, (c != k) = true ∨ (c != k) = false := fun k => by cases (c != k) <;> simp
  cases h1 : inW c <;> cases h2 : upB c <;> rcases h3 43 with h4 | h4 <;> rcases h3 33 with h5 | h5
  all_goals (clear h3)
  all_goals (have hr : Hid (nmB c = (inW c && !upB c && c != 43 && c != 33)) := Lib.hid rfl)
  all_goals (have H1 := Lib.hid h1; have H2 := Lib.hid h2; clear h1 h2)
  all_goals
    go_enter Tryd.func17, Tryd.ntmps17
    go_wp2_with (first | (go_at_call 18; refine (inWord_any _ _).mono ?_; rintro e w' ⟨rfl, rfl⟩; rw [H1.out]) | (go_at_call 15; refine (upper_any _ _).mono ?_; rintro e w' ⟨rfl, rfl⟩; rw [H2.out]))
    go_ret
    exact ⟨ret_bool (by rw [hr.out, H1.out, H2.out, h4, h5]; rfl), rfl⟩

/-- a function value that asks a byte -/
def Asks (F : Nat) (pr : UInt8 → Bool) : Prop := ∀ (c : UInt8) (w : World), Calls Tryd.prog F #[.int .u8 (c.toNat : Int)] w fun e w' => e = .returned (.bool (pr c)) ∧ w = w'

def eachB (pr : UInt8 → Bool) (l : List UInt8) : Bool := decide (1 ≤ l.length ∧ l.length ≤ 40) && l.all pr

theorem all_take (pr : UInt8 → Bool) (s : ByteArray) (k : Nat) (h : k < s.size) : (s.data.toList.take (k + 1)).all pr = ((s.data.toList.take k).all pr && pr s[k]) := by
  have e : s.data.toList.take (k + 1) = s.data.toList.take k ++ [s[k]] := by
    rw [List.take_succ_eq_append_getElem (by simpa using h)]; rfl
  rw [e, List.all_append]; simp
theorem all_no (pr : UInt8 → Bool) (s : ByteArray) (k : Nat) (h : k < s.size) (hp : pr s[k] = false) : s.data.toList.all pr = false := by
  rw [List.all_eq_false]
  exact ⟨s[k], List.mem_of_getElem? (bat s k h), by simp [hp]⟩
theorem all_end (pr : UInt8 → Bool) (s : ByteArray) (k : Nat) (h : ¬ k < s.size) (hp : (s.data.toList.take k).all pr = true) : s.data.toList.all pr = true := by
  rw [List.take_of_length_le (by simp; omega)] at hp; exact hp

theorem each_name (pr : UInt8 → Bool) (hF : Asks 17 pr) (s : ByteArray) (w : World) (hs : s.size ≤ maxLen) :
    Calls Tryd.prog 16 #[.string s, .func (.func 17) #[] #[]] w fun e w' => e = .returned (.bool (eachB pr s.data.toList)) ∧ w = w' := by
  unfold maxLen at hs
  by_cases h1 : s.size < 1
  · have hr : Hid (eachB pr s.data.toList = false) := Lib.hid (by unfold eachB; rw [Bool.and_eq_false_iff]; left; simp; omega)
    go_enter Tryd.func16, Tryd.ntmps16
    go_wp2
    go_ret
    exact ⟨ret_bool (by rw [hr.out]), rfl⟩
  by_cases h2 : 40 < s.size
  · have hr : Hid (eachB pr s.data.toList = false) := Lib.hid (by unfold eachB; rw [Bool.and_eq_false_iff]; left; simp; omega)
    go_enter Tryd.func16, Tryd.ntmps16
    go_wp2
    go_ret
    exact ⟨ret_bool (by rw [hr.out]), rfl⟩
  have hr : Hid (eachB pr s.data.toList = s.data.toList.all pr) := Lib.hid (by
    unfold eachB; rw [decide_eq_true (show 1 ≤ s.data.toList.length ∧ s.data.toList.length ≤ 40 by simp; omega)]; rfl)
  have d1 : decide ((s.size : Int) < 1) = false := by simp; omega
  have d2 : decide ((40 : Int) < s.size) = false := by simp; omega
  go_enter Tryd.func16, Tryd.ntmps16
  go_wp2
  go_loop [16] (fun i => ∃ k : Nat, k ≤ s.size ∧ i = .int .i64 k ∧ Hid ((s.data.toList.take k).all pr = true)) (fun i => s.size - (intOf i).toNat)
  case atStart => exact ⟨0, Nat.zero_le _, rfl, Lib.hid rfl⟩
  case round =>
    obtain ⟨k, hk, rfl, ha⟩ := hrel
    by_cases hlt : k < s.size
    · cases hpr : pr s[k]
      · have hn := Lib.hid (all_no pr s k hlt hpr)
        have HP := Lib.hid hpr
        clear hpr
        go_wp2_with (first | (go_at_call 17; refine (hF _ _).mono ?_; rintro e w' ⟨rfl, rfl⟩; rw [HP.out]))
        go_ret
        exact ⟨ret_bool (by rw [hr.out, hn.out]), rfl⟩
      · have hn : Hid ((s.data.toList.take (k + 1)).all pr = true) := Lib.hid (by rw [all_take pr s k hlt, ha.out, hpr]; rfl)
        have HP := Lib.hid hpr
        clear hpr
        go_wp2_with (first | (go_at_call 17; refine (hF _ _).mono ?_; rintro e w' ⟨rfl, rfl⟩; rw [HP.out]))
        go_round
        case rel => exact ⟨k + 1, by omega, by go_num, hn⟩
        case measure => simp [intOf]; omega
    · have hn := Lib.hid (all_end pr s k hlt ha.out)
      go_wp2
      go_ret
      exact ⟨ret_bool (by rw [hr.out, hn.out]), rfl⟩

end Go.Proofs.YtlmfcacmfaihgaaDoor.globB
