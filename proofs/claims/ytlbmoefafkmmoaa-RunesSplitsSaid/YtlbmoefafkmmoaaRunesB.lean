/-
  The laws RunesJoins and RunesSplits: each call returns true.
-/
import Derived.Test.YtlbmoefafkmmoaaRunesA
import Derived.RowKit3
namespace Go.Proofs.Ytlbmoefafkmmoaa.runesB
open Go.ChangeShapes Go.WideShapes Go.ChangeAt Go.RowKit utfP runesA

theorem joins (a b : Int) (w : World) :
    Calls Try.prog 3 #[.int .i64 a, .int .i64 b] w fun e w' => e = .returned (.bool true) ∧ Grown w w' := by
  by_cases h1 : a < 55296
  · go_enter Try.func3, Try.ntmps3
    go_wp2_with (first | (go_at_call 6; refine (runesA.alive _).mono ?_; rintro e w' ⟨rfl, rfl⟩) | (go_at_call 7; refine (join_no _ _ _ (by omega)).mono ?_; rintro e w' ⟨rfl, rfl⟩))
    go_ret
    exact ⟨rfl, Grown.refl _⟩
  by_cases h2 : 56319 < a
  · go_enter Try.func3, Try.ntmps3
    go_wp2_with (first | (go_at_call 6; refine (runesA.alive _).mono ?_; rintro e w' ⟨rfl, rfl⟩) | (go_at_call 7; refine (join_no _ _ _ (by omega)).mono ?_; rintro e w' ⟨rfl, rfl⟩))
    go_ret
    exact ⟨rfl, Grown.refl _⟩
  by_cases h3 : b < 56320
  · go_enter Try.func3, Try.ntmps3
    go_wp2_with (first | (go_at_call 6; refine (runesA.alive _).mono ?_; rintro e w' ⟨rfl, rfl⟩) | (go_at_call 7; refine (join_no _ _ _ (by omega)).mono ?_; rintro e w' ⟨rfl, rfl⟩))
    go_ret
    exact ⟨rfl, Grown.refl _⟩
  by_cases h4 : 57343 < b
  · go_enter Try.func3, Try.ntmps3
    go_wp2_with (first | (go_at_call 6; refine (runesA.alive _).mono ?_; rintro e w' ⟨rfl, rfl⟩) | (go_at_call 7; refine (join_no _ _ _ (by omega)).mono ?_; rintro e w' ⟨rfl, rfl⟩))
    go_ret
    exact ⟨rfl, Grown.refl _⟩
  have e1 : (65536 + 1024 * (a - 55296) + (b - 56320) == 65536 + 1024 * (a - 55296) + b - 56320) = true := beq_iff_eq.2 (by omega)
  have e2 : (55296 + (65536 + 1024 * (a - 55296) + (b - 56320) - 65536) / 1024 == a) = true := beq_iff_eq.2 (by omega)
  have e3 : (56320 + (65536 + 1024 * (a - 55296) + (b - 56320) - 65536) % 1024 == b) = true := beq_iff_eq.2 (by omega)
  go_enter Try.func3, Try.ntmps3
  go_wp2_with (first | (go_at_call 6; refine (runesA.alive _).mono ?_; rintro e w' ⟨rfl, rfl⟩) | (go_at_call 7; refine (join_yes _ _ _ (by omega) (by omega) (by omega) (by omega)).mono ?_; rintro e w' ⟨rfl, rfl⟩) | (go_at_call 8; refine (split_yes _ _ (by omega) (by omega)).mono ?_; rintro e w' ⟨rfl, rfl⟩))
  go_ret
  exact ⟨rfl, Grown.refl _⟩

theorem splits (r : Int) (w : World) :
    Calls Try.prog 4 #[.int .i64 r] w fun e w' => e = .returned (.bool true) ∧ Grown w w' := by
  by_cases h1 : 65536 ≤ r ∧ r ≤ 1114111
  · obtain ⟨h1, h2⟩ := h1
    have hp : Pt r := ⟨by omega, by omega, by omega⟩
    have hs := enc_size4 r h1 h2
    have hs' : (((Utf8.encode r).size : Int) == 4) = true := by rw [hs]; rfl
    have e1 : (65536 + 1024 * (55296 + (r - 65536) / 1024 - 55296) + (56320 + (r - 65536) % 1024 - 56320) == r) = true := beq_iff_eq.2 (by omega)
    clear hs
    go_enter Try.func4, Try.ntmps4
    go_wp2_with (first | (go_at_call 6; refine (runesA.alive _).mono ?_; rintro e w' ⟨rfl, rfl⟩) | (go_at_call 9; refine (encode_yes _ _ hp).mono ?_; rintro e w' ⟨rfl, rfl⟩) | (go_at_call 7; refine (join_yes _ _ _ (by omega) (by omega) (by omega) (by omega)).mono ?_; rintro e w' ⟨rfl, rfl⟩) | (go_at_call 8; refine (split_yes _ _ (by omega) (by omega)).mono ?_; rintro e w' ⟨rfl, rfl⟩))
    go_ret
    exact ⟨rfl, Grown.refl _⟩
  have h2 : r < 65536 ∨ 1114111 < r := by omega
  clear h1
  by_cases hp : Pt r
  · have hs := enc_size3 r hp (by have := hp.2.1; omega)
    have hs' : (((Utf8.encode r).size : Int) == 4) = false := beq_eq_false_iff_ne.2 (by omega)
    have h3 := hs.2
    clear hs
    go_enter Try.func4, Try.ntmps4
    go_wp2_with (first | (go_at_call 6; refine (runesA.alive _).mono ?_; rintro e w' ⟨rfl, rfl⟩) | (go_at_call 9; refine (encode_yes _ _ hp).mono ?_; rintro e w' ⟨rfl, rfl⟩) | (go_at_call 7; refine (join_no _ _ _ (by omega)).mono ?_; rintro e w' ⟨rfl, rfl⟩) | (go_at_call 8; refine (split_no _ _ (by omega)).mono ?_; rintro e w' ⟨rfl, rfl⟩))
    go_ret
    exact ⟨rfl, Grown.refl _⟩
  · go_enter Try.func4, Try.ntmps4
    go_wp2_with (first | (go_at_call 6; refine (runesA.alive _).mono ?_; rintro e w' ⟨rfl, rfl⟩) | (go_at_call 9; refine (encode_no _ _ hp).mono ?_; rintro e w' ⟨rfl, rfl⟩) | (go_at_call 7; refine (join_no _ _ _ (by omega)).mono ?_; rintro e w' ⟨rfl, rfl⟩) | (go_at_call 8; refine (split_no _ _ (by omega)).mono ?_; rintro e w' ⟨rfl, rfl⟩))
    go_ret
    exact ⟨rfl, Grown.refl _⟩

end Go.Proofs.Ytlbmoefafkmmoaa.runesB
