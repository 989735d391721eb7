/-
  Contracts of the functions of package runes that only compute: Join, Split, isPoint, digit, Hex, Encode; and of haversacklaw01.alive.
-/
import Derived.Test.YtlbmoefafkmmoaaChecked
import Derived.Test.YtlbmoefafkmmoaaUtfP
import Derived.WalkKit
import Derived.ProofKit
import Derived.WalkLawsBesides
import Derived.Lib.Hide
namespace Go.Proofs.Ytlbmoefafkmmoaa.runesA
open Go.ChangeShapes Go.WideShapes Go.ChangeAt Go.RowKit utfP

theorem join_yes (a b : Int) (w : World) (h1 : 55296 ≤ a) (h2 : a < 56320) (h3 : 56320 ≤ b) (h4 : b ≤ 57343) :
    Calls Try.prog 7 #[.int .i64 a, .int .i64 b] w fun e w' => e = .returned (.tuple #[.int .i64 (65536 + 1024 * (a - 55296) + (b - 56320)), .bool true]) ∧ w = w' := by
  go_enter Try.func7, Try.ntmps7
  go_wp2
  go_ret2
  exact ⟨rfl, rfl⟩

theorem join_no (a b : Int) (w : World) (h : a < 55296 ∨ 56320 ≤ a ∨ b < 56320 ∨ 57343 < b) :
    Calls Try.prog 7 #[.int .i64 a, .int .i64 b] w fun e w' => e = .returned (.tuple #[.int .i64 0, .bool false]) ∧ w = w' := by
  by_cases h1 : a < 55296
  · go_enter Try.func7, Try.ntmps7
    go_wp2
    go_ret2
    exact ⟨rfl, rfl⟩
  by_cases h2 : 56320 ≤ a
  · go_enter Try.func7, Try.ntmps7
    go_wp2
    go_ret2
    exact ⟨rfl, rfl⟩
  by_cases h3 : b < 56320
  · go_enter Try.func7, Try.ntmps7
    go_wp2
    go_ret2
    exact ⟨rfl, rfl⟩
  have h4 : 57343 < b := by omega
  go_enter Try.func7, Try.ntmps7
  go_wp2
  go_ret2
  exact ⟨rfl, rfl⟩

theorem split_yes (r : Int) (w : World) (h1 : 65536 ≤ r) (h2 : r ≤ 1114111) :
    Calls Try.prog 8 #[.int .i64 r] w fun e w' => e = .returned (.tuple #[.int .i64 (55296 + (r - 65536) / 1024), .int .i64 (56320 + (r - 65536) % 1024), .bool true]) ∧ w = w' := by
  go_enter Try.func8, Try.ntmps8
  go_wp2
  go_ret3
  exact ⟨rfl, rfl⟩

theorem split_no (r : Int) (w : World) (h : r < 65536 ∨ 1114111 < r) :
    Calls Try.prog 8 #[.int .i64 r] w fun e w' => e = .returned (.tuple #[.int .i64 0, .int .i64 0, .bool false]) ∧ w = w' := by
  rcases h with h | h
  · go_enter Try.func8, Try.ntmps8
    go_wp2
    go_ret3
    exact ⟨rfl, rfl⟩
  · have h' : ¬ r < 65536 := by omega
    go_enter Try.func8, Try.ntmps8
    go_wp2
    go_ret3
    exact ⟨rfl, rfl⟩

theorem isPoint_yes (r : Int) (w : World) (h : Pt r) :
    Calls Try.prog 12 #[.int .i64 r] w fun e w' => e = .returned (.bool true) ∧ w = w' := by
  obtain ⟨h1, h2, h3⟩ := h
  rcases h3 with h3 | h3
  · go_enter Try.func12, Try.ntmps12
    go_wp2
    go_ret
    exact ⟨rfl, rfl⟩
  · have h4 : ¬ r < 55296 := by omega
    go_enter Try.func12, Try.ntmps12
    go_wp2
    go_ret
    exact ⟨rfl, rfl⟩

theorem isPoint_no (r : Int) (w : World) (h : ¬ Pt r) :
    Calls Try.prog 12 #[.int .i64 r] w fun e w' => e = .returned (.bool false) ∧ w = w' := by
  unfold Pt at h
  by_cases h1 : 0 ≤ r
  · by_cases h2 : r ≤ 1114111
    · have h3 : ¬ r < 55296 := by omega
      have h4 : ¬ 57343 < r := by omega
      clear h
      go_enter Try.func12, Try.ntmps12
      go_wp2
      go_ret
      exact ⟨rfl, rfl⟩
    · clear h
      go_enter Try.func12, Try.ntmps12
      go_wp2
      go_ret
      exact ⟨rfl, rfl⟩
  · clear h
    go_enter Try.func12, Try.ntmps12
    go_wp2
    go_ret
    exact ⟨rfl, rfl⟩

theorem encode_yes (r : Int) (w : World) (h : Pt r) :
    Calls Try.prog 9 #[.int .i64 r] w fun e w' => e = .returned (.tuple #[.string (Utf8.encode r), .bool true]) ∧ w = w' := by
  have h1 : 0 ≤ r := h.1
  have h2 : r ≤ 1114111 := h.2.1
  go_enter Try.func9, Try.ntmps9
  go_wp2_with (go_at_call 12; refine (isPoint_yes _ _ h).mono ?_; rintro e w' ⟨rfl, rfl⟩)
  go_ret2
  exact ⟨rfl, rfl⟩

theorem encode_no (r : Int) (w : World) (h : ¬ Pt r) :
    Calls Try.prog 9 #[.int .i64 r] w fun e w' => e = .returned (.tuple #[.string ByteArray.empty, .bool false]) ∧ w = w' := by
  go_enter Try.func9, Try.ntmps9
  go_wp2_with (go_at_call 12; refine (isPoint_no _ _ h).mono ?_; rintro e w' ⟨rfl, rfl⟩)
  go_ret2
  exact ⟨rfl, rfl⟩

theorem alive (w : World) :
    Calls Try.prog 6 #[] w fun e w' => e = .returned (.bool true) ∧ w = w' := by
  have he : ((Utf8.encode 8364).toList == [226, 130, 172]) = true := by decide +kernel
  go_enter Try.func6, Try.ntmps6
  go_wp2
  go_ret
  exact ⟨rfl, rfl⟩

end Go.Proofs.Ytlbmoefafkmmoaa.runesA
