/-
  Contracts of the functions of package runes that only compute: Join, Split, isPoint, digit, Hex, Encode; and of haversacklaw01.alive.
-/
import Derived.Test.YtjcaffpmcgfhaaaDoorChecked
import Derived.Test.YtjcaffpmcgfhaaaDoorUtfP
import Derived.WalkKit
import Derived.ProofKit
import Derived.WalkLawsBesides
import Derived.Lib.Hide
namespace Go.Proofs.YtjcaffpmcgfhaaaDoor.runesA
open Go.ChangeShapes Go.WideShapes Go.ChangeAt Go.RowKit utfP

theorem join_yes (a b : Int) (w : World) (h1 : 55296 ≤ a) (h2 : a < 56320) (h3 : 56320 ≤ b) (h4 : b ≤ 57343) :
    Calls Tryd.prog 49 #[.int .i64 a, .int .i64 b] w fun e w' => e = .returned (.tuple #[.int .i64 (65536 + 1024 * (a - 55296) + (b - 56320)), .bool true]) ∧ w = w' := by
  go_enter Tryd.func49, Tryd.ntmps49
  go_wp2
  go_ret2
  exact ⟨rfl, rfl⟩

theorem join_no (a b : Int) (w : World) (h : a < 55296 ∨ 56320 ≤ a ∨ b < 56320 ∨ 57343 < b) :
    Calls Tryd.prog 49 #[.int .i64 a, .int .i64 b] w fun e w' => e = .returned (.tuple #[.int .i64 0, .bool false]) ∧ w = w' := by
  by_cases h1 : a < 55296
  · go_enter Tryd.func49, Tryd.ntmps49
    go_wp2
    go_ret2
    exact ⟨rfl, rfl⟩
  by_cases h2 : 56320 ≤ a
  · go_enter Tryd.func49, Tryd.ntmps49
    go_wp2
    go_ret2
    exact ⟨rfl, rfl⟩
  by_cases h3 : b < 56320
  · go_enter Tryd.func49, Tryd.ntmps49
    go_wp2
    go_ret2
    exact ⟨rfl, rfl⟩
  have h4 : 57343 < b := by omega
  go_enter Tryd.func49, Tryd.ntmps49
  go_wp2
  go_ret2
  exact ⟨rfl, rfl⟩

theorem isPoint_yes (r : Int) (w : World) (h : Pt r) :
    Calls Tryd.prog 58 #[.int .i64 r] w fun e w' => e = .returned (.bool true) ∧ w = w' := by
  obtain ⟨h1, h2, h3⟩ := h
  rcases h3 with h3 | h3
  · go_enter Tryd.func58, Tryd.ntmps58
    go_wp2
    go_ret
    exact ⟨rfl, rfl⟩
  · have h4 : ¬ r < 55296 := by omega
    go_enter Tryd.func58, Tryd.ntmps58
    go_wp2
    go_ret
    exact ⟨rfl, rfl⟩

theorem isPoint_no (r : Int) (w : World) (h : ¬ Pt r) :
    Calls Tryd.prog 58 #[.int .i64 r] w fun e w' => e = .returned (.bool false) ∧ w = w' := by
  unfold Pt at h
  by_cases h1 : 0 ≤ r
  · by_cases h2 : r ≤ 1114111
    · have h3 : ¬ r < 55296 := by omega
      have h4 : ¬ 57343 < r := by omega
      clear h
      go_enter Tryd.func58, Tryd.ntmps58
      go_wp2
      go_ret
      exact ⟨rfl, rfl⟩
    · clear h
      go_enter Tryd.func58, Tryd.ntmps58
      go_wp2
      go_ret
      exact ⟨rfl, rfl⟩
  · clear h
    go_enter Tryd.func58, Tryd.ntmps58
    go_wp2
    go_ret
    exact ⟨rfl, rfl⟩

theorem encode_yes (r : Int) (w : World) (h : Pt r) :
    Calls Tryd.prog 48 #[.int .i64 r] w fun e w' => e = .returned (.tuple #[.string (Utf8.encode r), .bool true]) ∧ w = w' := by
  have h1 : 0 ≤ r := h.1
  have h2 : r ≤ 1114111 := h.2.1
  go_enter Tryd.func48, Tryd.ntmps48
  go_wp2_with (go_at_call 58; refine (isPoint_yes _ _ h).mono ?_; rintro e w' ⟨rfl, rfl⟩)
  go_ret2
  exact ⟨rfl, rfl⟩

theorem encode_no (r : Int) (w : World) (h : ¬ Pt r) :
    Calls Tryd.prog 48 #[.int .i64 r] w fun e w' => e = .returned (.tuple #[.string ByteArray.empty, .bool false]) ∧ w = w' := by
  go_enter Tryd.func48, Tryd.ntmps48
  go_wp2_with (go_at_call 58; refine (isPoint_no _ _ h).mono ?_; rintro e w' ⟨rfl, rfl⟩)
  go_ret2
  exact ⟨rfl, rfl⟩

end Go.Proofs.YtjcaffpmcgfhaaaDoor.runesA
