/-
  alive of chapter 6 returns true.
-/
import Derived.Test.YtlmfcacmfaihgaaDoorGlobC
import Derived.RowKit3
namespace Go.Proofs.YtlmfcacmfaihgaaDoor.globD
open Go.ChangeShapes Go.WideShapes Go.ChangeAt Go.RowKit globP globQ globA globB globC

theorem match_is (P S : ByteArray) (b : Bool) (hb : gm P.data.toList S.data.toList = b) (w : World) (hp : P.size ≤ maxLen) (hs : S.size ≤ maxLen) :
    Calls Tryd.prog 6 #[.string P, .string S] w fun e w' => e = .returned (.bool b) ∧ ∃ n, w' = w.drewN n := by
  subst hb; exact match_any P S w hp hs
theorem name_is (s : ByteArray) (b : Bool) (hb : eachB nameP s.data.toList = b) (w : World) (hs : s.size ≤ maxLen) :
    Calls Tryd.prog 12 #[.string s] w fun e w' => e = .returned (.bool b) ∧ w = w' := by
  subst hb; exact name_any s w hs

theorem m1 : gm [112, 121, 51, 42, 95, 48] [112, 121, 51, 55, 104, 95, 48] = true := by simp [gm, star]
theorem m2 : gm [42] [] = true := by simp [gm, star]
theorem m3 : gm [97] [98] = false := by simp [gm, star]
theorem n1 : eachB nameP [97, 45, 98] = true := by decide +kernel
theorem n2 : eachB nameP [65] = false := by decide +kernel

theorem alive (w : World) :
    Calls Tryd.prog 5 #[] w fun e w' => e = .returned (.bool true) ∧ ∃ n, w' = w.drewN n := by
  go_enter Tryd.func5, Tryd.ntmps5
  go_wp2_with fail
  refine (match_is _ _ true m1 _ (by decide) (by decide)).mono ?_
  rintro e w' ⟨rfl, n1', rfl⟩
  go_wp2_with fail
  refine (match_is _ _ true m2 _ (by decide) (by decide)).mono ?_
  rintro e w' ⟨rfl, n2', rfl⟩
  go_wp2_with fail
  refine (match_is _ _ false m3 _ (by decide) (by decide)).mono ?_
  rintro e w' ⟨rfl, n3', rfl⟩
  go_wp2_with fail
  refine (name_is _ true n1 _ (by decide)).mono ?_
  rintro e w' ⟨rfl, rfl⟩
  go_wp2_with fail
  refine (name_is _ false n2 _ (by decide)).mono ?_
  rintro e w' ⟨rfl, rfl⟩
  go_wp2
  go_ret
  exact ⟨rfl, _, rfl⟩

theorem grown_drewN {w : World} (n : Nat) : Grown w (w.drewN n) := by
  induction n with
  | zero => exact Grown.refl _
  | succ n ih => exact ih.drew

end Go.Proofs.YtlmfcacmfaihgaaDoor.globD
