/-
  glob.Plain; the law GlobStars returns true.
-/
import Derived.Test.YtlmfcacmfaihgaaDoorGlobE
import Derived.Test.YtlmfcacmfaihgaaDoorShelf
namespace Go.Proofs.YtlmfcacmfaihgaaDoor.globF
open Go.ChangeShapes Go.WideShapes Go.ChangeAt Go.RowKit globP globQ globA globB globC globD globE

def plainB (l : List UInt8) : Bool := l.all fun c => c != star

theorem index_neg (l : List UInt8) (c : UInt8) : decide (Lib.indexByte l c < 0) = l.all (fun x => x != c) := by
  have key : ∀ l : List UInt8, (Lib.indexByte l c = -1 ∧ l.all (fun x => x != c) = true) ∨ (0 ≤ Lib.indexByte l c ∧ l.all (fun x => x != c) = false) := by
    intro l
    induction l with
    | nil => left; exact ⟨rfl, rfl⟩
    | cons b l ih =>
      by_cases h : b = c
      · right; subst h; simp [Lib.indexByte]
      · rcases ih with ⟨h1, h2⟩ | ⟨h1, h2⟩
        · left; simp only [Lib.indexByte, List.all_cons]; rw [h1, h2]; simp [h]
        · right
          have h3 : ¬ Lib.indexByte l c = -1 := by omega
          simp only [Lib.indexByte, List.all_cons]; rw [h2]; simp [h, h3]; omega
  rcases key l with ⟨h1, h2⟩ | ⟨h1, h2⟩
  · rw [h1, h2]; rfl
  · rw [h2, decide_eq_false]; omega

theorem plain_any (P : ByteArray) (w : World) :
    Calls Tryd.prog 9 #[.string P] w fun e w' => e = .returned (.bool (plainB P.data.toList)) ∧ w = w' := by
  have hr := Lib.hid (index_neg P.data.toList (42 : Int).toNat.toUInt8)
  go_enter Tryd.func9, Tryd.ntmps9
  go_wp2_with (go_at_call 14; refine (Tryd.strings_IndexByte _ _ _).mono ?_; rintro e w' ⟨rfl, rfl⟩)
  go_ret
  exact ⟨ret_bool hr.out, rfl⟩

theorem plain_is (P : ByteArray) (b : Bool) (hb : plainB P.data.toList = b) (w : World) :
    Calls Tryd.prog 9 #[.string P] w fun e w' => e = .returned (.bool b) ∧ w = w' := by
  subst hb; exact plain_any P w

theorem plainB_plainT (l : List UInt8) (h : plainB l = true) : plainT l := by
  intro c hc
  have := (List.all_eq_true.1 h) c hc
  simpa using this


end Go.Proofs.YtlmfcacmfaihgaaDoor.globF
