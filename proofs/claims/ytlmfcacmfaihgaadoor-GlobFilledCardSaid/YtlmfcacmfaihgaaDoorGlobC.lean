/-
  glob.Word, Pattern, Name; the reference's in, All, Word, Pattern, Name; alive; the law GlobWords returns true.
-/
import Derived.Test.YtlmfcacmfaihgaaDoorGlobB
import Derived.RowKit3
namespace Go.Proofs.YtlmfcacmfaihgaaDoor.globC
open Go.ChangeShapes Go.WideShapes Go.ChangeAt Go.RowKit globP globQ globA globB

def wordP (c : UInt8) : Bool := inW c.toNat
def patP (c : UInt8) : Bool := ((c.toNat : Int) == 42 || inW c.toNat)
def nameP (c : UInt8) : Bool := nmB c.toNat

theorem asks_word : Asks 18 wordP := fun _ w => inWord_any _ w
theorem asks_name : Asks 17 nameP := fun _ w => name1_any _ w

def lowerS : ByteArray := ⟨#[97, 98, 99, 100, 101, 102, 103, 104, 105, 106, 107, 108, 109, 110, 111, 112, 113, 114, 115, 116, 117, 118, 119, 120, 121, 122, 48, 49, 50, 51, 52, 53, 54, 55, 56, 57, 95, 46, 45]⟩
def moreWord : ByteArray := ⟨#[65, 66, 67, 68, 69, 70, 71, 72, 73, 74, 75, 76, 77, 78, 79, 80, 81, 82, 83, 84, 85, 86, 87, 88, 89, 90, 43, 33]⟩
def morePattern : ByteArray := ⟨#[65, 66, 67, 68, 69, 70, 71, 72, 73, 74, 75, 76, 77, 78, 79, 80, 81, 82, 83, 84, 85, 86, 87, 88, 89, 90, 43, 33, 42]⟩
def moreName : ByteArray := ⟨#[]⟩

def has (l : List UInt8) (c : UInt8) : Bool := l.any fun x => x == c
def refP (more : ByteArray) (c : UInt8) : Bool := has lowerS.data.toList c || has more.data.toList c

theorem byte_all (p : UInt8 → Bool) (h : ∀ n : Fin 256, p (UInt8.ofNat n.val) = true) (c : UInt8) : p c = true := by
  have e := h ⟨c.toNat, c.toNat_lt⟩
  rwa [UInt8.ofNat_toNat] at e

theorem ref_word (c : UInt8) : refP moreWord c = wordP c := beq_iff_eq.1 (byte_all (fun c => refP moreWord c == wordP c) (by decide +kernel) c)
theorem ref_pattern (c : UInt8) : refP morePattern c = patP c := beq_iff_eq.1 (byte_all (fun c => refP morePattern c == patP c) (by decide +kernel) c)
theorem ref_name (c : UInt8) : refP moreName c = nameP c := beq_iff_eq.1 (byte_all (fun c => refP moreName c == nameP c) (by decide +kernel) c)

theorem name_any (s : ByteArray) (w : World) (hs : s.size ≤ maxLen) :
    Calls Tryd.prog 12 #[.string s] w fun e w' => e = .returned (.bool (eachB nameP s.data.toList)) ∧ w = w' := by
  go_enter Tryd.func12, Tryd.ntmps12
  go_wp2_with (go_at_call 16; refine (each_name nameP asks_name _ _ hs).mono ?_; rintro e w' ⟨rfl, rfl⟩)
  go_ret
  exact ⟨rfl, rfl⟩


end Go.Proofs.YtlmfcacmfaihgaaDoor.globC
