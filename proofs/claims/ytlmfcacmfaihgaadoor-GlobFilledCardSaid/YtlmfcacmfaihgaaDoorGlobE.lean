/-
  The laws GlobWords, GlobSteps and GlobStars return true.
-/
import Derived.Test.YtlmfcacmfaihgaaDoorGlobD
namespace Go.Proofs.YtlmfcacmfaihgaaDoor.globE
open Go.ChangeShapes Go.WideShapes Go.ChangeAt Go.RowKit globP globQ globA globB globC globD

theorem toL (s : ByteArray) : s.toList = s.data.toList := Go.ByteArray.toList_eq s
theorem app (c : UInt8) (P : ByteArray) : (({ data := #[c] } : ByteArray) ++ P).data.toList = c :: P.data.toList := by simp [ByteArray.data_append]
theorem app_size (c : UInt8) (P : ByteArray) : (({ data := #[c] } : ByteArray) ++ P).size = P.size + 1 := by
  rw [ByteArray.size_append]; show 1 + P.size = _; omega
theorem ext_drop (S : ByteArray) (k : Nat) : (S.extract k S.size).data.toList = S.data.toList.drop k := by
  rw [ByteArray.data_extract, Array.toList_extract]
  simp [List.extract, List.take_of_length_le]
theorem ext_size (S : ByteArray) (k : Nat) : (S.extract k S.size).size = S.size - k := by
  rw [ByteArray.size_extract]; omega
theorem emp (S : ByteArray) (h : S.size = 0) : S.data.toList = [] := by
  rw [← List.length_eq_zero_iff]; simpa using h
theorem nonemp (S : ByteArray) (h : ¬ S.size = 0) : ∃ d t, S.data.toList = d :: t := by
  cases e : S.data.toList with
  | nil => exact absurd (by rw [← ByteArray.size_data, ← Array.length_toList, e]; rfl) h
  | cons d t => exact ⟨d, t, rfl⟩


end Go.Proofs.YtlmfcacmfaihgaaDoor.globE
