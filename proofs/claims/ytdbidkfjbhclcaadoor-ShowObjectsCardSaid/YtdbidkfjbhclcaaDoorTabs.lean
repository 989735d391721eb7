/-
  What the rows' list gives: the decoder's two tables lie in memory as its text lays them.
-/
import Derived.Test.YtdbidkfjbhclcaaDoorRows
import Derived.Test.YtdbidkfjbhclcaaDoorRunM
import Derived.Lib.LaidU8T
import Derived.PinnedBridge
import Derived.MakeChecks
namespace Go.Proofs.YtdbidkfjbhclcaaDoor.tabs
open Go.Lib runesE

theorem extra : U8Extra Tryd.prog Tryd.lays260_ren := ⟨by kernel_rfl, by kernel_rfl, by kernel_rfl, by kernel_rfl, by kernel_rfl, by kernel_rfl, by kernel_rfl⟩
theorem accept_eq : (Rows.laid_unicode_utf8_acceptRanges : DataW Unit) = acceptData := by kernel_rfl

theorem of_reads {W : World} {l : List (String × DataW Unit)} (hp : (l.all fun x => x.2.handleName?.isNone) = true) (h1 : ("unicode/utf8.first", Rows.laid_unicode_utf8_first) ∈ l) (h2 : ("unicode/utf8.acceptRanges", Rows.laid_unicode_utf8_acceptRanges) ∈ l) (h : laidMetH Tryd.prog l W) : Tabs W := by
  rw [MakeChecks.laidMetH_plain _ _ _ hp] at h
  have r1 := laidMet.reads h h1
  have r2 := laidMet.reads h h2
  rw [accept_eq] at r2
  rw [show Rows.laid_unicode_utf8_first = firstData from Pinned.utf8First_eq] at r1
  exact utf8Tabs_of_readsT (U8Types.of260 Tryd.lays260) extra r1 r2

end Go.Proofs.YtdbidkfjbhclcaaDoor.tabs
