/-
  What the rows' list gives: the library's error of a range, its table of powers.
-/
import Derived.Test.YtdbidkfjbhclcaaDoorRows
import Derived.Test.YtdbidkfjbhclcaaDoorIntM
import Derived.Lib.LaidU8
namespace Go.Proofs.YtdbidkfjbhclcaaDoor.intsW
open Go.Lib Go.RowKit intsC errIs errs

def isRng (x : String × DataW Unit) : Bool := x.1 == "strconv.ErrRange"
def rngL : List (String × Nat × List UInt8) := [("strconv.ErrRange", 19, [118, 97, 108, 117, 101, 32, 111, 117, 116, 32, 111, 102, 32, 114, 97, 110, 103, 101])]
set_option maxRecDepth 100000 in
theorem rng_of {W : World} {l : List (String × DataW Unit)} (hp : (l.all fun x => x.2.handleName?.isNone) = true) (hl : l.filter isRng = rngL.map fun x => (x.1, datum x.2.2)) (h : laidMetH Tryd.prog l W) : Rng W := by
  rw [MakeChecks.laidMetH_plain _ _ _ hp] at h
  have h := h.filter isRng
  rw [hl] at h
  obtain ⟨ps, hv, hnd, hrows⟩ := h
  obtain ⟨aa, h1, h2, h3, h4⟩ := sents rngL (by
    intro x hx
    simp only [rngL, List.mem_cons, List.mem_nil_iff, or_false] at hx
    rcases hx with rfl
    exact ⟨by kernel_rfl, by kernel_rfl⟩) ps hv hnd hrows
  exact ⟨_, _, h3 0 (by decide)⟩

def isPow (x : String × DataW Unit) : Bool := x.1 == "internal/strconv.uint64pow10"
theorem pow_of {W : World} {l : List (String × DataW Unit)} (hp : (l.all fun x => x.2.handleName?.isNone) = true) (hl : l.filter isPow = [("internal/strconv.uint64pow10", tabData .u64 Lib.pow10Tab)]) (h : laidMetH Tryd.prog l W) : Pow W := by
  rw [MakeChecks.laidMetH_plain _ _ _ hp] at h
  have h := h.filter isPow
  rw [hl] at h
  exact Lib.tabIs_of_head pow_n (by kernel_rfl) Tryd.underlying156 Tryd.underlying135 (by kernel_rfl) (by kernel_rfl) h

end Go.Proofs.YtdbidkfjbhclcaaDoor.intsW
