/-
  Contracts: the reference's Point, Encode.
-/
import Derived.Test.YtjcaffpmcgfhaaaDoorRunesA
import Derived.Handy
import Derived.Laws.BytesArg
namespace Go.Proofs.YtjcaffpmcgfhaaaDoor.runesD
open Go.ChangeShapes Go.WideShapes Go.ChangeAt Go.RowKit utfP runesA

/-- the bytes of a code point, behind a name -/
def enc (r : Int) : ByteArray := Utf8.encode r

theorem lit_str (w : World) (o : Obj) (xs : List Int) :
    (convert 24 9 (.slice (some ⟨w.heap.size + 1, 0, none⟩) xs.length xs.length)).run Tryd.prog ((w.alloc o).alloc (.cells (xs.map (Value.int .u8)).toArray 5)) = .ok (.string (strOfNums xs)) ((w.alloc o).alloc (.cells (xs.map (Value.int .u8)).toArray 5)) := by
  refine run_convert_bytes_arg (P := Tryd.prog) _ 24 5 Tryd.underlying24 Tryd.underlying5 (w.heap.size + 1) 0 xs.length xs.length xs rfl ?_ 9 Tryd.underlying9
  intro i hi
  have e : w.heap.size + 1 = (w.alloc o).heap.size := by simp
  rw [e, World.cell?_alloc_mark]
  simp [hi]

end Go.Proofs.YtjcaffpmcgfhaaaDoor.runesD
