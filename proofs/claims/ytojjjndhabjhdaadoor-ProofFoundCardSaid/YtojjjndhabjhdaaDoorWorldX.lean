/-
  A world for the witness: the settled one, the listed variables holding what their texts lay (written by genworld.py).
-/
import Derived.Test.YtojjjndhabjhdaaDoorRows
import Derived.Shelf.Unicode.DecodeSlow
import Derived.WalkKit
import Derived.ProofKit
import Derived.OpenShut
import Derived.ShutString
import Derived.Deep.DeepHandedRow
namespace Go.Proofs.YtojjjndhabjhdaaDoor.worldX

def put (cs : Array Value) : Obj → Obj
  | .cells _ t frozen => .cells cs t frozen
  | o => o
noncomputable def low : Nat := (World.holding Tryd.prog default ⟨#[], #[], []⟩).heap.size
noncomputable def start (os : Os) : World := World.holding Tryd.prog os ⟨#[.cells #[.string ⟨#[104, 97, 118, 101, 114, 115, 97, 99, 107, 58, 32, 114, 97, 110, 103, 101]⟩] 143, .cells #[.string ⟨#[104, 97, 118, 101, 114, 115, 97, 99, 107, 58, 32, 108, 105, 109, 105, 116]⟩] 143], #[], []⟩
noncomputable def marksL : List (Nat × Array Value) := [(0, #[.iface 127 (.pointer (some ⟨low + 0, 0, none⟩))]), (1, #[.iface 127 (.pointer (some ⟨low + 1, 0, none⟩))])]
noncomputable def laidWorld (os : Os) : World :=
  { (start os) with heap := marksL.foldl (fun h x => h.modify x.1 (put x.2)) (start os).heap }

end Go.Proofs.YtojjjndhabjhdaaDoor.worldX
