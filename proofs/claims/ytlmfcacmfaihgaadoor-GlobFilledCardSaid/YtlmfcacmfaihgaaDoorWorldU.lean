/-
  A world for the witness: the settled one, the decoder's two tables holding what its text lays.
-/
import Derived.Test.YtlmfcacmfaihgaaDoorRows
import Derived.Shelf.Unicode.DecodeSlow
import Derived.WalkKit
import Derived.ProofKit
import Derived.OpenShut
import Derived.ShutString
import Derived.Deep.DeepHandedRow
namespace Go.Proofs.YtlmfcacmfaihgaaDoor.worldU

def firstCells : Array Value := ((List.range 256).map fun c => Value.int .u8 (Lib.firstT c)).toArray
def acceptCells : Array Value := #[.int .u8 128, .int .u8 191, .int .u8 160, .int .u8 191, .int .u8 128, .int .u8 159, .int .u8 144, .int .u8 191, .int .u8 128, .int .u8 143, .int .u8 0, .int .u8 0, .int .u8 0, .int .u8 0, .int .u8 0, .int .u8 0, .int .u8 0, .int .u8 0, .int .u8 0, .int .u8 0, .int .u8 0, .int .u8 0, .int .u8 0, .int .u8 0, .int .u8 0, .int .u8 0, .int .u8 0, .int .u8 0, .int .u8 0, .int .u8 0, .int .u8 0, .int .u8 0]
def put (cs : Array Value) : Obj → Obj
  | .cells _ t frozen => .cells cs t frozen
  | o => o
noncomputable def laidWorld (os : Os) : World :=
  { World.holding Tryd.prog os ⟨#[], #[], []⟩ with heap := ((World.holding Tryd.prog os ⟨#[], #[], []⟩).heap.modify 1 (put firstCells)).modify 2 (put acceptCells) }
theorem own : ownKnob Tryd.prog.godebug = none := by kernel_rfl

end Go.Proofs.YtlmfcacmfaihgaaDoor.worldU
