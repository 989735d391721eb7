/-
  A world for the witness: the settled one, the listed variables holding what their texts lay (written by genworld.py).
-/
import Derived.Test.YtjeckkkmoabjnaaDoorRows
import Derived.Shelf.Unicode.DecodeSlow
import Derived.WalkKit
import Derived.ProofKit
import Derived.OpenShut
import Derived.ShutString
import Derived.Deep.DeepHandedRow
namespace Go.Proofs.YtjeckkkmoabjnaaDoor.worldX

def put (cs : Array Value) : Obj → Obj
  | .cells _ t frozen => .cells cs t frozen
  | o => o
noncomputable def low : Nat := (World.holding Tryd.prog default ⟨#[], #[], []⟩).heap.size
noncomputable def start (os : Os) : World := World.holding Tryd.prog os ⟨#[.cells #[.string ⟨#[104, 97, 118, 101, 114, 115, 97, 99, 107, 58, 32, 114, 97, 110, 103, 101]⟩] 170, .cells #[.string ⟨#[104, 97, 118, 101, 114, 115, 97, 99, 107, 58, 32, 108, 105, 109, 105, 116]⟩] 170, .cells #[.string ⟨#[104, 97, 118, 101, 114, 115, 97, 99, 107, 58, 32, 115, 121, 110, 116, 97, 120]⟩] 170, .cells #[.string ⟨#[104, 97, 118, 101, 114, 115, 97, 99, 107, 58, 32, 100, 101, 112, 116, 104]⟩] 170, .cells #[.string ⟨#[104, 97, 118, 101, 114, 115, 97, 99, 107, 58, 32, 115, 105, 122, 101]⟩] 170, .cells #[.string ⟨#[104, 97, 118, 101, 114, 115, 97, 99, 107, 58, 32, 110, 117, 109, 98, 101, 114]⟩] 170, .cells #[.string ⟨#[104, 97, 118, 101, 114, 115, 97, 99, 107, 58, 32, 107, 101, 121]⟩] 170, .cells #[.string ⟨#[104, 97, 118, 101, 114, 115, 97, 99, 107, 58, 32, 116, 121, 112, 101]⟩] 170, .cells #[.string ⟨#[104, 97, 118, 101, 114, 115, 97, 99, 107, 58, 32, 110, 97, 109, 101]⟩] 170, .cells #[.string ⟨#[104, 97, 118, 101, 114, 115, 97, 99, 107, 58, 32, 118, 101, 114, 115, 105, 111, 110]⟩] 170, .cells #[.string ⟨#[104, 97, 118, 101, 114, 115, 97, 99, 107, 58, 32, 115, 112, 101, 99]⟩] 170, .cells #[.string ⟨#[104, 97, 118, 101, 114, 115, 97, 99, 107, 58, 32, 110, 111, 110, 101]⟩] 170, .cells #[.string ⟨#[104, 97, 118, 101, 114, 115, 97, 99, 107, 58, 32, 116, 119, 105, 99, 101]⟩] 170], #[], []⟩
noncomputable def marksL : List (Nat × Array Value) := [(9, #[.iface 146 (.pointer (some ⟨low + 0, 0, none⟩))]), (11, #[.iface 146 (.pointer (some ⟨low + 1, 0, none⟩))]), (0, #[.iface 146 (.pointer (some ⟨low + 2, 0, none⟩))]), (1, #[.iface 146 (.pointer (some ⟨low + 3, 0, none⟩))]), (2, #[.iface 146 (.pointer (some ⟨low + 4, 0, none⟩))]), (3, #[.iface 146 (.pointer (some ⟨low + 5, 0, none⟩))]), (4, #[.iface 146 (.pointer (some ⟨low + 6, 0, none⟩))]), (5, #[.iface 146 (.pointer (some ⟨low + 7, 0, none⟩))]), (6, #[.iface 146 (.pointer (some ⟨low + 8, 0, none⟩))]), (7, #[.iface 146 (.pointer (some ⟨low + 9, 0, none⟩))]), (8, #[.iface 146 (.pointer (some ⟨low + 10, 0, none⟩))]), (10, #[.iface 146 (.pointer (some ⟨low + 11, 0, none⟩))]), (12, #[.iface 146 (.pointer (some ⟨low + 12, 0, none⟩))])]
noncomputable def laidWorld (os : Os) : World :=
  { (start os) with heap := marksL.foldl (fun h x => h.modify x.1 (put x.2)) (start os).heap }

end Go.Proofs.YtjeckkkmoabjnaaDoor.worldX
