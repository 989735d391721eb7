/-
  A world for the witness: the settled one, the errors of package api, the table of package quote and the decoder's two tables holding what their texts lay.
-/
import Derived.Test.YtfoammkidjbilaaDoorRows
import Derived.Shelf.Unicode.DecodeSlow
import Derived.WalkKit
import Derived.ProofKit
import Derived.OpenShut
import Derived.ShutString
import Derived.Deep.DeepHandedRow
namespace Go.Proofs.YtfoammkidjbilaaDoor.worldQ

def firstCells : Array Value := ((List.range 256).map fun c => Value.int .u8 (Lib.firstT c)).toArray
def acceptCells : Array Value := #[.int .u8 128, .int .u8 191, .int .u8 160, .int .u8 191, .int .u8 128, .int .u8 159, .int .u8 144, .int .u8 191, .int .u8 128, .int .u8 143, .int .u8 0, .int .u8 0, .int .u8 0, .int .u8 0, .int .u8 0, .int .u8 0, .int .u8 0, .int .u8 0, .int .u8 0, .int .u8 0, .int .u8 0, .int .u8 0, .int .u8 0, .int .u8 0, .int .u8 0, .int .u8 0, .int .u8 0, .int .u8 0, .int .u8 0, .int .u8 0, .int .u8 0, .int .u8 0]
def put (cs : Array Value) : Obj → Obj
  | .cells _ t frozen => .cells cs t frozen
  | o => o
noncomputable def low : Nat := (World.holding Tryd.prog default ⟨#[], #[], []⟩).heap.size
noncomputable def start (os : Os) : World := World.holding Tryd.prog os ⟨#[.cells #[.string ⟨#[104, 97, 118, 101, 114, 115, 97, 99, 107, 58, 32, 115, 121, 110, 116, 97, 120]⟩] 119, .cells #[.string ⟨#[104, 97, 118, 101, 114, 115, 97, 99, 107, 58, 32, 100, 101, 112, 116, 104]⟩] 119, .cells #[.string ⟨#[104, 97, 118, 101, 114, 115, 97, 99, 107, 58, 32, 115, 105, 122, 101]⟩] 119, .cells #[.string ⟨#[104, 97, 118, 101, 114, 115, 97, 99, 107, 58, 32, 110, 117, 109, 98, 101, 114]⟩] 119, .cells #[.string ⟨#[104, 97, 118, 101, 114, 115, 97, 99, 107, 58, 32, 107, 101, 121]⟩] 119, .cells #[.string ⟨#[104, 97, 118, 101, 114, 115, 97, 99, 107, 58, 32, 116, 121, 112, 101]⟩] 119, .cells #[.string ⟨#[104, 97, 118, 101, 114, 115, 97, 99, 107, 58, 32, 110, 97, 109, 101]⟩] 119, .cells #[.string ⟨#[104, 97, 118, 101, 114, 115, 97, 99, 107, 58, 32, 118, 101, 114, 115, 105, 111, 110]⟩] 119, .cells #[.string ⟨#[104, 97, 118, 101, 114, 115, 97, 99, 107, 58, 32, 115, 112, 101, 99]⟩] 119, .cells #[.string ⟨#[104, 97, 118, 101, 114, 115, 97, 99, 107, 58, 32, 114, 97, 110, 103, 101]⟩] 119, .cells #[.string ⟨#[104, 97, 118, 101, 114, 115, 97, 99, 107, 58, 32, 110, 111, 110, 101]⟩] 119, .cells #[.string ⟨#[104, 97, 118, 101, 114, 115, 97, 99, 107, 58, 32, 108, 105, 109, 105, 116]⟩] 119, .cells #[.string ⟨#[104, 97, 118, 101, 114, 115, 97, 99, 107, 58, 32, 116, 119, 105, 99, 101]⟩] 119], #[], []⟩
def ctlCells : Array Value := #[.string ⟨#[92, 117, 48, 48, 48, 48]⟩, .string ⟨#[92, 117, 48, 48, 48, 49]⟩, .string ⟨#[92, 117, 48, 48, 48, 50]⟩, .string ⟨#[92, 117, 48, 48, 48, 51]⟩, .string ⟨#[92, 117, 48, 48, 48, 52]⟩, .string ⟨#[92, 117, 48, 48, 48, 53]⟩, .string ⟨#[92, 117, 48, 48, 48, 54]⟩, .string ⟨#[92, 117, 48, 48, 48, 55]⟩, .string ⟨#[92, 98]⟩, .string ⟨#[92, 116]⟩, .string ⟨#[92, 110]⟩, .string ⟨#[92, 117, 48, 48, 48, 98]⟩, .string ⟨#[92, 102]⟩, .string ⟨#[92, 114]⟩, .string ⟨#[92, 117, 48, 48, 48, 101]⟩, .string ⟨#[92, 117, 48, 48, 48, 102]⟩, .string ⟨#[92, 117, 48, 48, 49, 48]⟩, .string ⟨#[92, 117, 48, 48, 49, 49]⟩, .string ⟨#[92, 117, 48, 48, 49, 50]⟩, .string ⟨#[92, 117, 48, 48, 49, 51]⟩, .string ⟨#[92, 117, 48, 48, 49, 52]⟩, .string ⟨#[92, 117, 48, 48, 49, 53]⟩, .string ⟨#[92, 117, 48, 48, 49, 54]⟩, .string ⟨#[92, 117, 48, 48, 49, 55]⟩, .string ⟨#[92, 117, 48, 48, 49, 56]⟩, .string ⟨#[92, 117, 48, 48, 49, 57]⟩, .string ⟨#[92, 117, 48, 48, 49, 97]⟩, .string ⟨#[92, 117, 48, 48, 49, 98]⟩, .string ⟨#[92, 117, 48, 48, 49, 99]⟩, .string ⟨#[92, 117, 48, 48, 49, 100]⟩, .string ⟨#[92, 117, 48, 48, 49, 101]⟩, .string ⟨#[92, 117, 48, 48, 49, 102]⟩]
noncomputable def marksL : List (Nat × Array Value) := [(13, ctlCells), (14, firstCells), (15, acceptCells), (0, #[.iface 95 (.pointer (some ⟨low + 0, 0, none⟩))]), (1, #[.iface 95 (.pointer (some ⟨low + 1, 0, none⟩))]), (2, #[.iface 95 (.pointer (some ⟨low + 2, 0, none⟩))]), (3, #[.iface 95 (.pointer (some ⟨low + 3, 0, none⟩))]), (4, #[.iface 95 (.pointer (some ⟨low + 4, 0, none⟩))]), (5, #[.iface 95 (.pointer (some ⟨low + 5, 0, none⟩))]), (6, #[.iface 95 (.pointer (some ⟨low + 6, 0, none⟩))]), (7, #[.iface 95 (.pointer (some ⟨low + 7, 0, none⟩))]), (8, #[.iface 95 (.pointer (some ⟨low + 8, 0, none⟩))]), (9, #[.iface 95 (.pointer (some ⟨low + 9, 0, none⟩))]), (10, #[.iface 95 (.pointer (some ⟨low + 10, 0, none⟩))]), (11, #[.iface 95 (.pointer (some ⟨low + 11, 0, none⟩))]), (12, #[.iface 95 (.pointer (some ⟨low + 12, 0, none⟩))])]
noncomputable def laidWorld (os : Os) : World :=
  { (start os) with heap := marksL.foldl (fun h x => h.modify x.1 (put x.2)) (start os).heap }

end Go.Proofs.YtfoammkidjbilaaDoor.worldQ
