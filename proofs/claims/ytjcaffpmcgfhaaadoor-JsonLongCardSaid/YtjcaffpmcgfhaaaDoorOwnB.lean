/-
  A slice of bytes that the call itself made: appended to, copied from a string, turned into a string.
-/
import Derived.Test.YtjcaffpmcgfhaaaDoorChecked
import Derived.WalkKit
import Derived.ProofKit
import Derived.WalkLawsBesides
import Derived.Lib.Hide
import Derived.WalkMore
import Derived.WalkSmall
import Derived.Lib.OthersKept
import Derived.Laws.IdiomStrings
import Derived.Laws.BytesArg
import Derived.Below
namespace Go.Proofs.YtjcaffpmcgfhaaaDoor.ownB
open Go.ChangeShapes Go.WideShapes Go.ChangeAt Go.RowKit

theorem infoB : (Tryd.prog.info? 5).map (fun i => (i.zero, i.size, i.bytes)) = some (some (.int .u8 0), 1, 1) := by kernel_rfl

def bv (b : UInt8) : Value := .int .u8 (b.toNat : Int)
/-- a slice of the call's own that holds bytes -/
def OwnB (w : World) (B : Nat) (v : Value) (l : List UInt8) : Prop := w.ownsRow B 5 1 v l.length (l.map bv)

theorem ownB_lt {w : World} {B : Nat} {v : Value} {l : List UInt8} (h : OwnB w B v l) : ∀ k, v.ownBlock = some k → B ≤ k := fun k hk => (World.ownsRow.lt h k hk).1
theorem ownB_snoc {w : World} {B : Nat} {v : Value} {l : List UInt8} {n : UInt8} (h : w.ownsRow B 5 1 v (l.length + 1) ((l.map bv) ++ [bv n])) : OwnB w B v (l ++ [n]) := by
  unfold OwnB; rw [List.length_append, List.map_append]; exact h
theorem ownB_kept {w w' : World} {B : Nat} {v : Value} {l : List UInt8} (h : OwnB w B v l) (hb : Below w.heap.size w w') : OwnB w' B v l := by
  refine World.ownsRow.kept h (row := none) ?_ (Classical.em _)
  exact ⟨hb.os, hb.tape, hb.output, hb.size, fun k hk _ => hb.block k hk⟩

theorem ownB_str {w : World} {B : Nat} {v : Value} {l : List UInt8} (h : OwnB w B v l) : (convert 24 9 v).run Tryd.prog w = .ok (.string ⟨l.toArray⟩) w := by
  rcases h.2 with ⟨rfl, hn⟩ | ⟨g, cap, cur, rfl, hb, hg, hn, hm, hs, ht⟩
  · obtain rfl : l = [] := List.length_eq_zero_iff.1 hn
    exact run_convert_bytes_nil w _ 5 Tryd.underlying24 Tryd.underlying5 _ _ _ Tryd.underlying9
  · refine run_convert_bytes_back w _ _ 5 _ _ _ Tryd.underlying24 Tryd.underlying5 Tryd.underlying9 fun j hj => ?_
    have e1 : (cur.toList.take (l.length * 1))[j]? = (l.map bv)[j]? := by rw [ht]
    rw [List.getElem?_take, if_pos (by omega), Array.getElem?_toList, List.getElem?_map, List.getElem?_eq_getElem hj] at e1
    have ea : (⟨g, 0, none⟩ : Addr).add j = ⟨g, j, none⟩ := by unfold Addr.add; split <;> simp_all
    rw [ea]
    simp only [World.cell?, hg, Option.isSome_none, Bool.false_eq_true, if_false]
    rw [e1]; rfl

end Go.Proofs.YtjcaffpmcgfhaaaDoor.ownB
