/-
  No cell of these rows narrows 'for every input' (looked for: loops, veiled, ifaces, maps, wideKeys, modest, calm, conditions, laid).
  DERIVED. THE GIVEN ROWS OF THIS SEAT. 3 by the template 'for every input the law returns true; each argument reads behind the call as it read before'; 0 by the template 'total and deterministic' (their statements: YtlbmoefafkmmoaaTotals.lean).
  GIVEN WITH THE SEED: the statements are not yours to turn. If you find one false, say at which input.
  Laid BY PROGRAM, IN A SANDBOX (cutbox-rows.mjs): the forced cells as the released guide's own fill.sh prints them over the translation 87240388f244adb9… (all of the seat's roots in one cut). By AI agents, Wed Nov 11 2026. No macro, syntax, notation, axiom, sorry.
-/
import Derived.Test.YtlbmoefafkmmoaaChecked
import GoSem.Claim
import GoSem.ClaimJoined
import GoSem.ClaimMapViews
import Derived.JoinedTies
import Derived.KernelRfl
namespace Go.Proofs.Ytlbmoefafkmmoaa
/- THE CELL 'sum', in the pinned program and in every row, IS THE sha256 OF THE DUMP (.gsa) THAT YtlbmoefafkmmoaaProg.lean LOADS. Nothing in Lean hashes anything: it is a label: what it is worth is what the hold of that sum in a sandbox is worth. -/
noncomputable def Try.pinned : Pinned := { name := "ytlbmoefafkmmoaa", sum := "87240388f244adb912d5afb3e2b40238ea8a29e09699ea306cbff730cb575c25", checked := Try.checked }
namespace Rows
def none {H : Type} : Left H := { results := [], args := [] }

/-- 'haversacklaw01.RunesJoins': WHATEVER THE INPUT: true; the input reads as it did. -/
def runesJoinsSpec : ChangeSpec := { name := "runesJoins", fn := fun _ => fun
  | [d1, d2] => { results := [.lit (.bool true)], args := [d1, d2] }
  | _ => none }
def runesJoinsRow : OpenClaim := { program := "ytlbmoefafkmmoaa", sum := "87240388f244adb912d5afb3e2b40238ea8a29e09699ea306cbff730cb575c25", func := "haversack/haversacklaw01.RunesJoins", spec := "runesJoins", apart := false }
def RunesJoinsSaid : Prop := runesJoinsRow.holds Try.pinned (OpenSpec.ofChange runesJoinsSpec)

/-- ITS FALSE NEIGHBOUR: 'it returns false'. Refute it at one input. -/
def runesJoinsWrong : ChangeSpec := { name := "runesJoins", fn := fun _ => fun
  | [d1, d2] => { results := [.lit (.bool false)], args := [d1, d2] }
  | _ => none }
def RunesJoinsWrongFalsely : Prop := runesJoinsRow.holds Try.pinned (OpenSpec.ofChange runesJoinsWrong)

/-- 'haversacklaw01.RunesSplits': WHATEVER THE INPUT: true; the input reads as it did. -/
def runesSplitsSpec : ChangeSpec := { name := "runesSplits", fn := fun _ => fun
  | [d] => { results := [.lit (.bool true)], args := [d] }
  | _ => none }
def runesSplitsRow : OpenClaim := { program := "ytlbmoefafkmmoaa", sum := "87240388f244adb912d5afb3e2b40238ea8a29e09699ea306cbff730cb575c25", func := "haversack/haversacklaw01.RunesSplits", spec := "runesSplits", apart := false }
def RunesSplitsSaid : Prop := runesSplitsRow.holds Try.pinned (OpenSpec.ofChange runesSplitsSpec)

/-- ITS FALSE NEIGHBOUR: 'it returns false'. Refute it at one input. -/
def runesSplitsWrong : ChangeSpec := { name := "runesSplits", fn := fun _ => fun
  | [d] => { results := [.lit (.bool false)], args := [d] }
  | _ => none }
def RunesSplitsWrongFalsely : Prop := runesSplitsRow.holds Try.pinned (OpenSpec.ofChange runesSplitsWrong)

/-- 'haversacklaw01.RunesHex': WHATEVER THE INPUT: true; the input reads as it did. -/
def runesHexSpec : ChangeSpec := { name := "runesHex", fn := fun _ => fun
  | [d1, d2] => { results := [.lit (.bool true)], args := [d1, d2] }
  | _ => none }
def runesHexRow : OpenClaim := { program := "ytlbmoefafkmmoaa", sum := "87240388f244adb912d5afb3e2b40238ea8a29e09699ea306cbff730cb575c25", func := "haversack/haversacklaw01.RunesHex", spec := "runesHex", apart := false }
def RunesHexSaid : Prop := runesHexRow.holds Try.pinned (OpenSpec.ofChange runesHexSpec)

/-- ITS FALSE NEIGHBOUR: 'it returns false'. Refute it at one input. -/
def runesHexWrong : ChangeSpec := { name := "runesHex", fn := fun _ => fun
  | [d1, d2] => { results := [.lit (.bool false)], args := [d1, d2] }
  | _ => none }
def RunesHexWrongFalsely : Prop := runesHexRow.holds Try.pinned (OpenSpec.ofChange runesHexWrong)

/- THE SECOND FORM. 'bulk': how many values and letters a reading holds, each counted each time it is reached (what is shared counts as often as it is met; a slice's spare places count too). A statement '..UptoSaid' is the law's where the arguments, and the package variables that the reading takes, are together of bulk at most 1048576: NARROWER than '..Said'. Prove '..Said' where nothing that the law and all that it calls make is longer than what came in: it says more and counts as full. Else prove '..UptoSaid'. A law counts once. -/
mutual
def uptoBulk {H : Type} : DataW H → Nat
  | .lit (.string bytes) => bytes.length + 1
  | .lit _ => 1
  | .nil => 1
  | .ptr d => uptoBulk d + 1
  | .slice elems spare => uptoBulkAll elems + uptoBulkAll spare + 1
  | .agg parts => uptoBulkAll parts + 1
  | .iface _ d => uptoBulk d + 1
  | .map entries => uptoBulkEntries entries + 1
  | .held _ => 1
def uptoBulkAll {H : Type} : List (DataW H) → Nat
  | [] => 0
  | d :: r => uptoBulk d + uptoBulkAll r
def uptoBulkEntries {H : Type} : List (Lit × DataW H) → Nat
  | [] => 0
  | x :: r => uptoBulkEntry x + uptoBulkEntries r
def uptoBulkEntry {H : Type} : Lit × DataW H → Nat
  | (.string bytes, d) => bytes.length + uptoBulk d + 1
  | (_, d) => uptoBulk d + 1
 end
def uptoSmall : (H : Type) → List (DataW H) → Bool := fun _ ds => decide (uptoBulkAll ds ≤ 1048576)
def OpenSpec.upto (s : _root_.Go.ChangeSpec) : _root_.Go.OpenSpec := { _root_.Go.OpenSpec.ofChange s with cond := some uptoSmall }

/-- 'haversacklaw01.RunesJoins', WHERE WHAT IT READS IS OF BULK AT MOST 1048576: true; the input reads as it did. -/
def runesJoinsUptoRow : OpenClaim := { program := "ytlbmoefafkmmoaa", sum := "87240388f244adb912d5afb3e2b40238ea8a29e09699ea306cbff730cb575c25", func := "haversack/haversacklaw01.RunesJoins", spec := "runesJoins", apart := false, narrowed := true }
def RunesJoinsUptoSaid : Prop := runesJoinsUptoRow.holds Try.pinned (OpenSpec.upto runesJoinsSpec)

/-- 'haversacklaw01.RunesSplits', WHERE WHAT IT READS IS OF BULK AT MOST 1048576: true; the input reads as it did. -/
def runesSplitsUptoRow : OpenClaim := { program := "ytlbmoefafkmmoaa", sum := "87240388f244adb912d5afb3e2b40238ea8a29e09699ea306cbff730cb575c25", func := "haversack/haversacklaw01.RunesSplits", spec := "runesSplits", apart := false, narrowed := true }
def RunesSplitsUptoSaid : Prop := runesSplitsUptoRow.holds Try.pinned (OpenSpec.upto runesSplitsSpec)

/-- 'haversacklaw01.RunesHex', WHERE WHAT IT READS IS OF BULK AT MOST 1048576: true; the input reads as it did. -/
def runesHexUptoRow : OpenClaim := { program := "ytlbmoefafkmmoaa", sum := "87240388f244adb912d5afb3e2b40238ea8a29e09699ea306cbff730cb575c25", func := "haversack/haversacklaw01.RunesHex", spec := "runesHex", apart := false, narrowed := true }
def RunesHexUptoSaid : Prop := runesHexUptoRow.holds Try.pinned (OpenSpec.upto runesHexSpec)

end Rows
end Go.Proofs.Ytlbmoefafkmmoaa
