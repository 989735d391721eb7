/-
  No cell of these rows narrows 'for every input' (looked for: loops, veiled, ifaces, maps, wideKeys, modest, calm, conditions, laid).
  DERIVED. THE GIVEN ROWS OF THIS SEAT. 5 by the template 'for every input the law returns true; each argument reads behind the call as it read before'; 0 by the template 'total and deterministic' (their statements: YtojjjndhabjhdaaTotals.lean).
  GIVEN WITH THE SEED: the statements are not yours to turn. If you find one false, say at which input.
  Laid BY PROGRAM, IN A SANDBOX (cutbox-rows.mjs): the forced cells as the released guide's own fill.sh prints them over the translation 7d18726f8713b297… (all of the seat's roots in one cut). By AI agents, Wed Nov 11 2026. No macro, syntax, notation, axiom, sorry.
-/
import Derived.Test.YtojjjndhabjhdaaChecked
import GoSem.Claim
import GoSem.ClaimJoined
import GoSem.ClaimMapViews
import Derived.JoinedTies
import Derived.KernelRfl
namespace Go.Proofs.Ytojjjndhabjhdaa
/- THE CELL 'sum', in the pinned program and in every row, IS THE sha256 OF THE DUMP (.gsa) THAT YtojjjndhabjhdaaProg.lean LOADS. Nothing in Lean hashes anything: it is a label: what it is worth is what the hold of that sum in a sandbox is worth. -/
noncomputable def Try.pinned : Pinned := { name := "ytojjjndhabjhdaa", sum := "7d18726f8713b29775ad8b874fe7ea7ac38bd7a36dc6496f054a2a6d5c0059d7", checked := Try.checked }
namespace Rows
def none {H : Type} : Left H := { results := [], args := [] }

/-- 'haversacklaw18.ProofSound': WHATEVER THE INPUT: true; the input reads as it did. -/
def proofSoundSpec : ChangeSpec := { name := "proofSound", fn := fun _ => fun
  | [d1, d2] => { results := [.lit (.bool true)], args := [d1, d2] }
  | _ => none }
def proofSoundRow : OpenClaim := { program := "ytojjjndhabjhdaa", sum := "7d18726f8713b29775ad8b874fe7ea7ac38bd7a36dc6496f054a2a6d5c0059d7", func := "haversack/haversacklaw18.ProofSound", spec := "proofSound", recurses := true, apart := false }
def ProofSoundSaid : Prop := proofSoundRow.holds Try.pinned (OpenSpec.ofChange proofSoundSpec)

/-- ITS FALSE NEIGHBOUR: 'it returns false'. Refute it at one input. -/
def proofSoundWrong : ChangeSpec := { name := "proofSound", fn := fun _ => fun
  | [d1, d2] => { results := [.lit (.bool false)], args := [d1, d2] }
  | _ => none }
def ProofSoundWrongFalsely : Prop := proofSoundRow.holds Try.pinned (OpenSpec.ofChange proofSoundWrong)

/-- 'haversacklaw18.ProofMore': WHATEVER THE INPUT: true; the input reads as it did. -/
def proofMoreSpec : ChangeSpec := { name := "proofMore", fn := fun _ => fun
  | [d1, d2, d3] => { results := [.lit (.bool true)], args := [d1, d2, d3] }
  | _ => none }
def proofMoreRow : OpenClaim := { program := "ytojjjndhabjhdaa", sum := "7d18726f8713b29775ad8b874fe7ea7ac38bd7a36dc6496f054a2a6d5c0059d7", func := "haversack/haversacklaw18.ProofMore", spec := "proofMore", recurses := true, apart := false }
def ProofMoreSaid : Prop := proofMoreRow.holds Try.pinned (OpenSpec.ofChange proofMoreSpec)

/-- ITS FALSE NEIGHBOUR: 'it returns false'. Refute it at one input. -/
def proofMoreWrong : ChangeSpec := { name := "proofMore", fn := fun _ => fun
  | [d1, d2, d3] => { results := [.lit (.bool false)], args := [d1, d2, d3] }
  | _ => none }
def ProofMoreWrongFalsely : Prop := proofMoreRow.holds Try.pinned (OpenSpec.ofChange proofMoreWrong)

/-- 'haversacklaw18.ProofChecks': WHATEVER THE INPUT: true; the input reads as it did. -/
def proofChecksSpec : ChangeSpec := { name := "proofChecks", fn := fun _ => fun
  | [d1, d2, d3] => { results := [.lit (.bool true)], args := [d1, d2, d3] }
  | _ => none }
def proofChecksRow : OpenClaim := { program := "ytojjjndhabjhdaa", sum := "7d18726f8713b29775ad8b874fe7ea7ac38bd7a36dc6496f054a2a6d5c0059d7", func := "haversack/haversacklaw18.ProofChecks", spec := "proofChecks", recurses := true, apart := false }
def ProofChecksSaid : Prop := proofChecksRow.holds Try.pinned (OpenSpec.ofChange proofChecksSpec)

/-- ITS FALSE NEIGHBOUR: 'it returns false'. Refute it at one input. -/
def proofChecksWrong : ChangeSpec := { name := "proofChecks", fn := fun _ => fun
  | [d1, d2, d3] => { results := [.lit (.bool false)], args := [d1, d2, d3] }
  | _ => none }
def ProofChecksWrongFalsely : Prop := proofChecksRow.holds Try.pinned (OpenSpec.ofChange proofChecksWrong)

/-- 'haversacklaw18.ProofShort': WHATEVER THE INPUT: true; the input reads as it did. -/
def proofShortSpec : ChangeSpec := { name := "proofShort", fn := fun _ => fun
  | [d1, d2] => { results := [.lit (.bool true)], args := [d1, d2] }
  | _ => none }
def proofShortRow : OpenClaim := { program := "ytojjjndhabjhdaa", sum := "7d18726f8713b29775ad8b874fe7ea7ac38bd7a36dc6496f054a2a6d5c0059d7", func := "haversack/haversacklaw18.ProofShort", spec := "proofShort", recurses := true, apart := false }
def ProofShortSaid : Prop := proofShortRow.holds Try.pinned (OpenSpec.ofChange proofShortSpec)

/-- ITS FALSE NEIGHBOUR: 'it returns false'. Refute it at one input. -/
def proofShortWrong : ChangeSpec := { name := "proofShort", fn := fun _ => fun
  | [d1, d2] => { results := [.lit (.bool false)], args := [d1, d2] }
  | _ => none }
def ProofShortWrongFalsely : Prop := proofShortRow.holds Try.pinned (OpenSpec.ofChange proofShortWrong)

/-- 'haversacklaw18.ProofResults': WHATEVER THE INPUT: true; the input reads as it did. -/
def proofResultsSpec : ChangeSpec := { name := "proofResults", fn := fun _ => fun
  | [d] => { results := [.lit (.bool true)], args := [d] }
  | _ => none }
def proofResultsRow : OpenClaim := { program := "ytojjjndhabjhdaa", sum := "7d18726f8713b29775ad8b874fe7ea7ac38bd7a36dc6496f054a2a6d5c0059d7", func := "haversack/haversacklaw18.ProofResults", spec := "proofResults", unfollowed := true, recurses := true, apart := false }
def ProofResultsSaid : Prop := proofResultsRow.holds Try.pinned (OpenSpec.ofChange proofResultsSpec)

/-- ITS FALSE NEIGHBOUR: 'it returns false'. Refute it at one input. -/
def proofResultsWrong : ChangeSpec := { name := "proofResults", fn := fun _ => fun
  | [d] => { results := [.lit (.bool false)], args := [d] }
  | _ => none }
def ProofResultsWrongFalsely : Prop := proofResultsRow.holds Try.pinned (OpenSpec.ofChange proofResultsWrong)

/- THE SECOND FORM. 'bulk': how many values and letters a reading holds, each counted each time it is reached (what is shared counts as often as it is met; a slice's spare places count too). A statement '..UptoSaid' is the law's where the arguments, and the package variables that the reading takes, are together of bulk at most 1048576: NARROWER than '..Said'. Prove '..Said' where nothing that the law and all that it calls make is longer than what came in: it says more and counts as full. Else prove '..UptoSaid'. A law counts once. -/
mutual
def uptoBulk {H : Type} : DataW H → Nat
  | .lit (.string bytes) => bytes.length + 1
  | .lit _ => 1
  | .nil => 1
  | .ptr d => uptoBulk d + 1
  | .slice elems spare => uptoBulkAll elems + uptoBulkAll spare + 1
  | .agg parts => uptoBulkAll parts + 1
  | .iface _ d => uptoBulk d + 1
  | .map entries => uptoBulkEntries entries + 1
  | .held _ => 1
def uptoBulkAll {H : Type} : List (DataW H) → Nat
  | [] => 0
  | d :: r => uptoBulk d + uptoBulkAll r
def uptoBulkEntries {H : Type} : List (Lit × DataW H) → Nat
  | [] => 0
  | x :: r => uptoBulkEntry x + uptoBulkEntries r
def uptoBulkEntry {H : Type} : Lit × DataW H → Nat
  | (.string bytes, d) => bytes.length + uptoBulk d + 1
  | (_, d) => uptoBulk d + 1
 end
def uptoSmall : (H : Type) → List (DataW H) → Bool := fun _ ds => decide (uptoBulkAll ds ≤ 1048576)
def OpenSpec.upto (s : _root_.Go.ChangeSpec) : _root_.Go.OpenSpec := { _root_.Go.OpenSpec.ofChange s with cond := some uptoSmall }

/-- 'haversacklaw18.ProofSound', WHERE WHAT IT READS IS OF BULK AT MOST 1048576: true; the input reads as it did. -/
def proofSoundUptoRow : OpenClaim := { program := "ytojjjndhabjhdaa", sum := "7d18726f8713b29775ad8b874fe7ea7ac38bd7a36dc6496f054a2a6d5c0059d7", func := "haversack/haversacklaw18.ProofSound", spec := "proofSound", recurses := true, apart := false, narrowed := true }
def ProofSoundUptoSaid : Prop := proofSoundUptoRow.holds Try.pinned (OpenSpec.upto proofSoundSpec)

/-- 'haversacklaw18.ProofMore', WHERE WHAT IT READS IS OF BULK AT MOST 1048576: true; the input reads as it did. -/
def proofMoreUptoRow : OpenClaim := { program := "ytojjjndhabjhdaa", sum := "7d18726f8713b29775ad8b874fe7ea7ac38bd7a36dc6496f054a2a6d5c0059d7", func := "haversack/haversacklaw18.ProofMore", spec := "proofMore", recurses := true, apart := false, narrowed := true }
def ProofMoreUptoSaid : Prop := proofMoreUptoRow.holds Try.pinned (OpenSpec.upto proofMoreSpec)

/-- 'haversacklaw18.ProofChecks', WHERE WHAT IT READS IS OF BULK AT MOST 1048576: true; the input reads as it did. -/
def proofChecksUptoRow : OpenClaim := { program := "ytojjjndhabjhdaa", sum := "7d18726f8713b29775ad8b874fe7ea7ac38bd7a36dc6496f054a2a6d5c0059d7", func := "haversack/haversacklaw18.ProofChecks", spec := "proofChecks", recurses := true, apart := false, narrowed := true }
def ProofChecksUptoSaid : Prop := proofChecksUptoRow.holds Try.pinned (OpenSpec.upto proofChecksSpec)

/-- 'haversacklaw18.ProofShort', WHERE WHAT IT READS IS OF BULK AT MOST 1048576: true; the input reads as it did. -/
def proofShortUptoRow : OpenClaim := { program := "ytojjjndhabjhdaa", sum := "7d18726f8713b29775ad8b874fe7ea7ac38bd7a36dc6496f054a2a6d5c0059d7", func := "haversack/haversacklaw18.ProofShort", spec := "proofShort", recurses := true, apart := false, narrowed := true }
def ProofShortUptoSaid : Prop := proofShortUptoRow.holds Try.pinned (OpenSpec.upto proofShortSpec)

/-- 'haversacklaw18.ProofResults', WHERE WHAT IT READS IS OF BULK AT MOST 1048576: true; the input reads as it did. -/
def proofResultsUptoRow : OpenClaim := { program := "ytojjjndhabjhdaa", sum := "7d18726f8713b29775ad8b874fe7ea7ac38bd7a36dc6496f054a2a6d5c0059d7", func := "haversack/haversacklaw18.ProofResults", spec := "proofResults", unfollowed := true, recurses := true, apart := false, narrowed := true }
def ProofResultsUptoSaid : Prop := proofResultsUptoRow.holds Try.pinned (OpenSpec.upto proofResultsSpec)

end Rows
end Go.Proofs.Ytojjjndhabjhdaa
