/-
  NARROWER THAN 'FOR EVERY INPUT', by the rows' own cells (each row's printed sentence says how): SatSolves: laid · SatPigeons: laid · SatOptions: laid · SatRefuses: laid.
  DERIVED. THE GIVEN ROWS OF THIS SEAT. 4 by the template 'for every input the law returns true; each argument reads behind the call as it read before'; 0 by the template 'total and deterministic' (their statements: YtjeckkkmoabjnaaDoorTotals.lean).
  GIVEN WITH THE SEED: the statements are not yours to turn. If you find one false, say at which input.
  Laid BY PROGRAM, IN A SANDBOX (cutbox-rows.mjs): the forced cells as the released guide's own fill.sh prints them over the translation 548f1b703460ebe5… (all of the seat's roots in one cut). By AI agents, Wed Nov 11 2026. No macro, syntax, notation, axiom, sorry.
-/
import Derived.Test.YtjeckkkmoabjnaaDoorChecked
import GoSem.Claim
import GoSem.ClaimJoined
import GoSem.ClaimMapViews
import Derived.JoinedTies
import Derived.KernelRfl
namespace Go.Proofs.YtjeckkkmoabjnaaDoor
/- THE CELL 'sum', in the pinned program and in every row, IS THE sha256 OF THE DUMP (.gsa) THAT YtjeckkkmoabjnaaDoorProg.lean LOADS. Nothing in Lean hashes anything: it is a label: what it is worth is what the hold of that sum in a sandbox is worth. -/
noncomputable def Tryd.pinned : Pinned := { name := "ytjeckkkmoabjnaadoor", sum := "548f1b703460ebe51d3e248a805678fc4c4286034b8d0dc1ccf54eb1c23c2afa", checked := Tryd.checked }
namespace Rows
def none {H : Type} : Left H := { results := [], args := [] }

/- WHAT THE LISTED PACKAGE-LEVEL VARIABLES READ AS WHEN THE CALL BEGINS. Each datum BY PROGRAM (the guide's laid-datum.mjs) off the statement by which the dump's own 'gosem.cut.vars' lays the variable. In a bare row this is a premise. The card (YtjeckkkmoabjnaaDoorCards.lean) ties it to the program's text. -/
def laid_haversack_api_ErrRange {H : Type} : DataW H := .iface "*errors.errorString" (.ptr (.agg [.lit (.string [104, 97, 118, 101, 114, 115, 97, 99, 107, 58, 32, 114, 97, 110, 103, 101])]))
def laid_haversack_api_ErrLimit {H : Type} : DataW H := .iface "*errors.errorString" (.ptr (.agg [.lit (.string [104, 97, 118, 101, 114, 115, 97, 99, 107, 58, 32, 108, 105, 109, 105, 116])]))
def laid_haversack_api_ErrSyntax {H : Type} : DataW H := .iface "*errors.errorString" (.ptr (.agg [.lit (.string [104, 97, 118, 101, 114, 115, 97, 99, 107, 58, 32, 115, 121, 110, 116, 97, 120])]))
def laid_haversack_api_ErrDepth {H : Type} : DataW H := .iface "*errors.errorString" (.ptr (.agg [.lit (.string [104, 97, 118, 101, 114, 115, 97, 99, 107, 58, 32, 100, 101, 112, 116, 104])]))
def laid_haversack_api_ErrSize {H : Type} : DataW H := .iface "*errors.errorString" (.ptr (.agg [.lit (.string [104, 97, 118, 101, 114, 115, 97, 99, 107, 58, 32, 115, 105, 122, 101])]))
def laid_haversack_api_ErrNumber {H : Type} : DataW H := .iface "*errors.errorString" (.ptr (.agg [.lit (.string [104, 97, 118, 101, 114, 115, 97, 99, 107, 58, 32, 110, 117, 109, 98, 101, 114])]))
def laid_haversack_api_ErrKey {H : Type} : DataW H := .iface "*errors.errorString" (.ptr (.agg [.lit (.string [104, 97, 118, 101, 114, 115, 97, 99, 107, 58, 32, 107, 101, 121])]))
def laid_haversack_api_ErrType {H : Type} : DataW H := .iface "*errors.errorString" (.ptr (.agg [.lit (.string [104, 97, 118, 101, 114, 115, 97, 99, 107, 58, 32, 116, 121, 112, 101])]))
def laid_haversack_api_ErrName {H : Type} : DataW H := .iface "*errors.errorString" (.ptr (.agg [.lit (.string [104, 97, 118, 101, 114, 115, 97, 99, 107, 58, 32, 110, 97, 109, 101])]))
def laid_haversack_api_ErrVersion {H : Type} : DataW H := .iface "*errors.errorString" (.ptr (.agg [.lit (.string [104, 97, 118, 101, 114, 115, 97, 99, 107, 58, 32, 118, 101, 114, 115, 105, 111, 110])]))
def laid_haversack_api_ErrSpec {H : Type} : DataW H := .iface "*errors.errorString" (.ptr (.agg [.lit (.string [104, 97, 118, 101, 114, 115, 97, 99, 107, 58, 32, 115, 112, 101, 99])]))
def laid_haversack_api_ErrNone {H : Type} : DataW H := .iface "*errors.errorString" (.ptr (.agg [.lit (.string [104, 97, 118, 101, 114, 115, 97, 99, 107, 58, 32, 110, 111, 110, 101])]))
def laid_haversack_api_ErrTwice {H : Type} : DataW H := .iface "*errors.errorString" (.ptr (.agg [.lit (.string [104, 97, 118, 101, 114, 115, 97, 99, 107, 58, 32, 116, 119, 105, 99, 101])]))

/-- 'haversacklaw17.SatSolves': WHATEVER THE INPUT: true; the input reads as it did. -/
def satSolvesSpec : ChangeSpec := { name := "satSolves", fn := fun _ => fun
  | [d] => { results := [.lit (.bool true)], args := [d] }
  | _ => none }
def satSolvesRow : OpenClaim := { program := "ytjeckkkmoabjnaadoor", sum := "548f1b703460ebe51d3e248a805678fc4c4286034b8d0dc1ccf54eb1c23c2afa", func := "haversack/haversacklaw17.SatSolves", spec := "satSolves", unfollowed := true, recurses := true, named := ["haversack/api.ErrRange", "haversack/api.ErrLimit"], apart := false, laid := [("haversack/api.ErrRange", laid_haversack_api_ErrRange), ("haversack/api.ErrLimit", laid_haversack_api_ErrLimit)] }
def SatSolvesSaid : Prop := satSolvesRow.holds Tryd.pinned (OpenSpec.ofChange satSolvesSpec)

/-- ITS FALSE NEIGHBOUR: 'it returns false'. Refute it at one input. -/
def satSolvesWrong : ChangeSpec := { name := "satSolves", fn := fun _ => fun
  | [d] => { results := [.lit (.bool false)], args := [d] }
  | _ => none }
def SatSolvesWrongFalsely : Prop := satSolvesRow.holds Tryd.pinned (OpenSpec.ofChange satSolvesWrong)

/-- 'haversacklaw17.SatPigeons': WHATEVER THE INPUT: true; the input reads as it did. -/
def satPigeonsSpec : ChangeSpec := { name := "satPigeons", fn := fun _ => fun
  | [d1, d2, d3] => { results := [.lit (.bool true)], args := [d1, d2, d3] }
  | _ => none }
def satPigeonsRow : OpenClaim := { program := "ytjeckkkmoabjnaadoor", sum := "548f1b703460ebe51d3e248a805678fc4c4286034b8d0dc1ccf54eb1c23c2afa", func := "haversack/haversacklaw17.SatPigeons", spec := "satPigeons", unfollowed := true, recurses := true, named := ["haversack/api.ErrRange", "haversack/api.ErrLimit"], apart := false, laid := [("haversack/api.ErrRange", laid_haversack_api_ErrRange), ("haversack/api.ErrLimit", laid_haversack_api_ErrLimit)] }
def SatPigeonsSaid : Prop := satPigeonsRow.holds Tryd.pinned (OpenSpec.ofChange satPigeonsSpec)

/-- ITS FALSE NEIGHBOUR: 'it returns false'. Refute it at one input. -/
def satPigeonsWrong : ChangeSpec := { name := "satPigeons", fn := fun _ => fun
  | [d1, d2, d3] => { results := [.lit (.bool false)], args := [d1, d2, d3] }
  | _ => none }
def SatPigeonsWrongFalsely : Prop := satPigeonsRow.holds Tryd.pinned (OpenSpec.ofChange satPigeonsWrong)

/-- 'haversacklaw17.SatOptions': WHATEVER THE INPUT: true; the input reads as it did. -/
def satOptionsSpec : ChangeSpec := { name := "satOptions", fn := fun _ => fun
  | [d1, d2] => { results := [.lit (.bool true)], args := [d1, d2] }
  | _ => none }
def satOptionsRow : OpenClaim := { program := "ytjeckkkmoabjnaadoor", sum := "548f1b703460ebe51d3e248a805678fc4c4286034b8d0dc1ccf54eb1c23c2afa", func := "haversack/haversacklaw17.SatOptions", spec := "satOptions", unfollowed := true, recurses := true, named := ["haversack/api.ErrRange", "haversack/api.ErrLimit"], apart := false, laid := [("haversack/api.ErrRange", laid_haversack_api_ErrRange), ("haversack/api.ErrLimit", laid_haversack_api_ErrLimit)] }
def SatOptionsSaid : Prop := satOptionsRow.holds Tryd.pinned (OpenSpec.ofChange satOptionsSpec)

/-- ITS FALSE NEIGHBOUR: 'it returns false'. Refute it at one input. -/
def satOptionsWrong : ChangeSpec := { name := "satOptions", fn := fun _ => fun
  | [d1, d2] => { results := [.lit (.bool false)], args := [d1, d2] }
  | _ => none }
def SatOptionsWrongFalsely : Prop := satOptionsRow.holds Tryd.pinned (OpenSpec.ofChange satOptionsWrong)

/-- 'haversacklaw17.SatRefuses': WHATEVER THE INPUT: true; the input reads as it did. -/
def satRefusesSpec : ChangeSpec := { name := "satRefuses", fn := fun _ => fun
  | [d] => { results := [.lit (.bool true)], args := [d] }
  | _ => none }
def satRefusesRow : OpenClaim := { program := "ytjeckkkmoabjnaadoor", sum := "548f1b703460ebe51d3e248a805678fc4c4286034b8d0dc1ccf54eb1c23c2afa", func := "haversack/haversacklaw17.SatRefuses", spec := "satRefuses", inPlace := ["internal/reflectlite.TypeOf"], unfollowed := true, recurses := true, named := ["haversack/api.ErrRange", "haversack/api.ErrLimit", "haversack/api.ErrSyntax", "haversack/api.ErrDepth", "haversack/api.ErrSize", "haversack/api.ErrNumber", "haversack/api.ErrKey", "haversack/api.ErrType", "haversack/api.ErrName", "haversack/api.ErrVersion", "haversack/api.ErrSpec", "haversack/api.ErrNone", "haversack/api.ErrTwice"], apart := false, laid := [("haversack/api.ErrSyntax", laid_haversack_api_ErrSyntax), ("haversack/api.ErrDepth", laid_haversack_api_ErrDepth), ("haversack/api.ErrSize", laid_haversack_api_ErrSize), ("haversack/api.ErrNumber", laid_haversack_api_ErrNumber), ("haversack/api.ErrKey", laid_haversack_api_ErrKey), ("haversack/api.ErrType", laid_haversack_api_ErrType), ("haversack/api.ErrName", laid_haversack_api_ErrName), ("haversack/api.ErrVersion", laid_haversack_api_ErrVersion), ("haversack/api.ErrSpec", laid_haversack_api_ErrSpec), ("haversack/api.ErrRange", laid_haversack_api_ErrRange), ("haversack/api.ErrNone", laid_haversack_api_ErrNone), ("haversack/api.ErrLimit", laid_haversack_api_ErrLimit), ("haversack/api.ErrTwice", laid_haversack_api_ErrTwice)] }
def SatRefusesSaid : Prop := satRefusesRow.holds Tryd.pinned (OpenSpec.ofChange satRefusesSpec)

/-- ITS FALSE NEIGHBOUR: 'it returns false'. Refute it at one input. -/
def satRefusesWrong : ChangeSpec := { name := "satRefuses", fn := fun _ => fun
  | [d] => { results := [.lit (.bool false)], args := [d] }
  | _ => none }
def SatRefusesWrongFalsely : Prop := satRefusesRow.holds Tryd.pinned (OpenSpec.ofChange satRefusesWrong)

/- THE SECOND FORM. 'bulk': how many values and letters a reading holds, each counted each time it is reached (what is shared counts as often as it is met; a slice's spare places count too). A statement '..UptoSaid' is the law's where the arguments, and the package variables that the reading takes, are together of bulk at most 1048576: NARROWER than '..Said'. Prove '..Said' where nothing that the law and all that it calls make is longer than what came in: it says more and counts as full. Else prove '..UptoSaid'. A law counts once. -/
mutual
def uptoBulk {H : Type} : DataW H → Nat
  | .lit (.string bytes) => bytes.length + 1
  | .lit _ => 1
  | .nil => 1
  | .ptr d => uptoBulk d + 1
  | .slice elems spare => uptoBulkAll elems + uptoBulkAll spare + 1
  | .agg parts => uptoBulkAll parts + 1
  | .iface _ d => uptoBulk d + 1
  | .map entries => uptoBulkEntries entries + 1
  | .held _ => 1
def uptoBulkAll {H : Type} : List (DataW H) → Nat
  | [] => 0
  | d :: r => uptoBulk d + uptoBulkAll r
def uptoBulkEntries {H : Type} : List (Lit × DataW H) → Nat
  | [] => 0
  | x :: r => uptoBulkEntry x + uptoBulkEntries r
def uptoBulkEntry {H : Type} : Lit × DataW H → Nat
  | (.string bytes, d) => bytes.length + uptoBulk d + 1
  | (_, d) => uptoBulk d + 1
 end
def uptoSmall : (H : Type) → List (DataW H) → Bool := fun _ ds => decide (uptoBulkAll ds ≤ 1048576)
def OpenSpec.upto (s : _root_.Go.ChangeSpec) : _root_.Go.OpenSpec := { _root_.Go.OpenSpec.ofChange s with cond := some uptoSmall }

/-- 'haversacklaw17.SatSolves', WHERE WHAT IT READS IS OF BULK AT MOST 1048576: true; the input reads as it did. -/
def satSolvesUptoRow : OpenClaim := { program := "ytjeckkkmoabjnaadoor", sum := "548f1b703460ebe51d3e248a805678fc4c4286034b8d0dc1ccf54eb1c23c2afa", func := "haversack/haversacklaw17.SatSolves", spec := "satSolves", unfollowed := true, recurses := true, named := ["haversack/api.ErrRange", "haversack/api.ErrLimit"], apart := false, laid := [("haversack/api.ErrRange", laid_haversack_api_ErrRange), ("haversack/api.ErrLimit", laid_haversack_api_ErrLimit)], narrowed := true }
def SatSolvesUptoSaid : Prop := satSolvesUptoRow.holds Tryd.pinned (OpenSpec.upto satSolvesSpec)

/-- 'haversacklaw17.SatPigeons', WHERE WHAT IT READS IS OF BULK AT MOST 1048576: true; the input reads as it did. -/
def satPigeonsUptoRow : OpenClaim := { program := "ytjeckkkmoabjnaadoor", sum := "548f1b703460ebe51d3e248a805678fc4c4286034b8d0dc1ccf54eb1c23c2afa", func := "haversack/haversacklaw17.SatPigeons", spec := "satPigeons", unfollowed := true, recurses := true, named := ["haversack/api.ErrRange", "haversack/api.ErrLimit"], apart := false, laid := [("haversack/api.ErrRange", laid_haversack_api_ErrRange), ("haversack/api.ErrLimit", laid_haversack_api_ErrLimit)], narrowed := true }
def SatPigeonsUptoSaid : Prop := satPigeonsUptoRow.holds Tryd.pinned (OpenSpec.upto satPigeonsSpec)

/-- 'haversacklaw17.SatOptions', WHERE WHAT IT READS IS OF BULK AT MOST 1048576: true; the input reads as it did. -/
def satOptionsUptoRow : OpenClaim := { program := "ytjeckkkmoabjnaadoor", sum := "548f1b703460ebe51d3e248a805678fc4c4286034b8d0dc1ccf54eb1c23c2afa", func := "haversack/haversacklaw17.SatOptions", spec := "satOptions", unfollowed := true, recurses := true, named := ["haversack/api.ErrRange", "haversack/api.ErrLimit"], apart := false, laid := [("haversack/api.ErrRange", laid_haversack_api_ErrRange), ("haversack/api.ErrLimit", laid_haversack_api_ErrLimit)], narrowed := true }
def SatOptionsUptoSaid : Prop := satOptionsUptoRow.holds Tryd.pinned (OpenSpec.upto satOptionsSpec)

/-- 'haversacklaw17.SatRefuses', WHERE WHAT IT READS IS OF BULK AT MOST 1048576: true; the input reads as it did. -/
def satRefusesUptoRow : OpenClaim := { program := "ytjeckkkmoabjnaadoor", sum := "548f1b703460ebe51d3e248a805678fc4c4286034b8d0dc1ccf54eb1c23c2afa", func := "haversack/haversacklaw17.SatRefuses", spec := "satRefuses", inPlace := ["internal/reflectlite.TypeOf"], unfollowed := true, recurses := true, named := ["haversack/api.ErrRange", "haversack/api.ErrLimit", "haversack/api.ErrSyntax", "haversack/api.ErrDepth", "haversack/api.ErrSize", "haversack/api.ErrNumber", "haversack/api.ErrKey", "haversack/api.ErrType", "haversack/api.ErrName", "haversack/api.ErrVersion", "haversack/api.ErrSpec", "haversack/api.ErrNone", "haversack/api.ErrTwice"], apart := false, laid := [("haversack/api.ErrSyntax", laid_haversack_api_ErrSyntax), ("haversack/api.ErrDepth", laid_haversack_api_ErrDepth), ("haversack/api.ErrSize", laid_haversack_api_ErrSize), ("haversack/api.ErrNumber", laid_haversack_api_ErrNumber), ("haversack/api.ErrKey", laid_haversack_api_ErrKey), ("haversack/api.ErrType", laid_haversack_api_ErrType), ("haversack/api.ErrName", laid_haversack_api_ErrName), ("haversack/api.ErrVersion", laid_haversack_api_ErrVersion), ("haversack/api.ErrSpec", laid_haversack_api_ErrSpec), ("haversack/api.ErrRange", laid_haversack_api_ErrRange), ("haversack/api.ErrNone", laid_haversack_api_ErrNone), ("haversack/api.ErrLimit", laid_haversack_api_ErrLimit), ("haversack/api.ErrTwice", laid_haversack_api_ErrTwice)], narrowed := true }
def SatRefusesUptoSaid : Prop := satRefusesUptoRow.holds Tryd.pinned (OpenSpec.upto satRefusesSpec)

end Rows
end Go.Proofs.YtjeckkkmoabjnaaDoor
