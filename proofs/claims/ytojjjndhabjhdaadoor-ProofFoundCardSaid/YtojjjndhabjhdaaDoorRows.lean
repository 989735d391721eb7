/-
  NARROWER THAN 'FOR EVERY INPUT', by the rows' own cells (each row's printed sentence says how): ProofFound: laid.
  DERIVED. THE GIVEN ROWS OF THIS SEAT. 1 by the template 'for every input the law returns true; each argument reads behind the call as it read before'; 0 by the template 'total and deterministic' (their statements: YtojjjndhabjhdaaDoorTotals.lean).
  GIVEN WITH THE SEED: the statements are not yours to turn. If you find one false, say at which input.
  Laid BY PROGRAM, IN A SANDBOX (cutbox-rows.mjs): the forced cells as the released guide's own fill.sh prints them over the translation 0ffeecc1a66debea… (all of the seat's roots in one cut). By AI agents, Wed Nov 11 2026. No macro, syntax, notation, axiom, sorry.
-/
import Derived.Test.YtojjjndhabjhdaaDoorChecked
import GoSem.Claim
import GoSem.ClaimJoined
import GoSem.ClaimMapViews
import Derived.JoinedTies
import Derived.KernelRfl
namespace Go.Proofs.YtojjjndhabjhdaaDoor
/- THE CELL 'sum', in the pinned program and in every row, IS THE sha256 OF THE DUMP (.gsa) THAT YtojjjndhabjhdaaDoorProg.lean LOADS. Nothing in Lean hashes anything: it is a label: what it is worth is what the hold of that sum in a sandbox is worth. -/
noncomputable def Tryd.pinned : Pinned := { name := "ytojjjndhabjhdaadoor", sum := "0ffeecc1a66debeaf641aa2f9e54f91ee2799c8dd18660396f9bb31442e2b5d2", checked := Tryd.checked }
namespace Rows
def none {H : Type} : Left H := { results := [], args := [] }

/- WHAT THE LISTED PACKAGE-LEVEL VARIABLES READ AS WHEN THE CALL BEGINS. Each datum BY PROGRAM (the guide's laid-datum.mjs) off the statement by which the dump's own 'gosem.cut.vars' lays the variable. In a bare row this is a premise. The card (YtojjjndhabjhdaaDoorCards.lean) ties it to the program's text. -/
def laid_haversack_api_ErrRange {H : Type} : DataW H := .iface "*errors.errorString" (.ptr (.agg [.lit (.string [104, 97, 118, 101, 114, 115, 97, 99, 107, 58, 32, 114, 97, 110, 103, 101])]))
def laid_haversack_api_ErrLimit {H : Type} : DataW H := .iface "*errors.errorString" (.ptr (.agg [.lit (.string [104, 97, 118, 101, 114, 115, 97, 99, 107, 58, 32, 108, 105, 109, 105, 116])]))

/-- 'haversacklaw18.ProofFound': WHATEVER THE INPUT: true; the input reads as it did. -/
def proofFoundSpec : ChangeSpec := { name := "proofFound", fn := fun _ => fun
  | [d] => { results := [.lit (.bool true)], args := [d] }
  | _ => none }
def proofFoundRow : OpenClaim := { program := "ytojjjndhabjhdaadoor", sum := "0ffeecc1a66debeaf641aa2f9e54f91ee2799c8dd18660396f9bb31442e2b5d2", func := "haversack/haversacklaw18.ProofFound", spec := "proofFound", unfollowed := true, recurses := true, named := ["haversack/api.ErrRange", "haversack/api.ErrLimit"], apart := false, laid := [("haversack/api.ErrRange", laid_haversack_api_ErrRange), ("haversack/api.ErrLimit", laid_haversack_api_ErrLimit)] }
def ProofFoundSaid : Prop := proofFoundRow.holds Tryd.pinned (OpenSpec.ofChange proofFoundSpec)

/-- ITS FALSE NEIGHBOUR: 'it returns false'. Refute it at one input. -/
def proofFoundWrong : ChangeSpec := { name := "proofFound", fn := fun _ => fun
  | [d] => { results := [.lit (.bool false)], args := [d] }
  | _ => none }
def ProofFoundWrongFalsely : Prop := proofFoundRow.holds Tryd.pinned (OpenSpec.ofChange proofFoundWrong)

/- THE SECOND FORM. 'bulk': how many values and letters a reading holds, each counted each time it is reached (what is shared counts as often as it is met; a slice's spare places count too). A statement '..UptoSaid' is the law's where the arguments, and the package variables that the reading takes, are together of bulk at most 1048576: NARROWER than '..Said'. Prove '..Said' where nothing that the law and all that it calls make is longer than what came in: it says more and counts as full. Else prove '..UptoSaid'. A law counts once. -/
mutual
def uptoBulk {H : Type} : DataW H → Nat
  | .lit (.string bytes) => bytes.length + 1
  | .lit _ => 1
  | .nil => 1
  | .ptr d => uptoBulk d + 1
  | .slice elems spare => uptoBulkAll elems + uptoBulkAll spare + 1
  | .agg parts => uptoBulkAll parts + 1
  | .iface _ d => uptoBulk d + 1
  | .map entries => uptoBulkEntries entries + 1
  | .held _ => 1
def uptoBulkAll {H : Type} : List (DataW H) → Nat
  | [] => 0
  | d :: r => uptoBulk d + uptoBulkAll r
def uptoBulkEntries {H : Type} : List (Lit × DataW H) → Nat
  | [] => 0
  | x :: r => uptoBulkEntry x + uptoBulkEntries r
def uptoBulkEntry {H : Type} : Lit × DataW H → Nat
  | (.string bytes, d) => bytes.length + uptoBulk d + 1
  | (_, d) => uptoBulk d + 1
 end
def uptoSmall : (H : Type) → List (DataW H) → Bool := fun _ ds => decide (uptoBulkAll ds ≤ 1048576)
def OpenSpec.upto (s : _root_.Go.ChangeSpec) : _root_.Go.OpenSpec := { _root_.Go.OpenSpec.ofChange s with cond := some uptoSmall }

/-- 'haversacklaw18.ProofFound', WHERE WHAT IT READS IS OF BULK AT MOST 1048576: true; the input reads as it did. -/
def proofFoundUptoRow : OpenClaim := { program := "ytojjjndhabjhdaadoor", sum := "0ffeecc1a66debeaf641aa2f9e54f91ee2799c8dd18660396f9bb31442e2b5d2", func := "haversack/haversacklaw18.ProofFound", spec := "proofFound", unfollowed := true, recurses := true, named := ["haversack/api.ErrRange", "haversack/api.ErrLimit"], apart := false, laid := [("haversack/api.ErrRange", laid_haversack_api_ErrRange), ("haversack/api.ErrLimit", laid_haversack_api_ErrLimit)], narrowed := true }
def ProofFoundUptoSaid : Prop := proofFoundUptoRow.holds Tryd.pinned (OpenSpec.upto proofFoundSpec)

end Rows
end Go.Proofs.YtojjjndhabjhdaaDoor
