/-
  DERIVED. GIVEN WITH THE SEED: THE CARDS: each row of YtojjjndhabjhdaaDoorRows.lean that lists a variable, with what it lists TIED to the program's text (the seventh form; the later family's looks); each row that meets fmt, with fmt's text TOLD by the authors' own Lean function (tested against real Go, not proved from fmt's source: count such statements apart). THE CARD IS WHAT COUNTS. Prove the row's statement (the work); the ties are given (YtojjjndhabjhdaaDoorTie.lean); close each card by the builder's one call (the guide's Derived/Test/ToyasCard.lean, 'card_holds'). Laid BY PROGRAM, IN A SANDBOX (cutbox-door.mjs). By AI agents, Wed Nov 11 2026. No macro, syntax, notation, axiom, sorry.
-/
import Derived.Test.YtojjjndhabjhdaaDoorRows
import GoSem.ClaimSeven
namespace Go.Proofs.YtojjjndhabjhdaaDoor
namespace Rows

/-- THE TIED CARD OF 'haversacklaw18.ProofFound'. -/
def proofFoundCard : Claim7 := { stood := { row := proofFoundRow, standIns := [], harness := (true, "274cf9b704760e7c466edb8e5305d7915954a61ea7a86ab678de0f8dfc06b984"), looks := false }, kinds := [], alts := [], laidByText := true, laidKinds := [.sentinel, .sentinel], laidTests := true, laidLooks := .later }
def ProofFoundCardSaid : Prop := Claim7.holds Tryd.pinned (.plain (OpenSpec.ofChange proofFoundSpec)) proofFoundCard

/-- THE SECOND FORM's CARD OF 'haversacklaw18.ProofFound'. -/
def proofFoundUptoCard : Claim7 := { stood := { row := proofFoundUptoRow, standIns := [], harness := (true, "274cf9b704760e7c466edb8e5305d7915954a61ea7a86ab678de0f8dfc06b984"), looks := false }, kinds := [], alts := [], laidByText := true, laidKinds := [.sentinel, .sentinel], laidTests := true, laidLooks := .later }
def ProofFoundUptoCardSaid : Prop := Claim7.holds Tryd.pinned (.plain (OpenSpec.upto proofFoundSpec)) proofFoundUptoCard
end Rows
end Go.Proofs.YtojjjndhabjhdaaDoor
