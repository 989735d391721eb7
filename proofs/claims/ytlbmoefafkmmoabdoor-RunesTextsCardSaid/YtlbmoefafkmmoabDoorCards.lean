/-
  DERIVED. GIVEN WITH THE SEED: THE CARDS: each row of YtlbmoefafkmmoabDoorRows.lean that lists a variable, with what it lists TIED to the program's text (the seventh form; the later family's looks); each row that meets fmt, with fmt's text TOLD by the authors' own Lean function (tested against real Go, not proved from fmt's source: count such statements apart). THE CARD IS WHAT COUNTS. Prove the row's statement (the work); the ties are given (YtlbmoefafkmmoabDoorTie.lean); close each card by the builder's one call (the guide's Derived/Test/ToyasCard.lean, 'card_holds'). Laid BY PROGRAM, IN A SANDBOX (cutbox-door.mjs). By AI agents, Wed Nov 11 2026. No macro, syntax, notation, axiom, sorry.
-/
import Derived.Test.YtlbmoefafkmmoabDoorRows
import GoSem.ClaimSeven
namespace Go.Proofs.YtlbmoefafkmmoabDoor
namespace Rows

/-- THE TIED CARD OF 'haversacklaw01.RunesTexts'. -/
def runesTextsCard : Claim7 := { stood := { row := runesTextsRow, standIns := [], harness := (true, "f83cad29ac828e21a4d4b724f0559763b016b9c21799945a45d63fa907fd7d2d"), looks := true }, kinds := [], alts := [], laidByText := true, laidKinds := [.data, .sentinel, .sentinel, .sentinel, .sentinel, .sentinel, .sentinel, .sentinel, .sentinel, .sentinel, .sentinel, .sentinel, .sentinel, .sentinel, .pinned], laidTests := true, laidLooks := .later }
def RunesTextsCardSaid : Prop := Claim7.holds Tryd.pinned (.plain (OpenSpec.ofChange runesTextsSpec)) runesTextsCard

/-- THE SECOND FORM's CARD OF 'haversacklaw01.RunesTexts'. -/
def runesTextsUptoCard : Claim7 := { stood := { row := runesTextsUptoRow, standIns := [], harness := (true, "f83cad29ac828e21a4d4b724f0559763b016b9c21799945a45d63fa907fd7d2d"), looks := true }, kinds := [], alts := [], laidByText := true, laidKinds := [.data, .sentinel, .sentinel, .sentinel, .sentinel, .sentinel, .sentinel, .sentinel, .sentinel, .sentinel, .sentinel, .sentinel, .sentinel, .sentinel, .pinned], laidTests := true, laidLooks := .later }
def RunesTextsUptoCardSaid : Prop := Claim7.holds Tryd.pinned (.plain (OpenSpec.upto runesTextsSpec)) runesTextsUptoCard
end Rows
end Go.Proofs.YtlbmoefafkmmoabDoor
