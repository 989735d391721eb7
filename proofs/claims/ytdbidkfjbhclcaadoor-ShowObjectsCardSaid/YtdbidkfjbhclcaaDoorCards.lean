/-
  DERIVED. GIVEN WITH THE SEED: THE CARDS: each row of YtdbidkfjbhclcaaDoorRows.lean that lists a variable, with what it lists TIED to the program's text (the seventh form; the later family's looks); each row that meets fmt, with fmt's text TOLD by the authors' own Lean function (tested against real Go, not proved from fmt's source: count such statements apart). THE CARD IS WHAT COUNTS. Prove the row's statement (the work); the ties are given (YtdbidkfjbhclcaaDoorTie.lean); close each card by the builder's one call (the guide's Derived/Test/ToyasCard.lean, 'card_holds'). Laid BY PROGRAM, IN A SANDBOX (cutbox-door.mjs). By AI agents, Wed Nov 11 2026. No macro, syntax, notation, axiom, sorry.
-/
import Derived.Test.YtdbidkfjbhclcaaDoorRows
import GoSem.ClaimSeven
namespace Go.Proofs.YtdbidkfjbhclcaaDoor
namespace Rows

/-- THE TIED CARD OF 'haversacklaw05.ShowParts'. -/
def showPartsCard : Claim7 := { stood := { row := showPartsRow, standIns := [], harness := (true, "3217cde07e348039ceafc87dc7a1e62261a8afdc2438a89e59e3d09f6071a5e3"), looks := true }, kinds := [], alts := [], laidByText := true, laidKinds := [.data, .data, .data, .data, .sentinel, .sentinel, .data, .data, .pinned], laidTests := true, laidLooks := .later }
def ShowPartsCardSaid : Prop := Claim7.holds Tryd.pinned (.plain (OpenSpec.ofChange showPartsSpec)) showPartsCard

/-- THE TIED CARD OF 'haversacklaw05.ShowObjects'. -/
def showObjectsCard : Claim7 := { stood := { row := showObjectsRow, standIns := [], harness := (true, "3217cde07e348039ceafc87dc7a1e62261a8afdc2438a89e59e3d09f6071a5e3"), looks := true }, kinds := [], alts := [], laidByText := true, laidKinds := [.data, .data, .data, .data, .sentinel, .sentinel, .sentinel, .sentinel, .sentinel, .sentinel, .sentinel, .sentinel, .sentinel, .sentinel, .sentinel, .sentinel, .sentinel, .data, .data, .pinned], laidTests := true, laidLooks := .later }
def ShowObjectsCardSaid : Prop := Claim7.holds Tryd.pinned (.plain (OpenSpec.ofChange showObjectsSpec)) showObjectsCard

/-- THE TIED CARD OF 'haversacklaw05.ShowAgain'. -/
def showAgainCard : Claim7 := { stood := { row := showAgainRow, standIns := [], harness := (true, "3217cde07e348039ceafc87dc7a1e62261a8afdc2438a89e59e3d09f6071a5e3"), looks := true }, kinds := [], alts := [], laidByText := true, laidKinds := [.data, .data, .data, .data, .sentinel, .sentinel, .sentinel, .sentinel, .sentinel, .sentinel, .sentinel, .sentinel, .data, .data, .pinned], laidTests := true, laidLooks := .later }
def ShowAgainCardSaid : Prop := Claim7.holds Tryd.pinned (.plain (OpenSpec.ofChange showAgainSpec)) showAgainCard

/-- THE SECOND FORM's CARD OF 'haversacklaw05.ShowParts'. -/
def showPartsUptoCard : Claim7 := { stood := { row := showPartsUptoRow, standIns := [], harness := (true, "3217cde07e348039ceafc87dc7a1e62261a8afdc2438a89e59e3d09f6071a5e3"), looks := true }, kinds := [], alts := [], laidByText := true, laidKinds := [.data, .data, .data, .data, .sentinel, .sentinel, .data, .data, .pinned], laidTests := true, laidLooks := .later }
def ShowPartsUptoCardSaid : Prop := Claim7.holds Tryd.pinned (.plain (OpenSpec.upto showPartsSpec)) showPartsUptoCard

/-- THE SECOND FORM's CARD OF 'haversacklaw05.ShowObjects'. -/
def showObjectsUptoCard : Claim7 := { stood := { row := showObjectsUptoRow, standIns := [], harness := (true, "3217cde07e348039ceafc87dc7a1e62261a8afdc2438a89e59e3d09f6071a5e3"), looks := true }, kinds := [], alts := [], laidByText := true, laidKinds := [.data, .data, .data, .data, .sentinel, .sentinel, .sentinel, .sentinel, .sentinel, .sentinel, .sentinel, .sentinel, .sentinel, .sentinel, .sentinel, .sentinel, .sentinel, .data, .data, .pinned], laidTests := true, laidLooks := .later }
def ShowObjectsUptoCardSaid : Prop := Claim7.holds Tryd.pinned (.plain (OpenSpec.upto showObjectsSpec)) showObjectsUptoCard

/-- THE SECOND FORM's CARD OF 'haversacklaw05.ShowAgain'. -/
def showAgainUptoCard : Claim7 := { stood := { row := showAgainUptoRow, standIns := [], harness := (true, "3217cde07e348039ceafc87dc7a1e62261a8afdc2438a89e59e3d09f6071a5e3"), looks := true }, kinds := [], alts := [], laidByText := true, laidKinds := [.data, .data, .data, .data, .sentinel, .sentinel, .sentinel, .sentinel, .sentinel, .sentinel, .sentinel, .sentinel, .data, .data, .pinned], laidTests := true, laidLooks := .later }
def ShowAgainUptoCardSaid : Prop := Claim7.holds Tryd.pinned (.plain (OpenSpec.upto showAgainSpec)) showAgainUptoCard
end Rows
end Go.Proofs.YtdbidkfjbhclcaaDoor
