/-
  DERIVED. GIVEN WITH THE SEED: THE CARDS: each row of YtlmfcacmfaihgaaDoorRows.lean that lists a variable, with what it lists TIED to the program's text (the seventh form; the later family's looks); each row that meets fmt, with fmt's text TOLD by the authors' own Lean function (tested against real Go, not proved from fmt's source: count such statements apart). THE CARD IS WHAT COUNTS. Prove the row's statement (the work); the ties are given (YtlmfcacmfaihgaaDoorTie.lean); close each card by the builder's one call (the guide's Derived/Test/ToyasCard.lean, 'card_holds'). Laid BY PROGRAM, IN A SANDBOX (cutbox-door.mjs). By AI agents, Wed Nov 11 2026. No macro, syntax, notation, axiom, sorry.
-/
import Derived.Test.YtlmfcacmfaihgaaDoorRows
import GoSem.ClaimSeven
namespace Go.Proofs.YtlmfcacmfaihgaaDoor
namespace Rows

/-- THE TIED CARD OF 'haversacklaw06.GlobFilled'. -/
def globFilledCard : Claim7 := { stood := { row := globFilledRow, standIns := [], harness := (true, "0792130461cb029f0a0f192bf78bd396f6b848f6ed5d28ca96cd5862faa6c1a4"), looks := false }, kinds := [], alts := [], laidByText := true, laidKinds := [.data, .pinned], laidTests := true, laidLooks := .later }
def GlobFilledCardSaid : Prop := Claim7.holds Tryd.pinned (.plain (OpenSpec.ofChange globFilledSpec)) globFilledCard

/-- THE TIED CARD OF 'haversacklaw06.GlobParts'. -/
def globPartsCard : Claim7 := { stood := { row := globPartsRow, standIns := [], harness := (true, "0792130461cb029f0a0f192bf78bd396f6b848f6ed5d28ca96cd5862faa6c1a4"), looks := false }, kinds := [], alts := [], laidByText := true, laidKinds := [.data, .pinned], laidTests := true, laidLooks := .later }
def GlobPartsCardSaid : Prop := Claim7.holds Tryd.pinned (.plain (OpenSpec.ofChange globPartsSpec)) globPartsCard

/-- THE SECOND FORM's CARD OF 'haversacklaw06.GlobFilled'. -/
def globFilledUptoCard : Claim7 := { stood := { row := globFilledUptoRow, standIns := [], harness := (true, "0792130461cb029f0a0f192bf78bd396f6b848f6ed5d28ca96cd5862faa6c1a4"), looks := false }, kinds := [], alts := [], laidByText := true, laidKinds := [.data, .pinned], laidTests := true, laidLooks := .later }
def GlobFilledUptoCardSaid : Prop := Claim7.holds Tryd.pinned (.plain (OpenSpec.upto globFilledSpec)) globFilledUptoCard

/-- THE SECOND FORM's CARD OF 'haversacklaw06.GlobParts'. -/
def globPartsUptoCard : Claim7 := { stood := { row := globPartsUptoRow, standIns := [], harness := (true, "0792130461cb029f0a0f192bf78bd396f6b848f6ed5d28ca96cd5862faa6c1a4"), looks := false }, kinds := [], alts := [], laidByText := true, laidKinds := [.data, .pinned], laidTests := true, laidLooks := .later }
def GlobPartsUptoCardSaid : Prop := Claim7.holds Tryd.pinned (.plain (OpenSpec.upto globPartsSpec)) globPartsUptoCard
end Rows
end Go.Proofs.YtlmfcacmfaihgaaDoor
