/-
  DERIVED. GIVEN WITH THE SEED: THE CARDS: each row of YtlbmoefafkmmoaaDoorRows.lean that lists a variable, with what it lists TIED to the program's text (the seventh form; the later family's looks); each row that meets fmt, with fmt's text TOLD by the authors' own Lean function (tested against real Go, not proved from fmt's source: count such statements apart). THE CARD IS WHAT COUNTS. Prove the row's statement (the work); the ties are given (YtlbmoefafkmmoaaDoorTie.lean); close each card by the builder's one call (the guide's Derived/Test/ToyasCard.lean, 'card_holds'). Laid BY PROGRAM, IN A SANDBOX (cutbox-door.mjs). By AI agents, Wed Nov 11 2026. No macro, syntax, notation, axiom, sorry.
-/
import Derived.Test.YtlbmoefafkmmoaaDoorRows
import GoSem.ClaimSeven
namespace Go.Proofs.YtlbmoefafkmmoaaDoor
namespace Rows

/-- THE TIED CARD OF 'haversacklaw01.RunesDecode'. -/
def runesDecodeCard : Claim7 := { stood := { row := runesDecodeRow, standIns := [], harness := (true, "d9eff9b42811d7c09275672cadd5b0c029981e00446ec4305b7e0322db5e674b"), looks := false }, kinds := [], alts := [], laidByText := true, laidKinds := [.data, .pinned], laidTests := true, laidLooks := .later }
def RunesDecodeCardSaid : Prop := Claim7.holds Tryd.pinned (.plain (OpenSpec.ofChange runesDecodeSpec)) runesDecodeCard

/-- THE TIED CARD OF 'haversacklaw01.RunesEncode'. -/
def runesEncodeCard : Claim7 := { stood := { row := runesEncodeRow, standIns := [], harness := (true, "d9eff9b42811d7c09275672cadd5b0c029981e00446ec4305b7e0322db5e674b"), looks := false }, kinds := [], alts := [], laidByText := true, laidKinds := [.data, .pinned], laidTests := true, laidLooks := .later }
def RunesEncodeCardSaid : Prop := Claim7.holds Tryd.pinned (.plain (OpenSpec.ofChange runesEncodeSpec)) runesEncodeCard

/-- THE TIED CARD OF 'haversacklaw01.RunesPoints'. -/
def runesPointsCard : Claim7 := { stood := { row := runesPointsRow, standIns := [], harness := (true, "d9eff9b42811d7c09275672cadd5b0c029981e00446ec4305b7e0322db5e674b"), looks := false }, kinds := [], alts := [], laidByText := true, laidKinds := [.data, .pinned], laidTests := true, laidLooks := .later }
def RunesPointsCardSaid : Prop := Claim7.holds Tryd.pinned (.plain (OpenSpec.ofChange runesPointsSpec)) runesPointsCard

/-- THE SECOND FORM's CARD OF 'haversacklaw01.RunesDecode'. -/
def runesDecodeUptoCard : Claim7 := { stood := { row := runesDecodeUptoRow, standIns := [], harness := (true, "d9eff9b42811d7c09275672cadd5b0c029981e00446ec4305b7e0322db5e674b"), looks := false }, kinds := [], alts := [], laidByText := true, laidKinds := [.data, .pinned], laidTests := true, laidLooks := .later }
def RunesDecodeUptoCardSaid : Prop := Claim7.holds Tryd.pinned (.plain (OpenSpec.upto runesDecodeSpec)) runesDecodeUptoCard

/-- THE SECOND FORM's CARD OF 'haversacklaw01.RunesEncode'. -/
def runesEncodeUptoCard : Claim7 := { stood := { row := runesEncodeUptoRow, standIns := [], harness := (true, "d9eff9b42811d7c09275672cadd5b0c029981e00446ec4305b7e0322db5e674b"), looks := false }, kinds := [], alts := [], laidByText := true, laidKinds := [.data, .pinned], laidTests := true, laidLooks := .later }
def RunesEncodeUptoCardSaid : Prop := Claim7.holds Tryd.pinned (.plain (OpenSpec.upto runesEncodeSpec)) runesEncodeUptoCard

/-- THE SECOND FORM's CARD OF 'haversacklaw01.RunesPoints'. -/
def runesPointsUptoCard : Claim7 := { stood := { row := runesPointsUptoRow, standIns := [], harness := (true, "d9eff9b42811d7c09275672cadd5b0c029981e00446ec4305b7e0322db5e674b"), looks := false }, kinds := [], alts := [], laidByText := true, laidKinds := [.data, .pinned], laidTests := true, laidLooks := .later }
def RunesPointsUptoCardSaid : Prop := Claim7.holds Tryd.pinned (.plain (OpenSpec.upto runesPointsSpec)) runesPointsUptoCard
end Rows
end Go.Proofs.YtlbmoefafkmmoaaDoor
