/-
  DERIVED. GIVEN WITH THE SEED: THE CARDS: each row of YtjeckkkmoabjnaaDoorRows.lean that lists a variable, with what it lists TIED to the program's text (the seventh form; the later family's looks); each row that meets fmt, with fmt's text TOLD by the authors' own Lean function (tested against real Go, not proved from fmt's source: count such statements apart). THE CARD IS WHAT COUNTS. Prove the row's statement (the work); the ties are given (YtjeckkkmoabjnaaDoorTie.lean); close each card by the builder's one call (the guide's Derived/Test/ToyasCard.lean, 'card_holds'). Laid BY PROGRAM, IN A SANDBOX (cutbox-door.mjs). By AI agents, Wed Nov 11 2026. No macro, syntax, notation, axiom, sorry.
-/
import Derived.Test.YtjeckkkmoabjnaaDoorRows
import GoSem.ClaimSeven
namespace Go.Proofs.YtjeckkkmoabjnaaDoor
namespace Rows

/-- THE TIED CARD OF 'haversacklaw17.SatSolves'. -/
def satSolvesCard : Claim7 := { stood := { row := satSolvesRow, standIns := [], harness := (true, "bb27ce6e1d2149832d94a34db2eb1e9a929d8f425daa42290dcf04ed7cfa3c27"), looks := true }, kinds := [], alts := [], laidByText := true, laidKinds := [.sentinel, .sentinel], laidTests := true, laidLooks := .later }
def SatSolvesCardSaid : Prop := Claim7.holds Tryd.pinned (.plain (OpenSpec.ofChange satSolvesSpec)) satSolvesCard

/-- THE TIED CARD OF 'haversacklaw17.SatPigeons'. -/
def satPigeonsCard : Claim7 := { stood := { row := satPigeonsRow, standIns := [], harness := (true, "bb27ce6e1d2149832d94a34db2eb1e9a929d8f425daa42290dcf04ed7cfa3c27"), looks := true }, kinds := [], alts := [], laidByText := true, laidKinds := [.sentinel, .sentinel], laidTests := true, laidLooks := .later }
def SatPigeonsCardSaid : Prop := Claim7.holds Tryd.pinned (.plain (OpenSpec.ofChange satPigeonsSpec)) satPigeonsCard

/-- THE TIED CARD OF 'haversacklaw17.SatOptions'. -/
def satOptionsCard : Claim7 := { stood := { row := satOptionsRow, standIns := [], harness := (true, "bb27ce6e1d2149832d94a34db2eb1e9a929d8f425daa42290dcf04ed7cfa3c27"), looks := true }, kinds := [], alts := [], laidByText := true, laidKinds := [.sentinel, .sentinel], laidTests := true, laidLooks := .later }
def SatOptionsCardSaid : Prop := Claim7.holds Tryd.pinned (.plain (OpenSpec.ofChange satOptionsSpec)) satOptionsCard

/-- THE TIED CARD OF 'haversacklaw17.SatRefuses'. -/
def satRefusesCard : Claim7 := { stood := { row := satRefusesRow, standIns := [], harness := (true, "bb27ce6e1d2149832d94a34db2eb1e9a929d8f425daa42290dcf04ed7cfa3c27"), looks := true }, kinds := [], alts := [], laidByText := true, laidKinds := [.sentinel, .sentinel, .sentinel, .sentinel, .sentinel, .sentinel, .sentinel, .sentinel, .sentinel, .sentinel, .sentinel, .sentinel, .sentinel], laidTests := true, laidLooks := .later }
def SatRefusesCardSaid : Prop := Claim7.holds Tryd.pinned (.plain (OpenSpec.ofChange satRefusesSpec)) satRefusesCard

/-- THE SECOND FORM's CARD OF 'haversacklaw17.SatSolves'. -/
def satSolvesUptoCard : Claim7 := { stood := { row := satSolvesUptoRow, standIns := [], harness := (true, "bb27ce6e1d2149832d94a34db2eb1e9a929d8f425daa42290dcf04ed7cfa3c27"), looks := true }, kinds := [], alts := [], laidByText := true, laidKinds := [.sentinel, .sentinel], laidTests := true, laidLooks := .later }
def SatSolvesUptoCardSaid : Prop := Claim7.holds Tryd.pinned (.plain (OpenSpec.upto satSolvesSpec)) satSolvesUptoCard

/-- THE SECOND FORM's CARD OF 'haversacklaw17.SatPigeons'. -/
def satPigeonsUptoCard : Claim7 := { stood := { row := satPigeonsUptoRow, standIns := [], harness := (true, "bb27ce6e1d2149832d94a34db2eb1e9a929d8f425daa42290dcf04ed7cfa3c27"), looks := true }, kinds := [], alts := [], laidByText := true, laidKinds := [.sentinel, .sentinel], laidTests := true, laidLooks := .later }
def SatPigeonsUptoCardSaid : Prop := Claim7.holds Tryd.pinned (.plain (OpenSpec.upto satPigeonsSpec)) satPigeonsUptoCard

/-- THE SECOND FORM's CARD OF 'haversacklaw17.SatOptions'. -/
def satOptionsUptoCard : Claim7 := { stood := { row := satOptionsUptoRow, standIns := [], harness := (true, "bb27ce6e1d2149832d94a34db2eb1e9a929d8f425daa42290dcf04ed7cfa3c27"), looks := true }, kinds := [], alts := [], laidByText := true, laidKinds := [.sentinel, .sentinel], laidTests := true, laidLooks := .later }
def SatOptionsUptoCardSaid : Prop := Claim7.holds Tryd.pinned (.plain (OpenSpec.upto satOptionsSpec)) satOptionsUptoCard

/-- THE SECOND FORM's CARD OF 'haversacklaw17.SatRefuses'. -/
def satRefusesUptoCard : Claim7 := { stood := { row := satRefusesUptoRow, standIns := [], harness := (true, "bb27ce6e1d2149832d94a34db2eb1e9a929d8f425daa42290dcf04ed7cfa3c27"), looks := true }, kinds := [], alts := [], laidByText := true, laidKinds := [.sentinel, .sentinel, .sentinel, .sentinel, .sentinel, .sentinel, .sentinel, .sentinel, .sentinel, .sentinel, .sentinel, .sentinel, .sentinel], laidTests := true, laidLooks := .later }
def SatRefusesUptoCardSaid : Prop := Claim7.holds Tryd.pinned (.plain (OpenSpec.upto satRefusesSpec)) satRefusesUptoCard
end Rows
end Go.Proofs.YtjeckkkmoabjnaaDoor
