/-
  DERIVED. GIVEN WITH THE SEED: THE CARDS: each row of YtjkipgdjblbemaaDoorRows.lean that lists a variable, with what it lists TIED to the program's text (the seventh form; the later family's looks); each row that meets fmt, with fmt's text TOLD by the authors' own Lean function (tested against real Go, not proved from fmt's source: count such statements apart). THE CARD IS WHAT COUNTS. Prove the row's statement (the work); the ties are given (YtjkipgdjblbemaaDoorTie.lean); close each card by the builder's one call (the guide's Derived/Test/ToyasCard.lean, 'card_holds'). Laid BY PROGRAM, IN A SANDBOX (cutbox-door.mjs). By AI agents, Wed Nov 11 2026. No macro, syntax, notation, axiom, sorry.
-/
import Derived.Test.YtjkipgdjblbemaaDoorRows
import GoSem.ClaimSeven
namespace Go.Proofs.YtjkipgdjblbemaaDoor
namespace Rows

/-- THE TIED CARD OF 'haversacklaw02.IntsTakes'. -/
def intsTakesCard : Claim7 := { stood := { row := intsTakesRow, standIns := [], harness := (true, "ef7e9dd4066ea8a0ef69b13a9e46afa4785f2059edf6f79f92af2e6c54c4a1c1"), looks := true }, kinds := [], alts := [], laidByText := true, laidKinds := [.data, .data, .data, .sentinel, .sentinel, .sentinel, .sentinel, .sentinel, .sentinel, .sentinel, .sentinel, .sentinel, .sentinel, .sentinel, .sentinel, .sentinel, .sentinel, .sentinel], laidTests := true, laidLooks := .later }
def IntsTakesCardSaid : Prop := Claim7.holds Tryd.pinned (.plain (OpenSpec.ofChange intsTakesSpec)) intsTakesCard

/-- THE TIED CARD OF 'haversacklaw02.IntsBehind'. -/
def intsBehindCard : Claim7 := { stood := { row := intsBehindRow, standIns := [], harness := (true, "ef7e9dd4066ea8a0ef69b13a9e46afa4785f2059edf6f79f92af2e6c54c4a1c1"), looks := true }, kinds := [], alts := [], laidByText := true, laidKinds := [.data, .data, .data, .sentinel, .sentinel, .sentinel, .sentinel, .sentinel, .sentinel, .sentinel, .sentinel, .sentinel, .sentinel, .sentinel, .sentinel, .sentinel, .sentinel, .sentinel], laidTests := true, laidLooks := .later }
def IntsBehindCardSaid : Prop := Claim7.holds Tryd.pinned (.plain (OpenSpec.ofChange intsBehindSpec)) intsBehindCard

/-- THE TIED CARD OF 'haversacklaw02.IntsParses'. -/
def intsParsesCard : Claim7 := { stood := { row := intsParsesRow, standIns := [], harness := (true, "ef7e9dd4066ea8a0ef69b13a9e46afa4785f2059edf6f79f92af2e6c54c4a1c1"), looks := true }, kinds := [], alts := [], laidByText := true, laidKinds := [.data, .data, .data, .sentinel, .sentinel, .sentinel, .sentinel, .sentinel, .sentinel, .sentinel, .sentinel, .sentinel, .sentinel, .sentinel, .sentinel, .sentinel, .sentinel, .sentinel], laidTests := true, laidLooks := .later }
def IntsParsesCardSaid : Prop := Claim7.holds Tryd.pinned (.plain (OpenSpec.ofChange intsParsesSpec)) intsParsesCard

/-- THE TIED CARD OF 'haversacklaw02.IntsEach'. -/
def intsEachCard : Claim7 := { stood := { row := intsEachRow, standIns := [], harness := (true, "ef7e9dd4066ea8a0ef69b13a9e46afa4785f2059edf6f79f92af2e6c54c4a1c1"), looks := true }, kinds := [], alts := [], laidByText := true, laidKinds := [.data, .data, .data, .sentinel, .sentinel, .sentinel, .sentinel, .sentinel, .sentinel, .sentinel, .sentinel, .sentinel, .sentinel, .sentinel, .sentinel, .sentinel, .sentinel, .sentinel], laidTests := true, laidLooks := .later }
def IntsEachCardSaid : Prop := Claim7.holds Tryd.pinned (.plain (OpenSpec.ofChange intsEachSpec)) intsEachCard

/-- THE TIED CARD OF 'haversacklaw02.IntsTexts'. -/
def intsTextsCard : Claim7 := { stood := { row := intsTextsRow, standIns := [], harness := (true, "ef7e9dd4066ea8a0ef69b13a9e46afa4785f2059edf6f79f92af2e6c54c4a1c1"), looks := true }, kinds := [], alts := [], laidByText := true, laidKinds := [.data, .data, .data, .sentinel, .sentinel, .sentinel, .sentinel, .sentinel, .sentinel, .sentinel, .sentinel, .sentinel, .sentinel, .sentinel, .sentinel, .sentinel, .sentinel, .sentinel], laidTests := true, laidLooks := .later }
def IntsTextsCardSaid : Prop := Claim7.holds Tryd.pinned (.plain (OpenSpec.ofChange intsTextsSpec)) intsTextsCard

/-- THE TIED CARD OF 'haversacklaw02.IntsSmall'. -/
def intsSmallCard : Claim7 := { stood := { row := intsSmallRow, standIns := [], harness := (true, "ef7e9dd4066ea8a0ef69b13a9e46afa4785f2059edf6f79f92af2e6c54c4a1c1"), looks := true }, kinds := [], alts := [], laidByText := true, laidKinds := [.data, .data, .data, .sentinel, .sentinel, .sentinel, .sentinel, .sentinel, .sentinel, .sentinel, .sentinel, .sentinel, .sentinel, .sentinel, .sentinel, .sentinel, .sentinel, .sentinel], laidTests := true, laidLooks := .later }
def IntsSmallCardSaid : Prop := Claim7.holds Tryd.pinned (.plain (OpenSpec.ofChange intsSmallSpec)) intsSmallCard

/-- THE SECOND FORM's CARD OF 'haversacklaw02.IntsTakes'. -/
def intsTakesUptoCard : Claim7 := { stood := { row := intsTakesUptoRow, standIns := [], harness := (true, "ef7e9dd4066ea8a0ef69b13a9e46afa4785f2059edf6f79f92af2e6c54c4a1c1"), looks := true }, kinds := [], alts := [], laidByText := true, laidKinds := [.data, .data, .data, .sentinel, .sentinel, .sentinel, .sentinel, .sentinel, .sentinel, .sentinel, .sentinel, .sentinel, .sentinel, .sentinel, .sentinel, .sentinel, .sentinel, .sentinel], laidTests := true, laidLooks := .later }
def IntsTakesUptoCardSaid : Prop := Claim7.holds Tryd.pinned (.plain (OpenSpec.upto intsTakesSpec)) intsTakesUptoCard

/-- THE SECOND FORM's CARD OF 'haversacklaw02.IntsBehind'. -/
def intsBehindUptoCard : Claim7 := { stood := { row := intsBehindUptoRow, standIns := [], harness := (true, "ef7e9dd4066ea8a0ef69b13a9e46afa4785f2059edf6f79f92af2e6c54c4a1c1"), looks := true }, kinds := [], alts := [], laidByText := true, laidKinds := [.data, .data, .data, .sentinel, .sentinel, .sentinel, .sentinel, .sentinel, .sentinel, .sentinel, .sentinel, .sentinel, .sentinel, .sentinel, .sentinel, .sentinel, .sentinel, .sentinel], laidTests := true, laidLooks := .later }
def IntsBehindUptoCardSaid : Prop := Claim7.holds Tryd.pinned (.plain (OpenSpec.upto intsBehindSpec)) intsBehindUptoCard

/-- THE SECOND FORM's CARD OF 'haversacklaw02.IntsParses'. -/
def intsParsesUptoCard : Claim7 := { stood := { row := intsParsesUptoRow, standIns := [], harness := (true, "ef7e9dd4066ea8a0ef69b13a9e46afa4785f2059edf6f79f92af2e6c54c4a1c1"), looks := true }, kinds := [], alts := [], laidByText := true, laidKinds := [.data, .data, .data, .sentinel, .sentinel, .sentinel, .sentinel, .sentinel, .sentinel, .sentinel, .sentinel, .sentinel, .sentinel, .sentinel, .sentinel, .sentinel, .sentinel, .sentinel], laidTests := true, laidLooks := .later }
def IntsParsesUptoCardSaid : Prop := Claim7.holds Tryd.pinned (.plain (OpenSpec.upto intsParsesSpec)) intsParsesUptoCard

/-- THE SECOND FORM's CARD OF 'haversacklaw02.IntsEach'. -/
def intsEachUptoCard : Claim7 := { stood := { row := intsEachUptoRow, standIns := [], harness := (true, "ef7e9dd4066ea8a0ef69b13a9e46afa4785f2059edf6f79f92af2e6c54c4a1c1"), looks := true }, kinds := [], alts := [], laidByText := true, laidKinds := [.data, .data, .data, .sentinel, .sentinel, .sentinel, .sentinel, .sentinel, .sentinel, .sentinel, .sentinel, .sentinel, .sentinel, .sentinel, .sentinel, .sentinel, .sentinel, .sentinel], laidTests := true, laidLooks := .later }
def IntsEachUptoCardSaid : Prop := Claim7.holds Tryd.pinned (.plain (OpenSpec.upto intsEachSpec)) intsEachUptoCard

/-- THE SECOND FORM's CARD OF 'haversacklaw02.IntsTexts'. -/
def intsTextsUptoCard : Claim7 := { stood := { row := intsTextsUptoRow, standIns := [], harness := (true, "ef7e9dd4066ea8a0ef69b13a9e46afa4785f2059edf6f79f92af2e6c54c4a1c1"), looks := true }, kinds := [], alts := [], laidByText := true, laidKinds := [.data, .data, .data, .sentinel, .sentinel, .sentinel, .sentinel, .sentinel, .sentinel, .sentinel, .sentinel, .sentinel, .sentinel, .sentinel, .sentinel, .sentinel, .sentinel, .sentinel], laidTests := true, laidLooks := .later }
def IntsTextsUptoCardSaid : Prop := Claim7.holds Tryd.pinned (.plain (OpenSpec.upto intsTextsSpec)) intsTextsUptoCard

/-- THE SECOND FORM's CARD OF 'haversacklaw02.IntsSmall'. -/
def intsSmallUptoCard : Claim7 := { stood := { row := intsSmallUptoRow, standIns := [], harness := (true, "ef7e9dd4066ea8a0ef69b13a9e46afa4785f2059edf6f79f92af2e6c54c4a1c1"), looks := true }, kinds := [], alts := [], laidByText := true, laidKinds := [.data, .data, .data, .sentinel, .sentinel, .sentinel, .sentinel, .sentinel, .sentinel, .sentinel, .sentinel, .sentinel, .sentinel, .sentinel, .sentinel, .sentinel, .sentinel, .sentinel], laidTests := true, laidLooks := .later }
def IntsSmallUptoCardSaid : Prop := Claim7.holds Tryd.pinned (.plain (OpenSpec.upto intsSmallSpec)) intsSmallUptoCard
end Rows
end Go.Proofs.YtjkipgdjblbemaaDoor
