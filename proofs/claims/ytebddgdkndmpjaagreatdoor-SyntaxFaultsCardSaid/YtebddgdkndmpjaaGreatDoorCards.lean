/-
  DERIVED. GIVEN WITH THE SEED: THE CARDS: each row of YtebddgdkndmpjaaGreatDoorRows.lean that lists a variable, with what it lists TIED to the program's text (the seventh form; the later family's looks); each row that meets fmt, with fmt's text TOLD by the authors' own Lean function (tested against real Go, not proved from fmt's source: count such statements apart). THE CARD IS WHAT COUNTS. Prove the row's statement (the work); the ties are given (YtebddgdkndmpjaaGreatDoorTie.lean); close each card by the builder's one call (the guide's Derived/Test/ToyasCard.lean, 'card_holds'). Laid BY PROGRAM, IN A SANDBOX (cutbox-door.mjs). By AI agents, Wed Nov 11 2026. No macro, syntax, notation, axiom, sorry.
-/
import Derived.Test.YtebddgdkndmpjaaGreatDoorRows
import GoSem.ClaimSeven
namespace Go.Proofs.YtebddgdkndmpjaaGreatDoor
namespace Rows

/-- THE TIED CARD OF 'becklaw12.SyntaxNests'. -/
def syntaxNestsCard : Claim7 := { stood := { row := syntaxNestsRow, standIns := [], harness := (true, "69a9c28ec263ecca34beedccf7099dd25044dd49ddcaf31801f7285b88142850"), looks := true }, kinds := [], alts := [], laidByText := true, laidKinds := [.data, .data, .data, .sentinel, .sentinel, .widerDeep, .data], laidTests := true, laidLooks := .later }
def SyntaxNestsCardSaid : Prop := Claim7.holds Tryz.pinned (.plain (OpenSpec.ofChange syntaxNestsSpec)) syntaxNestsCard

/-- THE TIED CARD OF 'becklaw12.SyntaxFaults'. -/
def syntaxFaultsCard : Claim7 := { stood := { row := syntaxFaultsRow, standIns := [], harness := (true, "69a9c28ec263ecca34beedccf7099dd25044dd49ddcaf31801f7285b88142850"), looks := true }, kinds := [], alts := [], laidByText := true, laidKinds := [.data, .data, .data, .sentinel, .sentinel, .widerDeep, .data], laidTests := true, laidLooks := .later }
def SyntaxFaultsCardSaid : Prop := Claim7.holds Tryz.pinned (.plain (OpenSpec.ofChange syntaxFaultsSpec)) syntaxFaultsCard

/-- THE TIED CARD OF 'becklaw17.TotalDistincts'. -/
def totalDistinctsCard : Claim7 := { stood := { row := totalDistinctsRow, standIns := [], harness := (true, "69a9c28ec263ecca34beedccf7099dd25044dd49ddcaf31801f7285b88142850"), looks := true }, kinds := [], alts := [], laidByText := true, laidKinds := [.data, .data, .data, .sentinel, .sentinel, .widerDeep, .data], laidTests := true, laidLooks := .later }
def TotalDistinctsCardSaid : Prop := Claim7.holds Tryz.pinned (.plain (OpenSpec.ofChange totalDistinctsSpec)) totalDistinctsCard

/-- THE TIED CARD OF 'becklaw17.TotalFulls'. -/
def totalFullsCard : Claim7 := { stood := { row := totalFullsRow, standIns := [], harness := (true, "69a9c28ec263ecca34beedccf7099dd25044dd49ddcaf31801f7285b88142850"), looks := true }, kinds := [], alts := [], laidByText := true, laidKinds := [.data, .data, .data, .sentinel, .sentinel, .widerDeep, .data], laidTests := true, laidLooks := .later }
def TotalFullsCardSaid : Prop := Claim7.holds Tryz.pinned (.plain (OpenSpec.ofChange totalFullsSpec)) totalFullsCard

/-- THE TIED CARD OF 'becklaw16.AlgebraFulls'. -/
def algebraFullsCard : Claim7 := { stood := { row := algebraFullsRow, standIns := [], harness := (true, "69a9c28ec263ecca34beedccf7099dd25044dd49ddcaf31801f7285b88142850"), looks := true }, kinds := [], alts := [], laidByText := true, laidKinds := [.data, .data, .data, .sentinel, .sentinel, .data, .data], laidTests := true, laidLooks := .later }
def AlgebraFullsCardSaid : Prop := Claim7.holds Tryz.pinned (.plain (OpenSpec.ofChange algebraFullsSpec)) algebraFullsCard

/-- THE TIED CARD OF 'becklaw16.AlgebraEnvs'. -/
def algebraEnvsCard : Claim7 := { stood := { row := algebraEnvsRow, standIns := [], harness := (true, "69a9c28ec263ecca34beedccf7099dd25044dd49ddcaf31801f7285b88142850"), looks := true }, kinds := [], alts := [], laidByText := true, laidKinds := [.data, .data, .data, .sentinel, .sentinel, .data, .data], laidTests := true, laidLooks := .later }
def AlgebraEnvsCardSaid : Prop := Claim7.holds Tryz.pinned (.plain (OpenSpec.ofChange algebraEnvsSpec)) algebraEnvsCard

/-- THE SECOND FORM's CARD OF 'becklaw12.SyntaxNests'. -/
def syntaxNestsUptoCard : Claim7 := { stood := { row := syntaxNestsUptoRow, standIns := [], harness := (true, "69a9c28ec263ecca34beedccf7099dd25044dd49ddcaf31801f7285b88142850"), looks := true }, kinds := [], alts := [], laidByText := true, laidKinds := [.data, .data, .data, .sentinel, .sentinel, .widerDeep, .data], laidTests := true, laidLooks := .later }
def SyntaxNestsUptoCardSaid : Prop := Claim7.holds Tryz.pinned (.plain (OpenSpec.upto syntaxNestsSpec)) syntaxNestsUptoCard

/-- THE SECOND FORM's CARD OF 'becklaw12.SyntaxFaults'. -/
def syntaxFaultsUptoCard : Claim7 := { stood := { row := syntaxFaultsUptoRow, standIns := [], harness := (true, "69a9c28ec263ecca34beedccf7099dd25044dd49ddcaf31801f7285b88142850"), looks := true }, kinds := [], alts := [], laidByText := true, laidKinds := [.data, .data, .data, .sentinel, .sentinel, .widerDeep, .data], laidTests := true, laidLooks := .later }
def SyntaxFaultsUptoCardSaid : Prop := Claim7.holds Tryz.pinned (.plain (OpenSpec.upto syntaxFaultsSpec)) syntaxFaultsUptoCard

/-- THE SECOND FORM's CARD OF 'becklaw17.TotalDistincts'. -/
def totalDistinctsUptoCard : Claim7 := { stood := { row := totalDistinctsUptoRow, standIns := [], harness := (true, "69a9c28ec263ecca34beedccf7099dd25044dd49ddcaf31801f7285b88142850"), looks := true }, kinds := [], alts := [], laidByText := true, laidKinds := [.data, .data, .data, .sentinel, .sentinel, .widerDeep, .data], laidTests := true, laidLooks := .later }
def TotalDistinctsUptoCardSaid : Prop := Claim7.holds Tryz.pinned (.plain (OpenSpec.upto totalDistinctsSpec)) totalDistinctsUptoCard

/-- THE SECOND FORM's CARD OF 'becklaw17.TotalFulls'. -/
def totalFullsUptoCard : Claim7 := { stood := { row := totalFullsUptoRow, standIns := [], harness := (true, "69a9c28ec263ecca34beedccf7099dd25044dd49ddcaf31801f7285b88142850"), looks := true }, kinds := [], alts := [], laidByText := true, laidKinds := [.data, .data, .data, .sentinel, .sentinel, .widerDeep, .data], laidTests := true, laidLooks := .later }
def TotalFullsUptoCardSaid : Prop := Claim7.holds Tryz.pinned (.plain (OpenSpec.upto totalFullsSpec)) totalFullsUptoCard

/-- THE SECOND FORM's CARD OF 'becklaw16.AlgebraFulls'. -/
def algebraFullsUptoCard : Claim7 := { stood := { row := algebraFullsUptoRow, standIns := [], harness := (true, "69a9c28ec263ecca34beedccf7099dd25044dd49ddcaf31801f7285b88142850"), looks := true }, kinds := [], alts := [], laidByText := true, laidKinds := [.data, .data, .data, .sentinel, .sentinel, .data, .data], laidTests := true, laidLooks := .later }
def AlgebraFullsUptoCardSaid : Prop := Claim7.holds Tryz.pinned (.plain (OpenSpec.upto algebraFullsSpec)) algebraFullsUptoCard

/-- THE SECOND FORM's CARD OF 'becklaw16.AlgebraEnvs'. -/
def algebraEnvsUptoCard : Claim7 := { stood := { row := algebraEnvsUptoRow, standIns := [], harness := (true, "69a9c28ec263ecca34beedccf7099dd25044dd49ddcaf31801f7285b88142850"), looks := true }, kinds := [], alts := [], laidByText := true, laidKinds := [.data, .data, .data, .sentinel, .sentinel, .data, .data], laidTests := true, laidLooks := .later }
def AlgebraEnvsUptoCardSaid : Prop := Claim7.holds Tryz.pinned (.plain (OpenSpec.upto algebraEnvsSpec)) algebraEnvsUptoCard
end Rows
end Go.Proofs.YtebddgdkndmpjaaGreatDoor
