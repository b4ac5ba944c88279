/-
  DERIVED. GIVEN WITH THE SEED: THE CARDS: each row of YtagchljgmjmlcaaGreatDoorRows.lean that lists a variable, with what it lists TIED to the program's text (the seventh form; the later family's looks); each row that meets fmt, with fmt's text TOLD by the authors' own Lean function (tested against real Go, not proved from fmt's source: count such statements apart). THE CARD IS WHAT COUNTS. Prove the row's statement (the work); the ties are given (YtagchljgmjmlcaaGreatDoorTie.lean); close each card by the builder's one call (the guide's Derived/Test/ToyasCard.lean, 'card_holds'). Laid BY PROGRAM, IN A SANDBOX (cutbox-door.mjs). By AI agents, Wed Nov 11 2026. No macro, syntax, notation, axiom, sorry.
-/
import Derived.Test.YtagchljgmjmlcaaGreatDoorRows
import GoSem.ClaimSeven
namespace Go.Proofs.YtagchljgmjmlcaaGreatDoor
namespace Rows

/-- THE TIED CARD OF 'becklaw12.SyntaxPaths'. -/
def syntaxPathsCard : Claim7 := { stood := { row := syntaxPathsRow, standIns := [], harness := (true, "f63fd25edc4ce93c0616734e8760294fa911ebcc533b6378f777e3e4c295fc63"), looks := true }, kinds := [], alts := [], laidByText := true, laidKinds := [.data, .data, .data, .sentinel, .sentinel, .widerDeep, .data], laidTests := true, laidLooks := .later }
def SyntaxPathsCardSaid : Prop := Claim7.holds Tryz.pinned (.plain (OpenSpec.ofChange syntaxPathsSpec)) syntaxPathsCard

/-- THE TIED CARD OF 'becklaw13.CheckPaths'. -/
def checkPathsCard : Claim7 := { stood := { row := checkPathsRow, standIns := [], harness := (true, "f63fd25edc4ce93c0616734e8760294fa911ebcc533b6378f777e3e4c295fc63"), looks := true }, kinds := [], alts := [], laidByText := true, laidKinds := [.data, .data, .data, .sentinel, .sentinel, .widerDeep, .data], laidTests := true, laidLooks := .later }
def CheckPathsCardSaid : Prop := Claim7.holds Tryz.pinned (.plain (OpenSpec.ofChange checkPathsSpec)) checkPathsCard

/-- THE SECOND FORM's CARD OF 'becklaw12.SyntaxPaths'. -/
def syntaxPathsUptoCard : Claim7 := { stood := { row := syntaxPathsUptoRow, standIns := [], harness := (true, "f63fd25edc4ce93c0616734e8760294fa911ebcc533b6378f777e3e4c295fc63"), looks := true }, kinds := [], alts := [], laidByText := true, laidKinds := [.data, .data, .data, .sentinel, .sentinel, .widerDeep, .data], laidTests := true, laidLooks := .later }
def SyntaxPathsUptoCardSaid : Prop := Claim7.holds Tryz.pinned (.plain (OpenSpec.upto syntaxPathsSpec)) syntaxPathsUptoCard

/-- THE SECOND FORM's CARD OF 'becklaw13.CheckPaths'. -/
def checkPathsUptoCard : Claim7 := { stood := { row := checkPathsUptoRow, standIns := [], harness := (true, "f63fd25edc4ce93c0616734e8760294fa911ebcc533b6378f777e3e4c295fc63"), looks := true }, kinds := [], alts := [], laidByText := true, laidKinds := [.data, .data, .data, .sentinel, .sentinel, .widerDeep, .data], laidTests := true, laidLooks := .later }
def CheckPathsUptoCardSaid : Prop := Claim7.holds Tryz.pinned (.plain (OpenSpec.upto checkPathsSpec)) checkPathsUptoCard
end Rows
end Go.Proofs.YtagchljgmjmlcaaGreatDoor
