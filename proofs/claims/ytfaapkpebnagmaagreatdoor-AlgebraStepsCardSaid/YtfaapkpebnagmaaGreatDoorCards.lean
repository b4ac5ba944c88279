/-
  DERIVED. GIVEN WITH THE SEED: THE CARDS: each row of YtfaapkpebnagmaaGreatDoorRows.lean that lists a variable, with what it lists TIED to the program's text (the seventh form; the later family's looks); each row that meets fmt, with fmt's text TOLD by the authors' own Lean function (tested against real Go, not proved from fmt's source: count such statements apart). THE CARD IS WHAT COUNTS. Prove the row's statement (the work); the ties are given (YtfaapkpebnagmaaGreatDoorTie.lean); close each card by the builder's one call (the guide's Derived/Test/ToyasCard.lean, 'card_holds'). Laid BY PROGRAM, IN A SANDBOX (cutbox-door.mjs). By AI agents, Wed Nov 11 2026. No macro, syntax, notation, axiom, sorry.
-/
import Derived.Test.YtfaapkpebnagmaaGreatDoorRows
import GoSem.ClaimSeven
namespace Go.Proofs.YtfaapkpebnagmaaGreatDoor
namespace Rows

/-- THE TIED CARD OF 'becklaw16.AlgebraSteps'. -/
def algebraStepsCard : Claim7 := { stood := { row := algebraStepsRow, standIns := [], harness := (true, "77f14815ea590f0fb498ebf5ad799558169224f6c383332bd4f7c0c9d69e8d4e"), looks := true }, kinds := [], alts := [], laidByText := true, laidKinds := [.data, .data, .data, .sentinel, .sentinel, .widerDeep, .data, .data, .data], laidTests := true, laidLooks := .later }
def AlgebraStepsCardSaid : Prop := Claim7.holds Tryz.pinned (.plain (OpenSpec.ofChange algebraStepsSpec)) algebraStepsCard

/-- THE SECOND FORM's CARD OF 'becklaw16.AlgebraSteps'. -/
def algebraStepsUptoCard : Claim7 := { stood := { row := algebraStepsUptoRow, standIns := [], harness := (true, "77f14815ea590f0fb498ebf5ad799558169224f6c383332bd4f7c0c9d69e8d4e"), looks := true }, kinds := [], alts := [], laidByText := true, laidKinds := [.data, .data, .data, .sentinel, .sentinel, .widerDeep, .data, .data, .data], laidTests := true, laidLooks := .later }
def AlgebraStepsUptoCardSaid : Prop := Claim7.holds Tryz.pinned (.plain (OpenSpec.upto algebraStepsSpec)) algebraStepsUptoCard
end Rows
end Go.Proofs.YtfaapkpebnagmaaGreatDoor
