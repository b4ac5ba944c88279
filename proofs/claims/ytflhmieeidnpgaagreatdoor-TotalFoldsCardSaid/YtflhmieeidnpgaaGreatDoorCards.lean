/-
  DERIVED. GIVEN WITH THE SEED: THE CARDS: each row of YtflhmieeidnpgaaGreatDoorRows.lean that lists a variable, with what it lists TIED to the program's text (the seventh form; the later family's looks); each row that meets fmt, with fmt's text TOLD by the authors' own Lean function (tested against real Go, not proved from fmt's source: count such statements apart). THE CARD IS WHAT COUNTS. Prove the row's statement (the work); the ties are given (YtflhmieeidnpgaaGreatDoorTie.lean); close each card by the builder's one call (the guide's Derived/Test/ToyasCard.lean, 'card_holds'). Laid BY PROGRAM, IN A SANDBOX (cutbox-door.mjs). By AI agents, Wed Nov 11 2026. No macro, syntax, notation, axiom, sorry.
-/
import Derived.Test.YtflhmieeidnpgaaGreatDoorRows
import GoSem.ClaimSeven
namespace Go.Proofs.YtflhmieeidnpgaaGreatDoor
namespace Rows

/-- THE TIED CARD OF 'becklaw17.TotalFolds'. -/
def totalFoldsCard : Claim7 := { stood := { row := totalFoldsRow, standIns := [], harness := (true, "f8c912ddab0669c1af228475e9997e1b78d04c99ea03216e2175044e27f373f2"), looks := true }, kinds := [], alts := [], laidByText := true, laidKinds := [.data, .data, .data, .sentinel, .sentinel], laidTests := true, laidLooks := .later }
def TotalFoldsCardSaid : Prop := Claim7.holds Tryz.pinned (.plain (OpenSpec.ofChange totalFoldsSpec)) totalFoldsCard

/-- THE TIED CARD OF 'becklaw17.TotalGroups'. -/
def totalGroupsCard : Claim7 := { stood := { row := totalGroupsRow, standIns := [], harness := (true, "f8c912ddab0669c1af228475e9997e1b78d04c99ea03216e2175044e27f373f2"), looks := true }, kinds := [], alts := [], laidByText := true, laidKinds := [.data, .data, .data, .sentinel, .sentinel], laidTests := true, laidLooks := .later }
def TotalGroupsCardSaid : Prop := Claim7.holds Tryz.pinned (.plain (OpenSpec.ofChange totalGroupsSpec)) totalGroupsCard

/-- THE TIED CARD OF 'becklaw17.TotalCounts'. -/
def totalCountsCard : Claim7 := { stood := { row := totalCountsRow, standIns := [], harness := (true, "f8c912ddab0669c1af228475e9997e1b78d04c99ea03216e2175044e27f373f2"), looks := true }, kinds := [], alts := [], laidByText := true, laidKinds := [.data, .data, .data, .sentinel, .sentinel], laidTests := true, laidLooks := .later }
def TotalCountsCardSaid : Prop := Claim7.holds Tryz.pinned (.plain (OpenSpec.ofChange totalCountsSpec)) totalCountsCard

/-- THE SECOND FORM's CARD OF 'becklaw17.TotalFolds'. -/
def totalFoldsUptoCard : Claim7 := { stood := { row := totalFoldsUptoRow, standIns := [], harness := (true, "f8c912ddab0669c1af228475e9997e1b78d04c99ea03216e2175044e27f373f2"), looks := true }, kinds := [], alts := [], laidByText := true, laidKinds := [.data, .data, .data, .sentinel, .sentinel], laidTests := true, laidLooks := .later }
def TotalFoldsUptoCardSaid : Prop := Claim7.holds Tryz.pinned (.plain (OpenSpec.upto totalFoldsSpec)) totalFoldsUptoCard

/-- THE SECOND FORM's CARD OF 'becklaw17.TotalGroups'. -/
def totalGroupsUptoCard : Claim7 := { stood := { row := totalGroupsUptoRow, standIns := [], harness := (true, "f8c912ddab0669c1af228475e9997e1b78d04c99ea03216e2175044e27f373f2"), looks := true }, kinds := [], alts := [], laidByText := true, laidKinds := [.data, .data, .data, .sentinel, .sentinel], laidTests := true, laidLooks := .later }
def TotalGroupsUptoCardSaid : Prop := Claim7.holds Tryz.pinned (.plain (OpenSpec.upto totalGroupsSpec)) totalGroupsUptoCard

/-- THE SECOND FORM's CARD OF 'becklaw17.TotalCounts'. -/
def totalCountsUptoCard : Claim7 := { stood := { row := totalCountsUptoRow, standIns := [], harness := (true, "f8c912ddab0669c1af228475e9997e1b78d04c99ea03216e2175044e27f373f2"), looks := true }, kinds := [], alts := [], laidByText := true, laidKinds := [.data, .data, .data, .sentinel, .sentinel], laidTests := true, laidLooks := .later }
def TotalCountsUptoCardSaid : Prop := Claim7.holds Tryz.pinned (.plain (OpenSpec.upto totalCountsSpec)) totalCountsUptoCard
end Rows
end Go.Proofs.YtflhmieeidnpgaaGreatDoor
