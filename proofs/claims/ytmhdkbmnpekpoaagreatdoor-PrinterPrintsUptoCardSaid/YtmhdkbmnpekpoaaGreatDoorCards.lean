/-
  DERIVED. GIVEN WITH THE SEED: THE CARDS: each row of YtmhdkbmnpekpoaaGreatDoorRows.lean that lists a variable, with what it lists TIED to the program's text (the seventh form; the later family's looks); each row that meets fmt, with fmt's text TOLD by the authors' own Lean function (tested against real Go, not proved from fmt's source: count such statements apart). THE CARD IS WHAT COUNTS. Prove the row's statement (the work); the ties are given (YtmhdkbmnpekpoaaGreatDoorTie.lean); close each card by the builder's one call (the guide's Derived/Test/ToyasCard.lean, 'card_holds'). Laid BY PROGRAM, IN A SANDBOX (cutbox-door.mjs). By AI agents, Wed Nov 11 2026. No macro, syntax, notation, axiom, sorry.
-/
import Derived.Test.YtmhdkbmnpekpoaaGreatDoorRows
import GoSem.ClaimSeven
namespace Go.Proofs.YtmhdkbmnpekpoaaGreatDoor
namespace Rows

/-- THE TIED CARD OF 'plexuslaw17.PrinterFewest'. -/
def printerFewestCard : Claim7 := { stood := { row := printerFewestRow, standIns := [], harness := (true, "582d9f3e7e31b427490a63242c2c001a8521e7e34fb724fdaa69d7c7f984226d"), looks := true }, kinds := [], alts := [], laidByText := true, laidKinds := [.data, .data, .data, .sentinel, .sentinel], laidTests := true, laidLooks := .later }
def PrinterFewestCardSaid : Prop := Claim7.holds Tryz.pinned (.plain (OpenSpec.ofChange printerFewestSpec)) printerFewestCard

/-- THE TIED CARD OF 'plexuslaw17.PrinterParses'. -/
def printerParsesCard : Claim7 := { stood := { row := printerParsesRow, standIns := [], harness := (true, "582d9f3e7e31b427490a63242c2c001a8521e7e34fb724fdaa69d7c7f984226d"), looks := true }, kinds := [], alts := [], laidByText := true, laidKinds := [.data, .data, .data, .sentinel, .sentinel], laidTests := true, laidLooks := .later }
def PrinterParsesCardSaid : Prop := Claim7.holds Tryz.pinned (.plain (OpenSpec.ofChange printerParsesSpec)) printerParsesCard

/-- THE TIED CARD OF 'plexuslaw17.PrinterConcats'. -/
def printerConcatsCard : Claim7 := { stood := { row := printerConcatsRow, standIns := [], harness := (true, "582d9f3e7e31b427490a63242c2c001a8521e7e34fb724fdaa69d7c7f984226d"), looks := true }, kinds := [], alts := [], laidByText := true, laidKinds := [.data, .data, .data, .sentinel, .sentinel], laidTests := true, laidLooks := .later }
def PrinterConcatsCardSaid : Prop := Claim7.holds Tryz.pinned (.plain (OpenSpec.ofChange printerConcatsSpec)) printerConcatsCard

/-- THE TIED CARD OF 'plexuslaw17.PrinterPrints'. -/
def printerPrintsCard : Claim7 := { stood := { row := printerPrintsRow, standIns := [], harness := (true, "582d9f3e7e31b427490a63242c2c001a8521e7e34fb724fdaa69d7c7f984226d"), looks := true }, kinds := [], alts := [], laidByText := true, laidKinds := [.data, .data, .data, .sentinel, .sentinel], laidTests := true, laidLooks := .later }
def PrinterPrintsCardSaid : Prop := Claim7.holds Tryz.pinned (.plain (OpenSpec.ofChange printerPrintsSpec)) printerPrintsCard

/-- THE TIED CARD OF 'plexuslaw17.PrinterSources'. -/
def printerSourcesCard : Claim7 := { stood := { row := printerSourcesRow, standIns := [], harness := (true, "582d9f3e7e31b427490a63242c2c001a8521e7e34fb724fdaa69d7c7f984226d"), looks := true }, kinds := [], alts := [], laidByText := true, laidKinds := [.data, .data, .data, .sentinel, .sentinel], laidTests := true, laidLooks := .later }
def PrinterSourcesCardSaid : Prop := Claim7.holds Tryz.pinned (.plain (OpenSpec.ofChange printerSourcesSpec)) printerSourcesCard

/-- THE TIED CARD OF 'plexuslaw17.PrinterExpressions'. -/
def printerExpressionsCard : Claim7 := { stood := { row := printerExpressionsRow, standIns := [], harness := (true, "582d9f3e7e31b427490a63242c2c001a8521e7e34fb724fdaa69d7c7f984226d"), looks := true }, kinds := [], alts := [], laidByText := true, laidKinds := [.data, .data, .data, .sentinel, .sentinel], laidTests := true, laidLooks := .later }
def PrinterExpressionsCardSaid : Prop := Claim7.holds Tryz.pinned (.plain (OpenSpec.ofChange printerExpressionsSpec)) printerExpressionsCard

/-- THE SECOND FORM's CARD OF 'plexuslaw17.PrinterFewest'. -/
def printerFewestUptoCard : Claim7 := { stood := { row := printerFewestUptoRow, standIns := [], harness := (true, "582d9f3e7e31b427490a63242c2c001a8521e7e34fb724fdaa69d7c7f984226d"), looks := true }, kinds := [], alts := [], laidByText := true, laidKinds := [.data, .data, .data, .sentinel, .sentinel], laidTests := true, laidLooks := .later }
def PrinterFewestUptoCardSaid : Prop := Claim7.holds Tryz.pinned (.plain (OpenSpec.upto printerFewestSpec)) printerFewestUptoCard

/-- THE SECOND FORM's CARD OF 'plexuslaw17.PrinterParses'. -/
def printerParsesUptoCard : Claim7 := { stood := { row := printerParsesUptoRow, standIns := [], harness := (true, "582d9f3e7e31b427490a63242c2c001a8521e7e34fb724fdaa69d7c7f984226d"), looks := true }, kinds := [], alts := [], laidByText := true, laidKinds := [.data, .data, .data, .sentinel, .sentinel], laidTests := true, laidLooks := .later }
def PrinterParsesUptoCardSaid : Prop := Claim7.holds Tryz.pinned (.plain (OpenSpec.upto printerParsesSpec)) printerParsesUptoCard

/-- THE SECOND FORM's CARD OF 'plexuslaw17.PrinterConcats'. -/
def printerConcatsUptoCard : Claim7 := { stood := { row := printerConcatsUptoRow, standIns := [], harness := (true, "582d9f3e7e31b427490a63242c2c001a8521e7e34fb724fdaa69d7c7f984226d"), looks := true }, kinds := [], alts := [], laidByText := true, laidKinds := [.data, .data, .data, .sentinel, .sentinel], laidTests := true, laidLooks := .later }
def PrinterConcatsUptoCardSaid : Prop := Claim7.holds Tryz.pinned (.plain (OpenSpec.upto printerConcatsSpec)) printerConcatsUptoCard

/-- THE SECOND FORM's CARD OF 'plexuslaw17.PrinterPrints'. -/
def printerPrintsUptoCard : Claim7 := { stood := { row := printerPrintsUptoRow, standIns := [], harness := (true, "582d9f3e7e31b427490a63242c2c001a8521e7e34fb724fdaa69d7c7f984226d"), looks := true }, kinds := [], alts := [], laidByText := true, laidKinds := [.data, .data, .data, .sentinel, .sentinel], laidTests := true, laidLooks := .later }
def PrinterPrintsUptoCardSaid : Prop := Claim7.holds Tryz.pinned (.plain (OpenSpec.upto printerPrintsSpec)) printerPrintsUptoCard

/-- THE SECOND FORM's CARD OF 'plexuslaw17.PrinterSources'. -/
def printerSourcesUptoCard : Claim7 := { stood := { row := printerSourcesUptoRow, standIns := [], harness := (true, "582d9f3e7e31b427490a63242c2c001a8521e7e34fb724fdaa69d7c7f984226d"), looks := true }, kinds := [], alts := [], laidByText := true, laidKinds := [.data, .data, .data, .sentinel, .sentinel], laidTests := true, laidLooks := .later }
def PrinterSourcesUptoCardSaid : Prop := Claim7.holds Tryz.pinned (.plain (OpenSpec.upto printerSourcesSpec)) printerSourcesUptoCard

/-- THE SECOND FORM's CARD OF 'plexuslaw17.PrinterExpressions'. -/
def printerExpressionsUptoCard : Claim7 := { stood := { row := printerExpressionsUptoRow, standIns := [], harness := (true, "582d9f3e7e31b427490a63242c2c001a8521e7e34fb724fdaa69d7c7f984226d"), looks := true }, kinds := [], alts := [], laidByText := true, laidKinds := [.data, .data, .data, .sentinel, .sentinel], laidTests := true, laidLooks := .later }
def PrinterExpressionsUptoCardSaid : Prop := Claim7.holds Tryz.pinned (.plain (OpenSpec.upto printerExpressionsSpec)) printerExpressionsUptoCard
end Rows
end Go.Proofs.YtmhdkbmnpekpoaaGreatDoor
