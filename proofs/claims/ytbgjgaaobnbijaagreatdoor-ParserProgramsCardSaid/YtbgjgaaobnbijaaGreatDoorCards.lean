/-
  DERIVED. GIVEN WITH THE SEED: THE CARDS: each row of YtbgjgaaobnbijaaGreatDoorRows.lean that lists a variable, with what it lists TIED to the program's text (the seventh form; the later family's looks); each row that meets fmt, with fmt's text TOLD by the authors' own Lean function (tested against real Go, not proved from fmt's source: count such statements apart). THE CARD IS WHAT COUNTS. Prove the row's statement (the work); the ties are given (YtbgjgaaobnbijaaGreatDoorTie.lean); close each card by the builder's one call (the guide's Derived/Test/ToyasCard.lean, 'card_holds'). Laid BY PROGRAM, IN A SANDBOX (cutbox-door.mjs). By AI agents, Wed Nov 11 2026. No macro, syntax, notation, axiom, sorry.
-/
import Derived.Test.YtbgjgaaobnbijaaGreatDoorRows
import GoSem.ClaimSeven
namespace Go.Proofs.YtbgjgaaobnbijaaGreatDoor
namespace Rows

/-- THE TIED CARD OF 'plexuslaw16.ParserExpressions'. -/
def parserExpressionsCard : Claim7 := { stood := { row := parserExpressionsRow, standIns := [], harness := (true, "0f54c7cb0bed4cbb95a6f8660e08517d0ad5c79905bf8eada4ecb0b7386ec7bf"), looks := true }, kinds := [], alts := [], laidByText := true, laidKinds := [.data, .data, .data, .sentinel, .sentinel], laidTests := true, laidLooks := .later }
def ParserExpressionsCardSaid : Prop := Claim7.holds Tryz.pinned (.plain (OpenSpec.ofChange parserExpressionsSpec)) parserExpressionsCard

/-- THE TIED CARD OF 'plexuslaw16.ParserLattices'. -/
def parserLatticesCard : Claim7 := { stood := { row := parserLatticesRow, standIns := [], harness := (true, "0f54c7cb0bed4cbb95a6f8660e08517d0ad5c79905bf8eada4ecb0b7386ec7bf"), looks := true }, kinds := [], alts := [], laidByText := true, laidKinds := [.data, .data, .data, .sentinel, .sentinel], laidTests := true, laidLooks := .later }
def ParserLatticesCardSaid : Prop := Claim7.holds Tryz.pinned (.plain (OpenSpec.ofChange parserLatticesSpec)) parserLatticesCard

/-- THE TIED CARD OF 'plexuslaw16.ParserPrograms'. -/
def parserProgramsCard : Claim7 := { stood := { row := parserProgramsRow, standIns := [], harness := (true, "0f54c7cb0bed4cbb95a6f8660e08517d0ad5c79905bf8eada4ecb0b7386ec7bf"), looks := true }, kinds := [], alts := [], laidByText := true, laidKinds := [.data, .data, .data, .sentinel, .sentinel], laidTests := true, laidLooks := .later }
def ParserProgramsCardSaid : Prop := Claim7.holds Tryz.pinned (.plain (OpenSpec.ofChange parserProgramsSpec)) parserProgramsCard

/-- THE SECOND FORM's CARD OF 'plexuslaw16.ParserExpressions'. -/
def parserExpressionsUptoCard : Claim7 := { stood := { row := parserExpressionsUptoRow, standIns := [], harness := (true, "0f54c7cb0bed4cbb95a6f8660e08517d0ad5c79905bf8eada4ecb0b7386ec7bf"), looks := true }, kinds := [], alts := [], laidByText := true, laidKinds := [.data, .data, .data, .sentinel, .sentinel], laidTests := true, laidLooks := .later }
def ParserExpressionsUptoCardSaid : Prop := Claim7.holds Tryz.pinned (.plain (OpenSpec.upto parserExpressionsSpec)) parserExpressionsUptoCard

/-- THE SECOND FORM's CARD OF 'plexuslaw16.ParserLattices'. -/
def parserLatticesUptoCard : Claim7 := { stood := { row := parserLatticesUptoRow, standIns := [], harness := (true, "0f54c7cb0bed4cbb95a6f8660e08517d0ad5c79905bf8eada4ecb0b7386ec7bf"), looks := true }, kinds := [], alts := [], laidByText := true, laidKinds := [.data, .data, .data, .sentinel, .sentinel], laidTests := true, laidLooks := .later }
def ParserLatticesUptoCardSaid : Prop := Claim7.holds Tryz.pinned (.plain (OpenSpec.upto parserLatticesSpec)) parserLatticesUptoCard

/-- THE SECOND FORM's CARD OF 'plexuslaw16.ParserPrograms'. -/
def parserProgramsUptoCard : Claim7 := { stood := { row := parserProgramsUptoRow, standIns := [], harness := (true, "0f54c7cb0bed4cbb95a6f8660e08517d0ad5c79905bf8eada4ecb0b7386ec7bf"), looks := true }, kinds := [], alts := [], laidByText := true, laidKinds := [.data, .data, .data, .sentinel, .sentinel], laidTests := true, laidLooks := .later }
def ParserProgramsUptoCardSaid : Prop := Claim7.holds Tryz.pinned (.plain (OpenSpec.upto parserProgramsSpec)) parserProgramsUptoCard
end Rows
end Go.Proofs.YtbgjgaaobnbijaaGreatDoor
