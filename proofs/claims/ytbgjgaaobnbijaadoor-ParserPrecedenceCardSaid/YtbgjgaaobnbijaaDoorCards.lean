/-
  DERIVED. GIVEN WITH THE SEED: THE CARDS: each row of YtbgjgaaobnbijaaDoorRows.lean that lists a variable, with what it lists TIED to the program's text (the seventh form; the later family's looks); each row that meets fmt, with fmt's text TOLD by the authors' own Lean function (tested against real Go, not proved from fmt's source: count such statements apart). THE CARD IS WHAT COUNTS. Prove the row's statement (the work); the ties are given (YtbgjgaaobnbijaaDoorTie.lean); close each card by the builder's one call (the guide's Derived/Test/ToyasCard.lean, 'card_holds'). Laid BY PROGRAM, IN A SANDBOX (cutbox-door.mjs). By AI agents, Wed Nov 11 2026. No macro, syntax, notation, axiom, sorry.
-/
import Derived.Test.YtbgjgaaobnbijaaDoorRows
import GoSem.ClaimSeven
namespace Go.Proofs.YtbgjgaaobnbijaaDoor
namespace Rows

/-- THE TIED CARD OF 'plexuslaw16.ParserTrees'. -/
def parserTreesCard : Claim7 := { stood := { row := parserTreesRow, standIns := [], harness := (true, "4ab45f2d042ba2bc91c7daaeaa09bf94658b9441a24a7bc4158aab879c670a44"), looks := true }, kinds := [], alts := [], laidByText := true, laidKinds := [.data, .data, .data, .sentinel, .sentinel], laidTests := true, laidLooks := .later }
def ParserTreesCardSaid : Prop := Claim7.holds Tryd.pinned (.plain (OpenSpec.ofChange parserTreesSpec)) parserTreesCard

/-- THE TIED CARD OF 'plexuslaw16.ParserOffsets'. -/
def parserOffsetsCard : Claim7 := { stood := { row := parserOffsetsRow, standIns := [], harness := (true, "4ab45f2d042ba2bc91c7daaeaa09bf94658b9441a24a7bc4158aab879c670a44"), looks := true }, kinds := [], alts := [], laidByText := true, laidKinds := [.data, .data, .data, .sentinel, .sentinel], laidTests := true, laidLooks := .later }
def ParserOffsetsCardSaid : Prop := Claim7.holds Tryd.pinned (.plain (OpenSpec.ofChange parserOffsetsSpec)) parserOffsetsCard

/-- THE TIED CARD OF 'plexuslaw16.ParserParentheses'. -/
def parserParenthesesCard : Claim7 := { stood := { row := parserParenthesesRow, standIns := [], harness := (true, "4ab45f2d042ba2bc91c7daaeaa09bf94658b9441a24a7bc4158aab879c670a44"), looks := true }, kinds := [], alts := [], laidByText := true, laidKinds := [.data, .data, .data, .sentinel, .sentinel], laidTests := true, laidLooks := .later }
def ParserParenthesesCardSaid : Prop := Claim7.holds Tryd.pinned (.plain (OpenSpec.ofChange parserParenthesesSpec)) parserParenthesesCard

/-- THE TIED CARD OF 'plexuslaw16.ParserPrecedence'. -/
def parserPrecedenceCard : Claim7 := { stood := { row := parserPrecedenceRow, standIns := [], harness := (true, "4ab45f2d042ba2bc91c7daaeaa09bf94658b9441a24a7bc4158aab879c670a44"), looks := true }, kinds := [], alts := [], laidByText := true, laidKinds := [.data, .data, .data, .sentinel, .sentinel], laidTests := true, laidLooks := .later }
def ParserPrecedenceCardSaid : Prop := Claim7.holds Tryd.pinned (.plain (OpenSpec.ofChange parserPrecedenceSpec)) parserPrecedenceCard

/-- THE TIED CARD OF 'plexuslaw16.ParserAppends'. -/
def parserAppendsCard : Claim7 := { stood := { row := parserAppendsRow, standIns := [], harness := (true, "4ab45f2d042ba2bc91c7daaeaa09bf94658b9441a24a7bc4158aab879c670a44"), looks := true }, kinds := [], alts := [], laidByText := true, laidKinds := [.data, .data, .data, .sentinel, .sentinel], laidTests := true, laidLooks := .later }
def ParserAppendsCardSaid : Prop := Claim7.holds Tryd.pinned (.plain (OpenSpec.ofChange parserAppendsSpec)) parserAppendsCard

/-- THE TIED CARD OF 'plexuslaw16.ParserPrefix'. -/
def parserPrefixCard : Claim7 := { stood := { row := parserPrefixRow, standIns := [], harness := (true, "4ab45f2d042ba2bc91c7daaeaa09bf94658b9441a24a7bc4158aab879c670a44"), looks := true }, kinds := [], alts := [], laidByText := true, laidKinds := [.data, .data, .data, .sentinel, .sentinel], laidTests := true, laidLooks := .later }
def ParserPrefixCardSaid : Prop := Claim7.holds Tryd.pinned (.plain (OpenSpec.ofChange parserPrefixSpec)) parserPrefixCard

/-- THE TIED CARD OF 'plexuslaw16.ParserBlanks'. -/
def parserBlanksCard : Claim7 := { stood := { row := parserBlanksRow, standIns := [], harness := (true, "4ab45f2d042ba2bc91c7daaeaa09bf94658b9441a24a7bc4158aab879c670a44"), looks := true }, kinds := [], alts := [], laidByText := true, laidKinds := [.data, .data, .data, .sentinel, .sentinel], laidTests := true, laidLooks := .later }
def ParserBlanksCardSaid : Prop := Claim7.holds Tryd.pinned (.plain (OpenSpec.ofChange parserBlanksSpec)) parserBlanksCard

/-- THE SECOND FORM's CARD OF 'plexuslaw16.ParserTrees'. -/
def parserTreesUptoCard : Claim7 := { stood := { row := parserTreesUptoRow, standIns := [], harness := (true, "4ab45f2d042ba2bc91c7daaeaa09bf94658b9441a24a7bc4158aab879c670a44"), looks := true }, kinds := [], alts := [], laidByText := true, laidKinds := [.data, .data, .data, .sentinel, .sentinel], laidTests := true, laidLooks := .later }
def ParserTreesUptoCardSaid : Prop := Claim7.holds Tryd.pinned (.plain (OpenSpec.upto parserTreesSpec)) parserTreesUptoCard

/-- THE SECOND FORM's CARD OF 'plexuslaw16.ParserOffsets'. -/
def parserOffsetsUptoCard : Claim7 := { stood := { row := parserOffsetsUptoRow, standIns := [], harness := (true, "4ab45f2d042ba2bc91c7daaeaa09bf94658b9441a24a7bc4158aab879c670a44"), looks := true }, kinds := [], alts := [], laidByText := true, laidKinds := [.data, .data, .data, .sentinel, .sentinel], laidTests := true, laidLooks := .later }
def ParserOffsetsUptoCardSaid : Prop := Claim7.holds Tryd.pinned (.plain (OpenSpec.upto parserOffsetsSpec)) parserOffsetsUptoCard

/-- THE SECOND FORM's CARD OF 'plexuslaw16.ParserParentheses'. -/
def parserParenthesesUptoCard : Claim7 := { stood := { row := parserParenthesesUptoRow, standIns := [], harness := (true, "4ab45f2d042ba2bc91c7daaeaa09bf94658b9441a24a7bc4158aab879c670a44"), looks := true }, kinds := [], alts := [], laidByText := true, laidKinds := [.data, .data, .data, .sentinel, .sentinel], laidTests := true, laidLooks := .later }
def ParserParenthesesUptoCardSaid : Prop := Claim7.holds Tryd.pinned (.plain (OpenSpec.upto parserParenthesesSpec)) parserParenthesesUptoCard

/-- THE SECOND FORM's CARD OF 'plexuslaw16.ParserPrecedence'. -/
def parserPrecedenceUptoCard : Claim7 := { stood := { row := parserPrecedenceUptoRow, standIns := [], harness := (true, "4ab45f2d042ba2bc91c7daaeaa09bf94658b9441a24a7bc4158aab879c670a44"), looks := true }, kinds := [], alts := [], laidByText := true, laidKinds := [.data, .data, .data, .sentinel, .sentinel], laidTests := true, laidLooks := .later }
def ParserPrecedenceUptoCardSaid : Prop := Claim7.holds Tryd.pinned (.plain (OpenSpec.upto parserPrecedenceSpec)) parserPrecedenceUptoCard

/-- THE SECOND FORM's CARD OF 'plexuslaw16.ParserAppends'. -/
def parserAppendsUptoCard : Claim7 := { stood := { row := parserAppendsUptoRow, standIns := [], harness := (true, "4ab45f2d042ba2bc91c7daaeaa09bf94658b9441a24a7bc4158aab879c670a44"), looks := true }, kinds := [], alts := [], laidByText := true, laidKinds := [.data, .data, .data, .sentinel, .sentinel], laidTests := true, laidLooks := .later }
def ParserAppendsUptoCardSaid : Prop := Claim7.holds Tryd.pinned (.plain (OpenSpec.upto parserAppendsSpec)) parserAppendsUptoCard

/-- THE SECOND FORM's CARD OF 'plexuslaw16.ParserPrefix'. -/
def parserPrefixUptoCard : Claim7 := { stood := { row := parserPrefixUptoRow, standIns := [], harness := (true, "4ab45f2d042ba2bc91c7daaeaa09bf94658b9441a24a7bc4158aab879c670a44"), looks := true }, kinds := [], alts := [], laidByText := true, laidKinds := [.data, .data, .data, .sentinel, .sentinel], laidTests := true, laidLooks := .later }
def ParserPrefixUptoCardSaid : Prop := Claim7.holds Tryd.pinned (.plain (OpenSpec.upto parserPrefixSpec)) parserPrefixUptoCard

/-- THE SECOND FORM's CARD OF 'plexuslaw16.ParserBlanks'. -/
def parserBlanksUptoCard : Claim7 := { stood := { row := parserBlanksUptoRow, standIns := [], harness := (true, "4ab45f2d042ba2bc91c7daaeaa09bf94658b9441a24a7bc4158aab879c670a44"), looks := true }, kinds := [], alts := [], laidByText := true, laidKinds := [.data, .data, .data, .sentinel, .sentinel], laidTests := true, laidLooks := .later }
def ParserBlanksUptoCardSaid : Prop := Claim7.holds Tryd.pinned (.plain (OpenSpec.upto parserBlanksSpec)) parserBlanksUptoCard
end Rows
end Go.Proofs.YtbgjgaaobnbijaaDoor
