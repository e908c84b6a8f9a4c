/-
  DERIVED. GIVEN WITH THE SEED: THE CARDS: each row of YtnlfihdegglkfaaGreatDoorRows.lean that lists a variable, with what it lists TIED to the program's text (the seventh form; the later family's looks); each row that meets fmt, with fmt's text TOLD by the authors' own Lean function (tested against real Go, not proved from fmt's source: count such statements apart). THE CARD IS WHAT COUNTS. Prove the row's statement (the work); the ties are given (YtnlfihdegglkfaaGreatDoorTie.lean); close each card by the builder's one call (the guide's Derived/Test/ToyasCard.lean, 'card_holds'). Laid BY PROGRAM, IN A SANDBOX (cutbox-door.mjs). By AI agents, Wed Nov 11 2026. No macro, syntax, notation, axiom, sorry.
-/
import Derived.Test.YtnlfihdegglkfaaGreatDoorRows
import GoSem.ClaimSeven
namespace Go.Proofs.YtnlfihdegglkfaaGreatDoor
namespace Rows

/-- THE TIED CARD OF 'whetstonelaw07.ParseReads'. -/
def parseReadsCard : Claim7 := { stood := { row := parseReadsRow, standIns := [], harness := (true, "080c8d291dcc55d004d47a5aba81599ac53ffdf53f97eade2c18f87ef5ecd8b1"), looks := true }, kinds := [], alts := [], laidByText := true, laidKinds := [.data, .data, .data, .data, .sentinel, .sentinel, .data, .pinned], laidTests := true, laidLooks := .later }
def ParseReadsCardSaid : Prop := Claim7.holds Tryz.pinned (.plain (OpenSpec.ofChange parseReadsSpec)) parseReadsCard

/-- THE TIED CARD OF 'whetstonelaw07.ParseTypes'. -/
def parseTypesCard : Claim7 := { stood := { row := parseTypesRow, standIns := [], harness := (true, "080c8d291dcc55d004d47a5aba81599ac53ffdf53f97eade2c18f87ef5ecd8b1"), looks := true }, kinds := [], alts := [], laidByText := true, laidKinds := [.data, .data, .data, .data, .sentinel, .sentinel, .data, .pinned], laidTests := true, laidLooks := .later }
def ParseTypesCardSaid : Prop := Claim7.holds Tryz.pinned (.plain (OpenSpec.ofChange parseTypesSpec)) parseTypesCard

/-- THE SECOND FORM's CARD OF 'whetstonelaw07.ParseReads'. -/
def parseReadsUptoCard : Claim7 := { stood := { row := parseReadsUptoRow, standIns := [], harness := (true, "080c8d291dcc55d004d47a5aba81599ac53ffdf53f97eade2c18f87ef5ecd8b1"), looks := true }, kinds := [], alts := [], laidByText := true, laidKinds := [.data, .data, .data, .data, .sentinel, .sentinel, .data, .pinned], laidTests := true, laidLooks := .later }
def ParseReadsUptoCardSaid : Prop := Claim7.holds Tryz.pinned (.plain (OpenSpec.upto parseReadsSpec)) parseReadsUptoCard

/-- THE SECOND FORM's CARD OF 'whetstonelaw07.ParseTypes'. -/
def parseTypesUptoCard : Claim7 := { stood := { row := parseTypesUptoRow, standIns := [], harness := (true, "080c8d291dcc55d004d47a5aba81599ac53ffdf53f97eade2c18f87ef5ecd8b1"), looks := true }, kinds := [], alts := [], laidByText := true, laidKinds := [.data, .data, .data, .data, .sentinel, .sentinel, .data, .pinned], laidTests := true, laidLooks := .later }
def ParseTypesUptoCardSaid : Prop := Claim7.holds Tryz.pinned (.plain (OpenSpec.upto parseTypesSpec)) parseTypesUptoCard
end Rows
end Go.Proofs.YtnlfihdegglkfaaGreatDoor
