/-
  DERIVED. GIVEN WITH THE SEED: THE CARDS: each row of YtempfgljggpglaaDoorRows.lean that lists a variable, with what it lists TIED to the program's text (the seventh form; the later family's looks); each row that meets fmt, with fmt's text TOLD by the authors' own Lean function (tested against real Go, not proved from fmt's source: count such statements apart). THE CARD IS WHAT COUNTS. Prove the row's statement (the work); the ties are given (YtempfgljggpglaaDoorTie.lean); close each card by the builder's one call (the guide's Derived/Test/ToyasCard.lean, 'card_holds'). Laid BY PROGRAM, IN A SANDBOX (cutbox-door.mjs). By AI agents, Wed Nov 11 2026. No macro, syntax, notation, axiom, sorry.
-/
import Derived.Test.YtempfgljggpglaaDoorRows
import GoSem.ClaimSeven
namespace Go.Proofs.YtempfgljggpglaaDoor
namespace Rows

/-- THE TIED CARD OF 'whetstonelaw07.ParseJoins'. -/
def parseJoinsCard : Claim7 := { stood := { row := parseJoinsRow, standIns := [], harness := (true, "b42a5e5ba5938d7601fcf4fa0416e364358e172440b85ad326fa14831ef5a74c"), looks := true }, kinds := [], alts := [], laidByText := true, laidKinds := [.data, .data, .data, .data, .sentinel, .sentinel, .data, .pinned], laidTests := true, laidLooks := .later }
def ParseJoinsCardSaid : Prop := Claim7.holds Tryd.pinned (.plain (OpenSpec.ofChange parseJoinsSpec)) parseJoinsCard

/-- THE SECOND FORM's CARD OF 'whetstonelaw07.ParseJoins'. -/
def parseJoinsUptoCard : Claim7 := { stood := { row := parseJoinsUptoRow, standIns := [], harness := (true, "b42a5e5ba5938d7601fcf4fa0416e364358e172440b85ad326fa14831ef5a74c"), looks := true }, kinds := [], alts := [], laidByText := true, laidKinds := [.data, .data, .data, .data, .sentinel, .sentinel, .data, .pinned], laidTests := true, laidLooks := .later }
def ParseJoinsUptoCardSaid : Prop := Claim7.holds Tryd.pinned (.plain (OpenSpec.upto parseJoinsSpec)) parseJoinsUptoCard
end Rows
end Go.Proofs.YtempfgljggpglaaDoor
