/-
  DERIVED. GIVEN WITH THE SEED: THE CARDS: each row of YtffdeeooocookaaDoorRows.lean that lists a variable, with what it lists TIED to the program's text (the seventh form; the later family's looks); each row that meets fmt, with fmt's text TOLD by the authors' own Lean function (tested against real Go, not proved from fmt's source: count such statements apart). THE CARD IS WHAT COUNTS. Prove the row's statement (the work); the ties are given (YtffdeeooocookaaDoorTie.lean); close each card by the builder's one call (the guide's Derived/Test/ToyasCard.lean, 'card_holds'). Laid BY PROGRAM, IN A SANDBOX (cutbox-door.mjs). By AI agents, Wed Nov 11 2026. No macro, syntax, notation, axiom, sorry.
-/
import Derived.Test.YtffdeeooocookaaDoorRows
import GoSem.ClaimSeven
namespace Go.Proofs.YtffdeeooocookaaDoor
namespace Rows

/-- THE TIED CARD OF 'whetstonelaw17.ChangeDoes'. -/
def changeDoesCard : Claim7 := { stood := { row := changeDoesRow, standIns := [], harness := (true, "ec2e767eea4edeb48c0e42ecd2ce3cfcd05591c21a924f8c56c1c2783be8831a"), looks := true }, kinds := [], alts := [], laidByText := true, laidKinds := [.data, .data, .data, .data, .sentinel, .sentinel, .pinned], laidTests := true, laidLooks := .later }
def ChangeDoesCardSaid : Prop := Claim7.holds Tryd.pinned (.plain (OpenSpec.ofChange changeDoesSpec)) changeDoesCard

/-- THE SECOND FORM's CARD OF 'whetstonelaw17.ChangeDoes'. -/
def changeDoesUptoCard : Claim7 := { stood := { row := changeDoesUptoRow, standIns := [], harness := (true, "ec2e767eea4edeb48c0e42ecd2ce3cfcd05591c21a924f8c56c1c2783be8831a"), looks := true }, kinds := [], alts := [], laidByText := true, laidKinds := [.data, .data, .data, .data, .sentinel, .sentinel, .pinned], laidTests := true, laidLooks := .later }
def ChangeDoesUptoCardSaid : Prop := Claim7.holds Tryd.pinned (.plain (OpenSpec.upto changeDoesSpec)) changeDoesUptoCard
end Rows
end Go.Proofs.YtffdeeooocookaaDoor
