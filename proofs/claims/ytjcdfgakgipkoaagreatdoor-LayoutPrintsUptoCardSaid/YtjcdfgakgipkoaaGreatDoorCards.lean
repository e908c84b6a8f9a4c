/-
  DERIVED. GIVEN WITH THE SEED: THE CARDS: each row of YtjcdfgakgipkoaaGreatDoorRows.lean that lists a variable, with what it lists TIED to the program's text (the seventh form; the later family's looks); each row that meets fmt, with fmt's text TOLD by the authors' own Lean function (tested against real Go, not proved from fmt's source: count such statements apart). THE CARD IS WHAT COUNTS. Prove the row's statement (the work); the ties are given (YtjcdfgakgipkoaaGreatDoorTie.lean); close each card by the builder's one call (the guide's Derived/Test/ToyasCard.lean, 'card_holds'). Laid BY PROGRAM, IN A SANDBOX (cutbox-door.mjs). By AI agents, Wed Nov 11 2026. No macro, syntax, notation, axiom, sorry.
-/
import Derived.Test.YtjcdfgakgipkoaaGreatDoorRows
import GoSem.ClaimSeven
namespace Go.Proofs.YtjcdfgakgipkoaaGreatDoor
namespace Rows

/-- THE TIED CARD OF 'whetstonelaw08.LayoutPrints'. -/
def layoutPrintsCard : Claim7 := { stood := { row := layoutPrintsRow, standIns := [], harness := (true, "df0b503ff281070ae9b88a42903f8666e20643f29d1c340539466b0b413ceff1"), looks := true }, kinds := [], alts := [], laidByText := true, laidKinds := [.data, .data, .data, .data, .sentinel, .sentinel, .data, .pinned], laidTests := true, laidLooks := .later }
def LayoutPrintsCardSaid : Prop := Claim7.holds Tryz.pinned (.plain (OpenSpec.ofChange layoutPrintsSpec)) layoutPrintsCard

/-- THE SECOND FORM's CARD OF 'whetstonelaw08.LayoutPrints'. -/
def layoutPrintsUptoCard : Claim7 := { stood := { row := layoutPrintsUptoRow, standIns := [], harness := (true, "df0b503ff281070ae9b88a42903f8666e20643f29d1c340539466b0b413ceff1"), looks := true }, kinds := [], alts := [], laidByText := true, laidKinds := [.data, .data, .data, .data, .sentinel, .sentinel, .data, .pinned], laidTests := true, laidLooks := .later }
def LayoutPrintsUptoCardSaid : Prop := Claim7.holds Tryz.pinned (.plain (OpenSpec.upto layoutPrintsSpec)) layoutPrintsUptoCard
end Rows
end Go.Proofs.YtjcdfgakgipkoaaGreatDoor
