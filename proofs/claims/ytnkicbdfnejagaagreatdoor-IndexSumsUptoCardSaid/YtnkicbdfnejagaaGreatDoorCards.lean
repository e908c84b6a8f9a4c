/-
  DERIVED. GIVEN WITH THE SEED: THE CARDS: each row of YtnkicbdfnejagaaGreatDoorRows.lean that lists a variable, with what it lists TIED to the program's text (the seventh form; the later family's looks); each row that meets fmt, with fmt's text TOLD by the authors' own Lean function (tested against real Go, not proved from fmt's source: count such statements apart). THE CARD IS WHAT COUNTS. Prove the row's statement (the work); the ties are given (YtnkicbdfnejagaaGreatDoorTie.lean); close each card by the builder's one call (the guide's Derived/Test/ToyasCard.lean, 'card_holds'). Laid BY PROGRAM, IN A SANDBOX (cutbox-door.mjs). By AI agents, Wed Nov 11 2026. No macro, syntax, notation, axiom, sorry.
-/
import Derived.Test.YtnkicbdfnejagaaGreatDoorRows
import GoSem.ClaimSeven
namespace Go.Proofs.YtnkicbdfnejagaaGreatDoor
namespace Rows

/-- THE TIED CARD OF 'whetstonelaw14.IndexSums'. -/
def indexSumsCard : Claim7 := { stood := { row := indexSumsRow, standIns := [], harness := (true, "fba71f9121b479427d334ef53fd75d51da6cd116b4cbbb4c6233428201b4dcc1"), looks := true }, kinds := [], alts := [], laidByText := true, laidKinds := [.data, .data, .data, .data, .sentinel, .sentinel, .pinned], laidTests := true, laidLooks := .later }
def IndexSumsCardSaid : Prop := Claim7.holds Tryz.pinned (.plain (OpenSpec.ofChange indexSumsSpec)) indexSumsCard

/-- THE SECOND FORM's CARD OF 'whetstonelaw14.IndexSums'. -/
def indexSumsUptoCard : Claim7 := { stood := { row := indexSumsUptoRow, standIns := [], harness := (true, "fba71f9121b479427d334ef53fd75d51da6cd116b4cbbb4c6233428201b4dcc1"), looks := true }, kinds := [], alts := [], laidByText := true, laidKinds := [.data, .data, .data, .data, .sentinel, .sentinel, .pinned], laidTests := true, laidLooks := .later }
def IndexSumsUptoCardSaid : Prop := Claim7.holds Tryz.pinned (.plain (OpenSpec.upto indexSumsSpec)) indexSumsUptoCard
end Rows
end Go.Proofs.YtnkicbdfnejagaaGreatDoor
