/-
  DERIVED. GIVEN WITH THE SEED: THE CARDS: each row of YtppagloobdflbabGreatDoorRows.lean that lists a variable, with what it lists TIED to the program's text (the seventh form; the later family's looks); each row that meets fmt, with fmt's text TOLD by the authors' own Lean function (tested against real Go, not proved from fmt's source: count such statements apart). THE CARD IS WHAT COUNTS. Prove the row's statement (the work); the ties are given (YtppagloobdflbabGreatDoorTie.lean); close each card by the builder's one call (the guide's Derived/Test/ToyasCard.lean, 'card_holds'). Laid BY PROGRAM, IN A SANDBOX (cutbox-door.mjs). By AI agents, Wed Nov 11 2026. No macro, syntax, notation, axiom, sorry.
-/
import Derived.Test.YtppagloobdflbabGreatDoorRows
import GoSem.ClaimSeven
namespace Go.Proofs.YtppagloobdflbabGreatDoor
namespace Rows

/-- THE TIED CARD OF 'whetstonelaw14.IndexWords'. -/
def indexWordsCard : Claim7 := { stood := { row := indexWordsRow, standIns := [], harness := (true, "c6549d7bddfcb7c7f1a81764281342b34fc865f875609028faa670f493bede10"), looks := true }, kinds := [], alts := [], laidByText := true, laidKinds := [.data, .data, .data, .data, .sentinel, .sentinel, .pinned], laidTests := true, laidLooks := .later }
def IndexWordsCardSaid : Prop := Claim7.holds Tryz.pinned (.plain (OpenSpec.ofChange indexWordsSpec)) indexWordsCard

/-- THE SECOND FORM's CARD OF 'whetstonelaw14.IndexWords'. -/
def indexWordsUptoCard : Claim7 := { stood := { row := indexWordsUptoRow, standIns := [], harness := (true, "c6549d7bddfcb7c7f1a81764281342b34fc865f875609028faa670f493bede10"), looks := true }, kinds := [], alts := [], laidByText := true, laidKinds := [.data, .data, .data, .data, .sentinel, .sentinel, .pinned], laidTests := true, laidLooks := .later }
def IndexWordsUptoCardSaid : Prop := Claim7.holds Tryz.pinned (.plain (OpenSpec.upto indexWordsSpec)) indexWordsUptoCard
end Rows
end Go.Proofs.YtppagloobdflbabGreatDoor
