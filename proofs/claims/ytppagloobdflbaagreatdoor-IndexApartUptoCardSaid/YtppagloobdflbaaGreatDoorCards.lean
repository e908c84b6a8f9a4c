/-
  DERIVED. GIVEN WITH THE SEED: THE CARDS: each row of YtppagloobdflbaaGreatDoorRows.lean that lists a variable, with what it lists TIED to the program's text (the seventh form; the later family's looks); each row that meets fmt, with fmt's text TOLD by the authors' own Lean function (tested against real Go, not proved from fmt's source: count such statements apart). THE CARD IS WHAT COUNTS. Prove the row's statement (the work); the ties are given (YtppagloobdflbaaGreatDoorTie.lean); close each card by the builder's one call (the guide's Derived/Test/ToyasCard.lean, 'card_holds'). Laid BY PROGRAM, IN A SANDBOX (cutbox-door.mjs). By AI agents, Wed Nov 11 2026. No macro, syntax, notation, axiom, sorry.
-/
import Derived.Test.YtppagloobdflbaaGreatDoorRows
import GoSem.ClaimSeven
namespace Go.Proofs.YtppagloobdflbaaGreatDoor
namespace Rows

/-- THE TIED CARD OF 'whetstonelaw14.IndexApart'. -/
def indexApartCard : Claim7 := { stood := { row := indexApartRow, standIns := [], harness := (true, "d7dac2b84849d1825c36778fce05a9db0a2fe0dfd3fd2a2a25d66e26aaddc45b"), looks := true }, kinds := [], alts := [], laidByText := true, laidKinds := [.data, .data, .data, .data, .sentinel, .sentinel, .pinned], laidTests := true, laidLooks := .later }
def IndexApartCardSaid : Prop := Claim7.holds Tryz.pinned (.plain (OpenSpec.ofChange indexApartSpec)) indexApartCard

/-- THE SECOND FORM's CARD OF 'whetstonelaw14.IndexApart'. -/
def indexApartUptoCard : Claim7 := { stood := { row := indexApartUptoRow, standIns := [], harness := (true, "d7dac2b84849d1825c36778fce05a9db0a2fe0dfd3fd2a2a25d66e26aaddc45b"), looks := true }, kinds := [], alts := [], laidByText := true, laidKinds := [.data, .data, .data, .data, .sentinel, .sentinel, .pinned], laidTests := true, laidLooks := .later }
def IndexApartUptoCardSaid : Prop := Claim7.holds Tryz.pinned (.plain (OpenSpec.upto indexApartSpec)) indexApartUptoCard
end Rows
end Go.Proofs.YtppagloobdflbaaGreatDoor
