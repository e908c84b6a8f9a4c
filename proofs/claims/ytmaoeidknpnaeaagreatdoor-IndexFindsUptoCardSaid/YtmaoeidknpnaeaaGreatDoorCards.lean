/-
  DERIVED. GIVEN WITH THE SEED: THE CARDS: each row of YtmaoeidknpnaeaaGreatDoorRows.lean that lists a variable, with what it lists TIED to the program's text (the seventh form; the later family's looks); each row that meets fmt, with fmt's text TOLD by the authors' own Lean function (tested against real Go, not proved from fmt's source: count such statements apart). THE CARD IS WHAT COUNTS. Prove the row's statement (the work); the ties are given (YtmaoeidknpnaeaaGreatDoorTie.lean); close each card by the builder's one call (the guide's Derived/Test/ToyasCard.lean, 'card_holds'). Laid BY PROGRAM, IN A SANDBOX (cutbox-door.mjs). By AI agents, Wed Nov 11 2026. No macro, syntax, notation, axiom, sorry.
-/
import Derived.Test.YtmaoeidknpnaeaaGreatDoorRows
import GoSem.ClaimSeven
namespace Go.Proofs.YtmaoeidknpnaeaaGreatDoor
namespace Rows

/-- THE TIED CARD OF 'whetstonelaw14.IndexFinds'. -/
def indexFindsCard : Claim7 := { stood := { row := indexFindsRow, standIns := [], harness := (true, "011629885e3c16c6ea6d6f6ab4d9f39aa88f54f258e53d34f010b749357e59e0"), looks := true }, kinds := [], alts := [], laidByText := true, laidKinds := [.data, .data, .data, .data, .sentinel, .sentinel, .pinned], laidTests := true, laidLooks := .later }
def IndexFindsCardSaid : Prop := Claim7.holds Tryz.pinned (.plain (OpenSpec.ofChange indexFindsSpec)) indexFindsCard

/-- THE SECOND FORM's CARD OF 'whetstonelaw14.IndexFinds'. -/
def indexFindsUptoCard : Claim7 := { stood := { row := indexFindsUptoRow, standIns := [], harness := (true, "011629885e3c16c6ea6d6f6ab4d9f39aa88f54f258e53d34f010b749357e59e0"), looks := true }, kinds := [], alts := [], laidByText := true, laidKinds := [.data, .data, .data, .data, .sentinel, .sentinel, .pinned], laidTests := true, laidLooks := .later }
def IndexFindsUptoCardSaid : Prop := Claim7.holds Tryz.pinned (.plain (OpenSpec.upto indexFindsSpec)) indexFindsUptoCard
end Rows
end Go.Proofs.YtmaoeidknpnaeaaGreatDoor
