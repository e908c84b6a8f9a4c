/-
  DERIVED. GIVEN WITH THE SEED: THE CARDS: each row of YtnlfihdegglkfaaDoorRows.lean that lists a variable, with what it lists TIED to the program's text (the seventh form; the later family's looks); each row that meets fmt, with fmt's text TOLD by the authors' own Lean function (tested against real Go, not proved from fmt's source: count such statements apart). THE CARD IS WHAT COUNTS. Prove the row's statement (the work); the ties are given (YtnlfihdegglkfaaDoorTie.lean); close each card by the builder's one call (the guide's Derived/Test/ToyasCard.lean, 'card_holds'). Laid BY PROGRAM, IN A SANDBOX (cutbox-door.mjs). By AI agents, Wed Nov 11 2026. No macro, syntax, notation, axiom, sorry.
-/
import Derived.Test.YtnlfihdegglkfaaDoorRows
import GoSem.ClaimSeven
namespace Go.Proofs.YtnlfihdegglkfaaDoor
namespace Rows

/-- THE TIED CARD OF 'whetstonelaw05.DeltaNames'. -/
def deltaNamesCard : Claim7 := { stood := { row := deltaNamesRow, standIns := [], harness := (true, "2ffc24579909b96b815404a101dcaaeb122b26a3caaade9721898f19880da3b8"), looks := true }, kinds := [], alts := [], laidByText := true, laidKinds := [.data, .data, .data, .data, .sentinel, .sentinel, .pinned], laidTests := true, laidLooks := .later }
def DeltaNamesCardSaid : Prop := Claim7.holds Tryd.pinned (.plain (OpenSpec.ofChange deltaNamesSpec)) deltaNamesCard

/-- THE TIED CARD OF 'whetstonelaw05.DeltaLeast'. -/
def deltaLeastCard : Claim7 := { stood := { row := deltaLeastRow, standIns := [], harness := (true, "2ffc24579909b96b815404a101dcaaeb122b26a3caaade9721898f19880da3b8"), looks := true }, kinds := [], alts := [], laidByText := true, laidKinds := [.data, .data, .data, .data, .sentinel, .sentinel, .pinned], laidTests := true, laidLooks := .later }
def DeltaLeastCardSaid : Prop := Claim7.holds Tryd.pinned (.plain (OpenSpec.ofChange deltaLeastSpec)) deltaLeastCard

/-- THE TIED CARD OF 'whetstonelaw05.DeltaTurns'. -/
def deltaTurnsCard : Claim7 := { stood := { row := deltaTurnsRow, standIns := [], harness := (true, "2ffc24579909b96b815404a101dcaaeb122b26a3caaade9721898f19880da3b8"), looks := true }, kinds := [], alts := [], laidByText := true, laidKinds := [.data, .data, .data, .data, .sentinel, .sentinel, .pinned], laidTests := true, laidLooks := .later }
def DeltaTurnsCardSaid : Prop := Claim7.holds Tryd.pinned (.plain (OpenSpec.ofChange deltaTurnsSpec)) deltaTurnsCard

/-- THE TIED CARD OF 'whetstonelaw05.DeltaMakes'. -/
def deltaMakesCard : Claim7 := { stood := { row := deltaMakesRow, standIns := [], harness := (true, "2ffc24579909b96b815404a101dcaaeb122b26a3caaade9721898f19880da3b8"), looks := true }, kinds := [], alts := [], laidByText := true, laidKinds := [.data, .data, .data, .data, .sentinel, .sentinel, .pinned], laidTests := true, laidLooks := .later }
def DeltaMakesCardSaid : Prop := Claim7.holds Tryd.pinned (.plain (OpenSpec.ofChange deltaMakesSpec)) deltaMakesCard

/-- THE SECOND FORM's CARD OF 'whetstonelaw05.DeltaNames'. -/
def deltaNamesUptoCard : Claim7 := { stood := { row := deltaNamesUptoRow, standIns := [], harness := (true, "2ffc24579909b96b815404a101dcaaeb122b26a3caaade9721898f19880da3b8"), looks := true }, kinds := [], alts := [], laidByText := true, laidKinds := [.data, .data, .data, .data, .sentinel, .sentinel, .pinned], laidTests := true, laidLooks := .later }
def DeltaNamesUptoCardSaid : Prop := Claim7.holds Tryd.pinned (.plain (OpenSpec.upto deltaNamesSpec)) deltaNamesUptoCard

/-- THE SECOND FORM's CARD OF 'whetstonelaw05.DeltaLeast'. -/
def deltaLeastUptoCard : Claim7 := { stood := { row := deltaLeastUptoRow, standIns := [], harness := (true, "2ffc24579909b96b815404a101dcaaeb122b26a3caaade9721898f19880da3b8"), looks := true }, kinds := [], alts := [], laidByText := true, laidKinds := [.data, .data, .data, .data, .sentinel, .sentinel, .pinned], laidTests := true, laidLooks := .later }
def DeltaLeastUptoCardSaid : Prop := Claim7.holds Tryd.pinned (.plain (OpenSpec.upto deltaLeastSpec)) deltaLeastUptoCard

/-- THE SECOND FORM's CARD OF 'whetstonelaw05.DeltaTurns'. -/
def deltaTurnsUptoCard : Claim7 := { stood := { row := deltaTurnsUptoRow, standIns := [], harness := (true, "2ffc24579909b96b815404a101dcaaeb122b26a3caaade9721898f19880da3b8"), looks := true }, kinds := [], alts := [], laidByText := true, laidKinds := [.data, .data, .data, .data, .sentinel, .sentinel, .pinned], laidTests := true, laidLooks := .later }
def DeltaTurnsUptoCardSaid : Prop := Claim7.holds Tryd.pinned (.plain (OpenSpec.upto deltaTurnsSpec)) deltaTurnsUptoCard

/-- THE SECOND FORM's CARD OF 'whetstonelaw05.DeltaMakes'. -/
def deltaMakesUptoCard : Claim7 := { stood := { row := deltaMakesUptoRow, standIns := [], harness := (true, "2ffc24579909b96b815404a101dcaaeb122b26a3caaade9721898f19880da3b8"), looks := true }, kinds := [], alts := [], laidByText := true, laidKinds := [.data, .data, .data, .data, .sentinel, .sentinel, .pinned], laidTests := true, laidLooks := .later }
def DeltaMakesUptoCardSaid : Prop := Claim7.holds Tryd.pinned (.plain (OpenSpec.upto deltaMakesSpec)) deltaMakesUptoCard
end Rows
end Go.Proofs.YtnlfihdegglkfaaDoor
