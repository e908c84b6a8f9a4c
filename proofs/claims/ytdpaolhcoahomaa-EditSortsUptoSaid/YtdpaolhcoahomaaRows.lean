/-
  No cell of these rows narrows 'for every input' (looked for: loops, veiled, ifaces, maps, wideKeys, modest, calm, conditions, laid).
  DERIVED. THE GIVEN ROWS OF THIS SEAT. 5 by the template 'for every input the law returns true; each argument reads behind the call as it read before'; 0 by the template 'total and deterministic' (their statements: YtdpaolhcoahomaaTotals.lean).
  GIVEN WITH THE SEED: the statements are not yours to turn. If you find one false, say at which input.
  Laid BY PROGRAM, IN A SANDBOX (cutbox-rows.mjs): the forced cells as the released guide's own fill.sh prints them over the translation 81f135143bed39de… (all of the seat's roots in one cut). By AI agents, Wed Nov 11 2026. No macro, syntax, notation, axiom, sorry.
-/
import Derived.Test.YtdpaolhcoahomaaChecked
import GoSem.Claim
import GoSem.ClaimJoined
import GoSem.ClaimMapViews
import Derived.JoinedTies
import Derived.KernelRfl
namespace Go.Proofs.Ytdpaolhcoahomaa
/- THE CELL 'sum', in the pinned program and in every row, IS THE sha256 OF THE DUMP (.gsa) THAT YtdpaolhcoahomaaProg.lean LOADS. Nothing in Lean hashes anything: it is a label: what it is worth is what the hold of that sum in a sandbox is worth. -/
noncomputable def Try.pinned : Pinned := { name := "ytdpaolhcoahomaa", sum := "81f135143bed39de0dae9029d1d72fc59a526b088c367c3e9b3db3efec0d3d66", checked := Try.checked }
namespace Rows
def none {H : Type} : Left H := { results := [], args := [] }

/-- 'whetstonelaw02.EditDoes': WHATEVER THE INPUT: true; the input reads as it did. -/
def editDoesSpec : ChangeSpec := { name := "editDoes", fn := fun _ => fun
  | [d1, d2] => { results := [.lit (.bool true)], args := [d1, d2] }
  | _ => none }
def editDoesRow : OpenClaim := { program := "ytdpaolhcoahomaa", sum := "81f135143bed39de0dae9029d1d72fc59a526b088c367c3e9b3db3efec0d3d66", func := "whetstone/whetstonelaw02.EditDoes", spec := "editDoes", inPlace := ["internal/abi.NoEscape"], apart := false }
def EditDoesSaid : Prop := editDoesRow.holds Try.pinned (OpenSpec.ofChange editDoesSpec)

/-- ITS FALSE NEIGHBOUR: 'it returns false'. Refute it at one input. -/
def editDoesWrong : ChangeSpec := { name := "editDoes", fn := fun _ => fun
  | [d1, d2] => { results := [.lit (.bool false)], args := [d1, d2] }
  | _ => none }
def EditDoesWrongFalsely : Prop := editDoesRow.holds Try.pinned (OpenSpec.ofChange editDoesWrong)

/-- 'whetstonelaw02.EditBack': WHATEVER THE INPUT: true; the input reads as it did. -/
def editBackSpec : ChangeSpec := { name := "editBack", fn := fun _ => fun
  | [d1, d2] => { results := [.lit (.bool true)], args := [d1, d2] }
  | _ => none }
def editBackRow : OpenClaim := { program := "ytdpaolhcoahomaa", sum := "81f135143bed39de0dae9029d1d72fc59a526b088c367c3e9b3db3efec0d3d66", func := "whetstone/whetstonelaw02.EditBack", spec := "editBack", inPlace := ["internal/abi.NoEscape"], apart := false }
def EditBackSaid : Prop := editBackRow.holds Try.pinned (OpenSpec.ofChange editBackSpec)

/-- ITS FALSE NEIGHBOUR: 'it returns false'. Refute it at one input. -/
def editBackWrong : ChangeSpec := { name := "editBack", fn := fun _ => fun
  | [d1, d2] => { results := [.lit (.bool false)], args := [d1, d2] }
  | _ => none }
def EditBackWrongFalsely : Prop := editBackRow.holds Try.pinned (OpenSpec.ofChange editBackWrong)

/-- 'whetstonelaw02.EditBoth': WHATEVER THE INPUT: true; the input reads as it did. -/
def editBothSpec : ChangeSpec := { name := "editBoth", fn := fun _ => fun
  | [d1, d2, d3] => { results := [.lit (.bool true)], args := [d1, d2, d3] }
  | _ => none }
def editBothRow : OpenClaim := { program := "ytdpaolhcoahomaa", sum := "81f135143bed39de0dae9029d1d72fc59a526b088c367c3e9b3db3efec0d3d66", func := "whetstone/whetstonelaw02.EditBoth", spec := "editBoth", inPlace := ["internal/abi.NoEscape"], unfollowed := true, recurses := true, apart := false }
def EditBothSaid : Prop := editBothRow.holds Try.pinned (OpenSpec.ofChange editBothSpec)

/-- ITS FALSE NEIGHBOUR: 'it returns false'. Refute it at one input. -/
def editBothWrong : ChangeSpec := { name := "editBoth", fn := fun _ => fun
  | [d1, d2, d3] => { results := [.lit (.bool false)], args := [d1, d2, d3] }
  | _ => none }
def EditBothWrongFalsely : Prop := editBothRow.holds Try.pinned (OpenSpec.ofChange editBothWrong)

/-- 'whetstonelaw02.EditThree': WHATEVER THE INPUT: true; the input reads as it did. -/
def editThreeSpec : ChangeSpec := { name := "editThree", fn := fun _ => fun
  | [d1, d2, d3, d4] => { results := [.lit (.bool true)], args := [d1, d2, d3, d4] }
  | _ => none }
def editThreeRow : OpenClaim := { program := "ytdpaolhcoahomaa", sum := "81f135143bed39de0dae9029d1d72fc59a526b088c367c3e9b3db3efec0d3d66", func := "whetstone/whetstonelaw02.EditThree", spec := "editThree", inPlace := ["internal/abi.NoEscape"], unfollowed := true, recurses := true, apart := false }
def EditThreeSaid : Prop := editThreeRow.holds Try.pinned (OpenSpec.ofChange editThreeSpec)

/-- ITS FALSE NEIGHBOUR: 'it returns false'. Refute it at one input. -/
def editThreeWrong : ChangeSpec := { name := "editThree", fn := fun _ => fun
  | [d1, d2, d3, d4] => { results := [.lit (.bool false)], args := [d1, d2, d3, d4] }
  | _ => none }
def EditThreeWrongFalsely : Prop := editThreeRow.holds Try.pinned (OpenSpec.ofChange editThreeWrong)

/-- 'whetstonelaw02.EditSorts': WHATEVER THE INPUT: true; the input reads as it did. -/
def editSortsSpec : ChangeSpec := { name := "editSorts", fn := fun _ => fun
  | [d] => { results := [.lit (.bool true)], args := [d] }
  | _ => none }
def editSortsRow : OpenClaim := { program := "ytdpaolhcoahomaa", sum := "81f135143bed39de0dae9029d1d72fc59a526b088c367c3e9b3db3efec0d3d66", func := "whetstone/whetstonelaw02.EditSorts", spec := "editSorts", inPlace := ["internal/abi.NoEscape"], unfollowed := true, recurses := true, apart := false }
def EditSortsSaid : Prop := editSortsRow.holds Try.pinned (OpenSpec.ofChange editSortsSpec)

/-- ITS FALSE NEIGHBOUR: 'it returns false'. Refute it at one input. -/
def editSortsWrong : ChangeSpec := { name := "editSorts", fn := fun _ => fun
  | [d] => { results := [.lit (.bool false)], args := [d] }
  | _ => none }
def EditSortsWrongFalsely : Prop := editSortsRow.holds Try.pinned (OpenSpec.ofChange editSortsWrong)

/- THE SECOND FORM. 'bulk': how many values and letters a reading holds, each counted each time it is reached (what is shared counts as often as it is met; a slice's spare places count too). A statement '..UptoSaid' is the law's where the arguments, and the package variables that the reading takes, are together of bulk at most 1048576: NARROWER than '..Said'. Prove '..Said' where nothing that the law and all that it calls make is longer than what came in: it says more and counts as full. Else prove '..UptoSaid'. A law counts once. -/
mutual
def uptoBulk {H : Type} : DataW H → Nat
  | .lit (.string bytes) => bytes.length + 1
  | .lit _ => 1
  | .nil => 1
  | .ptr d => uptoBulk d + 1
  | .slice elems spare => uptoBulkAll elems + uptoBulkAll spare + 1
  | .agg parts => uptoBulkAll parts + 1
  | .iface _ d => uptoBulk d + 1
  | .map entries => uptoBulkEntries entries + 1
  | .held _ => 1
def uptoBulkAll {H : Type} : List (DataW H) → Nat
  | [] => 0
  | d :: r => uptoBulk d + uptoBulkAll r
def uptoBulkEntries {H : Type} : List (Lit × DataW H) → Nat
  | [] => 0
  | x :: r => uptoBulkEntry x + uptoBulkEntries r
def uptoBulkEntry {H : Type} : Lit × DataW H → Nat
  | (.string bytes, d) => bytes.length + uptoBulk d + 1
  | (_, d) => uptoBulk d + 1
 end
def uptoSmall : (H : Type) → List (DataW H) → Bool := fun _ ds => decide (uptoBulkAll ds ≤ 1048576)
def OpenSpec.upto (s : _root_.Go.ChangeSpec) : _root_.Go.OpenSpec := { _root_.Go.OpenSpec.ofChange s with cond := some uptoSmall }

/-- 'whetstonelaw02.EditDoes', WHERE WHAT IT READS IS OF BULK AT MOST 1048576: true; the input reads as it did. -/
def editDoesUptoRow : OpenClaim := { program := "ytdpaolhcoahomaa", sum := "81f135143bed39de0dae9029d1d72fc59a526b088c367c3e9b3db3efec0d3d66", func := "whetstone/whetstonelaw02.EditDoes", spec := "editDoes", inPlace := ["internal/abi.NoEscape"], apart := false, narrowed := true }
def EditDoesUptoSaid : Prop := editDoesUptoRow.holds Try.pinned (OpenSpec.upto editDoesSpec)

/-- 'whetstonelaw02.EditBack', WHERE WHAT IT READS IS OF BULK AT MOST 1048576: true; the input reads as it did. -/
def editBackUptoRow : OpenClaim := { program := "ytdpaolhcoahomaa", sum := "81f135143bed39de0dae9029d1d72fc59a526b088c367c3e9b3db3efec0d3d66", func := "whetstone/whetstonelaw02.EditBack", spec := "editBack", inPlace := ["internal/abi.NoEscape"], apart := false, narrowed := true }
def EditBackUptoSaid : Prop := editBackUptoRow.holds Try.pinned (OpenSpec.upto editBackSpec)

/-- 'whetstonelaw02.EditBoth', WHERE WHAT IT READS IS OF BULK AT MOST 1048576: true; the input reads as it did. -/
def editBothUptoRow : OpenClaim := { program := "ytdpaolhcoahomaa", sum := "81f135143bed39de0dae9029d1d72fc59a526b088c367c3e9b3db3efec0d3d66", func := "whetstone/whetstonelaw02.EditBoth", spec := "editBoth", inPlace := ["internal/abi.NoEscape"], unfollowed := true, recurses := true, apart := false, narrowed := true }
def EditBothUptoSaid : Prop := editBothUptoRow.holds Try.pinned (OpenSpec.upto editBothSpec)

/-- 'whetstonelaw02.EditThree', WHERE WHAT IT READS IS OF BULK AT MOST 1048576: true; the input reads as it did. -/
def editThreeUptoRow : OpenClaim := { program := "ytdpaolhcoahomaa", sum := "81f135143bed39de0dae9029d1d72fc59a526b088c367c3e9b3db3efec0d3d66", func := "whetstone/whetstonelaw02.EditThree", spec := "editThree", inPlace := ["internal/abi.NoEscape"], unfollowed := true, recurses := true, apart := false, narrowed := true }
def EditThreeUptoSaid : Prop := editThreeUptoRow.holds Try.pinned (OpenSpec.upto editThreeSpec)

/-- 'whetstonelaw02.EditSorts', WHERE WHAT IT READS IS OF BULK AT MOST 1048576: true; the input reads as it did. -/
def editSortsUptoRow : OpenClaim := { program := "ytdpaolhcoahomaa", sum := "81f135143bed39de0dae9029d1d72fc59a526b088c367c3e9b3db3efec0d3d66", func := "whetstone/whetstonelaw02.EditSorts", spec := "editSorts", inPlace := ["internal/abi.NoEscape"], unfollowed := true, recurses := true, apart := false, narrowed := true }
def EditSortsUptoSaid : Prop := editSortsUptoRow.holds Try.pinned (OpenSpec.upto editSortsSpec)

end Rows
end Go.Proofs.Ytdpaolhcoahomaa
