/-
  The library's functions and the edits' that the statements on histories reach, as code of the abstract machine, and that they are that code.
-/
import Derived.Test.YtjpdjaglggcbkaaZam32
import Derived.Test.YtjpdjaglggcbkaaZhBld
import Derived.Test.YtjpdjaglggcbkaaZhIr
namespace Go.Proofs.Zh
open Go Go.Zam Go.Proofs
set_option maxRecDepth 100000
set_option linter.all false
theorem cf25 : compF Try.prog [1000005] Try.f25 = some (irCloneM 2 32 58) := by kernel_rfl
theorem cf43 : compF Try.prog [1000005] Try.f43 = some (irCloneM 2 40 63) := by kernel_rfl
theorem cf44 : compF Try.prog [1000005] Try.f44 = some (irCloneM 3 32 60) := by kernel_rfl
theorem cf36 : compF Try.prog [] Try.f36 = some (irSortStable 52) := by kernel_rfl
theorem cf52 : compF Try.prog [] Try.f52 = some (irStable 60 61) := by kernel_rfl
theorem cf60 : compF Try.prog [] Try.f60 = some (irInsertion 2) := by kernel_rfl
theorem cf61 : compF Try.prog [] Try.f61 = some (irSymMerge 2 63 61) := by kernel_rfl
theorem cf63 : compF Try.prog [] Try.f63 = some (irRotate 65) := by kernel_rfl
theorem cf65 : compF Try.prog [] Try.f65 = some (irSwapRange 2) := by kernel_rfl
theorem cf38 : compF Try.prog [] Try.f38 = some (irCompare 53) := by kernel_rfl
theorem cf53 : compF Try.prog [] Try.f53 = some irIsNaN := by kernel_rfl
theorem cf40 : compF Try.prog [] Try.f40 = some (irSound 60) := by kernel_rfl
theorem cf54 : compF Try.prog [] Try.f54 = some (irWrite 62) := by kernel_rfl
theorem cf39 : compF Try.prog [7] Try.f39 = some (irApply 60 111 40 54 55) := by kernel_rfl
theorem cf27 : compF Try.prog [7] Try.f27 = some (irInvert 60 40) := by kernel_rfl
theorem cf41 : compF Try.prog [] Try.f41 = some (irIndexFunc 2) := by kernel_rfl

theorem copyOk : CopyOk Try.prog 62 111 := fun H i x a hi ha => copyCheckOk hi ha
theorem strOk : StringOk Try.prog 55 111 := fun H i t a s hi ht hs => stringOk hi ht (by omega)

theorem applyEOk (H : Hp) (z : Bool) (s : List UInt8) (l : List Ed) (hb : s.length + total l ≤ 70368744177664) :
    ACall Try.prog 39 [.d (.str s), .d (.sl z 3 (l.map encE))] H (fun r H' => r = .tup [.d (.str (applyS s l)), .d (.int .i64 (sound l s.length))] ∧ H' = H) :=
  apply_acall Try.func39 cf39 Try.func40 cf40 Try.func54 cf54 copyOk strOk H z s l hb

theorem invertEOk (H : Hp) (z : Bool) (s : List UInt8) (l : List Ed) (hb : s.length + total l ≤ 70368744177664) :
    ACall Try.prog 27 [.d (.str s), .d (.sl z 3 (l.map encE))] H (fun r H' => r = .tup [.d (.sl true 3 ((invS s l).map encE)), .d (.int .i64 (sound l s.length))] ∧ H' = H) :=
  invert_acall Try.func27 cf27 Try.func40 cf40 H z s l hb
end Go.Proofs.Zh
