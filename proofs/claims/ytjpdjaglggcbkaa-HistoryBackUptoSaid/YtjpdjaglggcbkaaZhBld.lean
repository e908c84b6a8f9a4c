/-
  strings.Builder's copyCheck and String on the abstract machine, at this program. No condition.
-/
import Derived.Test.YtjpdjaglggcbkaaZam19
import Derived.Test.YtjpdjaglggcbkaaProg
namespace Go.Proofs.Zh
open Go Go.Zam Go.Proofs Go.Shelf
set_option maxRecDepth 100000
def bldRen : Ren := ⟨fun n => match n with | 240 => 62 | 276 => 64 | 169 => 55 | n => n, fun t => match t with | 0 => 0 | 3 => 3 | 4 => 4 | 5 => 5 | 9 => 9 | 20 => 20 | 37 => 109 | 70 => 108 | 72 => 111 | 127 => 123 | 164 => 125 | n => n, fun g => g⟩

theorem lay240 : Lays.n240 Try.prog bldRen where
  mixed := by kernel_rfl
  f240 := Try.func62.trans (congrArg some (by kernel_rfl))
  f276 := Try.func64.trans (congrArg some (by kernel_rfl))
  t0 := by kernel_rfl
  a0 := Try.isAgg0
  z0 := fun _ => by kernel_rfl
  v0 := Try.zeroValue0
  t4 := by kernel_rfl
  a4 := Try.isAgg4
  z4 := fun _ => by kernel_rfl
  v4 := Try.zeroValue4
  t9 := by kernel_rfl
  a9 := Try.isAgg9
  z9 := fun _ => by kernel_rfl
  v9 := Try.zeroValue9
  t20 := by kernel_rfl
  a20 := Try.isAgg20
  z20 := fun _ => by kernel_rfl
  v20 := Try.zeroValue20
  t70 := by kernel_rfl
  a70 := Try.isAgg108
  z70 := fun _ => by kernel_rfl
  v70 := Try.zeroValue108
  t72 := by kernel_rfl
  a72 := Try.isAgg111
  z72 := fun _ => by kernel_rfl
  v72 := Try.zeroValue111
  t164 := by kernel_rfl
  a164 := Try.isAgg125
  z164 := fun _ => by kernel_rfl
  v164 := Try.zeroValue125
theorem lay169 : Lays.n169 Try.prog bldRen where
  mixed := by kernel_rfl
  f169 := Try.func55.trans (congrArg some (by kernel_rfl))
  t0 := by kernel_rfl
  a0 := Try.isAgg0
  z0 := fun _ => by kernel_rfl
  v0 := Try.zeroValue0
  t3 := by kernel_rfl
  a3 := Try.isAgg3
  z3 := fun _ => by kernel_rfl
  v3 := Try.zeroValue3
  t9 := by kernel_rfl
  a9 := Try.isAgg9
  z9 := fun _ => by kernel_rfl
  v9 := Try.zeroValue9
  t37 := by kernel_rfl
  a37 := Try.isAgg109
  z37 := fun _ => by kernel_rfl
  v37 := Try.zeroValue109
  t70 := by kernel_rfl
  a70 := Try.isAgg108
  z70 := fun _ => by kernel_rfl
  v70 := Try.zeroValue108
  t72 := by kernel_rfl
  a72 := Try.isAgg111
  z72 := fun _ => by kernel_rfl
  v72 := Try.zeroValue111
  t127 := by kernel_rfl
  a127 := Try.isAgg123
  z127 := fun _ => by kernel_rfl
  v127 := Try.zeroValue123
theorem bldExtra : Builder.Extra Try.prog bldRen where
  sizeBuilder := by kernel_rfl
  liesBuilder := by kernel_rfl
  t5 := by kernel_rfl
  a5 := Try.isAgg5
  z5 := fun _ => by kernel_rfl
  v5 := Try.zeroValue5
  infoByte := by kernel_rfl
  cellsByte := by kernel_rfl
  sizeByte := by kernel_rfl
  neB5 := by decide

theorem copyCheckOk {H : Hp} {i : Nat} {x a : A} (hi : H[i]? = some (.box 111 [a, x])) (ha : a = .d .nilp ∨ a = .ptr i 0) :
    ACall Try.prog 62 [.ptr i 0] H (fun r H' => r = .tup [] ∧ H' = H.set i (.box 111 [.ptr i 0, x])) := copyCheck_acall lay240 bldExtra.toX72 hi ha

theorem stringOk {H : Hp} {i t : Nat} {a : A} {s : List UInt8} (hi : H[i]? = some (.box 111 [a, .osl true 1 (byteRows s) t])) (ht : H[t]? = some (.tok s.length 1 5)) (hlen : s.length ≤ 4611686018427387904) :
    ACall Try.prog 55 [.ptr i 0] H (fun r H' => r = .d (.str s) ∧ H' = H) := string_acall lay169 bldExtra hi ht hlen
end Go.Proofs.Zh
