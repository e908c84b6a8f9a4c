/-
  Texts of one proof, one behind the other:  Values walked on the abstract machine, first part: the small functions. The lengths are bounded. What comes into the statements on values. No condition. What the rows of the statements on values share: how much they hold, the world that the witness starts in, the tables as they are laid. An abstract machine over the model, thirty-eighth part: a slice that was appended to, sorted in place. No program in sight. No condition. An abstract machine over the model, thirty-ninth part: functions of the library that turn pure data into pure data. No program in sight. No condition. Values walked on the abstract machine, second part: whether two are the same. The lengths are bounded. Values walked on the abstract machine, third part: how great one is. The lengths are bounded. value.Rec on the abstract machine: what it computes. The lengths are bounded.
-/
import Derived.Test.YtdhanghnffkckaaDoorM3
import Derived.Test.YtdhanghnffkckaaDoorProg
import Derived.KernelRfl
import Derived.Test.YtdhanghnffkckaaDoorM4
import Derived.Test.YtdhanghnffkckaaDoorRows
import Derived.Test.YtdhanghnffkckaaDoorCards
import Derived.Test.YtdhanghnffkckaaDoorTie
import Derived.ProofKit
import Derived.OpenShut
import Derived.Deep.DeepHandedRow
import Derived.Lib.LaidTab
import Derived.Lib.ItoaNum
import Derived.SevenTiedAt
namespace Go.Proofs.Zv
open Go Go.Zam Go.Proofs
set_option maxRecDepth 100000
/- whetstone/whetstonelaw11.ValueTexts -/
def ir3 : IFn :=
 { nt := 48, res := [.t 4], body := (
  .seq (.ops [
    ⟨(some 2), none, .box 25 5 (.t 0)⟩,
    ⟨(some 3), none, .box 25 5 (.t 1)⟩,
    ⟨(some 4), none, .mv (.c (.bool false))⟩] false)
  (.seq (.seq (.ops [
     ⟨(some 5), none, .load 5 true (.t 2)⟩,
     ⟨(some 6), none, .call 8 [(.t 5)]⟩,
     ⟨(some 7), none, .un .not (.t 6)⟩,
     ⟨(some 8), none, .mv (.t 7)⟩,
     ⟨(some 9), (some (8, false)), .load 5 true (.t 3)⟩,
     ⟨(some 10), (some (8, false)), .call 8 [(.t 9)]⟩,
     ⟨(some 11), (some (8, false)), .un .not (.t 10)⟩,
     ⟨(some 12), none, .pick (.t 8) (.c (.bool true)) (.t 11)⟩,
     ⟨(some 13), none, .mv (.t 12)⟩,
     ⟨(some 14), (some (13, false)), .load 5 true (.t 2)⟩,
     ⟨(some 15), (some (13, false)), .call 9 [(.t 14)]⟩,
     ⟨(some 16), (some (13, false)), .un .not (.t 15)⟩,
     ⟨(some 17), none, .pick (.t 13) (.c (.bool true)) (.t 16)⟩,
     ⟨(some 18), none, .mv (.t 17)⟩,
     ⟨(some 19), (some (18, false)), .load 5 true (.t 3)⟩,
     ⟨(some 20), (some (18, false)), .call 9 [(.t 19)]⟩,
     ⟨(some 21), (some (18, false)), .un .not (.t 20)⟩,
     ⟨(some 22), none, .pick (.t 18) (.c (.bool true)) (.t 21)⟩,
     ⟨(some 23), none, .mv (.t 22)⟩,
     ⟨(some 24), (some (23, false)), .load 5 true (.t 2)⟩,
     ⟨(some 25), (some (23, false)), .call 10 [(.t 24)]⟩,
     ⟨(some 26), (some (23, false)), .un .not (.t 25)⟩,
     ⟨(some 27), none, .pick (.t 23) (.c (.bool true)) (.t 26)⟩,
     ⟨(some 28), none, .mv (.t 27)⟩,
     ⟨(some 29), (some (28, false)), .load 5 true (.t 3)⟩,
     ⟨(some 30), (some (28, false)), .call 10 [(.t 29)]⟩,
     ⟨(some 31), (some (28, false)), .un .not (.t 30)⟩,
     ⟨(some 32), none, .pick (.t 28) (.c (.bool true)) (.t 31)⟩] false)
   (.cond (.t 32) (.seq (.ops [
      ⟨(some 33), none, .call 11 []⟩,
      ⟨(some 4), none, .mv (.t 33)⟩] false)
    (.ret))
   (.skip)))
  (.seq (.ops [
    ⟨(some 34), none, .call 11 []⟩,
    ⟨(some 35), none, .mv (.t 34)⟩,
    ⟨(some 36), (some (35, true)), .load 5 true (.t 2)⟩,
    ⟨(some 37), (some (35, true)), .call 12 [(.t 36)]⟩,
    ⟨(some 38), (some (35, true)), .call 13 [(.t 37)]⟩,
    ⟨(some 39), (some (35, true)), .load 5 true (.t 3)⟩,
    ⟨(some 40), (some (35, true)), .call 12 [(.t 39)]⟩,
    ⟨(some 41), (some (35, true)), .call 13 [(.t 40)]⟩,
    ⟨(some 42), (some (35, true)), .bin .eql (.t 38) (.t 41)⟩,
    ⟨(some 43), (some (35, true)), .load 5 true (.t 2)⟩,
    ⟨(some 44), (some (35, true)), .load 5 true (.t 3)⟩,
    ⟨(some 45), (some (35, true)), .call 14 [(.t 43), (.t 44)]⟩,
    ⟨(some 46), (some (35, true)), .beq false (.t 42) (.t 45)⟩,
    ⟨(some 47), none, .pick (.t 35) (.t 46) (.c (.bool false))⟩,
    ⟨(some 4), none, .mv (.t 47)⟩] true)
  (.ret)))) }
theorem cf3 : compF Tryd.prog [] Tryd.f3 = some ir3 := by kernel_rfl
/- whetstone/whetstonelaw11.ValueMakes -/
def ir4 : IFn :=
 { nt := 96, res := [.t 10], body := (
  .seq (.ops [
    ⟨(some 10), none, .mv (.c (.bool false))⟩] false)
  (.seq (.seq (.ops [
     ⟨(some 18), none, .mv (.t 0)⟩,
     ⟨(some 19), none, .lenL (.t 18)⟩,
     ⟨(some 20), none, .bin .gtr (.t 19) (.c (.int .i64 30))⟩,
     ⟨(some 21), none, .mv (.t 20)⟩,
     ⟨(some 22), (some (21, false)), .mv (.t 1)⟩,
     ⟨(some 23), (some (21, false)), .lenL (.t 22)⟩,
     ⟨(some 24), (some (21, false)), .bin .gtr (.t 23) (.c (.int .i64 30))⟩,
     ⟨(some 25), none, .pick (.t 21) (.c (.bool true)) (.t 24)⟩,
     ⟨(some 26), none, .mv (.t 25)⟩,
     ⟨(some 27), (some (26, false)), .mv (.t 3)⟩,
     ⟨(some 28), (some (26, false)), .lenS (.t 27)⟩,
     ⟨(some 29), (some (26, false)), .bin .gtr (.t 28) (.c (.int .i64 1000))⟩,
     ⟨(some 30), none, .pick (.t 26) (.c (.bool true)) (.t 29)⟩] false)
   (.cond (.t 30) (.seq (.ops [
      ⟨(some 31), none, .call 11 []⟩,
      ⟨(some 10), none, .mv (.t 31)⟩] false)
    (.ret))
   (.skip)))
  (.seq (.ops [
    ⟨(some 11), none, .nilT 5 30⟩] false)
  (.seq (.seq (.ops [
     ⟨(some 32), none, .mv (.t 1)⟩,
     ⟨(some 33), none, .lenL (.t 32)⟩,
     ⟨(some 34), none, .mv (.c (.int .i64 0))⟩] false)
   (.blk 0 (.loop (.seq (.ops [
       ⟨(some 35), none, .bin .lss (.t 34) (.t 33)⟩] false)
     (.seq (.cond (.t 35) (.skip)
      (.exit 0))
     (.seq (.blk 1 (.seq (.ops [
         ⟨(some 36), none, .iaddr 5 (.t 32) (.t 34)⟩,
         ⟨(some 37), none, .load 5 true (.t 36)⟩,
         ⟨(some 13), none, .alloc 25 [(.int .i64 0), (.int .i64 0), (.str []), (.sl true 1 []), (.sl true 5 [])]⟩,
         ⟨none, none, .store 5 (.t 13) (.t 37)⟩] false)
       (.seq (.seq (.ops [
          ⟨(some 38), none, .load 5 true (.t 13)⟩,
          ⟨(some 39), none, .call 8 [(.t 38)]⟩,
          ⟨(some 40), none, .un .not (.t 39)⟩] false)
        (.cond (.t 40) (.seq (.ops [
           ⟨(some 41), none, .call 11 []⟩,
           ⟨(some 10), none, .mv (.t 41)⟩] false)
         (.ret))
        (.skip)))
       (.ops [
        ⟨(some 42), none, .mv (.t 11)⟩,
        ⟨(some 43), none, .load 5 true (.t 13)⟩,
        ⟨(some 44), none, .call 12 [(.t 43)]⟩,
        ⟨(some 45), none, .bslice 5 [(.t 44)]⟩,
        ⟨(some 46), none, .app 5 80 30 (.t 42) (.t 45)⟩,
        ⟨(some 11), none, .mv (.t 46)⟩] false))))
     (.ops [
      ⟨(some 47), none, .bin .add (.t 34) (.c (.int .i64 1))⟩,
      ⟨(some 34), none, .mv (.t 47)⟩] false)))))))
  (.seq (.ops [
    ⟨(some 49), none, .mv (.t 0)⟩,
    ⟨(some 50), none, .mv (.t 11)⟩,
    ⟨(some 51), none, .call 15 [(.t 49), (.t 50)]⟩,
    ⟨(some 48), none, .mv (.t 51)⟩,
    ⟨(some 52), none, .ext (.t 48) 0⟩,
    ⟨(some 53), none, .ext (.t 48) 1⟩,
    ⟨(some 14), none, .alloc 30 [(.int .i64 0), (.int .i64 0), (.str []), (.sl true 1 []), (.sl true 5 [])]⟩,
    ⟨none, none, .store 5 (.t 14) (.t 52)⟩,
    ⟨(some 15), none, .mv (.t 53)⟩] false)
  (.seq (.ops [
    ⟨(some 55), none, .mv (.t 0)⟩,
    ⟨(some 56), none, .mv (.t 1)⟩,
    ⟨(some 57), none, .call 16 [(.t 55), (.t 56)]⟩,
    ⟨(some 54), none, .mv (.t 57)⟩,
    ⟨(some 58), none, .ext (.t 54) 0⟩,
    ⟨(some 59), none, .ext (.t 54) 1⟩,
    ⟨(some 16), none, .alloc 25 [(.int .i64 0), (.int .i64 0), (.str []), (.sl true 1 []), (.sl true 5 [])]⟩,
    ⟨none, none, .store 5 (.t 16) (.t 58)⟩,
    ⟨(some 17), none, .mv (.t 59)⟩] false)
  (.seq (.ops [
    ⟨(some 60), none, .call 11 []⟩,
    ⟨(some 61), none, .mv (.t 60)⟩,
    ⟨(some 62), (some (61, true)), .mv (.t 15)⟩,
    ⟨(some 63), (some (61, true)), .mv (.t 17)⟩,
    ⟨(some 64), (some (61, true)), .bin .eql (.t 62) (.t 63)⟩,
    ⟨(some 65), none, .pick (.t 61) (.t 64) (.c (.bool false))⟩,
    ⟨(some 66), none, .mv (.t 65)⟩,
    ⟨(some 67), (some (66, true)), .load 5 true (.t 14)⟩,
    ⟨(some 68), (some (66, true)), .call 17 [(.t 67)]⟩,
    ⟨(some 69), (some (66, true)), .load 5 true (.t 16)⟩,
    ⟨(some 70), (some (66, true)), .call 14 [(.t 68), (.t 69)]⟩,
    ⟨(some 71), none, .pick (.t 66) (.t 70) (.c (.bool false))⟩,
    ⟨(some 72), none, .mv (.t 71)⟩,
    ⟨(some 73), (some (72, true)), .mv (.t 2)⟩,
    ⟨(some 74), (some (72, true)), .call 18 [(.t 73)]⟩,
    ⟨(some 75), (some (72, true)), .call 17 [(.t 74)]⟩,
    ⟨(some 76), (some (72, true)), .mv (.t 2)⟩,
    ⟨(some 77), (some (72, true)), .build [(.int .i64 0), (.int .i64 0), (.str []), (.sl true 1 []), (.sl true 5 [])] [(0, 1, (.c (.int .i64 1))), (1, 1, (.t 76))]⟩,
    ⟨(some 78), (some (72, true)), .call 14 [(.t 75), (.t 77)]⟩,
    ⟨(some 79), none, .pick (.t 72) (.t 78) (.c (.bool false))⟩,
    ⟨(some 80), none, .mv (.t 79)⟩,
    ⟨(some 81), (some (80, true)), .mv (.t 3)⟩,
    ⟨(some 82), (some (80, true)), .call 19 [(.t 81)]⟩,
    ⟨(some 83), (some (80, true)), .call 17 [(.t 82)]⟩,
    ⟨(some 84), (some (80, true)), .mv (.t 3)⟩,
    ⟨(some 85), (some (80, true)), .build [(.int .i64 0), (.int .i64 0), (.str []), (.sl true 1 []), (.sl true 5 [])] [(0, 1, (.c (.int .i64 2))), (2, 1, (.t 84))]⟩,
    ⟨(some 86), (some (80, true)), .call 14 [(.t 83), (.t 85)]⟩,
    ⟨(some 87), none, .pick (.t 80) (.t 86) (.c (.bool false))⟩,
    ⟨(some 88), none, .mv (.t 87)⟩,
    ⟨(some 89), (some (88, true)), .mv (.t 4)⟩,
    ⟨(some 90), (some (88, true)), .call 20 [(.t 89)]⟩,
    ⟨(some 91), (some (88, true)), .call 17 [(.t 90)]⟩,
    ⟨(some 92), (some (88, true)), .mv (.t 4)⟩,
    ⟨(some 93), (some (88, true)), .build [(.int .i64 0), (.int .i64 0), (.str []), (.sl true 1 []), (.sl true 5 [])] [(0, 1, (.c (.int .i64 4))), (1, 1, (.t 92))]⟩,
    ⟨(some 94), (some (88, true)), .call 14 [(.t 91), (.t 93)]⟩,
    ⟨(some 95), none, .pick (.t 88) (.t 94) (.c (.bool false))⟩,
    ⟨(some 10), none, .mv (.t 95)⟩] true)
  (.ret)))))))) }
theorem cf4 : compF Tryd.prog [11] Tryd.f4 = some ir4 := by kernel_rfl
/- whetstone/whetstonelaw11.ValueNames -/
def ir5 : IFn :=
 { nt := 84, res := [.t 6], body := (
  .seq (.ops [
    ⟨(some 3), none, .box 25 5 (.t 0)⟩,
    ⟨(some 6), none, .mv (.c (.bool false))⟩] false)
  (.seq (.seq (.ops [
     ⟨(some 13), none, .load 5 true (.t 3)⟩,
     ⟨(some 14), none, .call 8 [(.t 13)]⟩,
     ⟨(some 15), none, .un .not (.t 14)⟩,
     ⟨(some 16), none, .mv (.t 15)⟩,
     ⟨(some 17), (some (16, false)), .load 5 true (.t 3)⟩,
     ⟨(some 18), (some (16, false)), .call 9 [(.t 17)]⟩,
     ⟨(some 19), (some (16, false)), .un .not (.t 18)⟩,
     ⟨(some 20), none, .pick (.t 16) (.c (.bool true)) (.t 19)⟩,
     ⟨(some 21), none, .mv (.t 20)⟩,
     ⟨(some 22), (some (21, false)), .mv (.t 1)⟩,
     ⟨(some 23), (some (21, false)), .lenS (.t 22)⟩,
     ⟨(some 24), (some (21, false)), .mv (.t 2)⟩,
     ⟨(some 25), (some (21, false)), .lenS (.t 24)⟩,
     ⟨(some 26), (some (21, false)), .bin .add (.t 23) (.t 25)⟩,
     ⟨(some 27), (some (21, false)), .bin .gtr (.t 26) (.c (.int .i64 1000))⟩,
     ⟨(some 28), none, .pick (.t 21) (.c (.bool true)) (.t 27)⟩] false)
   (.cond (.t 28) (.seq (.ops [
      ⟨(some 29), none, .call 11 []⟩,
      ⟨(some 6), none, .mv (.t 29)⟩] false)
    (.ret))
   (.skip)))
  (.seq (.ops [
    ⟨(some 31), none, .load 5 true (.t 3)⟩,
    ⟨(some 32), none, .call 12 [(.t 31)]⟩,
    ⟨(some 33), none, .mv (.t 1)⟩,
    ⟨(some 34), none, .mv (.t 2)⟩,
    ⟨(some 35), none, .call 21 [(.t 32), (.t 33), (.t 34)]⟩,
    ⟨(some 30), none, .mv (.t 35)⟩,
    ⟨(some 36), none, .ext (.t 30) 0⟩,
    ⟨(some 37), none, .ext (.t 30) 1⟩,
    ⟨(some 7), none, .alloc 30 [(.int .i64 0), (.int .i64 0), (.str []), (.sl true 1 []), (.sl true 5 [])]⟩,
    ⟨none, none, .store 5 (.t 7) (.t 36)⟩,
    ⟨(some 8), none, .mv (.t 37)⟩] false)
  (.seq (.ops [
    ⟨(some 39), none, .load 5 true (.t 3)⟩,
    ⟨(some 40), none, .mv (.t 1)⟩,
    ⟨(some 41), none, .mv (.t 2)⟩,
    ⟨(some 42), none, .call 22 [(.t 39), (.t 40), (.t 41)]⟩,
    ⟨(some 38), none, .mv (.t 42)⟩,
    ⟨(some 43), none, .ext (.t 38) 0⟩,
    ⟨(some 44), none, .ext (.t 38) 1⟩,
    ⟨(some 9), none, .alloc 25 [(.int .i64 0), (.int .i64 0), (.str []), (.sl true 1 []), (.sl true 5 [])]⟩,
    ⟨none, none, .store 5 (.t 9) (.t 43)⟩,
    ⟨(some 10), none, .mv (.t 44)⟩] false)
  (.seq (.seq (.ops [
     ⟨(some 45), none, .mv (.t 8)⟩,
     ⟨(some 46), none, .mv (.t 10)⟩,
     ⟨(some 47), none, .beq true (.t 45) (.t 46)⟩,
     ⟨(some 48), none, .mv (.t 47)⟩,
     ⟨(some 49), (some (48, false)), .load 5 true (.t 7)⟩,
     ⟨(some 50), (some (48, false)), .call 17 [(.t 49)]⟩,
     ⟨(some 51), (some (48, false)), .load 5 true (.t 9)⟩,
     ⟨(some 52), (some (48, false)), .call 14 [(.t 50), (.t 51)]⟩,
     ⟨(some 53), (some (48, false)), .un .not (.t 52)⟩,
     ⟨(some 54), none, .pick (.t 48) (.c (.bool true)) (.t 53)⟩] true)
   (.cond (.t 54) (.seq (.ops [
      ⟨(some 6), none, .mv (.c (.bool false))⟩] false)
    (.ret))
   (.skip)))
  (.seq (.seq (.ops [
     ⟨(some 55), none, .mv (.t 8)⟩,
     ⟨(some 56), none, .un .not (.t 55)⟩,
     ⟨(some 57), none, .mv (.t 56)⟩,
     ⟨(some 58), (some (57, false)), .load 5 true (.t 3)⟩,
     ⟨(some 59), (some (57, false)), .mv (.t 2)⟩,
     ⟨(some 60), (some (57, false)), .call 23 [(.t 58), (.t 59)]⟩,
     ⟨(some 61), none, .pick (.t 57) (.c (.bool true)) (.t 60)⟩] false)
   (.cond (.t 61) (.seq (.ops [
      ⟨(some 62), none, .call 11 []⟩,
      ⟨(some 6), none, .mv (.t 62)⟩] false)
    (.ret))
   (.skip)))
  (.seq (.ops [
    ⟨(some 64), none, .load 5 true (.t 7)⟩,
    ⟨(some 65), none, .mv (.t 2)⟩,
    ⟨(some 66), none, .mv (.t 1)⟩,
    ⟨(some 67), none, .call 21 [(.t 64), (.t 65), (.t 66)]⟩,
    ⟨(some 63), none, .mv (.t 67)⟩,
    ⟨(some 68), none, .ext (.t 63) 0⟩,
    ⟨(some 69), none, .ext (.t 63) 1⟩,
    ⟨(some 11), none, .alloc 30 [(.int .i64 0), (.int .i64 0), (.str []), (.sl true 1 []), (.sl true 5 [])]⟩,
    ⟨none, none, .store 5 (.t 11) (.t 68)⟩,
    ⟨(some 12), none, .mv (.t 69)⟩] false)
  (.seq (.ops [
    ⟨(some 70), none, .call 11 []⟩,
    ⟨(some 71), none, .mv (.t 70)⟩,
    ⟨(some 72), (some (71, true)), .mv (.t 12)⟩,
    ⟨(some 73), none, .pick (.t 71) (.t 72) (.c (.bool false))⟩,
    ⟨(some 74), none, .mv (.t 73)⟩,
    ⟨(some 75), (some (74, true)), .load 5 true (.t 7)⟩,
    ⟨(some 76), (some (74, true)), .call 24 [(.t 75)]⟩,
    ⟨(some 77), none, .pick (.t 74) (.t 76) (.c (.bool false))⟩,
    ⟨(some 78), none, .mv (.t 77)⟩,
    ⟨(some 79), (some (78, true)), .load 5 true (.t 11)⟩,
    ⟨(some 80), (some (78, true)), .call 17 [(.t 79)]⟩,
    ⟨(some 81), (some (78, true)), .load 5 true (.t 3)⟩,
    ⟨(some 82), (some (78, true)), .call 14 [(.t 80), (.t 81)]⟩,
    ⟨(some 83), none, .pick (.t 78) (.t 82) (.c (.bool false))⟩,
    ⟨(some 6), none, .mv (.t 83)⟩] true)
  (.ret))))))))) }
theorem cf5 : compF Tryd.prog [] Tryd.f5 = some ir5 := by kernel_rfl
/- whetstone/whetstonelaw11.ValueParts -/
def ir6 : IFn :=
 { nt := 128, res := [.t 6], body := (
  .seq (.ops [
    ⟨(some 6), none, .mv (.c (.bool false))⟩] false)
  (.seq (.seq (.ops [
     ⟨(some 17), none, .mv (.t 0)⟩,
     ⟨(some 18), none, .lenL (.t 17)⟩,
     ⟨(some 19), none, .bin .gtr (.t 18) (.c (.int .i64 30))⟩,
     ⟨(some 20), none, .mv (.t 19)⟩,
     ⟨(some 21), (some (20, false)), .mv (.t 1)⟩,
     ⟨(some 22), (some (20, false)), .lenL (.t 21)⟩,
     ⟨(some 23), (some (20, false)), .bin .gtr (.t 22) (.c (.int .i64 30))⟩,
     ⟨(some 24), none, .pick (.t 20) (.c (.bool true)) (.t 23)⟩,
     ⟨(some 25), none, .mv (.t 24)⟩,
     ⟨(some 26), (some (25, false)), .mv (.t 2)⟩,
     ⟨(some 27), (some (25, false)), .lenS (.t 26)⟩,
     ⟨(some 28), (some (25, false)), .bin .gtr (.t 27) (.c (.int .i64 100))⟩,
     ⟨(some 29), none, .pick (.t 25) (.c (.bool true)) (.t 28)⟩] false)
   (.cond (.t 29) (.seq (.ops [
      ⟨(some 30), none, .call 11 []⟩,
      ⟨(some 6), none, .mv (.t 30)⟩] false)
    (.ret))
   (.skip)))
  (.seq (.ops [
    ⟨(some 7), none, .nilT 5 30⟩] false)
  (.seq (.seq (.ops [
     ⟨(some 31), none, .mv (.t 1)⟩,
     ⟨(some 32), none, .lenL (.t 31)⟩,
     ⟨(some 33), none, .mv (.c (.int .i64 0))⟩] false)
   (.blk 0 (.loop (.seq (.ops [
       ⟨(some 34), none, .bin .lss (.t 33) (.t 32)⟩] false)
     (.seq (.cond (.t 34) (.skip)
      (.exit 0))
     (.seq (.blk 1 (.seq (.ops [
         ⟨(some 35), none, .iaddr 5 (.t 31) (.t 33)⟩,
         ⟨(some 36), none, .load 5 true (.t 35)⟩,
         ⟨(some 9), none, .alloc 25 [(.int .i64 0), (.int .i64 0), (.str []), (.sl true 1 []), (.sl true 5 [])]⟩,
         ⟨none, none, .store 5 (.t 9) (.t 36)⟩] false)
       (.seq (.seq (.ops [
          ⟨(some 37), none, .load 5 true (.t 9)⟩,
          ⟨(some 38), none, .call 8 [(.t 37)]⟩,
          ⟨(some 39), none, .un .not (.t 38)⟩,
          ⟨(some 40), none, .mv (.t 39)⟩,
          ⟨(some 41), (some (40, false)), .load 5 true (.t 9)⟩,
          ⟨(some 42), (some (40, false)), .call 9 [(.t 41)]⟩,
          ⟨(some 43), (some (40, false)), .un .not (.t 42)⟩,
          ⟨(some 44), none, .pick (.t 40) (.c (.bool true)) (.t 43)⟩] false)
        (.cond (.t 44) (.seq (.ops [
           ⟨(some 45), none, .call 11 []⟩,
           ⟨(some 6), none, .mv (.t 45)⟩] false)
         (.ret))
        (.skip)))
       (.ops [
        ⟨(some 46), none, .mv (.t 7)⟩,
        ⟨(some 47), none, .load 5 true (.t 9)⟩,
        ⟨(some 48), none, .call 12 [(.t 47)]⟩,
        ⟨(some 49), none, .bslice 5 [(.t 48)]⟩,
        ⟨(some 50), none, .app 5 80 30 (.t 46) (.t 49)⟩,
        ⟨(some 7), none, .mv (.t 50)⟩] false))))
     (.ops [
      ⟨(some 51), none, .bin .add (.t 33) (.c (.int .i64 1))⟩,
      ⟨(some 33), none, .mv (.t 51)⟩] false)))))))
  (.seq (.ops [
    ⟨(some 53), none, .mv (.t 0)⟩,
    ⟨(some 54), none, .mv (.t 7)⟩,
    ⟨(some 55), none, .call 15 [(.t 53), (.t 54)]⟩,
    ⟨(some 52), none, .mv (.t 55)⟩,
    ⟨(some 56), none, .ext (.t 52) 0⟩,
    ⟨(some 57), none, .ext (.t 52) 1⟩,
    ⟨(some 10), none, .alloc 30 [(.int .i64 0), (.int .i64 0), (.str []), (.sl true 1 []), (.sl true 5 [])]⟩,
    ⟨none, none, .store 5 (.t 10) (.t 56)⟩,
    ⟨(some 11), none, .mv (.t 57)⟩] false)
  (.seq (.seq (.ops [
     ⟨(some 58), none, .mv (.t 11)⟩,
     ⟨(some 59), none, .bin .neq (.t 58) (.c (.int .i64 0))⟩] false)
   (.cond (.t 59) (.seq (.ops [
      ⟨(some 60), none, .call 11 []⟩,
      ⟨(some 6), none, .mv (.t 60)⟩] false)
    (.ret))
   (.skip)))
  (.seq (.ops [
    ⟨(some 12), none, .mv (.c (.bool false))⟩] false)
  (.seq (.seq (.ops [
     ⟨(some 61), none, .mv (.t 0)⟩,
     ⟨(some 62), none, .lenL (.t 61)⟩,
     ⟨(some 63), none, .mv (.c (.int .i64 0))⟩] false)
   (.blk 2 (.loop (.seq (.ops [
       ⟨(some 64), none, .bin .lss (.t 63) (.t 62)⟩] false)
     (.seq (.cond (.t 64) (.skip)
      (.exit 2))
     (.seq (.blk 3 (.seq (.ops [
         ⟨(some 65), none, .mv (.t 63)⟩,
         ⟨(some 66), none, .iaddr 1 (.t 61) (.t 63)⟩,
         ⟨(some 67), none, .load 1 false (.t 66)⟩,
         ⟨(some 13), none, .mv (.t 65)⟩,
         ⟨(some 14), none, .mv (.t 67)⟩] false)
       (.seq (.ops [
         ⟨(some 69), none, .load 5 true (.t 10)⟩,
         ⟨(some 70), none, .mv (.t 14)⟩,
         ⟨(some 71), none, .call 25 [(.t 69), (.t 70)]⟩,
         ⟨(some 68), none, .mv (.t 71)⟩,
         ⟨(some 72), none, .ext (.t 68) 0⟩,
         ⟨(some 73), none, .ext (.t 68) 1⟩,
         ⟨(some 15), none, .alloc 30 [(.int .i64 0), (.int .i64 0), (.str []), (.sl true 1 []), (.sl true 5 [])]⟩,
         ⟨none, none, .store 5 (.t 15) (.t 72)⟩,
         ⟨(some 16), none, .mv (.t 73)⟩] false)
       (.seq (.seq (.ops [
          ⟨(some 74), none, .mv (.t 16)⟩,
          ⟨(some 75), none, .un .not (.t 74)⟩,
          ⟨(some 76), none, .mv (.t 75)⟩,
          ⟨(some 77), (some (76, false)), .load 5 true (.t 15)⟩,
          ⟨(some 78), (some (76, false)), .mv (.t 7)⟩,
          ⟨(some 79), (some (76, false)), .mv (.t 13)⟩,
          ⟨(some 80), (some (76, false)), .iaddr 5 (.t 78) (.t 79)⟩,
          ⟨(some 81), (some (76, false)), .load 5 true (.t 80)⟩,
          ⟨(some 82), (some (76, false)), .call 26 [(.t 77), (.t 81)]⟩,
          ⟨(some 83), (some (76, false)), .un .not (.t 82)⟩,
          ⟨(some 84), none, .pick (.t 76) (.c (.bool true)) (.t 83)⟩,
          ⟨(some 85), none, .mv (.t 84)⟩,
          ⟨(some 86), (some (85, false)), .load 5 true (.t 10)⟩,
          ⟨(some 87), (some (85, false)), .mv (.t 14)⟩,
          ⟨(some 88), (some (85, false)), .bslice 1 [(.t 87)]⟩,
          ⟨(some 89), (some (85, false)), .mkSl 3 56 [(.int .i64 0), (.sl true 1 []), (.sl true 3 [])] (.c (.int .i64 1)) (.c (.int .i64 1))⟩,
          ⟨(some 90), (some (85, false)), .build [(.int .i64 0), (.sl true 1 []), (.sl true 3 [])] [(0, 1, (.c (.int .i64 3))), (1, 1, (.t 88)), (2, 1, (.t 89))]⟩,
          ⟨(some 91), (some (85, false)), .call 27 [(.t 86), (.t 90)]⟩,
          ⟨(some 92), (some (85, false)), .un .not (.t 91)⟩,
          ⟨(some 93), none, .pick (.t 85) (.c (.bool true)) (.t 92)⟩] true)
        (.cond (.t 93) (.seq (.ops [
           ⟨(some 6), none, .mv (.c (.bool false))⟩] false)
         (.ret))
        (.skip)))
       (.ops [
        ⟨(some 94), none, .mv (.t 12)⟩,
        ⟨(some 95), none, .mv (.t 94)⟩,
        ⟨(some 96), (some (95, false)), .mv (.t 14)⟩,
        ⟨(some 97), (some (95, false)), .mv (.t 2)⟩,
        ⟨(some 98), (some (95, false)), .bin .eql (.t 96) (.t 97)⟩,
        ⟨(some 99), none, .pick (.t 95) (.c (.bool true)) (.t 98)⟩,
        ⟨(some 12), none, .mv (.t 99)⟩] false)))))
     (.ops [
      ⟨(some 100), none, .bin .add (.t 63) (.c (.int .i64 1))⟩,
      ⟨(some 63), none, .mv (.t 100)⟩] false)))))))
  (.seq (.ops [
    ⟨(some 101), none, .call 11 []⟩,
    ⟨(some 102), none, .mv (.t 101)⟩,
    ⟨(some 103), (some (102, true)), .load 5 true (.t 10)⟩,
    ⟨(some 104), (some (102, true)), .mv (.t 2)⟩,
    ⟨(some 105), (some (102, true)), .bslice 1 [(.t 104)]⟩,
    ⟨(some 106), (some (102, true)), .mkSl 3 56 [(.int .i64 0), (.sl true 1 []), (.sl true 3 [])] (.c (.int .i64 1)) (.c (.int .i64 1))⟩,
    ⟨(some 107), (some (102, true)), .build [(.int .i64 0), (.sl true 1 []), (.sl true 3 [])] [(0, 1, (.c (.int .i64 3))), (1, 1, (.t 105)), (2, 1, (.t 106))]⟩,
    ⟨(some 108), (some (102, true)), .call 27 [(.t 103), (.t 107)]⟩,
    ⟨(some 109), (some (102, true)), .mv (.t 12)⟩,
    ⟨(some 110), (some (102, true)), .beq false (.t 108) (.t 109)⟩,
    ⟨(some 111), none, .pick (.t 102) (.t 110) (.c (.bool false))⟩,
    ⟨(some 112), none, .mv (.t 111)⟩,
    ⟨(some 113), (some (112, true)), .load 5 true (.t 10)⟩,
    ⟨(some 114), (some (112, true)), .build [(.int .i64 0), (.sl true 1 []), (.sl true 3 [])] []⟩,
    ⟨(some 115), (some (112, true)), .call 27 [(.t 113), (.t 114)]⟩,
    ⟨(some 116), none, .pick (.t 112) (.t 115) (.c (.bool false))⟩,
    ⟨(some 117), none, .mv (.t 116)⟩,
    ⟨(some 118), (some (117, true)), .load 5 true (.t 10)⟩,
    ⟨(some 119), (some (117, true)), .build [(.int .i64 0), (.sl true 1 []), (.sl true 3 [])] [(0, 1, (.c (.int .i64 3)))]⟩,
    ⟨(some 120), (some (117, true)), .call 27 [(.t 118), (.t 119)]⟩,
    ⟨(some 121), none, .pick (.t 117) (.t 120) (.c (.bool false))⟩,
    ⟨(some 122), none, .mv (.t 121)⟩,
    ⟨(some 123), (some (122, true)), .load 5 true (.t 10)⟩,
    ⟨(some 124), (some (122, true)), .build [(.int .i64 0), (.sl true 1 []), (.sl true 3 [])] [(0, 1, (.c (.int .i64 1)))]⟩,
    ⟨(some 125), (some (122, true)), .call 27 [(.t 123), (.t 124)]⟩,
    ⟨(some 126), (some (122, true)), .un .not (.t 125)⟩,
    ⟨(some 127), none, .pick (.t 122) (.t 126) (.c (.bool false))⟩,
    ⟨(some 6), none, .mv (.t 127)⟩] true)
  (.ret)))))))))) }
theorem cf6 : compF Tryd.prog [7] Tryd.f6 = some ir6 := by kernel_rfl
/- whetstone/whetstonelaw11.ValueAsks -/
def ir7 : IFn :=
 { nt := 113, res := [.t 8], body := (
  .seq (.ops [
    ⟨(some 4), none, .box 25 5 (.t 0)⟩,
    ⟨(some 5), none, .box 25 5 (.t 1)⟩,
    ⟨(some 6), none, .box 55 3 (.t 2)⟩,
    ⟨(some 8), none, .mv (.c (.bool false))⟩] false)
  (.seq (.seq (.ops [
     ⟨(some 16), none, .load 5 true (.t 4)⟩,
     ⟨(some 17), none, .call 8 [(.t 16)]⟩,
     ⟨(some 18), none, .un .not (.t 17)⟩,
     ⟨(some 19), none, .mv (.t 18)⟩,
     ⟨(some 20), (some (19, false)), .load 5 true (.t 5)⟩,
     ⟨(some 21), (some (19, false)), .call 8 [(.t 20)]⟩,
     ⟨(some 22), (some (19, false)), .un .not (.t 21)⟩,
     ⟨(some 23), none, .pick (.t 19) (.c (.bool true)) (.t 22)⟩,
     ⟨(some 24), none, .mv (.t 23)⟩,
     ⟨(some 25), (some (24, false)), .load 3 true (.t 6)⟩,
     ⟨(some 26), (some (24, false)), .call 28 [(.t 25)]⟩,
     ⟨(some 27), (some (24, false)), .un .not (.t 26)⟩,
     ⟨(some 28), none, .pick (.t 24) (.c (.bool true)) (.t 27)⟩,
     ⟨(some 29), none, .mv (.t 28)⟩,
     ⟨(some 30), (some (29, false)), .load 3 true (.t 6)⟩,
     ⟨(some 31), (some (29, false)), .call 29 [(.t 30)]⟩,
     ⟨(some 32), (some (29, false)), .un .not (.t 31)⟩,
     ⟨(some 33), none, .pick (.t 29) (.c (.bool true)) (.t 32)⟩,
     ⟨(some 34), none, .mv (.t 33)⟩,
     ⟨(some 35), (some (34, false)), .mv (.t 3)⟩,
     ⟨(some 36), (some (34, false)), .lenS (.t 35)⟩,
     ⟨(some 37), (some (34, false)), .bin .gtr (.t 36) (.c (.int .i64 1000))⟩,
     ⟨(some 38), none, .pick (.t 34) (.c (.bool true)) (.t 37)⟩] false)
   (.cond (.t 38) (.seq (.ops [
      ⟨(some 39), none, .call 11 []⟩,
      ⟨(some 8), none, .mv (.t 39)⟩] false)
    (.ret))
   (.skip)))
  (.seq (.ops [
    ⟨(some 40), none, .load 5 true (.t 4)⟩,
    ⟨(some 41), none, .call 12 [(.t 40)]⟩,
    ⟨(some 9), none, .alloc 30 [(.int .i64 0), (.int .i64 0), (.str []), (.sl true 1 []), (.sl true 5 [])]⟩,
    ⟨none, none, .store 5 (.t 9) (.t 41)⟩] false)
  (.seq (.seq (.ops [
     ⟨(some 42), none, .load 5 true (.t 9)⟩,
     ⟨(some 43), none, .call 24 [(.t 42)]⟩,
     ⟨(some 44), none, .load 5 true (.t 4)⟩,
     ⟨(some 45), none, .call 9 [(.t 44)]⟩,
     ⟨(some 46), none, .beq true (.t 43) (.t 45)⟩,
     ⟨(some 47), none, .mv (.t 46)⟩,
     ⟨(some 48), (some (47, false)), .load 5 true (.t 9)⟩,
     ⟨(some 49), (some (47, false)), .load 5 true (.t 5)⟩,
     ⟨(some 50), (some (47, false)), .call 12 [(.t 49)]⟩,
     ⟨(some 51), (some (47, false)), .call 26 [(.t 48), (.t 50)]⟩,
     ⟨(some 52), (some (47, false)), .load 5 true (.t 4)⟩,
     ⟨(some 53), (some (47, false)), .load 5 true (.t 5)⟩,
     ⟨(some 54), (some (47, false)), .call 14 [(.t 52), (.t 53)]⟩,
     ⟨(some 55), (some (47, false)), .beq true (.t 51) (.t 54)⟩,
     ⟨(some 56), none, .pick (.t 47) (.c (.bool true)) (.t 55)⟩] true)
   (.cond (.t 56) (.seq (.ops [
      ⟨(some 8), none, .mv (.c (.bool false))⟩] false)
    (.ret))
   (.skip)))
  (.seq (.seq (.ops [
     ⟨(some 57), none, .load 5 true (.t 4)⟩,
     ⟨(some 58), none, .call 9 [(.t 57)]⟩,
     ⟨(some 59), none, .un .not (.t 58)⟩] false)
   (.cond (.t 59) (.seq (.ops [
      ⟨(some 60), none, .call 11 []⟩,
      ⟨(some 8), none, .mv (.t 60)⟩] false)
    (.ret))
   (.skip)))
  (.seq (.ops [
    ⟨(some 62), none, .load 5 true (.t 9)⟩,
    ⟨(some 63), none, .mv (.t 3)⟩,
    ⟨(some 64), none, .call 25 [(.t 62), (.t 63)]⟩,
    ⟨(some 61), none, .mv (.t 64)⟩,
    ⟨(some 65), none, .ext (.t 61) 0⟩,
    ⟨(some 66), none, .ext (.t 61) 1⟩,
    ⟨(some 10), none, .alloc 30 [(.int .i64 0), (.int .i64 0), (.str []), (.sl true 1 []), (.sl true 5 [])]⟩,
    ⟨none, none, .store 5 (.t 10) (.t 65)⟩,
    ⟨(some 11), none, .mv (.t 66)⟩] false)
  (.seq (.ops [
    ⟨(some 67), none, .build [(.int .i64 0), (.int .i64 0), (.str []), (.sl true 1 []), (.sl true 5 [])] []⟩,
    ⟨(some 12), none, .alloc 25 [(.int .i64 0), (.int .i64 0), (.str []), (.sl true 1 []), (.sl true 5 [])]⟩,
    ⟨none, none, .store 5 (.t 12) (.t 67)⟩,
    ⟨(some 13), none, .mv (.c (.bool false))⟩] false)
  (.seq (.seq (.ops [
     ⟨(some 68), none, .faddr 3 (.t 4)⟩,
     ⟨(some 69), none, .load 1 false (.t 68)⟩,
     ⟨(some 70), none, .lenL (.t 69)⟩,
     ⟨(some 71), none, .mv (.c (.int .i64 0))⟩] false)
   (.blk 0 (.loop (.seq (.ops [
       ⟨(some 72), none, .bin .lss (.t 71) (.t 70)⟩] false)
     (.seq (.cond (.t 72) (.skip)
      (.exit 0))
     (.seq (.blk 1 (.seq (.ops [
         ⟨(some 73), none, .mv (.t 71)⟩,
         ⟨(some 74), none, .iaddr 1 (.t 69) (.t 71)⟩,
         ⟨(some 75), none, .load 1 false (.t 74)⟩,
         ⟨(some 14), none, .mv (.t 73)⟩,
         ⟨(some 15), none, .mv (.t 75)⟩] false)
       (.seq (.ops [
         ⟨(some 76), none, .mv (.t 15)⟩,
         ⟨(some 77), none, .mv (.t 3)⟩,
         ⟨(some 78), none, .bin .eql (.t 76) (.t 77)⟩] false)
       (.cond (.t 78) (.ops [
         ⟨(some 79), none, .faddr 4 (.t 4)⟩,
         ⟨(some 80), none, .load 1 false (.t 79)⟩,
         ⟨(some 81), none, .mv (.t 14)⟩,
         ⟨(some 82), none, .iaddr 5 (.t 80) (.t 81)⟩,
         ⟨(some 83), none, .load 5 true (.t 82)⟩,
         ⟨none, none, .store 5 (.t 12) (.t 83)⟩,
         ⟨(some 13), none, .mv (.c (.bool true))⟩] false)
       (.skip)))))
     (.ops [
      ⟨(some 84), none, .bin .add (.t 71) (.c (.int .i64 1))⟩,
      ⟨(some 71), none, .mv (.t 84)⟩] false)))))))
  (.seq (.ops [
    ⟨(some 85), none, .call 11 []⟩,
    ⟨(some 86), none, .mv (.t 85)⟩,
    ⟨(some 87), (some (86, true)), .load 5 true (.t 9)⟩,
    ⟨(some 88), (some (86, true)), .call 13 [(.t 87)]⟩,
    ⟨(some 89), (some (86, true)), .load 5 true (.t 4)⟩,
    ⟨(some 90), (some (86, true)), .call 30 [(.t 89)]⟩,
    ⟨(some 91), (some (86, true)), .bin .eql (.t 88) (.t 90)⟩,
    ⟨(some 92), none, .pick (.t 86) (.t 91) (.c (.bool false))⟩,
    ⟨(some 93), none, .mv (.t 92)⟩,
    ⟨(some 94), (some (93, true)), .load 5 true (.t 9)⟩,
    ⟨(some 95), (some (93, true)), .load 3 true (.t 6)⟩,
    ⟨(some 96), (some (93, true)), .call 27 [(.t 94), (.t 95)]⟩,
    ⟨(some 97), (some (93, true)), .load 5 true (.t 4)⟩,
    ⟨(some 98), (some (93, true)), .load 3 true (.t 6)⟩,
    ⟨(some 99), (some (93, true)), .call 31 [(.t 97), (.t 98)]⟩,
    ⟨(some 100), (some (93, true)), .beq false (.t 96) (.t 99)⟩,
    ⟨(some 101), none, .pick (.t 93) (.t 100) (.c (.bool false))⟩,
    ⟨(some 102), none, .mv (.t 101)⟩,
    ⟨(some 103), (some (102, true)), .mv (.t 11)⟩,
    ⟨(some 104), (some (102, true)), .mv (.t 13)⟩,
    ⟨(some 105), (some (102, true)), .beq false (.t 103) (.t 104)⟩,
    ⟨(some 106), none, .pick (.t 102) (.t 105) (.c (.bool false))⟩,
    ⟨(some 107), none, .mv (.t 106)⟩,
    ⟨(some 108), (some (107, true)), .load 5 true (.t 10)⟩,
    ⟨(some 109), (some (107, true)), .call 17 [(.t 108)]⟩,
    ⟨(some 110), (some (107, true)), .load 5 true (.t 12)⟩,
    ⟨(some 111), (some (107, true)), .call 14 [(.t 109), (.t 110)]⟩,
    ⟨(some 112), none, .pick (.t 107) (.t 111) (.c (.bool false))⟩,
    ⟨(some 8), none, .mv (.t 112)⟩] true)
  (.ret)))))))))) }
theorem cf7 : compF Tryd.prog [] Tryd.f7 = some ir7 := by kernel_rfl
/- whetstone/whetstonelaw11.light -/
def ir8 : IFn :=
 { nt := 5, res := [.t 2], body := (
  .seq (.ops [
    ⟨(some 1), none, .box 25 5 (.t 0)⟩,
    ⟨(some 2), none, .mv (.c (.bool false))⟩] false)
  (.seq (.ops [
    ⟨(some 3), none, .load 5 true (.t 1)⟩,
    ⟨(some 4), none, .call 32 [(.t 3), (.c (.int .i64 500)), (.c (.int .i64 30))]⟩,
    ⟨(some 2), none, .mv (.t 4)⟩] false)
  (.ret))) }
theorem cf8 : compF Tryd.prog [] Tryd.f8 = some ir8 := by kernel_rfl
/- whetstone/whetstoneref11.Right -/
def ir9 : IFn :=
 { nt := 102, res := [.t 2], body := (
  .seq (.ops [
    ⟨(some 1), none, .box 25 5 (.t 0)⟩,
    ⟨(some 2), none, .mv (.c (.bool false))⟩] false)
  (.seq (.seq (.ops [
     ⟨(some 4), none, .faddr 0 (.t 1)⟩,
     ⟨(some 5), none, .load 1 false (.t 4)⟩,
     ⟨(some 6), none, .bin .lss (.t 5) (.c (.int .i64 1))⟩,
     ⟨(some 7), none, .mv (.t 6)⟩,
     ⟨(some 8), (some (7, false)), .faddr 0 (.t 1)⟩,
     ⟨(some 9), (some (7, false)), .load 1 false (.t 8)⟩,
     ⟨(some 10), (some (7, false)), .bin .gtr (.t 9) (.c (.int .i64 4))⟩,
     ⟨(some 11), none, .pick (.t 7) (.c (.bool true)) (.t 10)⟩,
     ⟨(some 12), none, .mv (.t 11)⟩,
     ⟨(some 13), (some (12, false)), .faddr 0 (.t 1)⟩,
     ⟨(some 14), (some (12, false)), .load 1 false (.t 13)⟩,
     ⟨(some 15), (some (12, false)), .bin .neq (.t 14) (.c (.int .i64 2))⟩,
     ⟨(some 16), (some (12, false)), .mv (.t 15)⟩,
     ⟨(some 17), (some (16, true)), .faddr 2 (.t 1)⟩,
     ⟨(some 18), (some (16, true)), .load 1 false (.t 17)⟩,
     ⟨(some 19), (some (16, true)), .lenS (.t 18)⟩,
     ⟨(some 20), (some (16, true)), .bin .gtr (.t 19) (.c (.int .i64 0))⟩,
     ⟨(some 21), (some (12, false)), .pick (.t 16) (.t 20) (.c (.bool false))⟩,
     ⟨(some 22), none, .pick (.t 12) (.c (.bool true)) (.t 21)⟩,
     ⟨(some 23), none, .mv (.t 22)⟩,
     ⟨(some 24), (some (23, false)), .faddr 0 (.t 1)⟩,
     ⟨(some 25), (some (23, false)), .load 1 false (.t 24)⟩,
     ⟨(some 26), (some (23, false)), .bin .eql (.t 25) (.c (.int .i64 2))⟩,
     ⟨(some 27), (some (23, false)), .mv (.t 26)⟩,
     ⟨(some 28), (some (27, false)), .faddr 0 (.t 1)⟩,
     ⟨(some 29), (some (27, false)), .load 1 false (.t 28)⟩,
     ⟨(some 30), (some (27, false)), .bin .eql (.t 29) (.c (.int .i64 3))⟩,
     ⟨(some 31), (some (23, false)), .pick (.t 27) (.c (.bool true)) (.t 30)⟩,
     ⟨(some 32), (some (23, false)), .mv (.t 31)⟩,
     ⟨(some 33), (some (32, true)), .faddr 1 (.t 1)⟩,
     ⟨(some 34), (some (32, true)), .load 1 false (.t 33)⟩,
     ⟨(some 35), (some (32, true)), .bin .neq (.t 34) (.c (.int .i64 0))⟩,
     ⟨(some 36), (some (23, false)), .pick (.t 32) (.t 35) (.c (.bool false))⟩,
     ⟨(some 37), none, .pick (.t 23) (.c (.bool true)) (.t 36)⟩,
     ⟨(some 38), none, .mv (.t 37)⟩,
     ⟨(some 39), (some (38, false)), .faddr 0 (.t 1)⟩,
     ⟨(some 40), (some (38, false)), .load 1 false (.t 39)⟩,
     ⟨(some 41), (some (38, false)), .bin .eql (.t 40) (.c (.int .i64 4))⟩,
     ⟨(some 42), (some (38, false)), .mv (.t 41)⟩,
     ⟨(some 43), (some (42, true)), .faddr 1 (.t 1)⟩,
     ⟨(some 44), (some (42, true)), .load 1 false (.t 43)⟩,
     ⟨(some 45), (some (42, true)), .bin .lss (.t 44) (.c (.int .i64 0))⟩,
     ⟨(some 46), (some (38, false)), .pick (.t 42) (.t 45) (.c (.bool false))⟩,
     ⟨(some 47), none, .pick (.t 38) (.c (.bool true)) (.t 46)⟩] false)
   (.cond (.t 47) (.seq (.ops [
      ⟨(some 2), none, .mv (.c (.bool false))⟩] false)
    (.ret))
   (.skip)))
  (.seq (.seq (.ops [
     ⟨(some 48), none, .faddr 0 (.t 1)⟩,
     ⟨(some 49), none, .load 1 false (.t 48)⟩,
     ⟨(some 50), none, .bin .neq (.t 49) (.c (.int .i64 3))⟩,
     ⟨(some 51), none, .mv (.t 50)⟩,
     ⟨(some 52), (some (51, true)), .faddr 3 (.t 1)⟩,
     ⟨(some 53), (some (51, true)), .load 1 false (.t 52)⟩,
     ⟨(some 54), (some (51, true)), .lenL (.t 53)⟩,
     ⟨(some 55), (some (51, true)), .faddr 4 (.t 1)⟩,
     ⟨(some 56), (some (51, true)), .load 1 false (.t 55)⟩,
     ⟨(some 57), (some (51, true)), .lenL (.t 56)⟩,
     ⟨(some 58), (some (51, true)), .bin .add (.t 54) (.t 57)⟩,
     ⟨(some 59), (some (51, true)), .bin .gtr (.t 58) (.c (.int .i64 0))⟩,
     ⟨(some 60), none, .pick (.t 51) (.t 59) (.c (.bool false))⟩,
     ⟨(some 61), none, .mv (.t 60)⟩,
     ⟨(some 62), (some (61, false)), .faddr 3 (.t 1)⟩,
     ⟨(some 63), (some (61, false)), .load 1 false (.t 62)⟩,
     ⟨(some 64), (some (61, false)), .lenL (.t 63)⟩,
     ⟨(some 65), (some (61, false)), .faddr 4 (.t 1)⟩,
     ⟨(some 66), (some (61, false)), .load 1 false (.t 65)⟩,
     ⟨(some 67), (some (61, false)), .lenL (.t 66)⟩,
     ⟨(some 68), (some (61, false)), .bin .neq (.t 64) (.t 67)⟩,
     ⟨(some 69), none, .pick (.t 61) (.c (.bool true)) (.t 68)⟩] false)
   (.cond (.t 69) (.seq (.ops [
      ⟨(some 2), none, .mv (.c (.bool false))⟩] false)
    (.ret))
   (.skip)))
  (.seq (.seq (.ops [
     ⟨(some 3), none, .mv (.c (.int .i64 0))⟩] false)
   (.blk 0 (.loop (.seq (.seq (.ops [
        ⟨(some 70), none, .mv (.t 3)⟩,
        ⟨(some 71), none, .faddr 3 (.t 1)⟩,
        ⟨(some 72), none, .load 1 false (.t 71)⟩,
        ⟨(some 73), none, .lenL (.t 72)⟩,
        ⟨(some 74), none, .bin .lss (.t 70) (.t 73)⟩] false)
      (.cond (.t 74) (.skip)
      (.exit 0)))
     (.seq (.blk 1 (.seq (.ops [
         ⟨(some 77), none, .mv (.t 3)⟩,
         ⟨(some 78), none, .bin .gtr (.t 77) (.c (.int .i64 0))⟩,
         ⟨(some 79), none, .mv (.t 78)⟩,
         ⟨(some 80), (some (79, true)), .faddr 3 (.t 1)⟩,
         ⟨(some 81), (some (79, true)), .load 1 false (.t 80)⟩,
         ⟨(some 82), (some (79, true)), .mv (.t 3)⟩,
         ⟨(some 83), (some (79, true)), .iaddr 1 (.t 81) (.t 82)⟩,
         ⟨(some 84), (some (79, true)), .load 1 false (.t 83)⟩,
         ⟨(some 85), (some (79, true)), .faddr 3 (.t 1)⟩,
         ⟨(some 86), (some (79, true)), .load 1 false (.t 85)⟩,
         ⟨(some 87), (some (79, true)), .mv (.t 3)⟩,
         ⟨(some 88), (some (79, true)), .bin .sub (.t 87) (.c (.int .i64 1))⟩,
         ⟨(some 89), (some (79, true)), .iaddr 1 (.t 86) (.t 88)⟩,
         ⟨(some 90), (some (79, true)), .load 1 false (.t 89)⟩,
         ⟨(some 91), (some (79, true)), .bin .leq (.t 84) (.t 90)⟩,
         ⟨(some 92), none, .pick (.t 79) (.t 91) (.c (.bool false))⟩,
         ⟨(some 93), none, .mv (.t 92)⟩,
         ⟨(some 94), (some (93, false)), .faddr 4 (.t 1)⟩,
         ⟨(some 95), (some (93, false)), .load 1 false (.t 94)⟩,
         ⟨(some 96), (some (93, false)), .mv (.t 3)⟩,
         ⟨(some 97), (some (93, false)), .iaddr 5 (.t 95) (.t 96)⟩,
         ⟨(some 98), (some (93, false)), .load 5 true (.t 97)⟩,
         ⟨(some 99), (some (93, false)), .call 9 [(.t 98)]⟩,
         ⟨(some 100), (some (93, false)), .un .not (.t 99)⟩,
         ⟨(some 101), none, .pick (.t 93) (.c (.bool true)) (.t 100)⟩] true)
       (.cond (.t 101) (.seq (.ops [
          ⟨(some 2), none, .mv (.c (.bool false))⟩] false)
        (.ret))
       (.skip))))
     (.ops [
      ⟨(some 75), none, .mv (.t 3)⟩,
      ⟨(some 76), none, .bin .add (.t 75) (.c (.int .i64 1))⟩,
      ⟨(some 3), none, .mv (.t 76)⟩] false))))))
  (.seq (.ops [
    ⟨(some 2), none, .mv (.c (.bool true))⟩] false)
  (.ret)))))) }
theorem cf9 : compF Tryd.prog [] Tryd.f9 = some ir9 := by kernel_rfl
/- whetstone/whetstonelaw11.named -/
def ir10 : IFn :=
 { nt := 26, res := [.t 2], body := (
  .seq (.ops [
    ⟨(some 1), none, .box 25 5 (.t 0)⟩,
    ⟨(some 2), none, .mv (.c (.bool false))⟩] false)
  (.seq (.seq (.ops [
     ⟨(some 5), none, .faddr 3 (.t 1)⟩,
     ⟨(some 6), none, .load 1 false (.t 5)⟩,
     ⟨(some 7), none, .lenL (.t 6)⟩,
     ⟨(some 8), none, .mv (.c (.int .i64 0))⟩] false)
   (.blk 0 (.loop (.seq (.ops [
       ⟨(some 9), none, .bin .lss (.t 8) (.t 7)⟩] false)
     (.seq (.cond (.t 9) (.skip)
      (.exit 0))
     (.seq (.blk 1 (.seq (.ops [
         ⟨(some 10), none, .mv (.t 8)⟩,
         ⟨(some 11), none, .iaddr 1 (.t 6) (.t 8)⟩,
         ⟨(some 12), none, .load 1 false (.t 11)⟩,
         ⟨(some 3), none, .mv (.t 10)⟩,
         ⟨(some 4), none, .mv (.t 12)⟩] false)
       (.seq (.ops [
         ⟨(some 13), none, .mv (.t 4)⟩,
         ⟨(some 14), none, .call 33 [(.t 13)]⟩,
         ⟨(some 15), none, .un .not (.t 14)⟩,
         ⟨(some 16), none, .mv (.t 15)⟩,
         ⟨(some 17), (some (16, false)), .faddr 4 (.t 1)⟩,
         ⟨(some 18), (some (16, false)), .load 1 false (.t 17)⟩,
         ⟨(some 19), (some (16, false)), .mv (.t 3)⟩,
         ⟨(some 20), (some (16, false)), .iaddr 5 (.t 18) (.t 19)⟩,
         ⟨(some 21), (some (16, false)), .load 5 true (.t 20)⟩,
         ⟨(some 22), (some (16, false)), .call 10 [(.t 21)]⟩,
         ⟨(some 23), (some (16, false)), .un .not (.t 22)⟩,
         ⟨(some 24), none, .pick (.t 16) (.c (.bool true)) (.t 23)⟩] false)
       (.cond (.t 24) (.seq (.ops [
          ⟨(some 2), none, .mv (.c (.bool false))⟩] false)
        (.ret))
       (.skip)))))
     (.ops [
      ⟨(some 25), none, .bin .add (.t 8) (.c (.int .i64 1))⟩,
      ⟨(some 8), none, .mv (.t 25)⟩] false)))))))
  (.seq (.ops [
    ⟨(some 2), none, .mv (.c (.bool true))⟩] false)
  (.ret)))) }
theorem cf10 : compF Tryd.prog [] Tryd.f10 = some ir10 := by kernel_rfl
/- whetstone/whetstonelaw11.awake -/
def ir11 : IFn :=
 { nt := 18, res := [.t 0], body := (
  .seq (.ops [
    ⟨(some 0), none, .mv (.c (.bool false))⟩] false)
  (.seq (.ops [
    ⟨(some 4), none, .bslice 1 [(.c (.str [98])), (.c (.str [97]))]⟩,
    ⟨(some 5), none, .call 18 [(.c (.int .i64 1))]⟩,
    ⟨(some 6), none, .call 19 [(.c (.str [120]))]⟩,
    ⟨(some 7), none, .bslice 5 [(.t 5), (.t 6)]⟩,
    ⟨(some 8), none, .call 15 [(.t 4), (.t 7)]⟩,
    ⟨(some 3), none, .mv (.t 8)⟩,
    ⟨(some 9), none, .ext (.t 3) 0⟩,
    ⟨(some 10), none, .ext (.t 3) 1⟩,
    ⟨(some 1), none, .alloc 30 [(.int .i64 0), (.int .i64 0), (.str []), (.sl true 1 []), (.sl true 5 [])]⟩,
    ⟨none, none, .store 5 (.t 1) (.t 9)⟩,
    ⟨(some 2), none, .mv (.t 10)⟩] false)
  (.seq (.ops [
    ⟨(some 11), none, .mv (.t 2)⟩,
    ⟨(some 12), none, .bin .eql (.t 11) (.c (.int .i64 0))⟩,
    ⟨(some 13), none, .mv (.t 12)⟩,
    ⟨(some 14), (some (13, true)), .load 5 true (.t 1)⟩,
    ⟨(some 15), (some (13, true)), .call 13 [(.t 14)]⟩,
    ⟨(some 16), (some (13, true)), .bin .eql (.t 15) (.c (.str [123, 97, 58, 32, 34, 120, 34, 44, 32, 98, 58, 32, 49, 125]))⟩,
    ⟨(some 17), none, .pick (.t 13) (.t 16) (.c (.bool false))⟩,
    ⟨(some 0), none, .mv (.t 17)⟩] false)
  (.ret)))) }
theorem cf11 : compF Tryd.prog [] Tryd.f11 = some ir11 := by kernel_rfl
/- whetstone/whetstonelaw11.To -/
def ir12 : IFn :=
 { nt := 31, res := [.cell 2 5 true], body := (
  .seq (.ops [
    ⟨(some 1), none, .box 25 5 (.t 0)⟩,
    ⟨(some 2), none, .alloc 30 [(.int .i64 0), (.int .i64 0), (.str []), (.sl true 1 []), (.sl true 5 [])]⟩] false)
  (.seq (.ops [
    ⟨(some 6), none, .faddr 0 (.t 1)⟩,
    ⟨(some 7), none, .load 1 false (.t 6)⟩,
    ⟨(some 8), none, .faddr 1 (.t 1)⟩,
    ⟨(some 9), none, .load 1 false (.t 8)⟩,
    ⟨(some 10), none, .faddr 2 (.t 1)⟩,
    ⟨(some 11), none, .load 1 false (.t 10)⟩,
    ⟨(some 12), none, .faddr 3 (.t 1)⟩,
    ⟨(some 13), none, .load 1 false (.t 12)⟩,
    ⟨(some 14), none, .buildT [(4, 5, 30)] [(.int .i64 0), (.int .i64 0), (.str []), (.sl true 1 []), (.sl true 5 [])] [(0, 1, (.t 7)), (1, 1, (.t 9)), (2, 1, (.t 11)), (3, 1, (.t 13))]⟩,
    ⟨(some 3), none, .alloc 30 [(.int .i64 0), (.int .i64 0), (.str []), (.sl true 1 []), (.sl true 5 [])]⟩,
    ⟨none, none, .store 5 (.t 3) (.t 14)⟩] false)
  (.seq (.seq (.ops [
     ⟨(some 15), none, .faddr 4 (.t 1)⟩,
     ⟨(some 16), none, .load 1 false (.t 15)⟩,
     ⟨(some 17), none, .lenL (.t 16)⟩,
     ⟨(some 18), none, .mv (.c (.int .i64 0))⟩] false)
   (.blk 0 (.loop (.seq (.ops [
       ⟨(some 19), none, .bin .lss (.t 18) (.t 17)⟩] false)
     (.seq (.cond (.t 19) (.skip)
      (.exit 0))
     (.seq (.blk 1 (.seq (.ops [
         ⟨(some 20), none, .iaddr 5 (.t 16) (.t 18)⟩,
         ⟨(some 21), none, .load 5 true (.t 20)⟩,
         ⟨(some 5), none, .alloc 25 [(.int .i64 0), (.int .i64 0), (.str []), (.sl true 1 []), (.sl true 5 [])]⟩,
         ⟨none, none, .store 5 (.t 5) (.t 21)⟩] false)
       (.ops [
        ⟨(some 22), none, .faddr 4 (.t 3)⟩,
        ⟨(some 23), none, .load 1 false (.t 22)⟩,
        ⟨(some 24), none, .load 5 true (.t 5)⟩,
        ⟨(some 25), none, .call 12 [(.t 24)]⟩,
        ⟨(some 26), none, .bslice 5 [(.t 25)]⟩,
        ⟨(some 27), none, .app 5 80 30 (.t 23) (.t 26)⟩,
        ⟨(some 28), none, .faddr 4 (.t 3)⟩,
        ⟨none, none, .store 1 (.t 28) (.t 27)⟩] true)))
     (.ops [
      ⟨(some 29), none, .bin .add (.t 18) (.c (.int .i64 1))⟩,
      ⟨(some 18), none, .mv (.t 29)⟩] false)))))))
  (.seq (.ops [
    ⟨(some 30), none, .load 5 true (.t 3)⟩,
    ⟨none, none, .store 5 (.t 2) (.t 30)⟩] false)
  (.ret))))) }
theorem cf12 : compF Tryd.prog [14] Tryd.f12 = some ir12 := by kernel_rfl
/- (whetstone/value.Value).Text -/
def ir13 : IFn :=
 { nt := 56, res := [.t 2], body := (
  .seq (.ops [
    ⟨(some 1), none, .box 30 5 (.t 0)⟩,
    ⟨(some 2), none, .mv (.c (.str []))⟩] false)
  (.seq (.seq (.ops [
     ⟨(some 6), none, .faddr 0 (.t 1)⟩,
     ⟨(some 7), none, .load 1 false (.t 6)⟩] false)
   (.blk 0 (.seq (.ops [
      ⟨(some 9), none, .bin .eql (.t 7) (.c (.int .i64 1))⟩,
      ⟨(some 8), none, .mv (.t 9)⟩] false)
    (.cond (.t 8) (.seq (.ops [
       ⟨(some 10), none, .faddr 1 (.t 1)⟩,
       ⟨(some 11), none, .load 1 false (.t 10)⟩,
       ⟨(some 12), none, .call 34 [(.t 11), (.c (.int .i64 10))]⟩,
       ⟨(some 2), none, .mv (.t 12)⟩] false)
     (.ret))
    (.seq (.ops [
       ⟨(some 14), none, .bin .eql (.t 7) (.c (.int .i64 2))⟩,
       ⟨(some 13), none, .mv (.t 14)⟩] false)
     (.cond (.t 13) (.seq (.ops [
        ⟨(some 15), none, .faddr 2 (.t 1)⟩,
        ⟨(some 16), none, .load 1 false (.t 15)⟩,
        ⟨(some 17), none, .call 35 [(.t 16)]⟩,
        ⟨(some 2), none, .mv (.t 17)⟩] false)
      (.ret))
     (.seq (.ops [
        ⟨(some 19), none, .bin .eql (.t 7) (.c (.int .i64 4))⟩,
        ⟨(some 18), none, .mv (.t 19)⟩] false)
      (.cond (.t 18) (.seq (.ops [
         ⟨(some 20), none, .faddr 1 (.t 1)⟩,
         ⟨(some 21), none, .load 1 false (.t 20)⟩,
         ⟨(some 22), none, .call 34 [(.t 21), (.c (.int .i64 10))]⟩,
         ⟨(some 23), none, .bin .add (.c (.str [102, 110, 47])) (.t 22)⟩,
         ⟨(some 2), none, .mv (.t 23)⟩] false)
       (.ret))
      (.seq (.ops [
         ⟨(some 25), none, .bin .eql (.t 7) (.c (.int .i64 3))⟩,
         ⟨(some 24), none, .mv (.t 25)⟩] false)
       (.cond (.t 24) (.seq (.ops [
          ⟨(some 3), none, .nilT 1 9⟩] false)
        (.seq (.seq (.ops [
           ⟨(some 26), none, .faddr 3 (.t 1)⟩,
           ⟨(some 27), none, .load 1 false (.t 26)⟩,
           ⟨(some 28), none, .lenL (.t 27)⟩,
           ⟨(some 29), none, .mv (.c (.int .i64 0))⟩] false)
         (.blk 1 (.loop (.seq (.ops [
             ⟨(some 30), none, .bin .lss (.t 29) (.t 28)⟩] false)
           (.seq (.cond (.t 30) (.skip)
            (.exit 1))
           (.seq (.blk 2 (.seq (.ops [
               ⟨(some 31), none, .mv (.t 29)⟩,
               ⟨(some 32), none, .iaddr 1 (.t 27) (.t 29)⟩,
               ⟨(some 33), none, .load 1 false (.t 32)⟩,
               ⟨(some 4), none, .mv (.t 31)⟩,
               ⟨(some 5), none, .mv (.t 33)⟩] false)
             (.seq (.ops [
               ⟨(some 34), none, .mv (.t 4)⟩,
               ⟨(some 35), none, .faddr 4 (.t 1)⟩,
               ⟨(some 36), none, .load 1 false (.t 35)⟩,
               ⟨(some 37), none, .lenL (.t 36)⟩,
               ⟨(some 38), none, .bin .lss (.t 34) (.t 37)⟩] false)
             (.cond (.t 38) (.ops [
               ⟨(some 39), none, .mv (.t 3)⟩,
               ⟨(some 40), none, .mv (.t 5)⟩,
               ⟨(some 41), none, .bin .add (.t 40) (.c (.str [58, 32]))⟩,
               ⟨(some 42), none, .faddr 4 (.t 1)⟩,
               ⟨(some 43), none, .load 1 false (.t 42)⟩,
               ⟨(some 44), none, .mv (.t 4)⟩,
               ⟨(some 45), none, .iaddr 5 (.t 43) (.t 44)⟩,
               ⟨(some 46), none, .load 5 true (.t 45)⟩,
               ⟨(some 47), none, .call 13 [(.t 46)]⟩,
               ⟨(some 48), none, .bin .add (.t 41) (.t 47)⟩,
               ⟨(some 49), none, .bslice 1 [(.t 48)]⟩,
               ⟨(some 50), none, .app 1 16 9 (.t 39) (.t 49)⟩,
               ⟨(some 3), none, .mv (.t 50)⟩] false)
             (.skip)))))
           (.ops [
            ⟨(some 51), none, .bin .add (.t 29) (.c (.int .i64 1))⟩,
            ⟨(some 29), none, .mv (.t 51)⟩] false)))))))
        (.seq (.ops [
          ⟨(some 52), none, .mv (.t 3)⟩,
          ⟨(some 53), none, .call 36 [(.t 52), (.c (.str [44, 32]))]⟩,
          ⟨(some 54), none, .bin .add (.c (.str [123])) (.t 53)⟩,
          ⟨(some 55), none, .bin .add (.t 54) (.c (.str [125]))⟩,
          ⟨(some 2), none, .mv (.t 55)⟩] false)
        (.ret))))
       (.skip)))))))))))
  (.seq (.ops [
    ⟨(some 2), none, .mv (.c (.str [63]))⟩] false)
  (.ret)))) }
theorem cf13 : compF Tryd.prog [3] Tryd.f13 = some ir13 := by kernel_rfl
/- whetstone/whetstoneref11.Same -/
def ir14 : IFn :=
 { nt := 81, res := [.t 4], body := (
  .seq (.ops [
    ⟨(some 2), none, .box 25 5 (.t 0)⟩,
    ⟨(some 3), none, .box 25 5 (.t 1)⟩,
    ⟨(some 4), none, .mv (.c (.bool false))⟩] false)
  (.seq (.seq (.ops [
     ⟨(some 7), none, .faddr 0 (.t 2)⟩,
     ⟨(some 8), none, .load 1 false (.t 7)⟩,
     ⟨(some 9), none, .faddr 0 (.t 3)⟩,
     ⟨(some 10), none, .load 1 false (.t 9)⟩,
     ⟨(some 11), none, .bin .neq (.t 8) (.t 10)⟩,
     ⟨(some 12), none, .mv (.t 11)⟩,
     ⟨(some 13), (some (12, false)), .faddr 1 (.t 2)⟩,
     ⟨(some 14), (some (12, false)), .load 1 false (.t 13)⟩,
     ⟨(some 15), (some (12, false)), .faddr 1 (.t 3)⟩,
     ⟨(some 16), (some (12, false)), .load 1 false (.t 15)⟩,
     ⟨(some 17), (some (12, false)), .bin .neq (.t 14) (.t 16)⟩,
     ⟨(some 18), none, .pick (.t 12) (.c (.bool true)) (.t 17)⟩,
     ⟨(some 19), none, .mv (.t 18)⟩,
     ⟨(some 20), (some (19, false)), .faddr 2 (.t 2)⟩,
     ⟨(some 21), (some (19, false)), .load 1 false (.t 20)⟩,
     ⟨(some 22), (some (19, false)), .faddr 2 (.t 3)⟩,
     ⟨(some 23), (some (19, false)), .load 1 false (.t 22)⟩,
     ⟨(some 24), (some (19, false)), .bin .neq (.t 21) (.t 23)⟩,
     ⟨(some 25), none, .pick (.t 19) (.c (.bool true)) (.t 24)⟩,
     ⟨(some 26), none, .mv (.t 25)⟩,
     ⟨(some 27), (some (26, false)), .faddr 3 (.t 2)⟩,
     ⟨(some 28), (some (26, false)), .load 1 false (.t 27)⟩,
     ⟨(some 29), (some (26, false)), .lenL (.t 28)⟩,
     ⟨(some 30), (some (26, false)), .faddr 3 (.t 3)⟩,
     ⟨(some 31), (some (26, false)), .load 1 false (.t 30)⟩,
     ⟨(some 32), (some (26, false)), .lenL (.t 31)⟩,
     ⟨(some 33), (some (26, false)), .bin .neq (.t 29) (.t 32)⟩,
     ⟨(some 34), none, .pick (.t 26) (.c (.bool true)) (.t 33)⟩,
     ⟨(some 35), none, .mv (.t 34)⟩,
     ⟨(some 36), (some (35, false)), .faddr 4 (.t 2)⟩,
     ⟨(some 37), (some (35, false)), .load 1 false (.t 36)⟩,
     ⟨(some 38), (some (35, false)), .lenL (.t 37)⟩,
     ⟨(some 39), (some (35, false)), .faddr 4 (.t 3)⟩,
     ⟨(some 40), (some (35, false)), .load 1 false (.t 39)⟩,
     ⟨(some 41), (some (35, false)), .lenL (.t 40)⟩,
     ⟨(some 42), (some (35, false)), .bin .neq (.t 38) (.t 41)⟩,
     ⟨(some 43), none, .pick (.t 35) (.c (.bool true)) (.t 42)⟩] false)
   (.cond (.t 43) (.seq (.ops [
      ⟨(some 4), none, .mv (.c (.bool false))⟩] false)
    (.ret))
   (.skip)))
  (.seq (.seq (.ops [
     ⟨(some 5), none, .mv (.c (.int .i64 0))⟩] false)
   (.blk 0 (.loop (.seq (.seq (.ops [
        ⟨(some 44), none, .mv (.t 5)⟩,
        ⟨(some 45), none, .faddr 3 (.t 2)⟩,
        ⟨(some 46), none, .load 1 false (.t 45)⟩,
        ⟨(some 47), none, .lenL (.t 46)⟩,
        ⟨(some 48), none, .bin .lss (.t 44) (.t 47)⟩] false)
      (.cond (.t 48) (.skip)
      (.exit 0)))
     (.seq (.blk 1 (.seq (.ops [
         ⟨(some 51), none, .faddr 3 (.t 2)⟩,
         ⟨(some 52), none, .load 1 false (.t 51)⟩,
         ⟨(some 53), none, .mv (.t 5)⟩,
         ⟨(some 54), none, .iaddr 1 (.t 52) (.t 53)⟩,
         ⟨(some 55), none, .load 1 false (.t 54)⟩,
         ⟨(some 56), none, .faddr 3 (.t 3)⟩,
         ⟨(some 57), none, .load 1 false (.t 56)⟩,
         ⟨(some 58), none, .mv (.t 5)⟩,
         ⟨(some 59), none, .iaddr 1 (.t 57) (.t 58)⟩,
         ⟨(some 60), none, .load 1 false (.t 59)⟩,
         ⟨(some 61), none, .bin .neq (.t 55) (.t 60)⟩] true)
       (.cond (.t 61) (.seq (.ops [
          ⟨(some 4), none, .mv (.c (.bool false))⟩] false)
        (.ret))
       (.skip))))
     (.ops [
      ⟨(some 49), none, .mv (.t 5)⟩,
      ⟨(some 50), none, .bin .add (.t 49) (.c (.int .i64 1))⟩,
      ⟨(some 5), none, .mv (.t 50)⟩] false))))))
  (.seq (.seq (.ops [
     ⟨(some 6), none, .mv (.c (.int .i64 0))⟩] false)
   (.blk 2 (.loop (.seq (.seq (.ops [
        ⟨(some 62), none, .mv (.t 6)⟩,
        ⟨(some 63), none, .faddr 4 (.t 2)⟩,
        ⟨(some 64), none, .load 1 false (.t 63)⟩,
        ⟨(some 65), none, .lenL (.t 64)⟩,
        ⟨(some 66), none, .bin .lss (.t 62) (.t 65)⟩] false)
      (.cond (.t 66) (.skip)
      (.exit 2)))
     (.seq (.blk 3 (.seq (.ops [
         ⟨(some 69), none, .faddr 4 (.t 2)⟩,
         ⟨(some 70), none, .load 1 false (.t 69)⟩,
         ⟨(some 71), none, .mv (.t 6)⟩,
         ⟨(some 72), none, .iaddr 5 (.t 70) (.t 71)⟩,
         ⟨(some 73), none, .load 5 true (.t 72)⟩,
         ⟨(some 74), none, .faddr 4 (.t 3)⟩,
         ⟨(some 75), none, .load 1 false (.t 74)⟩,
         ⟨(some 76), none, .mv (.t 6)⟩,
         ⟨(some 77), none, .iaddr 5 (.t 75) (.t 76)⟩,
         ⟨(some 78), none, .load 5 true (.t 77)⟩,
         ⟨(some 79), none, .call 14 [(.t 73), (.t 78)]⟩,
         ⟨(some 80), none, .un .not (.t 79)⟩] true)
       (.cond (.t 80) (.seq (.ops [
          ⟨(some 4), none, .mv (.c (.bool false))⟩] false)
        (.ret))
       (.skip))))
     (.ops [
      ⟨(some 67), none, .mv (.t 6)⟩,
      ⟨(some 68), none, .bin .add (.t 67) (.c (.int .i64 1))⟩,
      ⟨(some 6), none, .mv (.t 68)⟩] false))))))
  (.seq (.ops [
    ⟨(some 4), none, .mv (.c (.bool true))⟩] false)
  (.ret)))))) }
theorem cf14 : compF Tryd.prog [] Tryd.f14 = some ir14 := by kernel_rfl
/- whetstone/value.Rec -/
def ir15 : IFn :=
 { nt := 75, res := [.cell 4 5 true, .t 5], body := (
  .seq (.ops [
    ⟨(some 4), none, .alloc 30 [(.int .i64 0), (.int .i64 0), (.str []), (.sl true 1 []), (.sl true 5 [])]⟩,
    ⟨(some 5), none, .mv (.c (.int .i64 0))⟩] false)
  (.seq (.seq (.ops [
     ⟨(some 12), none, .mv (.t 0)⟩,
     ⟨(some 13), none, .lenL (.t 12)⟩,
     ⟨(some 14), none, .mv (.t 1)⟩,
     ⟨(some 15), none, .lenL (.t 14)⟩,
     ⟨(some 16), none, .bin .neq (.t 13) (.t 15)⟩] false)
   (.cond (.t 16) (.seq (.ops [
      ⟨(some 17), none, .build [(.int .i64 0), (.int .i64 0), (.str []), (.sl true 1 []), (.sl true 5 [])] []⟩,
      ⟨none, none, .store 5 (.t 4) (.t 17)⟩,
      ⟨(some 5), none, .mv (.c (.int .i64 1))⟩] false)
    (.ret))
   (.skip)))
  (.seq (.ops [
    ⟨(some 6), none, .mv (.c (.sl true 6 []))⟩] false)
  (.seq (.seq (.ops [
     ⟨(some 18), none, .mv (.t 0)⟩,
     ⟨(some 19), none, .lenL (.t 18)⟩,
     ⟨(some 20), none, .mv (.c (.int .i64 0))⟩] false)
   (.blk 0 (.loop (.seq (.ops [
       ⟨(some 21), none, .bin .lss (.t 20) (.t 19)⟩] false)
     (.seq (.cond (.t 21) (.skip)
      (.exit 0))
     (.seq (.blk 1 (.seq (.ops [
         ⟨(some 22), none, .mv (.t 20)⟩,
         ⟨(some 23), none, .iaddr 1 (.t 18) (.t 20)⟩,
         ⟨(some 24), none, .load 1 false (.t 23)⟩,
         ⟨(some 7), none, .mv (.t 22)⟩,
         ⟨(some 8), none, .mv (.t 24)⟩] false)
       (.ops [
        ⟨(some 25), none, .mv (.t 6)⟩,
        ⟨(some 26), none, .mv (.t 8)⟩,
        ⟨(some 27), none, .mv (.t 1)⟩,
        ⟨(some 28), none, .mv (.t 7)⟩,
        ⟨(some 29), none, .iaddr 5 (.t 27) (.t 28)⟩,
        ⟨(some 30), none, .load 5 true (.t 29)⟩,
        ⟨(some 31), none, .build [(.str []), (.int .i64 0), (.int .i64 0), (.str []), (.sl true 1 []), (.sl true 5 [])] [(0, 1, (.t 26)), (1, 5, (.t 30))]⟩,
        ⟨(some 32), none, .bslice 6 [(.t 31)]⟩,
        ⟨(some 33), none, .appV 6 96 67 (.t 25) (.t 32)⟩,
        ⟨(some 6), none, .mv (.t 33)⟩] false)))
     (.ops [
      ⟨(some 34), none, .bin .add (.t 20) (.c (.int .i64 1))⟩,
      ⟨(some 20), none, .mv (.t 34)⟩] false)))))))
  (.seq (.ops [
    ⟨(some 35), none, .mv (.t 6)⟩,
    ⟨(some 36), none, .call 37 [(.t 35), (.c (.fn 38))]⟩] false)
  (.seq (.ops [
    ⟨(some 37), none, .buildT [(3, 1, 9), (4, 5, 30)] [(.int .i64 0), (.int .i64 0), (.str []), (.sl true 1 []), (.sl true 5 [])] [(0, 1, (.c (.int .i64 3)))]⟩,
    ⟨(some 9), none, .alloc 30 [(.int .i64 0), (.int .i64 0), (.str []), (.sl true 1 []), (.sl true 5 [])]⟩,
    ⟨none, none, .store 5 (.t 9) (.t 37)⟩] false)
  (.seq (.seq (.ops [
     ⟨(some 38), none, .mv (.t 6)⟩,
     ⟨(some 39), none, .lenL (.t 38)⟩,
     ⟨(some 40), none, .mv (.c (.int .i64 0))⟩] false)
   (.blk 2 (.loop (.seq (.ops [
       ⟨(some 41), none, .bin .lss (.t 40) (.t 39)⟩] false)
     (.seq (.cond (.t 41) (.skip)
      (.exit 2))
     (.seq (.blk 3 (.seq (.ops [
         ⟨(some 42), none, .mv (.t 40)⟩,
         ⟨(some 43), none, .iaddrV 6 (.t 38) (.t 40)⟩,
         ⟨(some 44), none, .loadV 6 true (.t 43)⟩,
         ⟨(some 11), none, .alloc 67 [(.str []), (.int .i64 0), (.int .i64 0), (.str []), (.sl true 1 []), (.sl true 5 [])]⟩,
         ⟨(some 10), none, .mv (.t 42)⟩,
         ⟨none, none, .store 6 (.t 11) (.t 44)⟩] false)
       (.seq (.seq (.ops [
          ⟨(some 45), none, .mv (.t 10)⟩,
          ⟨(some 46), none, .bin .gtr (.t 45) (.c (.int .i64 0))⟩,
          ⟨(some 47), none, .mv (.t 46)⟩,
          ⟨(some 48), (some (47, true)), .mv (.t 6)⟩,
          ⟨(some 49), (some (47, true)), .mv (.t 10)⟩,
          ⟨(some 50), (some (47, true)), .bin .sub (.t 49) (.c (.int .i64 1))⟩,
          ⟨(some 51), (some (47, true)), .iaddrV 6 (.t 48) (.t 50)⟩,
          ⟨(some 52), (some (47, true)), .faddr 0 (.t 51)⟩,
          ⟨(some 53), (some (47, true)), .loadV 1 false (.t 52)⟩,
          ⟨(some 54), (some (47, true)), .faddr 0 (.t 11)⟩,
          ⟨(some 55), (some (47, true)), .load 1 false (.t 54)⟩,
          ⟨(some 56), (some (47, true)), .bin .eql (.t 53) (.t 55)⟩,
          ⟨(some 57), none, .pick (.t 47) (.t 56) (.c (.bool false))⟩] true)
        (.cond (.t 57) (.seq (.ops [
           ⟨(some 58), none, .build [(.int .i64 0), (.int .i64 0), (.str []), (.sl true 1 []), (.sl true 5 [])] []⟩,
           ⟨none, none, .store 5 (.t 4) (.t 58)⟩,
           ⟨(some 5), none, .mv (.c (.int .i64 40))⟩] false)
         (.ret))
        (.skip)))
       (.ops [
        ⟨(some 59), none, .faddr 3 (.t 9)⟩,
        ⟨(some 60), none, .load 1 false (.t 59)⟩,
        ⟨(some 61), none, .faddr 0 (.t 11)⟩,
        ⟨(some 62), none, .load 1 false (.t 61)⟩,
        ⟨(some 63), none, .bslice 1 [(.t 62)]⟩,
        ⟨(some 64), none, .app 1 16 9 (.t 60) (.t 63)⟩,
        ⟨(some 65), none, .faddr 4 (.t 9)⟩,
        ⟨(some 66), none, .load 1 false (.t 65)⟩,
        ⟨(some 67), none, .faddr 1 (.t 11)⟩,
        ⟨(some 68), none, .load 5 true (.t 67)⟩,
        ⟨(some 69), none, .bslice 5 [(.t 68)]⟩,
        ⟨(some 70), none, .app 5 80 30 (.t 66) (.t 69)⟩,
        ⟨(some 71), none, .faddr 3 (.t 9)⟩,
        ⟨none, none, .store 1 (.t 71) (.t 64)⟩,
        ⟨(some 72), none, .faddr 4 (.t 9)⟩,
        ⟨none, none, .store 1 (.t 72) (.t 70)⟩] true))))
     (.ops [
      ⟨(some 73), none, .bin .add (.t 40) (.c (.int .i64 1))⟩,
      ⟨(some 40), none, .mv (.t 73)⟩] false)))))))
  (.seq (.ops [
    ⟨(some 74), none, .load 5 true (.t 9)⟩,
    ⟨none, none, .store 5 (.t 4) (.t 74)⟩,
    ⟨(some 5), none, .mv (.c (.int .i64 0))⟩] false)
  (.ret))))))))) }
theorem cf15 : compF Tryd.prog [37, 2000033, 3000043, 3000044, 3000051, 3000053] Tryd.f15 = some ir15 := by kernel_rfl
/- whetstone/whetstoneref11.Rec -/
def ir16 : IFn :=
 { nt := 101, res := [.cell 4 5 true, .t 5], body := (
  .seq (.ops [
    ⟨(some 4), none, .alloc 25 [(.int .i64 0), (.int .i64 0), (.str []), (.sl true 1 []), (.sl true 5 [])]⟩,
    ⟨(some 5), none, .mv (.c (.int .i64 0))⟩] false)
  (.seq (.seq (.ops [
     ⟨(some 10), none, .mv (.t 0)⟩,
     ⟨(some 11), none, .lenL (.t 10)⟩,
     ⟨(some 12), none, .mv (.t 1)⟩,
     ⟨(some 13), none, .lenL (.t 12)⟩,
     ⟨(some 14), none, .bin .neq (.t 11) (.t 13)⟩] false)
   (.cond (.t 14) (.seq (.ops [
      ⟨(some 15), none, .build [(.int .i64 0), (.int .i64 0), (.str []), (.sl true 1 []), (.sl true 5 [])] []⟩,
      ⟨none, none, .store 5 (.t 4) (.t 15)⟩,
      ⟨(some 5), none, .mv (.c (.int .i64 1))⟩] false)
    (.ret))
   (.skip)))
  (.seq (.ops [
    ⟨(some 16), none, .build [(.int .i64 0), (.int .i64 0), (.str []), (.sl true 1 []), (.sl true 5 [])] [(0, 1, (.c (.int .i64 3)))]⟩,
    ⟨(some 6), none, .alloc 25 [(.int .i64 0), (.int .i64 0), (.str []), (.sl true 1 []), (.sl true 5 [])]⟩,
    ⟨none, none, .store 5 (.t 6) (.t 16)⟩] false)
  (.seq (.seq (.ops [
     ⟨(some 7), none, .mv (.c (.int .i64 0))⟩] false)
   (.blk 0 (.loop (.seq (.seq (.ops [
        ⟨(some 17), none, .mv (.t 7)⟩,
        ⟨(some 18), none, .mv (.t 0)⟩,
        ⟨(some 19), none, .lenL (.t 18)⟩,
        ⟨(some 20), none, .bin .lss (.t 17) (.t 19)⟩] false)
      (.cond (.t 20) (.skip)
      (.exit 0)))
     (.seq (.blk 1 (.seq (.ops [
         ⟨(some 8), none, .mv (.c (.int .i64 0))⟩] false)
       (.seq (.blk 2 (.loop (.seq (.seq (.ops [
             ⟨(some 23), none, .mv (.t 8)⟩,
             ⟨(some 24), none, .faddr 3 (.t 6)⟩,
             ⟨(some 25), none, .load 1 false (.t 24)⟩,
             ⟨(some 26), none, .lenL (.t 25)⟩,
             ⟨(some 27), none, .bin .lss (.t 23) (.t 26)⟩,
             ⟨(some 28), none, .mv (.t 27)⟩,
             ⟨(some 29), (some (28, true)), .faddr 3 (.t 6)⟩,
             ⟨(some 30), (some (28, true)), .load 1 false (.t 29)⟩,
             ⟨(some 31), (some (28, true)), .mv (.t 8)⟩,
             ⟨(some 32), (some (28, true)), .iaddr 1 (.t 30) (.t 31)⟩,
             ⟨(some 33), (some (28, true)), .load 1 false (.t 32)⟩,
             ⟨(some 34), (some (28, true)), .mv (.t 0)⟩,
             ⟨(some 35), (some (28, true)), .mv (.t 7)⟩,
             ⟨(some 36), (some (28, true)), .iaddr 1 (.t 34) (.t 35)⟩,
             ⟨(some 37), (some (28, true)), .load 1 false (.t 36)⟩,
             ⟨(some 38), (some (28, true)), .bin .lss (.t 33) (.t 37)⟩,
             ⟨(some 39), none, .pick (.t 28) (.t 38) (.c (.bool false))⟩] true)
           (.cond (.t 39) (.skip)
           (.exit 2)))
          (.blk 3 (.ops [
            ⟨(some 40), none, .mv (.t 8)⟩,
            ⟨(some 41), none, .bin .add (.t 40) (.c (.int .i64 1))⟩,
            ⟨(some 8), none, .mv (.t 41)⟩] false)))))
       (.seq (.seq (.ops [
          ⟨(some 42), none, .mv (.t 8)⟩,
          ⟨(some 43), none, .faddr 3 (.t 6)⟩,
          ⟨(some 44), none, .load 1 false (.t 43)⟩,
          ⟨(some 45), none, .lenL (.t 44)⟩,
          ⟨(some 46), none, .bin .lss (.t 42) (.t 45)⟩,
          ⟨(some 47), none, .mv (.t 46)⟩,
          ⟨(some 48), (some (47, true)), .faddr 3 (.t 6)⟩,
          ⟨(some 49), (some (47, true)), .load 1 false (.t 48)⟩,
          ⟨(some 50), (some (47, true)), .mv (.t 8)⟩,
          ⟨(some 51), (some (47, true)), .iaddr 1 (.t 49) (.t 50)⟩,
          ⟨(some 52), (some (47, true)), .load 1 false (.t 51)⟩,
          ⟨(some 53), (some (47, true)), .mv (.t 0)⟩,
          ⟨(some 54), (some (47, true)), .mv (.t 7)⟩,
          ⟨(some 55), (some (47, true)), .iaddr 1 (.t 53) (.t 54)⟩,
          ⟨(some 56), (some (47, true)), .load 1 false (.t 55)⟩,
          ⟨(some 57), (some (47, true)), .bin .eql (.t 52) (.t 56)⟩,
          ⟨(some 58), none, .pick (.t 47) (.t 57) (.c (.bool false))⟩] true)
        (.cond (.t 58) (.seq (.ops [
           ⟨(some 59), none, .build [(.int .i64 0), (.int .i64 0), (.str []), (.sl true 1 []), (.sl true 5 [])] []⟩,
           ⟨none, none, .store 5 (.t 4) (.t 59)⟩,
           ⟨(some 5), none, .mv (.c (.int .i64 40))⟩] false)
         (.ret))
        (.skip)))
       (.seq (.ops [
         ⟨(some 60), none, .buildT [(3, 1, 9), (4, 5, 25)] [(.int .i64 0), (.int .i64 0), (.str []), (.sl true 1 []), (.sl true 5 [])] [(0, 1, (.c (.int .i64 3)))]⟩,
         ⟨(some 9), none, .alloc 25 [(.int .i64 0), (.int .i64 0), (.str []), (.sl true 1 []), (.sl true 5 [])]⟩,
         ⟨none, none, .store 5 (.t 9) (.t 60)⟩] false)
       (.seq (.ops [
         ⟨(some 61), none, .faddr 3 (.t 9)⟩,
         ⟨(some 62), none, .load 1 false (.t 61)⟩,
         ⟨(some 63), none, .faddr 3 (.t 6)⟩,
         ⟨(some 64), none, .load 1 false (.t 63)⟩,
         ⟨(some 65), none, .mv (.t 8)⟩,
         ⟨(some 66), none, .slice 1 (.t 64) none (some (.t 65)) none⟩,
         ⟨(some 67), none, .app 1 16 9 (.t 62) (.t 66)⟩,
         ⟨(some 68), none, .mv (.t 0)⟩,
         ⟨(some 69), none, .mv (.t 7)⟩,
         ⟨(some 70), none, .iaddr 1 (.t 68) (.t 69)⟩,
         ⟨(some 71), none, .load 1 false (.t 70)⟩,
         ⟨(some 72), none, .bslice 1 [(.t 71)]⟩,
         ⟨(some 73), none, .app 1 16 9 (.t 67) (.t 72)⟩,
         ⟨(some 74), none, .faddr 3 (.t 6)⟩,
         ⟨(some 75), none, .load 1 false (.t 74)⟩,
         ⟨(some 76), none, .mv (.t 8)⟩,
         ⟨(some 77), none, .slice 1 (.t 75) (some (.t 76)) none none⟩,
         ⟨(some 78), none, .app 1 16 9 (.t 73) (.t 77)⟩,
         ⟨(some 79), none, .faddr 3 (.t 9)⟩,
         ⟨none, none, .store 1 (.t 79) (.t 78)⟩] true)
       (.seq (.ops [
         ⟨(some 80), none, .faddr 4 (.t 9)⟩,
         ⟨(some 81), none, .load 1 false (.t 80)⟩,
         ⟨(some 82), none, .faddr 4 (.t 6)⟩,
         ⟨(some 83), none, .load 1 false (.t 82)⟩,
         ⟨(some 84), none, .mv (.t 8)⟩,
         ⟨(some 85), none, .slice 5 (.t 83) none (some (.t 84)) none⟩,
         ⟨(some 86), none, .app 5 80 25 (.t 81) (.t 85)⟩,
         ⟨(some 87), none, .mv (.t 1)⟩,
         ⟨(some 88), none, .mv (.t 7)⟩,
         ⟨(some 89), none, .iaddr 5 (.t 87) (.t 88)⟩,
         ⟨(some 90), none, .load 5 true (.t 89)⟩,
         ⟨(some 91), none, .bslice 5 [(.t 90)]⟩,
         ⟨(some 92), none, .app 5 80 25 (.t 86) (.t 91)⟩,
         ⟨(some 93), none, .faddr 4 (.t 6)⟩,
         ⟨(some 94), none, .load 1 false (.t 93)⟩,
         ⟨(some 95), none, .mv (.t 8)⟩,
         ⟨(some 96), none, .slice 5 (.t 94) (some (.t 95)) none none⟩,
         ⟨(some 97), none, .app 5 80 25 (.t 92) (.t 96)⟩,
         ⟨(some 98), none, .faddr 4 (.t 9)⟩,
         ⟨none, none, .store 1 (.t 98) (.t 97)⟩] true)
       (.ops [
        ⟨(some 99), none, .load 5 true (.t 9)⟩,
        ⟨none, none, .store 5 (.t 6) (.t 99)⟩] false))))))))
     (.ops [
      ⟨(some 21), none, .mv (.t 7)⟩,
      ⟨(some 22), none, .bin .add (.t 21) (.c (.int .i64 1))⟩,
      ⟨(some 7), none, .mv (.t 22)⟩] false))))))
  (.seq (.ops [
    ⟨(some 100), none, .load 5 true (.t 6)⟩,
    ⟨none, none, .store 5 (.t 4) (.t 100)⟩,
    ⟨(some 5), none, .mv (.c (.int .i64 0))⟩] false)
  (.ret)))))) }
theorem cf16 : compF Tryd.prog [60] Tryd.f16 = some ir16 := by kernel_rfl
/- whetstone/whetstonelaw11.From -/
def ir17 : IFn :=
 { nt := 31, res := [.cell 2 5 true], body := (
  .seq (.ops [
    ⟨(some 1), none, .box 30 5 (.t 0)⟩,
    ⟨(some 2), none, .alloc 25 [(.int .i64 0), (.int .i64 0), (.str []), (.sl true 1 []), (.sl true 5 [])]⟩] false)
  (.seq (.ops [
    ⟨(some 6), none, .faddr 0 (.t 1)⟩,
    ⟨(some 7), none, .load 1 false (.t 6)⟩,
    ⟨(some 8), none, .faddr 1 (.t 1)⟩,
    ⟨(some 9), none, .load 1 false (.t 8)⟩,
    ⟨(some 10), none, .faddr 2 (.t 1)⟩,
    ⟨(some 11), none, .load 1 false (.t 10)⟩,
    ⟨(some 12), none, .faddr 3 (.t 1)⟩,
    ⟨(some 13), none, .load 1 false (.t 12)⟩,
    ⟨(some 14), none, .buildT [(4, 5, 25)] [(.int .i64 0), (.int .i64 0), (.str []), (.sl true 1 []), (.sl true 5 [])] [(0, 1, (.t 7)), (1, 1, (.t 9)), (2, 1, (.t 11)), (3, 1, (.t 13))]⟩,
    ⟨(some 3), none, .alloc 25 [(.int .i64 0), (.int .i64 0), (.str []), (.sl true 1 []), (.sl true 5 [])]⟩,
    ⟨none, none, .store 5 (.t 3) (.t 14)⟩] false)
  (.seq (.seq (.ops [
     ⟨(some 15), none, .faddr 4 (.t 1)⟩,
     ⟨(some 16), none, .load 1 false (.t 15)⟩,
     ⟨(some 17), none, .lenL (.t 16)⟩,
     ⟨(some 18), none, .mv (.c (.int .i64 0))⟩] false)
   (.blk 0 (.loop (.seq (.ops [
       ⟨(some 19), none, .bin .lss (.t 18) (.t 17)⟩] false)
     (.seq (.cond (.t 19) (.skip)
      (.exit 0))
     (.seq (.blk 1 (.seq (.ops [
         ⟨(some 20), none, .iaddr 5 (.t 16) (.t 18)⟩,
         ⟨(some 21), none, .load 5 true (.t 20)⟩,
         ⟨(some 5), none, .alloc 30 [(.int .i64 0), (.int .i64 0), (.str []), (.sl true 1 []), (.sl true 5 [])]⟩,
         ⟨none, none, .store 5 (.t 5) (.t 21)⟩] false)
       (.ops [
        ⟨(some 22), none, .faddr 4 (.t 3)⟩,
        ⟨(some 23), none, .load 1 false (.t 22)⟩,
        ⟨(some 24), none, .load 5 true (.t 5)⟩,
        ⟨(some 25), none, .call 17 [(.t 24)]⟩,
        ⟨(some 26), none, .bslice 5 [(.t 25)]⟩,
        ⟨(some 27), none, .app 5 80 25 (.t 23) (.t 26)⟩,
        ⟨(some 28), none, .faddr 4 (.t 3)⟩,
        ⟨none, none, .store 1 (.t 28) (.t 27)⟩] true)))
     (.ops [
      ⟨(some 29), none, .bin .add (.t 18) (.c (.int .i64 1))⟩,
      ⟨(some 18), none, .mv (.t 29)⟩] false)))))))
  (.seq (.ops [
    ⟨(some 30), none, .load 5 true (.t 3)⟩,
    ⟨none, none, .store 5 (.t 2) (.t 30)⟩] false)
  (.ret))))) }
theorem cf17 : compF Tryd.prog [14] Tryd.f17 = some ir17 := by kernel_rfl
/- whetstone/value.Num -/
def ir18 : IFn :=
 { nt := 5, res := [.cell 2 5 true], body := (
  .seq (.ops [
    ⟨(some 2), none, .alloc 30 [(.int .i64 0), (.int .i64 0), (.str []), (.sl true 1 []), (.sl true 5 [])]⟩] false)
  (.seq (.ops [
    ⟨(some 3), none, .mv (.t 0)⟩,
    ⟨(some 4), none, .build [(.int .i64 0), (.int .i64 0), (.str []), (.sl true 1 []), (.sl true 5 [])] [(0, 1, (.c (.int .i64 1))), (1, 1, (.t 3))]⟩,
    ⟨none, none, .store 5 (.t 2) (.t 4)⟩] false)
  (.ret))) }
theorem cf18 : compF Tryd.prog [] Tryd.f18 = some ir18 := by kernel_rfl
/- whetstone/value.Str -/
def ir19 : IFn :=
 { nt := 5, res := [.cell 2 5 true], body := (
  .seq (.ops [
    ⟨(some 2), none, .alloc 30 [(.int .i64 0), (.int .i64 0), (.str []), (.sl true 1 []), (.sl true 5 [])]⟩] false)
  (.seq (.ops [
    ⟨(some 3), none, .mv (.t 0)⟩,
    ⟨(some 4), none, .build [(.int .i64 0), (.int .i64 0), (.str []), (.sl true 1 []), (.sl true 5 [])] [(0, 1, (.c (.int .i64 2))), (2, 1, (.t 3))]⟩,
    ⟨none, none, .store 5 (.t 2) (.t 4)⟩] false)
  (.ret))) }
theorem cf19 : compF Tryd.prog [] Tryd.f19 = some ir19 := by kernel_rfl
/- whetstone/value.Fun -/
def ir20 : IFn :=
 { nt := 5, res := [.cell 2 5 true], body := (
  .seq (.ops [
    ⟨(some 2), none, .alloc 30 [(.int .i64 0), (.int .i64 0), (.str []), (.sl true 1 []), (.sl true 5 [])]⟩] false)
  (.seq (.ops [
    ⟨(some 3), none, .mv (.t 0)⟩,
    ⟨(some 4), none, .build [(.int .i64 0), (.int .i64 0), (.str []), (.sl true 1 []), (.sl true 5 [])] [(0, 1, (.c (.int .i64 4))), (1, 1, (.t 3))]⟩,
    ⟨none, none, .store 5 (.t 2) (.t 4)⟩] false)
  (.ret))) }
theorem cf20 : compF Tryd.prog [] Tryd.f20 = some ir20 := by kernel_rfl
/- (whetstone/value.Value).Named -/
def ir21 : IFn :=
 { nt := 70, res := [.cell 6 5 true, .t 7], body := (
  .seq (.ops [
    ⟨(some 3), none, .box 30 5 (.t 0)⟩,
    ⟨(some 6), none, .alloc 30 [(.int .i64 0), (.int .i64 0), (.str []), (.sl true 1 []), (.sl true 5 [])]⟩,
    ⟨(some 7), none, .mv (.c (.bool false))⟩] false)
  (.seq (.seq (.ops [
     ⟨(some 16), none, .faddr 0 (.t 3)⟩,
     ⟨(some 17), none, .load 1 false (.t 16)⟩,
     ⟨(some 18), none, .bin .neq (.t 17) (.c (.int .i64 3))⟩] false)
   (.cond (.t 18) (.seq (.ops [
      ⟨(some 19), none, .load 5 true (.t 3)⟩,
      ⟨none, none, .store 5 (.t 6) (.t 19)⟩,
      ⟨(some 7), none, .mv (.c (.bool true))⟩] false)
    (.ret))
   (.skip)))
  (.seq (.ops [
    ⟨(some 8), none, .nilT 1 9⟩] false)
  (.seq (.ops [
    ⟨(some 9), none, .nilT 5 30⟩] false)
  (.seq (.seq (.ops [
     ⟨(some 20), none, .faddr 3 (.t 3)⟩,
     ⟨(some 21), none, .load 1 false (.t 20)⟩,
     ⟨(some 22), none, .lenL (.t 21)⟩,
     ⟨(some 23), none, .mv (.c (.int .i64 0))⟩] false)
   (.blk 0 (.loop (.seq (.ops [
       ⟨(some 24), none, .bin .lss (.t 23) (.t 22)⟩] false)
     (.seq (.cond (.t 24) (.skip)
      (.exit 0))
     (.seq (.blk 1 (.seq (.ops [
         ⟨(some 25), none, .mv (.t 23)⟩,
         ⟨(some 26), none, .iaddr 1 (.t 21) (.t 23)⟩,
         ⟨(some 27), none, .load 1 false (.t 26)⟩,
         ⟨(some 10), none, .mv (.t 25)⟩,
         ⟨(some 11), none, .mv (.t 27)⟩] false)
       (.seq (.seq (.ops [
          ⟨(some 28), none, .mv (.t 11)⟩,
          ⟨(some 29), none, .mv (.t 1)⟩,
          ⟨(some 30), none, .bin .eql (.t 28) (.t 29)⟩] false)
        (.cond (.t 30) (.ops [
          ⟨(some 31), none, .mv (.t 2)⟩,
          ⟨(some 11), none, .mv (.t 31)⟩] false)
        (.skip)))
       (.seq (.seq (.ops [
          ⟨(some 32), none, .mv (.t 10)⟩,
          ⟨(some 33), none, .faddr 4 (.t 3)⟩,
          ⟨(some 34), none, .load 1 false (.t 33)⟩,
          ⟨(some 35), none, .lenL (.t 34)⟩,
          ⟨(some 36), none, .bin .geq (.t 32) (.t 35)⟩] false)
        (.cond (.t 36) (.seq (.ops [
           ⟨(some 37), none, .build [(.int .i64 0), (.int .i64 0), (.str []), (.sl true 1 []), (.sl true 5 [])] []⟩,
           ⟨none, none, .store 5 (.t 6) (.t 37)⟩,
           ⟨(some 7), none, .mv (.c (.bool false))⟩] false)
         (.ret))
        (.skip)))
       (.seq (.ops [
         ⟨(some 39), none, .faddr 4 (.t 3)⟩,
         ⟨(some 40), none, .load 1 false (.t 39)⟩,
         ⟨(some 41), none, .mv (.t 10)⟩,
         ⟨(some 42), none, .iaddr 5 (.t 40) (.t 41)⟩,
         ⟨(some 43), none, .load 5 true (.t 42)⟩,
         ⟨(some 44), none, .mv (.t 1)⟩,
         ⟨(some 45), none, .mv (.t 2)⟩,
         ⟨(some 46), none, .call 21 [(.t 43), (.t 44), (.t 45)]⟩,
         ⟨(some 38), none, .mv (.t 46)⟩,
         ⟨(some 47), none, .ext (.t 38) 0⟩,
         ⟨(some 48), none, .ext (.t 38) 1⟩,
         ⟨(some 12), none, .alloc 30 [(.int .i64 0), (.int .i64 0), (.str []), (.sl true 1 []), (.sl true 5 [])]⟩,
         ⟨none, none, .store 5 (.t 12) (.t 47)⟩,
         ⟨(some 13), none, .mv (.t 48)⟩] false)
       (.seq (.seq (.ops [
          ⟨(some 49), none, .mv (.t 13)⟩,
          ⟨(some 50), none, .un .not (.t 49)⟩] false)
        (.cond (.t 50) (.seq (.ops [
           ⟨(some 51), none, .build [(.int .i64 0), (.int .i64 0), (.str []), (.sl true 1 []), (.sl true 5 [])] []⟩,
           ⟨none, none, .store 5 (.t 6) (.t 51)⟩,
           ⟨(some 7), none, .mv (.c (.bool false))⟩] false)
         (.ret))
        (.skip)))
       (.ops [
        ⟨(some 52), none, .mv (.t 8)⟩,
        ⟨(some 53), none, .mv (.t 11)⟩,
        ⟨(some 54), none, .bslice 1 [(.t 53)]⟩,
        ⟨(some 55), none, .app 1 16 9 (.t 52) (.t 54)⟩,
        ⟨(some 56), none, .mv (.t 9)⟩,
        ⟨(some 57), none, .load 5 true (.t 12)⟩,
        ⟨(some 58), none, .bslice 5 [(.t 57)]⟩,
        ⟨(some 59), none, .app 5 80 30 (.t 56) (.t 58)⟩,
        ⟨(some 8), none, .mv (.t 55)⟩,
        ⟨(some 9), none, .mv (.t 59)⟩] true)))))))
     (.ops [
      ⟨(some 60), none, .bin .add (.t 23) (.c (.int .i64 1))⟩,
      ⟨(some 23), none, .mv (.t 60)⟩] false)))))))
  (.seq (.ops [
    ⟨(some 62), none, .mv (.t 8)⟩,
    ⟨(some 63), none, .mv (.t 9)⟩,
    ⟨(some 64), none, .call 15 [(.t 62), (.t 63)]⟩,
    ⟨(some 61), none, .mv (.t 64)⟩,
    ⟨(some 65), none, .ext (.t 61) 0⟩,
    ⟨(some 66), none, .ext (.t 61) 1⟩,
    ⟨(some 14), none, .alloc 30 [(.int .i64 0), (.int .i64 0), (.str []), (.sl true 1 []), (.sl true 5 [])]⟩,
    ⟨none, none, .store 5 (.t 14) (.t 65)⟩,
    ⟨(some 15), none, .mv (.t 66)⟩] false)
  (.seq (.ops [
    ⟨(some 67), none, .load 5 true (.t 14)⟩,
    ⟨(some 68), none, .mv (.t 15)⟩,
    ⟨(some 69), none, .bin .eql (.t 68) (.c (.int .i64 0))⟩,
    ⟨none, none, .store 5 (.t 6) (.t 67)⟩,
    ⟨(some 7), none, .mv (.t 69)⟩] false)
  (.ret)))))))) }
theorem cf21 : compF Tryd.prog [8, 9] Tryd.f21 = some ir21 := by kernel_rfl
/- whetstone/whetstoneref11.Named -/
def ir22 : IFn :=
 { nt := 67, res := [.cell 6 5 true, .t 7], body := (
  .seq (.ops [
    ⟨(some 3), none, .box 25 5 (.t 0)⟩,
    ⟨(some 6), none, .alloc 25 [(.int .i64 0), (.int .i64 0), (.str []), (.sl true 1 []), (.sl true 5 [])]⟩,
    ⟨(some 7), none, .mv (.c (.bool false))⟩] false)
  (.seq (.seq (.ops [
     ⟨(some 16), none, .faddr 0 (.t 3)⟩,
     ⟨(some 17), none, .load 1 false (.t 16)⟩,
     ⟨(some 18), none, .bin .neq (.t 17) (.c (.int .i64 3))⟩] false)
   (.cond (.t 18) (.seq (.ops [
      ⟨(some 19), none, .load 5 true (.t 3)⟩,
      ⟨none, none, .store 5 (.t 6) (.t 19)⟩,
      ⟨(some 7), none, .mv (.c (.bool true))⟩] false)
    (.ret))
   (.skip)))
  (.seq (.ops [
    ⟨(some 8), none, .nilT 1 9⟩] false)
  (.seq (.ops [
    ⟨(some 9), none, .nilT 5 25⟩] false)
  (.seq (.seq (.ops [
     ⟨(some 10), none, .mv (.c (.int .i64 0))⟩] false)
   (.blk 0 (.loop (.seq (.seq (.ops [
        ⟨(some 20), none, .mv (.t 10)⟩,
        ⟨(some 21), none, .faddr 3 (.t 3)⟩,
        ⟨(some 22), none, .load 1 false (.t 21)⟩,
        ⟨(some 23), none, .lenL (.t 22)⟩,
        ⟨(some 24), none, .bin .lss (.t 20) (.t 23)⟩] false)
      (.cond (.t 24) (.skip)
      (.exit 0)))
     (.seq (.blk 1 (.seq (.ops [
         ⟨(some 27), none, .faddr 3 (.t 3)⟩,
         ⟨(some 28), none, .load 1 false (.t 27)⟩,
         ⟨(some 29), none, .mv (.t 10)⟩,
         ⟨(some 30), none, .iaddr 1 (.t 28) (.t 29)⟩,
         ⟨(some 31), none, .load 1 false (.t 30)⟩,
         ⟨(some 11), none, .mv (.t 31)⟩] false)
       (.seq (.seq (.ops [
          ⟨(some 32), none, .mv (.t 11)⟩,
          ⟨(some 33), none, .mv (.t 1)⟩,
          ⟨(some 34), none, .bin .eql (.t 32) (.t 33)⟩] false)
        (.cond (.t 34) (.ops [
          ⟨(some 35), none, .mv (.t 2)⟩,
          ⟨(some 11), none, .mv (.t 35)⟩] false)
        (.skip)))
       (.seq (.ops [
         ⟨(some 37), none, .faddr 4 (.t 3)⟩,
         ⟨(some 38), none, .load 1 false (.t 37)⟩,
         ⟨(some 39), none, .mv (.t 10)⟩,
         ⟨(some 40), none, .iaddr 5 (.t 38) (.t 39)⟩,
         ⟨(some 41), none, .load 5 true (.t 40)⟩,
         ⟨(some 42), none, .mv (.t 1)⟩,
         ⟨(some 43), none, .mv (.t 2)⟩,
         ⟨(some 44), none, .call 22 [(.t 41), (.t 42), (.t 43)]⟩,
         ⟨(some 36), none, .mv (.t 44)⟩,
         ⟨(some 45), none, .ext (.t 36) 0⟩,
         ⟨(some 46), none, .ext (.t 36) 1⟩,
         ⟨(some 12), none, .alloc 25 [(.int .i64 0), (.int .i64 0), (.str []), (.sl true 1 []), (.sl true 5 [])]⟩,
         ⟨none, none, .store 5 (.t 12) (.t 45)⟩,
         ⟨(some 13), none, .mv (.t 46)⟩] false)
       (.seq (.seq (.ops [
          ⟨(some 47), none, .mv (.t 13)⟩,
          ⟨(some 48), none, .un .not (.t 47)⟩] false)
        (.cond (.t 48) (.seq (.ops [
           ⟨(some 49), none, .build [(.int .i64 0), (.int .i64 0), (.str []), (.sl true 1 []), (.sl true 5 [])] []⟩,
           ⟨none, none, .store 5 (.t 6) (.t 49)⟩,
           ⟨(some 7), none, .mv (.c (.bool false))⟩] false)
         (.ret))
        (.skip)))
       (.seq (.ops [
         ⟨(some 50), none, .mv (.t 8)⟩,
         ⟨(some 51), none, .mv (.t 11)⟩,
         ⟨(some 52), none, .bslice 1 [(.t 51)]⟩,
         ⟨(some 53), none, .app 1 16 9 (.t 50) (.t 52)⟩,
         ⟨(some 8), none, .mv (.t 53)⟩] false)
       (.ops [
        ⟨(some 54), none, .mv (.t 9)⟩,
        ⟨(some 55), none, .load 5 true (.t 12)⟩,
        ⟨(some 56), none, .bslice 5 [(.t 55)]⟩,
        ⟨(some 57), none, .app 5 80 25 (.t 54) (.t 56)⟩,
        ⟨(some 9), none, .mv (.t 57)⟩] false)))))))
     (.ops [
      ⟨(some 25), none, .mv (.t 10)⟩,
      ⟨(some 26), none, .bin .add (.t 25) (.c (.int .i64 1))⟩,
      ⟨(some 10), none, .mv (.t 26)⟩] false))))))
  (.seq (.ops [
    ⟨(some 59), none, .mv (.t 8)⟩,
    ⟨(some 60), none, .mv (.t 9)⟩,
    ⟨(some 61), none, .call 16 [(.t 59), (.t 60)]⟩,
    ⟨(some 58), none, .mv (.t 61)⟩,
    ⟨(some 62), none, .ext (.t 58) 0⟩,
    ⟨(some 63), none, .ext (.t 58) 1⟩,
    ⟨(some 14), none, .alloc 25 [(.int .i64 0), (.int .i64 0), (.str []), (.sl true 1 []), (.sl true 5 [])]⟩,
    ⟨none, none, .store 5 (.t 14) (.t 62)⟩,
    ⟨(some 15), none, .mv (.t 63)⟩] false)
  (.seq (.ops [
    ⟨(some 64), none, .load 5 true (.t 14)⟩,
    ⟨(some 65), none, .mv (.t 15)⟩,
    ⟨(some 66), none, .bin .eql (.t 65) (.c (.int .i64 0))⟩,
    ⟨none, none, .store 5 (.t 6) (.t 64)⟩,
    ⟨(some 7), none, .mv (.t 66)⟩] false)
  (.ret)))))))) }
theorem cf22 : compF Tryd.prog [8, 9] Tryd.f22 = some ir22 := by kernel_rfl
/- whetstone/whetstonelaw11.has -/
def ir23 : IFn :=
 { nt := 28, res := [.t 4], body := (
  .seq (.ops [
    ⟨(some 2), none, .box 25 5 (.t 0)⟩,
    ⟨(some 4), none, .mv (.c (.bool false))⟩] false)
  (.seq (.seq (.ops [
     ⟨(some 7), none, .faddr 3 (.t 2)⟩,
     ⟨(some 8), none, .load 1 false (.t 7)⟩,
     ⟨(some 9), none, .lenL (.t 8)⟩,
     ⟨(some 10), none, .mv (.c (.int .i64 0))⟩] false)
   (.blk 0 (.loop (.seq (.ops [
       ⟨(some 11), none, .bin .lss (.t 10) (.t 9)⟩] false)
     (.seq (.cond (.t 11) (.skip)
      (.exit 0))
     (.seq (.blk 1 (.seq (.ops [
         ⟨(some 12), none, .mv (.t 10)⟩,
         ⟨(some 13), none, .iaddr 1 (.t 8) (.t 10)⟩,
         ⟨(some 14), none, .load 1 false (.t 13)⟩,
         ⟨(some 5), none, .mv (.t 12)⟩,
         ⟨(some 6), none, .mv (.t 14)⟩] false)
       (.seq (.ops [
         ⟨(some 15), none, .mv (.t 6)⟩,
         ⟨(some 16), none, .mv (.t 1)⟩,
         ⟨(some 17), none, .bin .eql (.t 15) (.t 16)⟩,
         ⟨(some 18), none, .mv (.t 17)⟩,
         ⟨(some 19), (some (18, false)), .faddr 4 (.t 2)⟩,
         ⟨(some 20), (some (18, false)), .load 1 false (.t 19)⟩,
         ⟨(some 21), (some (18, false)), .mv (.t 5)⟩,
         ⟨(some 22), (some (18, false)), .iaddr 5 (.t 20) (.t 21)⟩,
         ⟨(some 23), (some (18, false)), .load 5 true (.t 22)⟩,
         ⟨(some 24), (some (18, false)), .mv (.t 1)⟩,
         ⟨(some 25), (some (18, false)), .call 23 [(.t 23), (.t 24)]⟩,
         ⟨(some 26), none, .pick (.t 18) (.c (.bool true)) (.t 25)⟩] false)
       (.cond (.t 26) (.seq (.ops [
          ⟨(some 4), none, .mv (.c (.bool true))⟩] false)
        (.ret))
       (.skip)))))
     (.ops [
      ⟨(some 27), none, .bin .add (.t 10) (.c (.int .i64 1))⟩,
      ⟨(some 10), none, .mv (.t 27)⟩] false)))))))
  (.seq (.ops [
    ⟨(some 4), none, .mv (.c (.bool false))⟩] false)
  (.ret)))) }
theorem cf23 : compF Tryd.prog [] Tryd.f23 = some ir23 := by kernel_rfl
/- (whetstone/value.Value).Right -/
def ir24 : IFn :=
 { nt := 106, res := [.t 2], body := (
  .seq (.ops [
    ⟨(some 1), none, .box 30 5 (.t 0)⟩,
    ⟨(some 2), none, .mv (.c (.bool false))⟩] false)
  (.seq (.seq (.ops [
     ⟨(some 5), none, .faddr 0 (.t 1)⟩,
     ⟨(some 6), none, .load 1 false (.t 5)⟩] false)
   (.blk 0 (.seq (.ops [
      ⟨(some 8), none, .bin .eql (.t 6) (.c (.int .i64 1))⟩,
      ⟨(some 7), none, .mv (.t 8)⟩] false)
    (.cond (.t 7) (.seq (.ops [
       ⟨(some 9), none, .faddr 2 (.t 1)⟩,
       ⟨(some 10), none, .load 1 false (.t 9)⟩,
       ⟨(some 11), none, .bin .eql (.t 10) (.c (.str []))⟩,
       ⟨(some 12), none, .mv (.t 11)⟩,
       ⟨(some 13), (some (12, true)), .faddr 3 (.t 1)⟩,
       ⟨(some 14), (some (12, true)), .load 1 false (.t 13)⟩,
       ⟨(some 15), (some (12, true)), .lenL (.t 14)⟩,
       ⟨(some 16), (some (12, true)), .faddr 4 (.t 1)⟩,
       ⟨(some 17), (some (12, true)), .load 1 false (.t 16)⟩,
       ⟨(some 18), (some (12, true)), .lenL (.t 17)⟩,
       ⟨(some 19), (some (12, true)), .bin .add (.t 15) (.t 18)⟩,
       ⟨(some 20), (some (12, true)), .bin .eql (.t 19) (.c (.int .i64 0))⟩,
       ⟨(some 21), none, .pick (.t 12) (.t 20) (.c (.bool false))⟩,
       ⟨(some 2), none, .mv (.t 21)⟩] false)
     (.ret))
    (.seq (.ops [
       ⟨(some 23), none, .bin .eql (.t 6) (.c (.int .i64 2))⟩,
       ⟨(some 22), none, .mv (.t 23)⟩] false)
     (.cond (.t 22) (.seq (.ops [
        ⟨(some 24), none, .faddr 1 (.t 1)⟩,
        ⟨(some 25), none, .load 1 false (.t 24)⟩,
        ⟨(some 26), none, .bin .eql (.t 25) (.c (.int .i64 0))⟩,
        ⟨(some 27), none, .mv (.t 26)⟩,
        ⟨(some 28), (some (27, true)), .faddr 3 (.t 1)⟩,
        ⟨(some 29), (some (27, true)), .load 1 false (.t 28)⟩,
        ⟨(some 30), (some (27, true)), .lenL (.t 29)⟩,
        ⟨(some 31), (some (27, true)), .faddr 4 (.t 1)⟩,
        ⟨(some 32), (some (27, true)), .load 1 false (.t 31)⟩,
        ⟨(some 33), (some (27, true)), .lenL (.t 32)⟩,
        ⟨(some 34), (some (27, true)), .bin .add (.t 30) (.t 33)⟩,
        ⟨(some 35), (some (27, true)), .bin .eql (.t 34) (.c (.int .i64 0))⟩,
        ⟨(some 36), none, .pick (.t 27) (.t 35) (.c (.bool false))⟩,
        ⟨(some 2), none, .mv (.t 36)⟩] false)
      (.ret))
     (.seq (.ops [
        ⟨(some 38), none, .bin .eql (.t 6) (.c (.int .i64 4))⟩,
        ⟨(some 37), none, .mv (.t 38)⟩] false)
      (.cond (.t 37) (.seq (.ops [
         ⟨(some 39), none, .faddr 1 (.t 1)⟩,
         ⟨(some 40), none, .load 1 false (.t 39)⟩,
         ⟨(some 41), none, .bin .geq (.t 40) (.c (.int .i64 0))⟩,
         ⟨(some 42), none, .mv (.t 41)⟩,
         ⟨(some 43), (some (42, true)), .faddr 2 (.t 1)⟩,
         ⟨(some 44), (some (42, true)), .load 1 false (.t 43)⟩,
         ⟨(some 45), (some (42, true)), .bin .eql (.t 44) (.c (.str []))⟩,
         ⟨(some 46), none, .pick (.t 42) (.t 45) (.c (.bool false))⟩,
         ⟨(some 47), none, .mv (.t 46)⟩,
         ⟨(some 48), (some (47, true)), .faddr 3 (.t 1)⟩,
         ⟨(some 49), (some (47, true)), .load 1 false (.t 48)⟩,
         ⟨(some 50), (some (47, true)), .lenL (.t 49)⟩,
         ⟨(some 51), (some (47, true)), .faddr 4 (.t 1)⟩,
         ⟨(some 52), (some (47, true)), .load 1 false (.t 51)⟩,
         ⟨(some 53), (some (47, true)), .lenL (.t 52)⟩,
         ⟨(some 54), (some (47, true)), .bin .add (.t 50) (.t 53)⟩,
         ⟨(some 55), (some (47, true)), .bin .eql (.t 54) (.c (.int .i64 0))⟩,
         ⟨(some 56), none, .pick (.t 47) (.t 55) (.c (.bool false))⟩,
         ⟨(some 2), none, .mv (.t 56)⟩] false)
       (.ret))
      (.seq (.ops [
         ⟨(some 58), none, .bin .eql (.t 6) (.c (.int .i64 3))⟩,
         ⟨(some 57), none, .mv (.t 58)⟩] false)
       (.cond (.t 57) (.seq (.seq (.ops [
           ⟨(some 59), none, .faddr 1 (.t 1)⟩,
           ⟨(some 60), none, .load 1 false (.t 59)⟩,
           ⟨(some 61), none, .bin .neq (.t 60) (.c (.int .i64 0))⟩,
           ⟨(some 62), none, .mv (.t 61)⟩,
           ⟨(some 63), (some (62, false)), .faddr 2 (.t 1)⟩,
           ⟨(some 64), (some (62, false)), .load 1 false (.t 63)⟩,
           ⟨(some 65), (some (62, false)), .bin .neq (.t 64) (.c (.str []))⟩,
           ⟨(some 66), none, .pick (.t 62) (.c (.bool true)) (.t 65)⟩,
           ⟨(some 67), none, .mv (.t 66)⟩,
           ⟨(some 68), (some (67, false)), .faddr 3 (.t 1)⟩,
           ⟨(some 69), (some (67, false)), .load 1 false (.t 68)⟩,
           ⟨(some 70), (some (67, false)), .lenL (.t 69)⟩,
           ⟨(some 71), (some (67, false)), .faddr 4 (.t 1)⟩,
           ⟨(some 72), (some (67, false)), .load 1 false (.t 71)⟩,
           ⟨(some 73), (some (67, false)), .lenL (.t 72)⟩,
           ⟨(some 74), (some (67, false)), .bin .neq (.t 70) (.t 73)⟩,
           ⟨(some 75), none, .pick (.t 67) (.c (.bool true)) (.t 74)⟩] false)
         (.cond (.t 75) (.seq (.ops [
            ⟨(some 2), none, .mv (.c (.bool false))⟩] false)
          (.ret))
         (.skip)))
        (.seq (.seq (.ops [
           ⟨(some 76), none, .faddr 3 (.t 1)⟩,
           ⟨(some 77), none, .load 1 false (.t 76)⟩,
           ⟨(some 78), none, .lenL (.t 77)⟩,
           ⟨(some 79), none, .mv (.c (.int .i64 0))⟩] false)
         (.blk 1 (.loop (.seq (.ops [
             ⟨(some 80), none, .bin .lss (.t 79) (.t 78)⟩] false)
           (.seq (.cond (.t 80) (.skip)
            (.exit 1))
           (.seq (.blk 2 (.seq (.ops [
               ⟨(some 81), none, .mv (.t 79)⟩,
               ⟨(some 82), none, .iaddr 1 (.t 77) (.t 79)⟩,
               ⟨(some 83), none, .load 1 false (.t 82)⟩,
               ⟨(some 3), none, .mv (.t 81)⟩,
               ⟨(some 4), none, .mv (.t 83)⟩] false)
             (.seq (.ops [
               ⟨(some 84), none, .mv (.t 3)⟩,
               ⟨(some 85), none, .bin .gtr (.t 84) (.c (.int .i64 0))⟩,
               ⟨(some 86), none, .mv (.t 85)⟩,
               ⟨(some 87), (some (86, true)), .faddr 3 (.t 1)⟩,
               ⟨(some 88), (some (86, true)), .load 1 false (.t 87)⟩,
               ⟨(some 89), (some (86, true)), .mv (.t 3)⟩,
               ⟨(some 90), (some (86, true)), .bin .sub (.t 89) (.c (.int .i64 1))⟩,
               ⟨(some 91), (some (86, true)), .iaddr 1 (.t 88) (.t 90)⟩,
               ⟨(some 92), (some (86, true)), .load 1 false (.t 91)⟩,
               ⟨(some 93), (some (86, true)), .mv (.t 4)⟩,
               ⟨(some 94), (some (86, true)), .bin .geq (.t 92) (.t 93)⟩,
               ⟨(some 95), none, .pick (.t 86) (.t 94) (.c (.bool false))⟩,
               ⟨(some 96), none, .mv (.t 95)⟩,
               ⟨(some 97), (some (96, false)), .faddr 4 (.t 1)⟩,
               ⟨(some 98), (some (96, false)), .load 1 false (.t 97)⟩,
               ⟨(some 99), (some (96, false)), .mv (.t 3)⟩,
               ⟨(some 100), (some (96, false)), .iaddr 5 (.t 98) (.t 99)⟩,
               ⟨(some 101), (some (96, false)), .load 5 true (.t 100)⟩,
               ⟨(some 102), (some (96, false)), .call 24 [(.t 101)]⟩,
               ⟨(some 103), (some (96, false)), .un .not (.t 102)⟩,
               ⟨(some 104), none, .pick (.t 96) (.c (.bool true)) (.t 103)⟩] false)
             (.cond (.t 104) (.seq (.ops [
                ⟨(some 2), none, .mv (.c (.bool false))⟩] false)
              (.ret))
             (.skip)))))
           (.ops [
            ⟨(some 105), none, .bin .add (.t 79) (.c (.int .i64 1))⟩,
            ⟨(some 79), none, .mv (.t 105)⟩] false)))))))
        (.seq (.ops [
          ⟨(some 2), none, .mv (.c (.bool true))⟩] false)
        (.ret))))
       (.skip)))))))))))
  (.seq (.ops [
    ⟨(some 2), none, .mv (.c (.bool false))⟩] false)
  (.ret)))) }
theorem cf24 : compF Tryd.prog [] Tryd.f24 = some ir24 := by kernel_rfl
/- (whetstone/value.Value).Field -/
def ir25 : IFn :=
 { nt := 31, res := [.cell 4 5 true, .t 5], body := (
  .seq (.ops [
    ⟨(some 2), none, .box 30 5 (.t 0)⟩,
    ⟨(some 4), none, .alloc 30 [(.int .i64 0), (.int .i64 0), (.str []), (.sl true 1 []), (.sl true 5 [])]⟩,
    ⟨(some 5), none, .mv (.c (.bool false))⟩] false)
  (.seq (.ops [
    ⟨(some 7), none, .faddr 3 (.t 2)⟩,
    ⟨(some 8), none, .load 1 false (.t 7)⟩,
    ⟨(some 9), none, .mv (.t 1)⟩,
    ⟨(some 10), none, .call 40 [(.t 8), (.t 9)]⟩,
    ⟨(some 6), none, .mv (.t 10)⟩] false)
  (.seq (.seq (.ops [
     ⟨(some 11), none, .faddr 0 (.t 2)⟩,
     ⟨(some 12), none, .load 1 false (.t 11)⟩,
     ⟨(some 13), none, .bin .neq (.t 12) (.c (.int .i64 3))⟩,
     ⟨(some 14), none, .mv (.t 13)⟩,
     ⟨(some 15), (some (14, false)), .mv (.t 6)⟩,
     ⟨(some 16), (some (14, false)), .bin .lss (.t 15) (.c (.int .i64 0))⟩,
     ⟨(some 17), none, .pick (.t 14) (.c (.bool true)) (.t 16)⟩,
     ⟨(some 18), none, .mv (.t 17)⟩,
     ⟨(some 19), (some (18, false)), .mv (.t 6)⟩,
     ⟨(some 20), (some (18, false)), .faddr 4 (.t 2)⟩,
     ⟨(some 21), (some (18, false)), .load 1 false (.t 20)⟩,
     ⟨(some 22), (some (18, false)), .lenL (.t 21)⟩,
     ⟨(some 23), (some (18, false)), .bin .geq (.t 19) (.t 22)⟩,
     ⟨(some 24), none, .pick (.t 18) (.c (.bool true)) (.t 23)⟩] false)
   (.cond (.t 24) (.seq (.ops [
      ⟨(some 25), none, .build [(.int .i64 0), (.int .i64 0), (.str []), (.sl true 1 []), (.sl true 5 [])] []⟩,
      ⟨none, none, .store 5 (.t 4) (.t 25)⟩,
      ⟨(some 5), none, .mv (.c (.bool false))⟩] false)
    (.ret))
   (.skip)))
  (.seq (.ops [
    ⟨(some 26), none, .faddr 4 (.t 2)⟩,
    ⟨(some 27), none, .load 1 false (.t 26)⟩,
    ⟨(some 28), none, .mv (.t 6)⟩,
    ⟨(some 29), none, .iaddr 5 (.t 27) (.t 28)⟩,
    ⟨(some 30), none, .load 5 true (.t 29)⟩,
    ⟨none, none, .store 5 (.t 4) (.t 30)⟩,
    ⟨(some 5), none, .mv (.c (.bool true))⟩] false)
  (.ret))))) }
theorem cf25 : compF Tryd.prog [] Tryd.f25 = some ir25 := by kernel_rfl
/- (whetstone/value.Value).Same -/
def ir26 : IFn :=
 { nt := 38, res := [.t 4], body := (
  .seq (.ops [
    ⟨(some 2), none, .box 30 5 (.t 0)⟩,
    ⟨(some 3), none, .box 30 5 (.t 1)⟩,
    ⟨(some 4), none, .mv (.c (.bool false))⟩] false)
  (.seq (.ops [
    ⟨(some 5), none, .faddr 0 (.t 2)⟩,
    ⟨(some 6), none, .load 1 false (.t 5)⟩,
    ⟨(some 7), none, .faddr 0 (.t 3)⟩,
    ⟨(some 8), none, .load 1 false (.t 7)⟩,
    ⟨(some 9), none, .bin .eql (.t 6) (.t 8)⟩,
    ⟨(some 10), none, .mv (.t 9)⟩,
    ⟨(some 11), (some (10, true)), .faddr 1 (.t 2)⟩,
    ⟨(some 12), (some (10, true)), .load 1 false (.t 11)⟩,
    ⟨(some 13), (some (10, true)), .faddr 1 (.t 3)⟩,
    ⟨(some 14), (some (10, true)), .load 1 false (.t 13)⟩,
    ⟨(some 15), (some (10, true)), .bin .eql (.t 12) (.t 14)⟩,
    ⟨(some 16), none, .pick (.t 10) (.t 15) (.c (.bool false))⟩,
    ⟨(some 17), none, .mv (.t 16)⟩,
    ⟨(some 18), (some (17, true)), .faddr 2 (.t 2)⟩,
    ⟨(some 19), (some (17, true)), .load 1 false (.t 18)⟩,
    ⟨(some 20), (some (17, true)), .faddr 2 (.t 3)⟩,
    ⟨(some 21), (some (17, true)), .load 1 false (.t 20)⟩,
    ⟨(some 22), (some (17, true)), .bin .eql (.t 19) (.t 21)⟩,
    ⟨(some 23), none, .pick (.t 17) (.t 22) (.c (.bool false))⟩,
    ⟨(some 24), none, .mv (.t 23)⟩,
    ⟨(some 25), (some (24, true)), .faddr 3 (.t 2)⟩,
    ⟨(some 26), (some (24, true)), .load 1 false (.t 25)⟩,
    ⟨(some 27), (some (24, true)), .faddr 3 (.t 3)⟩,
    ⟨(some 28), (some (24, true)), .load 1 false (.t 27)⟩,
    ⟨(some 29), (some (24, true)), .call 41 [(.t 26), (.t 28)]⟩,
    ⟨(some 30), none, .pick (.t 24) (.t 29) (.c (.bool false))⟩,
    ⟨(some 31), none, .mv (.t 30)⟩,
    ⟨(some 32), (some (31, true)), .faddr 4 (.t 2)⟩,
    ⟨(some 33), (some (31, true)), .load 1 false (.t 32)⟩,
    ⟨(some 34), (some (31, true)), .faddr 4 (.t 3)⟩,
    ⟨(some 35), (some (31, true)), .load 1 false (.t 34)⟩,
    ⟨(some 36), (some (31, true)), .call 42 [(.t 33), (.t 35), (.c (.fn 26))]⟩,
    ⟨(some 37), none, .pick (.t 31) (.t 36) (.c (.bool false))⟩,
    ⟨(some 4), none, .mv (.t 37)⟩] false)
  (.ret))) }
theorem cf26 : compF Tryd.prog [] Tryd.f26 = some ir26 := by kernel_rfl
/- (whetstone/value.Value).Fits -/
def ir27 : IFn :=
 { nt := 50, res := [.t 4], body := (
  .seq (.ops [
    ⟨(some 2), none, .box 30 5 (.t 0)⟩,
    ⟨(some 3), none, .box 55 3 (.t 1)⟩,
    ⟨(some 4), none, .mv (.c (.bool false))⟩] false)
  (.seq (.seq (.ops [
     ⟨(some 7), none, .faddr 0 (.t 3)⟩,
     ⟨(some 8), none, .load 1 false (.t 7)⟩] false)
   (.blk 0 (.seq (.ops [
      ⟨(some 10), none, .bin .eql (.t 8) (.c (.int .i64 0))⟩,
      ⟨(some 9), none, .mv (.t 10)⟩] false)
    (.cond (.t 9) (.seq (.ops [
       ⟨(some 4), none, .mv (.c (.bool true))⟩] false)
     (.ret))
    (.seq (.ops [
       ⟨(some 12), none, .bin .eql (.t 8) (.c (.int .i64 3))⟩,
       ⟨(some 11), none, .mv (.t 12)⟩] false)
     (.cond (.t 11) (.seq (.ops [
        ⟨(some 13), none, .faddr 1 (.t 3)⟩,
        ⟨(some 14), none, .load 1 false (.t 13)⟩,
        ⟨(some 15), none, .lenL (.t 14)⟩,
        ⟨(some 16), none, .mv (.c (.int .i64 0))⟩] false)
      (.blk 1 (.loop (.seq (.ops [
          ⟨(some 17), none, .bin .lss (.t 16) (.t 15)⟩] false)
        (.seq (.cond (.t 17) (.skip)
         (.exit 1))
        (.seq (.blk 2 (.seq (.ops [
            ⟨(some 18), none, .iaddr 1 (.t 14) (.t 16)⟩,
            ⟨(some 19), none, .load 1 false (.t 18)⟩,
            ⟨(some 6), none, .mv (.t 19)⟩] false)
          (.seq (.ops [
            ⟨(some 20), none, .faddr 0 (.t 2)⟩,
            ⟨(some 21), none, .load 1 false (.t 20)⟩,
            ⟨(some 22), none, .bin .neq (.t 21) (.c (.int .i64 3))⟩,
            ⟨(some 23), none, .mv (.t 22)⟩,
            ⟨(some 24), (some (23, false)), .faddr 3 (.t 2)⟩,
            ⟨(some 25), (some (23, false)), .load 1 false (.t 24)⟩,
            ⟨(some 26), (some (23, false)), .mv (.t 6)⟩,
            ⟨(some 27), (some (23, false)), .call 43 [(.t 25), (.t 26)]⟩,
            ⟨(some 28), (some (23, false)), .un .not (.t 27)⟩,
            ⟨(some 29), none, .pick (.t 23) (.c (.bool true)) (.t 28)⟩] false)
          (.cond (.t 29) (.seq (.ops [
             ⟨(some 4), none, .mv (.c (.bool false))⟩] false)
           (.ret))
          (.skip)))))
        (.ops [
         ⟨(some 30), none, .bin .add (.t 16) (.c (.int .i64 1))⟩,
         ⟨(some 16), none, .mv (.t 30)⟩] false)))))))
     (.seq (.ops [
        ⟨(some 32), none, .bin .eql (.t 8) (.c (.int .i64 4))⟩,
        ⟨(some 31), none, .mv (.t 32)⟩] false)
      (.cond (.t 31) (.seq (.ops [
         ⟨(some 33), none, .faddr 0 (.t 2)⟩,
         ⟨(some 34), none, .load 1 false (.t 33)⟩,
         ⟨(some 35), none, .bin .eql (.t 34) (.c (.int .i64 4))⟩,
         ⟨(some 36), none, .mv (.t 35)⟩,
         ⟨(some 37), (some (36, true)), .faddr 1 (.t 2)⟩,
         ⟨(some 38), (some (36, true)), .load 1 false (.t 37)⟩,
         ⟨(some 39), (some (36, true)), .faddr 2 (.t 3)⟩,
         ⟨(some 40), (some (36, true)), .load 1 false (.t 39)⟩,
         ⟨(some 41), (some (36, true)), .lenL (.t 40)⟩,
         ⟨(some 42), (some (36, true)), .bin .sub (.t 41) (.c (.int .i64 1))⟩,
         ⟨(some 43), (some (36, true)), .bin .eql (.t 38) (.t 42)⟩,
         ⟨(some 44), none, .pick (.t 36) (.t 43) (.c (.bool false))⟩,
         ⟨(some 4), none, .mv (.t 44)⟩] false)
       (.ret))
      (.skip)))))))))
  (.seq (.ops [
    ⟨(some 45), none, .faddr 0 (.t 2)⟩,
    ⟨(some 46), none, .load 1 false (.t 45)⟩,
    ⟨(some 47), none, .faddr 0 (.t 3)⟩,
    ⟨(some 48), none, .load 1 false (.t 47)⟩,
    ⟨(some 49), none, .bin .eql (.t 46) (.t 48)⟩,
    ⟨(some 4), none, .mv (.t 49)⟩] false)
  (.ret)))) }
theorem cf27 : compF Tryd.prog [] Tryd.f27 = some ir27 := by kernel_rfl
/- whetstone/whetstonelaw09.Light -/
def ir28 : IFn :=
 { nt := 5, res := [.t 2], body := (
  .seq (.ops [
    ⟨(some 1), none, .box 55 3 (.t 0)⟩,
    ⟨(some 2), none, .mv (.c (.bool false))⟩] false)
  (.seq (.ops [
    ⟨(some 3), none, .load 3 true (.t 1)⟩,
    ⟨(some 4), none, .call 44 [(.t 3), (.c (.int .i64 200)), (.c (.int .i64 30))]⟩,
    ⟨(some 2), none, .mv (.t 4)⟩] false)
  (.ret))) }
theorem cf28 : compF Tryd.prog [] Tryd.f28 = some ir28 := by kernel_rfl
/- whetstone/whetstoneref09.Right -/
def ir29 : IFn :=
 { nt := 103, res := [.t 2], body := (
  .seq (.ops [
    ⟨(some 1), none, .box 55 3 (.t 0)⟩,
    ⟨(some 2), none, .mv (.c (.bool false))⟩] false)
  (.seq (.seq (.ops [
     ⟨(some 5), none, .faddr 0 (.t 1)⟩,
     ⟨(some 6), none, .load 1 false (.t 5)⟩,
     ⟨(some 7), none, .bin .lss (.t 6) (.c (.int .i64 0))⟩,
     ⟨(some 8), none, .mv (.t 7)⟩,
     ⟨(some 9), (some (8, false)), .faddr 0 (.t 1)⟩,
     ⟨(some 10), (some (8, false)), .load 1 false (.t 9)⟩,
     ⟨(some 11), (some (8, false)), .bin .gtr (.t 10) (.c (.int .i64 4))⟩,
     ⟨(some 12), none, .pick (.t 8) (.c (.bool true)) (.t 11)⟩] false)
   (.cond (.t 12) (.seq (.ops [
      ⟨(some 2), none, .mv (.c (.bool false))⟩] false)
    (.ret))
   (.skip)))
  (.seq (.seq (.ops [
     ⟨(some 13), none, .faddr 0 (.t 1)⟩,
     ⟨(some 14), none, .load 1 false (.t 13)⟩,
     ⟨(some 15), none, .bin .leq (.t 14) (.c (.int .i64 2))⟩,
     ⟨(some 16), none, .mv (.t 15)⟩,
     ⟨(some 17), (some (16, true)), .faddr 1 (.t 1)⟩,
     ⟨(some 18), (some (16, true)), .load 1 false (.t 17)⟩,
     ⟨(some 19), (some (16, true)), .lenL (.t 18)⟩,
     ⟨(some 20), (some (16, true)), .bin .gtr (.t 19) (.c (.int .i64 0))⟩,
     ⟨(some 21), (some (16, true)), .mv (.t 20)⟩,
     ⟨(some 22), (some (21, false)), .faddr 2 (.t 1)⟩,
     ⟨(some 23), (some (21, false)), .load 1 false (.t 22)⟩,
     ⟨(some 24), (some (21, false)), .lenL (.t 23)⟩,
     ⟨(some 25), (some (21, false)), .bin .gtr (.t 24) (.c (.int .i64 0))⟩,
     ⟨(some 26), (some (16, true)), .pick (.t 21) (.c (.bool true)) (.t 25)⟩,
     ⟨(some 27), none, .pick (.t 16) (.t 26) (.c (.bool false))⟩] false)
   (.cond (.t 27) (.seq (.ops [
      ⟨(some 2), none, .mv (.c (.bool false))⟩] false)
    (.ret))
   (.skip)))
  (.seq (.seq (.ops [
     ⟨(some 28), none, .faddr 0 (.t 1)⟩,
     ⟨(some 29), none, .load 1 false (.t 28)⟩,
     ⟨(some 30), none, .bin .eql (.t 29) (.c (.int .i64 3))⟩,
     ⟨(some 31), none, .mv (.t 30)⟩,
     ⟨(some 32), (some (31, true)), .faddr 1 (.t 1)⟩,
     ⟨(some 33), (some (31, true)), .load 1 false (.t 32)⟩,
     ⟨(some 34), (some (31, true)), .lenL (.t 33)⟩,
     ⟨(some 35), (some (31, true)), .faddr 2 (.t 1)⟩,
     ⟨(some 36), (some (31, true)), .load 1 false (.t 35)⟩,
     ⟨(some 37), (some (31, true)), .lenL (.t 36)⟩,
     ⟨(some 38), (some (31, true)), .bin .neq (.t 34) (.t 37)⟩,
     ⟨(some 39), none, .pick (.t 31) (.t 38) (.c (.bool false))⟩,
     ⟨(some 40), none, .mv (.t 39)⟩,
     ⟨(some 41), (some (40, false)), .faddr 0 (.t 1)⟩,
     ⟨(some 42), (some (40, false)), .load 1 false (.t 41)⟩,
     ⟨(some 43), (some (40, false)), .bin .eql (.t 42) (.c (.int .i64 4))⟩,
     ⟨(some 44), (some (40, false)), .mv (.t 43)⟩,
     ⟨(some 45), (some (44, true)), .faddr 1 (.t 1)⟩,
     ⟨(some 46), (some (44, true)), .load 1 false (.t 45)⟩,
     ⟨(some 47), (some (44, true)), .lenL (.t 46)⟩,
     ⟨(some 48), (some (44, true)), .bin .gtr (.t 47) (.c (.int .i64 0))⟩,
     ⟨(some 49), (some (44, true)), .mv (.t 48)⟩,
     ⟨(some 50), (some (49, false)), .faddr 2 (.t 1)⟩,
     ⟨(some 51), (some (49, false)), .load 1 false (.t 50)⟩,
     ⟨(some 52), (some (49, false)), .lenL (.t 51)⟩,
     ⟨(some 53), (some (49, false)), .bin .eql (.t 52) (.c (.int .i64 0))⟩,
     ⟨(some 54), (some (44, true)), .pick (.t 49) (.c (.bool true)) (.t 53)⟩,
     ⟨(some 55), (some (40, false)), .pick (.t 44) (.t 54) (.c (.bool false))⟩,
     ⟨(some 56), none, .pick (.t 40) (.c (.bool true)) (.t 55)⟩] false)
   (.cond (.t 56) (.seq (.ops [
      ⟨(some 2), none, .mv (.c (.bool false))⟩] false)
    (.ret))
   (.skip)))
  (.seq (.seq (.ops [
     ⟨(some 3), none, .mv (.c (.int .i64 0))⟩] false)
   (.blk 0 (.loop (.seq (.seq (.ops [
        ⟨(some 57), none, .mv (.t 3)⟩,
        ⟨(some 58), none, .faddr 1 (.t 1)⟩,
        ⟨(some 59), none, .load 1 false (.t 58)⟩,
        ⟨(some 60), none, .lenL (.t 59)⟩,
        ⟨(some 61), none, .bin .lss (.t 57) (.t 60)⟩] false)
      (.cond (.t 61) (.skip)
      (.exit 0)))
     (.seq (.blk 1 (.seq (.ops [
         ⟨(some 64), none, .faddr 1 (.t 1)⟩,
         ⟨(some 65), none, .load 1 false (.t 64)⟩,
         ⟨(some 66), none, .mv (.t 3)⟩,
         ⟨(some 67), none, .iaddr 1 (.t 65) (.t 66)⟩,
         ⟨(some 68), none, .load 1 false (.t 67)⟩,
         ⟨(some 69), none, .call 33 [(.t 68)]⟩,
         ⟨(some 70), none, .un .not (.t 69)⟩,
         ⟨(some 71), none, .mv (.t 70)⟩,
         ⟨(some 72), (some (71, false)), .mv (.t 3)⟩,
         ⟨(some 73), (some (71, false)), .bin .gtr (.t 72) (.c (.int .i64 0))⟩,
         ⟨(some 74), (some (71, false)), .mv (.t 73)⟩,
         ⟨(some 75), (some (74, true)), .faddr 1 (.t 1)⟩,
         ⟨(some 76), (some (74, true)), .load 1 false (.t 75)⟩,
         ⟨(some 77), (some (74, true)), .mv (.t 3)⟩,
         ⟨(some 78), (some (74, true)), .iaddr 1 (.t 76) (.t 77)⟩,
         ⟨(some 79), (some (74, true)), .load 1 false (.t 78)⟩,
         ⟨(some 80), (some (74, true)), .faddr 1 (.t 1)⟩,
         ⟨(some 81), (some (74, true)), .load 1 false (.t 80)⟩,
         ⟨(some 82), (some (74, true)), .mv (.t 3)⟩,
         ⟨(some 83), (some (74, true)), .bin .sub (.t 82) (.c (.int .i64 1))⟩,
         ⟨(some 84), (some (74, true)), .iaddr 1 (.t 81) (.t 83)⟩,
         ⟨(some 85), (some (74, true)), .load 1 false (.t 84)⟩,
         ⟨(some 86), (some (74, true)), .bin .leq (.t 79) (.t 85)⟩,
         ⟨(some 87), (some (71, false)), .pick (.t 74) (.t 86) (.c (.bool false))⟩,
         ⟨(some 88), none, .pick (.t 71) (.c (.bool true)) (.t 87)⟩] true)
       (.cond (.t 88) (.seq (.ops [
          ⟨(some 2), none, .mv (.c (.bool false))⟩] false)
        (.ret))
       (.skip))))
     (.ops [
      ⟨(some 62), none, .mv (.t 3)⟩,
      ⟨(some 63), none, .bin .add (.t 62) (.c (.int .i64 1))⟩,
      ⟨(some 3), none, .mv (.t 63)⟩] false))))))
  (.seq (.seq (.ops [
     ⟨(some 4), none, .mv (.c (.int .i64 0))⟩] false)
   (.blk 2 (.loop (.seq (.seq (.ops [
        ⟨(some 89), none, .mv (.t 4)⟩,
        ⟨(some 90), none, .faddr 2 (.t 1)⟩,
        ⟨(some 91), none, .load 1 false (.t 90)⟩,
        ⟨(some 92), none, .lenL (.t 91)⟩,
        ⟨(some 93), none, .bin .lss (.t 89) (.t 92)⟩] false)
      (.cond (.t 93) (.skip)
      (.exit 2)))
     (.seq (.blk 3 (.seq (.ops [
         ⟨(some 96), none, .faddr 2 (.t 1)⟩,
         ⟨(some 97), none, .load 1 false (.t 96)⟩,
         ⟨(some 98), none, .mv (.t 4)⟩,
         ⟨(some 99), none, .iaddr 3 (.t 97) (.t 98)⟩,
         ⟨(some 100), none, .load 3 true (.t 99)⟩,
         ⟨(some 101), none, .call 29 [(.t 100)]⟩,
         ⟨(some 102), none, .un .not (.t 101)⟩] false)
       (.cond (.t 102) (.seq (.ops [
          ⟨(some 2), none, .mv (.c (.bool false))⟩] false)
        (.ret))
       (.skip))))
     (.ops [
      ⟨(some 94), none, .mv (.t 4)⟩,
      ⟨(some 95), none, .bin .add (.t 94) (.c (.int .i64 1))⟩,
      ⟨(some 4), none, .mv (.t 95)⟩] false))))))
  (.seq (.ops [
    ⟨(some 2), none, .mv (.c (.bool true))⟩] false)
  (.ret)))))))) }
theorem cf29 : compF Tryd.prog [] Tryd.f29 = some ir29 := by kernel_rfl
/- whetstone/whetstoneref11.Text -/
def ir30 : IFn :=
 { nt := 51, res := [.t 2], body := (
  .seq (.ops [
    ⟨(some 1), none, .box 25 5 (.t 0)⟩,
    ⟨(some 2), none, .mv (.c (.str []))⟩] false)
  (.seq (.seq (.ops [
     ⟨(some 5), none, .faddr 0 (.t 1)⟩,
     ⟨(some 6), none, .load 1 false (.t 5)⟩] false)
   (.blk 0 (.seq (.ops [
      ⟨(some 8), none, .bin .eql (.t 6) (.c (.int .i64 1))⟩,
      ⟨(some 7), none, .mv (.t 8)⟩] false)
    (.cond (.t 7) (.seq (.ops [
       ⟨(some 9), none, .faddr 1 (.t 1)⟩,
       ⟨(some 10), none, .load 1 false (.t 9)⟩,
       ⟨(some 11), none, .call 45 [(.t 10)]⟩,
       ⟨(some 2), none, .mv (.t 11)⟩] false)
     (.ret))
    (.seq (.ops [
       ⟨(some 13), none, .bin .eql (.t 6) (.c (.int .i64 2))⟩,
       ⟨(some 12), none, .mv (.t 13)⟩] false)
     (.cond (.t 12) (.seq (.ops [
        ⟨(some 14), none, .faddr 2 (.t 1)⟩,
        ⟨(some 15), none, .load 1 false (.t 14)⟩,
        ⟨(some 16), none, .call 46 [(.t 15)]⟩,
        ⟨(some 2), none, .mv (.t 16)⟩] false)
      (.ret))
     (.seq (.ops [
        ⟨(some 18), none, .bin .eql (.t 6) (.c (.int .i64 4))⟩,
        ⟨(some 17), none, .mv (.t 18)⟩] false)
      (.cond (.t 17) (.seq (.ops [
         ⟨(some 19), none, .faddr 1 (.t 1)⟩,
         ⟨(some 20), none, .load 1 false (.t 19)⟩,
         ⟨(some 21), none, .call 45 [(.t 20)]⟩,
         ⟨(some 22), none, .bin .add (.c (.str [102, 110, 47])) (.t 21)⟩,
         ⟨(some 2), none, .mv (.t 22)⟩] false)
       (.ret))
      (.skip)))))))))
  (.seq (.ops [
    ⟨(some 3), none, .mv (.c (.str [123]))⟩] false)
  (.seq (.seq (.ops [
     ⟨(some 4), none, .mv (.c (.int .i64 0))⟩] false)
   (.blk 1 (.loop (.seq (.seq (.ops [
        ⟨(some 23), none, .mv (.t 4)⟩,
        ⟨(some 24), none, .faddr 3 (.t 1)⟩,
        ⟨(some 25), none, .load 1 false (.t 24)⟩,
        ⟨(some 26), none, .lenL (.t 25)⟩,
        ⟨(some 27), none, .bin .lss (.t 23) (.t 26)⟩] false)
      (.cond (.t 27) (.skip)
      (.exit 1)))
     (.seq (.blk 2 (.seq (.seq (.ops [
          ⟨(some 30), none, .mv (.t 4)⟩,
          ⟨(some 31), none, .bin .gtr (.t 30) (.c (.int .i64 0))⟩] false)
        (.cond (.t 31) (.ops [
          ⟨(some 32), none, .mv (.t 3)⟩,
          ⟨(some 33), none, .bin .add (.t 32) (.c (.str [44, 32]))⟩,
          ⟨(some 3), none, .mv (.t 33)⟩] false)
        (.skip)))
       (.ops [
        ⟨(some 34), none, .mv (.t 3)⟩,
        ⟨(some 35), none, .faddr 3 (.t 1)⟩,
        ⟨(some 36), none, .load 1 false (.t 35)⟩,
        ⟨(some 37), none, .mv (.t 4)⟩,
        ⟨(some 38), none, .iaddr 1 (.t 36) (.t 37)⟩,
        ⟨(some 39), none, .load 1 false (.t 38)⟩,
        ⟨(some 40), none, .bin .add (.t 34) (.t 39)⟩,
        ⟨(some 41), none, .bin .add (.t 40) (.c (.str [58, 32]))⟩,
        ⟨(some 42), none, .faddr 4 (.t 1)⟩,
        ⟨(some 43), none, .load 1 false (.t 42)⟩,
        ⟨(some 44), none, .mv (.t 4)⟩,
        ⟨(some 45), none, .iaddr 5 (.t 43) (.t 44)⟩,
        ⟨(some 46), none, .load 5 true (.t 45)⟩,
        ⟨(some 47), none, .call 30 [(.t 46)]⟩,
        ⟨(some 48), none, .bin .add (.t 41) (.t 47)⟩,
        ⟨(some 3), none, .mv (.t 48)⟩] true)))
     (.ops [
      ⟨(some 28), none, .mv (.t 4)⟩,
      ⟨(some 29), none, .bin .add (.t 28) (.c (.int .i64 1))⟩,
      ⟨(some 4), none, .mv (.t 29)⟩] false))))))
  (.seq (.ops [
    ⟨(some 49), none, .mv (.t 3)⟩,
    ⟨(some 50), none, .bin .add (.t 49) (.c (.str [125]))⟩,
    ⟨(some 2), none, .mv (.t 50)⟩] false)
  (.ret)))))) }
theorem cf30 : compF Tryd.prog [] Tryd.f30 = some ir30 := by kernel_rfl
/- whetstone/whetstoneref11.Fits -/
def ir31 : IFn :=
 { nt := 61, res := [.t 4], body := (
  .seq (.ops [
    ⟨(some 2), none, .box 25 5 (.t 0)⟩,
    ⟨(some 3), none, .box 55 3 (.t 1)⟩,
    ⟨(some 4), none, .mv (.c (.bool false))⟩] false)
  (.seq (.seq (.ops [
     ⟨(some 8), none, .faddr 0 (.t 3)⟩,
     ⟨(some 9), none, .load 1 false (.t 8)⟩,
     ⟨(some 10), none, .bin .eql (.t 9) (.c (.int .i64 0))⟩] false)
   (.cond (.t 10) (.seq (.ops [
      ⟨(some 4), none, .mv (.c (.bool true))⟩] false)
    (.ret))
   (.skip)))
  (.seq (.seq (.ops [
     ⟨(some 11), none, .faddr 0 (.t 2)⟩,
     ⟨(some 12), none, .load 1 false (.t 11)⟩,
     ⟨(some 13), none, .faddr 0 (.t 3)⟩,
     ⟨(some 14), none, .load 1 false (.t 13)⟩,
     ⟨(some 15), none, .bin .neq (.t 12) (.t 14)⟩] false)
   (.cond (.t 15) (.seq (.ops [
      ⟨(some 4), none, .mv (.c (.bool false))⟩] false)
    (.ret))
   (.skip)))
  (.seq (.seq (.ops [
     ⟨(some 16), none, .faddr 0 (.t 3)⟩,
     ⟨(some 17), none, .load 1 false (.t 16)⟩,
     ⟨(some 18), none, .bin .eql (.t 17) (.c (.int .i64 4))⟩] false)
   (.cond (.t 18) (.seq (.ops [
      ⟨(some 19), none, .faddr 1 (.t 2)⟩,
      ⟨(some 20), none, .load 1 false (.t 19)⟩,
      ⟨(some 21), none, .faddr 2 (.t 3)⟩,
      ⟨(some 22), none, .load 1 false (.t 21)⟩,
      ⟨(some 23), none, .lenL (.t 22)⟩,
      ⟨(some 24), none, .bin .sub (.t 23) (.c (.int .i64 1))⟩,
      ⟨(some 25), none, .bin .eql (.t 20) (.t 24)⟩,
      ⟨(some 4), none, .mv (.t 25)⟩] false)
    (.ret))
   (.skip)))
  (.seq (.seq (.ops [
     ⟨(some 5), none, .mv (.c (.int .i64 0))⟩] false)
   (.blk 0 (.loop (.seq (.seq (.ops [
        ⟨(some 26), none, .mv (.t 5)⟩,
        ⟨(some 27), none, .faddr 1 (.t 3)⟩,
        ⟨(some 28), none, .load 1 false (.t 27)⟩,
        ⟨(some 29), none, .lenL (.t 28)⟩,
        ⟨(some 30), none, .bin .lss (.t 26) (.t 29)⟩,
        ⟨(some 31), none, .mv (.t 30)⟩,
        ⟨(some 32), (some (31, true)), .faddr 0 (.t 3)⟩,
        ⟨(some 33), (some (31, true)), .load 1 false (.t 32)⟩,
        ⟨(some 34), (some (31, true)), .bin .eql (.t 33) (.c (.int .i64 3))⟩,
        ⟨(some 35), none, .pick (.t 31) (.t 34) (.c (.bool false))⟩] false)
      (.cond (.t 35) (.skip)
      (.exit 0)))
     (.seq (.blk 1 (.seq (.ops [
         ⟨(some 6), none, .mv (.c (.bool false))⟩] false)
       (.seq (.seq (.ops [
          ⟨(some 7), none, .mv (.c (.int .i64 0))⟩] false)
        (.blk 2 (.loop (.seq (.seq (.ops [
             ⟨(some 38), none, .mv (.t 7)⟩,
             ⟨(some 39), none, .faddr 3 (.t 2)⟩,
             ⟨(some 40), none, .load 1 false (.t 39)⟩,
             ⟨(some 41), none, .lenL (.t 40)⟩,
             ⟨(some 42), none, .bin .lss (.t 38) (.t 41)⟩] false)
           (.cond (.t 42) (.skip)
           (.exit 2)))
          (.seq (.blk 3 (.ops [
             ⟨(some 45), none, .mv (.t 6)⟩,
             ⟨(some 46), none, .mv (.t 45)⟩,
             ⟨(some 47), (some (46, false)), .faddr 3 (.t 2)⟩,
             ⟨(some 48), (some (46, false)), .load 1 false (.t 47)⟩,
             ⟨(some 49), (some (46, false)), .mv (.t 7)⟩,
             ⟨(some 50), (some (46, false)), .iaddr 1 (.t 48) (.t 49)⟩,
             ⟨(some 51), (some (46, false)), .load 1 false (.t 50)⟩,
             ⟨(some 52), (some (46, false)), .faddr 1 (.t 3)⟩,
             ⟨(some 53), (some (46, false)), .load 1 false (.t 52)⟩,
             ⟨(some 54), (some (46, false)), .mv (.t 5)⟩,
             ⟨(some 55), (some (46, false)), .iaddr 1 (.t 53) (.t 54)⟩,
             ⟨(some 56), (some (46, false)), .load 1 false (.t 55)⟩,
             ⟨(some 57), (some (46, false)), .bin .eql (.t 51) (.t 56)⟩,
             ⟨(some 58), none, .pick (.t 46) (.c (.bool true)) (.t 57)⟩,
             ⟨(some 6), none, .mv (.t 58)⟩] true))
          (.ops [
           ⟨(some 43), none, .mv (.t 7)⟩,
           ⟨(some 44), none, .bin .add (.t 43) (.c (.int .i64 1))⟩,
           ⟨(some 7), none, .mv (.t 44)⟩] false))))))
       (.seq (.ops [
         ⟨(some 59), none, .mv (.t 6)⟩,
         ⟨(some 60), none, .un .not (.t 59)⟩] false)
       (.cond (.t 60) (.seq (.ops [
          ⟨(some 4), none, .mv (.c (.bool false))⟩] false)
        (.ret))
       (.skip))))))
     (.ops [
      ⟨(some 36), none, .mv (.t 5)⟩,
      ⟨(some 37), none, .bin .add (.t 36) (.c (.int .i64 1))⟩,
      ⟨(some 5), none, .mv (.t 37)⟩] false))))))
  (.seq (.ops [
    ⟨(some 4), none, .mv (.c (.bool true))⟩] false)
  (.ret))))))) }
theorem cf31 : compF Tryd.prog [] Tryd.f31 = some ir31 := by kernel_rfl
/- whetstone/whetstoneref11.Small -/
def ir32 : IFn :=
 { nt := 13, res := [.t 6], body := (
  .seq (.ops [
    ⟨(some 3), none, .box 25 5 (.t 0)⟩,
    ⟨(some 6), none, .mv (.c (.bool false))⟩] false)
  (.seq (.ops [
    ⟨(some 7), none, .load 5 true (.t 3)⟩,
    ⟨(some 8), none, .mv (.t 1)⟩,
    ⟨(some 9), none, .mv (.t 2)⟩,
    ⟨(some 10), none, .call 47 [(.t 7), (.t 8), (.t 9)]⟩,
    ⟨(some 11), none, .mv (.t 1)⟩,
    ⟨(some 12), none, .bin .leq (.t 10) (.t 11)⟩,
    ⟨(some 6), none, .mv (.t 12)⟩] false)
  (.ret))) }
theorem cf32 : compF Tryd.prog [] Tryd.f32 = some ir32 := by kernel_rfl
/- whetstone/whetstoneref04.IsName -/
def ir33 : IFn :=
 { nt := 39, res := [.t 2], body := (
  .seq (.ops [
    ⟨(some 2), none, .mv (.c (.bool false))⟩] false)
  (.seq (.seq (.ops [
     ⟨(some 4), none, .mv (.t 0)⟩,
     ⟨(some 5), none, .lenS (.t 4)⟩,
     ⟨(some 6), none, .bin .eql (.t 5) (.c (.int .i64 0))⟩,
     ⟨(some 7), none, .mv (.t 6)⟩,
     ⟨(some 8), (some (7, false)), .mv (.t 0)⟩,
     ⟨(some 9), (some (7, false)), .lenS (.t 8)⟩,
     ⟨(some 10), (some (7, false)), .bin .gtr (.t 9) (.c (.int .i64 40))⟩,
     ⟨(some 11), none, .pick (.t 7) (.c (.bool true)) (.t 10)⟩,
     ⟨(some 12), none, .mv (.t 11)⟩,
     ⟨(some 13), (some (12, false)), .mv (.t 0)⟩,
     ⟨(some 14), (some (12, false)), .call 48 [(.t 13)]⟩,
     ⟨(some 15), none, .pick (.t 12) (.c (.bool true)) (.t 14)⟩,
     ⟨(some 16), none, .mv (.t 15)⟩,
     ⟨(some 17), (some (16, false)), .mv (.t 0)⟩,
     ⟨(some 18), (some (16, false)), .sidx (.t 17) (.c (.int .i64 0))⟩,
     ⟨(some 19), (some (16, false)), .call 49 [(.t 18)]⟩,
     ⟨(some 20), none, .pick (.t 16) (.c (.bool true)) (.t 19)⟩] false)
   (.cond (.t 20) (.seq (.ops [
      ⟨(some 2), none, .mv (.c (.bool false))⟩] false)
    (.ret))
   (.skip)))
  (.seq (.seq (.ops [
     ⟨(some 3), none, .mv (.c (.int .i64 0))⟩] false)
   (.blk 0 (.loop (.seq (.seq (.ops [
        ⟨(some 21), none, .mv (.t 3)⟩,
        ⟨(some 22), none, .mv (.t 0)⟩,
        ⟨(some 23), none, .lenS (.t 22)⟩,
        ⟨(some 24), none, .bin .lss (.t 21) (.t 23)⟩] false)
      (.cond (.t 24) (.skip)
      (.exit 0)))
     (.seq (.blk 1 (.seq (.ops [
         ⟨(some 27), none, .mv (.t 0)⟩,
         ⟨(some 28), none, .mv (.t 3)⟩,
         ⟨(some 29), none, .sidx (.t 27) (.t 28)⟩,
         ⟨(some 30), none, .call 50 [(.t 29)]⟩,
         ⟨(some 31), none, .un .not (.t 30)⟩,
         ⟨(some 32), none, .mv (.t 31)⟩,
         ⟨(some 33), (some (32, true)), .mv (.t 0)⟩,
         ⟨(some 34), (some (32, true)), .mv (.t 3)⟩,
         ⟨(some 35), (some (32, true)), .sidx (.t 33) (.t 34)⟩,
         ⟨(some 36), (some (32, true)), .call 49 [(.t 35)]⟩,
         ⟨(some 37), (some (32, true)), .un .not (.t 36)⟩,
         ⟨(some 38), none, .pick (.t 32) (.t 37) (.c (.bool false))⟩] false)
       (.cond (.t 38) (.seq (.ops [
          ⟨(some 2), none, .mv (.c (.bool false))⟩] false)
        (.ret))
       (.skip))))
     (.ops [
      ⟨(some 25), none, .mv (.t 3)⟩,
      ⟨(some 26), none, .bin .add (.t 25) (.c (.int .i64 1))⟩,
      ⟨(some 3), none, .mv (.t 26)⟩] false))))))
  (.seq (.ops [
    ⟨(some 2), none, .mv (.c (.bool true))⟩] false)
  (.ret))))) }
theorem cf33 : compF Tryd.prog [] Tryd.f33 = some ir33 := by kernel_rfl
/- strconv.FormatInt -/
def ir34 : IFn :=
 { nt := 8, res := [.t 4], body := (
  .seq (.ops [
    ⟨(some 4), none, .mv (.c (.str []))⟩] false)
  (.seq (.ops [
    ⟨(some 5), none, .mv (.t 0)⟩,
    ⟨(some 6), none, .mv (.t 1)⟩,
    ⟨(some 7), none, .call 51 [(.t 5), (.t 6)]⟩,
    ⟨(some 4), none, .mv (.t 7)⟩] false)
  (.ret))) }
theorem cf34 : compF Tryd.prog [] Tryd.f34 = some ir34 := by kernel_rfl
/- whetstone/runes.Quote -/
def ir35 : IFn :=
 { nt := 29, res := [.t 2], body := (
  .seq (.ops [
    ⟨(some 2), none, .mv (.c (.str []))⟩] false)
  (.seq (.ops [
    ⟨(some 3), none, .allocT 83 [.nilp, (.sl true 1 [])] 1 1 5⟩] false)
  (.seq (.ops [
    ⟨(some 6), none, .call 52 [(.t 3), (.c (.int .u8 34))]⟩] false)
  (.seq (.seq (.ops [
     ⟨(some 7), none, .mv (.t 0)⟩,
     ⟨(some 8), none, .lenS (.t 7)⟩,
     ⟨(some 9), none, .mv (.c (.int .i64 0))⟩] false)
   (.blk 0 (.loop (.seq (.ops [
       ⟨(some 10), none, .bin .lss (.t 9) (.t 8)⟩] false)
     (.seq (.cond (.t 10) (.skip)
      (.exit 0))
     (.seq (.blk 1 (.seq (.ops [
         ⟨(some 11), none, .mv (.t 9)⟩,
         ⟨(some 4), none, .mv (.t 11)⟩] false)
       (.seq (.seq (.ops [
          ⟨(some 12), none, .mv (.t 0)⟩,
          ⟨(some 13), none, .mv (.t 4)⟩,
          ⟨(some 14), none, .sidx (.t 12) (.t 13)⟩,
          ⟨(some 15), none, .call 53 [(.c (.str [10, 9, 34, 92])), (.t 14)]⟩,
          ⟨(some 5), none, .mv (.t 15)⟩] false)
        (.seq (.ops [
          ⟨(some 16), none, .mv (.t 5)⟩,
          ⟨(some 17), none, .bin .geq (.t 16) (.c (.int .i64 0))⟩] false)
        (.cond (.t 17) (.seq (.ops [
           ⟨(some 18), none, .call 52 [(.t 3), (.c (.int .u8 92))]⟩] false)
         (.seq (.ops [
           ⟨(some 19), none, .mv (.t 5)⟩,
           ⟨(some 20), none, .sidx (.c (.str [110, 116, 34, 92])) (.t 19)⟩,
           ⟨(some 21), none, .call 52 [(.t 3), (.t 20)]⟩] false)
         (.exit 1)))
        (.skip))))
       (.ops [
        ⟨(some 22), none, .mv (.t 0)⟩,
        ⟨(some 23), none, .mv (.t 4)⟩,
        ⟨(some 24), none, .sidx (.t 22) (.t 23)⟩,
        ⟨(some 25), none, .call 52 [(.t 3), (.t 24)]⟩] false))))
     (.ops [
      ⟨(some 26), none, .bin .add (.t 9) (.c (.int .i64 1))⟩,
      ⟨(some 9), none, .mv (.t 26)⟩] false)))))))
  (.seq (.ops [
    ⟨(some 27), none, .call 52 [(.t 3), (.c (.int .u8 34))]⟩] false)
  (.seq (.ops [
    ⟨(some 28), none, .call 54 [(.t 3)]⟩,
    ⟨(some 2), none, .mv (.t 28)⟩] false)
  (.ret))))))) }
theorem cf35 : compF Tryd.prog [3] Tryd.f35 = some ir35 := by kernel_rfl
/- slices.SortStableFunc[[]whetstone/value.pair,whetstone/value.pair] -/
def ir37 : IFn :=
 { nt := 9, res := [], body := (
  .ops [
   ⟨(some 4), none, .mv (.t 0)⟩,
   ⟨(some 5), none, .mv (.t 0)⟩,
   ⟨(some 6), none, .lenL (.t 5)⟩,
   ⟨(some 7), none, .mv (.t 1)⟩,
   ⟨(some 8), none, .call 57 [(.t 4), (.t 6), (.t 7)]⟩] false) }
theorem cf37 : compF Tryd.prog [] Tryd.f37 = some ir37 := by kernel_rfl
/- whetstone/value.Rec$1 -/
def ir38 : IFn :=
 { nt := 10, res := [.t 4], body := (
  .seq (.ops [
    ⟨(some 2), none, .box 67 6 (.t 0)⟩,
    ⟨(some 3), none, .box 67 6 (.t 1)⟩,
    ⟨(some 4), none, .mv (.c (.int .i64 0))⟩] false)
  (.seq (.ops [
    ⟨(some 5), none, .faddr 0 (.t 2)⟩,
    ⟨(some 6), none, .load 1 false (.t 5)⟩,
    ⟨(some 7), none, .faddr 0 (.t 3)⟩,
    ⟨(some 8), none, .load 1 false (.t 7)⟩,
    ⟨(some 9), none, .call 39 [(.t 6), (.t 8)]⟩,
    ⟨(some 4), none, .mv (.t 9)⟩] false)
  (.ret))) }
theorem cf38 : compF Tryd.prog [] Tryd.f38 = some ir38 := by kernel_rfl
/- cmp.Compare[string] -/
def ir39 : IFn :=
 { nt := 20, res := [.t 4], body := (
  .seq (.ops [
    ⟨(some 4), none, .mv (.c (.int .i64 0))⟩] false)
  (.seq (.ops [
    ⟨(some 7), none, .mv (.t 0)⟩,
    ⟨(some 8), none, .call 58 [(.t 7)]⟩,
    ⟨(some 5), none, .mv (.t 8)⟩] false)
  (.seq (.ops [
    ⟨(some 9), none, .mv (.t 1)⟩,
    ⟨(some 10), none, .call 58 [(.t 9)]⟩,
    ⟨(some 6), none, .mv (.t 10)⟩] false)
  (.seq (.seq (.ops [
     ⟨(some 11), none, .mv (.t 5)⟩] false)
   (.cond (.t 11) (.seq (.seq (.ops [
       ⟨(some 12), none, .mv (.t 6)⟩] false)
     (.cond (.t 12) (.seq (.ops [
        ⟨(some 4), none, .mv (.c (.int .i64 0))⟩] false)
      (.ret))
     (.skip)))
    (.seq (.ops [
      ⟨(some 4), none, .mv (.c (.int .i64 (-1)))⟩] false)
    (.ret)))
   (.skip)))
  (.seq (.seq (.ops [
     ⟨(some 13), none, .mv (.t 6)⟩] false)
   (.cond (.t 13) (.seq (.ops [
      ⟨(some 4), none, .mv (.c (.int .i64 1))⟩] false)
    (.ret))
   (.skip)))
  (.seq (.seq (.ops [
     ⟨(some 14), none, .mv (.t 0)⟩,
     ⟨(some 15), none, .mv (.t 1)⟩,
     ⟨(some 16), none, .bin .lss (.t 14) (.t 15)⟩] false)
   (.cond (.t 16) (.seq (.ops [
      ⟨(some 4), none, .mv (.c (.int .i64 (-1)))⟩] false)
    (.ret))
   (.skip)))
  (.seq (.seq (.ops [
     ⟨(some 17), none, .mv (.t 0)⟩,
     ⟨(some 18), none, .mv (.t 1)⟩,
     ⟨(some 19), none, .bin .gtr (.t 17) (.t 18)⟩] false)
   (.cond (.t 19) (.seq (.ops [
      ⟨(some 4), none, .mv (.c (.int .i64 1))⟩] false)
    (.ret))
   (.skip)))
  (.seq (.ops [
    ⟨(some 4), none, .mv (.c (.int .i64 0))⟩] false)
  (.ret))))))))) }
theorem cf39 : compF Tryd.prog [] Tryd.f39 = some ir39 := by kernel_rfl
/- slices.Index[[]string,string] -/
def ir40 : IFn :=
 { nt := 19, res := [.t 4], body := (
  .seq (.ops [
    ⟨(some 4), none, .mv (.c (.int .i64 0))⟩] false)
  (.seq (.seq (.ops [
     ⟨(some 6), none, .mv (.t 0)⟩,
     ⟨(some 7), none, .lenL (.t 6)⟩,
     ⟨(some 8), none, .mv (.c (.int .i64 0))⟩] false)
   (.blk 0 (.loop (.seq (.ops [
       ⟨(some 9), none, .bin .lss (.t 8) (.t 7)⟩] false)
     (.seq (.cond (.t 9) (.skip)
      (.exit 0))
     (.seq (.blk 1 (.seq (.ops [
         ⟨(some 10), none, .mv (.t 8)⟩,
         ⟨(some 5), none, .mv (.t 10)⟩] false)
       (.seq (.ops [
         ⟨(some 11), none, .mv (.t 1)⟩,
         ⟨(some 12), none, .mv (.t 0)⟩,
         ⟨(some 13), none, .mv (.t 5)⟩,
         ⟨(some 14), none, .iaddr 1 (.t 12) (.t 13)⟩,
         ⟨(some 15), none, .load 1 false (.t 14)⟩,
         ⟨(some 16), none, .bin .eql (.t 11) (.t 15)⟩] false)
       (.cond (.t 16) (.seq (.ops [
          ⟨(some 17), none, .mv (.t 5)⟩,
          ⟨(some 4), none, .mv (.t 17)⟩] false)
        (.ret))
       (.skip)))))
     (.ops [
      ⟨(some 18), none, .bin .add (.t 8) (.c (.int .i64 1))⟩,
      ⟨(some 8), none, .mv (.t 18)⟩] false)))))))
  (.seq (.ops [
    ⟨(some 4), none, .mv (.c (.int .i64 (-1)))⟩] false)
  (.ret)))) }
theorem cf40 : compF Tryd.prog [] Tryd.f40 = some ir40 := by kernel_rfl
/- slices.Equal[[]string,string] -/
def ir41 : IFn :=
 { nt := 26, res := [.t 4], body := (
  .seq (.ops [
    ⟨(some 4), none, .mv (.c (.bool false))⟩] false)
  (.seq (.seq (.ops [
     ⟨(some 6), none, .mv (.t 0)⟩,
     ⟨(some 7), none, .lenL (.t 6)⟩,
     ⟨(some 8), none, .mv (.t 1)⟩,
     ⟨(some 9), none, .lenL (.t 8)⟩,
     ⟨(some 10), none, .bin .neq (.t 7) (.t 9)⟩] false)
   (.cond (.t 10) (.seq (.ops [
      ⟨(some 4), none, .mv (.c (.bool false))⟩] false)
    (.ret))
   (.skip)))
  (.seq (.seq (.ops [
     ⟨(some 11), none, .mv (.t 0)⟩,
     ⟨(some 12), none, .lenL (.t 11)⟩,
     ⟨(some 13), none, .mv (.c (.int .i64 0))⟩] false)
   (.blk 0 (.loop (.seq (.ops [
       ⟨(some 14), none, .bin .lss (.t 13) (.t 12)⟩] false)
     (.seq (.cond (.t 14) (.skip)
      (.exit 0))
     (.seq (.blk 1 (.seq (.ops [
         ⟨(some 15), none, .mv (.t 13)⟩,
         ⟨(some 5), none, .mv (.t 15)⟩] false)
       (.seq (.ops [
         ⟨(some 16), none, .mv (.t 0)⟩,
         ⟨(some 17), none, .mv (.t 5)⟩,
         ⟨(some 18), none, .iaddr 1 (.t 16) (.t 17)⟩,
         ⟨(some 19), none, .load 1 false (.t 18)⟩,
         ⟨(some 20), none, .mv (.t 1)⟩,
         ⟨(some 21), none, .mv (.t 5)⟩,
         ⟨(some 22), none, .iaddr 1 (.t 20) (.t 21)⟩,
         ⟨(some 23), none, .load 1 false (.t 22)⟩,
         ⟨(some 24), none, .bin .neq (.t 19) (.t 23)⟩] true)
       (.cond (.t 24) (.seq (.ops [
          ⟨(some 4), none, .mv (.c (.bool false))⟩] false)
        (.ret))
       (.skip)))))
     (.ops [
      ⟨(some 25), none, .bin .add (.t 13) (.c (.int .i64 1))⟩,
      ⟨(some 13), none, .mv (.t 25)⟩] false)))))))
  (.seq (.ops [
    ⟨(some 4), none, .mv (.c (.bool true))⟩] false)
  (.ret))))) }
theorem cf41 : compF Tryd.prog [] Tryd.f41 = some ir41 := by kernel_rfl
/- slices.EqualFunc[[]whetstone/value.Value,[]whetstone/value.Value,whetstone/value.Value,whetstone/value.Value] -/
def ir42 : IFn :=
 { nt := 32, res := [.t 6], body := (
  .seq (.ops [
    ⟨(some 6), none, .mv (.c (.bool false))⟩] false)
  (.seq (.seq (.ops [
     ⟨(some 10), none, .mv (.t 0)⟩,
     ⟨(some 11), none, .lenL (.t 10)⟩,
     ⟨(some 12), none, .mv (.t 1)⟩,
     ⟨(some 13), none, .lenL (.t 12)⟩,
     ⟨(some 14), none, .bin .neq (.t 11) (.t 13)⟩] false)
   (.cond (.t 14) (.seq (.ops [
      ⟨(some 6), none, .mv (.c (.bool false))⟩] false)
    (.ret))
   (.skip)))
  (.seq (.seq (.ops [
     ⟨(some 15), none, .mv (.t 0)⟩,
     ⟨(some 16), none, .lenL (.t 15)⟩,
     ⟨(some 17), none, .mv (.c (.int .i64 0))⟩] false)
   (.blk 0 (.loop (.seq (.ops [
       ⟨(some 18), none, .bin .lss (.t 17) (.t 16)⟩] false)
     (.seq (.cond (.t 18) (.skip)
      (.exit 0))
     (.seq (.blk 1 (.seq (.ops [
         ⟨(some 19), none, .mv (.t 17)⟩,
         ⟨(some 20), none, .iaddr 5 (.t 15) (.t 17)⟩,
         ⟨(some 21), none, .load 5 true (.t 20)⟩,
         ⟨(some 8), none, .alloc 30 [(.int .i64 0), (.int .i64 0), (.str []), (.sl true 1 []), (.sl true 5 [])]⟩,
         ⟨(some 7), none, .mv (.t 19)⟩,
         ⟨none, none, .store 5 (.t 8) (.t 21)⟩] false)
       (.seq (.ops [
         ⟨(some 22), none, .mv (.t 1)⟩,
         ⟨(some 23), none, .mv (.t 7)⟩,
         ⟨(some 24), none, .iaddr 5 (.t 22) (.t 23)⟩,
         ⟨(some 25), none, .load 5 true (.t 24)⟩,
         ⟨(some 9), none, .alloc 30 [(.int .i64 0), (.int .i64 0), (.str []), (.sl true 1 []), (.sl true 5 [])]⟩,
         ⟨none, none, .store 5 (.t 9) (.t 25)⟩] false)
       (.seq (.ops [
         ⟨(some 26), none, .mv (.t 2)⟩,
         ⟨(some 27), none, .load 5 true (.t 8)⟩,
         ⟨(some 28), none, .load 5 true (.t 9)⟩,
         ⟨(some 29), none, .callv (.t 26) [(.t 27), (.t 28)]⟩,
         ⟨(some 30), none, .un .not (.t 29)⟩] false)
       (.cond (.t 30) (.seq (.ops [
          ⟨(some 6), none, .mv (.c (.bool false))⟩] false)
        (.ret))
       (.skip))))))
     (.ops [
      ⟨(some 31), none, .bin .add (.t 17) (.c (.int .i64 1))⟩,
      ⟨(some 17), none, .mv (.t 31)⟩] false)))))))
  (.seq (.ops [
    ⟨(some 6), none, .mv (.c (.bool true))⟩] false)
  (.ret))))) }
theorem cf42 : compF Tryd.prog [] Tryd.f42 = some ir42 := by kernel_rfl
/- slices.Contains[[]string,string] -/
def ir43 : IFn :=
 { nt := 9, res := [.t 4], body := (
  .seq (.ops [
    ⟨(some 4), none, .mv (.c (.bool false))⟩] false)
  (.seq (.ops [
    ⟨(some 5), none, .mv (.t 0)⟩,
    ⟨(some 6), none, .mv (.t 1)⟩,
    ⟨(some 7), none, .call 40 [(.t 5), (.t 6)]⟩,
    ⟨(some 8), none, .bin .geq (.t 7) (.c (.int .i64 0))⟩,
    ⟨(some 4), none, .mv (.t 8)⟩] false)
  (.ret))) }
theorem cf43 : compF Tryd.prog [] Tryd.f43 = some ir43 := by kernel_rfl
/- whetstone/whetstoneref09.Small -/
def ir44 : IFn :=
 { nt := 13, res := [.t 6], body := (
  .seq (.ops [
    ⟨(some 3), none, .box 55 3 (.t 0)⟩,
    ⟨(some 6), none, .mv (.c (.bool false))⟩] false)
  (.seq (.ops [
    ⟨(some 7), none, .load 3 true (.t 3)⟩,
    ⟨(some 8), none, .mv (.t 1)⟩,
    ⟨(some 9), none, .mv (.t 2)⟩,
    ⟨(some 10), none, .call 59 [(.t 7), (.t 8), (.t 9)]⟩,
    ⟨(some 11), none, .mv (.t 1)⟩,
    ⟨(some 12), none, .bin .leq (.t 10) (.t 11)⟩,
    ⟨(some 6), none, .mv (.t 12)⟩] false)
  (.ret))) }
theorem cf44 : compF Tryd.prog [] Tryd.f44 = some ir44 := by kernel_rfl
/- whetstone/whetstoneref11.Decimal -/
def ir45 : IFn :=
 { nt := 31, res := [.t 2], body := (
  .seq (.ops [
    ⟨(some 2), none, .mv (.c (.str []))⟩] false)
  (.seq (.seq (.ops [
     ⟨(some 3), none, .mv (.t 0)⟩,
     ⟨(some 4), none, .bin .lss (.t 3) (.c (.int .i64 0))⟩] false)
   (.cond (.t 4) (.seq (.seq (.ops [
       ⟨(some 5), none, .mv (.t 0)⟩,
       ⟨(some 6), none, .bin .quo (.t 5) (.c (.int .i64 10))⟩,
       ⟨(some 7), none, .bin .eql (.t 6) (.c (.int .i64 0))⟩] false)
     (.cond (.t 7) (.seq (.ops [
        ⟨(some 8), none, .mv (.t 0)⟩,
        ⟨(some 9), none, .un .neg (.t 8)⟩,
        ⟨(some 10), none, .call 60 [(.t 9)]⟩,
        ⟨(some 11), none, .bin .add (.c (.str [45])) (.t 10)⟩,
        ⟨(some 2), none, .mv (.t 11)⟩] false)
      (.ret))
     (.skip)))
    (.seq (.ops [
      ⟨(some 12), none, .mv (.t 0)⟩,
      ⟨(some 13), none, .bin .quo (.t 12) (.c (.int .i64 10))⟩,
      ⟨(some 14), none, .call 45 [(.t 13)]⟩,
      ⟨(some 15), none, .mv (.t 0)⟩,
      ⟨(some 16), none, .bin .rem (.t 15) (.c (.int .i64 10))⟩,
      ⟨(some 17), none, .un .neg (.t 16)⟩,
      ⟨(some 18), none, .call 60 [(.t 17)]⟩,
      ⟨(some 19), none, .bin .add (.t 14) (.t 18)⟩,
      ⟨(some 2), none, .mv (.t 19)⟩] false)
    (.ret)))
   (.skip)))
  (.seq (.seq (.ops [
     ⟨(some 20), none, .mv (.t 0)⟩,
     ⟨(some 21), none, .bin .lss (.t 20) (.c (.int .i64 10))⟩] false)
   (.cond (.t 21) (.seq (.ops [
      ⟨(some 22), none, .mv (.t 0)⟩,
      ⟨(some 23), none, .call 60 [(.t 22)]⟩,
      ⟨(some 2), none, .mv (.t 23)⟩] false)
    (.ret))
   (.skip)))
  (.seq (.ops [
    ⟨(some 24), none, .mv (.t 0)⟩,
    ⟨(some 25), none, .bin .quo (.t 24) (.c (.int .i64 10))⟩,
    ⟨(some 26), none, .call 45 [(.t 25)]⟩,
    ⟨(some 27), none, .mv (.t 0)⟩,
    ⟨(some 28), none, .bin .rem (.t 27) (.c (.int .i64 10))⟩,
    ⟨(some 29), none, .call 60 [(.t 28)]⟩,
    ⟨(some 30), none, .bin .add (.t 26) (.t 29)⟩,
    ⟨(some 2), none, .mv (.t 30)⟩] false)
  (.ret))))) }
theorem cf45 : compF Tryd.prog [] Tryd.f45 = some ir45 := by kernel_rfl
/- whetstone/whetstoneref03.Quote -/
def ir46 : IFn :=
 { nt := 39, res := [.t 2], body := (
  .seq (.ops [
    ⟨(some 2), none, .mv (.c (.str []))⟩] false)
  (.seq (.ops [
    ⟨(some 3), none, .mv (.c (.str [34]))⟩] false)
  (.seq (.seq (.ops [
     ⟨(some 4), none, .mv (.c (.int .i64 0))⟩] false)
   (.blk 0 (.loop (.seq (.seq (.ops [
        ⟨(some 5), none, .mv (.t 4)⟩,
        ⟨(some 6), none, .mv (.t 0)⟩,
        ⟨(some 7), none, .lenS (.t 6)⟩,
        ⟨(some 8), none, .bin .lss (.t 5) (.t 7)⟩] false)
      (.cond (.t 8) (.skip)
      (.exit 0)))
     (.seq (.blk 1 (.seq (.ops [
         ⟨(some 11), none, .mv (.t 0)⟩,
         ⟨(some 12), none, .mv (.t 4)⟩,
         ⟨(some 13), none, .sidx (.t 11) (.t 12)⟩] false)
       (.blk 2 (.seq (.ops [
          ⟨(some 22), none, .bin .eql (.t 13) (.c (.int .u8 10))⟩,
          ⟨(some 21), none, .mv (.t 22)⟩] false)
        (.cond (.t 21) (.ops [
          ⟨(some 23), none, .mv (.t 3)⟩,
          ⟨(some 24), none, .bin .add (.t 23) (.c (.str [92, 110]))⟩,
          ⟨(some 3), none, .mv (.t 24)⟩] false)
        (.seq (.ops [
           ⟨(some 26), none, .bin .eql (.t 13) (.c (.int .u8 9))⟩,
           ⟨(some 25), none, .mv (.t 26)⟩] false)
         (.cond (.t 25) (.ops [
           ⟨(some 27), none, .mv (.t 3)⟩,
           ⟨(some 28), none, .bin .add (.t 27) (.c (.str [92, 116]))⟩,
           ⟨(some 3), none, .mv (.t 28)⟩] false)
         (.seq (.ops [
            ⟨(some 30), none, .bin .eql (.t 13) (.c (.int .u8 34))⟩,
            ⟨(some 29), none, .mv (.t 30)⟩] false)
          (.cond (.t 29) (.ops [
            ⟨(some 31), none, .mv (.t 3)⟩,
            ⟨(some 32), none, .bin .add (.t 31) (.c (.str [92, 34]))⟩,
            ⟨(some 3), none, .mv (.t 32)⟩] false)
          (.seq (.ops [
             ⟨(some 34), none, .bin .eql (.t 13) (.c (.int .u8 92))⟩,
             ⟨(some 33), none, .mv (.t 34)⟩] false)
           (.cond (.t 33) (.ops [
             ⟨(some 35), none, .mv (.t 3)⟩,
             ⟨(some 36), none, .bin .add (.t 35) (.c (.str [92, 92]))⟩,
             ⟨(some 3), none, .mv (.t 36)⟩] false)
           (.ops [
             ⟨(some 14), none, .mv (.t 3)⟩,
             ⟨(some 15), none, .mv (.t 0)⟩,
             ⟨(some 16), none, .mv (.t 4)⟩,
             ⟨(some 17), none, .mv (.t 4)⟩,
             ⟨(some 18), none, .bin .add (.t 17) (.c (.int .i64 1))⟩,
             ⟨(some 19), none, .sslice (.t 15) (some (.t 16)) (some (.t 18))⟩,
             ⟨(some 20), none, .bin .add (.t 14) (.t 19)⟩,
             ⟨(some 3), none, .mv (.t 20)⟩] false))))))))))))
     (.ops [
      ⟨(some 9), none, .mv (.t 4)⟩,
      ⟨(some 10), none, .bin .add (.t 9) (.c (.int .i64 1))⟩,
      ⟨(some 4), none, .mv (.t 10)⟩] false))))))
  (.seq (.ops [
    ⟨(some 37), none, .mv (.t 3)⟩,
    ⟨(some 38), none, .bin .add (.t 37) (.c (.str [34]))⟩,
    ⟨(some 2), none, .mv (.t 38)⟩] false)
  (.ret))))) }
theorem cf46 : compF Tryd.prog [] Tryd.f46 = some ir46 := by kernel_rfl
/- whetstone/whetstoneref11.size -/
def ir47 : IFn :=
 { nt := 78, res := [.t 6], body := (
  .seq (.ops [
    ⟨(some 3), none, .box 25 5 (.t 0)⟩,
    ⟨(some 6), none, .mv (.c (.int .i64 0))⟩] false)
  (.seq (.seq (.ops [
     ⟨(some 10), none, .mv (.t 2)⟩,
     ⟨(some 11), none, .bin .eql (.t 10) (.c (.int .i64 0))⟩,
     ⟨(some 12), none, .mv (.t 11)⟩,
     ⟨(some 13), (some (12, false)), .faddr 3 (.t 3)⟩,
     ⟨(some 14), (some (12, false)), .load 1 false (.t 13)⟩,
     ⟨(some 15), (some (12, false)), .lenL (.t 14)⟩,
     ⟨(some 16), (some (12, false)), .mv (.t 1)⟩,
     ⟨(some 17), (some (12, false)), .bin .gtr (.t 15) (.t 16)⟩,
     ⟨(some 18), none, .pick (.t 12) (.c (.bool true)) (.t 17)⟩,
     ⟨(some 19), none, .mv (.t 18)⟩,
     ⟨(some 20), (some (19, false)), .faddr 2 (.t 3)⟩,
     ⟨(some 21), (some (19, false)), .load 1 false (.t 20)⟩,
     ⟨(some 22), (some (19, false)), .lenS (.t 21)⟩,
     ⟨(some 23), (some (19, false)), .mv (.t 1)⟩,
     ⟨(some 24), (some (19, false)), .bin .gtr (.t 22) (.t 23)⟩,
     ⟨(some 25), none, .pick (.t 19) (.c (.bool true)) (.t 24)⟩] false)
   (.cond (.t 25) (.seq (.ops [
      ⟨(some 26), none, .mv (.t 1)⟩,
      ⟨(some 27), none, .bin .add (.t 26) (.c (.int .i64 1))⟩,
      ⟨(some 6), none, .mv (.t 27)⟩] false)
    (.ret))
   (.skip)))
  (.seq (.ops [
    ⟨(some 28), none, .faddr 2 (.t 3)⟩,
    ⟨(some 29), none, .load 1 false (.t 28)⟩,
    ⟨(some 30), none, .lenS (.t 29)⟩,
    ⟨(some 31), none, .bin .add (.c (.int .i64 1)) (.t 30)⟩,
    ⟨(some 7), none, .mv (.t 31)⟩] false)
  (.seq (.seq (.ops [
     ⟨(some 8), none, .mv (.c (.int .i64 0))⟩] false)
   (.blk 0 (.loop (.seq (.seq (.ops [
        ⟨(some 32), none, .mv (.t 8)⟩,
        ⟨(some 33), none, .faddr 4 (.t 3)⟩,
        ⟨(some 34), none, .load 1 false (.t 33)⟩,
        ⟨(some 35), none, .lenL (.t 34)⟩,
        ⟨(some 36), none, .bin .lss (.t 32) (.t 35)⟩,
        ⟨(some 37), none, .mv (.t 36)⟩,
        ⟨(some 38), (some (37, true)), .mv (.t 7)⟩,
        ⟨(some 39), (some (37, true)), .mv (.t 1)⟩,
        ⟨(some 40), (some (37, true)), .bin .leq (.t 38) (.t 39)⟩,
        ⟨(some 41), none, .pick (.t 37) (.t 40) (.c (.bool false))⟩] false)
      (.cond (.t 41) (.skip)
      (.exit 0)))
     (.seq (.blk 1 (.ops [
        ⟨(some 44), none, .mv (.t 7)⟩,
        ⟨(some 45), none, .faddr 4 (.t 3)⟩,
        ⟨(some 46), none, .load 1 false (.t 45)⟩,
        ⟨(some 47), none, .mv (.t 8)⟩,
        ⟨(some 48), none, .iaddr 5 (.t 46) (.t 47)⟩,
        ⟨(some 49), none, .load 5 true (.t 48)⟩,
        ⟨(some 50), none, .mv (.t 1)⟩,
        ⟨(some 51), none, .mv (.t 7)⟩,
        ⟨(some 52), none, .bin .sub (.t 50) (.t 51)⟩,
        ⟨(some 53), none, .mv (.t 2)⟩,
        ⟨(some 54), none, .bin .sub (.t 53) (.c (.int .i64 1))⟩,
        ⟨(some 55), none, .call 47 [(.t 49), (.t 52), (.t 54)]⟩,
        ⟨(some 56), none, .bin .add (.t 44) (.t 55)⟩,
        ⟨(some 7), none, .mv (.t 56)⟩] false))
     (.ops [
      ⟨(some 42), none, .mv (.t 8)⟩,
      ⟨(some 43), none, .bin .add (.t 42) (.c (.int .i64 1))⟩,
      ⟨(some 8), none, .mv (.t 43)⟩] false))))))
  (.seq (.seq (.ops [
     ⟨(some 9), none, .mv (.c (.int .i64 0))⟩] false)
   (.blk 2 (.loop (.seq (.seq (.ops [
        ⟨(some 57), none, .mv (.t 9)⟩,
        ⟨(some 58), none, .faddr 3 (.t 3)⟩,
        ⟨(some 59), none, .load 1 false (.t 58)⟩,
        ⟨(some 60), none, .lenL (.t 59)⟩,
        ⟨(some 61), none, .bin .lss (.t 57) (.t 60)⟩,
        ⟨(some 62), none, .mv (.t 61)⟩,
        ⟨(some 63), (some (62, true)), .mv (.t 7)⟩,
        ⟨(some 64), (some (62, true)), .mv (.t 1)⟩,
        ⟨(some 65), (some (62, true)), .bin .leq (.t 63) (.t 64)⟩,
        ⟨(some 66), none, .pick (.t 62) (.t 65) (.c (.bool false))⟩] false)
      (.cond (.t 66) (.skip)
      (.exit 2)))
     (.seq (.blk 3 (.ops [
        ⟨(some 69), none, .mv (.t 7)⟩,
        ⟨(some 70), none, .faddr 3 (.t 3)⟩,
        ⟨(some 71), none, .load 1 false (.t 70)⟩,
        ⟨(some 72), none, .mv (.t 9)⟩,
        ⟨(some 73), none, .iaddr 1 (.t 71) (.t 72)⟩,
        ⟨(some 74), none, .load 1 false (.t 73)⟩,
        ⟨(some 75), none, .lenS (.t 74)⟩,
        ⟨(some 76), none, .bin .add (.t 69) (.t 75)⟩,
        ⟨(some 7), none, .mv (.t 76)⟩] false))
     (.ops [
      ⟨(some 67), none, .mv (.t 9)⟩,
      ⟨(some 68), none, .bin .add (.t 67) (.c (.int .i64 1))⟩,
      ⟨(some 9), none, .mv (.t 68)⟩] false))))))
  (.seq (.ops [
    ⟨(some 77), none, .mv (.t 7)⟩,
    ⟨(some 6), none, .mv (.t 77)⟩] false)
  (.ret))))))) }
theorem cf47 : compF Tryd.prog [] Tryd.f47 = some ir47 := by kernel_rfl
/- whetstone/whetstoneref04.IsKey -/
def ir48 : IFn :=
 { nt := 18, res := [.t 2], body := (
  .seq (.ops [
    ⟨(some 2), none, .mv (.c (.bool false))⟩] false)
  (.seq (.ops [
    ⟨(some 5), none, .bslice 1 [(.c (.str [117, 115, 101])), (.c (.str [100, 101, 102])), (.c (.str [108, 101, 116])), (.c (.str [105, 102])), (.c (.str [101, 108, 115, 101])), (.c (.str [119, 104, 105, 108, 101])), (.c (.str [112, 114, 105, 110, 116])), (.c (.str [114, 101, 116, 117, 114, 110])), (.c (.str [102, 110])), (.c (.str [105, 110, 112, 117, 116])), (.c (.str [105, 110, 116])), (.c (.str [115, 116, 114])), (.c (.str [100, 121, 110]))]⟩,
    ⟨(some 3), none, .mv (.t 5)⟩] false)
  (.seq (.seq (.ops [
     ⟨(some 4), none, .mv (.c (.int .i64 0))⟩] false)
   (.blk 0 (.loop (.seq (.seq (.ops [
        ⟨(some 6), none, .mv (.t 4)⟩,
        ⟨(some 7), none, .mv (.t 3)⟩,
        ⟨(some 8), none, .lenL (.t 7)⟩,
        ⟨(some 9), none, .bin .lss (.t 6) (.t 8)⟩] false)
      (.cond (.t 9) (.skip)
      (.exit 0)))
     (.seq (.blk 1 (.seq (.ops [
         ⟨(some 12), none, .mv (.t 3)⟩,
         ⟨(some 13), none, .mv (.t 4)⟩,
         ⟨(some 14), none, .iaddr 1 (.t 12) (.t 13)⟩,
         ⟨(some 15), none, .load 1 false (.t 14)⟩,
         ⟨(some 16), none, .mv (.t 0)⟩,
         ⟨(some 17), none, .bin .eql (.t 15) (.t 16)⟩] false)
       (.cond (.t 17) (.seq (.ops [
          ⟨(some 2), none, .mv (.c (.bool true))⟩] false)
        (.ret))
       (.skip))))
     (.ops [
      ⟨(some 10), none, .mv (.t 4)⟩,
      ⟨(some 11), none, .bin .add (.t 10) (.c (.int .i64 1))⟩,
      ⟨(some 4), none, .mv (.t 11)⟩] false))))))
  (.seq (.ops [
    ⟨(some 2), none, .mv (.c (.bool false))⟩] false)
  (.ret))))) }
theorem cf48 : compF Tryd.prog [] Tryd.f48 = some ir48 := by kernel_rfl
/- whetstone/whetstoneref04.digit -/
def ir49 : IFn :=
 { nt := 9, res := [.t 2], body := (
  .seq (.ops [
    ⟨(some 2), none, .mv (.c (.bool false))⟩] false)
  (.seq (.ops [
    ⟨(some 3), none, .mv (.t 0)⟩,
    ⟨(some 4), none, .bin .geq (.t 3) (.c (.int .u8 48))⟩,
    ⟨(some 5), none, .mv (.t 4)⟩,
    ⟨(some 6), (some (5, true)), .mv (.t 0)⟩,
    ⟨(some 7), (some (5, true)), .bin .leq (.t 6) (.c (.int .u8 57))⟩,
    ⟨(some 8), none, .pick (.t 5) (.t 7) (.c (.bool false))⟩,
    ⟨(some 2), none, .mv (.t 8)⟩] false)
  (.ret))) }
theorem cf49 : compF Tryd.prog [] Tryd.f49 = some ir49 := by kernel_rfl
/- whetstone/whetstoneref04.Letter -/
def ir50 : IFn :=
 { nt := 21, res := [.t 2], body := (
  .seq (.ops [
    ⟨(some 2), none, .mv (.c (.bool false))⟩] false)
  (.seq (.ops [
    ⟨(some 3), none, .mv (.t 0)⟩,
    ⟨(some 4), none, .bin .geq (.t 3) (.c (.int .u8 97))⟩,
    ⟨(some 5), none, .mv (.t 4)⟩,
    ⟨(some 6), (some (5, true)), .mv (.t 0)⟩,
    ⟨(some 7), (some (5, true)), .bin .leq (.t 6) (.c (.int .u8 122))⟩,
    ⟨(some 8), none, .pick (.t 5) (.t 7) (.c (.bool false))⟩,
    ⟨(some 9), none, .mv (.t 8)⟩,
    ⟨(some 10), (some (9, false)), .mv (.t 0)⟩,
    ⟨(some 11), (some (9, false)), .bin .geq (.t 10) (.c (.int .u8 65))⟩,
    ⟨(some 12), (some (9, false)), .mv (.t 11)⟩,
    ⟨(some 13), (some (12, true)), .mv (.t 0)⟩,
    ⟨(some 14), (some (12, true)), .bin .leq (.t 13) (.c (.int .u8 90))⟩,
    ⟨(some 15), (some (9, false)), .pick (.t 12) (.t 14) (.c (.bool false))⟩,
    ⟨(some 16), none, .pick (.t 9) (.c (.bool true)) (.t 15)⟩,
    ⟨(some 17), none, .mv (.t 16)⟩,
    ⟨(some 18), (some (17, false)), .mv (.t 0)⟩,
    ⟨(some 19), (some (17, false)), .bin .eql (.t 18) (.c (.int .u8 95))⟩,
    ⟨(some 20), none, .pick (.t 17) (.c (.bool true)) (.t 19)⟩,
    ⟨(some 2), none, .mv (.t 20)⟩] false)
  (.ret))) }
theorem cf50 : compF Tryd.prog [] Tryd.f50 = some ir50 := by kernel_rfl
/- (*strings.Builder).WriteByte -/
def ir52 : IFn :=
 { nt := 17, res := [.t 4], body := (
  .seq (.ops [
    ⟨(some 4), none, .mv (.c .nili)⟩] false)
  (.seq (.ops [
    ⟨(some 5), none, .mv (.t 0)⟩,
    ⟨(some 6), none, .call 65 [(.t 5)]⟩] false)
  (.seq (.ops [
    ⟨(some 7), none, .mv (.t 0)⟩,
    ⟨(some 8), none, .mv (.t 0)⟩,
    ⟨(some 9), none, .nilCheck (.t 8)⟩,
    ⟨(some 10), none, .faddr 1 (.t 9)⟩,
    ⟨(some 11), none, .load 1 false (.t 10)⟩,
    ⟨(some 12), none, .mv (.t 1)⟩,
    ⟨(some 13), none, .bslice 1 [(.t 12)]⟩,
    ⟨(some 14), none, .app 1 1 5 (.t 11) (.t 13)⟩,
    ⟨(some 15), none, .nilCheck (.t 7)⟩,
    ⟨(some 16), none, .faddr 1 (.t 15)⟩,
    ⟨none, none, .store 1 (.t 16) (.t 14)⟩] false)
  (.seq (.ops [
    ⟨(some 4), none, .mv (.c .nili)⟩] false)
  (.ret))))) }
theorem cf52 : compF Tryd.prog [] Tryd.f52 = some ir52 := by kernel_rfl
/- strings.IndexByte -/
def ir53 : IFn :=
 { nt := 8, res := [.t 4], body := (
  .seq (.ops [
    ⟨(some 4), none, .mv (.c (.int .i64 0))⟩] false)
  (.seq (.ops [
    ⟨(some 5), none, .mv (.t 0)⟩,
    ⟨(some 6), none, .mv (.t 1)⟩,
    ⟨(some 7), none, .call 66 [(.t 5), (.t 6)]⟩,
    ⟨(some 4), none, .mv (.t 7)⟩] false)
  (.ret))) }
theorem cf53 : compF Tryd.prog [] Tryd.f53 = some ir53 := by kernel_rfl
/- (*strings.Builder).WriteString -/
def ir56 : IFn :=
 { nt := 19, res := [.t 4, .t 5], body := (
  .seq (.ops [
    ⟨(some 4), none, .mv (.c (.int .i64 0))⟩,
    ⟨(some 5), none, .mv (.c .nili)⟩] false)
  (.seq (.ops [
    ⟨(some 6), none, .mv (.t 0)⟩,
    ⟨(some 7), none, .call 65 [(.t 6)]⟩] false)
  (.seq (.ops [
    ⟨(some 8), none, .mv (.t 0)⟩,
    ⟨(some 9), none, .mv (.t 0)⟩,
    ⟨(some 10), none, .nilCheck (.t 9)⟩,
    ⟨(some 11), none, .faddr 1 (.t 10)⟩,
    ⟨(some 12), none, .load 1 false (.t 11)⟩,
    ⟨(some 13), none, .mv (.t 1)⟩,
    ⟨(some 14), none, .appS 5 (.t 12) (.t 13)⟩,
    ⟨(some 15), none, .nilCheck (.t 8)⟩,
    ⟨(some 16), none, .faddr 1 (.t 15)⟩,
    ⟨none, none, .store 1 (.t 16) (.t 14)⟩] false)
  (.seq (.ops [
    ⟨(some 17), none, .mv (.t 1)⟩,
    ⟨(some 18), none, .lenS (.t 17)⟩,
    ⟨(some 4), none, .mv (.t 18)⟩,
    ⟨(some 5), none, .mv (.c .nili)⟩] false)
  (.ret))))) }
theorem cf56 : compF Tryd.prog [] Tryd.f56 = some ir56 := by kernel_rfl
/- slices.stableCmpFunc[whetstone/value.pair] -/
def ir57 : IFn :=
 { nt := 63, res := [], body := (
  .seq (.ops [
    ⟨(some 6), none, .mv (.c (.int .i64 20))⟩] false)
  (.seq (.ops [
    ⟨(some 10), none, .mv (.t 6)⟩,
    ⟨(some 7), none, .mv (.c (.int .i64 0))⟩,
    ⟨(some 8), none, .mv (.t 10)⟩] false)
  (.seq (.blk 0 (.loop (.seq (.seq (.ops [
        ⟨(some 11), none, .mv (.t 8)⟩,
        ⟨(some 12), none, .mv (.t 1)⟩,
        ⟨(some 13), none, .bin .leq (.t 11) (.t 12)⟩] false)
      (.cond (.t 13) (.skip)
      (.exit 0)))
     (.blk 1 (.seq (.ops [
        ⟨(some 14), none, .mv (.t 0)⟩,
        ⟨(some 15), none, .mv (.t 7)⟩,
        ⟨(some 16), none, .mv (.t 8)⟩,
        ⟨(some 17), none, .mv (.t 2)⟩,
        ⟨(some 18), none, .call 68 [(.t 14), (.t 15), (.t 16), (.t 17)]⟩] false)
      (.seq (.ops [
        ⟨(some 19), none, .mv (.t 8)⟩,
        ⟨(some 7), none, .mv (.t 19)⟩] false)
      (.ops [
       ⟨(some 20), none, .mv (.t 8)⟩,
       ⟨(some 21), none, .mv (.t 6)⟩,
       ⟨(some 22), none, .bin .add (.t 20) (.t 21)⟩,
       ⟨(some 8), none, .mv (.t 22)⟩] false)))))))
  (.seq (.ops [
    ⟨(some 23), none, .mv (.t 0)⟩,
    ⟨(some 24), none, .mv (.t 7)⟩,
    ⟨(some 25), none, .mv (.t 1)⟩,
    ⟨(some 26), none, .mv (.t 2)⟩,
    ⟨(some 27), none, .call 68 [(.t 23), (.t 24), (.t 25), (.t 26)]⟩] false)
  (.blk 2 (.loop (.seq (.seq (.ops [
       ⟨(some 28), none, .mv (.t 6)⟩,
       ⟨(some 29), none, .mv (.t 1)⟩,
       ⟨(some 30), none, .bin .lss (.t 28) (.t 29)⟩] false)
     (.cond (.t 30) (.skip)
     (.exit 2)))
    (.blk 3 (.seq (.ops [
       ⟨(some 31), none, .mv (.t 6)⟩,
       ⟨(some 32), none, .bin .mul (.c (.int .i64 2)) (.t 31)⟩,
       ⟨(some 7), none, .mv (.c (.int .i64 0))⟩,
       ⟨(some 8), none, .mv (.t 32)⟩] false)
     (.seq (.blk 4 (.loop (.seq (.seq (.ops [
           ⟨(some 33), none, .mv (.t 8)⟩,
           ⟨(some 34), none, .mv (.t 1)⟩,
           ⟨(some 35), none, .bin .leq (.t 33) (.t 34)⟩] false)
         (.cond (.t 35) (.skip)
         (.exit 4)))
        (.blk 5 (.seq (.ops [
           ⟨(some 36), none, .mv (.t 0)⟩,
           ⟨(some 37), none, .mv (.t 7)⟩,
           ⟨(some 38), none, .mv (.t 7)⟩,
           ⟨(some 39), none, .mv (.t 6)⟩,
           ⟨(some 40), none, .bin .add (.t 38) (.t 39)⟩,
           ⟨(some 41), none, .mv (.t 8)⟩,
           ⟨(some 42), none, .mv (.t 2)⟩,
           ⟨(some 43), none, .call 69 [(.t 36), (.t 37), (.t 40), (.t 41), (.t 42)]⟩] false)
         (.seq (.ops [
           ⟨(some 44), none, .mv (.t 8)⟩,
           ⟨(some 7), none, .mv (.t 44)⟩] false)
         (.ops [
          ⟨(some 45), none, .mv (.t 8)⟩,
          ⟨(some 46), none, .mv (.t 6)⟩,
          ⟨(some 47), none, .bin .mul (.c (.int .i64 2)) (.t 46)⟩,
          ⟨(some 48), none, .bin .add (.t 45) (.t 47)⟩,
          ⟨(some 8), none, .mv (.t 48)⟩] false)))))))
     (.seq (.seq (.ops [
        ⟨(some 49), none, .mv (.t 7)⟩,
        ⟨(some 50), none, .mv (.t 6)⟩,
        ⟨(some 51), none, .bin .add (.t 49) (.t 50)⟩,
        ⟨(some 9), none, .mv (.t 51)⟩] false)
      (.seq (.ops [
        ⟨(some 52), none, .mv (.t 9)⟩,
        ⟨(some 53), none, .mv (.t 1)⟩,
        ⟨(some 54), none, .bin .lss (.t 52) (.t 53)⟩] false)
      (.cond (.t 54) (.ops [
        ⟨(some 55), none, .mv (.t 0)⟩,
        ⟨(some 56), none, .mv (.t 7)⟩,
        ⟨(some 57), none, .mv (.t 9)⟩,
        ⟨(some 58), none, .mv (.t 1)⟩,
        ⟨(some 59), none, .mv (.t 2)⟩,
        ⟨(some 60), none, .call 69 [(.t 55), (.t 56), (.t 57), (.t 58), (.t 59)]⟩] false)
      (.skip))))
     (.ops [
      ⟨(some 61), none, .mv (.t 6)⟩,
      ⟨(some 62), none, .bin .mul (.t 61) (.c (.int .i64 2))⟩,
      ⟨(some 6), none, .mv (.t 62)⟩] false)))))))))))) }
theorem cf57 : compF Tryd.prog [] Tryd.f57 = some ir57 := by kernel_rfl
/- cmp.isNaN[string] -/
def ir58 : IFn :=
 { nt := 6, res := [.t 2], body := (
  .seq (.ops [
    ⟨(some 2), none, .mv (.c (.bool false))⟩] false)
  (.seq (.ops [
    ⟨(some 3), none, .mv (.t 0)⟩,
    ⟨(some 4), none, .mv (.t 0)⟩,
    ⟨(some 5), none, .bin .neq (.t 3) (.t 4)⟩,
    ⟨(some 2), none, .mv (.t 5)⟩] false)
  (.ret))) }
theorem cf58 : compF Tryd.prog [] Tryd.f58 = some ir58 := by kernel_rfl
/- whetstone/whetstoneref09.size -/
def ir59 : IFn :=
 { nt := 46, res := [.t 6], body := (
  .seq (.ops [
    ⟨(some 3), none, .box 55 3 (.t 0)⟩,
    ⟨(some 6), none, .mv (.c (.int .i64 0))⟩] false)
  (.seq (.seq (.ops [
     ⟨(some 9), none, .mv (.t 2)⟩,
     ⟨(some 10), none, .bin .eql (.t 9) (.c (.int .i64 0))⟩,
     ⟨(some 11), none, .mv (.t 10)⟩,
     ⟨(some 12), (some (11, false)), .faddr 1 (.t 3)⟩,
     ⟨(some 13), (some (11, false)), .load 1 false (.t 12)⟩,
     ⟨(some 14), (some (11, false)), .lenL (.t 13)⟩,
     ⟨(some 15), (some (11, false)), .mv (.t 1)⟩,
     ⟨(some 16), (some (11, false)), .bin .gtr (.t 14) (.t 15)⟩,
     ⟨(some 17), none, .pick (.t 11) (.c (.bool true)) (.t 16)⟩] false)
   (.cond (.t 17) (.seq (.ops [
      ⟨(some 18), none, .mv (.t 1)⟩,
      ⟨(some 19), none, .bin .add (.t 18) (.c (.int .i64 1))⟩,
      ⟨(some 6), none, .mv (.t 19)⟩] false)
    (.ret))
   (.skip)))
  (.seq (.ops [
    ⟨(some 7), none, .mv (.c (.int .i64 1))⟩] false)
  (.seq (.seq (.ops [
     ⟨(some 8), none, .mv (.c (.int .i64 0))⟩] false)
   (.blk 0 (.loop (.seq (.seq (.ops [
        ⟨(some 20), none, .mv (.t 8)⟩,
        ⟨(some 21), none, .faddr 2 (.t 3)⟩,
        ⟨(some 22), none, .load 1 false (.t 21)⟩,
        ⟨(some 23), none, .lenL (.t 22)⟩,
        ⟨(some 24), none, .bin .lss (.t 20) (.t 23)⟩,
        ⟨(some 25), none, .mv (.t 24)⟩,
        ⟨(some 26), (some (25, true)), .mv (.t 7)⟩,
        ⟨(some 27), (some (25, true)), .mv (.t 1)⟩,
        ⟨(some 28), (some (25, true)), .bin .leq (.t 26) (.t 27)⟩,
        ⟨(some 29), none, .pick (.t 25) (.t 28) (.c (.bool false))⟩] false)
      (.cond (.t 29) (.skip)
      (.exit 0)))
     (.seq (.blk 1 (.ops [
        ⟨(some 32), none, .mv (.t 7)⟩,
        ⟨(some 33), none, .faddr 2 (.t 3)⟩,
        ⟨(some 34), none, .load 1 false (.t 33)⟩,
        ⟨(some 35), none, .mv (.t 8)⟩,
        ⟨(some 36), none, .iaddr 3 (.t 34) (.t 35)⟩,
        ⟨(some 37), none, .load 3 true (.t 36)⟩,
        ⟨(some 38), none, .mv (.t 1)⟩,
        ⟨(some 39), none, .mv (.t 7)⟩,
        ⟨(some 40), none, .bin .sub (.t 38) (.t 39)⟩,
        ⟨(some 41), none, .mv (.t 2)⟩,
        ⟨(some 42), none, .bin .sub (.t 41) (.c (.int .i64 1))⟩,
        ⟨(some 43), none, .call 59 [(.t 37), (.t 40), (.t 42)]⟩,
        ⟨(some 44), none, .bin .add (.t 32) (.t 43)⟩,
        ⟨(some 7), none, .mv (.t 44)⟩] false))
     (.ops [
      ⟨(some 30), none, .mv (.t 8)⟩,
      ⟨(some 31), none, .bin .add (.t 30) (.c (.int .i64 1))⟩,
      ⟨(some 8), none, .mv (.t 31)⟩] false))))))
  (.seq (.ops [
    ⟨(some 45), none, .mv (.t 7)⟩,
    ⟨(some 6), none, .mv (.t 45)⟩] false)
  (.ret)))))) }
theorem cf59 : compF Tryd.prog [] Tryd.f59 = some ir59 := by kernel_rfl
/- whetstone/whetstoneref11.digit -/
def ir60 : IFn :=
 { nt := 8, res := [.t 2], body := (
  .seq (.ops [
    ⟨(some 2), none, .mv (.c (.str []))⟩] false)
  (.seq (.ops [
    ⟨(some 3), none, .mv (.t 0)⟩,
    ⟨(some 4), none, .bin .add (.c (.int .i64 48)) (.t 3)⟩,
    ⟨(some 5), none, .cvt .u8 (.t 4)⟩,
    ⟨(some 6), none, .bslice 1 [(.t 5)]⟩,
    ⟨(some 7), none, .cvtBS (.t 6)⟩,
    ⟨(some 2), none, .mv (.t 7)⟩] false)
  (.ret))) }
theorem cf60 : compF Tryd.prog [] Tryd.f60 = some ir60 := by kernel_rfl
/- slices.insertionSortCmpFunc[whetstone/value.pair] -/
def ir68 : IFn :=
 { nt := 53, res := [], body := (
  .seq (.ops [
    ⟨(some 10), none, .mv (.t 1)⟩,
    ⟨(some 11), none, .bin .add (.t 10) (.c (.int .i64 1))⟩,
    ⟨(some 8), none, .mv (.t 11)⟩] false)
  (.blk 0 (.loop (.seq (.seq (.ops [
       ⟨(some 12), none, .mv (.t 8)⟩,
       ⟨(some 13), none, .mv (.t 2)⟩,
       ⟨(some 14), none, .bin .lss (.t 12) (.t 13)⟩] false)
     (.cond (.t 14) (.skip)
     (.exit 0)))
    (.seq (.blk 1 (.seq (.ops [
        ⟨(some 17), none, .mv (.t 8)⟩,
        ⟨(some 9), none, .mv (.t 17)⟩] false)
      (.blk 2 (.loop (.seq (.seq (.ops [
           ⟨(some 18), none, .mv (.t 9)⟩,
           ⟨(some 19), none, .mv (.t 1)⟩,
           ⟨(some 20), none, .bin .gtr (.t 18) (.t 19)⟩,
           ⟨(some 21), none, .mv (.t 20)⟩,
           ⟨(some 22), (some (21, true)), .mv (.t 3)⟩,
           ⟨(some 23), (some (21, true)), .mv (.t 0)⟩,
           ⟨(some 24), (some (21, true)), .mv (.t 9)⟩,
           ⟨(some 25), (some (21, true)), .iaddr 6 (.t 23) (.t 24)⟩,
           ⟨(some 26), (some (21, true)), .load 6 true (.t 25)⟩,
           ⟨(some 27), (some (21, true)), .mv (.t 0)⟩,
           ⟨(some 28), (some (21, true)), .mv (.t 9)⟩,
           ⟨(some 29), (some (21, true)), .bin .sub (.t 28) (.c (.int .i64 1))⟩,
           ⟨(some 30), (some (21, true)), .iaddr 6 (.t 27) (.t 29)⟩,
           ⟨(some 31), (some (21, true)), .load 6 true (.t 30)⟩,
           ⟨(some 32), (some (21, true)), .callv (.t 22) [(.t 26), (.t 31)]⟩,
           ⟨(some 33), (some (21, true)), .bin .lss (.t 32) (.c (.int .i64 0))⟩,
           ⟨(some 34), none, .pick (.t 21) (.t 33) (.c (.bool false))⟩] true)
         (.cond (.t 34) (.skip)
         (.exit 2)))
        (.seq (.blk 3 (.ops [
           ⟨(some 37), none, .mv (.t 0)⟩,
           ⟨(some 38), none, .mv (.t 9)⟩,
           ⟨(some 39), none, .mv (.t 0)⟩,
           ⟨(some 40), none, .mv (.t 9)⟩,
           ⟨(some 41), none, .bin .sub (.t 40) (.c (.int .i64 1))⟩,
           ⟨(some 42), none, .mv (.t 0)⟩,
           ⟨(some 43), none, .mv (.t 9)⟩,
           ⟨(some 44), none, .bin .sub (.t 43) (.c (.int .i64 1))⟩,
           ⟨(some 45), none, .iaddr 6 (.t 42) (.t 44)⟩,
           ⟨(some 46), none, .load 6 true (.t 45)⟩,
           ⟨(some 47), none, .mv (.t 0)⟩,
           ⟨(some 48), none, .mv (.t 9)⟩,
           ⟨(some 49), none, .iaddr 6 (.t 47) (.t 48)⟩,
           ⟨(some 50), none, .load 6 true (.t 49)⟩,
           ⟨(some 51), none, .iaddr 6 (.t 37) (.t 38)⟩,
           ⟨none, none, .store 6 (.t 51) (.t 46)⟩,
           ⟨(some 52), none, .iaddr 6 (.t 39) (.t 41)⟩,
           ⟨none, none, .store 6 (.t 52) (.t 50)⟩] true))
        (.ops [
         ⟨(some 35), none, .mv (.t 9)⟩,
         ⟨(some 36), none, .bin .sub (.t 35) (.c (.int .i64 1))⟩,
         ⟨(some 9), none, .mv (.t 36)⟩] false)))))))
    (.ops [
     ⟨(some 15), none, .mv (.t 8)⟩,
     ⟨(some 16), none, .bin .add (.t 15) (.c (.int .i64 1))⟩,
     ⟨(some 8), none, .mv (.t 16)⟩] false)))))) }
theorem cf68 : compF Tryd.prog [] Tryd.f68 = some ir68 := by kernel_rfl
/- slices.symMergeCmpFunc[whetstone/value.pair] -/
def ir69 : IFn :=
 { nt := 220, res := [], body := (
  .seq (.seq (.ops [
     ⟨(some 25), none, .mv (.t 2)⟩,
     ⟨(some 26), none, .mv (.t 1)⟩,
     ⟨(some 27), none, .bin .sub (.t 25) (.t 26)⟩,
     ⟨(some 28), none, .bin .eql (.t 27) (.c (.int .i64 1))⟩] false)
   (.cond (.t 28) (.seq (.ops [
      ⟨(some 29), none, .mv (.t 2)⟩,
      ⟨(some 10), none, .mv (.t 29)⟩] false)
    (.seq (.ops [
      ⟨(some 30), none, .mv (.t 3)⟩,
      ⟨(some 11), none, .mv (.t 30)⟩] false)
    (.seq (.blk 0 (.loop (.seq (.seq (.ops [
          ⟨(some 31), none, .mv (.t 10)⟩,
          ⟨(some 32), none, .mv (.t 11)⟩,
          ⟨(some 33), none, .bin .lss (.t 31) (.t 32)⟩] false)
        (.cond (.t 33) (.skip)
        (.exit 0)))
       (.blk 1 (.seq (.ops [
          ⟨(some 34), none, .mv (.t 10)⟩,
          ⟨(some 35), none, .mv (.t 11)⟩,
          ⟨(some 36), none, .bin .add (.t 34) (.t 35)⟩,
          ⟨(some 37), none, .cvt .u64 (.t 36)⟩,
          ⟨(some 38), none, .bin .shr (.t 37) (.c (.int .u64 1))⟩,
          ⟨(some 39), none, .cvt .i64 (.t 38)⟩,
          ⟨(some 12), none, .mv (.t 39)⟩] false)
        (.seq (.ops [
          ⟨(some 40), none, .mv (.t 4)⟩,
          ⟨(some 41), none, .mv (.t 0)⟩,
          ⟨(some 42), none, .mv (.t 12)⟩,
          ⟨(some 43), none, .iaddr 6 (.t 41) (.t 42)⟩,
          ⟨(some 44), none, .load 6 true (.t 43)⟩,
          ⟨(some 45), none, .mv (.t 0)⟩,
          ⟨(some 46), none, .mv (.t 1)⟩,
          ⟨(some 47), none, .iaddr 6 (.t 45) (.t 46)⟩,
          ⟨(some 48), none, .load 6 true (.t 47)⟩,
          ⟨(some 49), none, .callv (.t 40) [(.t 44), (.t 48)]⟩,
          ⟨(some 50), none, .bin .lss (.t 49) (.c (.int .i64 0))⟩] true)
        (.cond (.t 50) (.ops [
          ⟨(some 51), none, .mv (.t 12)⟩,
          ⟨(some 52), none, .bin .add (.t 51) (.c (.int .i64 1))⟩,
          ⟨(some 10), none, .mv (.t 52)⟩] false)
        (.ops [
          ⟨(some 53), none, .mv (.t 12)⟩,
          ⟨(some 11), none, .mv (.t 53)⟩] false))))))))
    (.seq (.seq (.ops [
       ⟨(some 54), none, .mv (.t 1)⟩,
       ⟨(some 13), none, .mv (.t 54)⟩] false)
     (.blk 2 (.loop (.seq (.seq (.ops [
          ⟨(some 55), none, .mv (.t 13)⟩,
          ⟨(some 56), none, .mv (.t 10)⟩,
          ⟨(some 57), none, .bin .sub (.t 56) (.c (.int .i64 1))⟩,
          ⟨(some 58), none, .bin .lss (.t 55) (.t 57)⟩] false)
        (.cond (.t 58) (.skip)
        (.exit 2)))
       (.seq (.blk 3 (.ops [
          ⟨(some 61), none, .mv (.t 0)⟩,
          ⟨(some 62), none, .mv (.t 13)⟩,
          ⟨(some 63), none, .mv (.t 0)⟩,
          ⟨(some 64), none, .mv (.t 13)⟩,
          ⟨(some 65), none, .bin .add (.t 64) (.c (.int .i64 1))⟩,
          ⟨(some 66), none, .mv (.t 0)⟩,
          ⟨(some 67), none, .mv (.t 13)⟩,
          ⟨(some 68), none, .bin .add (.t 67) (.c (.int .i64 1))⟩,
          ⟨(some 69), none, .iaddr 6 (.t 66) (.t 68)⟩,
          ⟨(some 70), none, .load 6 true (.t 69)⟩,
          ⟨(some 71), none, .mv (.t 0)⟩,
          ⟨(some 72), none, .mv (.t 13)⟩,
          ⟨(some 73), none, .iaddr 6 (.t 71) (.t 72)⟩,
          ⟨(some 74), none, .load 6 true (.t 73)⟩,
          ⟨(some 75), none, .iaddr 6 (.t 61) (.t 62)⟩,
          ⟨none, none, .store 6 (.t 75) (.t 70)⟩,
          ⟨(some 76), none, .iaddr 6 (.t 63) (.t 65)⟩,
          ⟨none, none, .store 6 (.t 76) (.t 74)⟩] true))
       (.ops [
        ⟨(some 59), none, .mv (.t 13)⟩,
        ⟨(some 60), none, .bin .add (.t 59) (.c (.int .i64 1))⟩,
        ⟨(some 13), none, .mv (.t 60)⟩] false))))))
    (.ret)))))
   (.skip)))
  (.seq (.seq (.ops [
     ⟨(some 77), none, .mv (.t 3)⟩,
     ⟨(some 78), none, .mv (.t 2)⟩,
     ⟨(some 79), none, .bin .sub (.t 77) (.t 78)⟩,
     ⟨(some 80), none, .bin .eql (.t 79) (.c (.int .i64 1))⟩] false)
   (.cond (.t 80) (.seq (.ops [
      ⟨(some 81), none, .mv (.t 1)⟩,
      ⟨(some 14), none, .mv (.t 81)⟩] false)
    (.seq (.ops [
      ⟨(some 82), none, .mv (.t 2)⟩,
      ⟨(some 15), none, .mv (.t 82)⟩] false)
    (.seq (.blk 4 (.loop (.seq (.seq (.ops [
          ⟨(some 83), none, .mv (.t 14)⟩,
          ⟨(some 84), none, .mv (.t 15)⟩,
          ⟨(some 85), none, .bin .lss (.t 83) (.t 84)⟩] false)
        (.cond (.t 85) (.skip)
        (.exit 4)))
       (.blk 5 (.seq (.ops [
          ⟨(some 86), none, .mv (.t 14)⟩,
          ⟨(some 87), none, .mv (.t 15)⟩,
          ⟨(some 88), none, .bin .add (.t 86) (.t 87)⟩,
          ⟨(some 89), none, .cvt .u64 (.t 88)⟩,
          ⟨(some 90), none, .bin .shr (.t 89) (.c (.int .u64 1))⟩,
          ⟨(some 91), none, .cvt .i64 (.t 90)⟩,
          ⟨(some 16), none, .mv (.t 91)⟩] false)
        (.seq (.ops [
          ⟨(some 92), none, .mv (.t 4)⟩,
          ⟨(some 93), none, .mv (.t 0)⟩,
          ⟨(some 94), none, .mv (.t 2)⟩,
          ⟨(some 95), none, .iaddr 6 (.t 93) (.t 94)⟩,
          ⟨(some 96), none, .load 6 true (.t 95)⟩,
          ⟨(some 97), none, .mv (.t 0)⟩,
          ⟨(some 98), none, .mv (.t 16)⟩,
          ⟨(some 99), none, .iaddr 6 (.t 97) (.t 98)⟩,
          ⟨(some 100), none, .load 6 true (.t 99)⟩,
          ⟨(some 101), none, .callv (.t 92) [(.t 96), (.t 100)]⟩,
          ⟨(some 102), none, .bin .lss (.t 101) (.c (.int .i64 0))⟩,
          ⟨(some 103), none, .un .not (.t 102)⟩] true)
        (.cond (.t 103) (.ops [
          ⟨(some 104), none, .mv (.t 16)⟩,
          ⟨(some 105), none, .bin .add (.t 104) (.c (.int .i64 1))⟩,
          ⟨(some 14), none, .mv (.t 105)⟩] false)
        (.ops [
          ⟨(some 106), none, .mv (.t 16)⟩,
          ⟨(some 15), none, .mv (.t 106)⟩] false))))))))
    (.seq (.seq (.ops [
       ⟨(some 107), none, .mv (.t 2)⟩,
       ⟨(some 17), none, .mv (.t 107)⟩] false)
     (.blk 6 (.loop (.seq (.seq (.ops [
          ⟨(some 108), none, .mv (.t 17)⟩,
          ⟨(some 109), none, .mv (.t 14)⟩,
          ⟨(some 110), none, .bin .gtr (.t 108) (.t 109)⟩] false)
        (.cond (.t 110) (.skip)
        (.exit 6)))
       (.seq (.blk 7 (.ops [
          ⟨(some 113), none, .mv (.t 0)⟩,
          ⟨(some 114), none, .mv (.t 17)⟩,
          ⟨(some 115), none, .mv (.t 0)⟩,
          ⟨(some 116), none, .mv (.t 17)⟩,
          ⟨(some 117), none, .bin .sub (.t 116) (.c (.int .i64 1))⟩,
          ⟨(some 118), none, .mv (.t 0)⟩,
          ⟨(some 119), none, .mv (.t 17)⟩,
          ⟨(some 120), none, .bin .sub (.t 119) (.c (.int .i64 1))⟩,
          ⟨(some 121), none, .iaddr 6 (.t 118) (.t 120)⟩,
          ⟨(some 122), none, .load 6 true (.t 121)⟩,
          ⟨(some 123), none, .mv (.t 0)⟩,
          ⟨(some 124), none, .mv (.t 17)⟩,
          ⟨(some 125), none, .iaddr 6 (.t 123) (.t 124)⟩,
          ⟨(some 126), none, .load 6 true (.t 125)⟩,
          ⟨(some 127), none, .iaddr 6 (.t 113) (.t 114)⟩,
          ⟨none, none, .store 6 (.t 127) (.t 122)⟩,
          ⟨(some 128), none, .iaddr 6 (.t 115) (.t 117)⟩,
          ⟨none, none, .store 6 (.t 128) (.t 126)⟩] true))
       (.ops [
        ⟨(some 111), none, .mv (.t 17)⟩,
        ⟨(some 112), none, .bin .sub (.t 111) (.c (.int .i64 1))⟩,
        ⟨(some 17), none, .mv (.t 112)⟩] false))))))
    (.ret)))))
   (.skip)))
  (.seq (.ops [
    ⟨(some 129), none, .mv (.t 1)⟩,
    ⟨(some 130), none, .mv (.t 3)⟩,
    ⟨(some 131), none, .bin .add (.t 129) (.t 130)⟩,
    ⟨(some 132), none, .cvt .u64 (.t 131)⟩,
    ⟨(some 133), none, .bin .shr (.t 132) (.c (.int .u64 1))⟩,
    ⟨(some 134), none, .cvt .i64 (.t 133)⟩,
    ⟨(some 18), none, .mv (.t 134)⟩] false)
  (.seq (.ops [
    ⟨(some 135), none, .mv (.t 18)⟩,
    ⟨(some 136), none, .mv (.t 2)⟩,
    ⟨(some 137), none, .bin .add (.t 135) (.t 136)⟩,
    ⟨(some 19), none, .mv (.t 137)⟩] false)
  (.seq (.ops [
    ⟨(some 20), none, .mv (.c (.int .i64 0))⟩,
    ⟨(some 21), none, .mv (.c (.int .i64 0))⟩] false)
  (.seq (.seq (.ops [
     ⟨(some 138), none, .mv (.t 2)⟩,
     ⟨(some 139), none, .mv (.t 18)⟩,
     ⟨(some 140), none, .bin .gtr (.t 138) (.t 139)⟩] false)
   (.cond (.t 140) (.seq (.ops [
      ⟨(some 141), none, .mv (.t 19)⟩,
      ⟨(some 142), none, .mv (.t 3)⟩,
      ⟨(some 143), none, .bin .sub (.t 141) (.t 142)⟩,
      ⟨(some 20), none, .mv (.t 143)⟩] false)
    (.ops [
     ⟨(some 144), none, .mv (.t 18)⟩,
     ⟨(some 21), none, .mv (.t 144)⟩] false))
   (.seq (.ops [
      ⟨(some 145), none, .mv (.t 1)⟩,
      ⟨(some 20), none, .mv (.t 145)⟩] false)
    (.ops [
     ⟨(some 146), none, .mv (.t 2)⟩,
     ⟨(some 21), none, .mv (.t 146)⟩] false))))
  (.seq (.ops [
    ⟨(some 147), none, .mv (.t 19)⟩,
    ⟨(some 148), none, .bin .sub (.t 147) (.c (.int .i64 1))⟩,
    ⟨(some 22), none, .mv (.t 148)⟩] false)
  (.seq (.blk 8 (.loop (.seq (.seq (.ops [
        ⟨(some 149), none, .mv (.t 20)⟩,
        ⟨(some 150), none, .mv (.t 21)⟩,
        ⟨(some 151), none, .bin .lss (.t 149) (.t 150)⟩] false)
      (.cond (.t 151) (.skip)
      (.exit 8)))
     (.blk 9 (.seq (.ops [
        ⟨(some 152), none, .mv (.t 20)⟩,
        ⟨(some 153), none, .mv (.t 21)⟩,
        ⟨(some 154), none, .bin .add (.t 152) (.t 153)⟩,
        ⟨(some 155), none, .cvt .u64 (.t 154)⟩,
        ⟨(some 156), none, .bin .shr (.t 155) (.c (.int .u64 1))⟩,
        ⟨(some 157), none, .cvt .i64 (.t 156)⟩,
        ⟨(some 23), none, .mv (.t 157)⟩] false)
      (.seq (.ops [
        ⟨(some 158), none, .mv (.t 4)⟩,
        ⟨(some 159), none, .mv (.t 0)⟩,
        ⟨(some 160), none, .mv (.t 22)⟩,
        ⟨(some 161), none, .mv (.t 23)⟩,
        ⟨(some 162), none, .bin .sub (.t 160) (.t 161)⟩,
        ⟨(some 163), none, .iaddr 6 (.t 159) (.t 162)⟩,
        ⟨(some 164), none, .load 6 true (.t 163)⟩,
        ⟨(some 165), none, .mv (.t 0)⟩,
        ⟨(some 166), none, .mv (.t 23)⟩,
        ⟨(some 167), none, .iaddr 6 (.t 165) (.t 166)⟩,
        ⟨(some 168), none, .load 6 true (.t 167)⟩,
        ⟨(some 169), none, .callv (.t 158) [(.t 164), (.t 168)]⟩,
        ⟨(some 170), none, .bin .lss (.t 169) (.c (.int .i64 0))⟩,
        ⟨(some 171), none, .un .not (.t 170)⟩] true)
      (.cond (.t 171) (.ops [
        ⟨(some 172), none, .mv (.t 23)⟩,
        ⟨(some 173), none, .bin .add (.t 172) (.c (.int .i64 1))⟩,
        ⟨(some 20), none, .mv (.t 173)⟩] false)
      (.ops [
        ⟨(some 174), none, .mv (.t 23)⟩,
        ⟨(some 21), none, .mv (.t 174)⟩] false))))))))
  (.seq (.ops [
    ⟨(some 175), none, .mv (.t 19)⟩,
    ⟨(some 176), none, .mv (.t 20)⟩,
    ⟨(some 177), none, .bin .sub (.t 175) (.t 176)⟩,
    ⟨(some 24), none, .mv (.t 177)⟩] false)
  (.seq (.seq (.ops [
     ⟨(some 178), none, .mv (.t 20)⟩,
     ⟨(some 179), none, .mv (.t 2)⟩,
     ⟨(some 180), none, .bin .lss (.t 178) (.t 179)⟩,
     ⟨(some 181), none, .mv (.t 180)⟩,
     ⟨(some 182), (some (181, true)), .mv (.t 2)⟩,
     ⟨(some 183), (some (181, true)), .mv (.t 24)⟩,
     ⟨(some 184), (some (181, true)), .bin .lss (.t 182) (.t 183)⟩,
     ⟨(some 185), none, .pick (.t 181) (.t 184) (.c (.bool false))⟩] false)
   (.cond (.t 185) (.ops [
     ⟨(some 186), none, .mv (.t 0)⟩,
     ⟨(some 187), none, .mv (.t 20)⟩,
     ⟨(some 188), none, .mv (.t 2)⟩,
     ⟨(some 189), none, .mv (.t 24)⟩,
     ⟨(some 190), none, .mv (.t 4)⟩,
     ⟨(some 191), none, .call 78 [(.t 186), (.t 187), (.t 188), (.t 189), (.t 190)]⟩] false)
   (.skip)))
  (.seq (.seq (.ops [
     ⟨(some 192), none, .mv (.t 1)⟩,
     ⟨(some 193), none, .mv (.t 20)⟩,
     ⟨(some 194), none, .bin .lss (.t 192) (.t 193)⟩,
     ⟨(some 195), none, .mv (.t 194)⟩,
     ⟨(some 196), (some (195, true)), .mv (.t 20)⟩,
     ⟨(some 197), (some (195, true)), .mv (.t 18)⟩,
     ⟨(some 198), (some (195, true)), .bin .lss (.t 196) (.t 197)⟩,
     ⟨(some 199), none, .pick (.t 195) (.t 198) (.c (.bool false))⟩] false)
   (.cond (.t 199) (.ops [
     ⟨(some 200), none, .mv (.t 0)⟩,
     ⟨(some 201), none, .mv (.t 1)⟩,
     ⟨(some 202), none, .mv (.t 20)⟩,
     ⟨(some 203), none, .mv (.t 18)⟩,
     ⟨(some 204), none, .mv (.t 4)⟩,
     ⟨(some 205), none, .call 69 [(.t 200), (.t 201), (.t 202), (.t 203), (.t 204)]⟩] false)
   (.skip)))
  (.seq (.ops [
    ⟨(some 206), none, .mv (.t 18)⟩,
    ⟨(some 207), none, .mv (.t 24)⟩,
    ⟨(some 208), none, .bin .lss (.t 206) (.t 207)⟩,
    ⟨(some 209), none, .mv (.t 208)⟩,
    ⟨(some 210), (some (209, true)), .mv (.t 24)⟩,
    ⟨(some 211), (some (209, true)), .mv (.t 3)⟩,
    ⟨(some 212), (some (209, true)), .bin .lss (.t 210) (.t 211)⟩,
    ⟨(some 213), none, .pick (.t 209) (.t 212) (.c (.bool false))⟩] false)
  (.cond (.t 213) (.ops [
    ⟨(some 214), none, .mv (.t 0)⟩,
    ⟨(some 215), none, .mv (.t 18)⟩,
    ⟨(some 216), none, .mv (.t 24)⟩,
    ⟨(some 217), none, .mv (.t 3)⟩,
    ⟨(some 218), none, .mv (.t 4)⟩,
    ⟨(some 219), none, .call 69 [(.t 214), (.t 215), (.t 216), (.t 217), (.t 218)]⟩] false)
  (.skip)))))))))))))) }
theorem cf69 : compF Tryd.prog [] Tryd.f69 = some ir69 := by kernel_rfl
/- slices.rotateCmpFunc[whetstone/value.pair] -/
def ir78 : IFn :=
 { nt := 58, res := [], body := (
  .seq (.ops [
    ⟨(some 12), none, .mv (.t 2)⟩,
    ⟨(some 13), none, .mv (.t 1)⟩,
    ⟨(some 14), none, .bin .sub (.t 12) (.t 13)⟩,
    ⟨(some 10), none, .mv (.t 14)⟩] false)
  (.seq (.ops [
    ⟨(some 15), none, .mv (.t 3)⟩,
    ⟨(some 16), none, .mv (.t 2)⟩,
    ⟨(some 17), none, .bin .sub (.t 15) (.t 16)⟩,
    ⟨(some 11), none, .mv (.t 17)⟩] false)
  (.seq (.blk 0 (.loop (.seq (.seq (.ops [
        ⟨(some 18), none, .mv (.t 10)⟩,
        ⟨(some 19), none, .mv (.t 11)⟩,
        ⟨(some 20), none, .bin .neq (.t 18) (.t 19)⟩] false)
      (.cond (.t 20) (.skip)
      (.exit 0)))
     (.blk 1 (.seq (.ops [
        ⟨(some 21), none, .mv (.t 10)⟩,
        ⟨(some 22), none, .mv (.t 11)⟩,
        ⟨(some 23), none, .bin .gtr (.t 21) (.t 22)⟩] false)
      (.cond (.t 23) (.seq (.ops [
         ⟨(some 24), none, .mv (.t 0)⟩,
         ⟨(some 25), none, .mv (.t 2)⟩,
         ⟨(some 26), none, .mv (.t 10)⟩,
         ⟨(some 27), none, .bin .sub (.t 25) (.t 26)⟩,
         ⟨(some 28), none, .mv (.t 2)⟩,
         ⟨(some 29), none, .mv (.t 11)⟩,
         ⟨(some 30), none, .mv (.t 4)⟩,
         ⟨(some 31), none, .call 81 [(.t 24), (.t 27), (.t 28), (.t 29), (.t 30)]⟩] false)
       (.ops [
        ⟨(some 32), none, .mv (.t 10)⟩,
        ⟨(some 33), none, .mv (.t 11)⟩,
        ⟨(some 34), none, .bin .sub (.t 32) (.t 33)⟩,
        ⟨(some 10), none, .mv (.t 34)⟩] false))
      (.seq (.ops [
         ⟨(some 35), none, .mv (.t 0)⟩,
         ⟨(some 36), none, .mv (.t 2)⟩,
         ⟨(some 37), none, .mv (.t 10)⟩,
         ⟨(some 38), none, .bin .sub (.t 36) (.t 37)⟩,
         ⟨(some 39), none, .mv (.t 2)⟩,
         ⟨(some 40), none, .mv (.t 11)⟩,
         ⟨(some 41), none, .bin .add (.t 39) (.t 40)⟩,
         ⟨(some 42), none, .mv (.t 10)⟩,
         ⟨(some 43), none, .bin .sub (.t 41) (.t 42)⟩,
         ⟨(some 44), none, .mv (.t 10)⟩,
         ⟨(some 45), none, .mv (.t 4)⟩,
         ⟨(some 46), none, .call 81 [(.t 35), (.t 38), (.t 43), (.t 44), (.t 45)]⟩] false)
       (.ops [
        ⟨(some 47), none, .mv (.t 11)⟩,
        ⟨(some 48), none, .mv (.t 10)⟩,
        ⟨(some 49), none, .bin .sub (.t 47) (.t 48)⟩,
        ⟨(some 11), none, .mv (.t 49)⟩] false))))))))
  (.ops [
   ⟨(some 50), none, .mv (.t 0)⟩,
   ⟨(some 51), none, .mv (.t 2)⟩,
   ⟨(some 52), none, .mv (.t 10)⟩,
   ⟨(some 53), none, .bin .sub (.t 51) (.t 52)⟩,
   ⟨(some 54), none, .mv (.t 2)⟩,
   ⟨(some 55), none, .mv (.t 10)⟩,
   ⟨(some 56), none, .mv (.t 4)⟩,
   ⟨(some 57), none, .call 81 [(.t 50), (.t 53), (.t 54), (.t 55), (.t 56)]⟩] false)))) }
theorem cf78 : compF Tryd.prog [] Tryd.f78 = some ir78 := by kernel_rfl
/- slices.swapRangeCmpFunc[whetstone/value.pair] -/
def ir81 : IFn :=
 { nt := 38, res := [], body := (
  .seq (.ops [
    ⟨(some 10), none, .mv (.c (.int .i64 0))⟩] false)
  (.blk 0 (.loop (.seq (.seq (.ops [
       ⟨(some 11), none, .mv (.t 10)⟩,
       ⟨(some 12), none, .mv (.t 3)⟩,
       ⟨(some 13), none, .bin .lss (.t 11) (.t 12)⟩] false)
     (.cond (.t 13) (.skip)
     (.exit 0)))
    (.seq (.blk 1 (.ops [
       ⟨(some 16), none, .mv (.t 0)⟩,
       ⟨(some 17), none, .mv (.t 1)⟩,
       ⟨(some 18), none, .mv (.t 10)⟩,
       ⟨(some 19), none, .bin .add (.t 17) (.t 18)⟩,
       ⟨(some 20), none, .mv (.t 0)⟩,
       ⟨(some 21), none, .mv (.t 2)⟩,
       ⟨(some 22), none, .mv (.t 10)⟩,
       ⟨(some 23), none, .bin .add (.t 21) (.t 22)⟩,
       ⟨(some 24), none, .mv (.t 0)⟩,
       ⟨(some 25), none, .mv (.t 2)⟩,
       ⟨(some 26), none, .mv (.t 10)⟩,
       ⟨(some 27), none, .bin .add (.t 25) (.t 26)⟩,
       ⟨(some 28), none, .iaddr 6 (.t 24) (.t 27)⟩,
       ⟨(some 29), none, .load 6 true (.t 28)⟩,
       ⟨(some 30), none, .mv (.t 0)⟩,
       ⟨(some 31), none, .mv (.t 1)⟩,
       ⟨(some 32), none, .mv (.t 10)⟩,
       ⟨(some 33), none, .bin .add (.t 31) (.t 32)⟩,
       ⟨(some 34), none, .iaddr 6 (.t 30) (.t 33)⟩,
       ⟨(some 35), none, .load 6 true (.t 34)⟩,
       ⟨(some 36), none, .iaddr 6 (.t 16) (.t 19)⟩,
       ⟨none, none, .store 6 (.t 36) (.t 29)⟩,
       ⟨(some 37), none, .iaddr 6 (.t 20) (.t 23)⟩,
       ⟨none, none, .store 6 (.t 37) (.t 35)⟩] true))
    (.ops [
     ⟨(some 14), none, .mv (.t 10)⟩,
     ⟨(some 15), none, .bin .add (.t 14) (.c (.int .i64 1))⟩,
     ⟨(some 10), none, .mv (.t 15)⟩] false)))))) }
theorem cf81 : compF Tryd.prog [] Tryd.f81 = some ir81 := by kernel_rfl
end Go.Proofs.Zv

namespace Go.Proofs.Zv
open Go Go.Zam Go.Proofs
set_option maxRecDepth 100000
set_option linter.all false
set_option maxHeartbeats 1000000

/-- a value as the machine has it -/
def V.a (v : V) : A := .agg (v.enc.map .d)
theorem V.a_mk (k n : Int) (s : Str) (z : Bool) (ns : List Str) (y : Bool) (ps : List V) : V.a (.mk k n s z ns y ps) = .agg [.d (.int .i64 k), .d (.int .i64 n), .d (.str s), .d (.sl z 1 (ns.map encS)), .d (.sl y 5 (ps.map V.enc))] := by
  rw [V.a, V.enc_mk]; rfl

theorem numOk (n : Int) (H : Hp) : ACall Tryd.prog 18 [.d (.int .i64 n)] H (fun r H' => r = V.a (.mk 1 n [] true [] true []) ∧ H' = H) := by
  refine acall_fin Tryd.func18 cf18 (by simp [ir18]) fun hcl _ => ?_
  simp [ir18, V.a_mk]
  simp [RetK, cut_app hcl]

theorem strOk (s : Str) (H : Hp) : ACall Tryd.prog 19 [.d (.str s)] H (fun r H' => r = V.a (.mk 2 0 s true [] true []) ∧ H' = H) := by
  refine acall_fin Tryd.func19 cf19 (by simp [ir19]) fun hcl _ => ?_
  simp [ir19, V.a_mk]
  simp [RetK, cut_app hcl]

theorem funOk (n : Int) (H : Hp) : ACall Tryd.prog 20 [.d (.int .i64 n)] H (fun r H' => r = V.a (.mk 4 n [] true [] true []) ∧ H' = H) := by
  refine acall_fin Tryd.func20 cf20 (by simp [ir20]) fun hcl _ => ?_
  simp [ir20, V.a_mk]
  simp [RetK, cut_app hcl]

/-! a value copied: its parts begin as nil -/
mutual
def V.to : V → V
  | .mk k n s z ns y ps => .mk k n s z ns true (V.tos ps)
def V.tos : List V → List V
  | [] => []
  | p :: r => V.to p :: V.tos r
end
theorem V.tos_map : ∀ l : List V, V.tos l = l.map V.to
  | [] => rfl
  | p :: r => by rw [V.tos, V.tos_map r]; rfl
theorem V.to_mk (k n : Int) (s : Str) (z : Bool) (ns : List Str) (y : Bool) (ps : List V) : V.to (.mk k n s z ns y ps) = .mk k n s z ns true (ps.map V.to) := by rw [V.to, V.tos_map]
theorem V.to_strip (v : V) : v.to.strip = v.strip := by
  induction v using V.ind with
  | h k n s z ns y ps ih =>
    rw [V.to_mk, V.strip_mk, V.strip_mk, List.map_map]
    congr 1
    exact List.map_congr_left fun p hp => ih p hp

theorem toOk (v : V) : v.Fit 1048576 → ∀ H, ACall Tryd.prog 12 [v.a] H (fun r H' => r = v.to.a ∧ H' = H) := by
  induction v using V.ind with
  | h k n s z ns y ps ih =>
  rintro (⟨_, _, _, _, _, _, _, b1, b2, b3, bn, b4, b5⟩) H
  refine acall_fin Tryd.func12 cf12 (by simp [ir12]) fun hcl _ => ?_
  rw [V.a_mk]
  simp [ir12]
  refine RangeK_of (H.length + 4) ps.length (fun i fr H' => fr 1 = .ptr H.length 0 ∧ fr 2 = .ptr (H.length + 1) 0 ∧ fr 3 = .ptr (H.length + 3) 0 ∧ fr 16 = .d (.sl y 5 (ps.map V.enc)) ∧
    H' = H ++ [.box 25 [.d (.int .i64 k), .d (.int .i64 n), .d (.str s), .d (.sl z 1 (ns.map encS)), .d (.sl y 5 (ps.map V.enc))], .box 30 (V.nil.enc.map .d), .tok i 5 30,
      .box 30 [.d (.int .i64 k), .d (.int .i64 n), .d (.str s), .d (.sl z 1 (ns.map encS)), .osl true 5 ((ps.map (V.enc ∘ V.to)).take i) (H.length + 2)]]) (by omega) (by decide) (by simp) (by simp) ?_ ?_ ?_
  · simp [cut_appk hcl, V.enc_nil]
  · rintro i fr H' hi f18 f17 ⟨f1, f2, f3, f16, rfl⟩
    have hr := rowAt_map V.enc hi
    have hx := ih ps[i] (List.getElem_mem hi) (b5 _ (List.getElem_mem hi))
    have ht := take_map_succ (V.enc ∘ V.to) hi
    generalize hp : ps[i] = p at hr hx ht
    cases p with | mk k' n' s' z' ns' y' ps' =>
    simp only [V.enc_mk, V.a_mk, V.to_mk, Function.comp_apply] at hr hx ht
    simp [f18, f16, f3, f1, hr]
    refine CallD_of (hx _) ?_
    have hm : min i ps.length = i := by omega
    simp [f3, appA, hm, V.enc_mk, f18, f17]
    rw [if_pos (by omega)]
    simp [f3]
    refine NextK_of (H.length + 4) (Nat.le_refl _) (by simp [f18, f17]) ?_
    simp [f1, f2, f3, f16, cut_appk hcl, ht, V.enc_mk, V.enc_nil]
  · rintro fr H' f18 f17 ⟨f1, f2, f3, f16, rfl⟩
    have hfull : (ps.map (V.enc ∘ V.to)).take ps.length = ps.map (V.enc ∘ V.to) := by rw [List.take_of_length_le (by simp)]
    simp [f3, f2, V.enc_nil]
    simp [RetK, cut_app hcl, V.to_mk, V.a_mk, f2, hfull]

theorem fromOk (v : V) : v.Fit 1048576 → ∀ H, ACall Tryd.prog 17 [v.a] H (fun r H' => r = v.to.a ∧ H' = H) := by
  induction v using V.ind with
  | h k n s z ns y ps ih =>
  rintro (⟨_, _, _, _, _, _, _, b1, b2, b3, bn, b4, b5⟩) H
  refine acall_fin Tryd.func17 cf17 (by simp [ir17]) fun hcl _ => ?_
  rw [V.a_mk]
  simp [ir17]
  refine RangeK_of (H.length + 4) ps.length (fun i fr H' => fr 1 = .ptr H.length 0 ∧ fr 2 = .ptr (H.length + 1) 0 ∧ fr 3 = .ptr (H.length + 3) 0 ∧ fr 16 = .d (.sl y 5 (ps.map V.enc)) ∧
    H' = H ++ [.box 30 [.d (.int .i64 k), .d (.int .i64 n), .d (.str s), .d (.sl z 1 (ns.map encS)), .d (.sl y 5 (ps.map V.enc))], .box 25 (V.nil.enc.map .d), .tok i 5 25,
      .box 25 [.d (.int .i64 k), .d (.int .i64 n), .d (.str s), .d (.sl z 1 (ns.map encS)), .osl true 5 ((ps.map (V.enc ∘ V.to)).take i) (H.length + 2)]]) (by omega) (by decide) (by simp) (by simp) ?_ ?_ ?_
  · simp [cut_appk hcl, V.enc_nil]
  · rintro i fr H' hi f18 f17 ⟨f1, f2, f3, f16, rfl⟩
    have hr := rowAt_map V.enc hi
    have hx := ih ps[i] (List.getElem_mem hi) (b5 _ (List.getElem_mem hi))
    have ht := take_map_succ (V.enc ∘ V.to) hi
    generalize hp : ps[i] = p at hr hx ht
    cases p with | mk k' n' s' z' ns' y' ps' =>
    simp only [V.enc_mk, V.a_mk, V.to_mk, Function.comp_apply] at hr hx ht
    simp [f18, f16, f3, f1, hr]
    refine CallD_of (hx _) ?_
    have hm : min i ps.length = i := by omega
    simp [f3, appA, hm, V.enc_mk, f18, f17]
    rw [if_pos (by omega)]
    simp [f3]
    refine NextK_of (H.length + 4) (Nat.le_refl _) (by simp [f18, f17]) ?_
    simp [f1, f2, f3, f16, cut_appk hcl, ht, V.enc_mk, V.enc_nil]
  · rintro fr H' f18 f17 ⟨f1, f2, f3, f16, rfl⟩
    have hfull : (ps.map (V.enc ∘ V.to)).take ps.length = ps.map (V.enc ∘ V.to) := by rw [List.take_of_length_le (by simp)]
    simp [f3, f2, V.enc_nil]
    simp [RetK, cut_app hcl, V.to_mk, V.a_mk, f2, hfull]

/-- a slice of texts -/
def namesA (z : Bool) (ns : List Str) : A := .d (.sl z 1 (ns.map encS))

theorem strsEqOk (H : Hp) (z y : Bool) (a b : List Str) (ha : a.length ≤ 1048576) : ACall Tryd.prog 41 [.d (.sl z 1 (a.map encS)), .d (.sl y 1 (b.map encS))] H (fun r H' => r = .d (.bool (decide (a = b))) ∧ H' = H) := by
  refine acall_fin Tryd.func41 cf41 (by simp [ir41]) fun hcl _ => ?_
  simp [ir41]
  refine BrK_split (fun h => ?_) (fun h => ?_)
  · have hne : a ≠ b := fun e => by subst e; simp at h
    simp [RetK, cut_self hcl, hne]
  have hl : a.length = b.length := by simp at h; omega
  simp
  refine RangeK_of H.length a.length (fun i fr H' => fr 0 = .d (.sl z 1 (a.map encS)) ∧ fr 1 = .d (.sl y 1 (b.map encS)) ∧ a.take i = b.take i ∧ H' = H) (by omega) (by decide) (by simp) (by simp) ?_ ?_ ?_
  · simp [cut_self hcl]
  · rintro i fr H' hi f13 f12 ⟨f0, f1, he, rfl⟩
    have hib : i < b.length := by omega
    have ra := rowAt_map encS hi
    have rb := rowAt_map encS hib
    have ta : a.take (i + 1) = a.take i ++ [a[i]] := List.take_succ_eq_append_getElem hi
    have tb : b.take (i + 1) = b.take i ++ [b[i]] := List.take_succ_eq_append_getElem hib
    simp only [encS] at ra rb
    simp [f13, f0, f1, ra, rb]
    refine BrK_split (fun h => ?_) (fun h => ?_)
    · have hne : a ≠ b := fun e => by subst e; simp at h
      simp
      simp [RetK, cut_self hcl, hne]
    · simp at h
      have tt : a.take (i + 1) = b.take (i + 1) := by rw [ta, tb, he, h]
      simp
      refine NextK_of H'.length (Nat.le_refl _) (by simp [f13, f12]) ?_
      simp [f0, f1, cut_self hcl, tt]
  · rintro fr H' f13 f12 ⟨f0, f1, he, rfl⟩
    have : a = b := by rw [List.take_of_length_le (Nat.le_refl _), hl, List.take_of_length_le (Nat.le_refl _)] at he; exact he
    simp
    simp [RetK, cut_self hcl, this]

/-- slices.EqualFunc at values, where what is called is known of the parts -/
theorem partsEqOk (H : Hp) (z y : Bool) (a b : List V) (ha : a.length ≤ 1048576) (hs : ∀ v ∈ a, ∀ w : V, ∀ H, ACall Tryd.prog 26 [v.a, w.a] H (fun r H' => r = .d (.bool (@decide (v.strip = w.strip) (Classical.propDecidable _))) ∧ H' = H)) :
    ACall Tryd.prog 42 [.d (.sl z 5 (a.map V.enc)), .d (.sl y 5 (b.map V.enc)), .d (.fn 26)] H (fun r H' => r = .d (.bool (@decide (a.map V.strip = b.map V.strip) (Classical.propDecidable _))) ∧ H' = H) := by
  refine acall_fin Tryd.func42 cf42 (by simp [ir42]) fun hcl _ => ?_
  simp [ir42]
  refine BrK_split (fun h => ?_) (fun h => ?_)
  · have hne : a.map V.strip ≠ b.map V.strip := fun e => by have := congrArg List.length e; simp at this h; omega
    simp [RetK, cut_self hcl, hne]
  have hl : a.length = b.length := by simp at h; omega
  simp
  refine RangeK_of H.length a.length (fun i fr H' => fr 0 = .d (.sl z 5 (a.map V.enc)) ∧ fr 1 = .d (.sl y 5 (b.map V.enc)) ∧ fr 2 = .d (.fn 26) ∧ fr 15 = .d (.sl z 5 (a.map V.enc)) ∧ (a.map V.strip).take i = (b.map V.strip).take i ∧ H' = H) (by omega) (by decide) (by simp) (by simp) ?_ ?_ ?_
  · simp [cut_self hcl]
  · rintro i fr H' hi f17 f16 ⟨f0, f1, f2, f15, he, rfl⟩
    have hib : i < b.length := by omega
    have ra := rowAt_map V.enc hi
    have rb := rowAt_map V.enc hib
    have ta := take_map_succ V.strip hi
    have tb := take_map_succ V.strip hib
    have hx := hs a[i] (List.getElem_mem hi) b[i]
    have hne : a[i].strip ≠ b[i].strip → a.map V.strip ≠ b.map V.strip := fun h e => h (by
      have := congrArg (fun l => l[i]?) e
      simpa [hi, hib] using this)
    generalize a[i] = p at ra ta hx hne
    generalize b[i] = q at rb tb hx hne
    cases p with | mk k1 n1 s1 z1 ns1 y1 ps1 =>
    cases q with | mk k2 n2 s2 z2 ns2 y2 ps2 =>
    simp only [V.a_mk, V.enc_mk] at ra rb hx
    simp [f17, f15, f0, f1, f2, ra, rb]
    refine ⟨by kernel_rfl, CallK_of' (hx _) ?_⟩
    simp
    refine BrK_split (fun h => ?_) (fun h => ?_)
    · simp at h
      simp [RetK, cut_app hcl, hne h]
    · simp at h
      have tt : (a.map V.strip).take (i + 1) = (b.map V.strip).take (i + 1) := by rw [ta, tb, he, h]
      simp
      refine NextK_of H'.length (Nat.le_refl _) (by simp [f17, f16]) ?_
      simp [f0, f1, f2, f15, cut_app hcl]
      simpa using tt
  · rintro fr H' f17 f16 ⟨f0, f1, f2, f15, he, rfl⟩
    have : a.map V.strip = b.map V.strip := by
      have e1 : (a.map V.strip).take a.length = a.map V.strip := by rw [List.take_of_length_le (by simp)]
      have e2 : (b.map V.strip).take a.length = b.map V.strip := by rw [List.take_of_length_le (by simp [hl])]
      rw [e1, e2] at he; exact he
    simp
    simp [RetK, cut_self hcl, this]

end Go.Proofs.Zv

namespace Go.Proofs.Zv
open Go Go.Zam Go.Proofs
set_option maxRecDepth 100000
set_option linter.all false
set_option maxHeartbeats 1000000

/-- its numbers are numbers of the machine -/
inductive V.Wf : V → Prop
  | mk (k n : Int) (s : Str) (z : Bool) (ns : List Str) (y : Bool) (ps : List V) (hn : -9223372036854775808 ≤ n ∧ n ≤ 9223372036854775807) (h : ∀ p ∈ ps, V.Wf p) : V.Wf (.mk k n s z ns y ps)

theorem fit_of {b : Nat} (v : V) : v.Wf → v.bulk ≤ b → v.Fit b := by
  induction v using V.ind with
  | h k n s z ns y ps ih =>
  rintro ⟨_, _, _, _, _, _, _, hn, h⟩ hb
  obtain ⟨h1, h2, h3⟩ := V.bulk_lens k n s z ns y ps
  refine .mk _ _ _ _ _ _ _ (by omega) (by omega) (by omega) hn (fun x hx => ?_) (fun p hp => ih p hp (h p hp) (Nat.le_trans (V.bulk_part hp) hb))
  have := bulkR_mem (List.mem_map_of_mem (f := encS) hx)
  simp only [V.bulk, V.enc_mk k, D.bulkC, D.bulk] at hb
  simp only [encS, D.bulkC, D.bulk] at this
  omega

theorem ty25 : ∀ n ds, Typed Tryd.prog n 25 ds → ∃ v : V, ds = v.enc ∧ v.Wf := by
  intro n
  induction n using Nat.strongRecOn with
  | ind n ih =>
  intro ds h
  obtain ⟨m, rfl, h⟩ := typed_structR Tryd.underlying25 h
  obtain ⟨a, r, rfl, ha, b, r, rfl, hb, c, r, rfl, hc, d, r, rfl, hd, e, r, rfl, he, rfl⟩ := h
  obtain ⟨k, rfl, -⟩ := typed_i64 Tryd.underlying3 ha
  obtain ⟨n, rfl, hn⟩ := typed_i64 Tryd.underlying2 hb
  obtain ⟨s, rfl⟩ := typed_str Tryd.underlying9 hc
  obtain ⟨z, ns, rfl⟩ := typed_sl (sz := 1) (enc := encS) Tryd.underlying22 (by kernel_rfl) (fun n ds h => by
    obtain ⟨x, rfl⟩ := typed_str Tryd.underlying9 h
    exact ⟨x, rfl⟩) hd
  obtain ⟨y, ps, rfl, hp⟩ := typed_slR (sz := 5) (enc := V.enc) (R := V.Wf) Tryd.underlying23 (by kernel_rfl) (fun q hq ds h => ih q (by omega) ds h) he
  exact ⟨.mk k n s z ns y ps, by rw [V.enc_mk]; rfl, .mk _ _ _ _ _ _ _ hn hp⟩

theorem arg_val {n : Nat} {ds : List D} {a : A} (h : Typed Tryd.prog n 25 ds) (ha : ArgOf Tryd.prog 25 ds a) : ∃ v : V, a = v.a ∧ v.Wf ∧ v.bulk = D.bulkC ds := by
  obtain ⟨v, rfl, hw⟩ := ty25 n ds h
  refine ⟨v, ?_, hw, rfl⟩
  unfold ArgOf at ha
  rw [Tryd.underlying25] at ha
  exact ha

theorem arg_vals {n : Nat} {ds : List D} {a : A} (h : Typed Tryd.prog n 23 ds) (ha : ArgOf Tryd.prog 23 ds a) : ∃ z, ∃ l : List V, a = .d (.sl z 5 (l.map V.enc)) ∧ l.length ≤ D.bulkC ds ∧ ∀ v ∈ l, v.Wf ∧ v.bulk ≤ D.bulkC ds := by
  obtain ⟨z, l, rfl, hl⟩ := typed_slR (sz := 5) (enc := V.enc) (R := V.Wf) Tryd.underlying23 (by kernel_rfl) (fun q hq ds h => ty25 q ds h) h
  refine ⟨z, l, argOf_one (by rw [Tryd.underlying23]; simp) ha, ?_, fun v hv => ⟨hl v hv, ?_⟩⟩
  · have := bulkR_len (enc := V.enc) (fun m => by cases m; simp only [V.enc_mk, D.bulkC, D.bulk]; omega) l
    simp only [D.bulkC, D.bulk]; omega
  · have := bulkR_mem (List.mem_map_of_mem (f := V.enc) hv)
    simp only [D.bulkC, D.bulk, V.bulk]; omega

theorem arg_strs {n : Nat} {ds : List D} {a : A} (h : Typed Tryd.prog n 22 ds) (ha : ArgOf Tryd.prog 22 ds a) : ∃ z, ∃ l : List Str, a = .d (.sl z 1 (l.map encS)) ∧ l.length ≤ D.bulkC ds ∧ ∀ x ∈ l, x.length ≤ D.bulkC ds := by
  obtain ⟨z, l, rfl⟩ := typed_sl (sz := 1) (enc := encS) Tryd.underlying22 (by kernel_rfl) (fun n ds h => by
    obtain ⟨x, rfl⟩ := typed_str Tryd.underlying9 h
    exact ⟨x, rfl⟩) h
  refine ⟨z, l, argOf_one (by rw [Tryd.underlying22]; simp) ha, ?_, fun x hx => ?_⟩
  · have := bulkR_len (enc := encS) (fun m => by simp only [encS, D.bulkC, D.bulk]; omega) l
    simp only [D.bulkC, D.bulk]; omega
  · have := bulkR_mem (List.mem_map_of_mem (f := encS) hx)
    simp only [encS, D.bulkC, D.bulk] at this
    simp only [D.bulkC, D.bulk, encS]; omega

theorem arg_str {n : Nat} {ds : List D} {a : A} (h : Typed Tryd.prog n 9 ds) (ha : ArgOf Tryd.prog 9 ds a) : ∃ s : Str, a = .d (.str s) ∧ s.length ≤ D.bulkC ds := by
  obtain ⟨x, rfl⟩ := typed_str Tryd.underlying9 h
  exact ⟨x, argOf_one (by rw [Tryd.underlying9]; simp) ha, by simp only [D.bulkC, D.bulk]; omega⟩

theorem arg_int {t : TypeId} {n : Nat} {ds : List D} {a : A} (hu : Tryd.prog.underlying t = some (.int .i64)) (h : Typed Tryd.prog n t ds) (ha : ArgOf Tryd.prog t ds a) : ∃ x : Int, a = .d (.int .i64 x) ∧ (-9223372036854775808 ≤ x ∧ x ≤ 9223372036854775807) := by
  obtain ⟨x, rfl, hx⟩ := typed_i64 hu h
  exact ⟨x, argOf_one (by rw [hu]; simp) ha, hx⟩

end Go.Proofs.Zv

namespace Go.Proofs.YtdhanghnffkckaaDoor
open Go Go.Zam Go.Proofs.Zv
open Go.ChangeShapes Go.WideShapes Go.ChangeAt Go.RowKit
set_option linter.all false

theorem isBulk (H : Type) : IsBulk (X := H) Rows.uptoBulk Rows.uptoBulkAll where
  str := fun b => by simp [Rows.uptoBulk]
  bool := fun b => by simp [Rows.uptoBulk]
  int := fun k n => by simp [Rows.uptoBulk]
  nil := by simp [Rows.uptoBulk]
  slice := fun e s => by simp only [Rows.uptoBulk]; omega
  agg := fun p => by simp only [Rows.uptoBulk]; omega
  cons := fun d r => by simp only [Rows.uptoBulkAll]; omega

theorem own : ownKnob Tryd.prog.godebug = none := by kernel_rfl
theorem laidOut : laidOutB Tryd.prog = true := by kernel_rfl

/-- a cell of a table -/
def litCell : DataW Unit → Value
  | .lit (.int k n) => .int k n
  | _ => .tuple #[]
def tabCells : DataW Unit → Array Value
  | .agg l => (l.map litCell).toArray
  | _ => #[]
def layTab (g : Nat) (d : DataW Unit) (h : Array Obj) : Array Obj := h.modify g fun
  | .cells _ t frozen => .cells (tabCells d) t frozen
  | o => o

/-- a world for the witness: the settled one, the tables as their initialisers lay them -/
noncomputable def laidWorld (os : Os) : World :=
  { World.holding Tryd.prog os ⟨#[], #[], []⟩ with heap := layTab 3 Rows.laid_math_bits_deBruijn64tab (layTab 2 Rows.laid_math_bits_deBruijn32tab (layTab 0 Rows.laid_internal_strconv_uint64pow10 (World.holding Tryd.prog os ⟨#[], #[], []⟩).heap)) }

/-- the table of the powers of ten, as the machine has it -/
def tabH : Hp := [.glob 0 (Lib.pow10Tab.map fun z => Value.int .u64 z)]

theorem laidOb {W : World} (h : laidMetH Tryd.prog Rows.valueTextsUptoRow.laid W) : LaidOb W tabH := by
  have h' : laidMet Tryd.prog Rows.valueTextsUptoRow.laid W := by
    rw [MakeChecks.laidMetH_plain _ _ _ (by kernel_rfl)] at h
    exact h
  obtain ⟨ps, hv, -⟩ := h'
  exact laidOb_tab (P := Tryd.prog) (g := 0) (name := "internal/strconv.uint64pow10") (by kernel_rfl)
    (tabIs_of_vars (g := 0) (t := 105) (e := 95) (n := 20) (k := .u64) (zs := Lib.pow10Tab) (by kernel_rfl) (by kernel_rfl) Tryd.underlying105 (by kernel_rfl) (by kernel_rfl) (by kernel_rfl) _ ps hv (.tail _ (.tail _ (.head _))))

end Go.Proofs.YtdhanghnffkckaaDoor

namespace Go.Zam
set_option linter.all false
set_option maxRecDepth 100000

theorem arrE_map {α : Type} (enc : α → List D) (sz : Nat) (L : List α) : arrE enc sz L = .arr sz ((L.map enc).map (List.map .d)) := by
  simp [arrE, rowE]

theorem sortVec {P : Program} {α : Type} {enc : α → List D} {sz : Nat} {c : α → α → Int} (hc : Cmp c) {L : List α} {f : FuncId} {g : A}
    (hs : ∀ (H : Hp) (i : Nat), H[i]? = some (arrE enc sz L) → ACall P f [.msl i 0 L.length, g] H (fun r' H' => r' = .tup [] ∧ H' = H.set i (arrE enc sz (ssort c L))))
    {H : Hp} {i k e : Nat} (hi : H[i]? = some (.vec sz e k (L.map enc))) (hne : L ≠ []) (hH : ∀ m x, m ≠ i → H[m]? = some x → x.off i = true) :
    ACall P f [.vsl i k L.length, g] H (fun r' H' => r' = .tup [] ∧ H' = H.set i (.vec sz e k ((ssort c L).map enc))) := by
  have h1 := hs (H.set i .dead ++ [.arr sz ((L.map enc).map (List.map .d))]) H.length (by rw [arrE_map, show H.length = (H.set i Ob.dead).length by simp, getElem?_app0]; rfl)
  have h2 : (H.set i .dead ++ [Ob.arr sz ((L.map enc).map (List.map .d))]).set H.length (arrE enc sz (ssort c L)) = H.set i .dead ++ [.arr sz (((ssort c L).map enc).map (List.map .d))] := by
    rw [arrE_map, show H.length = (H.set i Ob.dead).length by simp, set_app0]; rfl
  rw [h2] at h1
  have := ACall.thaw (P := P) (f := f) (rows' := (ssort c L).map enc) (args := [g]) (v := .tup []) hi (by simpa using hne) hH ⟨rfl, rfl⟩ (by simp [ssort_length hc]) (by rw [List.length_map]; exact h1)
  rw [List.length_map] at this
  exact this

end Go.Zam

namespace Go.Zam
open Go.RowKit (Below)
set_option linter.all false
set_option maxRecDepth 100000

/-- what comes after a world that is the same below its end -/
theorem HR.later {κ : K} {H : Hp} {w w' : World} (h : HR κ H w) (hb : Below w.heap.size w w') : HR κ H w' := by
  have hst : ∀ b o v, κ.σ b o = some v → b < w.heap.size := fun b o v hv => World.block_lt_of_cell? w ⟨b, o, none⟩ (h.st b o v hv)
  refine ⟨h.below.trans (hb.mono h.below.size), fun b o v hv => ?_, fun i x hx => ?_, h.dom, fun i b hi => ?_, h.exσ, h.exd, h.fl⟩
  · rw [(cell_of_block (hb.block b (hst b o v hv)) o).1]; exact h.st b o v hv
  · exact (h.ob i x hx).mono (K.le_refl κ) rfl fun b hb' => hb.block b (h.ex i b hb').2
  · have := h.ex i b hi
    have := hb.size
    omega

/-- A LEAF: a function of the library, of pure data -/
theorem leaf {P : Program} {f : FuncId} {args : List D} {x : D}
    (h : ∀ (w : World) (σ : St) (vs : List Value), (∀ b o v, σ b o = some v → w.cell? ⟨b, o, none⟩ = some v) → vs.length = args.length → (∀ (i : Nat) (v : Value) (d : D), vs[i]? = some v → args[i]? = some d → DR σ v d) →
      Calls P f vs.toArray w fun e w' => ∃ v, e = .returned v ∧ Below w.heap.size w w' ∧ ∀ σ, DR σ v x) (H : Hp) : ACall P f (args.map .d) H (fun r H' => r = .d x ∧ H' = H) := by
  intro κ w vs hr hl hv
  refine (h w κ.σ vs hr.st (by simpa using hl) (fun i v d hi hd => (hv i v (.d d) hi (by simp [hd])).d_inv)).mono ?_
  rintro e w' ⟨v, rfl, hb, hd⟩
  exact ⟨v, κ, _, H, rfl, K.le_refl κ, hr.later hb, .d (hd _), rfl, rfl⟩

theorem DR.str_inv {σ : St} {v : Value} {s : List UInt8} (h : DR σ v (.str s)) : v = .string ⟨s.toArray⟩ := by
  cases h with
  | str u => simp
theorem DR.int_inv {σ : St} {v : Value} {k : IntKind} {n : Int} (h : DR σ v (.int k n)) : v = .int k n := by cases h; rfl

theorem DR.strOf {σ : St} (l : List UInt8) : DR σ (.string ⟨l.toArray⟩) (.str l) := by
  have := DR.str (σ := σ) ⟨l.toArray⟩
  simpa using this

/-- a slice that may be appended to, where a plain one is asked for -/
theorem ACall.oslAt {P : Program} {f : FuncId} {H : Hp} {Q : A → Hp → Prop} {pre l : List A} {z : Bool} {s t : Nat} {rows : List (List D)} (h : ACall P f (pre ++ .d (.sl z s rows) :: l) H Q) : ACall P f (pre ++ .osl z s rows t :: l) H Q := by
  intro κ w vs hr hl hv
  refine h κ w vs hr (by simpa using hl) fun i v a hi ha => ?_
  by_cases e : i = pre.length
  · subst e
    have h1 := hv pre.length v (.osl z s rows t) hi (by simp)
    rw [List.getElem?_append_right (Nat.le_refl _), Nat.sub_self] at ha
    cases ha
    cases h1 with
    | osl hd _ => exact .d hd
  · refine hv i v a hi ?_
    by_cases hlt : i < pre.length
    · rw [List.getElem?_append_left hlt] at ha ⊢; exact ha
    · rw [List.getElem?_append_right (by omega)] at ha ⊢
      obtain ⟨k, hk⟩ : ∃ k, i - pre.length = k + 1 := ⟨i - pre.length - 1, by omega⟩
      rw [hk] at ha ⊢
      exact ha

theorem ACall.osl1 {P : Program} {f : FuncId} {H : Hp} {Q : A → Hp → Prop} {l : List A} {z : Bool} {s t : Nat} {rows : List (List D)} (h : ACall P f (.d (.sl z s rows) :: l) H Q) : ACall P f (.osl z s rows t :: l) H Q := ACall.oslAt (pre := []) h
theorem ACall.osl2 {P : Program} {f : FuncId} {H : Hp} {Q : A → Hp → Prop} {a : A} {l : List A} {z : Bool} {s t : Nat} {rows : List (List D)} (h : ACall P f (a :: .d (.sl z s rows) :: l) H Q) : ACall P f (a :: .osl z s rows t :: l) H Q := ACall.oslAt (pre := [a]) h

def irWriteByte (cc et : Nat) : IFn :=
 { nt := 17, res := [.t 4], body := (
  .seq (.ops [
    ⟨(some 4), none, .mv (.c .nili)⟩] false)
  (.seq (.ops [
    ⟨(some 5), none, .mv (.t 0)⟩,
    ⟨(some 6), none, .call cc [(.t 5)]⟩] false)
  (.seq (.ops [
    ⟨(some 7), none, .mv (.t 0)⟩,
    ⟨(some 8), none, .mv (.t 0)⟩,
    ⟨(some 9), none, .nilCheck (.t 8)⟩,
    ⟨(some 10), none, .faddr 1 (.t 9)⟩,
    ⟨(some 11), none, .load 1 false (.t 10)⟩,
    ⟨(some 12), none, .mv (.t 1)⟩,
    ⟨(some 13), none, .bslice 1 [(.t 12)]⟩,
    ⟨(some 14), none, .app 1 1 et (.t 11) (.t 13)⟩,
    ⟨(some 15), none, .nilCheck (.t 7)⟩,
    ⟨(some 16), none, .faddr 1 (.t 15)⟩,
    ⟨none, none, .store 1 (.t 16) (.t 14)⟩] false)
  (.seq (.ops [
    ⟨(some 4), none, .mv (.c .nili)⟩] false)
  (.ret))))) }

theorem writeByte_acall {P : Program} {f cc bt et : Nat} {fn : Func} (hf : P.funcs[f]? = some fn) (hcf : compF P [] fn = some (irWriteByte cc et)) (hcc : CopyOk P cc bt) (H : Hp) (i t : Nat) (a : A) (bs : List UInt8) (c : UInt8)
    (hi : H[i]? = some (.box bt [a, .osl true 1 (byteRows bs) t])) (ha : a = .d .nilp ∨ a = .ptr i 0) (ht : H[t]? = some (.tok bs.length 1 et)) (hb : bs.length + 1 ≤ 140737488355328) :
    ACall P f [.ptr i 0, .d (.int .u8 c.toNat)] H (fun r H' => r = .d .nili ∧ H' = (H.set i (.box bt [.ptr i 0, .osl true 1 (byteRows (bs ++ [c])) t])).set t (.tok (bs ++ [c]).length 1 et)) := by
  have hit : i ≠ t := fun e => by subst e; rw [hi] at ht; cases ht
  have hil : i < H.length := (List.getElem?_eq_some_iff.1 hi).1
  have htl : t < H.length := (List.getElem?_eq_some_iff.1 ht).1
  refine acall_fin hf hcf (by simp [irWriteByte]) fun hcl hlo => ?_
  simp [irWriteByte]
  refine CallK_of' (hcc _ _ _ _ hi ha) ?_
  have hbl : (byteRows bs).length = bs.length := by simp [byteRows]
  have ht' : (H.set i (.box bt [.ptr i 0, .osl true 1 (byteRows bs) t]))[t]? = some (.tok (byteRows bs).length 1 et) := by
    rw [List.getElem?_set_ne hit, ht, hbl]
  have htv : H[t] = Ob.tok bs.length 1 et := (List.getElem?_eq_some_iff.1 ht).2
  have hb' : bs.length ≤ 140737488355327 := by omega
  simp [hil, htl, hit, htv, hb', appA, hbl, Ne.symm hit]
  simp [RetK, Hp.cut_set, cut_self hcl, hil, htl, byteRows]
  rw [List.set_comm _ _ hit, List.set_comm _ _ hit, List.set_set]

end Go.Zam

namespace Go.Proofs.Zv
open Go Go.Zam Go.Proofs
set_option maxRecDepth 100000
set_option linter.all false
set_option maxHeartbeats 1000000

theorem strip_eq (k n k' n' : Int) (s s' : Str) (z z' : Bool) (ns ns' : List Str) (y y' : Bool) (ps ps' : List V) :
    (V.mk k n s z ns y ps).strip = (V.mk k' n' s' z' ns' y' ps').strip ↔ k = k' ∧ n = n' ∧ s = s' ∧ ns = ns' ∧ ps.map V.strip = ps'.map V.strip := by
  simp [V.strip_mk]

theorem sameOk (v : V) : v.Fit 1048576 → ∀ (w : V) (H : Hp), ACall Tryd.prog 26 [v.a, w.a] H (fun r H' => r = .d (.bool (@decide (v.strip = w.strip) (Classical.propDecidable _))) ∧ H' = H) := by
  induction v using V.ind with
  | h k n s z ns y ps ih =>
  rintro (⟨_, _, _, _, _, _, _, b1, b2, b3, bn, b4, b5⟩) w H
  cases w with | mk k' n' s' z' ns' y' ps' =>
  refine acall_fin Tryd.func26 cf26 (by simp [ir26]) fun hcl _ => ?_
  rw [V.a_mk, V.a_mk]
  by_cases hk : k = k'
  · by_cases hn : n = n'
    · by_cases hs : s = s'
      · simp [ir26, hk, hn, hs]
        refine CallK_of' (strsEqOk _ z z' ns ns' b2) ?_
        by_cases hns : ns = ns'
        · simp [hns]
          refine CallK_of' (partsEqOk _ y y' ps ps' b3 (fun v hv w H => ih v hv (b5 v hv) w H)) ?_
          simp
          simp [RetK, cut_app hcl, strip_eq, hk, hn, hs, hns]
        · simp [hns]
          simp [RetK, cut_app hcl, strip_eq, hk, hn, hs, hns]
      · simp [ir26, hk, hn, hs]
        simp [RetK, cut_app hcl, strip_eq, hk, hn, hs]
    · simp [ir26, hk, hn]
      simp [RetK, cut_app hcl, strip_eq, hk, hn]
  · simp [ir26, hk]
    simp [RetK, cut_app hcl, strip_eq, hk]

/-- the cells of two boxed values -/
def box2 (a b : Nat) (v w : V) : Hp := [.box a (v.enc.map .d), .box b (w.enc.map .d)]

theorem rsameOk (v : V) : v.Fit 1048576 → ∀ (w : V) (H : Hp), ACall Tryd.prog 14 [v.a, w.a] H (fun r H' => r = .d (.bool (@decide (v.strip = w.strip) (Classical.propDecidable _))) ∧ H' = H) := by
  induction v using V.ind with
  | h k n s z ns y ps ih =>
  rintro (⟨_, _, _, _, _, _, _, b1, b2, b3, bn, b4, b5⟩) w H
  cases w with | mk k' n' s' z' ns' y' ps' =>
  refine acall_fin Tryd.func14 cf14 (by simp [ir14]) fun hcl _ => ?_
  rw [V.a_mk, V.a_mk]
  by_cases hk : k = k'
  case neg =>
    simp [ir14, hk]
    simp [RetK, cut_app hcl, strip_eq, hk]
  by_cases hn : n = n'
  case neg =>
    simp [ir14, hk, hn]
    simp [RetK, cut_app hcl, strip_eq, hk, hn]
  by_cases hs : s = s'
  case neg =>
    simp [ir14, hk, hn, hs]
    simp [RetK, cut_app hcl, strip_eq, hk, hn, hs]
  by_cases hl : ns.length = ns'.length
  case neg =>
    have hne : ns ≠ ns' := fun e => hl (by rw [e])
    have hl' : ¬ (ns.length : Int) = ns'.length := by omega
    simp [ir14, hk, hn, hs, hl, hl']
    simp [RetK, cut_app hcl, strip_eq, hk, hn, hs, hne]
  by_cases hm : ps.length = ps'.length
  case neg =>
    have hne : ps.map V.strip ≠ ps'.map V.strip := fun e => hm (by have := congrArg List.length e; simpa using this)
    have hm' : ¬ (ps.length : Int) = ps'.length := by omega
    simp [ir14, hk, hn, hs, hl, hm, hm']
    simp [RetK, cut_app hcl, strip_eq, hk, hn, hs, hne]
  simp [ir14, hk, hn, hs, hl, hm]
  generalize hB : H ++ [Ob.box 25 [A.d (D.int IntKind.i64 k'), A.d (D.int IntKind.i64 n'), A.d (D.str s'), A.d (D.sl z 1 (List.map encS ns)), A.d (D.sl y 5 (List.map V.enc ps))],
    Ob.box 25 [A.d (D.int IntKind.i64 k'), A.d (D.int IntKind.i64 n'), A.d (D.str s'), A.d (D.sl z' 1 (List.map encS ns')), A.d (D.sl y' 5 (List.map V.enc ps'))]] = B
  have hB0 : B[H.length]? = some (Ob.box 25 [A.d (D.int IntKind.i64 k'), A.d (D.int IntKind.i64 n'), A.d (D.str s'), A.d (D.sl z 1 (List.map encS ns)), A.d (D.sl y 5 (List.map V.enc ps))]) := by rw [← hB]; simp
  have hB1 : B[H.length + 1]? = some (Ob.box 25 [A.d (D.int IntKind.i64 k'), A.d (D.int IntKind.i64 n'), A.d (D.str s'), A.d (D.sl z' 1 (List.map encS ns')), A.d (D.sl y' 5 (List.map V.enc ps'))]) := by rw [← hB]; simp
  have hBl : B.length = H.length + 2 := by rw [← hB]; simp
  have hBc : Hp.cut (H.length + 2) B = B := by rw [← hB, cut_appk hcl]; simp
  have hBz : Hp.cut H.length B = H := by rw [← hB, cut_app hcl]
  refine ForK_of (H.length + 2) ns.length (fun i fr H' => fr 2 = .ptr H.length 0 ∧ fr 3 = .ptr (H.length + 1) 0 ∧ ns.take i = ns'.take i ∧ H' = B) (by omega) (by decide) (by simp [hBl]) (by simp) ?_ ?_
  · simp [hBc]
  rintro i fr H' hi f5 ⟨f2, f3, he, rfl⟩
  simp [f5, f2, f3, hB0]
  refine BrK_split (fun h => ?_) (fun h => ?_)
  · have hlt : i < ns.length := by simp at h; omega
    have hlt' : i < ns'.length := by omega
    have ra := rowAt_map encS hlt
    have rb := rowAt_map encS hlt'
    have ta : ns.take (i + 1) = ns.take i ++ [ns[i]] := List.take_succ_eq_append_getElem hlt
    have tb : ns'.take (i + 1) = ns'.take i ++ [ns'[i]] := List.take_succ_eq_append_getElem hlt'
    simp only [encS] at ra rb
    simp [f5, f2, f3, hB0, hB1, ra, rb]
    refine BrK_split (fun h => ?_) (fun h => ?_)
    · have hne : ns ≠ ns' := fun e => by subst e; simp at h
      simp
      simp [RetK, hBz, hBl, strip_eq, hne]
    · simp at h
      have tt : ns.take (i + 1) = ns'.take (i + 1) := by rw [ta, tb, he, h]
      simp
      refine NextF_of (H.length + 2) (Nat.le_refl _) hlt (by simp [hBl, f5]) ?_
      simp [f2, f3, hBc, tt]
  have hii : i = ns.length := by simp at h; omega
  have hns : ns = ns' := by
    rw [hii, List.take_of_length_le (Nat.le_refl _), hl, List.take_of_length_le (Nat.le_refl _)] at he; exact he
  simp
  refine ForK_of (H.length + 2) ps.length (fun i fr H2 => fr 2 = .ptr H.length 0 ∧ fr 3 = .ptr (H.length + 1) 0 ∧ (ps.map V.strip).take i = (ps'.map V.strip).take i ∧ H2 = H') (by omega) (by decide) (by simp [hBl]) (by simp) ?_ ?_
  · simp [hBc, f2, f3]
  rintro j fr2 H2 hj f6 ⟨f2, f3, hf, rfl⟩
  simp [f6, f2, f3, hB0]
  refine BrK_split (fun h => ?_) (fun h => ?_)
  · have hlt : j < ps.length := by simp at h; omega
    have hlt' : j < ps'.length := by omega
    have ra := rowAt_map V.enc hlt
    have rb := rowAt_map V.enc hlt'
    have ta := take_map_succ V.strip hlt
    have tb := take_map_succ V.strip hlt'
    have hx := ih ps[j] (List.getElem_mem hlt) (b5 _ (List.getElem_mem hlt)) ps'[j] H2
    have hne : ps[j].strip ≠ ps'[j].strip → ps.map V.strip ≠ ps'.map V.strip := fun h e => h (by
      have := congrArg (fun l => l[j]?) e
      simpa [hlt, hlt'] using this)
    generalize ps[j] = p at ra ta hx hne
    generalize ps'[j] = q at rb tb hx hne
    cases p with | mk k1 n1 s1 z1 ns1 y1 ps1 =>
    cases q with | mk k2 n2 s2 z2 ns2 y2 ps2 =>
    simp only [V.a_mk, V.enc_mk] at ra rb hx
    simp [f6, f2, f3, hB0, hB1, ra, rb]
    refine CallD_of hx ?_
    simp
    refine BrK_split (fun h => ?_) (fun h => ?_)
    · simp at h
      have hne := hne h
      simp
      simp [RetK, hBz, hBl, strip_eq, hne]
    · simp at h
      have tt : (ps.map V.strip).take (j + 1) = (ps'.map V.strip).take (j + 1) := by rw [ta, tb, hf, h]
      simp
      refine NextF_of (H.length + 2) (Nat.le_refl _) hlt (by simp [hBl, f6]) ?_
      simp [f2, f3, hBc, tt]
  have hjj : j = ps.length := by simp at h; omega
  have hps : ps.map V.strip = ps'.map V.strip := by
    rw [hjj, List.take_of_length_le (by simp), List.take_of_length_le (by simp [hm])] at hf; exact hf
  simp
  simp [RetK, hBz, hBl, strip_eq, hk, hn, hs, hns, hps]

end Go.Proofs.Zv

namespace Go.Proofs.Zv
open Go Go.Zam Go.Proofs
set_option maxRecDepth 100000
set_option linter.all false
set_option maxHeartbeats 1000000

theorem sizeOk (v : V) : v.Fit 1048576 → ∀ (m d : Int) (H : Hp), ACall Tryd.prog 47 [v.a, .d (.int .i64 m), .d (.int .i64 d)] H (fun r H' => (∃ c : Int, r = .d (.int .i64 c)) ∧ H' = H) := by
  induction v using V.ind with
  | h k n s z ns y ps ih =>
  rintro (⟨_, _, _, _, _, _, _, b1, b2, b3, bn, b4, b5⟩) m d H
  refine acall_fin Tryd.func47 cf47 (by simp [ir47]) fun hcl _ => ?_
  rw [V.a_mk]
  by_cases h1 : d = 0
  case pos =>
    simp [ir47, h1]
    simp [RetK, cut_app hcl]
  by_cases h2 : m < ns.length
  case pos =>
    simp [ir47, h1, h2]
    simp [RetK, cut_app hcl]
  by_cases h3 : m < s.length
  case pos =>
    simp [ir47, h1, h2, h3]
    simp [RetK, cut_app hcl]
  simp [ir47, h1, h2, h3]
  generalize hB : H ++ [Ob.box 25 [A.d (D.int IntKind.i64 k), A.d (D.int IntKind.i64 n), A.d (D.str s), A.d (D.sl z 1 (List.map encS ns)), A.d (D.sl y 5 (List.map V.enc ps))]] = B
  have hB0 : B[H.length]? = some (Ob.box 25 [A.d (D.int IntKind.i64 k), A.d (D.int IntKind.i64 n), A.d (D.str s), A.d (D.sl z 1 (List.map encS ns)), A.d (D.sl y 5 (List.map V.enc ps))]) := by rw [← hB]; simp
  have hBl : B.length = H.length + 1 := by rw [← hB]; simp
  have hBc : Hp.cut (H.length + 1) B = B := by rw [← hB, cut_appk hcl]; simp
  have hBz : Hp.cut H.length B = H := by rw [← hB, cut_app hcl]
  refine LoopK_out 0 (fun fr H' => fr 1 = .d (.int .i64 m) ∧ fr 3 = .ptr H.length 0 ∧ (∃ c : Int, fr 7 = .d (.int .i64 c)) ∧ H' = B) ?_ ?_
  · refine ForK_of (H.length + 1) ps.length (fun i fr H' => fr 1 = .d (.int .i64 m) ∧ fr 2 = .d (.int .i64 d) ∧ fr 3 = .ptr H.length 0 ∧ (∃ c : Int, fr 7 = .d (.int .i64 c)) ∧ H' = B) (by omega) (by decide) (by simp [hBl]) (by simp) ?_ ?_
    · simp [hBc]
    rintro i fr H' hi f8 ⟨f1, f2, f3, ⟨c, f7⟩, rfl⟩
    simp [f8, f3, f7, f1, hB0]
    refine GdK_split (by simp) (fun h => ?_) (fun h => ?_)
    · simp at h
      simp [f7, f1]
      refine BrK_split (fun h2 => ?_) (fun h2 => ?_)
      · have hr := rowAt_map V.enc h
        have hx := ih ps[i] (List.getElem_mem h) (b5 _ (List.getElem_mem h))
        generalize ps[i] = p at hr hx
        cases p with | mk k1 n1 s1 z1 ns1 y1 ps1 =>
        simp only [V.a_mk, V.enc_mk] at hr hx
        simp [f8, f3, f7, f2, f1, hB0, hr]
        refine CallK_of (hx _ _ _) ?_
        rintro x H2 ⟨⟨c2, rfl⟩, rfl⟩
        simp
        refine NextF_of (H.length + 1) (Nat.le_refl _) h (by simp [hBl, f8]) ?_
        simp [f1, f2, f3, hBc]
      · simp [f1, f3, f7]
    · simp [f1, f3, f7]
  rintro fr H' ⟨f1, f3, ⟨c, f7⟩, rfl⟩
  simp
  refine LoopK_out 2 (fun fr H2 => (∃ c : Int, fr 7 = .d (.int .i64 c)) ∧ H2 = H') ?_ ?_
  · refine ForK_of (H.length + 1) ns.length (fun i fr H2 => fr 1 = .d (.int .i64 m) ∧ fr 3 = .ptr H.length 0 ∧ (∃ c : Int, fr 7 = .d (.int .i64 c)) ∧ H2 = H') (by omega) (by decide) (by simp [hBl]) (by simp) ?_ ?_
    · simp [hBc, f1, f3, f7]
    rintro i fr H2 hi f9 ⟨f1, f3, ⟨c, f7⟩, rfl⟩
    simp [f9, f3, f7, f1, hB0]
    refine GdK_split (by simp) (fun h => ?_) (fun h => ?_)
    · simp at h
      simp [f7, f1]
      refine BrK_split (fun h2 => ?_) (fun h2 => ?_)
      · have hr := rowAt_map encS h
        simp only [encS] at hr
        simp [f9, f3, f7, f1, hB0, hr]
        refine NextF_of (H.length + 1) (Nat.le_refl _) h (by simp [hBl, f9]) ?_
        simp [f1, f3, hBc]
      · simp [f7]
    · simp [f7]
  rintro fr H2 ⟨⟨c, f7⟩, rfl⟩
  simp [f7]
  simp [RetK, hBz, hBl]

theorem smallOk (v : V) (hv : v.Fit 1048576) (m d : Int) (H : Hp) : ACall Tryd.prog 32 [v.a, .d (.int .i64 m), .d (.int .i64 d)] H (fun r H' => (∃ c : Bool, r = .d (.bool c)) ∧ H' = H) := by
  refine acall_fin Tryd.func32 cf32 (by simp [ir32]) fun hcl _ => ?_
  have hx := sizeOk v hv m d
  cases v with | mk k1 n1 s1 z1 ns1 y1 ps1 =>
  simp only [V.a_mk] at hx ⊢
  simp [ir32]
  refine CallK_of (hx _) ?_
  rintro x H2 ⟨⟨c2, rfl⟩, rfl⟩
  simp
  simp [RetK, cut_app hcl]
  omega

theorem lightOk (v : V) (hv : v.Fit 1048576) (H : Hp) : ACall Tryd.prog 8 [v.a] H (fun r H' => (∃ c : Bool, r = .d (.bool c)) ∧ H' = H) := by
  refine acall_fin Tryd.func8 cf8 (by simp [ir8]) fun hcl _ => ?_
  have hx := smallOk v hv
  cases v with | mk k1 n1 s1 z1 ns1 y1 ps1 =>
  simp only [V.a_mk] at hx ⊢
  simp [ir8]
  refine CallK_of (hx _ _ _) ?_
  rintro x H2 ⟨⟨c2, rfl⟩, rfl⟩
  simp
  simp [RetK, cut_app hcl]

end Go.Proofs.Zv

namespace Go.Proofs.Zv
open Go Go.Zam Go.Proofs
set_option maxRecDepth 100000
set_option linter.all false
set_option maxHeartbeats 1000000

abbrev Pr := Str × V
def encP (p : Pr) : List D := .str p.1 :: p.2.enc
def cP (a b : Pr) : Int := cmpStr a.1 b.1
theorem cP_cmp : Cmp cP := cmpStr_cmp.on Prod.fst
theorem encP_len (p : Pr) : (encP p).length = 6 := by simp [encP, V.enc_len]

theorem cmpP_acall (H : Hp) (x y : Pr) : ACall Tryd.prog 38 [.agg (rowE encP x), .agg (rowE encP y)] H (fun r H' => r = .d (.int .i64 (cP x y)) ∧ H' = H) := by
  refine acall_fin Tryd.func38 cf38 (by simp [ir38]) fun hcl _ => ?_
  obtain ⟨a, v⟩ := x
  obtain ⟨b, w⟩ := y
  cases v with | mk k1 n1 s1 z1 ns1 y1 ps1 =>
  cases w with | mk k2 n2 s2 z2 ns2 y2 ps2 =>
  simp [ir38, rowE, encP, V.enc_mk]
  refine CallK_of' (compareStr_acall Tryd.func39 cf39 Tryd.func58 cf58 a b) ?_
  simp
  simp [RetK, cut_app hcl, cP]

theorem cmpA_P : CmpA Tryd.prog encP cP (.d (.fn 38)) := fun H x y Q t hq => by
  simp only [ValD_d]
  exact ⟨by kernel_rfl, CallD_of (cmpP_acall H x y) hq⟩

theorem sortP {L : List Pr} (hl : L.length ≤ 1048576) (H : Hp) (i : Nat) (hi : H[i]? = some (arrE encP 6 L)) : ACall Tryd.prog 37 [.msl i 0 L.length, .d (.fn 38)] H (fun r' H' => r' = .tup [] ∧ H' = H.set i (arrE encP 6 (ssort cP L))) :=
  sortStable_acall encP_len cP_cmp Tryd.func37 cf37 Tryd.func57 cf57 Tryd.func68 cf68 Tryd.func69 cf69 Tryd.func78 cf78 Tryd.func81 cf81 cmpA_P (fun m _ => by simp) hi (by omega)

/-- two neighbours of one name -/
def Dup (S : List Pr) : Prop := ∃ (j : Nat) (a b : Pr), S[j]? = some a ∧ S[j + 1]? = some b ∧ a.1 = b.1

open Classical in
/-- what Rec yields -/
noncomputable def recV (ns : List Str) (ps : List V) : V × Int :=
  if ns.length = ps.length then
    if Dup (ssort cP (ns.zip ps)) then (V.nil, 40) else (.mk 3 0 [] true ((ssort cP (ns.zip ps)).map Prod.fst) true ((ssort cP (ns.zip ps)).map Prod.snd), 0)
  else (V.nil, 1)

theorem recOk (z y : Bool) (ns : List Str) (ps : List V) (h1 : ns.length ≤ 1048576) (h2 : ps.length ≤ 1048576) (H : Hp) :
    ACall Tryd.prog 15 [.d (.sl z 1 (ns.map encS)), .d (.sl y 5 (ps.map V.enc))] H (fun r H' => r = .tup [(recV ns ps).1.a, .d (.int .i64 (recV ns ps).2)] ∧ H' = H) := by
  refine acall_fin Tryd.func15 cf15 (by simp [ir15]) fun hcl _ => ?_
  by_cases hl : ns.length = ps.length
  case neg =>
    have hl' : ¬ (ns.length : Int) = ps.length := by omega
    simp [ir15, hl, hl']
    simp [RetK, cut_app hcl, recV, hl, V.nil, V.a_mk]
  simp [ir15, hl]
  have hz : (ns.zip ps).length = ps.length := by simp [hl]
  refine LoopK_outR 0 (fun fr H' => fr 4 = .ptr H.length 0 ∧ fr 5 = .d (.int .i64 0) ∧ ((ns.zip ps = [] ∧ fr 6 = .d (.sl true 6 []) ∧ H' = H ++ [.box 30 (V.nil.enc.map .d)]) ∨
    (ns.zip ps ≠ [] ∧ ∃ k, fr 6 = .vsl (H.length + 1) k ps.length ∧ H' = H ++ [.box 30 (V.nil.enc.map .d), .vec 6 67 k ((ns.zip ps).map encP)]))) (fun _ _ => False) ?_ (fun _ _ h => h.elim) ?_
  · refine RangeK_of (H.length + 1) ps.length (fun i fr H' => fr 1 = .d (.sl y 5 (ps.map V.enc)) ∧ fr 4 = .ptr H.length 0 ∧ fr 5 = .d (.int .i64 0) ∧ fr 18 = .d (.sl z 1 (ns.map encS)) ∧
      ((i = 0 ∧ fr 6 = .d (.sl true 6 []) ∧ H' = H ++ [.box 30 (V.nil.enc.map .d)]) ∨ (0 < i ∧ ∃ k, fr 6 = .vsl (H.length + 1) k i ∧ H' = H ++ [.box 30 (V.nil.enc.map .d), .vec 6 67 k (((ns.zip ps).map encP).take i)]))) (by omega) (by decide) (by simp) (by simp [hl]) ?_ ?_ ?_
    · simp [cut_appk hcl, V.enc_nil]
    · rintro i fr H' hi f20 f19 ⟨f1, f4, f5, f18, hc⟩
      have hi' : i < ns.length := by omega
      have hiz : i < (ns.zip ps).length := by omega
      have ra := rowAt_map encS hi'
      have rb := rowAt_map V.enc hi
      have ht := take_map_succ encP hiz
      have hzi : (ns.zip ps)[i] = (ns[i], ps[i]) := by simp
      rw [hzi] at ht
      generalize ps[i] = p at rb ht
      cases p with | mk k' n' s' z' ns' y' ps' =>
      simp only [encS, V.enc_mk, encP] at ra rb ht
      rcases hc with ⟨h0, f6, rfl⟩ | ⟨hpos, k, f6, rfl⟩
      · simp [f20, f18, f1, f6, ra, rb]
        refine NextK_of (H.length + 2) (by omega) (by simp [f20, f19]) ?_
        subst h0
        simp [f1, f4, f5, f18, cut_appk hcl, V.enc_nil]
        simp at ht
        simpa [ht] using ⟨rfl, rfl⟩
      · simp [f20, f18, f1, f6, ra, rb]
        rw [if_pos (by omega)]
        simp
        refine NextK_of (H.length + 2) (by omega) (by simp [f20, f19]) ?_
        simp [f1, f4, f5, f18, cut_appk hcl, V.enc_nil, ht, List.take_take]
    · rintro fr H' f20 f19 ⟨f1, f4, f5, f18, hc⟩
      rcases hc with ⟨h0, f6, rfl⟩ | ⟨hpos, k, f6, rfl⟩
      · have : ns.zip ps = [] := List.eq_nil_of_length_eq_zero (by omega)
        simp [f4, f5, f6, this]
      · have hne : ns.zip ps ≠ [] := fun e => by rw [e] at hz; simp at hz; omega
        have hfull : ((ns.zip ps).map encP).take ps.length = (ns.zip ps).map encP := by rw [List.take_of_length_le (by simp [hl])]
        simp [f4, f5, f6, hne, hfull]
  rintro fr H' ⟨f4, f5, hc⟩
  rcases hc with ⟨h0, f6, rfl⟩ | ⟨hne, k, f6, rfl⟩
  · simp [f6]
    refine CallK_of' (sortStable0_acall (sz := 6) Tryd.func37 cf37 Tryd.func57 cf57 Tryd.func68 cf68 (fun m _ => by simp)) ?_
    simp [f4, f5, f6]
    refine LoopK_outR 2 (fun fr H' => fr 4 = .ptr H.length 0 ∧ fr 9 = .ptr (H.length + 3) 0 ∧ H' = H ++ [.box 30 (V.nil.enc.map .d), .tok 0 1 9, .tok 0 5 30, .box 30 [.d (.int .i64 3), .d (.int .i64 0), .d (.str []), .osl true 1 [] (H.length + 1), .osl true 5 [] (H.length + 2)]]) (fun _ _ => False) ?_ (fun _ _ h => h.elim) ?_
    · refine RangeK_of (H.length + 4) 0 (fun i fr H' => fr 4 = .ptr H.length 0 ∧ fr 9 = .ptr (H.length + 3) 0 ∧ H' = H ++ [.box 30 (V.nil.enc.map .d), .tok 0 1 9, .tok 0 5 30, .box 30 [.d (.int .i64 3), .d (.int .i64 0), .d (.str []), .osl true 1 [] (H.length + 1), .osl true 5 [] (H.length + 2)]]) (by omega) (by decide) (by simp) (by simp) ?_ ?_ ?_
      · simp [f4, cut_appk hcl, V.enc_nil]
      · rintro i fr H' hi
        omega
      · rintro fr H' f40 f39 ⟨f4, f9, rfl⟩
        simp [f4, f9]
    · rintro fr H' ⟨f4, f9, rfl⟩
      have hnd : ¬ Dup ([] : List Pr) := by rintro ⟨j, a, b, h, -⟩; simp at h
      simp [f4, f9, V.enc_nil]
      simp [RetK, cut_app hcl, recV, hl, h0, ssort, hnd, V.a_mk, f4]
  · have hS := sortVec (P := Tryd.prog) (e := 67) (k := k) (g := .d (.fn 38)) cP_cmp (L := ns.zip ps) (fun H i hi => sortP (by omega) H i hi) (H := H ++ [.box 30 (V.nil.enc.map .d), .vec 6 67 k ((ns.zip ps).map encP)]) (i := H.length + 1) (by simp) hne (fun m x hm hx => by
      by_cases h1 : m < H.length
      · rw [List.getElem?_append_left h1] at hx
        exact closed_off hcl (by omega) hx
      · have h2 : m = H.length := by
          have := (List.getElem?_eq_some_iff.1 hx).1
          simp at this; omega
        subst h2
        simp at hx
        subst hx
        simp [Ob.off, A.off, A.off0])
    rw [hz] at hS
    have hSl : (ssort cP (ns.zip ps)).length = ps.length := by rw [ssort_length cP_cmp, hz]
    generalize hSg : ssort cP (ns.zip ps) = S at hS hSl
    simp [f6]
    refine CallK_of' hS ?_
    simp [f4, f5, f6]
    refine LoopK_outR 2 (fun fr H' => fr 4 = .ptr H.length 0 ∧ fr 9 = .ptr (H.length + 4) 0 ∧ ¬ Dup S ∧ H' = H ++ [.box 30 (V.nil.enc.map .d), .vec 6 67 k (S.map encP), .tok ps.length 1 9, .tok ps.length 5 30,
        .box 30 [.d (.int .i64 3), .d (.int .i64 0), .d (.str []), .osl true 1 (S.map (encS ∘ Prod.fst)) (H.length + 2), .osl true 5 (S.map (V.enc ∘ Prod.snd)) (H.length + 3)]])
      (fun fr H' => Dup S ∧ fr 4 = .ptr H.length 0 ∧ fr 5 = .d (.int .i64 40) ∧ ∃ X, H' = H ++ Ob.box 30 (V.nil.enc.map .d) :: X) ?_ ?_ ?_
    · refine RangeK_of (H.length + 5) ps.length (fun i fr H' => fr 4 = .ptr H.length 0 ∧ fr 6 = .vsl (H.length + 1) k ps.length ∧ fr 38 = .vsl (H.length + 1) k ps.length ∧ fr 9 = .ptr (H.length + 4) 0 ∧
        (∀ (j : Nat) (a b : Pr), j + 1 < i → S[j]? = some a → S[j + 1]? = some b → a.1 ≠ b.1) ∧ H' = H ++ [.box 30 (V.nil.enc.map .d), .vec 6 67 k (S.map encP), .tok i 1 9, .tok i 5 30,
          .box 30 [.d (.int .i64 3), .d (.int .i64 0), .d (.str []), .osl true 1 ((S.map (encS ∘ Prod.fst)).take i) (H.length + 2), .osl true 5 ((S.map (V.enc ∘ Prod.snd)).take i) (H.length + 3)]]) (by omega) (by decide) (by simp) (by simp) ?_ ?_ ?_
      · simp [f4, f6, cut_appk hcl, V.enc_nil]
      · rintro i fr H' hi f40 f39 ⟨f4, f6, f38, f9, hnd, rfl⟩
        have hiS : i < S.length := by omega
        have ta := take_map_succ (encS ∘ Prod.fst) hiS
        have tb := take_map_succ (V.enc ∘ Prod.snd) hiS
        have hSi : S[i]? = some S[i] := List.getElem?_eq_getElem hiS
        generalize S[i] = p at ta tb hSi
        obtain ⟨nm, v⟩ := p
        cases v with | mk k' n' s' z' ns' y' ps' =>
        simp only [Function.comp_apply, encS, V.enc_mk] at ta tb
        have hm : min i S.length = i := by omega
        have hcap1 : (i + 1) * 16 ≤ 140737488355328 := by omega
        have hcap2 : (i + 1) * 80 ≤ 140737488355328 := by omega
        simp [f40, f38, hi, hSi, encP, V.enc_mk]
        refine GdK_split (by simp) (fun h => ?_) (fun h => ?_)
        · have hpos : 0 < i := by simpa using h
          have hw : IntKind.i64.wrap ((i : Int) - 1) = ((i - 1 : Nat) : Int) := by rw [wrap_i64 (by omega) (by omega)]; omega
          have hlt : i - 1 < ps.length := by omega
          have hSj : S[i - 1]? = some S[i - 1] := List.getElem?_eq_getElem (by omega)
          generalize S[i - 1] = q at hSj
          obtain ⟨nm2, v2⟩ := q
          cases v2 with | mk k2 n2 s2 z2 ns2 y2 ps2 =>
          simp [f6, hw, hlt, hSj, encP, V.enc_mk]
          refine BrK_split (fun h2 => ?_) (fun h2 => ?_)
          · simp at h2
            simp [f4, V.enc_nil]
            exact ⟨i - 1, _, _, hSj, by rw [show i - 1 + 1 = i by omega]; exact hSi, h2⟩
          · simp at h2
            simp [f9, f4, appA, hm, hcap1, hcap2]
            refine NextK_of (H.length + 5) (by omega) (by simp [f40, f39]) ?_
            simp [f4, f6, f38, f9, cut_appk hcl, V.enc_nil, ta, tb]
            intro j a v b v' hj ha hb hab
            by_cases hji : j + 1 = i
            · have : j = i - 1 := by omega
              subst this
              rw [hSj] at ha; rw [hji, hSi] at hb
              cases ha; cases hb
              exact h2 hab
            · exact hnd j _ _ (by omega) ha hb hab
        · have hi0 : i = 0 := by simpa using h
          simp [f9, f4, appA, hm, hcap1, hcap2]
          refine NextK_of (H.length + 5) (by omega) (by simp [f40, f39]) ?_
          simp [f4, f6, f38, f9, cut_appk hcl, V.enc_nil, ta, tb]
          intro j a v b v' hj
          omega
      · rintro fr H' f40 f39 ⟨f4, f6, f38, f9, hnd, rfl⟩
        have e1 : (S.map (encS ∘ Prod.fst)).take ps.length = S.map (encS ∘ Prod.fst) := by rw [List.take_of_length_le (by simp [hSl])]
        have e2 : (S.map (V.enc ∘ Prod.snd)).take ps.length = S.map (V.enc ∘ Prod.snd) := by rw [List.take_of_length_le (by simp [hSl])]
        simp [f4, f9, e1, e2]
        rintro ⟨j, a, b, ha, hb, hab⟩
        exact hnd j a b (by have := (List.getElem?_eq_some_iff.1 hb).1; omega) ha hb hab
    · rintro fr H' ⟨hD, f4, f5, X, rfl⟩
      simp [V.enc_nil]
      simp [RetK, cut_app hcl, recV, hl, hSg, hD, V.a_mk, f4, f5]
      simp [V.nil, V.a_mk]
    · rintro fr H' ⟨f4, f9, hnd, rfl⟩
      simp [f4, f9, V.enc_nil]
      simp [RetK, cut_app hcl, recV, hl, hSg, hnd, V.a_mk, f4]

end Go.Proofs.Zv
