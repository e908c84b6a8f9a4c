import Derived.Test.YtdpaolhcoahomaaZam28
import Derived.Test.YtdpaolhcoahomaaProg
import Derived.KernelRfl
namespace Go.Proofs.Zt
open Go Go.Zam Go.Proofs
set_option maxRecDepth 100000
/- whetstone/whetstonelaw02.EditSorts -/
def ir7 : IFn :=
 { nt := 93, res := [.t 2], body := (
  .seq (.ops [
    ⟨(some 2), none, .mv (.c (.bool false))⟩] false)
  (.seq (.seq (.ops [
     ⟨(some 10), none, .mv (.t 0)⟩,
     ⟨(some 11), none, .call 8 [(.c (.str [])), (.t 10)]⟩,
     ⟨(some 12), none, .un .not (.t 11)⟩] false)
   (.cond (.t 12) (.seq (.ops [
      ⟨(some 13), none, .call 9 []⟩,
      ⟨(some 2), none, .mv (.t 13)⟩] false)
    (.ret))
   (.skip)))
  (.seq (.ops [
    ⟨(some 14), none, .mv (.t 0)⟩,
    ⟨(some 15), none, .call 17 [(.t 14)]⟩,
    ⟨(some 3), none, .mv (.t 15)⟩] false)
  (.seq (.ops [
    ⟨(some 16), none, .mv (.t 0)⟩,
    ⟨(some 17), none, .lenL (.t 16)⟩,
    ⟨(some 18), none, .mkSl 1 1 [(.bool false)] (.t 17) (.t 17)⟩,
    ⟨(some 4), none, .mv (.t 18)⟩] false)
  (.seq (.seq (.ops [
     ⟨(some 19), none, .mv (.t 3)⟩,
     ⟨(some 20), none, .lenL (.t 19)⟩,
     ⟨(some 21), none, .mv (.c (.int .i64 0))⟩] false)
   (.blk 0 (.loop (.seq (.ops [
       ⟨(some 22), none, .bin .lss (.t 21) (.t 20)⟩] false)
     (.seq (.cond (.t 22) (.skip)
      (.exit 0))
     (.seq (.blk 1 (.seq (.ops [
         ⟨(some 23), none, .mv (.t 21)⟩,
         ⟨(some 24), none, .iaddr 3 (.t 19) (.t 21)⟩,
         ⟨(some 25), none, .load 3 true (.t 24)⟩,
         ⟨(some 6), none, .alloc 41 [(.int .i64 0), (.int .i64 0), (.str [])]⟩,
         ⟨(some 5), none, .mv (.t 23)⟩,
         ⟨none, none, .store 3 (.t 6) (.t 25)⟩] false)
       (.seq (.seq (.ops [
          ⟨(some 26), none, .mv (.t 5)⟩,
          ⟨(some 27), none, .bin .gtr (.t 26) (.c (.int .i64 0))⟩,
          ⟨(some 28), none, .mv (.t 27)⟩,
          ⟨(some 29), (some (28, true)), .mv (.t 3)⟩,
          ⟨(some 30), (some (28, true)), .mv (.t 5)⟩,
          ⟨(some 31), (some (28, true)), .bin .sub (.t 30) (.c (.int .i64 1))⟩,
          ⟨(some 32), (some (28, true)), .iaddr 3 (.t 29) (.t 31)⟩,
          ⟨(some 33), (some (28, true)), .faddr 0 (.t 32)⟩,
          ⟨(some 34), (some (28, true)), .load 1 false (.t 33)⟩,
          ⟨(some 35), (some (28, true)), .faddr 0 (.t 6)⟩,
          ⟨(some 36), (some (28, true)), .load 1 false (.t 35)⟩,
          ⟨(some 37), (some (28, true)), .bin .gtr (.t 34) (.t 36)⟩,
          ⟨(some 38), (some (28, true)), .mv (.t 37)⟩,
          ⟨(some 39), (some (38, false)), .mv (.t 3)⟩,
          ⟨(some 40), (some (38, false)), .mv (.t 5)⟩,
          ⟨(some 41), (some (38, false)), .bin .sub (.t 40) (.c (.int .i64 1))⟩,
          ⟨(some 42), (some (38, false)), .iaddr 3 (.t 39) (.t 41)⟩,
          ⟨(some 43), (some (38, false)), .faddr 0 (.t 42)⟩,
          ⟨(some 44), (some (38, false)), .load 1 false (.t 43)⟩,
          ⟨(some 45), (some (38, false)), .faddr 0 (.t 6)⟩,
          ⟨(some 46), (some (38, false)), .load 1 false (.t 45)⟩,
          ⟨(some 47), (some (38, false)), .bin .eql (.t 44) (.t 46)⟩,
          ⟨(some 48), (some (38, false)), .mv (.t 47)⟩,
          ⟨(some 49), (some (48, true)), .mv (.t 3)⟩,
          ⟨(some 50), (some (48, true)), .mv (.t 5)⟩,
          ⟨(some 51), (some (48, true)), .bin .sub (.t 50) (.c (.int .i64 1))⟩,
          ⟨(some 52), (some (48, true)), .iaddr 3 (.t 49) (.t 51)⟩,
          ⟨(some 53), (some (48, true)), .faddr 1 (.t 52)⟩,
          ⟨(some 54), (some (48, true)), .load 1 false (.t 53)⟩,
          ⟨(some 55), (some (48, true)), .faddr 1 (.t 6)⟩,
          ⟨(some 56), (some (48, true)), .load 1 false (.t 55)⟩,
          ⟨(some 57), (some (48, true)), .bin .gtr (.t 54) (.t 56)⟩,
          ⟨(some 58), (some (38, false)), .pick (.t 48) (.t 57) (.c (.bool false))⟩,
          ⟨(some 59), (some (28, true)), .pick (.t 38) (.c (.bool true)) (.t 58)⟩,
          ⟨(some 60), none, .pick (.t 28) (.t 59) (.c (.bool false))⟩] true)
        (.cond (.t 60) (.seq (.ops [
           ⟨(some 2), none, .mv (.c (.bool false))⟩] false)
         (.ret))
        (.skip)))
       (.seq (.ops [
         ⟨(some 7), none, .mv (.c (.bool false))⟩] false)
       (.seq (.seq (.ops [
          ⟨(some 61), none, .mv (.t 0)⟩,
          ⟨(some 62), none, .lenL (.t 61)⟩,
          ⟨(some 63), none, .mv (.c (.int .i64 0))⟩] false)
        (.blk 2 (.loop (.seq (.ops [
            ⟨(some 64), none, .bin .lss (.t 63) (.t 62)⟩] false)
          (.seq (.cond (.t 64) (.skip)
           (.exit 2))
          (.seq (.blk 3 (.seq (.ops [
              ⟨(some 65), none, .mv (.t 63)⟩,
              ⟨(some 66), none, .iaddr 3 (.t 61) (.t 63)⟩,
              ⟨(some 67), none, .load 3 true (.t 66)⟩,
              ⟨(some 9), none, .alloc 41 [(.int .i64 0), (.int .i64 0), (.str [])]⟩,
              ⟨(some 8), none, .mv (.t 65)⟩,
              ⟨none, none, .store 3 (.t 9) (.t 67)⟩] false)
            (.seq (.ops [
              ⟨(some 68), none, .mv (.t 4)⟩,
              ⟨(some 69), none, .mv (.t 8)⟩,
              ⟨(some 70), none, .iaddr 1 (.t 68) (.t 69)⟩,
              ⟨(some 71), none, .load 1 false (.t 70)⟩,
              ⟨(some 72), none, .un .not (.t 71)⟩,
              ⟨(some 73), none, .mv (.t 72)⟩,
              ⟨(some 74), (some (73, true)), .load 3 true (.t 6)⟩,
              ⟨(some 75), (some (73, true)), .load 3 true (.t 9)⟩,
              ⟨(some 76), (some (73, true)), .eqA false [(.int .i64 0), (.int .i64 0), (.str [])] (.t 74) (.t 75)⟩,
              ⟨(some 77), none, .pick (.t 73) (.t 76) (.c (.bool false))⟩] false)
            (.cond (.t 77) (.seq (.ops [
               ⟨(some 78), none, .mv (.t 4)⟩,
               ⟨(some 79), none, .mv (.t 8)⟩,
               ⟨(some 80), none, .iaddr 1 (.t 78) (.t 79)⟩,
               ⟨none, none, .store 1 (.t 80) (.c (.bool true))⟩,
               ⟨(some 7), none, .mv (.c (.bool true))⟩] false)
             (.exit 2))
            (.skip)))))
          (.ops [
           ⟨(some 81), none, .bin .add (.t 63) (.c (.int .i64 1))⟩,
           ⟨(some 63), none, .mv (.t 81)⟩] false)))))))
       (.seq (.ops [
         ⟨(some 82), none, .mv (.t 7)⟩,
         ⟨(some 83), none, .un .not (.t 82)⟩] false)
       (.cond (.t 83) (.seq (.ops [
          ⟨(some 2), none, .mv (.c (.bool false))⟩] false)
        (.ret))
       (.skip))))))))
     (.ops [
      ⟨(some 84), none, .bin .add (.t 21) (.c (.int .i64 1))⟩,
      ⟨(some 21), none, .mv (.t 84)⟩] false)))))))
  (.seq (.ops [
    ⟨(some 85), none, .call 9 []⟩,
    ⟨(some 86), none, .mv (.t 85)⟩,
    ⟨(some 87), (some (86, true)), .mv (.t 3)⟩,
    ⟨(some 88), (some (86, true)), .lenL (.t 87)⟩,
    ⟨(some 89), (some (86, true)), .mv (.t 0)⟩,
    ⟨(some 90), (some (86, true)), .lenL (.t 89)⟩,
    ⟨(some 91), (some (86, true)), .bin .eql (.t 88) (.t 90)⟩,
    ⟨(some 92), none, .pick (.t 86) (.t 91) (.c (.bool false))⟩,
    ⟨(some 2), none, .mv (.t 92)⟩] false)
  (.ret))))))) }
theorem cf7 : compF Try.prog [] Try.f7 = some ir7 := by kernel_rfl
/- whetstone/edit.Sort -/
def ir17 : IFn :=
 { nt := 9, res := [.t 2], body := (
  .seq (.ops [
    ⟨(some 2), none, .mv (.c (.sl true 3 []))⟩] false)
  (.seq (.ops [
    ⟨(some 4), none, .mv (.t 0)⟩,
    ⟨(some 5), none, .call 23 [(.t 4)]⟩,
    ⟨(some 3), none, .mv (.t 5)⟩] false)
  (.seq (.ops [
    ⟨(some 6), none, .mv (.t 3)⟩,
    ⟨(some 7), none, .call 24 [(.t 6), (.c (.fn 25))]⟩] false)
  (.seq (.ops [
    ⟨(some 8), none, .mv (.t 3)⟩,
    ⟨(some 2), none, .mv (.t 8)⟩] false)
  (.ret))))) }
theorem cf17 : compF Try.prog [] Try.f17 = some ir17 := by kernel_rfl
/- whetstone/edit.Sort$1 -/
def ir25 : IFn :=
 { nt := 17, res := [.t 4], body := (
  .seq (.ops [
    ⟨(some 2), none, .box 41 3 (.t 0)⟩,
    ⟨(some 3), none, .box 41 3 (.t 1)⟩,
    ⟨(some 4), none, .mv (.c (.int .i64 0))⟩] false)
  (.seq (.ops [
    ⟨(some 5), none, .faddr 0 (.t 2)⟩,
    ⟨(some 6), none, .load 1 false (.t 5)⟩,
    ⟨(some 7), none, .faddr 0 (.t 3)⟩,
    ⟨(some 8), none, .load 1 false (.t 7)⟩,
    ⟨(some 9), none, .call 27 [(.t 6), (.t 8)]⟩,
    ⟨(some 10), none, .faddr 1 (.t 2)⟩,
    ⟨(some 11), none, .load 1 false (.t 10)⟩,
    ⟨(some 12), none, .faddr 1 (.t 3)⟩,
    ⟨(some 13), none, .load 1 false (.t 12)⟩,
    ⟨(some 14), none, .call 27 [(.t 11), (.t 13)]⟩,
    ⟨(some 15), none, .bslice 1 [(.t 9), (.t 14)]⟩,
    ⟨(some 16), none, .call 26 [(.t 15)]⟩,
    ⟨(some 4), none, .mv (.t 16)⟩] true)
  (.ret))) }
theorem cf25 : compF Try.prog [] Try.f25 = some ir25 := by kernel_rfl
theorem cf23 : compF Try.prog [1000005] Try.f23 = some (irCloneM 3 32 41) := by kernel_rfl
theorem cf24 : compF Try.prog [] Try.f24 = some (irSortStable 32) := by kernel_rfl
theorem cf26 : compF Try.prog [] Try.f26 = some (irOrInt) := by kernel_rfl
theorem cf27 : compF Try.prog [] Try.f27 = some (irCompare 33) := by kernel_rfl
theorem cf32 : compF Try.prog [] Try.f32 = some (irStable 35 36) := by kernel_rfl
theorem cf33 : compF Try.prog [] Try.f33 = some (irIsNaN) := by kernel_rfl
theorem cf35 : compF Try.prog [] Try.f35 = some (irInsertion 3) := by kernel_rfl
theorem cf36 : compF Try.prog [] Try.f36 = some (irSymMerge 3 37 36) := by kernel_rfl
theorem cf37 : compF Try.prog [] Try.f37 = some (irRotate 38) := by kernel_rfl
theorem cf38 : compF Try.prog [] Try.f38 = some (irSwapRange 3) := by kernel_rfl
end Go.Proofs.Zt
