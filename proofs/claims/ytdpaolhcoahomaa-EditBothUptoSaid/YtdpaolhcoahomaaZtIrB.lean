import Derived.Test.YtdpaolhcoahomaaZam16
import Derived.Test.YtdpaolhcoahomaaProg
import Derived.KernelRfl
namespace Go.Proofs.Zt
open Go Go.Zam Go.Proofs
set_option maxRecDepth 100000
/- whetstone/whetstonelaw02.EditBack -/
def ir4 : IFn :=
 { nt := 80, res := [.t 4], body := (
  .seq (.ops [
    ⟨(some 4), none, .mv (.c (.bool false))⟩] false)
  (.seq (.seq (.ops [
     ⟨(some 11), none, .mv (.t 0)⟩,
     ⟨(some 12), none, .mv (.t 1)⟩,
     ⟨(some 13), none, .call 8 [(.t 11), (.t 12)]⟩,
     ⟨(some 14), none, .un .not (.t 13)⟩] false)
   (.cond (.t 14) (.seq (.ops [
      ⟨(some 15), none, .call 9 []⟩,
      ⟨(some 4), none, .mv (.t 15)⟩] false)
    (.ret))
   (.skip)))
  (.seq (.ops [
    ⟨(some 17), none, .mv (.t 0)⟩,
    ⟨(some 18), none, .mv (.t 1)⟩,
    ⟨(some 19), none, .call 10 [(.t 17), (.t 18)]⟩,
    ⟨(some 16), none, .mv (.t 19)⟩,
    ⟨(some 20), none, .ext (.t 16) 0⟩,
    ⟨(some 21), none, .ext (.t 16) 1⟩,
    ⟨(some 5), none, .mv (.t 20)⟩,
    ⟨(some 6), none, .mv (.t 21)⟩] false)
  (.seq (.ops [
    ⟨(some 23), none, .mv (.t 0)⟩,
    ⟨(some 24), none, .mv (.t 1)⟩,
    ⟨(some 25), none, .call 14 [(.t 23), (.t 24)]⟩,
    ⟨(some 22), none, .mv (.t 25)⟩,
    ⟨(some 26), none, .ext (.t 22) 0⟩,
    ⟨(some 27), none, .ext (.t 22) 1⟩,
    ⟨(some 7), none, .mv (.t 26)⟩,
    ⟨(some 8), none, .mv (.t 27)⟩] false)
  (.seq (.seq (.ops [
     ⟨(some 28), none, .mv (.t 6)⟩,
     ⟨(some 29), none, .mv (.t 8)⟩,
     ⟨(some 30), none, .bin .neq (.t 28) (.t 29)⟩] false)
   (.cond (.t 30) (.seq (.ops [
      ⟨(some 4), none, .mv (.c (.bool false))⟩] false)
    (.ret))
   (.skip)))
  (.seq (.seq (.ops [
     ⟨(some 31), none, .mv (.t 6)⟩,
     ⟨(some 32), none, .bin .neq (.t 31) (.c (.int .i64 0))⟩] false)
   (.cond (.t 32) (.seq (.ops [
      ⟨(some 33), none, .call 9 []⟩,
      ⟨(some 34), none, .mv (.t 33)⟩,
      ⟨(some 35), (some (34, true)), .mv (.t 7)⟩,
      ⟨(some 36), (some (34, true)), .lenL (.t 35)⟩,
      ⟨(some 37), (some (34, true)), .bin .eql (.t 36) (.c (.int .i64 0))⟩,
      ⟨(some 38), none, .pick (.t 34) (.t 37) (.c (.bool false))⟩,
      ⟨(some 39), none, .mv (.t 38)⟩,
      ⟨(some 40), (some (39, true)), .mv (.t 6)⟩,
      ⟨(some 41), (some (39, true)), .mv (.t 1)⟩,
      ⟨(some 42), (some (39, true)), .mv (.t 0)⟩,
      ⟨(some 43), (some (39, true)), .lenS (.t 42)⟩,
      ⟨(some 44), (some (39, true)), .call 13 [(.t 41), (.t 43)]⟩,
      ⟨(some 45), (some (39, true)), .bin .eql (.t 40) (.t 44)⟩,
      ⟨(some 46), none, .pick (.t 39) (.t 45) (.c (.bool false))⟩,
      ⟨(some 4), none, .mv (.t 46)⟩] false)
    (.ret))
   (.skip)))
  (.seq (.ops [
    ⟨(some 48), none, .mv (.t 5)⟩,
    ⟨(some 49), none, .mv (.t 7)⟩,
    ⟨(some 50), none, .call 10 [(.t 48), (.t 49)]⟩,
    ⟨(some 47), none, .mv (.t 50)⟩,
    ⟨(some 51), none, .ext (.t 47) 0⟩,
    ⟨(some 52), none, .ext (.t 47) 1⟩,
    ⟨(some 9), none, .mv (.t 51)⟩,
    ⟨(some 10), none, .mv (.t 52)⟩] false)
  (.seq (.ops [
    ⟨(some 53), none, .call 9 []⟩,
    ⟨(some 54), none, .mv (.t 53)⟩,
    ⟨(some 55), (some (54, true)), .mv (.t 10)⟩,
    ⟨(some 56), (some (54, true)), .bin .eql (.t 55) (.c (.int .i64 0))⟩,
    ⟨(some 57), none, .pick (.t 54) (.t 56) (.c (.bool false))⟩,
    ⟨(some 58), none, .mv (.t 57)⟩,
    ⟨(some 59), (some (58, true)), .mv (.t 9)⟩,
    ⟨(some 60), (some (58, true)), .mv (.t 0)⟩,
    ⟨(some 61), (some (58, true)), .bin .eql (.t 59) (.t 60)⟩,
    ⟨(some 62), none, .pick (.t 58) (.t 61) (.c (.bool false))⟩,
    ⟨(some 63), none, .mv (.t 62)⟩,
    ⟨(some 64), (some (63, true)), .mv (.t 7)⟩,
    ⟨(some 65), (some (63, true)), .lenL (.t 64)⟩,
    ⟨(some 66), (some (63, true)), .mv (.t 1)⟩,
    ⟨(some 67), (some (63, true)), .lenL (.t 66)⟩,
    ⟨(some 68), (some (63, true)), .bin .eql (.t 65) (.t 67)⟩,
    ⟨(some 69), none, .pick (.t 63) (.t 68) (.c (.bool false))⟩,
    ⟨(some 70), none, .mv (.t 69)⟩,
    ⟨(some 71), (some (70, true)), .mv (.t 1)⟩,
    ⟨(some 72), (some (70, true)), .call 15 [(.t 71)]⟩,
    ⟨(some 73), (some (70, true)), .mv (.t 5)⟩,
    ⟨(some 74), (some (70, true)), .lenS (.t 73)⟩,
    ⟨(some 75), (some (70, true)), .mv (.t 0)⟩,
    ⟨(some 76), (some (70, true)), .lenS (.t 75)⟩,
    ⟨(some 77), (some (70, true)), .bin .sub (.t 74) (.t 76)⟩,
    ⟨(some 78), (some (70, true)), .bin .eql (.t 72) (.t 77)⟩,
    ⟨(some 79), none, .pick (.t 70) (.t 78) (.c (.bool false))⟩,
    ⟨(some 4), none, .mv (.t 79)⟩] false)
  (.ret))))))))) }
theorem cf4 : compF Try.prog [] Try.f4 = some ir4 := by kernel_rfl
/- whetstone/edit.Invert -/
def ir14 : IFn :=
 { nt := 58, res := [.t 4, .t 5], body := (
  .seq (.ops [
    ⟨(some 4), none, .mv (.c (.sl true 3 []))⟩,
    ⟨(some 5), none, .mv (.c (.int .i64 0))⟩] false)
  (.seq (.seq (.ops [
     ⟨(some 12), none, .mv (.t 1)⟩,
     ⟨(some 13), none, .mv (.t 0)⟩,
     ⟨(some 14), none, .lenS (.t 13)⟩,
     ⟨(some 15), none, .call 12 [(.t 12), (.t 14)]⟩,
     ⟨(some 6), none, .mv (.t 15)⟩] false)
   (.seq (.ops [
     ⟨(some 16), none, .mv (.t 6)⟩,
     ⟨(some 17), none, .bin .neq (.t 16) (.c (.int .i64 0))⟩] false)
   (.cond (.t 17) (.seq (.ops [
      ⟨(some 18), none, .mv (.t 6)⟩,
      ⟨(some 4), none, .mv (.c (.sl true 3 []))⟩,
      ⟨(some 5), none, .mv (.t 18)⟩] false)
    (.ret))
   (.skip))))
  (.seq (.ops [
    ⟨(some 7), none, .nilT 3 41⟩] false)
  (.seq (.ops [
    ⟨(some 8), none, .mv (.c (.int .i64 0))⟩] false)
  (.seq (.seq (.ops [
     ⟨(some 19), none, .mv (.t 1)⟩,
     ⟨(some 20), none, .lenL (.t 19)⟩,
     ⟨(some 21), none, .mv (.c (.int .i64 0))⟩] false)
   (.blk 0 (.loop (.seq (.ops [
       ⟨(some 22), none, .bin .lss (.t 21) (.t 20)⟩] false)
     (.seq (.cond (.t 22) (.skip)
      (.exit 0))
     (.seq (.blk 1 (.seq (.ops [
         ⟨(some 23), none, .iaddr 3 (.t 19) (.t 21)⟩,
         ⟨(some 24), none, .load 3 true (.t 23)⟩,
         ⟨(some 10), none, .alloc 41 [(.int .i64 0), (.int .i64 0), (.str [])]⟩,
         ⟨none, none, .store 3 (.t 10) (.t 24)⟩] false)
       (.seq (.ops [
         ⟨(some 25), none, .faddr 0 (.t 10)⟩,
         ⟨(some 26), none, .load 1 false (.t 25)⟩,
         ⟨(some 27), none, .mv (.t 8)⟩,
         ⟨(some 28), none, .bin .add (.t 26) (.t 27)⟩,
         ⟨(some 11), none, .mv (.t 28)⟩] false)
       (.seq (.ops [
         ⟨(some 29), none, .mv (.t 7)⟩,
         ⟨(some 30), none, .mv (.t 11)⟩,
         ⟨(some 31), none, .mv (.t 11)⟩,
         ⟨(some 32), none, .faddr 2 (.t 10)⟩,
         ⟨(some 33), none, .load 1 false (.t 32)⟩,
         ⟨(some 34), none, .lenS (.t 33)⟩,
         ⟨(some 35), none, .bin .add (.t 31) (.t 34)⟩,
         ⟨(some 36), none, .mv (.t 0)⟩,
         ⟨(some 37), none, .faddr 0 (.t 10)⟩,
         ⟨(some 38), none, .load 1 false (.t 37)⟩,
         ⟨(some 39), none, .faddr 1 (.t 10)⟩,
         ⟨(some 40), none, .load 1 false (.t 39)⟩,
         ⟨(some 41), none, .sslice (.t 36) (some (.t 38)) (some (.t 40))⟩,
         ⟨(some 42), none, .build [(.int .i64 0), (.int .i64 0), (.str [])] [(0, 1, (.t 30)), (1, 1, (.t 35)), (2, 1, (.t 41))]⟩,
         ⟨(some 43), none, .bslice 3 [(.t 42)]⟩,
         ⟨(some 44), none, .app 3 32 41 (.t 29) (.t 43)⟩,
         ⟨(some 7), none, .mv (.t 44)⟩] true)
       (.ops [
        ⟨(some 45), none, .mv (.t 8)⟩,
        ⟨(some 46), none, .faddr 2 (.t 10)⟩,
        ⟨(some 47), none, .load 1 false (.t 46)⟩,
        ⟨(some 48), none, .lenS (.t 47)⟩,
        ⟨(some 49), none, .faddr 1 (.t 10)⟩,
        ⟨(some 50), none, .load 1 false (.t 49)⟩,
        ⟨(some 51), none, .faddr 0 (.t 10)⟩,
        ⟨(some 52), none, .load 1 false (.t 51)⟩,
        ⟨(some 53), none, .bin .sub (.t 50) (.t 52)⟩,
        ⟨(some 54), none, .bin .sub (.t 48) (.t 53)⟩,
        ⟨(some 55), none, .bin .add (.t 45) (.t 54)⟩,
        ⟨(some 8), none, .mv (.t 55)⟩] false)))))
     (.ops [
      ⟨(some 56), none, .bin .add (.t 21) (.c (.int .i64 1))⟩,
      ⟨(some 21), none, .mv (.t 56)⟩] false)))))))
  (.seq (.ops [
    ⟨(some 57), none, .mv (.t 7)⟩,
    ⟨(some 4), none, .mv (.t 57)⟩,
    ⟨(some 5), none, .mv (.c (.int .i64 0))⟩] false)
  (.ret))))))) }
theorem cf14 : compF Try.prog [7] Try.f14 = some ir14 := by kernel_rfl
/- whetstone/edit.Grows -/
def ir15 : IFn :=
 { nt := 25, res := [.t 2], body := (
  .seq (.ops [
    ⟨(some 2), none, .mv (.c (.int .i64 0))⟩] false)
  (.seq (.ops [
    ⟨(some 3), none, .mv (.c (.int .i64 0))⟩] false)
  (.seq (.seq (.ops [
     ⟨(some 6), none, .mv (.t 0)⟩,
     ⟨(some 7), none, .lenL (.t 6)⟩,
     ⟨(some 8), none, .mv (.c (.int .i64 0))⟩] false)
   (.blk 0 (.loop (.seq (.ops [
       ⟨(some 9), none, .bin .lss (.t 8) (.t 7)⟩] false)
     (.seq (.cond (.t 9) (.skip)
      (.exit 0))
     (.seq (.blk 1 (.seq (.ops [
         ⟨(some 10), none, .iaddr 3 (.t 6) (.t 8)⟩,
         ⟨(some 11), none, .load 3 true (.t 10)⟩,
         ⟨(some 5), none, .alloc 41 [(.int .i64 0), (.int .i64 0), (.str [])]⟩,
         ⟨none, none, .store 3 (.t 5) (.t 11)⟩] false)
       (.ops [
        ⟨(some 12), none, .mv (.t 3)⟩,
        ⟨(some 13), none, .faddr 2 (.t 5)⟩,
        ⟨(some 14), none, .load 1 false (.t 13)⟩,
        ⟨(some 15), none, .lenS (.t 14)⟩,
        ⟨(some 16), none, .faddr 1 (.t 5)⟩,
        ⟨(some 17), none, .load 1 false (.t 16)⟩,
        ⟨(some 18), none, .faddr 0 (.t 5)⟩,
        ⟨(some 19), none, .load 1 false (.t 18)⟩,
        ⟨(some 20), none, .bin .sub (.t 17) (.t 19)⟩,
        ⟨(some 21), none, .bin .sub (.t 15) (.t 20)⟩,
        ⟨(some 22), none, .bin .add (.t 12) (.t 21)⟩,
        ⟨(some 3), none, .mv (.t 22)⟩] false)))
     (.ops [
      ⟨(some 23), none, .bin .add (.t 8) (.c (.int .i64 1))⟩,
      ⟨(some 8), none, .mv (.t 23)⟩] false)))))))
  (.seq (.ops [
    ⟨(some 24), none, .mv (.t 3)⟩,
    ⟨(some 2), none, .mv (.t 24)⟩] false)
  (.ret))))) }
theorem cf15 : compF Try.prog [] Try.f15 = some ir15 := by kernel_rfl
end Go.Proofs.Zt
