import Derived.Test.YtjpdjaglggcbkaaZam16
import Derived.Test.YtjpdjaglggcbkaaProg
import Derived.KernelRfl
namespace Go.Proofs.Zh
open Go Go.Zam Go.Proofs
set_option maxRecDepth 100000
/- whetstone/whetstonelaw31.HistoryBack -/
def ir3b : C :=
  (.seq (.ops [
    ⟨(some 59), none, .mv (.t 5)⟩,
    ⟨(some 60), none, .call 9 [(.t 59)]⟩,
    ⟨(some 11), none, .mv (.t 60)⟩] false)
  (.seq (.seq (.ops [
     ⟨(some 61), none, .mv (.t 8)⟩,
     ⟨(some 62), none, .mv (.c (.int .i64 0))⟩] false)
   (.blk 2 (.loop (.seq (.ops [
       ⟨(some 63), none, .bin .lss (.t 62) (.t 61)⟩] false)
     (.seq (.cond (.t 63) (.skip)
      (.exit 2))
     (.seq (.blk 3 (.seq (.ops [
         ⟨(some 65), none, .mv (.t 5)⟩,
         ⟨(some 66), none, .call 12 [(.t 65)]⟩,
         ⟨(some 64), none, .mv (.t 66)⟩,
         ⟨(some 67), none, .ext (.t 64) 0⟩,
         ⟨(some 68), none, .ext (.t 64) 1⟩,
         ⟨(some 12), none, .mv (.t 67)⟩,
         ⟨(some 13), none, .mv (.t 68)⟩] false)
       (.seq (.ops [
         ⟨(some 69), none, .mv (.t 13)⟩,
         ⟨(some 70), none, .bin .neq (.t 69) (.c (.int .i64 0))⟩] false)
       (.cond (.t 70) (.seq (.ops [
          ⟨(some 4), none, .mv (.c (.bool false))⟩] false)
        (.ret))
       (.skip)))))
     (.ops [
      ⟨(some 71), none, .bin .add (.t 62) (.c (.int .i64 1))⟩,
      ⟨(some 62), none, .mv (.t 71)⟩] false)))))))
  (.seq (.ops [
    ⟨(some 72), none, .mv (.t 5)⟩,
    ⟨(some 73), none, .call 9 [(.t 72)]⟩,
    ⟨(some 14), none, .mv (.t 73)⟩] false)
  (.seq (.ops [
    ⟨(some 75), none, .mv (.t 5)⟩,
    ⟨(some 76), none, .call 12 [(.t 75)]⟩,
    ⟨(some 74), none, .mv (.t 76)⟩,
    ⟨(some 77), none, .ext (.t 74) 0⟩,
    ⟨(some 78), none, .ext (.t 74) 1⟩,
    ⟨(some 15), none, .mv (.t 77)⟩,
    ⟨(some 16), none, .mv (.t 78)⟩] false)
  (.seq (.seq (.ops [
     ⟨(some 79), none, .mv (.t 8)⟩,
     ⟨(some 80), none, .mv (.c (.int .i64 0))⟩] false)
   (.blk 4 (.loop (.seq (.ops [
       ⟨(some 81), none, .bin .lss (.t 80) (.t 79)⟩] false)
     (.seq (.cond (.t 81) (.skip)
      (.exit 4))
     (.seq (.blk 5 (.seq (.ops [
         ⟨(some 83), none, .mv (.t 5)⟩,
         ⟨(some 84), none, .call 13 [(.t 83)]⟩,
         ⟨(some 82), none, .mv (.t 84)⟩,
         ⟨(some 85), none, .ext (.t 82) 0⟩,
         ⟨(some 86), none, .ext (.t 82) 1⟩,
         ⟨(some 17), none, .mv (.t 85)⟩,
         ⟨(some 18), none, .mv (.t 86)⟩] false)
       (.seq (.ops [
         ⟨(some 87), none, .mv (.t 18)⟩,
         ⟨(some 88), none, .bin .neq (.t 87) (.c (.int .i64 0))⟩] false)
       (.cond (.t 88) (.seq (.ops [
          ⟨(some 4), none, .mv (.c (.bool false))⟩] false)
        (.ret))
       (.skip)))))
     (.ops [
      ⟨(some 89), none, .bin .add (.t 80) (.c (.int .i64 1))⟩,
      ⟨(some 80), none, .mv (.t 89)⟩] false)))))))
  (.seq (.ops [
    ⟨(some 91), none, .mv (.t 5)⟩,
    ⟨(some 92), none, .call 13 [(.t 91)]⟩,
    ⟨(some 90), none, .mv (.t 92)⟩,
    ⟨(some 93), none, .ext (.t 90) 0⟩,
    ⟨(some 94), none, .ext (.t 90) 1⟩,
    ⟨(some 19), none, .mv (.t 93)⟩,
    ⟨(some 20), none, .mv (.t 94)⟩] false)
  (.seq (.ops [
    ⟨(some 95), none, .call 7 []⟩,
    ⟨(some 96), none, .mv (.t 95)⟩,
    ⟨(some 97), (some (96, true)), .mv (.t 16)⟩,
    ⟨(some 98), (some (96, true)), .bin .eql (.t 97) (.c (.int .i64 3))⟩,
    ⟨(some 99), none, .pick (.t 96) (.t 98) (.c (.bool false))⟩,
    ⟨(some 100), none, .mv (.t 99)⟩,
    ⟨(some 101), (some (100, true)), .mv (.t 20)⟩,
    ⟨(some 102), (some (100, true)), .bin .eql (.t 101) (.c (.int .i64 3))⟩,
    ⟨(some 103), none, .pick (.t 100) (.t 102) (.c (.bool false))⟩,
    ⟨(some 104), none, .mv (.t 103)⟩,
    ⟨(some 105), (some (104, true)), .mv (.t 14)⟩,
    ⟨(some 106), (some (104, true)), .mv (.t 7)⟩,
    ⟨(some 107), (some (104, true)), .call 14 [(.t 105), (.t 106)]⟩,
    ⟨(some 108), none, .pick (.t 104) (.t 107) (.c (.bool false))⟩,
    ⟨(some 109), none, .mv (.t 108)⟩,
    ⟨(some 110), (some (109, true)), .mv (.t 5)⟩,
    ⟨(some 111), (some (109, true)), .call 9 [(.t 110)]⟩,
    ⟨(some 112), (some (109, true)), .mv (.t 11)⟩,
    ⟨(some 113), (some (109, true)), .call 14 [(.t 111), (.t 112)]⟩,
    ⟨(some 114), none, .pick (.t 109) (.t 113) (.c (.bool false))⟩,
    ⟨(some 4), none, .mv (.t 114)⟩] false)
  (.ret))))))))
def ir3 : IFn :=
 { nt := 115, res := [.t 4], body := (
  .seq (.ops [
    ⟨(some 4), none, .mv (.c (.bool false))⟩] false)
  (.seq (.seq (.ops [
     ⟨(some 21), none, .mv (.t 0)⟩,
     ⟨(some 22), none, .call 6 [(.t 21), (.c (.int .i64 500))]⟩,
     ⟨(some 23), none, .un .not (.t 22)⟩] false)
   (.cond (.t 23) (.seq (.ops [
      ⟨(some 24), none, .call 7 []⟩,
      ⟨(some 4), none, .mv (.t 24)⟩] false)
    (.ret))
   (.skip)))
  (.seq (.ops [
    ⟨(some 26), none, .mv (.t 0)⟩,
    ⟨(some 27), none, .call 8 [(.t 26)]⟩,
    ⟨(some 25), none, .mv (.t 27)⟩,
    ⟨(some 28), none, .ext (.t 25) 0⟩,
    ⟨(some 29), none, .ext (.t 25) 1⟩,
    ⟨(some 5), none, .mv (.t 28)⟩,
    ⟨(some 6), none, .mv (.t 29)⟩] false)
  (.seq (.seq (.ops [
     ⟨(some 30), none, .mv (.t 6)⟩,
     ⟨(some 31), none, .bin .neq (.t 30) (.c (.int .i64 0))⟩] false)
   (.cond (.t 31) (.seq (.ops [
      ⟨(some 32), none, .call 7 []⟩,
      ⟨(some 4), none, .mv (.t 32)⟩] false)
    (.ret))
   (.skip)))
  (.seq (.ops [
    ⟨(some 33), none, .mv (.t 5)⟩,
    ⟨(some 34), none, .call 9 [(.t 33)]⟩,
    ⟨(some 7), none, .mv (.t 34)⟩] false)
  (.seq (.ops [
    ⟨(some 8), none, .mv (.c (.int .i64 0))⟩] false)
  (.seq (.seq (.ops [
     ⟨(some 35), none, .mv (.t 1)⟩,
     ⟨(some 36), none, .lenL (.t 35)⟩,
     ⟨(some 37), none, .mv (.c (.int .i64 0))⟩] false)
   (.blk 0 (.loop (.seq (.ops [
       ⟨(some 38), none, .bin .lss (.t 37) (.t 36)⟩] false)
     (.seq (.cond (.t 38) (.skip)
      (.exit 0))
     (.seq (.blk 1 (.seq (.ops [
         ⟨(some 39), none, .mv (.t 37)⟩,
         ⟨(some 40), none, .iaddr 4 (.t 35) (.t 37)⟩,
         ⟨(some 41), none, .load 4 true (.t 40)⟩,
         ⟨(some 10), none, .alloc 33 [(.int .i64 0), (.int .i64 0), (.str []), (.sl true 2 [])]⟩,
         ⟨(some 9), none, .mv (.t 39)⟩,
         ⟨none, none, .store 4 (.t 10) (.t 41)⟩] false)
       (.seq (.seq (.ops [
          ⟨(some 42), none, .mv (.t 9)⟩,
          ⟨(some 43), none, .bin .geq (.t 42) (.c (.int .i64 100))⟩,
          ⟨(some 44), none, .mv (.t 43)⟩,
          ⟨(some 45), (some (44, false)), .load 4 true (.t 10)⟩,
          ⟨(some 46), (some (44, false)), .call 10 [(.t 45)]⟩,
          ⟨(some 47), (some (44, false)), .un .not (.t 46)⟩,
          ⟨(some 48), none, .pick (.t 44) (.c (.bool true)) (.t 47)⟩] false)
        (.cond (.t 48) (.exit 0)
        (.skip)))
       (.seq (.ops [
         ⟨(some 49), none, .mv (.t 5)⟩,
         ⟨(some 50), none, .faddr 2 (.t 10)⟩,
         ⟨(some 51), none, .load 1 false (.t 50)⟩,
         ⟨(some 52), none, .faddr 3 (.t 10)⟩,
         ⟨(some 53), none, .load 1 false (.t 52)⟩,
         ⟨(some 54), none, .call 11 [(.t 49), (.t 51), (.t 53)]⟩,
         ⟨(some 55), none, .bin .eql (.t 54) (.c (.int .i64 0))⟩] false)
       (.cond (.t 55) (.ops [
         ⟨(some 56), none, .mv (.t 8)⟩,
         ⟨(some 57), none, .bin .add (.t 56) (.c (.int .i64 1))⟩,
         ⟨(some 8), none, .mv (.t 57)⟩] false)
       (.skip))))))
     (.ops [
      ⟨(some 58), none, .bin .add (.t 37) (.c (.int .i64 1))⟩,
      ⟨(some 37), none, .mv (.t 58)⟩] false)))))))
  ir3b))))))) }
theorem cf3 : compF Try.prog [] Try.f3 = some ir3 := by kernel_rfl
/- whetstone/whetstonelaw31.HistoryNil -/
def ir5 : IFn :=
 { nt := 66, res := [.t 4], body := (
  .seq (.ops [
    ⟨(some 4), none, .mv (.c (.bool false))⟩] false)
  (.seq (.ops [
    ⟨(some 5), none, .mv (.c .nilp)⟩] false)
  (.seq (.ops [
    ⟨(some 15), none, .mv (.t 5)⟩,
    ⟨(some 16), none, .call 12 [(.t 15)]⟩,
    ⟨(some 14), none, .mv (.t 16)⟩,
    ⟨(some 17), none, .ext (.t 14) 0⟩,
    ⟨(some 18), none, .ext (.t 14) 1⟩,
    ⟨(some 6), none, .mv (.t 17)⟩,
    ⟨(some 7), none, .mv (.t 18)⟩] false)
  (.seq (.ops [
    ⟨(some 20), none, .mv (.t 5)⟩,
    ⟨(some 21), none, .call 13 [(.t 20)]⟩,
    ⟨(some 19), none, .mv (.t 21)⟩,
    ⟨(some 22), none, .ext (.t 19) 0⟩,
    ⟨(some 23), none, .ext (.t 19) 1⟩,
    ⟨(some 8), none, .mv (.t 22)⟩,
    ⟨(some 9), none, .mv (.t 23)⟩] false)
  (.seq (.ops [
    ⟨(some 25), none, .mv (.t 5)⟩,
    ⟨(some 26), none, .mv (.t 0)⟩,
    ⟨(some 27), none, .call 23 [(.t 25), (.t 26)]⟩,
    ⟨(some 24), none, .mv (.t 27)⟩,
    ⟨(some 28), none, .ext (.t 24) 0⟩,
    ⟨(some 29), none, .ext (.t 24) 1⟩,
    ⟨(some 10), none, .mv (.t 28)⟩,
    ⟨(some 11), none, .mv (.t 29)⟩] false)
  (.seq (.ops [
    ⟨(some 31), none, .mv (.t 5)⟩,
    ⟨(some 32), none, .call 19 [(.t 31)]⟩,
    ⟨(some 30), none, .mv (.t 32)⟩,
    ⟨(some 33), none, .ext (.t 30) 0⟩,
    ⟨(some 34), none, .ext (.t 30) 1⟩,
    ⟨(some 12), none, .mv (.t 33)⟩,
    ⟨(some 13), none, .mv (.t 34)⟩] false)
  (.seq (.ops [
    ⟨(some 35), none, .call 7 []⟩,
    ⟨(some 36), none, .mv (.t 35)⟩,
    ⟨(some 37), (some (36, true)), .mv (.t 7)⟩,
    ⟨(some 38), (some (36, true)), .bin .eql (.t 37) (.c (.int .i64 2))⟩,
    ⟨(some 39), none, .pick (.t 36) (.t 38) (.c (.bool false))⟩,
    ⟨(some 40), none, .mv (.t 39)⟩,
    ⟨(some 41), (some (40, true)), .mv (.t 9)⟩,
    ⟨(some 42), (some (40, true)), .bin .eql (.t 41) (.c (.int .i64 2))⟩,
    ⟨(some 43), none, .pick (.t 40) (.t 42) (.c (.bool false))⟩,
    ⟨(some 44), none, .mv (.t 43)⟩,
    ⟨(some 45), (some (44, true)), .mv (.t 11)⟩,
    ⟨(some 46), (some (44, true)), .bin .eql (.t 45) (.c (.int .i64 2))⟩,
    ⟨(some 47), none, .pick (.t 44) (.t 46) (.c (.bool false))⟩,
    ⟨(some 48), none, .mv (.t 47)⟩,
    ⟨(some 49), (some (48, true)), .mv (.t 5)⟩,
    ⟨(some 50), (some (48, true)), .mv (.t 1)⟩,
    ⟨(some 51), (some (48, true)), .call 11 [(.t 49), (.t 50), (.c (.sl true 2 []))]⟩,
    ⟨(some 52), (some (48, true)), .bin .eql (.t 51) (.c (.int .i64 2))⟩,
    ⟨(some 53), none, .pick (.t 48) (.t 52) (.c (.bool false))⟩,
    ⟨(some 54), none, .mv (.t 53)⟩,
    ⟨(some 55), (some (54, true)), .mv (.t 12)⟩,
    ⟨(some 56), (some (54, true)), .lenL (.t 55)⟩,
    ⟨(some 57), (some (54, true)), .mv (.t 13)⟩,
    ⟨(some 58), (some (54, true)), .lenL (.t 57)⟩,
    ⟨(some 59), (some (54, true)), .bin .add (.t 56) (.t 58)⟩,
    ⟨(some 60), (some (54, true)), .mv (.t 5)⟩,
    ⟨(some 61), (some (54, true)), .call 9 [(.t 60)]⟩,
    ⟨(some 62), (some (54, true)), .lenL (.t 61)⟩,
    ⟨(some 63), (some (54, true)), .bin .add (.t 59) (.t 62)⟩,
    ⟨(some 64), (some (54, true)), .bin .eql (.t 63) (.c (.int .i64 0))⟩,
    ⟨(some 65), none, .pick (.t 54) (.t 64) (.c (.bool false))⟩,
    ⟨(some 4), none, .mv (.t 65)⟩] false)
  (.ret)))))))) }
theorem cf5 : compF Try.prog [] Try.f5 = some ir5 := by kernel_rfl
/- whetstone/whetstonelaw13.Light -/
def ir6 : IFn :=
 { nt := 30, res := [.t 4], body := (
  .seq (.ops [
    ⟨(some 4), none, .mv (.c (.bool false))⟩] false)
  (.seq (.ops [
    ⟨(some 5), none, .mv (.c (.int .i64 0))⟩] false)
  (.seq (.seq (.ops [
     ⟨(some 8), none, .mv (.t 0)⟩,
     ⟨(some 9), none, .lenL (.t 8)⟩,
     ⟨(some 10), none, .mv (.c (.int .i64 0))⟩] false)
   (.blk 0 (.loop (.seq (.ops [
       ⟨(some 11), none, .bin .lss (.t 10) (.t 9)⟩] false)
     (.seq (.cond (.t 11) (.skip)
      (.exit 0))
     (.seq (.blk 1 (.seq (.ops [
         ⟨(some 12), none, .iaddr 2 (.t 8) (.t 10)⟩,
         ⟨(some 13), none, .load 2 true (.t 12)⟩,
         ⟨(some 7), none, .alloc 58 [(.str []), (.str [])]⟩,
         ⟨none, none, .store 2 (.t 7) (.t 13)⟩] false)
       (.seq (.ops [
         ⟨(some 14), none, .mv (.t 5)⟩,
         ⟨(some 15), none, .faddr 0 (.t 7)⟩,
         ⟨(some 16), none, .load 1 false (.t 15)⟩,
         ⟨(some 17), none, .lenS (.t 16)⟩,
         ⟨(some 18), none, .faddr 1 (.t 7)⟩,
         ⟨(some 19), none, .load 1 false (.t 18)⟩,
         ⟨(some 20), none, .lenS (.t 19)⟩,
         ⟨(some 21), none, .bin .add (.t 17) (.t 20)⟩,
         ⟨(some 22), none, .bin .add (.t 14) (.t 21)⟩,
         ⟨(some 5), none, .mv (.t 22)⟩] false)
       (.seq (.ops [
         ⟨(some 23), none, .mv (.t 5)⟩,
         ⟨(some 24), none, .mv (.t 1)⟩,
         ⟨(some 25), none, .bin .gtr (.t 23) (.t 24)⟩] false)
       (.cond (.t 25) (.seq (.ops [
          ⟨(some 4), none, .mv (.c (.bool false))⟩] false)
        (.ret))
       (.skip))))))
     (.ops [
      ⟨(some 26), none, .bin .add (.t 10) (.c (.int .i64 1))⟩,
      ⟨(some 10), none, .mv (.t 26)⟩] false)))))))
  (.seq (.ops [
    ⟨(some 27), none, .mv (.t 0)⟩,
    ⟨(some 28), none, .lenL (.t 27)⟩,
    ⟨(some 29), none, .bin .leq (.t 28) (.c (.int .i64 20))⟩,
    ⟨(some 4), none, .mv (.t 29)⟩] false)
  (.ret))))) }
theorem cf6 : compF Try.prog [] Try.f6 = some ir6 := by kernel_rfl
/- whetstone/whetstonelaw31.awake -/
def ir7 : IFn :=
 { nt := 67, res := [.t 0], body := (
  .seq (.ops [
    ⟨(some 0), none, .mv (.c (.bool false))⟩] false)
  (.seq (.ops [
    ⟨(some 9), none, .build [(.str []), (.str [])] [(0, 1, (.c (.str [109, 97, 105, 110]))), (1, 1, (.c (.str [97, 98])))]⟩,
    ⟨(some 10), none, .bslice 2 [(.t 9)]⟩,
    ⟨(some 11), none, .call 8 [(.t 10)]⟩,
    ⟨(some 8), none, .mv (.t 11)⟩,
    ⟨(some 12), none, .ext (.t 8) 0⟩,
    ⟨(some 13), none, .ext (.t 8) 1⟩,
    ⟨(some 1), none, .mv (.t 12)⟩,
    ⟨(some 2), none, .mv (.t 13)⟩] false)
  (.seq (.ops [
    ⟨(some 14), none, .mv (.t 1)⟩,
    ⟨(some 15), none, .build [(.int .i64 0), (.int .i64 0), (.str [])] [(0, 1, (.c (.int .i64 1))), (1, 1, (.c (.int .i64 2))), (2, 1, (.c (.str [120])))]⟩,
    ⟨(some 16), none, .bslice 3 [(.t 15)]⟩,
    ⟨(some 17), none, .build [(.str []), (.sl true 3 [])] [(0, 1, (.c (.str [109, 97, 105, 110]))), (1, 1, (.t 16))]⟩,
    ⟨(some 18), none, .bslice 2 [(.t 17)]⟩,
    ⟨(some 19), none, .call 11 [(.t 14), (.c (.str [120])), (.t 18)]⟩,
    ⟨(some 3), none, .mv (.t 19)⟩] false)
  (.seq (.ops [
    ⟨(some 20), none, .mv (.t 1)⟩,
    ⟨(some 21), none, .call 9 [(.t 20)]⟩,
    ⟨(some 4), none, .mv (.t 21)⟩] false)
  (.seq (.ops [
    ⟨(some 23), none, .mv (.t 1)⟩,
    ⟨(some 24), none, .call 12 [(.t 23)]⟩,
    ⟨(some 22), none, .mv (.t 24)⟩,
    ⟨(some 25), none, .ext (.t 22) 0⟩,
    ⟨(some 26), none, .ext (.t 22) 1⟩,
    ⟨(some 5), none, .mv (.t 25)⟩,
    ⟨(some 6), none, .mv (.t 26)⟩] false)
  (.seq (.ops [
    ⟨(some 27), none, .mv (.t 1)⟩,
    ⟨(some 28), none, .call 9 [(.t 27)]⟩,
    ⟨(some 7), none, .mv (.t 28)⟩] false)
  (.seq (.ops [
    ⟨(some 29), none, .mv (.t 2)⟩,
    ⟨(some 30), none, .bin .eql (.t 29) (.c (.int .i64 0))⟩,
    ⟨(some 31), none, .mv (.t 30)⟩,
    ⟨(some 32), (some (31, true)), .mv (.t 3)⟩,
    ⟨(some 33), (some (31, true)), .bin .eql (.t 32) (.c (.int .i64 0))⟩,
    ⟨(some 34), none, .pick (.t 31) (.t 33) (.c (.bool false))⟩,
    ⟨(some 35), none, .mv (.t 34)⟩,
    ⟨(some 36), (some (35, true)), .mv (.t 6)⟩,
    ⟨(some 37), (some (35, true)), .bin .eql (.t 36) (.c (.int .i64 0))⟩,
    ⟨(some 38), none, .pick (.t 35) (.t 37) (.c (.bool false))⟩,
    ⟨(some 39), none, .mv (.t 38)⟩,
    ⟨(some 40), (some (39, true)), .mv (.t 5)⟩,
    ⟨(some 41), (some (39, true)), .bin .eql (.t 40) (.c (.str [120]))⟩,
    ⟨(some 42), none, .pick (.t 39) (.t 41) (.c (.bool false))⟩,
    ⟨(some 43), none, .mv (.t 42)⟩,
    ⟨(some 44), (some (43, true)), .mv (.t 4)⟩,
    ⟨(some 45), (some (43, true)), .lenL (.t 44)⟩,
    ⟨(some 46), (some (43, true)), .bin .eql (.t 45) (.c (.int .i64 1))⟩,
    ⟨(some 47), none, .pick (.t 43) (.t 46) (.c (.bool false))⟩,
    ⟨(some 48), none, .mv (.t 47)⟩,
    ⟨(some 49), (some (48, true)), .mv (.t 4)⟩,
    ⟨(some 50), (some (48, true)), .iaddr 2 (.t 49) (.c (.int .i64 0))⟩,
    ⟨(some 51), (some (48, true)), .faddr 1 (.t 50)⟩,
    ⟨(some 52), (some (48, true)), .load 1 false (.t 51)⟩,
    ⟨(some 53), (some (48, true)), .bin .eql (.t 52) (.c (.str [97, 120]))⟩,
    ⟨(some 54), none, .pick (.t 48) (.t 53) (.c (.bool false))⟩,
    ⟨(some 55), none, .mv (.t 54)⟩,
    ⟨(some 56), (some (55, true)), .mv (.t 7)⟩,
    ⟨(some 57), (some (55, true)), .lenL (.t 56)⟩,
    ⟨(some 58), (some (55, true)), .bin .eql (.t 57) (.c (.int .i64 1))⟩,
    ⟨(some 59), none, .pick (.t 55) (.t 58) (.c (.bool false))⟩,
    ⟨(some 60), none, .mv (.t 59)⟩,
    ⟨(some 61), (some (60, true)), .mv (.t 7)⟩,
    ⟨(some 62), (some (60, true)), .iaddr 2 (.t 61) (.c (.int .i64 0))⟩,
    ⟨(some 63), (some (60, true)), .faddr 1 (.t 62)⟩,
    ⟨(some 64), (some (60, true)), .load 1 false (.t 63)⟩,
    ⟨(some 65), (some (60, true)), .bin .eql (.t 64) (.c (.str [97, 98]))⟩,
    ⟨(some 66), none, .pick (.t 60) (.t 65) (.c (.bool false))⟩,
    ⟨(some 0), none, .mv (.t 66)⟩] false)
  (.ret)))))))) }
theorem cf7 : compF Try.prog [] Try.f7 = some ir7 := by kernel_rfl
/- whetstone/history.New -/
def ir8 : IFn :=
 { nt := 28, res := [.t 2, .t 3], body := (
  .seq (.ops [
    ⟨(some 2), none, .mv (.c .nilp)⟩,
    ⟨(some 3), none, .mv (.c (.int .i64 0))⟩] false)
  (.seq (.ops [
    ⟨(some 5), none, .mv (.t 0)⟩,
    ⟨(some 6), none, .call 24 [(.t 5)]⟩,
    ⟨(some 0), none, .mv (.t 6)⟩] false)
  (.seq (.seq (.ops [
     ⟨(some 4), none, .mv (.c (.int .i64 1))⟩] false)
   (.blk 0 (.loop (.seq (.seq (.ops [
        ⟨(some 7), none, .mv (.t 4)⟩,
        ⟨(some 8), none, .mv (.t 0)⟩,
        ⟨(some 9), none, .lenL (.t 8)⟩,
        ⟨(some 10), none, .bin .lss (.t 7) (.t 9)⟩] false)
      (.cond (.t 10) (.skip)
      (.exit 0)))
     (.seq (.blk 1 (.seq (.ops [
         ⟨(some 13), none, .mv (.t 0)⟩,
         ⟨(some 14), none, .mv (.t 4)⟩,
         ⟨(some 15), none, .bin .sub (.t 14) (.c (.int .i64 1))⟩,
         ⟨(some 16), none, .iaddr 2 (.t 13) (.t 15)⟩,
         ⟨(some 17), none, .faddr 0 (.t 16)⟩,
         ⟨(some 18), none, .load 1 false (.t 17)⟩,
         ⟨(some 19), none, .mv (.t 0)⟩,
         ⟨(some 20), none, .mv (.t 4)⟩,
         ⟨(some 21), none, .iaddr 2 (.t 19) (.t 20)⟩,
         ⟨(some 22), none, .faddr 0 (.t 21)⟩,
         ⟨(some 23), none, .load 1 false (.t 22)⟩,
         ⟨(some 24), none, .bin .eql (.t 18) (.t 23)⟩] true)
       (.cond (.t 24) (.seq (.ops [
          ⟨(some 2), none, .mv (.c .nilp)⟩,
          ⟨(some 3), none, .mv (.c (.int .i64 4))⟩] false)
        (.ret))
       (.skip))))
     (.ops [
      ⟨(some 11), none, .mv (.t 4)⟩,
      ⟨(some 12), none, .bin .add (.t 11) (.c (.int .i64 1))⟩,
      ⟨(some 4), none, .mv (.t 12)⟩] false))))))
  (.seq (.ops [
    ⟨(some 25), none, .mv (.t 0)⟩,
    ⟨(some 26), none, .build [(.sl true 2 []), (.sl true 3 []), (.sl true 3 [])] [(0, 1, (.t 25))]⟩,
    ⟨(some 27), none, .box 67 3 (.t 26)⟩,
    ⟨(some 2), none, .mv (.t 27)⟩,
    ⟨(some 3), none, .mv (.c (.int .i64 0))⟩] false)
  (.ret))))) }
theorem cf8 : compF Try.prog [] Try.f8 = some ir8 := by kernel_rfl
/- (*whetstone/history.History).Modules -/
def ir9 : IFn :=
 { nt := 10, res := [.t 2], body := (
  .seq (.ops [
    ⟨(some 2), none, .mv (.c (.sl true 2 []))⟩] false)
  (.seq (.seq (.ops [
     ⟨(some 3), none, .mv (.t 0)⟩,
     ⟨(some 4), none, .isNilP false (.t 3)⟩] false)
   (.cond (.t 4) (.seq (.ops [
      ⟨(some 2), none, .mv (.c (.sl true 2 []))⟩] false)
    (.ret))
   (.skip)))
  (.seq (.ops [
    ⟨(some 5), none, .mv (.t 0)⟩,
    ⟨(some 6), none, .nilCheck (.t 5)⟩,
    ⟨(some 7), none, .faddr 0 (.t 6)⟩,
    ⟨(some 8), none, .load 1 false (.t 7)⟩,
    ⟨(some 9), none, .call 25 [(.t 8)]⟩,
    ⟨(some 2), none, .mv (.t 9)⟩] false)
  (.ret)))) }
theorem cf9 : compF Try.prog [] Try.f9 = some ir9 := by kernel_rfl
/- whetstone/whetstonelaw31.fits -/
def ir10 : IFn :=
 { nt := 46, res := [.t 2], body := (
  .seq (.ops [
    ⟨(some 1), none, .box 33 4 (.t 0)⟩,
    ⟨(some 2), none, .mv (.c (.bool false))⟩] false)
  (.seq (.ops [
    ⟨(some 8), none, .faddr 2 (.t 1)⟩,
    ⟨(some 9), none, .load 1 false (.t 8)⟩,
    ⟨(some 10), none, .lenS (.t 9)⟩,
    ⟨(some 3), none, .mv (.t 10)⟩] false)
  (.seq (.seq (.ops [
     ⟨(some 11), none, .faddr 3 (.t 1)⟩,
     ⟨(some 12), none, .load 1 false (.t 11)⟩,
     ⟨(some 13), none, .lenL (.t 12)⟩,
     ⟨(some 14), none, .mv (.c (.int .i64 0))⟩] false)
   (.blk 0 (.loop (.seq (.ops [
       ⟨(some 15), none, .bin .lss (.t 14) (.t 13)⟩] false)
     (.seq (.cond (.t 15) (.skip)
      (.exit 0))
     (.seq (.blk 1 (.seq (.ops [
         ⟨(some 16), none, .iaddr 2 (.t 12) (.t 14)⟩,
         ⟨(some 17), none, .load 2 true (.t 16)⟩,
         ⟨(some 5), none, .alloc 63 [(.str []), (.sl true 3 [])]⟩,
         ⟨none, none, .store 2 (.t 5) (.t 17)⟩] false)
       (.seq (.seq (.ops [
          ⟨(some 18), none, .faddr 1 (.t 5)⟩,
          ⟨(some 19), none, .load 1 false (.t 18)⟩,
          ⟨(some 20), none, .lenL (.t 19)⟩,
          ⟨(some 21), none, .mv (.c (.int .i64 0))⟩] false)
        (.blk 2 (.loop (.seq (.ops [
            ⟨(some 22), none, .bin .lss (.t 21) (.t 20)⟩] false)
          (.seq (.cond (.t 22) (.skip)
           (.exit 2))
          (.seq (.blk 3 (.seq (.ops [
              ⟨(some 23), none, .iaddr 3 (.t 19) (.t 21)⟩,
              ⟨(some 24), none, .load 3 true (.t 23)⟩,
              ⟨(some 7), none, .alloc 60 [(.int .i64 0), (.int .i64 0), (.str [])]⟩,
              ⟨none, none, .store 3 (.t 7) (.t 24)⟩] false)
            (.seq (.ops [
              ⟨(some 25), none, .mv (.t 3)⟩,
              ⟨(some 26), none, .faddr 2 (.t 7)⟩,
              ⟨(some 27), none, .load 1 false (.t 26)⟩,
              ⟨(some 28), none, .lenS (.t 27)⟩,
              ⟨(some 29), none, .bin .add (.t 25) (.t 28)⟩,
              ⟨(some 3), none, .mv (.t 29)⟩] false)
            (.seq (.ops [
              ⟨(some 30), none, .mv (.t 3)⟩,
              ⟨(some 31), none, .bin .gtr (.t 30) (.c (.int .i64 200))⟩] false)
            (.cond (.t 31) (.seq (.ops [
               ⟨(some 2), none, .mv (.c (.bool false))⟩] false)
             (.ret))
            (.skip))))))
          (.ops [
           ⟨(some 32), none, .bin .add (.t 21) (.c (.int .i64 1))⟩,
           ⟨(some 21), none, .mv (.t 32)⟩] false)))))))
       (.seq (.ops [
         ⟨(some 33), none, .faddr 1 (.t 5)⟩,
         ⟨(some 34), none, .load 1 false (.t 33)⟩,
         ⟨(some 35), none, .lenL (.t 34)⟩,
         ⟨(some 36), none, .bin .gtr (.t 35) (.c (.int .i64 20))⟩] false)
       (.cond (.t 36) (.seq (.ops [
          ⟨(some 2), none, .mv (.c (.bool false))⟩] false)
        (.ret))
       (.skip))))))
     (.ops [
      ⟨(some 37), none, .bin .add (.t 14) (.c (.int .i64 1))⟩,
      ⟨(some 14), none, .mv (.t 37)⟩] false)))))))
  (.seq (.ops [
    ⟨(some 38), none, .mv (.t 3)⟩,
    ⟨(some 39), none, .bin .leq (.t 38) (.c (.int .i64 200))⟩,
    ⟨(some 40), none, .mv (.t 39)⟩,
    ⟨(some 41), (some (40, true)), .faddr 3 (.t 1)⟩,
    ⟨(some 42), (some (40, true)), .load 1 false (.t 41)⟩,
    ⟨(some 43), (some (40, true)), .lenL (.t 42)⟩,
    ⟨(some 44), (some (40, true)), .bin .leq (.t 43) (.c (.int .i64 8))⟩,
    ⟨(some 45), none, .pick (.t 40) (.t 44) (.c (.bool false))⟩,
    ⟨(some 2), none, .mv (.t 45)⟩] false)
  (.ret))))) }
theorem cf10 : compF Try.prog [] Try.f10 = some ir10 := by kernel_rfl
/- (*whetstone/history.History).Do -/
def ir11 : IFn :=
 { nt := 100, res := [.t 6], body := (
  .seq (.ops [
    ⟨(some 6), none, .mv (.c (.int .i64 0))⟩] false)
  (.seq (.seq (.ops [
     ⟨(some 14), none, .mv (.t 0)⟩,
     ⟨(some 15), none, .isNilP false (.t 14)⟩] false)
   (.cond (.t 15) (.seq (.ops [
      ⟨(some 6), none, .mv (.c (.int .i64 2))⟩] false)
    (.ret))
   (.skip)))
  (.seq (.ops [
    ⟨(some 17), none, .mv (.t 0)⟩,
    ⟨(some 18), none, .nilCheck (.t 17)⟩,
    ⟨(some 19), none, .faddr 0 (.t 18)⟩,
    ⟨(some 20), none, .load 1 false (.t 19)⟩,
    ⟨(some 21), none, .mv (.t 2)⟩,
    ⟨(some 22), none, .call 26 [(.t 20), (.t 21)]⟩,
    ⟨(some 16), none, .mv (.t 22)⟩,
    ⟨(some 23), none, .ext (.t 16) 0⟩,
    ⟨(some 24), none, .ext (.t 16) 1⟩,
    ⟨(some 7), none, .mv (.t 23)⟩,
    ⟨(some 8), none, .mv (.t 24)⟩] false)
  (.seq (.seq (.ops [
     ⟨(some 25), none, .mv (.t 8)⟩,
     ⟨(some 26), none, .bin .neq (.t 25) (.c (.int .i64 0))⟩] false)
   (.cond (.t 26) (.seq (.ops [
      ⟨(some 27), none, .mv (.t 8)⟩,
      ⟨(some 6), none, .mv (.t 27)⟩] false)
    (.ret))
   (.skip)))
  (.seq (.ops [
    ⟨(some 9), none, .nilT 2 63⟩] false)
  (.seq (.seq (.ops [
     ⟨(some 28), none, .mv (.t 2)⟩,
     ⟨(some 29), none, .lenL (.t 28)⟩,
     ⟨(some 30), none, .mv (.c (.int .i64 0))⟩] false)
   (.blk 0 (.loop (.seq (.ops [
       ⟨(some 31), none, .bin .lss (.t 30) (.t 29)⟩] false)
     (.seq (.cond (.t 31) (.skip)
      (.exit 0))
     (.seq (.blk 1 (.seq (.ops [
         ⟨(some 32), none, .iaddr 2 (.t 28) (.t 30)⟩,
         ⟨(some 33), none, .load 2 true (.t 32)⟩,
         ⟨(some 11), none, .alloc 63 [(.str []), (.sl true 3 [])]⟩,
         ⟨none, none, .store 2 (.t 11) (.t 33)⟩] false)
       (.seq (.ops [
         ⟨(some 35), none, .mv (.t 0)⟩,
         ⟨(some 36), none, .nilCheck (.t 35)⟩,
         ⟨(some 37), none, .faddr 0 (.t 36)⟩,
         ⟨(some 38), none, .load 1 false (.t 37)⟩,
         ⟨(some 39), none, .mv (.t 0)⟩,
         ⟨(some 40), none, .nilCheck (.t 39)⟩,
         ⟨(some 41), none, .faddr 0 (.t 40)⟩,
         ⟨(some 42), none, .load 1 false (.t 41)⟩,
         ⟨(some 43), none, .faddr 0 (.t 11)⟩,
         ⟨(some 44), none, .load 1 false (.t 43)⟩,
         ⟨(some 45), none, .call 28 [(.t 42), (.t 44)]⟩,
         ⟨(some 46), none, .iaddr 2 (.t 38) (.t 45)⟩,
         ⟨(some 47), none, .faddr 1 (.t 46)⟩,
         ⟨(some 48), none, .load 1 false (.t 47)⟩,
         ⟨(some 49), none, .faddr 1 (.t 11)⟩,
         ⟨(some 50), none, .load 1 false (.t 49)⟩,
         ⟨(some 51), none, .call 27 [(.t 48), (.t 50)]⟩,
         ⟨(some 34), none, .mv (.t 51)⟩,
         ⟨(some 52), none, .ext (.t 34) 0⟩,
         ⟨(some 53), none, .ext (.t 34) 1⟩,
         ⟨(some 12), none, .mv (.t 52)⟩,
         ⟨(some 13), none, .mv (.t 53)⟩] true)
       (.seq (.seq (.ops [
          ⟨(some 54), none, .mv (.t 13)⟩,
          ⟨(some 55), none, .bin .neq (.t 54) (.c (.int .i64 0))⟩] false)
        (.cond (.t 55) (.seq (.ops [
           ⟨(some 56), none, .mv (.t 13)⟩,
           ⟨(some 6), none, .mv (.t 56)⟩] false)
         (.ret))
        (.skip)))
       (.ops [
        ⟨(some 57), none, .mv (.t 9)⟩,
        ⟨(some 58), none, .faddr 0 (.t 11)⟩,
        ⟨(some 59), none, .load 1 false (.t 58)⟩,
        ⟨(some 60), none, .mv (.t 12)⟩,
        ⟨(some 61), none, .build [(.str []), (.sl true 3 [])] [(0, 1, (.t 59)), (1, 1, (.t 60))]⟩,
        ⟨(some 62), none, .bslice 2 [(.t 61)]⟩,
        ⟨(some 63), none, .app 2 40 63 (.t 57) (.t 62)⟩,
        ⟨(some 9), none, .mv (.t 63)⟩] false)))))
     (.ops [
      ⟨(some 64), none, .bin .add (.t 30) (.c (.int .i64 1))⟩,
      ⟨(some 30), none, .mv (.t 64)⟩] false)))))))
  (.seq (.ops [
    ⟨(some 65), none, .mv (.t 0)⟩,
    ⟨(some 66), none, .mv (.t 0)⟩,
    ⟨(some 67), none, .mv (.t 7)⟩,
    ⟨(some 68), none, .nilCheck (.t 65)⟩,
    ⟨(some 69), none, .faddr 0 (.t 68)⟩,
    ⟨none, none, .store 1 (.t 69) (.t 67)⟩,
    ⟨(some 70), none, .nilCheck (.t 66)⟩,
    ⟨(some 71), none, .faddr 2 (.t 70)⟩,
    ⟨none, none, .store 1 (.t 71) (.c (.sl true 3 []))⟩] false)
  (.seq (.ops [
    ⟨(some 72), none, .mv (.t 0)⟩,
    ⟨(some 73), none, .mv (.t 0)⟩,
    ⟨(some 74), none, .nilCheck (.t 73)⟩,
    ⟨(some 75), none, .faddr 1 (.t 74)⟩,
    ⟨(some 76), none, .load 1 false (.t 75)⟩,
    ⟨(some 77), none, .mv (.t 1)⟩,
    ⟨(some 78), none, .mv (.t 2)⟩,
    ⟨(some 79), none, .call 29 [(.t 78)]⟩,
    ⟨(some 80), none, .mv (.t 9)⟩,
    ⟨(some 81), none, .build [(.str []), (.sl true 2 []), (.sl true 2 [])] [(0, 1, (.t 77)), (1, 1, (.t 79)), (2, 1, (.t 80))]⟩,
    ⟨(some 82), none, .bslice 3 [(.t 81)]⟩,
    ⟨(some 83), none, .appV 3 64 75 (.t 76) (.t 82)⟩,
    ⟨(some 84), none, .nilCheck (.t 72)⟩,
    ⟨(some 85), none, .faddr 1 (.t 84)⟩,
    ⟨none, none, .store 1 (.t 85) (.t 83)⟩] true)
  (.seq (.seq (.ops [
     ⟨(some 86), none, .mv (.t 0)⟩,
     ⟨(some 87), none, .nilCheck (.t 86)⟩,
     ⟨(some 88), none, .faddr 1 (.t 87)⟩,
     ⟨(some 89), none, .load 1 false (.t 88)⟩,
     ⟨(some 90), none, .lenL (.t 89)⟩,
     ⟨(some 91), none, .bin .gtr (.t 90) (.c (.int .i64 100))⟩] false)
   (.cond (.t 91) (.ops [
     ⟨(some 92), none, .mv (.t 0)⟩,
     ⟨(some 93), none, .mv (.t 0)⟩,
     ⟨(some 94), none, .nilCheck (.t 93)⟩,
     ⟨(some 95), none, .faddr 1 (.t 94)⟩,
     ⟨(some 96), none, .load 1 false (.t 95)⟩,
     ⟨(some 97), none, .call 30 [(.t 96), (.c (.int .i64 0)), (.c (.int .i64 1))]⟩,
     ⟨(some 98), none, .nilCheck (.t 92)⟩,
     ⟨(some 99), none, .faddr 1 (.t 98)⟩,
     ⟨none, none, .store 1 (.t 99) (.t 97)⟩] false)
   (.skip)))
  (.seq (.ops [
    ⟨(some 6), none, .mv (.c (.int .i64 0))⟩] false)
  (.ret))))))))))) }
theorem cf11 : compF Try.prog [9, 2000083] Try.f11 = some ir11 := by kernel_rfl
/- (*whetstone/history.History).Undo -/
def ir12 : IFn :=
 { nt := 72, res := [.t 2, .t 3], body := (
  .seq (.ops [
    ⟨(some 2), none, .mv (.c (.str []))⟩,
    ⟨(some 3), none, .mv (.c (.int .i64 0))⟩] false)
  (.seq (.blk 0 (.seq (.ops [
      ⟨(some 8), none, .mv (.t 0)⟩,
      ⟨(some 9), none, .isNilP false (.t 8)⟩,
      ⟨(some 7), none, .mv (.t 9)⟩] false)
    (.cond (.t 7) (.seq (.ops [
       ⟨(some 2), none, .mv (.c (.str []))⟩,
       ⟨(some 3), none, .mv (.c (.int .i64 2))⟩] false)
     (.ret))
    (.seq (.ops [
       ⟨(some 11), none, .mv (.t 0)⟩,
       ⟨(some 12), none, .nilCheck (.t 11)⟩,
       ⟨(some 13), none, .faddr 1 (.t 12)⟩,
       ⟨(some 14), none, .load 1 false (.t 13)⟩,
       ⟨(some 15), none, .lenL (.t 14)⟩,
       ⟨(some 16), none, .bin .eql (.t 15) (.c (.int .i64 0))⟩,
       ⟨(some 10), none, .mv (.t 16)⟩] false)
     (.cond (.t 10) (.seq (.ops [
        ⟨(some 2), none, .mv (.c (.str []))⟩,
        ⟨(some 3), none, .mv (.c (.int .i64 3))⟩] false)
      (.ret))
     (.skip))))))
  (.seq (.ops [
    ⟨(some 17), none, .mv (.t 0)⟩,
    ⟨(some 18), none, .nilCheck (.t 17)⟩,
    ⟨(some 19), none, .faddr 1 (.t 18)⟩,
    ⟨(some 20), none, .load 1 false (.t 19)⟩,
    ⟨(some 21), none, .mv (.t 0)⟩,
    ⟨(some 22), none, .nilCheck (.t 21)⟩,
    ⟨(some 23), none, .faddr 1 (.t 22)⟩,
    ⟨(some 24), none, .load 1 false (.t 23)⟩,
    ⟨(some 25), none, .lenL (.t 24)⟩,
    ⟨(some 26), none, .bin .sub (.t 25) (.c (.int .i64 1))⟩,
    ⟨(some 27), none, .iaddrV 3 (.t 20) (.t 26)⟩,
    ⟨(some 28), none, .loadV 3 true (.t 27)⟩,
    ⟨(some 4), none, .alloc 75 [(.str []), (.sl true 2 []), (.sl true 2 [])]⟩,
    ⟨none, none, .store 3 (.t 4) (.t 28)⟩] true)
  (.seq (.ops [
    ⟨(some 30), none, .mv (.t 0)⟩,
    ⟨(some 31), none, .nilCheck (.t 30)⟩,
    ⟨(some 32), none, .faddr 0 (.t 31)⟩,
    ⟨(some 33), none, .load 1 false (.t 32)⟩,
    ⟨(some 34), none, .faddr 2 (.t 4)⟩,
    ⟨(some 35), none, .load 1 false (.t 34)⟩,
    ⟨(some 36), none, .call 26 [(.t 33), (.t 35)]⟩,
    ⟨(some 29), none, .mv (.t 36)⟩,
    ⟨(some 37), none, .ext (.t 29) 0⟩,
    ⟨(some 38), none, .ext (.t 29) 1⟩,
    ⟨(some 5), none, .mv (.t 37)⟩,
    ⟨(some 6), none, .mv (.t 38)⟩] true)
  (.seq (.seq (.ops [
     ⟨(some 39), none, .mv (.t 6)⟩,
     ⟨(some 40), none, .bin .neq (.t 39) (.c (.int .i64 0))⟩] false)
   (.cond (.t 40) (.seq (.ops [
      ⟨(some 41), none, .mv (.t 6)⟩,
      ⟨(some 2), none, .mv (.c (.str []))⟩,
      ⟨(some 3), none, .mv (.t 41)⟩] false)
    (.ret))
   (.skip)))
  (.seq (.ops [
    ⟨(some 42), none, .mv (.t 0)⟩,
    ⟨(some 43), none, .mv (.t 0)⟩,
    ⟨(some 44), none, .mv (.t 0)⟩,
    ⟨(some 45), none, .mv (.t 5)⟩,
    ⟨(some 46), none, .mv (.t 0)⟩,
    ⟨(some 47), none, .nilCheck (.t 46)⟩,
    ⟨(some 48), none, .faddr 1 (.t 47)⟩,
    ⟨(some 49), none, .load 1 false (.t 48)⟩,
    ⟨(some 50), none, .mv (.t 0)⟩,
    ⟨(some 51), none, .nilCheck (.t 50)⟩,
    ⟨(some 52), none, .faddr 1 (.t 51)⟩,
    ⟨(some 53), none, .load 1 false (.t 52)⟩,
    ⟨(some 54), none, .lenL (.t 53)⟩,
    ⟨(some 55), none, .bin .sub (.t 54) (.c (.int .i64 1))⟩,
    ⟨(some 56), none, .cutV 3 (.t 49) (.t 55)⟩,
    ⟨(some 57), none, .mv (.t 0)⟩,
    ⟨(some 58), none, .nilCheck (.t 57)⟩,
    ⟨(some 59), none, .faddr 2 (.t 58)⟩,
    ⟨(some 60), none, .load 1 false (.t 59)⟩,
    ⟨(some 61), none, .load 3 true (.t 4)⟩,
    ⟨(some 62), none, .bslice 3 [(.t 61)]⟩,
    ⟨(some 63), none, .appV 3 64 75 (.t 60) (.t 62)⟩,
    ⟨(some 64), none, .nilCheck (.t 42)⟩,
    ⟨(some 65), none, .faddr 0 (.t 64)⟩,
    ⟨none, none, .store 1 (.t 65) (.t 45)⟩,
    ⟨(some 66), none, .nilCheck (.t 43)⟩,
    ⟨(some 67), none, .faddr 1 (.t 66)⟩,
    ⟨none, none, .store 1 (.t 67) (.t 56)⟩,
    ⟨(some 68), none, .nilCheck (.t 44)⟩,
    ⟨(some 69), none, .faddr 2 (.t 68)⟩,
    ⟨none, none, .store 1 (.t 69) (.t 63)⟩] true)
  (.seq (.ops [
    ⟨(some 70), none, .faddr 0 (.t 4)⟩,
    ⟨(some 71), none, .load 1 false (.t 70)⟩,
    ⟨(some 2), none, .mv (.t 71)⟩,
    ⟨(some 3), none, .mv (.c (.int .i64 0))⟩] false)
  (.ret)))))))) }
theorem cf12 : compF Try.prog [3000027, 3000028, 2000056, 2000063] Try.f12 = some ir12 := by kernel_rfl
/- (*whetstone/history.History).Redo -/
def ir13 : IFn :=
 { nt := 72, res := [.t 2, .t 3], body := (
  .seq (.ops [
    ⟨(some 2), none, .mv (.c (.str []))⟩,
    ⟨(some 3), none, .mv (.c (.int .i64 0))⟩] false)
  (.seq (.blk 0 (.seq (.ops [
      ⟨(some 8), none, .mv (.t 0)⟩,
      ⟨(some 9), none, .isNilP false (.t 8)⟩,
      ⟨(some 7), none, .mv (.t 9)⟩] false)
    (.cond (.t 7) (.seq (.ops [
       ⟨(some 2), none, .mv (.c (.str []))⟩,
       ⟨(some 3), none, .mv (.c (.int .i64 2))⟩] false)
     (.ret))
    (.seq (.ops [
       ⟨(some 11), none, .mv (.t 0)⟩,
       ⟨(some 12), none, .nilCheck (.t 11)⟩,
       ⟨(some 13), none, .faddr 2 (.t 12)⟩,
       ⟨(some 14), none, .load 1 false (.t 13)⟩,
       ⟨(some 15), none, .lenL (.t 14)⟩,
       ⟨(some 16), none, .bin .eql (.t 15) (.c (.int .i64 0))⟩,
       ⟨(some 10), none, .mv (.t 16)⟩] false)
     (.cond (.t 10) (.seq (.ops [
        ⟨(some 2), none, .mv (.c (.str []))⟩,
        ⟨(some 3), none, .mv (.c (.int .i64 3))⟩] false)
      (.ret))
     (.skip))))))
  (.seq (.ops [
    ⟨(some 17), none, .mv (.t 0)⟩,
    ⟨(some 18), none, .nilCheck (.t 17)⟩,
    ⟨(some 19), none, .faddr 2 (.t 18)⟩,
    ⟨(some 20), none, .load 1 false (.t 19)⟩,
    ⟨(some 21), none, .mv (.t 0)⟩,
    ⟨(some 22), none, .nilCheck (.t 21)⟩,
    ⟨(some 23), none, .faddr 2 (.t 22)⟩,
    ⟨(some 24), none, .load 1 false (.t 23)⟩,
    ⟨(some 25), none, .lenL (.t 24)⟩,
    ⟨(some 26), none, .bin .sub (.t 25) (.c (.int .i64 1))⟩,
    ⟨(some 27), none, .iaddrV 3 (.t 20) (.t 26)⟩,
    ⟨(some 28), none, .loadV 3 true (.t 27)⟩,
    ⟨(some 4), none, .alloc 75 [(.str []), (.sl true 2 []), (.sl true 2 [])]⟩,
    ⟨none, none, .store 3 (.t 4) (.t 28)⟩] true)
  (.seq (.ops [
    ⟨(some 30), none, .mv (.t 0)⟩,
    ⟨(some 31), none, .nilCheck (.t 30)⟩,
    ⟨(some 32), none, .faddr 0 (.t 31)⟩,
    ⟨(some 33), none, .load 1 false (.t 32)⟩,
    ⟨(some 34), none, .faddr 1 (.t 4)⟩,
    ⟨(some 35), none, .load 1 false (.t 34)⟩,
    ⟨(some 36), none, .call 26 [(.t 33), (.t 35)]⟩,
    ⟨(some 29), none, .mv (.t 36)⟩,
    ⟨(some 37), none, .ext (.t 29) 0⟩,
    ⟨(some 38), none, .ext (.t 29) 1⟩,
    ⟨(some 5), none, .mv (.t 37)⟩,
    ⟨(some 6), none, .mv (.t 38)⟩] true)
  (.seq (.seq (.ops [
     ⟨(some 39), none, .mv (.t 6)⟩,
     ⟨(some 40), none, .bin .neq (.t 39) (.c (.int .i64 0))⟩] false)
   (.cond (.t 40) (.seq (.ops [
      ⟨(some 41), none, .mv (.t 6)⟩,
      ⟨(some 2), none, .mv (.c (.str []))⟩,
      ⟨(some 3), none, .mv (.t 41)⟩] false)
    (.ret))
   (.skip)))
  (.seq (.ops [
    ⟨(some 42), none, .mv (.t 0)⟩,
    ⟨(some 43), none, .mv (.t 0)⟩,
    ⟨(some 44), none, .mv (.t 0)⟩,
    ⟨(some 45), none, .mv (.t 5)⟩,
    ⟨(some 46), none, .mv (.t 0)⟩,
    ⟨(some 47), none, .nilCheck (.t 46)⟩,
    ⟨(some 48), none, .faddr 2 (.t 47)⟩,
    ⟨(some 49), none, .load 1 false (.t 48)⟩,
    ⟨(some 50), none, .mv (.t 0)⟩,
    ⟨(some 51), none, .nilCheck (.t 50)⟩,
    ⟨(some 52), none, .faddr 2 (.t 51)⟩,
    ⟨(some 53), none, .load 1 false (.t 52)⟩,
    ⟨(some 54), none, .lenL (.t 53)⟩,
    ⟨(some 55), none, .bin .sub (.t 54) (.c (.int .i64 1))⟩,
    ⟨(some 56), none, .cutV 3 (.t 49) (.t 55)⟩,
    ⟨(some 57), none, .mv (.t 0)⟩,
    ⟨(some 58), none, .nilCheck (.t 57)⟩,
    ⟨(some 59), none, .faddr 1 (.t 58)⟩,
    ⟨(some 60), none, .load 1 false (.t 59)⟩,
    ⟨(some 61), none, .load 3 true (.t 4)⟩,
    ⟨(some 62), none, .bslice 3 [(.t 61)]⟩,
    ⟨(some 63), none, .appV 3 64 75 (.t 60) (.t 62)⟩,
    ⟨(some 64), none, .nilCheck (.t 42)⟩,
    ⟨(some 65), none, .faddr 0 (.t 64)⟩,
    ⟨none, none, .store 1 (.t 65) (.t 45)⟩,
    ⟨(some 66), none, .nilCheck (.t 43)⟩,
    ⟨(some 67), none, .faddr 2 (.t 66)⟩,
    ⟨none, none, .store 1 (.t 67) (.t 56)⟩,
    ⟨(some 68), none, .nilCheck (.t 44)⟩,
    ⟨(some 69), none, .faddr 1 (.t 68)⟩,
    ⟨none, none, .store 1 (.t 69) (.t 63)⟩] true)
  (.seq (.ops [
    ⟨(some 70), none, .faddr 0 (.t 4)⟩,
    ⟨(some 71), none, .load 1 false (.t 70)⟩,
    ⟨(some 2), none, .mv (.t 71)⟩,
    ⟨(some 3), none, .mv (.c (.int .i64 0))⟩] false)
  (.ret)))))))) }
theorem cf13 : compF Try.prog [3000027, 3000028, 2000056, 2000063] Try.f13 = some ir13 := by kernel_rfl
/- (*whetstone/history.History).Since -/
def ir23 : IFn :=
 { nt := 155, res := [.cell 4 1 false, .cell 5 1 false], body := (
  .seq (.ops [
    ⟨(some 4), none, .alloc 31 [(.sl true 2 [])]⟩,
    ⟨(some 5), none, .alloc 27 [(.int .i64 0)]⟩] false)
  (.seq (.blk 0 (.seq (.ops [
      ⟨(some 25), none, .mv (.t 0)⟩,
      ⟨(some 26), none, .isNilP false (.t 25)⟩,
      ⟨(some 24), none, .mv (.t 26)⟩] false)
    (.cond (.t 24) (.seq (.ops [
       ⟨none, none, .store 1 (.t 4) (.c (.sl true 2 []))⟩,
       ⟨none, none, .store 1 (.t 5) (.c (.int .i64 2))⟩] false)
     (.ret))
    (.seq (.ops [
       ⟨(some 28), none, .mv (.t 1)⟩,
       ⟨(some 29), none, .bin .lss (.t 28) (.c (.int .i64 0))⟩,
       ⟨(some 30), none, .mv (.t 29)⟩,
       ⟨(some 31), (some (30, false)), .mv (.t 1)⟩,
       ⟨(some 32), (some (30, false)), .mv (.t 0)⟩,
       ⟨(some 33), (some (30, false)), .nilCheck (.t 32)⟩,
       ⟨(some 34), (some (30, false)), .faddr 1 (.t 33)⟩,
       ⟨(some 35), (some (30, false)), .load 1 false (.t 34)⟩,
       ⟨(some 36), (some (30, false)), .lenL (.t 35)⟩,
       ⟨(some 37), (some (30, false)), .bin .gtr (.t 31) (.t 36)⟩,
       ⟨(some 38), none, .pick (.t 30) (.c (.bool true)) (.t 37)⟩,
       ⟨(some 27), none, .mv (.t 38)⟩] false)
     (.cond (.t 27) (.seq (.ops [
        ⟨none, none, .store 1 (.t 4) (.c (.sl true 2 []))⟩,
        ⟨none, none, .store 1 (.t 5) (.c (.int .i64 6))⟩] false)
      (.ret))
     (.skip))))))
  (.seq (.ops [
    ⟨(some 39), none, .mv (.t 0)⟩,
    ⟨(some 40), none, .nilCheck (.t 39)⟩,
    ⟨(some 41), none, .faddr 0 (.t 40)⟩,
    ⟨(some 42), none, .load 1 false (.t 41)⟩,
    ⟨(some 6), none, .alloc 22 [(.sl true 2 [])]⟩,
    ⟨none, none, .store 1 (.t 6) (.t 42)⟩] false)
  (.seq (.seq (.ops [
     ⟨(some 43), none, .mv (.t 0)⟩,
     ⟨(some 44), none, .nilCheck (.t 43)⟩,
     ⟨(some 45), none, .faddr 1 (.t 44)⟩,
     ⟨(some 46), none, .load 1 false (.t 45)⟩,
     ⟨(some 47), none, .mv (.t 0)⟩,
     ⟨(some 48), none, .nilCheck (.t 47)⟩,
     ⟨(some 49), none, .faddr 1 (.t 48)⟩,
     ⟨(some 50), none, .load 1 false (.t 49)⟩,
     ⟨(some 51), none, .lenL (.t 50)⟩,
     ⟨(some 52), none, .mv (.t 1)⟩,
     ⟨(some 53), none, .bin .sub (.t 51) (.t 52)⟩,
     ⟨(some 54), none, .slice 3 (.t 46) (some (.t 53)) none none⟩,
     ⟨(some 55), none, .call 34 [(.t 54)]⟩] true)
   (.blk 1 (.bad)))
  (.seq (.ops [
    ⟨(some 69), none, .mkMap⟩,
    ⟨(some 11), none, .mv (.t 69)⟩] false)
  (.seq (.ops [
    ⟨(some 70), none, .mkMap⟩,
    ⟨(some 12), none, .mv (.t 70)⟩] false)
  (.seq (.seq (.ops [
     ⟨(some 71), none, .load 1 false (.t 6)⟩,
     ⟨(some 72), none, .lenL (.t 71)⟩,
     ⟨(some 73), none, .mv (.c (.int .i64 0))⟩] false)
   (.blk 3 (.loop (.seq (.ops [
       ⟨(some 74), none, .bin .lss (.t 73) (.t 72)⟩] false)
     (.seq (.cond (.t 74) (.skip)
      (.exit 3))
     (.seq (.blk 4 (.seq (.ops [
         ⟨(some 75), none, .iaddr 2 (.t 71) (.t 73)⟩,
         ⟨(some 76), none, .load 2 true (.t 75)⟩,
         ⟨(some 14), none, .alloc 58 [(.str []), (.str [])]⟩,
         ⟨none, none, .store 2 (.t 14) (.t 76)⟩] false)
       (.ops [
        ⟨(some 77), none, .mv (.t 11)⟩,
        ⟨(some 78), none, .faddr 0 (.t 14)⟩,
        ⟨(some 79), none, .load 1 false (.t 78)⟩,
        ⟨(some 80), none, .faddr 1 (.t 14)⟩,
        ⟨(some 81), none, .load 1 false (.t 80)⟩,
        ⟨(some 82), none, .lenS (.t 81)⟩,
        ⟨none, none, .mpUpd (.str []) (.t 77) (.t 79) (.t 82)⟩] false)))
     (.ops [
      ⟨(some 83), none, .bin .add (.t 73) (.c (.int .i64 1))⟩,
      ⟨(some 73), none, .mv (.t 83)⟩] false)))))))
  (.seq (.seq (.ops [
     ⟨(some 84), none, .mv (.t 0)⟩,
     ⟨(some 85), none, .nilCheck (.t 84)⟩,
     ⟨(some 86), none, .faddr 1 (.t 85)⟩,
     ⟨(some 87), none, .load 1 false (.t 86)⟩,
     ⟨(some 88), none, .mv (.t 0)⟩,
     ⟨(some 89), none, .nilCheck (.t 88)⟩,
     ⟨(some 90), none, .faddr 1 (.t 89)⟩,
     ⟨(some 91), none, .load 1 false (.t 90)⟩,
     ⟨(some 92), none, .lenL (.t 91)⟩,
     ⟨(some 93), none, .mv (.t 1)⟩,
     ⟨(some 94), none, .bin .sub (.t 92) (.t 93)⟩,
     ⟨(some 95), none, .slice 3 (.t 87) (some (.t 94)) none none⟩,
     ⟨(some 96), none, .lenL (.t 95)⟩,
     ⟨(some 97), none, .mv (.c (.int .i64 0))⟩] true)
   (.blk 5 (.loop (.seq (.ops [
       ⟨(some 98), none, .bin .lss (.t 97) (.t 96)⟩] false)
     (.seq (.cond (.t 98) (.skip)
      (.exit 5))
     (.seq (.blk 6 (.seq (.ops [
         ⟨(some 99), none, .iaddr 3 (.t 95) (.t 97)⟩,
         ⟨(some 100), none, .load 3 true (.t 99)⟩,
         ⟨(some 16), none, .alloc 75 [(.str []), (.sl true 2 []), (.sl true 2 [])]⟩,
         ⟨none, none, .store 3 (.t 16) (.t 100)⟩] false)
       (.seq (.ops [
         ⟨(some 101), none, .faddr 1 (.t 16)⟩,
         ⟨(some 102), none, .load 1 false (.t 101)⟩,
         ⟨(some 103), none, .lenL (.t 102)⟩,
         ⟨(some 104), none, .mv (.c (.int .i64 0))⟩] false)
       (.blk 7 (.loop (.seq (.ops [
           ⟨(some 105), none, .bin .lss (.t 104) (.t 103)⟩] false)
         (.seq (.cond (.t 105) (.skip)
          (.exit 7))
         (.seq (.blk 8 (.seq (.ops [
             ⟨(some 106), none, .iaddr 2 (.t 102) (.t 104)⟩,
             ⟨(some 107), none, .load 2 true (.t 106)⟩,
             ⟨(some 18), none, .alloc 63 [(.str []), (.sl true 3 [])]⟩,
             ⟨none, none, .store 2 (.t 18) (.t 107)⟩] false)
           (.seq (.ops [
             ⟨(some 109), none, .mv (.t 12)⟩,
             ⟨(some 110), none, .faddr 0 (.t 18)⟩,
             ⟨(some 111), none, .load 1 false (.t 110)⟩,
             ⟨(some 112), none, .lkp false (.str []) false [(.sl true 3 [])] (.t 109) (.t 111)⟩,
             ⟨(some 113), none, .faddr 1 (.t 18)⟩,
             ⟨(some 114), none, .load 1 false (.t 113)⟩,
             ⟨(some 115), none, .mv (.t 11)⟩,
             ⟨(some 116), none, .faddr 0 (.t 18)⟩,
             ⟨(some 117), none, .load 1 false (.t 116)⟩,
             ⟨(some 118), none, .lkp false (.str []) false [(.int .i64 0)] (.t 115) (.t 117)⟩,
             ⟨(some 119), none, .call 35 [(.t 112), (.t 114), (.t 118)]⟩,
             ⟨(some 108), none, .mv (.t 119)⟩,
             ⟨(some 120), none, .ext (.t 108) 0⟩,
             ⟨(some 121), none, .ext (.t 108) 1⟩,
             ⟨(some 19), none, .mv (.t 120)⟩,
             ⟨(some 20), none, .mv (.t 121)⟩] false)
           (.seq (.seq (.ops [
              ⟨(some 122), none, .mv (.t 20)⟩,
              ⟨(some 123), none, .bin .neq (.t 122) (.c (.int .i64 0))⟩] false)
            (.cond (.t 123) (.seq (.ops [
               ⟨(some 124), none, .mv (.t 20)⟩,
               ⟨none, none, .store 1 (.t 4) (.c (.sl true 2 []))⟩,
               ⟨none, none, .store 1 (.t 5) (.t 124)⟩] false)
             (.ret))
            (.skip)))
           (.ops [
            ⟨(some 125), none, .mv (.t 12)⟩,
            ⟨(some 126), none, .faddr 0 (.t 18)⟩,
            ⟨(some 127), none, .load 1 false (.t 126)⟩,
            ⟨(some 128), none, .mv (.t 19)⟩,
            ⟨none, none, .mpUpd (.str []) (.t 125) (.t 127) (.t 128)⟩] false)))))
         (.ops [
          ⟨(some 129), none, .bin .add (.t 104) (.c (.int .i64 1))⟩,
          ⟨(some 104), none, .mv (.t 129)⟩] false)))))))))
     (.ops [
      ⟨(some 130), none, .bin .add (.t 97) (.c (.int .i64 1))⟩,
      ⟨(some 97), none, .mv (.t 130)⟩] false)))))))
  (.seq (.ops [
    ⟨(some 21), none, .nilT 2 63⟩] false)
  (.seq (.seq (.ops [
     ⟨(some 131), none, .load 1 false (.t 6)⟩,
     ⟨(some 132), none, .lenL (.t 131)⟩,
     ⟨(some 133), none, .mv (.c (.int .i64 0))⟩] false)
   (.blk 9 (.loop (.seq (.ops [
       ⟨(some 134), none, .bin .lss (.t 133) (.t 132)⟩] false)
     (.seq (.cond (.t 134) (.skip)
      (.exit 9))
     (.seq (.blk 10 (.seq (.ops [
         ⟨(some 135), none, .iaddr 2 (.t 131) (.t 133)⟩,
         ⟨(some 136), none, .load 2 true (.t 135)⟩,
         ⟨(some 23), none, .alloc 58 [(.str []), (.str [])]⟩,
         ⟨none, none, .store 2 (.t 23) (.t 136)⟩] false)
       (.seq (.ops [
         ⟨(some 137), none, .mv (.t 12)⟩,
         ⟨(some 138), none, .faddr 0 (.t 23)⟩,
         ⟨(some 139), none, .load 1 false (.t 138)⟩,
         ⟨(some 140), none, .lkp false (.str []) false [(.sl true 3 [])] (.t 137) (.t 139)⟩,
         ⟨(some 141), none, .lenL (.t 140)⟩,
         ⟨(some 142), none, .bin .gtr (.t 141) (.c (.int .i64 0))⟩] false)
       (.cond (.t 142) (.ops [
         ⟨(some 143), none, .mv (.t 21)⟩,
         ⟨(some 144), none, .faddr 0 (.t 23)⟩,
         ⟨(some 145), none, .load 1 false (.t 144)⟩,
         ⟨(some 146), none, .mv (.t 12)⟩,
         ⟨(some 147), none, .faddr 0 (.t 23)⟩,
         ⟨(some 148), none, .load 1 false (.t 147)⟩,
         ⟨(some 149), none, .lkp false (.str []) false [(.sl true 3 [])] (.t 146) (.t 148)⟩,
         ⟨(some 150), none, .build [(.str []), (.sl true 3 [])] [(0, 1, (.t 145)), (1, 1, (.t 149))]⟩,
         ⟨(some 151), none, .bslice 2 [(.t 150)]⟩,
         ⟨(some 152), none, .app 2 40 63 (.t 143) (.t 151)⟩,
         ⟨(some 21), none, .mv (.t 152)⟩] false)
       (.skip)))))
     (.ops [
      ⟨(some 153), none, .bin .add (.t 133) (.c (.int .i64 1))⟩,
      ⟨(some 133), none, .mv (.t 153)⟩] false)))))))
  (.seq (.ops [
    ⟨(some 154), none, .mv (.t 21)⟩,
    ⟨none, none, .store 1 (.t 4) (.t 154)⟩,
    ⟨none, none, .store 1 (.t 5) (.c (.int .i64 0))⟩] false)
  (.ret)))))))))))) }
theorem cf23 : compF Try.prog [21] Try.f23 = some ir23 := by kernel_rfl
/- whetstone/change.Sort -/
def ir24 : IFn :=
 { nt := 9, res := [.t 2], body := (
  .seq (.ops [
    ⟨(some 2), none, .mv (.c (.sl true 2 []))⟩] false)
  (.seq (.ops [
    ⟨(some 4), none, .mv (.t 0)⟩,
    ⟨(some 5), none, .call 25 [(.t 4)]⟩,
    ⟨(some 3), none, .mv (.t 5)⟩] false)
  (.seq (.ops [
    ⟨(some 6), none, .mv (.t 3)⟩,
    ⟨(some 7), none, .call 36 [(.t 6), (.c (.fn 37))]⟩] false)
  (.seq (.ops [
    ⟨(some 8), none, .mv (.t 3)⟩,
    ⟨(some 2), none, .mv (.t 8)⟩] false)
  (.ret))))) }
theorem cf24 : compF Try.prog [] Try.f24 = some ir24 := by kernel_rfl
/- whetstone/change.Apply -/
def ir26 : IFn :=
 { nt := 58, res := [.t 4, .t 5], body := (
  .seq (.ops [
    ⟨(some 4), none, .mv (.c (.sl true 2 []))⟩,
    ⟨(some 5), none, .mv (.c (.int .i64 0))⟩] false)
  (.seq (.ops [
    ⟨(some 13), none, .mv (.t 0)⟩,
    ⟨(some 14), none, .call 25 [(.t 13)]⟩,
    ⟨(some 6), none, .mv (.t 14)⟩] false)
  (.seq (.ops [
    ⟨(some 15), none, .mkMap⟩,
    ⟨(some 7), none, .mv (.t 15)⟩] false)
  (.seq (.seq (.ops [
     ⟨(some 16), none, .mv (.t 1)⟩,
     ⟨(some 17), none, .lenL (.t 16)⟩,
     ⟨(some 18), none, .mv (.c (.int .i64 0))⟩] false)
   (.blk 0 (.loop (.seq (.ops [
       ⟨(some 19), none, .bin .lss (.t 18) (.t 17)⟩] false)
     (.seq (.cond (.t 19) (.skip)
      (.exit 0))
     (.seq (.blk 1 (.seq (.ops [
         ⟨(some 20), none, .iaddr 2 (.t 16) (.t 18)⟩,
         ⟨(some 21), none, .load 2 true (.t 20)⟩,
         ⟨(some 9), none, .alloc 63 [(.str []), (.sl true 3 [])]⟩,
         ⟨none, none, .store 2 (.t 9) (.t 21)⟩] false)
       (.seq (.ops [
         ⟨(some 22), none, .mv (.t 6)⟩,
         ⟨(some 23), none, .faddr 0 (.t 9)⟩,
         ⟨(some 24), none, .load 1 false (.t 23)⟩,
         ⟨(some 25), none, .call 28 [(.t 22), (.t 24)]⟩,
         ⟨(some 10), none, .mv (.t 25)⟩] false)
       (.seq (.blk 2 (.seq (.ops [
           ⟨(some 27), none, .mv (.t 10)⟩,
           ⟨(some 28), none, .bin .lss (.t 27) (.c (.int .i64 0))⟩,
           ⟨(some 26), none, .mv (.t 28)⟩] false)
         (.cond (.t 26) (.seq (.ops [
            ⟨(some 4), none, .mv (.c (.sl true 2 []))⟩,
            ⟨(some 5), none, .mv (.c (.int .i64 32))⟩] false)
          (.ret))
         (.seq (.ops [
            ⟨(some 30), none, .mv (.t 7)⟩,
            ⟨(some 31), none, .faddr 0 (.t 9)⟩,
            ⟨(some 32), none, .load 1 false (.t 31)⟩,
            ⟨(some 33), none, .lkp false (.str []) false [(.bool false)] (.t 30) (.t 32)⟩,
            ⟨(some 29), none, .mv (.t 33)⟩] false)
          (.cond (.t 29) (.seq (.ops [
             ⟨(some 4), none, .mv (.c (.sl true 2 []))⟩,
             ⟨(some 5), none, .mv (.c (.int .i64 4))⟩] false)
           (.ret))
          (.skip))))))
       (.seq (.ops [
         ⟨(some 34), none, .mv (.t 7)⟩,
         ⟨(some 35), none, .faddr 0 (.t 9)⟩,
         ⟨(some 36), none, .load 1 false (.t 35)⟩,
         ⟨none, none, .mpUpd (.str []) (.t 34) (.t 36) (.c (.bool true))⟩] false)
       (.seq (.ops [
         ⟨(some 38), none, .mv (.t 6)⟩,
         ⟨(some 39), none, .mv (.t 10)⟩,
         ⟨(some 40), none, .iaddr 2 (.t 38) (.t 39)⟩,
         ⟨(some 41), none, .faddr 1 (.t 40)⟩,
         ⟨(some 42), none, .load 1 false (.t 41)⟩,
         ⟨(some 43), none, .faddr 1 (.t 9)⟩,
         ⟨(some 44), none, .load 1 false (.t 43)⟩,
         ⟨(some 45), none, .call 39 [(.t 42), (.t 44)]⟩,
         ⟨(some 37), none, .mv (.t 45)⟩,
         ⟨(some 46), none, .ext (.t 37) 0⟩,
         ⟨(some 47), none, .ext (.t 37) 1⟩,
         ⟨(some 11), none, .mv (.t 46)⟩,
         ⟨(some 12), none, .mv (.t 47)⟩] true)
       (.seq (.seq (.ops [
          ⟨(some 48), none, .mv (.t 12)⟩,
          ⟨(some 49), none, .bin .neq (.t 48) (.c (.int .i64 0))⟩] false)
        (.cond (.t 49) (.seq (.ops [
           ⟨(some 50), none, .mv (.t 12)⟩,
           ⟨(some 4), none, .mv (.c (.sl true 2 []))⟩,
           ⟨(some 5), none, .mv (.t 50)⟩] false)
         (.ret))
        (.skip)))
       (.ops [
        ⟨(some 51), none, .mv (.t 6)⟩,
        ⟨(some 52), none, .mv (.t 10)⟩,
        ⟨(some 53), none, .mv (.t 11)⟩,
        ⟨(some 54), none, .iaddr 2 (.t 51) (.t 52)⟩,
        ⟨(some 55), none, .faddr 1 (.t 54)⟩,
        ⟨none, none, .store 1 (.t 55) (.t 53)⟩] false))))))))
     (.ops [
      ⟨(some 56), none, .bin .add (.t 18) (.c (.int .i64 1))⟩,
      ⟨(some 18), none, .mv (.t 56)⟩] false)))))))
  (.seq (.ops [
    ⟨(some 57), none, .mv (.t 6)⟩,
    ⟨(some 4), none, .mv (.t 57)⟩,
    ⟨(some 5), none, .mv (.c (.int .i64 0))⟩] false)
  (.ret)))))) }
theorem cf26 : compF Try.prog [] Try.f26 = some ir26 := by kernel_rfl
/- whetstone/change.Find -/
def ir28 : IFn :=
 { nt := 8, res := [.t 4], body := (
  .seq (.ops [
    ⟨(some 3), none, .box 9 1 (.t 1)⟩,
    ⟨(some 4), none, .mv (.c (.int .i64 0))⟩] false)
  (.seq (.ops [
    ⟨(some 5), none, .mv (.t 0)⟩,
    ⟨(some 6), none, .mkfn (.func 42) [] [(.t 3)]⟩,
    ⟨(some 7), none, .call 41 [(.t 5), (.t 6)]⟩,
    ⟨(some 4), none, .mv (.t 7)⟩] false)
  (.ret))) }
theorem cf28 : compF Try.prog [] Try.f28 = some ir28 := by kernel_rfl
/- whetstone/history.twin -/
def ir29 : IFn :=
 { nt := 24, res := [.t 2], body := (
  .seq (.ops [
    ⟨(some 2), none, .mv (.c (.sl true 2 []))⟩] false)
  (.seq (.ops [
    ⟨(some 5), none, .mv (.t 0)⟩,
    ⟨(some 6), none, .call 43 [(.t 5)]⟩,
    ⟨(some 3), none, .mv (.t 6)⟩] false)
  (.seq (.seq (.ops [
     ⟨(some 7), none, .mv (.t 3)⟩,
     ⟨(some 8), none, .lenL (.t 7)⟩,
     ⟨(some 9), none, .mv (.c (.int .i64 0))⟩] false)
   (.blk 0 (.loop (.seq (.ops [
       ⟨(some 10), none, .bin .lss (.t 9) (.t 8)⟩] false)
     (.seq (.cond (.t 10) (.skip)
      (.exit 0))
     (.seq (.blk 1 (.seq (.ops [
         ⟨(some 11), none, .mv (.t 9)⟩,
         ⟨(some 4), none, .mv (.t 11)⟩] false)
       (.ops [
        ⟨(some 12), none, .mv (.t 3)⟩,
        ⟨(some 13), none, .mv (.t 4)⟩,
        ⟨(some 14), none, .mv (.t 3)⟩,
        ⟨(some 15), none, .mv (.t 4)⟩,
        ⟨(some 16), none, .iaddr 2 (.t 14) (.t 15)⟩,
        ⟨(some 17), none, .faddr 1 (.t 16)⟩,
        ⟨(some 18), none, .load 1 false (.t 17)⟩,
        ⟨(some 19), none, .call 44 [(.t 18)]⟩,
        ⟨(some 20), none, .iaddr 2 (.t 12) (.t 13)⟩,
        ⟨(some 21), none, .faddr 1 (.t 20)⟩,
        ⟨none, none, .store 1 (.t 21) (.t 19)⟩] false)))
     (.ops [
      ⟨(some 22), none, .bin .add (.t 9) (.c (.int .i64 1))⟩,
      ⟨(some 9), none, .mv (.t 22)⟩] false)))))))
  (.seq (.ops [
    ⟨(some 23), none, .mv (.t 3)⟩,
    ⟨(some 2), none, .mv (.t 23)⟩] false)
  (.ret))))) }
theorem cf29 : compF Try.prog [] Try.f29 = some ir29 := by kernel_rfl
/- whetstone/change.Sort$1 -/
def ir37 : IFn :=
 { nt := 10, res := [.t 4], body := (
  .seq (.ops [
    ⟨(some 2), none, .box 58 2 (.t 0)⟩,
    ⟨(some 3), none, .box 58 2 (.t 1)⟩,
    ⟨(some 4), none, .mv (.c (.int .i64 0))⟩] false)
  (.seq (.ops [
    ⟨(some 5), none, .faddr 0 (.t 2)⟩,
    ⟨(some 6), none, .load 1 false (.t 5)⟩,
    ⟨(some 7), none, .faddr 0 (.t 3)⟩,
    ⟨(some 8), none, .load 1 false (.t 7)⟩,
    ⟨(some 9), none, .call 38 [(.t 6), (.t 8)]⟩,
    ⟨(some 4), none, .mv (.t 9)⟩] false)
  (.ret))) }
theorem cf37 : compF Try.prog [] Try.f37 = some ir37 := by kernel_rfl
/- whetstone/change.Find$1 -/
def ir42 : IFn :=
 { nt := 8, res := [.t 3], body := (
  .seq (.ops [
    ⟨(some 2), none, .box 58 2 (.t 0)⟩,
    ⟨(some 3), none, .mv (.c (.bool false))⟩] false)
  (.seq (.ops [
    ⟨(some 4), none, .faddr 0 (.t 2)⟩,
    ⟨(some 5), none, .load 1 false (.t 4)⟩,
    ⟨(some 6), none, .load 1 false (.t 1)⟩,
    ⟨(some 7), none, .bin .eql (.t 5) (.t 6)⟩,
    ⟨(some 3), none, .mv (.t 7)⟩] false)
  (.ret))) }
theorem cf42 : compF Try.prog [] Try.f42 = some ir42 := by kernel_rfl
end Go.Proofs.Zh
