import Derived.Test.YtjpdjaglggcbkaaZam16
import Derived.Test.YtjpdjaglggcbkaaProg
import Derived.KernelRfl
namespace Go.Proofs.Zh
open Go Go.Zam Go.Proofs
set_option maxRecDepth 100000
/- whetstone/whetstoneref17.Same -/
def ir14 : IFn :=
 { nt := 26, res := [.t 4], body := (
  .seq (.ops [
    ⟨(some 4), none, .mv (.c (.bool false))⟩] false)
  (.seq (.seq (.ops [
     ⟨(some 6), none, .mv (.t 0)⟩,
     ⟨(some 7), none, .lenL (.t 6)⟩,
     ⟨(some 8), none, .mv (.t 1)⟩,
     ⟨(some 9), none, .lenL (.t 8)⟩,
     ⟨(some 10), none, .bin .neq (.t 7) (.t 9)⟩] false)
   (.cond (.t 10) (.seq (.ops [
      ⟨(some 4), none, .mv (.c (.bool false))⟩] false)
    (.ret))
   (.skip)))
  (.seq (.seq (.ops [
     ⟨(some 5), none, .mv (.c (.int .i64 0))⟩] false)
   (.blk 0 (.loop (.seq (.seq (.ops [
        ⟨(some 11), none, .mv (.t 5)⟩,
        ⟨(some 12), none, .mv (.t 0)⟩,
        ⟨(some 13), none, .lenL (.t 12)⟩,
        ⟨(some 14), none, .bin .lss (.t 11) (.t 13)⟩] false)
      (.cond (.t 14) (.skip)
      (.exit 0)))
     (.seq (.blk 1 (.seq (.ops [
         ⟨(some 17), none, .mv (.t 0)⟩,
         ⟨(some 18), none, .mv (.t 5)⟩,
         ⟨(some 19), none, .iaddr 2 (.t 17) (.t 18)⟩,
         ⟨(some 20), none, .load 2 true (.t 19)⟩,
         ⟨(some 21), none, .mv (.t 1)⟩,
         ⟨(some 22), none, .mv (.t 5)⟩,
         ⟨(some 23), none, .iaddr 2 (.t 21) (.t 22)⟩,
         ⟨(some 24), none, .load 2 true (.t 23)⟩,
         ⟨(some 25), none, .eqA true [(.str []), (.str [])] (.t 20) (.t 24)⟩] true)
       (.cond (.t 25) (.seq (.ops [
          ⟨(some 4), none, .mv (.c (.bool false))⟩] false)
        (.ret))
       (.skip))))
     (.ops [
      ⟨(some 15), none, .mv (.t 5)⟩,
      ⟨(some 16), none, .bin .add (.t 15) (.c (.int .i64 1))⟩,
      ⟨(some 5), none, .mv (.t 16)⟩] false))))))
  (.seq (.ops [
    ⟨(some 4), none, .mv (.c (.bool true))⟩] false)
  (.ret))))) }
theorem cf14 : compF Try.prog [] Try.f14 = some ir14 := by kernel_rfl
/- whetstone/whetstoneref31.New -/
def ir15 : IFn :=
 { nt := 31, res := [.t 2, .t 3], body := (
  .seq (.ops [
    ⟨(some 2), none, .mv (.c .nilp)⟩,
    ⟨(some 3), none, .mv (.c (.int .i64 0))⟩] false)
  (.seq (.ops [
    ⟨(some 6), none, .mv (.t 0)⟩,
    ⟨(some 7), none, .call 31 [(.t 6)]⟩,
    ⟨(some 4), none, .mv (.t 7)⟩] false)
  (.seq (.seq (.ops [
     ⟨(some 5), none, .mv (.c (.int .i64 1))⟩] false)
   (.blk 0 (.loop (.seq (.seq (.ops [
        ⟨(some 8), none, .mv (.t 5)⟩,
        ⟨(some 9), none, .mv (.t 4)⟩,
        ⟨(some 10), none, .lenL (.t 9)⟩,
        ⟨(some 11), none, .bin .lss (.t 8) (.t 10)⟩] false)
      (.cond (.t 11) (.skip)
      (.exit 0)))
     (.seq (.blk 1 (.seq (.ops [
         ⟨(some 14), none, .mv (.t 4)⟩,
         ⟨(some 15), none, .mv (.t 5)⟩,
         ⟨(some 16), none, .iaddr 2 (.t 14) (.t 15)⟩,
         ⟨(some 17), none, .faddr 0 (.t 16)⟩,
         ⟨(some 18), none, .load 1 false (.t 17)⟩,
         ⟨(some 19), none, .mv (.t 4)⟩,
         ⟨(some 20), none, .mv (.t 5)⟩,
         ⟨(some 21), none, .bin .sub (.t 20) (.c (.int .i64 1))⟩,
         ⟨(some 22), none, .iaddr 2 (.t 19) (.t 21)⟩,
         ⟨(some 23), none, .faddr 0 (.t 22)⟩,
         ⟨(some 24), none, .load 1 false (.t 23)⟩,
         ⟨(some 25), none, .bin .eql (.t 18) (.t 24)⟩] true)
       (.cond (.t 25) (.seq (.ops [
          ⟨(some 2), none, .mv (.c .nilp)⟩,
          ⟨(some 3), none, .mv (.c (.int .i64 4))⟩] false)
        (.ret))
       (.skip))))
     (.ops [
      ⟨(some 12), none, .mv (.t 5)⟩,
      ⟨(some 13), none, .bin .add (.t 12) (.c (.int .i64 1))⟩,
      ⟨(some 5), none, .mv (.t 13)⟩] false))))))
  (.seq (.ops [
    ⟨(some 26), none, .mv (.t 4)⟩,
    ⟨(some 27), none, .build [(.str []), (.sl true 2 [])] [(0, 1, (.c (.str []))), (1, 1, (.t 26))]⟩,
    ⟨(some 28), none, .bslice 2 [(.t 27)]⟩,
    ⟨(some 29), none, .build [(.sl true 2 []), (.sl true 2 [])] [(0, 1, (.t 28))]⟩,
    ⟨(some 30), none, .box 53 2 (.t 29)⟩,
    ⟨(some 2), none, .mv (.t 30)⟩,
    ⟨(some 3), none, .mv (.c (.int .i64 0))⟩] false)
  (.ret))))) }
theorem cf15 : compF Try.prog [] Try.f15 = some ir15 := by kernel_rfl
/- (*whetstone/whetstoneref31.History).Do -/
def ir16 : IFn :=
 { nt := 48, res := [.t 6], body := (
  .seq (.ops [
    ⟨(some 6), none, .mv (.c (.int .i64 0))⟩] false)
  (.seq (.ops [
    ⟨(some 10), none, .mv (.t 0)⟩,
    ⟨(some 11), none, .call 20 [(.t 10)]⟩,
    ⟨(some 12), none, .mv (.t 2)⟩,
    ⟨(some 13), none, .call 32 [(.t 11), (.t 12)]⟩,
    ⟨(some 9), none, .mv (.t 13)⟩,
    ⟨(some 14), none, .ext (.t 9) 0⟩,
    ⟨(some 15), none, .ext (.t 9) 1⟩,
    ⟨(some 7), none, .mv (.t 14)⟩,
    ⟨(some 8), none, .mv (.t 15)⟩] false)
  (.seq (.seq (.ops [
     ⟨(some 16), none, .mv (.t 8)⟩,
     ⟨(some 17), none, .bin .neq (.t 16) (.c (.int .i64 0))⟩] false)
   (.cond (.t 17) (.seq (.ops [
      ⟨(some 18), none, .mv (.t 8)⟩,
      ⟨(some 6), none, .mv (.t 18)⟩] false)
    (.ret))
   (.skip)))
  (.seq (.ops [
    ⟨(some 19), none, .mv (.t 0)⟩,
    ⟨(some 20), none, .mv (.t 0)⟩,
    ⟨(some 21), none, .nilCheck (.t 20)⟩,
    ⟨(some 22), none, .faddr 0 (.t 21)⟩,
    ⟨(some 23), none, .load 1 false (.t 22)⟩,
    ⟨(some 24), none, .mv (.t 1)⟩,
    ⟨(some 25), none, .mv (.t 7)⟩,
    ⟨(some 26), none, .build [(.str []), (.sl true 2 [])] [(0, 1, (.t 24)), (1, 1, (.t 25))]⟩,
    ⟨(some 27), none, .bslice 2 [(.t 26)]⟩,
    ⟨(some 28), none, .app 2 40 78 (.t 23) (.t 27)⟩,
    ⟨(some 29), none, .nilCheck (.t 19)⟩,
    ⟨(some 30), none, .faddr 0 (.t 29)⟩,
    ⟨none, none, .store 1 (.t 30) (.t 28)⟩] false)
  (.seq (.ops [
    ⟨(some 31), none, .mv (.t 0)⟩,
    ⟨(some 32), none, .nilCheck (.t 31)⟩,
    ⟨(some 33), none, .faddr 1 (.t 32)⟩,
    ⟨none, none, .store 1 (.t 33) (.c (.sl true 2 []))⟩] false)
  (.seq (.seq (.ops [
     ⟨(some 34), none, .mv (.t 0)⟩,
     ⟨(some 35), none, .nilCheck (.t 34)⟩,
     ⟨(some 36), none, .faddr 0 (.t 35)⟩,
     ⟨(some 37), none, .load 1 false (.t 36)⟩,
     ⟨(some 38), none, .lenL (.t 37)⟩,
     ⟨(some 39), none, .bin .gtr (.t 38) (.c (.int .i64 101))⟩] false)
   (.cond (.t 39) (.ops [
     ⟨(some 40), none, .mv (.t 0)⟩,
     ⟨(some 41), none, .mv (.t 0)⟩,
     ⟨(some 42), none, .nilCheck (.t 41)⟩,
     ⟨(some 43), none, .faddr 0 (.t 42)⟩,
     ⟨(some 44), none, .load 1 false (.t 43)⟩,
     ⟨(some 45), none, .slice 2 (.t 44) (some (.c (.int .i64 1))) none none⟩,
     ⟨(some 46), none, .nilCheck (.t 40)⟩,
     ⟨(some 47), none, .faddr 0 (.t 46)⟩,
     ⟨none, none, .store 1 (.t 47) (.t 45)⟩] false)
   (.skip)))
  (.seq (.ops [
    ⟨(some 6), none, .mv (.c (.int .i64 0))⟩] false)
  (.ret)))))))) }
theorem cf16 : compF Try.prog [] Try.f16 = some ir16 := by kernel_rfl
/- (*whetstone/history.History).Notes -/
def ir19 : IFn :=
 { nt := 16, res := [.t 2, .t 3], body := (
  .seq (.ops [
    ⟨(some 2), none, .mv (.c (.sl true 1 []))⟩,
    ⟨(some 3), none, .mv (.c (.sl true 1 []))⟩] false)
  (.seq (.seq (.ops [
     ⟨(some 4), none, .mv (.t 0)⟩,
     ⟨(some 5), none, .isNilP false (.t 4)⟩] false)
   (.cond (.t 5) (.seq (.ops [
      ⟨(some 2), none, .mv (.c (.sl true 1 []))⟩,
      ⟨(some 3), none, .mv (.c (.sl true 1 []))⟩] false)
    (.ret))
   (.skip)))
  (.seq (.ops [
    ⟨(some 6), none, .mv (.t 0)⟩,
    ⟨(some 7), none, .nilCheck (.t 6)⟩,
    ⟨(some 8), none, .faddr 1 (.t 7)⟩,
    ⟨(some 9), none, .load 1 false (.t 8)⟩,
    ⟨(some 10), none, .call 33 [(.t 9)]⟩,
    ⟨(some 11), none, .mv (.t 0)⟩,
    ⟨(some 12), none, .nilCheck (.t 11)⟩,
    ⟨(some 13), none, .faddr 2 (.t 12)⟩,
    ⟨(some 14), none, .load 1 false (.t 13)⟩,
    ⟨(some 15), none, .call 33 [(.t 14)]⟩,
    ⟨(some 2), none, .mv (.t 10)⟩,
    ⟨(some 3), none, .mv (.t 15)⟩] true)
  (.ret)))) }
theorem cf19 : compF Try.prog [] Try.f19 = some ir19 := by kernel_rfl
/- (*whetstone/whetstoneref31.History).Now -/
def ir20 : IFn :=
 { nt := 16, res := [.t 2], body := (
  .seq (.ops [
    ⟨(some 2), none, .mv (.c (.sl true 2 []))⟩] false)
  (.seq (.ops [
    ⟨(some 3), none, .mv (.t 0)⟩,
    ⟨(some 4), none, .nilCheck (.t 3)⟩,
    ⟨(some 5), none, .faddr 0 (.t 4)⟩,
    ⟨(some 6), none, .load 1 false (.t 5)⟩,
    ⟨(some 7), none, .mv (.t 0)⟩,
    ⟨(some 8), none, .nilCheck (.t 7)⟩,
    ⟨(some 9), none, .faddr 0 (.t 8)⟩,
    ⟨(some 10), none, .load 1 false (.t 9)⟩,
    ⟨(some 11), none, .lenL (.t 10)⟩,
    ⟨(some 12), none, .bin .sub (.t 11) (.c (.int .i64 1))⟩,
    ⟨(some 13), none, .iaddr 2 (.t 6) (.t 12)⟩,
    ⟨(some 14), none, .faddr 1 (.t 13)⟩,
    ⟨(some 15), none, .load 1 false (.t 14)⟩,
    ⟨(some 2), none, .mv (.t 15)⟩] true)
  (.ret))) }
theorem cf20 : compF Try.prog [] Try.f20 = some ir20 := by kernel_rfl
/- whetstone/whetstonelaw31.strings -/
def ir21 : IFn :=
 { nt := 26, res := [.t 4], body := (
  .seq (.ops [
    ⟨(some 4), none, .mv (.c (.bool false))⟩] false)
  (.seq (.seq (.ops [
     ⟨(some 6), none, .mv (.t 0)⟩,
     ⟨(some 7), none, .lenL (.t 6)⟩,
     ⟨(some 8), none, .mv (.t 1)⟩,
     ⟨(some 9), none, .lenL (.t 8)⟩,
     ⟨(some 10), none, .bin .neq (.t 7) (.t 9)⟩] false)
   (.cond (.t 10) (.seq (.ops [
      ⟨(some 4), none, .mv (.c (.bool false))⟩] false)
    (.ret))
   (.skip)))
  (.seq (.seq (.ops [
     ⟨(some 11), none, .mv (.t 0)⟩,
     ⟨(some 12), none, .lenL (.t 11)⟩,
     ⟨(some 13), none, .mv (.c (.int .i64 0))⟩] false)
   (.blk 0 (.loop (.seq (.ops [
       ⟨(some 14), none, .bin .lss (.t 13) (.t 12)⟩] false)
     (.seq (.cond (.t 14) (.skip)
      (.exit 0))
     (.seq (.blk 1 (.seq (.ops [
         ⟨(some 15), none, .mv (.t 13)⟩,
         ⟨(some 5), none, .mv (.t 15)⟩] false)
       (.seq (.ops [
         ⟨(some 16), none, .mv (.t 0)⟩,
         ⟨(some 17), none, .mv (.t 5)⟩,
         ⟨(some 18), none, .iaddr 1 (.t 16) (.t 17)⟩,
         ⟨(some 19), none, .load 1 false (.t 18)⟩,
         ⟨(some 20), none, .mv (.t 1)⟩,
         ⟨(some 21), none, .mv (.t 5)⟩,
         ⟨(some 22), none, .iaddr 1 (.t 20) (.t 21)⟩,
         ⟨(some 23), none, .load 1 false (.t 22)⟩,
         ⟨(some 24), none, .bin .neq (.t 19) (.t 23)⟩] true)
       (.cond (.t 24) (.seq (.ops [
          ⟨(some 4), none, .mv (.c (.bool false))⟩] false)
        (.ret))
       (.skip)))))
     (.ops [
      ⟨(some 25), none, .bin .add (.t 13) (.c (.int .i64 1))⟩,
      ⟨(some 13), none, .mv (.t 25)⟩] false)))))))
  (.seq (.ops [
    ⟨(some 4), none, .mv (.c (.bool true))⟩] false)
  (.ret))))) }
theorem cf21 : compF Try.prog [] Try.f21 = some ir21 := by kernel_rfl
/- whetstone/whetstonelaw31.notes -/
def ir22 : IFn :=
 { nt := 19, res := [.t 2], body := (
  .seq (.ops [
    ⟨(some 2), none, .mv (.c (.sl true 1 []))⟩] false)
  (.seq (.ops [
    ⟨(some 3), none, .nilT 1 9⟩] false)
  (.seq (.seq (.ops [
     ⟨(some 6), none, .mv (.t 0)⟩,
     ⟨(some 7), none, .lenL (.t 6)⟩,
     ⟨(some 8), none, .mv (.c (.int .i64 0))⟩] false)
   (.blk 0 (.loop (.seq (.ops [
       ⟨(some 9), none, .bin .lss (.t 8) (.t 7)⟩] false)
     (.seq (.cond (.t 9) (.skip)
      (.exit 0))
     (.seq (.blk 1 (.seq (.ops [
         ⟨(some 10), none, .iaddr 2 (.t 6) (.t 8)⟩,
         ⟨(some 11), none, .load 2 true (.t 10)⟩,
         ⟨(some 5), none, .alloc 78 [(.str []), (.sl true 2 [])]⟩,
         ⟨none, none, .store 2 (.t 5) (.t 11)⟩] false)
       (.ops [
        ⟨(some 12), none, .mv (.t 3)⟩,
        ⟨(some 13), none, .faddr 0 (.t 5)⟩,
        ⟨(some 14), none, .load 1 false (.t 13)⟩,
        ⟨(some 15), none, .bslice 1 [(.t 14)]⟩,
        ⟨(some 16), none, .app 1 16 9 (.t 12) (.t 15)⟩,
        ⟨(some 3), none, .mv (.t 16)⟩] false)))
     (.ops [
      ⟨(some 17), none, .bin .add (.t 8) (.c (.int .i64 1))⟩,
      ⟨(some 8), none, .mv (.t 17)⟩] false)))))))
  (.seq (.ops [
    ⟨(some 18), none, .mv (.t 3)⟩,
    ⟨(some 2), none, .mv (.t 18)⟩] false)
  (.ret))))) }
theorem cf22 : compF Try.prog [3] Try.f22 = some ir22 := by kernel_rfl
end Go.Proofs.Zh
