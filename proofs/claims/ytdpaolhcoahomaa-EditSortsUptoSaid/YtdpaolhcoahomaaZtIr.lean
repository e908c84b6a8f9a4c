/-
  The program's functions that the claim reaches, as code of the abstract machine, and that they are that code.
-/
import Derived.Test.YtdpaolhcoahomaaZam16
import Derived.Test.YtdpaolhcoahomaaProg
import Derived.KernelRfl
namespace Go.Proofs.Zt
open Go Go.Zam Go.Proofs
set_option maxRecDepth 100000
/- whetstone/whetstonelaw02.EditDoes -/
def ir3 : IFn :=
 { nt := 48, res := [.t 4], body := (
  .seq (.ops [
    ⟨(some 4), none, .mv (.c (.bool false))⟩] false)
  (.seq (.seq (.ops [
     ⟨(some 9), none, .mv (.t 0)⟩,
     ⟨(some 10), none, .mv (.t 1)⟩,
     ⟨(some 11), none, .call 8 [(.t 9), (.t 10)]⟩,
     ⟨(some 12), none, .un .not (.t 11)⟩] false)
   (.cond (.t 12) (.seq (.ops [
      ⟨(some 13), none, .call 9 []⟩,
      ⟨(some 4), none, .mv (.t 13)⟩] false)
    (.ret))
   (.skip)))
  (.seq (.ops [
    ⟨(some 15), none, .mv (.t 0)⟩,
    ⟨(some 16), none, .mv (.t 1)⟩,
    ⟨(some 17), none, .call 10 [(.t 15), (.t 16)]⟩,
    ⟨(some 14), none, .mv (.t 17)⟩,
    ⟨(some 18), none, .ext (.t 14) 0⟩,
    ⟨(some 19), none, .ext (.t 14) 1⟩,
    ⟨(some 5), none, .mv (.t 18)⟩,
    ⟨(some 6), none, .mv (.t 19)⟩] false)
  (.seq (.ops [
    ⟨(some 21), none, .mv (.t 0)⟩,
    ⟨(some 22), none, .mv (.t 1)⟩,
    ⟨(some 23), none, .call 11 [(.t 21), (.t 22)]⟩,
    ⟨(some 20), none, .mv (.t 23)⟩,
    ⟨(some 24), none, .ext (.t 20) 0⟩,
    ⟨(some 25), none, .ext (.t 20) 1⟩,
    ⟨(some 7), none, .mv (.t 24)⟩,
    ⟨(some 8), none, .mv (.t 25)⟩] false)
  (.seq (.ops [
    ⟨(some 26), none, .call 9 []⟩,
    ⟨(some 27), none, .mv (.t 26)⟩,
    ⟨(some 28), (some (27, true)), .mv (.t 5)⟩,
    ⟨(some 29), (some (27, true)), .mv (.t 7)⟩,
    ⟨(some 30), (some (27, true)), .bin .eql (.t 28) (.t 29)⟩,
    ⟨(some 31), none, .pick (.t 27) (.t 30) (.c (.bool false))⟩,
    ⟨(some 32), none, .mv (.t 31)⟩,
    ⟨(some 33), (some (32, true)), .mv (.t 6)⟩,
    ⟨(some 34), (some (32, true)), .mv (.t 8)⟩,
    ⟨(some 35), (some (32, true)), .bin .eql (.t 33) (.t 34)⟩,
    ⟨(some 36), none, .pick (.t 32) (.t 35) (.c (.bool false))⟩,
    ⟨(some 37), none, .mv (.t 36)⟩,
    ⟨(some 38), (some (37, true)), .mv (.t 1)⟩,
    ⟨(some 39), (some (37, true)), .mv (.t 0)⟩,
    ⟨(some 40), (some (37, true)), .lenS (.t 39)⟩,
    ⟨(some 41), (some (37, true)), .call 12 [(.t 38), (.t 40)]⟩,
    ⟨(some 42), (some (37, true)), .mv (.t 1)⟩,
    ⟨(some 43), (some (37, true)), .mv (.t 0)⟩,
    ⟨(some 44), (some (37, true)), .lenS (.t 43)⟩,
    ⟨(some 45), (some (37, true)), .call 13 [(.t 42), (.t 44)]⟩,
    ⟨(some 46), (some (37, true)), .bin .eql (.t 41) (.t 45)⟩,
    ⟨(some 47), none, .pick (.t 37) (.t 46) (.c (.bool false))⟩,
    ⟨(some 4), none, .mv (.t 47)⟩] false)
  (.ret)))))) }
theorem cf3 : compF Try.prog [] Try.f3 = some ir3 := by kernel_rfl
/- whetstone/whetstonelaw02.light -/
def ir8 : IFn :=
 { nt := 27, res := [.t 4], body := (
  .seq (.ops [
    ⟨(some 4), none, .mv (.c (.bool false))⟩] false)
  (.seq (.ops [
    ⟨(some 8), none, .mv (.t 0)⟩,
    ⟨(some 9), none, .lenS (.t 8)⟩,
    ⟨(some 5), none, .mv (.t 9)⟩] false)
  (.seq (.seq (.ops [
     ⟨(some 10), none, .mv (.t 1)⟩,
     ⟨(some 11), none, .lenL (.t 10)⟩,
     ⟨(some 12), none, .mv (.c (.int .i64 0))⟩] false)
   (.blk 0 (.loop (.seq (.ops [
       ⟨(some 13), none, .bin .lss (.t 12) (.t 11)⟩] false)
     (.seq (.cond (.t 13) (.skip)
      (.exit 0))
     (.seq (.blk 1 (.seq (.ops [
         ⟨(some 14), none, .iaddr 3 (.t 10) (.t 12)⟩,
         ⟨(some 15), none, .load 3 true (.t 14)⟩,
         ⟨(some 7), none, .alloc 41 [(.int .i64 0), (.int .i64 0), (.str [])]⟩,
         ⟨none, none, .store 3 (.t 7) (.t 15)⟩] false)
       (.seq (.ops [
         ⟨(some 16), none, .mv (.t 5)⟩,
         ⟨(some 17), none, .faddr 2 (.t 7)⟩,
         ⟨(some 18), none, .load 1 false (.t 17)⟩,
         ⟨(some 19), none, .lenS (.t 18)⟩,
         ⟨(some 20), none, .bin .add (.t 16) (.t 19)⟩,
         ⟨(some 5), none, .mv (.t 20)⟩] false)
       (.seq (.ops [
         ⟨(some 21), none, .mv (.t 5)⟩,
         ⟨(some 22), none, .bin .gtr (.t 21) (.c (.int .i64 3000))⟩] false)
       (.cond (.t 22) (.seq (.ops [
          ⟨(some 4), none, .mv (.c (.bool false))⟩] false)
        (.ret))
       (.skip))))))
     (.ops [
      ⟨(some 23), none, .bin .add (.t 12) (.c (.int .i64 1))⟩,
      ⟨(some 12), none, .mv (.t 23)⟩] false)))))))
  (.seq (.ops [
    ⟨(some 24), none, .mv (.t 1)⟩,
    ⟨(some 25), none, .lenL (.t 24)⟩,
    ⟨(some 26), none, .bin .leq (.t 25) (.c (.int .i64 600))⟩,
    ⟨(some 4), none, .mv (.t 26)⟩] false)
  (.ret))))) }
theorem cf8 : compF Try.prog [] Try.f8 = some ir8 := by kernel_rfl
/- whetstone/whetstonelaw02.awake -/
def ir9 : IFn :=
 { nt := 15, res := [.t 0], body := (
  .seq (.ops [
    ⟨(some 0), none, .mv (.c (.bool false))⟩] false)
  (.seq (.ops [
    ⟨(some 4), none, .build [(.int .i64 0), (.int .i64 0), (.str [])] [(0, 1, (.c (.int .i64 1))), (1, 1, (.c (.int .i64 2))), (2, 1, (.c (.str [120, 121])))]⟩,
    ⟨(some 5), none, .bslice 3 [(.t 4)]⟩,
    ⟨(some 6), none, .call 10 [(.c (.str [97, 98, 99])), (.t 5)]⟩,
    ⟨(some 3), none, .mv (.t 6)⟩,
    ⟨(some 7), none, .ext (.t 3) 0⟩,
    ⟨(some 8), none, .ext (.t 3) 1⟩,
    ⟨(some 1), none, .mv (.t 7)⟩,
    ⟨(some 2), none, .mv (.t 8)⟩] false)
  (.seq (.ops [
    ⟨(some 9), none, .mv (.t 2)⟩,
    ⟨(some 10), none, .bin .eql (.t 9) (.c (.int .i64 0))⟩,
    ⟨(some 11), none, .mv (.t 10)⟩,
    ⟨(some 12), (some (11, true)), .mv (.t 1)⟩,
    ⟨(some 13), (some (11, true)), .bin .eql (.t 12) (.c (.str [97, 120, 121, 99]))⟩,
    ⟨(some 14), none, .pick (.t 11) (.t 13) (.c (.bool false))⟩,
    ⟨(some 0), none, .mv (.t 14)⟩] false)
  (.ret)))) }
theorem cf9 : compF Try.prog [] Try.f9 = some ir9 := by kernel_rfl
/- whetstone/edit.Apply -/
def ir10 : IFn :=
 { nt := 41, res := [.t 4, .t 5], body := (
  .seq (.ops [
    ⟨(some 4), none, .mv (.c (.str []))⟩,
    ⟨(some 5), none, .mv (.c (.int .i64 0))⟩] false)
  (.seq (.seq (.ops [
     ⟨(some 11), none, .mv (.t 1)⟩,
     ⟨(some 12), none, .mv (.t 0)⟩,
     ⟨(some 13), none, .lenS (.t 12)⟩,
     ⟨(some 14), none, .call 12 [(.t 11), (.t 13)]⟩,
     ⟨(some 6), none, .mv (.t 14)⟩] false)
   (.seq (.ops [
     ⟨(some 15), none, .mv (.t 6)⟩,
     ⟨(some 16), none, .bin .neq (.t 15) (.c (.int .i64 0))⟩] false)
   (.cond (.t 16) (.seq (.ops [
      ⟨(some 17), none, .mv (.t 6)⟩,
      ⟨(some 4), none, .mv (.c (.str []))⟩,
      ⟨(some 5), none, .mv (.t 17)⟩] false)
    (.ret))
   (.skip))))
  (.seq (.ops [
    ⟨(some 7), none, .allocT 46 [.nilp, (.sl true 1 [])] 1 1 5⟩] false)
  (.seq (.ops [
    ⟨(some 8), none, .mv (.c (.int .i64 0))⟩] false)
  (.seq (.seq (.ops [
     ⟨(some 18), none, .mv (.t 1)⟩,
     ⟨(some 19), none, .lenL (.t 18)⟩,
     ⟨(some 20), none, .mv (.c (.int .i64 0))⟩] false)
   (.blk 0 (.loop (.seq (.ops [
       ⟨(some 21), none, .bin .lss (.t 20) (.t 19)⟩] false)
     (.seq (.cond (.t 21) (.skip)
      (.exit 0))
     (.seq (.blk 1 (.seq (.ops [
         ⟨(some 22), none, .iaddr 3 (.t 18) (.t 20)⟩,
         ⟨(some 23), none, .load 3 true (.t 22)⟩,
         ⟨(some 10), none, .alloc 41 [(.int .i64 0), (.int .i64 0), (.str [])]⟩,
         ⟨none, none, .store 3 (.t 10) (.t 23)⟩] false)
       (.seq (.ops [
         ⟨(some 24), none, .mv (.t 0)⟩,
         ⟨(some 25), none, .mv (.t 8)⟩,
         ⟨(some 26), none, .faddr 0 (.t 10)⟩,
         ⟨(some 27), none, .load 1 false (.t 26)⟩,
         ⟨(some 28), none, .sslice (.t 24) (some (.t 25)) (some (.t 27))⟩,
         ⟨(some 29), none, .call 18 [(.t 7), (.t 28)]⟩] false)
       (.seq (.ops [
         ⟨(some 30), none, .faddr 2 (.t 10)⟩,
         ⟨(some 31), none, .load 1 false (.t 30)⟩,
         ⟨(some 32), none, .call 18 [(.t 7), (.t 31)]⟩] false)
       (.ops [
        ⟨(some 33), none, .faddr 1 (.t 10)⟩,
        ⟨(some 34), none, .load 1 false (.t 33)⟩,
        ⟨(some 8), none, .mv (.t 34)⟩] false)))))
     (.ops [
      ⟨(some 35), none, .bin .add (.t 20) (.c (.int .i64 1))⟩,
      ⟨(some 20), none, .mv (.t 35)⟩] false)))))))
  (.seq (.ops [
    ⟨(some 36), none, .mv (.t 0)⟩,
    ⟨(some 37), none, .mv (.t 8)⟩,
    ⟨(some 38), none, .sslice (.t 36) (some (.t 37)) none⟩,
    ⟨(some 39), none, .call 18 [(.t 7), (.t 38)]⟩] false)
  (.seq (.ops [
    ⟨(some 40), none, .call 19 [(.t 7)]⟩,
    ⟨(some 4), none, .mv (.t 40)⟩,
    ⟨(some 5), none, .mv (.c (.int .i64 0))⟩] false)
  (.ret)))))))) }
theorem cf10 : compF Try.prog [7] Try.f10 = some ir10 := by kernel_rfl
/- whetstone/whetstoneref02.Apply -/
def ir11 : IFn :=
 { nt := 97, res := [.t 4, .t 5], body := (
  .seq (.ops [
    ⟨(some 4), none, .mv (.c (.str []))⟩,
    ⟨(some 5), none, .mv (.c (.int .i64 0))⟩] false)
  (.seq (.ops [
    ⟨(some 11), none, .mv (.t 1)⟩,
    ⟨(some 12), none, .mv (.t 0)⟩,
    ⟨(some 13), none, .lenS (.t 12)⟩,
    ⟨(some 14), none, .call 13 [(.t 11), (.t 13)]⟩,
    ⟨(some 6), none, .mv (.t 14)⟩] false)
  (.seq (.seq (.ops [
     ⟨(some 15), none, .mv (.t 6)⟩,
     ⟨(some 16), none, .bin .neq (.t 15) (.c (.int .i64 0))⟩] false)
   (.cond (.t 16) (.seq (.ops [
      ⟨(some 17), none, .mv (.t 6)⟩,
      ⟨(some 4), none, .mv (.c (.str []))⟩,
      ⟨(some 5), none, .mv (.t 17)⟩] false)
    (.ret))
   (.skip)))
  (.seq (.ops [
    ⟨(some 7), none, .mv (.c (.str []))⟩] false)
  (.seq (.ops [
    ⟨(some 8), none, .mv (.c (.int .i64 0))⟩] false)
  (.seq (.seq (.ops [
     ⟨(some 9), none, .mv (.c (.int .i64 0))⟩] false)
   (.blk 0 (.loop (.seq (.seq (.ops [
        ⟨(some 18), none, .mv (.t 9)⟩,
        ⟨(some 19), none, .mv (.t 0)⟩,
        ⟨(some 20), none, .lenS (.t 19)⟩,
        ⟨(some 21), none, .bin .leq (.t 18) (.t 20)⟩] false)
      (.cond (.t 21) (.skip)
      (.exit 0)))
     (.seq (.blk 1 (.seq (.seq (.ops [
          ⟨(some 24), none, .mv (.t 8)⟩,
          ⟨(some 25), none, .mv (.t 1)⟩,
          ⟨(some 26), none, .lenL (.t 25)⟩,
          ⟨(some 27), none, .bin .lss (.t 24) (.t 26)⟩,
          ⟨(some 28), none, .mv (.t 27)⟩,
          ⟨(some 29), (some (28, true)), .mv (.t 1)⟩,
          ⟨(some 30), (some (28, true)), .mv (.t 8)⟩,
          ⟨(some 31), (some (28, true)), .iaddr 3 (.t 29) (.t 30)⟩,
          ⟨(some 32), (some (28, true)), .faddr 0 (.t 31)⟩,
          ⟨(some 33), (some (28, true)), .load 1 false (.t 32)⟩,
          ⟨(some 34), (some (28, true)), .mv (.t 9)⟩,
          ⟨(some 35), (some (28, true)), .bin .eql (.t 33) (.t 34)⟩,
          ⟨(some 36), none, .pick (.t 28) (.t 35) (.c (.bool false))⟩] false)
        (.cond (.t 36) (.ops [
          ⟨(some 37), none, .mv (.t 7)⟩,
          ⟨(some 38), none, .mv (.t 1)⟩,
          ⟨(some 39), none, .mv (.t 8)⟩,
          ⟨(some 40), none, .iaddr 3 (.t 38) (.t 39)⟩,
          ⟨(some 41), none, .faddr 2 (.t 40)⟩,
          ⟨(some 42), none, .load 1 false (.t 41)⟩,
          ⟨(some 43), none, .bin .add (.t 37) (.t 42)⟩,
          ⟨(some 7), none, .mv (.t 43)⟩] false)
        (.skip)))
       (.seq (.seq (.ops [
          ⟨(some 44), none, .mv (.t 8)⟩,
          ⟨(some 45), none, .mv (.t 1)⟩,
          ⟨(some 46), none, .lenL (.t 45)⟩,
          ⟨(some 47), none, .bin .lss (.t 44) (.t 46)⟩,
          ⟨(some 48), none, .mv (.t 47)⟩,
          ⟨(some 49), (some (48, true)), .mv (.t 1)⟩,
          ⟨(some 50), (some (48, true)), .mv (.t 8)⟩,
          ⟨(some 51), (some (48, true)), .iaddr 3 (.t 49) (.t 50)⟩,
          ⟨(some 52), (some (48, true)), .faddr 1 (.t 51)⟩,
          ⟨(some 53), (some (48, true)), .load 1 false (.t 52)⟩,
          ⟨(some 54), (some (48, true)), .mv (.t 9)⟩,
          ⟨(some 55), (some (48, true)), .bin .eql (.t 53) (.t 54)⟩,
          ⟨(some 56), none, .pick (.t 48) (.t 55) (.c (.bool false))⟩] false)
        (.cond (.t 56) (.ops [
          ⟨(some 57), none, .mv (.t 8)⟩,
          ⟨(some 58), none, .bin .add (.t 57) (.c (.int .i64 1))⟩,
          ⟨(some 8), none, .mv (.t 58)⟩] false)
        (.skip)))
       (.seq (.ops [
         ⟨(some 59), none, .mv (.t 8)⟩,
         ⟨(some 60), none, .mv (.t 1)⟩,
         ⟨(some 61), none, .lenL (.t 60)⟩,
         ⟨(some 62), none, .bin .lss (.t 59) (.t 61)⟩,
         ⟨(some 63), none, .mv (.t 62)⟩,
         ⟨(some 64), (some (63, true)), .mv (.t 1)⟩,
         ⟨(some 65), (some (63, true)), .mv (.t 8)⟩,
         ⟨(some 66), (some (63, true)), .iaddr 3 (.t 64) (.t 65)⟩,
         ⟨(some 67), (some (63, true)), .faddr 0 (.t 66)⟩,
         ⟨(some 68), (some (63, true)), .load 1 false (.t 67)⟩,
         ⟨(some 69), (some (63, true)), .mv (.t 9)⟩,
         ⟨(some 70), (some (63, true)), .bin .leq (.t 68) (.t 69)⟩,
         ⟨(some 71), none, .pick (.t 63) (.t 70) (.c (.bool false))⟩,
         ⟨(some 72), none, .mv (.t 71)⟩,
         ⟨(some 73), (some (72, true)), .mv (.t 9)⟩,
         ⟨(some 74), (some (72, true)), .mv (.t 1)⟩,
         ⟨(some 75), (some (72, true)), .mv (.t 8)⟩,
         ⟨(some 76), (some (72, true)), .iaddr 3 (.t 74) (.t 75)⟩,
         ⟨(some 77), (some (72, true)), .faddr 1 (.t 76)⟩,
         ⟨(some 78), (some (72, true)), .load 1 false (.t 77)⟩,
         ⟨(some 79), (some (72, true)), .bin .lss (.t 73) (.t 78)⟩,
         ⟨(some 80), none, .pick (.t 72) (.t 79) (.c (.bool false))⟩,
         ⟨(some 10), none, .mv (.t 80)⟩] false)
       (.seq (.ops [
         ⟨(some 81), none, .mv (.t 9)⟩,
         ⟨(some 82), none, .mv (.t 0)⟩,
         ⟨(some 83), none, .lenS (.t 82)⟩,
         ⟨(some 84), none, .bin .lss (.t 81) (.t 83)⟩,
         ⟨(some 85), none, .mv (.t 84)⟩,
         ⟨(some 86), (some (85, true)), .mv (.t 10)⟩,
         ⟨(some 87), (some (85, true)), .un .not (.t 86)⟩,
         ⟨(some 88), none, .pick (.t 85) (.t 87) (.c (.bool false))⟩] false)
       (.cond (.t 88) (.ops [
         ⟨(some 89), none, .mv (.t 7)⟩,
         ⟨(some 90), none, .mv (.t 0)⟩,
         ⟨(some 91), none, .mv (.t 9)⟩,
         ⟨(some 92), none, .mv (.t 9)⟩,
         ⟨(some 93), none, .bin .add (.t 92) (.c (.int .i64 1))⟩,
         ⟨(some 94), none, .sslice (.t 90) (some (.t 91)) (some (.t 93))⟩,
         ⟨(some 95), none, .bin .add (.t 89) (.t 94)⟩,
         ⟨(some 7), none, .mv (.t 95)⟩] false)
       (.skip)))))))
     (.ops [
      ⟨(some 22), none, .mv (.t 9)⟩,
      ⟨(some 23), none, .bin .add (.t 22) (.c (.int .i64 1))⟩,
      ⟨(some 9), none, .mv (.t 23)⟩] false))))))
  (.seq (.ops [
    ⟨(some 96), none, .mv (.t 7)⟩,
    ⟨(some 4), none, .mv (.t 96)⟩,
    ⟨(some 5), none, .mv (.c (.int .i64 0))⟩] false)
  (.ret)))))))) }
theorem cf11 : compF Try.prog [] Try.f11 = some ir11 := by kernel_rfl
/- whetstone/edit.Sound -/
def ir12 : IFn :=
 { nt := 53, res := [.t 4], body := (
  .seq (.ops [
    ⟨(some 4), none, .mv (.c (.int .i64 0))⟩] false)
  (.seq (.seq (.ops [
     ⟨(some 8), none, .mv (.t 0)⟩,
     ⟨(some 9), none, .lenL (.t 8)⟩,
     ⟨(some 10), none, .bin .gtr (.t 9) (.c (.int .i64 512))⟩] false)
   (.cond (.t 10) (.seq (.ops [
      ⟨(some 4), none, .mv (.c (.int .i64 5))⟩] false)
    (.ret))
   (.skip)))
  (.seq (.ops [
    ⟨(some 5), none, .mv (.c (.int .i64 (-1)))⟩] false)
  (.seq (.seq (.ops [
     ⟨(some 11), none, .mv (.t 0)⟩,
     ⟨(some 12), none, .lenL (.t 11)⟩,
     ⟨(some 13), none, .mv (.c (.int .i64 0))⟩] false)
   (.blk 0 (.loop (.seq (.ops [
       ⟨(some 14), none, .bin .lss (.t 13) (.t 12)⟩] false)
     (.seq (.cond (.t 14) (.skip)
      (.exit 0))
     (.seq (.blk 1 (.seq (.ops [
         ⟨(some 15), none, .iaddr 3 (.t 11) (.t 13)⟩,
         ⟨(some 16), none, .load 3 true (.t 15)⟩,
         ⟨(some 7), none, .alloc 41 [(.int .i64 0), (.int .i64 0), (.str [])]⟩,
         ⟨none, none, .store 3 (.t 7) (.t 16)⟩] false)
       (.seq (.blk 2 (.seq (.ops [
           ⟨(some 18), none, .faddr 0 (.t 7)⟩,
           ⟨(some 19), none, .load 1 false (.t 18)⟩,
           ⟨(some 20), none, .bin .lss (.t 19) (.c (.int .i64 0))⟩,
           ⟨(some 21), none, .mv (.t 20)⟩,
           ⟨(some 22), (some (21, false)), .faddr 0 (.t 7)⟩,
           ⟨(some 23), (some (21, false)), .load 1 false (.t 22)⟩,
           ⟨(some 24), (some (21, false)), .faddr 1 (.t 7)⟩,
           ⟨(some 25), (some (21, false)), .load 1 false (.t 24)⟩,
           ⟨(some 26), (some (21, false)), .bin .gtr (.t 23) (.t 25)⟩,
           ⟨(some 27), none, .pick (.t 21) (.c (.bool true)) (.t 26)⟩,
           ⟨(some 28), none, .mv (.t 27)⟩,
           ⟨(some 29), (some (28, false)), .faddr 1 (.t 7)⟩,
           ⟨(some 30), (some (28, false)), .load 1 false (.t 29)⟩,
           ⟨(some 31), (some (28, false)), .mv (.t 1)⟩,
           ⟨(some 32), (some (28, false)), .bin .gtr (.t 30) (.t 31)⟩,
           ⟨(some 33), none, .pick (.t 28) (.c (.bool true)) (.t 32)⟩,
           ⟨(some 17), none, .mv (.t 33)⟩] false)
         (.cond (.t 17) (.seq (.ops [
            ⟨(some 4), none, .mv (.c (.int .i64 6))⟩] false)
          (.ret))
         (.seq (.ops [
            ⟨(some 35), none, .faddr 0 (.t 7)⟩,
            ⟨(some 36), none, .load 1 false (.t 35)⟩,
            ⟨(some 37), none, .faddr 1 (.t 7)⟩,
            ⟨(some 38), none, .load 1 false (.t 37)⟩,
            ⟨(some 39), none, .bin .eql (.t 36) (.t 38)⟩,
            ⟨(some 40), none, .mv (.t 39)⟩,
            ⟨(some 41), (some (40, true)), .faddr 2 (.t 7)⟩,
            ⟨(some 42), (some (40, true)), .load 1 false (.t 41)⟩,
            ⟨(some 43), (some (40, true)), .bin .eql (.t 42) (.c (.str []))⟩,
            ⟨(some 44), none, .pick (.t 40) (.t 43) (.c (.bool false))⟩,
            ⟨(some 34), none, .mv (.t 44)⟩] false)
          (.cond (.t 34) (.seq (.ops [
             ⟨(some 4), none, .mv (.c (.int .i64 1))⟩] false)
           (.ret))
          (.seq (.ops [
             ⟨(some 46), none, .faddr 0 (.t 7)⟩,
             ⟨(some 47), none, .load 1 false (.t 46)⟩,
             ⟨(some 48), none, .mv (.t 5)⟩,
             ⟨(some 49), none, .bin .leq (.t 47) (.t 48)⟩,
             ⟨(some 45), none, .mv (.t 49)⟩] false)
           (.cond (.t 45) (.seq (.ops [
              ⟨(some 4), none, .mv (.c (.int .i64 7))⟩] false)
            (.ret))
           (.skip))))))))
       (.ops [
        ⟨(some 50), none, .faddr 1 (.t 7)⟩,
        ⟨(some 51), none, .load 1 false (.t 50)⟩,
        ⟨(some 5), none, .mv (.t 51)⟩] false))))
     (.ops [
      ⟨(some 52), none, .bin .add (.t 13) (.c (.int .i64 1))⟩,
      ⟨(some 13), none, .mv (.t 52)⟩] false)))))))
  (.seq (.ops [
    ⟨(some 4), none, .mv (.c (.int .i64 0))⟩] false)
  (.ret)))))) }
theorem cf12 : compF Try.prog [] Try.f12 = some ir12 := by kernel_rfl
/- whetstone/whetstoneref02.Sound -/
def ir13 : IFn :=
 { nt := 60, res := [.t 4], body := (
  .seq (.ops [
    ⟨(some 4), none, .mv (.c (.int .i64 0))⟩] false)
  (.seq (.seq (.ops [
     ⟨(some 7), none, .mv (.t 0)⟩,
     ⟨(some 8), none, .lenL (.t 7)⟩,
     ⟨(some 9), none, .bin .gtr (.t 8) (.c (.int .i64 512))⟩] false)
   (.cond (.t 9) (.seq (.ops [
      ⟨(some 4), none, .mv (.c (.int .i64 5))⟩] false)
    (.ret))
   (.skip)))
  (.seq (.seq (.ops [
     ⟨(some 5), none, .mv (.c (.int .i64 0))⟩] false)
   (.blk 0 (.loop (.seq (.seq (.ops [
        ⟨(some 10), none, .mv (.t 5)⟩,
        ⟨(some 11), none, .mv (.t 0)⟩,
        ⟨(some 12), none, .lenL (.t 11)⟩,
        ⟨(some 13), none, .bin .lss (.t 10) (.t 12)⟩] false)
      (.cond (.t 13) (.skip)
      (.exit 0)))
     (.seq (.blk 1 (.seq (.ops [
         ⟨(some 16), none, .mv (.t 0)⟩,
         ⟨(some 17), none, .mv (.t 5)⟩,
         ⟨(some 18), none, .iaddr 3 (.t 16) (.t 17)⟩,
         ⟨(some 19), none, .load 3 true (.t 18)⟩,
         ⟨(some 6), none, .alloc 41 [(.int .i64 0), (.int .i64 0), (.str [])]⟩,
         ⟨none, none, .store 3 (.t 6) (.t 19)⟩] false)
       (.seq (.seq (.ops [
          ⟨(some 20), none, .faddr 0 (.t 6)⟩,
          ⟨(some 21), none, .load 1 false (.t 20)⟩,
          ⟨(some 22), none, .bin .lss (.t 21) (.c (.int .i64 0))⟩,
          ⟨(some 23), none, .mv (.t 22)⟩,
          ⟨(some 24), (some (23, false)), .faddr 1 (.t 6)⟩,
          ⟨(some 25), (some (23, false)), .load 1 false (.t 24)⟩,
          ⟨(some 26), (some (23, false)), .faddr 0 (.t 6)⟩,
          ⟨(some 27), (some (23, false)), .load 1 false (.t 26)⟩,
          ⟨(some 28), (some (23, false)), .bin .lss (.t 25) (.t 27)⟩,
          ⟨(some 29), none, .pick (.t 23) (.c (.bool true)) (.t 28)⟩,
          ⟨(some 30), none, .mv (.t 29)⟩,
          ⟨(some 31), (some (30, false)), .faddr 1 (.t 6)⟩,
          ⟨(some 32), (some (30, false)), .load 1 false (.t 31)⟩,
          ⟨(some 33), (some (30, false)), .mv (.t 1)⟩,
          ⟨(some 34), (some (30, false)), .bin .gtr (.t 32) (.t 33)⟩,
          ⟨(some 35), none, .pick (.t 30) (.c (.bool true)) (.t 34)⟩] false)
        (.cond (.t 35) (.seq (.ops [
           ⟨(some 4), none, .mv (.c (.int .i64 6))⟩] false)
         (.ret))
        (.skip)))
       (.seq (.seq (.ops [
          ⟨(some 36), none, .faddr 0 (.t 6)⟩,
          ⟨(some 37), none, .load 1 false (.t 36)⟩,
          ⟨(some 38), none, .faddr 1 (.t 6)⟩,
          ⟨(some 39), none, .load 1 false (.t 38)⟩,
          ⟨(some 40), none, .bin .eql (.t 37) (.t 39)⟩,
          ⟨(some 41), none, .mv (.t 40)⟩,
          ⟨(some 42), (some (41, true)), .faddr 2 (.t 6)⟩,
          ⟨(some 43), (some (41, true)), .load 1 false (.t 42)⟩,
          ⟨(some 44), (some (41, true)), .lenS (.t 43)⟩,
          ⟨(some 45), (some (41, true)), .bin .eql (.t 44) (.c (.int .i64 0))⟩,
          ⟨(some 46), none, .pick (.t 41) (.t 45) (.c (.bool false))⟩] false)
        (.cond (.t 46) (.seq (.ops [
           ⟨(some 4), none, .mv (.c (.int .i64 1))⟩] false)
         (.ret))
        (.skip)))
       (.seq (.ops [
         ⟨(some 47), none, .mv (.t 5)⟩,
         ⟨(some 48), none, .bin .gtr (.t 47) (.c (.int .i64 0))⟩,
         ⟨(some 49), none, .mv (.t 48)⟩,
         ⟨(some 50), (some (49, true)), .mv (.t 0)⟩,
         ⟨(some 51), (some (49, true)), .mv (.t 5)⟩,
         ⟨(some 52), (some (49, true)), .bin .sub (.t 51) (.c (.int .i64 1))⟩,
         ⟨(some 53), (some (49, true)), .iaddr 3 (.t 50) (.t 52)⟩,
         ⟨(some 54), (some (49, true)), .faddr 1 (.t 53)⟩,
         ⟨(some 55), (some (49, true)), .load 1 false (.t 54)⟩,
         ⟨(some 56), (some (49, true)), .faddr 0 (.t 6)⟩,
         ⟨(some 57), (some (49, true)), .load 1 false (.t 56)⟩,
         ⟨(some 58), (some (49, true)), .bin .geq (.t 55) (.t 57)⟩,
         ⟨(some 59), none, .pick (.t 49) (.t 58) (.c (.bool false))⟩] true)
       (.cond (.t 59) (.seq (.ops [
          ⟨(some 4), none, .mv (.c (.int .i64 7))⟩] false)
        (.ret))
       (.skip)))))))
     (.ops [
      ⟨(some 14), none, .mv (.t 5)⟩,
      ⟨(some 15), none, .bin .add (.t 14) (.c (.int .i64 1))⟩,
      ⟨(some 5), none, .mv (.t 15)⟩] false))))))
  (.seq (.ops [
    ⟨(some 4), none, .mv (.c (.int .i64 0))⟩] false)
  (.ret))))) }
theorem cf13 : compF Try.prog [] Try.f13 = some ir13 := by kernel_rfl
/- (*strings.Builder).WriteString -/
def ir18 : IFn :=
 { nt := 19, res := [.t 4, .t 5], body := (
  .seq (.ops [
    ⟨(some 4), none, .mv (.c (.int .i64 0))⟩,
    ⟨(some 5), none, .mv (.c .nili)⟩] false)
  (.seq (.ops [
    ⟨(some 6), none, .mv (.t 0)⟩,
    ⟨(some 7), none, .call 28 [(.t 6)]⟩] false)
  (.seq (.ops [
    ⟨(some 8), none, .mv (.t 0)⟩,
    ⟨(some 9), none, .mv (.t 0)⟩,
    ⟨(some 10), none, .nilCheck (.t 9)⟩,
    ⟨(some 11), none, .faddr 1 (.t 10)⟩,
    ⟨(some 12), none, .load 1 false (.t 11)⟩,
    ⟨(some 13), none, .mv (.t 1)⟩,
    ⟨(some 14), none, .appS 5 (.t 12) (.t 13)⟩,
    ⟨(some 15), none, .nilCheck (.t 8)⟩,
    ⟨(some 16), none, .faddr 1 (.t 15)⟩,
    ⟨none, none, .store 1 (.t 16) (.t 14)⟩] false)
  (.seq (.ops [
    ⟨(some 17), none, .mv (.t 1)⟩,
    ⟨(some 18), none, .lenS (.t 17)⟩,
    ⟨(some 4), none, .mv (.t 18)⟩,
    ⟨(some 5), none, .mv (.c .nili)⟩] false)
  (.ret))))) }
theorem cf18 : compF Try.prog [] Try.f18 = some ir18 := by kernel_rfl
end Go.Proofs.Zt
