/-
  Texts of one proof, one behind the other: An abstract machine over the model, hundred and fifty-third part: the form of the functions of the layer of deltas, over any program that has them. (Printed by gen.py.) An abstract machine over the model, hundred and fifty-fourth part: units of tokens, over any program that has them. The lengths are bounded. An abstract machine over the model, hundred and fifty-fifth part: how much two lists of units have in common at their beginnings and ends, where one ends, over any program that has the functions. The lengths are bounded. An abstract machine over the model, hundred and fifty-sixth part: the table of how much the ends of two lists have in common, over any program that has it. The lengths are bounded. An abstract machine over the model, hundred and fifty-seventh part: what differs between two lists of units, over any program that has the functions. The lengths are bounded. An abstract machine over the model, hundred and fifty-eighth part: edits out of what differs, over any program that has the functions. The lengths are bounded. An abstract machine over the model, hundred and fifty-ninth part: edits between two lists of tokens, and how much they keep, over any program that has the functions. The lengths are bounded. An abstract machine over the model, hundred and sixtieth part: how much two lists of tokens keep, over any program that has the functions. The lengths are bounded. An abstract machine over the model, two hundred and fourth part: printed forms of chapter 17's functions. No program in sight. No condition. An abstract machine over the model, two hundred and fifth part: modules and changes (change.Sort, Find, Apply; what a law's own Light and Same answer), over any program. No condition but bounds. An abstract machine over the model, two hundred and sixth part: the document's answer of chapter 02 (Sound, Apply), over any program. No condition but bounds. An abstract machine over the model, hundred and ninetieth part: a row that was appended to, and stands in a variable, handed to a function that writes its cells; given back as a plain slice. No program in sight. No condition. An abstract machine over the model, hundred and ninety-eighth part: a row that was appended to, handed to a function that writes its cells, and used on; given back as a plain slice. No program in sight. No condition.
-/
import Derived.Test.YtffdeeooocookaaDoorM4
import Derived.Test.YtffdeeooocookaaDoorM3
namespace Go.Zam
set_option linter.all false
set_option maxRecDepth 100000

def irDUnits (t1 t2 : Nat) : IFn :=
 { nt := 38, res := [.t 2], body := (
  .seq (.ops [
    ⟨(some 2), none, .mv (.c (.sl true 2 []))⟩] false)
  (.seq (.ops [
    ⟨(some 3), none, .nilT 2 t1⟩] false)
  (.seq (.ops [
    ⟨(some 4), none, .mv (.c (.int .i64 0))⟩] false)
  (.seq (.seq (.ops [
     ⟨(some 9), none, .mv (.t 0)⟩,
     ⟨(some 10), none, .lenL (.t 9)⟩,
     ⟨(some 11), none, .mv (.c (.int .i64 0))⟩] false)
   (.blk 0 (.loop (.seq (.ops [
       ⟨(some 12), none, .bin .lss (.t 11) (.t 10)⟩] false)
     (.seq (.cond (.t 12) (.skip)
      (.exit 0))
     (.seq (.blk 1 (.seq (.ops [
         ⟨(some 13), none, .iaddr 4 (.t 9) (.t 11)⟩,
         ⟨(some 14), none, .load 4 true (.t 13)⟩,
         ⟨(some 6), none, .alloc t2 [(.int .i64 0), (.int .i64 0), (.str []), (.str [])]⟩,
         ⟨none, none, .store 4 (.t 6) (.t 14)⟩] false)
       (.seq (.ops [
         ⟨(some 15), none, .faddr 2 (.t 6)⟩,
         ⟨(some 16), none, .load 1 false (.t 15)⟩,
         ⟨(some 17), none, .faddr 3 (.t 6)⟩,
         ⟨(some 18), none, .load 1 false (.t 17)⟩,
         ⟨(some 19), none, .build [(.str []), (.str [])] [(0, 1, (.t 16)), (1, 1, (.t 18))]⟩,
         ⟨(some 20), none, .mv (.c (.int .i64 0))⟩] false)
       (.blk 2 (.loop (.seq (.ops [
           ⟨(some 21), none, .bin .lss (.t 20) (.c (.int .i64 2))⟩] false)
         (.seq (.cond (.t 21) (.skip)
          (.exit 2))
         (.seq (.blk 3 (.seq (.ops [
             ⟨(some 22), none, .aidx 2 (.t 19) (.t 20)⟩,
             ⟨(some 8), none, .mv (.t 22)⟩] false)
           (.seq (.seq (.ops [
              ⟨(some 23), none, .mv (.t 8)⟩,
              ⟨(some 24), none, .bin .neq (.t 23) (.c (.str []))⟩] false)
            (.cond (.t 24) (.ops [
              ⟨(some 25), none, .mv (.t 3)⟩,
              ⟨(some 26), none, .mv (.t 8)⟩,
              ⟨(some 27), none, .mv (.t 4)⟩,
              ⟨(some 28), none, .build [(.str []), (.int .i64 0)] [(0, 1, (.t 26)), (1, 1, (.t 27))]⟩,
              ⟨(some 29), none, .bslice 2 [(.t 28)]⟩,
              ⟨(some 30), none, .app 2 24 t1 (.t 25) (.t 29)⟩,
              ⟨(some 3), none, .mv (.t 30)⟩] false)
            (.skip)))
           (.ops [
            ⟨(some 31), none, .mv (.t 4)⟩,
            ⟨(some 32), none, .mv (.t 8)⟩,
            ⟨(some 33), none, .lenS (.t 32)⟩,
            ⟨(some 34), none, .bin .add (.t 31) (.t 33)⟩,
            ⟨(some 4), none, .mv (.t 34)⟩] false))))
         (.ops [
          ⟨(some 35), none, .bin .add (.t 20) (.c (.int .i64 1))⟩,
          ⟨(some 20), none, .mv (.t 35)⟩] false)))))))))
     (.ops [
      ⟨(some 36), none, .bin .add (.t 11) (.c (.int .i64 1))⟩,
      ⟨(some 11), none, .mv (.t 36)⟩] false)))))))
  (.seq (.ops [
    ⟨(some 37), none, .mv (.t 3)⟩,
    ⟨(some 2), none, .mv (.t 37)⟩] false)
  (.ret)))))) }

def irDAlike : IFn :=
 { nt := 32, res := [.t 4], body := (
  .seq (.ops [
    ⟨(some 4), none, .mv (.c (.int .i64 0))⟩] false)
  (.seq (.ops [
    ⟨(some 5), none, .mv (.c (.int .i64 0))⟩] false)
  (.seq (.blk 0 (.loop (.seq (.seq (.ops [
        ⟨(some 6), none, .mv (.t 5)⟩,
        ⟨(some 7), none, .mv (.t 0)⟩,
        ⟨(some 8), none, .lenL (.t 7)⟩,
        ⟨(some 9), none, .bin .lss (.t 6) (.t 8)⟩,
        ⟨(some 10), none, .mv (.t 9)⟩,
        ⟨(some 11), (some (10, true)), .mv (.t 5)⟩,
        ⟨(some 12), (some (10, true)), .mv (.t 1)⟩,
        ⟨(some 13), (some (10, true)), .lenL (.t 12)⟩,
        ⟨(some 14), (some (10, true)), .bin .lss (.t 11) (.t 13)⟩,
        ⟨(some 15), none, .pick (.t 10) (.t 14) (.c (.bool false))⟩,
        ⟨(some 16), none, .mv (.t 15)⟩,
        ⟨(some 17), (some (16, true)), .mv (.t 0)⟩,
        ⟨(some 18), (some (16, true)), .mv (.t 5)⟩,
        ⟨(some 19), (some (16, true)), .iaddr 2 (.t 17) (.t 18)⟩,
        ⟨(some 20), (some (16, true)), .faddr 0 (.t 19)⟩,
        ⟨(some 21), (some (16, true)), .load 1 false (.t 20)⟩,
        ⟨(some 22), (some (16, true)), .mv (.t 1)⟩,
        ⟨(some 23), (some (16, true)), .mv (.t 5)⟩,
        ⟨(some 24), (some (16, true)), .iaddr 2 (.t 22) (.t 23)⟩,
        ⟨(some 25), (some (16, true)), .faddr 0 (.t 24)⟩,
        ⟨(some 26), (some (16, true)), .load 1 false (.t 25)⟩,
        ⟨(some 27), (some (16, true)), .bin .eql (.t 21) (.t 26)⟩,
        ⟨(some 28), none, .pick (.t 16) (.t 27) (.c (.bool false))⟩] true)
      (.cond (.t 28) (.skip)
      (.exit 0)))
     (.blk 1 (.ops [
       ⟨(some 29), none, .mv (.t 5)⟩,
       ⟨(some 30), none, .bin .add (.t 29) (.c (.int .i64 1))⟩,
       ⟨(some 5), none, .mv (.t 30)⟩] false)))))
  (.seq (.ops [
    ⟨(some 31), none, .mv (.t 5)⟩,
    ⟨(some 4), none, .mv (.t 31)⟩] false)
  (.ret))))) }

def irDTail : IFn :=
 { nt := 40, res := [.t 4], body := (
  .seq (.ops [
    ⟨(some 4), none, .mv (.c (.int .i64 0))⟩] false)
  (.seq (.ops [
    ⟨(some 5), none, .mv (.c (.int .i64 0))⟩] false)
  (.seq (.blk 0 (.loop (.seq (.seq (.ops [
        ⟨(some 6), none, .mv (.t 5)⟩,
        ⟨(some 7), none, .mv (.t 0)⟩,
        ⟨(some 8), none, .lenL (.t 7)⟩,
        ⟨(some 9), none, .bin .lss (.t 6) (.t 8)⟩,
        ⟨(some 10), none, .mv (.t 9)⟩,
        ⟨(some 11), (some (10, true)), .mv (.t 5)⟩,
        ⟨(some 12), (some (10, true)), .mv (.t 1)⟩,
        ⟨(some 13), (some (10, true)), .lenL (.t 12)⟩,
        ⟨(some 14), (some (10, true)), .bin .lss (.t 11) (.t 13)⟩,
        ⟨(some 15), none, .pick (.t 10) (.t 14) (.c (.bool false))⟩,
        ⟨(some 16), none, .mv (.t 15)⟩,
        ⟨(some 17), (some (16, true)), .mv (.t 0)⟩,
        ⟨(some 18), (some (16, true)), .mv (.t 0)⟩,
        ⟨(some 19), (some (16, true)), .lenL (.t 18)⟩,
        ⟨(some 20), (some (16, true)), .bin .sub (.t 19) (.c (.int .i64 1))⟩,
        ⟨(some 21), (some (16, true)), .mv (.t 5)⟩,
        ⟨(some 22), (some (16, true)), .bin .sub (.t 20) (.t 21)⟩,
        ⟨(some 23), (some (16, true)), .iaddr 2 (.t 17) (.t 22)⟩,
        ⟨(some 24), (some (16, true)), .faddr 0 (.t 23)⟩,
        ⟨(some 25), (some (16, true)), .load 1 false (.t 24)⟩,
        ⟨(some 26), (some (16, true)), .mv (.t 1)⟩,
        ⟨(some 27), (some (16, true)), .mv (.t 1)⟩,
        ⟨(some 28), (some (16, true)), .lenL (.t 27)⟩,
        ⟨(some 29), (some (16, true)), .bin .sub (.t 28) (.c (.int .i64 1))⟩,
        ⟨(some 30), (some (16, true)), .mv (.t 5)⟩,
        ⟨(some 31), (some (16, true)), .bin .sub (.t 29) (.t 30)⟩,
        ⟨(some 32), (some (16, true)), .iaddr 2 (.t 26) (.t 31)⟩,
        ⟨(some 33), (some (16, true)), .faddr 0 (.t 32)⟩,
        ⟨(some 34), (some (16, true)), .load 1 false (.t 33)⟩,
        ⟨(some 35), (some (16, true)), .bin .eql (.t 25) (.t 34)⟩,
        ⟨(some 36), none, .pick (.t 16) (.t 35) (.c (.bool false))⟩] true)
      (.cond (.t 36) (.skip)
      (.exit 0)))
     (.blk 1 (.ops [
       ⟨(some 37), none, .mv (.t 5)⟩,
       ⟨(some 38), none, .bin .add (.t 37) (.c (.int .i64 1))⟩,
       ⟨(some 5), none, .mv (.t 38)⟩] false)))))
  (.seq (.ops [
    ⟨(some 39), none, .mv (.t 5)⟩,
    ⟨(some 4), none, .mv (.t 39)⟩] false)
  (.ret))))) }

def irDEnd (t1 : Nat) : IFn :=
 { nt := 19, res := [.t 2], body := (
  .seq (.ops [
    ⟨(some 2), none, .mv (.c (.int .i64 0))⟩] false)
  (.seq (.seq (.ops [
     ⟨(some 4), none, .mv (.t 0)⟩,
     ⟨(some 5), none, .lenL (.t 4)⟩,
     ⟨(some 6), none, .bin .eql (.t 5) (.c (.int .i64 0))⟩] false)
   (.cond (.t 6) (.seq (.ops [
      ⟨(some 2), none, .mv (.c (.int .i64 0))⟩] false)
    (.ret))
   (.skip)))
  (.seq (.ops [
    ⟨(some 7), none, .mv (.t 0)⟩,
    ⟨(some 8), none, .mv (.t 0)⟩,
    ⟨(some 9), none, .lenL (.t 8)⟩,
    ⟨(some 10), none, .bin .sub (.t 9) (.c (.int .i64 1))⟩,
    ⟨(some 11), none, .iaddr 2 (.t 7) (.t 10)⟩,
    ⟨(some 12), none, .load 2 true (.t 11)⟩,
    ⟨(some 3), none, .alloc t1 [(.str []), (.int .i64 0)]⟩,
    ⟨none, none, .store 2 (.t 3) (.t 12)⟩] false)
  (.seq (.ops [
    ⟨(some 13), none, .faddr 1 (.t 3)⟩,
    ⟨(some 14), none, .load 1 false (.t 13)⟩,
    ⟨(some 15), none, .faddr 0 (.t 3)⟩,
    ⟨(some 16), none, .load 1 false (.t 15)⟩,
    ⟨(some 17), none, .lenS (.t 16)⟩,
    ⟨(some 18), none, .bin .add (.t 14) (.t 17)⟩,
    ⟨(some 2), none, .mv (.t 18)⟩] false)
  (.ret))))) }

def irDEdits (c1 c2 t1 t2 t3 t4 : Nat) : IFn :=
 { nt := 41, res := [.t 8], body := (
  .seq (.ops [
    ⟨(some 5), none, .box t1 1 (.t 1)⟩,
    ⟨(some 7), none, .box t2 1 (.t 3)⟩,
    ⟨(some 8), none, .mv (.c (.sl true 3 []))⟩] false)
  (.seq (.ops [
    ⟨(some 9), none, .nilT 3 t3⟩] false)
  (.seq (.ops [
    ⟨(some 13), none, .mkfn (.func c1) [] [(.t 5), (.t 7)]⟩,
    ⟨(some 10), none, .mv (.t 13)⟩] false)
  (.seq (.seq (.ops [
     ⟨(some 14), none, .mv (.t 0)⟩,
     ⟨(some 15), none, .lenL (.t 14)⟩,
     ⟨(some 16), none, .mv (.c (.int .i64 0))⟩] false)
   (.blk 0 (.loop (.seq (.ops [
       ⟨(some 17), none, .bin .lss (.t 16) (.t 15)⟩] false)
     (.seq (.cond (.t 17) (.skip)
      (.exit 0))
     (.seq (.blk 1 (.seq (.ops [
         ⟨(some 18), none, .iaddr 4 (.t 14) (.t 16)⟩,
         ⟨(some 19), none, .load 4 true (.t 18)⟩,
         ⟨(some 12), none, .alloc t4 [(.int .i64 0), (.int .i64 0), (.int .i64 0), (.int .i64 0)]⟩,
         ⟨none, none, .store 4 (.t 12) (.t 19)⟩] false)
       (.ops [
        ⟨(some 20), none, .mv (.t 9)⟩,
        ⟨(some 21), none, .mv (.t 10)⟩,
        ⟨(some 22), none, .faddr 0 (.t 12)⟩,
        ⟨(some 23), none, .load 1 false (.t 22)⟩,
        ⟨(some 24), none, .callv (.t 21) [(.t 23)]⟩,
        ⟨(some 25), none, .mv (.t 10)⟩,
        ⟨(some 26), none, .faddr 1 (.t 12)⟩,
        ⟨(some 27), none, .load 1 false (.t 26)⟩,
        ⟨(some 28), none, .callv (.t 25) [(.t 27)]⟩,
        ⟨(some 29), none, .mv (.t 2)⟩,
        ⟨(some 30), none, .faddr 2 (.t 12)⟩,
        ⟨(some 31), none, .load 1 false (.t 30)⟩,
        ⟨(some 32), none, .faddr 3 (.t 12)⟩,
        ⟨(some 33), none, .load 1 false (.t 32)⟩,
        ⟨(some 34), none, .slice 2 (.t 29) (some (.t 31)) (some (.t 33)) none⟩,
        ⟨(some 35), none, .call c2 [(.t 34)]⟩,
        ⟨(some 36), none, .build [(.int .i64 0), (.int .i64 0), (.str [])] [(0, 1, (.t 24)), (1, 1, (.t 28)), (2, 1, (.t 35))]⟩,
        ⟨(some 37), none, .bslice 3 [(.t 36)]⟩,
        ⟨(some 38), none, .app 3 32 t3 (.t 20) (.t 37)⟩,
        ⟨(some 9), none, .mv (.t 38)⟩] true)))
     (.ops [
      ⟨(some 39), none, .bin .add (.t 16) (.c (.int .i64 1))⟩,
      ⟨(some 16), none, .mv (.t 39)⟩] false)))))))
  (.seq (.ops [
    ⟨(some 40), none, .mv (.t 9)⟩,
    ⟨(some 8), none, .mv (.t 40)⟩] false)
  (.ret)))))) }

def irDRuns (c1 t1 : Nat) : IFn :=
 { nt := 128, res := [.t 4], body := (
  .seq (.ops [
    ⟨(some 4), none, .mv (.c (.sl true 4 []))⟩] false)
  (.seq (.ops [
    ⟨(some 10), none, .mv (.t 0)⟩,
    ⟨(some 11), none, .mv (.t 1)⟩,
    ⟨(some 12), none, .call c1 [(.t 10), (.t 11)]⟩,
    ⟨(some 5), none, .mv (.t 12)⟩] false)
  (.seq (.ops [
    ⟨(some 6), none, .nilT 4 t1⟩] false)
  (.seq (.ops [
    ⟨(some 7), none, .mv (.c (.int .i64 0))⟩,
    ⟨(some 8), none, .mv (.c (.int .i64 0))⟩] false)
  (.seq (.blk 0 (.loop (.seq (.seq (.ops [
        ⟨(some 13), none, .mv (.t 7)⟩,
        ⟨(some 14), none, .mv (.t 0)⟩,
        ⟨(some 15), none, .lenL (.t 14)⟩,
        ⟨(some 16), none, .bin .lss (.t 13) (.t 15)⟩,
        ⟨(some 17), none, .mv (.t 16)⟩,
        ⟨(some 18), (some (17, false)), .mv (.t 8)⟩,
        ⟨(some 19), (some (17, false)), .mv (.t 1)⟩,
        ⟨(some 20), (some (17, false)), .lenL (.t 19)⟩,
        ⟨(some 21), (some (17, false)), .bin .lss (.t 18) (.t 20)⟩,
        ⟨(some 22), none, .pick (.t 17) (.c (.bool true)) (.t 21)⟩] false)
      (.cond (.t 22) (.skip)
      (.exit 0)))
     (.blk 1 (.seq (.seq (.ops [
         ⟨(some 23), none, .mv (.t 7)⟩,
         ⟨(some 24), none, .mv (.t 0)⟩,
         ⟨(some 25), none, .lenL (.t 24)⟩,
         ⟨(some 26), none, .bin .lss (.t 23) (.t 25)⟩,
         ⟨(some 27), none, .mv (.t 26)⟩,
         ⟨(some 28), (some (27, true)), .mv (.t 8)⟩,
         ⟨(some 29), (some (27, true)), .mv (.t 1)⟩,
         ⟨(some 30), (some (27, true)), .lenL (.t 29)⟩,
         ⟨(some 31), (some (27, true)), .bin .lss (.t 28) (.t 30)⟩,
         ⟨(some 32), none, .pick (.t 27) (.t 31) (.c (.bool false))⟩,
         ⟨(some 33), none, .mv (.t 32)⟩,
         ⟨(some 34), (some (33, true)), .mv (.t 0)⟩,
         ⟨(some 35), (some (33, true)), .mv (.t 7)⟩,
         ⟨(some 36), (some (33, true)), .iaddr 2 (.t 34) (.t 35)⟩,
         ⟨(some 37), (some (33, true)), .faddr 0 (.t 36)⟩,
         ⟨(some 38), (some (33, true)), .load 1 false (.t 37)⟩,
         ⟨(some 39), (some (33, true)), .mv (.t 1)⟩,
         ⟨(some 40), (some (33, true)), .mv (.t 8)⟩,
         ⟨(some 41), (some (33, true)), .iaddr 2 (.t 39) (.t 40)⟩,
         ⟨(some 42), (some (33, true)), .faddr 0 (.t 41)⟩,
         ⟨(some 43), (some (33, true)), .load 1 false (.t 42)⟩,
         ⟨(some 44), (some (33, true)), .bin .eql (.t 38) (.t 43)⟩,
         ⟨(some 45), none, .pick (.t 33) (.t 44) (.c (.bool false))⟩] true)
       (.cond (.t 45) (.seq (.ops [
          ⟨(some 46), none, .mv (.t 7)⟩,
          ⟨(some 47), none, .bin .add (.t 46) (.c (.int .i64 1))⟩,
          ⟨(some 48), none, .mv (.t 8)⟩,
          ⟨(some 49), none, .bin .add (.t 48) (.c (.int .i64 1))⟩,
          ⟨(some 7), none, .mv (.t 47)⟩,
          ⟨(some 8), none, .mv (.t 49)⟩] false)
        (.exit 1))
       (.skip)))
      (.seq (.ops [
        ⟨(some 50), none, .mv (.t 7)⟩,
        ⟨(some 51), none, .mv (.t 8)⟩,
        ⟨(some 52), none, .build [(.int .i64 0), (.int .i64 0), (.int .i64 0), (.int .i64 0)] [(0, 1, (.t 50)), (2, 1, (.t 51))]⟩,
        ⟨(some 9), none, .alloc t1 [(.int .i64 0), (.int .i64 0), (.int .i64 0), (.int .i64 0)]⟩,
        ⟨none, none, .store 4 (.t 9) (.t 52)⟩] false)
      (.seq (.blk 2 (.loop (.seq (.seq (.ops [
            ⟨(some 53), none, .mv (.t 7)⟩,
            ⟨(some 54), none, .mv (.t 0)⟩,
            ⟨(some 55), none, .lenL (.t 54)⟩,
            ⟨(some 56), none, .bin .lss (.t 53) (.t 55)⟩,
            ⟨(some 57), none, .mv (.t 56)⟩,
            ⟨(some 58), (some (57, false)), .mv (.t 8)⟩,
            ⟨(some 59), (some (57, false)), .mv (.t 1)⟩,
            ⟨(some 60), (some (57, false)), .lenL (.t 59)⟩,
            ⟨(some 61), (some (57, false)), .bin .lss (.t 58) (.t 60)⟩,
            ⟨(some 62), none, .pick (.t 57) (.c (.bool true)) (.t 61)⟩] false)
          (.cond (.t 62) (.skip)
          (.exit 2)))
         (.blk 3 (.seq (.seq (.ops [
             ⟨(some 63), none, .mv (.t 7)⟩,
             ⟨(some 64), none, .mv (.t 0)⟩,
             ⟨(some 65), none, .lenL (.t 64)⟩,
             ⟨(some 66), none, .bin .lss (.t 63) (.t 65)⟩,
             ⟨(some 67), none, .mv (.t 66)⟩,
             ⟨(some 68), (some (67, true)), .mv (.t 8)⟩,
             ⟨(some 69), (some (67, true)), .mv (.t 1)⟩,
             ⟨(some 70), (some (67, true)), .lenL (.t 69)⟩,
             ⟨(some 71), (some (67, true)), .bin .lss (.t 68) (.t 70)⟩,
             ⟨(some 72), none, .pick (.t 67) (.t 71) (.c (.bool false))⟩,
             ⟨(some 73), none, .mv (.t 72)⟩,
             ⟨(some 74), (some (73, true)), .mv (.t 0)⟩,
             ⟨(some 75), (some (73, true)), .mv (.t 7)⟩,
             ⟨(some 76), (some (73, true)), .iaddr 2 (.t 74) (.t 75)⟩,
             ⟨(some 77), (some (73, true)), .faddr 0 (.t 76)⟩,
             ⟨(some 78), (some (73, true)), .load 1 false (.t 77)⟩,
             ⟨(some 79), (some (73, true)), .mv (.t 1)⟩,
             ⟨(some 80), (some (73, true)), .mv (.t 8)⟩,
             ⟨(some 81), (some (73, true)), .iaddr 2 (.t 79) (.t 80)⟩,
             ⟨(some 82), (some (73, true)), .faddr 0 (.t 81)⟩,
             ⟨(some 83), (some (73, true)), .load 1 false (.t 82)⟩,
             ⟨(some 84), (some (73, true)), .bin .eql (.t 78) (.t 83)⟩,
             ⟨(some 85), none, .pick (.t 73) (.t 84) (.c (.bool false))⟩] true)
           (.cond (.t 85) (.exit 2)
           (.skip)))
          (.seq (.ops [
            ⟨(some 86), none, .mv (.t 8)⟩,
            ⟨(some 87), none, .mv (.t 1)⟩,
            ⟨(some 88), none, .lenL (.t 87)⟩,
            ⟨(some 89), none, .bin .eql (.t 86) (.t 88)⟩,
            ⟨(some 90), none, .mv (.t 89)⟩,
            ⟨(some 91), (some (90, false)), .mv (.t 7)⟩,
            ⟨(some 92), (some (90, false)), .mv (.t 0)⟩,
            ⟨(some 93), (some (90, false)), .lenL (.t 92)⟩,
            ⟨(some 94), (some (90, false)), .bin .lss (.t 91) (.t 93)⟩,
            ⟨(some 95), (some (90, false)), .mv (.t 94)⟩,
            ⟨(some 96), (some (95, true)), .mv (.t 5)⟩,
            ⟨(some 97), (some (95, true)), .mv (.t 7)⟩,
            ⟨(some 98), (some (95, true)), .bin .add (.t 97) (.c (.int .i64 1))⟩,
            ⟨(some 99), (some (95, true)), .iaddr 1 (.t 96) (.t 98)⟩,
            ⟨(some 100), (some (95, true)), .load 1 false (.t 99)⟩,
            ⟨(some 101), (some (95, true)), .mv (.t 8)⟩,
            ⟨(some 102), (some (95, true)), .iaddr 1 (.t 100) (.t 101)⟩,
            ⟨(some 103), (some (95, true)), .load 1 false (.t 102)⟩,
            ⟨(some 104), (some (95, true)), .mv (.t 5)⟩,
            ⟨(some 105), (some (95, true)), .mv (.t 7)⟩,
            ⟨(some 106), (some (95, true)), .iaddr 1 (.t 104) (.t 105)⟩,
            ⟨(some 107), (some (95, true)), .load 1 false (.t 106)⟩,
            ⟨(some 108), (some (95, true)), .mv (.t 8)⟩,
            ⟨(some 109), (some (95, true)), .bin .add (.t 108) (.c (.int .i64 1))⟩,
            ⟨(some 110), (some (95, true)), .iaddr 1 (.t 107) (.t 109)⟩,
            ⟨(some 111), (some (95, true)), .load 1 false (.t 110)⟩,
            ⟨(some 112), (some (95, true)), .bin .geq (.t 103) (.t 111)⟩,
            ⟨(some 113), (some (90, false)), .pick (.t 95) (.t 112) (.c (.bool false))⟩,
            ⟨(some 114), none, .pick (.t 90) (.c (.bool true)) (.t 113)⟩] true)
          (.cond (.t 114) (.ops [
            ⟨(some 115), none, .mv (.t 7)⟩,
            ⟨(some 116), none, .bin .add (.t 115) (.c (.int .i64 1))⟩,
            ⟨(some 7), none, .mv (.t 116)⟩] false)
          (.ops [
            ⟨(some 117), none, .mv (.t 8)⟩,
            ⟨(some 118), none, .bin .add (.t 117) (.c (.int .i64 1))⟩,
            ⟨(some 8), none, .mv (.t 118)⟩] false))))))))
      (.seq (.ops [
        ⟨(some 119), none, .mv (.t 7)⟩,
        ⟨(some 120), none, .mv (.t 8)⟩,
        ⟨(some 121), none, .faddr 1 (.t 9)⟩,
        ⟨none, none, .store 1 (.t 121) (.t 119)⟩,
        ⟨(some 122), none, .faddr 3 (.t 9)⟩,
        ⟨none, none, .store 1 (.t 122) (.t 120)⟩] false)
      (.ops [
       ⟨(some 123), none, .mv (.t 6)⟩,
       ⟨(some 124), none, .load 4 true (.t 9)⟩,
       ⟨(some 125), none, .bslice 4 [(.t 124)]⟩,
       ⟨(some 126), none, .app 4 32 t1 (.t 123) (.t 125)⟩,
       ⟨(some 6), none, .mv (.t 126)⟩] false)))))))))
  (.seq (.ops [
    ⟨(some 127), none, .mv (.t 6)⟩,
    ⟨(some 4), none, .mv (.t 127)⟩] false)
  (.ret))))))) }

def irDTable : IFn :=
 { nt := 91, res := [.t 4], body := (
  .seq (.ops [
    ⟨(some 4), none, .mv (.c (.sl true 1 []))⟩] false)
  (.seq (.ops [
    ⟨(some 9), none, .mv (.t 0)⟩,
    ⟨(some 10), none, .lenL (.t 9)⟩,
    ⟨(some 11), none, .bin .add (.t 10) (.c (.int .i64 1))⟩,
    ⟨(some 12), none, .mkSl 1 24 [(.sl true 1 [])] (.t 11) (.t 11)⟩,
    ⟨(some 5), none, .mv (.t 12)⟩] false)
  (.seq (.seq (.ops [
     ⟨(some 13), none, .mv (.t 5)⟩,
     ⟨(some 14), none, .lenL (.t 13)⟩,
     ⟨(some 15), none, .mv (.c (.int .i64 0))⟩] false)
   (.blk 0 (.loop (.seq (.ops [
       ⟨(some 16), none, .bin .lss (.t 15) (.t 14)⟩] false)
     (.seq (.cond (.t 16) (.skip)
      (.exit 0))
     (.seq (.blk 1 (.seq (.ops [
         ⟨(some 17), none, .mv (.t 15)⟩,
         ⟨(some 6), none, .mv (.t 17)⟩] false)
       (.ops [
        ⟨(some 18), none, .mv (.t 5)⟩,
        ⟨(some 19), none, .mv (.t 6)⟩,
        ⟨(some 20), none, .mv (.t 1)⟩,
        ⟨(some 21), none, .lenL (.t 20)⟩,
        ⟨(some 22), none, .bin .add (.t 21) (.c (.int .i64 1))⟩,
        ⟨(some 23), none, .mkSl 1 4 [(.int .i32 0)] (.t 22) (.t 22)⟩,
        ⟨(some 24), none, .iaddr 1 (.t 18) (.t 19)⟩,
        ⟨none, none, .store 1 (.t 24) (.t 23)⟩] false)))
     (.ops [
      ⟨(some 25), none, .bin .add (.t 15) (.c (.int .i64 1))⟩,
      ⟨(some 15), none, .mv (.t 25)⟩] false)))))))
  (.seq (.seq (.ops [
     ⟨(some 26), none, .mv (.t 0)⟩,
     ⟨(some 27), none, .lenL (.t 26)⟩,
     ⟨(some 28), none, .bin .sub (.t 27) (.c (.int .i64 1))⟩,
     ⟨(some 7), none, .mv (.t 28)⟩] false)
   (.blk 2 (.loop (.seq (.seq (.ops [
        ⟨(some 29), none, .mv (.t 7)⟩,
        ⟨(some 30), none, .bin .geq (.t 29) (.c (.int .i64 0))⟩] false)
      (.cond (.t 30) (.skip)
      (.exit 2)))
     (.seq (.blk 3 (.seq (.ops [
         ⟨(some 33), none, .mv (.t 1)⟩,
         ⟨(some 34), none, .lenL (.t 33)⟩,
         ⟨(some 35), none, .bin .sub (.t 34) (.c (.int .i64 1))⟩,
         ⟨(some 8), none, .mv (.t 35)⟩] false)
       (.blk 4 (.loop (.seq (.seq (.ops [
            ⟨(some 36), none, .mv (.t 8)⟩,
            ⟨(some 37), none, .bin .geq (.t 36) (.c (.int .i64 0))⟩] false)
          (.cond (.t 37) (.skip)
          (.exit 4)))
         (.seq (.blk 5 (.seq (.seq (.ops [
              ⟨(some 40), none, .mv (.t 0)⟩,
              ⟨(some 41), none, .mv (.t 7)⟩,
              ⟨(some 42), none, .iaddr 2 (.t 40) (.t 41)⟩,
              ⟨(some 43), none, .faddr 0 (.t 42)⟩,
              ⟨(some 44), none, .load 1 false (.t 43)⟩,
              ⟨(some 45), none, .mv (.t 1)⟩,
              ⟨(some 46), none, .mv (.t 8)⟩,
              ⟨(some 47), none, .iaddr 2 (.t 45) (.t 46)⟩,
              ⟨(some 48), none, .faddr 0 (.t 47)⟩,
              ⟨(some 49), none, .load 1 false (.t 48)⟩,
              ⟨(some 50), none, .bin .eql (.t 44) (.t 49)⟩] true)
            (.cond (.t 50) (.seq (.ops [
               ⟨(some 51), none, .mv (.t 5)⟩,
               ⟨(some 52), none, .mv (.t 7)⟩,
               ⟨(some 53), none, .iaddr 1 (.t 51) (.t 52)⟩,
               ⟨(some 54), none, .load 1 false (.t 53)⟩,
               ⟨(some 55), none, .mv (.t 8)⟩,
               ⟨(some 56), none, .mv (.t 5)⟩,
               ⟨(some 57), none, .mv (.t 7)⟩,
               ⟨(some 58), none, .bin .add (.t 57) (.c (.int .i64 1))⟩,
               ⟨(some 59), none, .iaddr 1 (.t 56) (.t 58)⟩,
               ⟨(some 60), none, .load 1 false (.t 59)⟩,
               ⟨(some 61), none, .mv (.t 8)⟩,
               ⟨(some 62), none, .bin .add (.t 61) (.c (.int .i64 1))⟩,
               ⟨(some 63), none, .iaddr 1 (.t 60) (.t 62)⟩,
               ⟨(some 64), none, .load 1 false (.t 63)⟩,
               ⟨(some 65), none, .bin .add (.t 64) (.c (.int .i32 1))⟩,
               ⟨(some 66), none, .iaddr 1 (.t 54) (.t 55)⟩,
               ⟨none, none, .store 1 (.t 66) (.t 65)⟩] true)
             (.exit 5))
            (.skip)))
           (.ops [
            ⟨(some 67), none, .mv (.t 5)⟩,
            ⟨(some 68), none, .mv (.t 7)⟩,
            ⟨(some 69), none, .iaddr 1 (.t 67) (.t 68)⟩,
            ⟨(some 70), none, .load 1 false (.t 69)⟩,
            ⟨(some 71), none, .mv (.t 8)⟩,
            ⟨(some 72), none, .mv (.t 5)⟩,
            ⟨(some 73), none, .mv (.t 7)⟩,
            ⟨(some 74), none, .bin .add (.t 73) (.c (.int .i64 1))⟩,
            ⟨(some 75), none, .iaddr 1 (.t 72) (.t 74)⟩,
            ⟨(some 76), none, .load 1 false (.t 75)⟩,
            ⟨(some 77), none, .mv (.t 8)⟩,
            ⟨(some 78), none, .iaddr 1 (.t 76) (.t 77)⟩,
            ⟨(some 79), none, .load 1 false (.t 78)⟩,
            ⟨(some 80), none, .mv (.t 5)⟩,
            ⟨(some 81), none, .mv (.t 7)⟩,
            ⟨(some 82), none, .iaddr 1 (.t 80) (.t 81)⟩,
            ⟨(some 83), none, .load 1 false (.t 82)⟩,
            ⟨(some 84), none, .mv (.t 8)⟩,
            ⟨(some 85), none, .bin .add (.t 84) (.c (.int .i64 1))⟩,
            ⟨(some 86), none, .iaddr 1 (.t 83) (.t 85)⟩,
            ⟨(some 87), none, .load 1 false (.t 86)⟩,
            ⟨(some 88), none, .mm true (.t 79) (.t 87)⟩,
            ⟨(some 89), none, .iaddr 1 (.t 70) (.t 71)⟩,
            ⟨none, none, .store 1 (.t 89) (.t 88)⟩] true)))
         (.ops [
          ⟨(some 38), none, .mv (.t 8)⟩,
          ⟨(some 39), none, .bin .sub (.t 38) (.c (.int .i64 1))⟩,
          ⟨(some 8), none, .mv (.t 39)⟩] false)))))))
     (.ops [
      ⟨(some 31), none, .mv (.t 7)⟩,
      ⟨(some 32), none, .bin .sub (.t 31) (.c (.int .i64 1))⟩,
      ⟨(some 7), none, .mv (.t 32)⟩] false))))))
  (.seq (.ops [
    ⟨(some 90), none, .mv (.t 5)⟩,
    ⟨(some 4), none, .mv (.t 90)⟩] false)
  (.ret)))))) }

def irDPlace : IFn :=
 { nt := 15, res := [.t 4], body := (
  .seq (.ops [
    ⟨(some 4), none, .mv (.c (.int .i64 0))⟩] false)
  (.seq (.seq (.ops [
     ⟨(some 5), none, .mv (.t 0)⟩,
     ⟨(some 6), none, .load 1 false (.t 1)⟩,
     ⟨(some 7), none, .lenL (.t 6)⟩,
     ⟨(some 8), none, .bin .lss (.t 5) (.t 7)⟩] false)
   (.cond (.t 8) (.seq (.ops [
      ⟨(some 9), none, .load 1 false (.t 1)⟩,
      ⟨(some 10), none, .mv (.t 0)⟩,
      ⟨(some 11), none, .iaddr 2 (.t 9) (.t 10)⟩,
      ⟨(some 12), none, .faddr 1 (.t 11)⟩,
      ⟨(some 13), none, .load 1 false (.t 12)⟩,
      ⟨(some 4), none, .mv (.t 13)⟩] false)
    (.ret))
   (.skip)))
  (.seq (.ops [
    ⟨(some 14), none, .load 1 false (.t 2)⟩,
    ⟨(some 4), none, .mv (.t 14)⟩] false)
  (.ret)))) }

def irDText (c1 c2 t1 t2 t3 : Nat) : IFn :=
 { nt := 17, res := [.t 2], body := (
  .seq (.ops [
    ⟨(some 2), none, .mv (.c (.str []))⟩] false)
  (.seq (.ops [
    ⟨(some 3), none, .allocT t1 [.nilp, (.sl true 1 [])] 1 1 t2⟩] false)
  (.seq (.seq (.ops [
     ⟨(some 6), none, .mv (.t 0)⟩,
     ⟨(some 7), none, .lenL (.t 6)⟩,
     ⟨(some 8), none, .mv (.c (.int .i64 0))⟩] false)
   (.blk 0 (.loop (.seq (.ops [
       ⟨(some 9), none, .bin .lss (.t 8) (.t 7)⟩] false)
     (.seq (.cond (.t 9) (.skip)
      (.exit 0))
     (.seq (.blk 1 (.seq (.ops [
         ⟨(some 10), none, .iaddr 2 (.t 6) (.t 8)⟩,
         ⟨(some 11), none, .load 2 true (.t 10)⟩,
         ⟨(some 5), none, .alloc t3 [(.str []), (.int .i64 0)]⟩,
         ⟨none, none, .store 2 (.t 5) (.t 11)⟩] false)
       (.ops [
        ⟨(some 12), none, .faddr 0 (.t 5)⟩,
        ⟨(some 13), none, .load 1 false (.t 12)⟩,
        ⟨(some 14), none, .call c1 [(.t 3), (.t 13)]⟩] false)))
     (.ops [
      ⟨(some 15), none, .bin .add (.t 8) (.c (.int .i64 1))⟩,
      ⟨(some 8), none, .mv (.t 15)⟩] false)))))))
  (.seq (.ops [
    ⟨(some 16), none, .call c2 [(.t 3)]⟩,
    ⟨(some 2), none, .mv (.t 16)⟩] false)
  (.ret))))) }

def irDBetween (c1 c2 c3 c4 c5 c6 : Nat) : IFn :=
 { nt := 90, res := [.t 4], body := (
  .seq (.ops [
    ⟨(some 4), none, .mv (.c (.sl true 3 []))⟩] false)
  (.seq (.ops [
    ⟨(some 11), none, .mv (.t 0)⟩,
    ⟨(some 12), none, .call c1 [(.t 11)]⟩,
    ⟨(some 13), none, .mv (.t 1)⟩,
    ⟨(some 14), none, .call c1 [(.t 13)]⟩,
    ⟨(some 5), none, .mv (.t 12)⟩,
    ⟨(some 6), none, .mv (.t 14)⟩] false)
  (.seq (.ops [
    ⟨(some 15), none, .mv (.t 5)⟩,
    ⟨(some 16), none, .mv (.t 6)⟩,
    ⟨(some 17), none, .call c2 [(.t 15), (.t 16)]⟩,
    ⟨(some 7), none, .mv (.t 17)⟩] false)
  (.seq (.ops [
    ⟨(some 18), none, .mv (.t 5)⟩,
    ⟨(some 19), none, .mv (.t 7)⟩,
    ⟨(some 20), none, .slice 2 (.t 18) (some (.t 19)) none none⟩,
    ⟨(some 21), none, .mv (.t 6)⟩,
    ⟨(some 22), none, .mv (.t 7)⟩,
    ⟨(some 23), none, .slice 2 (.t 21) (some (.t 22)) none none⟩,
    ⟨(some 5), none, .mv (.t 20)⟩,
    ⟨(some 6), none, .mv (.t 23)⟩] true)
  (.seq (.ops [
    ⟨(some 24), none, .mv (.t 5)⟩,
    ⟨(some 25), none, .mv (.t 6)⟩,
    ⟨(some 26), none, .call c3 [(.t 24), (.t 25)]⟩,
    ⟨(some 8), none, .mv (.t 26)⟩] false)
  (.seq (.ops [
    ⟨(some 27), none, .mv (.t 5)⟩,
    ⟨(some 28), none, .call c4 [(.t 27)]⟩,
    ⟨(some 9), none, .mv (.t 28)⟩] false)
  (.seq (.seq (.ops [
     ⟨(some 29), none, .mv (.t 5)⟩,
     ⟨(some 30), none, .lenL (.t 29)⟩,
     ⟨(some 31), none, .bin .eql (.t 30) (.c (.int .i64 0))⟩] false)
   (.cond (.t 31) (.ops [
     ⟨(some 32), none, .mv (.t 0)⟩,
     ⟨(some 33), none, .call c1 [(.t 32)]⟩,
     ⟨(some 34), none, .call c4 [(.t 33)]⟩,
     ⟨(some 9), none, .mv (.t 34)⟩] false)
   (.skip)))
  (.seq (.seq (.ops [
     ⟨(some 35), none, .mv (.t 8)⟩,
     ⟨(some 36), none, .bin .gtr (.t 35) (.c (.int .i64 0))⟩] false)
   (.cond (.t 36) (.ops [
     ⟨(some 37), none, .mv (.t 5)⟩,
     ⟨(some 38), none, .mv (.t 5)⟩,
     ⟨(some 39), none, .lenL (.t 38)⟩,
     ⟨(some 40), none, .mv (.t 8)⟩,
     ⟨(some 41), none, .bin .sub (.t 39) (.t 40)⟩,
     ⟨(some 42), none, .iaddr 2 (.t 37) (.t 41)⟩,
     ⟨(some 43), none, .faddr 1 (.t 42)⟩,
     ⟨(some 44), none, .load 1 false (.t 43)⟩,
     ⟨(some 9), none, .mv (.t 44)⟩] false)
   (.skip)))
  (.seq (.ops [
    ⟨(some 45), none, .mv (.t 5)⟩,
    ⟨(some 46), none, .mv (.t 5)⟩,
    ⟨(some 47), none, .lenL (.t 46)⟩,
    ⟨(some 48), none, .mv (.t 8)⟩,
    ⟨(some 49), none, .bin .sub (.t 47) (.t 48)⟩,
    ⟨(some 50), none, .slice 2 (.t 45) none (some (.t 49)) none⟩,
    ⟨(some 51), none, .mv (.t 6)⟩,
    ⟨(some 52), none, .mv (.t 6)⟩,
    ⟨(some 53), none, .lenL (.t 52)⟩,
    ⟨(some 54), none, .mv (.t 8)⟩,
    ⟨(some 55), none, .bin .sub (.t 53) (.t 54)⟩,
    ⟨(some 56), none, .slice 2 (.t 51) none (some (.t 55)) none⟩,
    ⟨(some 5), none, .mv (.t 50)⟩,
    ⟨(some 6), none, .mv (.t 56)⟩] true)
  (.seq (.seq (.ops [
     ⟨(some 57), none, .mv (.t 5)⟩,
     ⟨(some 58), none, .lenL (.t 57)⟩,
     ⟨(some 59), none, .mv (.t 6)⟩,
     ⟨(some 60), none, .lenL (.t 59)⟩,
     ⟨(some 61), none, .bin .add (.t 58) (.t 60)⟩,
     ⟨(some 62), none, .bin .eql (.t 61) (.c (.int .i64 0))⟩] false)
   (.cond (.t 62) (.seq (.ops [
      ⟨(some 4), none, .mv (.c (.sl true 3 []))⟩] false)
    (.ret))
   (.skip)))
  (.seq (.seq (.ops [
     ⟨(some 63), none, .mv (.t 5)⟩,
     ⟨(some 64), none, .lenL (.t 63)⟩,
     ⟨(some 65), none, .mv (.t 6)⟩,
     ⟨(some 66), none, .lenL (.t 65)⟩,
     ⟨(some 67), none, .bin .mul (.t 64) (.t 66)⟩,
     ⟨(some 68), none, .bin .leq (.t 67) (.c (.int .i64 1048576))⟩] false)
   (.cond (.t 68) (.seq (.ops [
      ⟨(some 69), none, .mv (.t 5)⟩,
      ⟨(some 70), none, .mv (.t 6)⟩,
      ⟨(some 71), none, .call c5 [(.t 69), (.t 70)]⟩,
      ⟨(some 72), none, .mv (.t 5)⟩,
      ⟨(some 73), none, .mv (.t 6)⟩,
      ⟨(some 74), none, .mv (.t 9)⟩,
      ⟨(some 75), none, .call c6 [(.t 71), (.t 72), (.t 73), (.t 74)]⟩,
      ⟨(some 10), none, .mv (.t 75)⟩] false)
    (.seq (.ops [
      ⟨(some 76), none, .mv (.t 10)⟩,
      ⟨(some 77), none, .lenL (.t 76)⟩,
      ⟨(some 78), none, .bin .leq (.t 77) (.c (.int .i64 512))⟩] false)
    (.cond (.t 78) (.seq (.ops [
       ⟨(some 79), none, .mv (.t 10)⟩,
       ⟨(some 4), none, .mv (.t 79)⟩] false)
     (.ret))
    (.skip))))
   (.skip)))
  (.seq (.ops [
    ⟨(some 80), none, .mv (.t 5)⟩,
    ⟨(some 81), none, .lenL (.t 80)⟩,
    ⟨(some 82), none, .mv (.t 6)⟩,
    ⟨(some 83), none, .lenL (.t 82)⟩,
    ⟨(some 84), none, .build [(.int .i64 0), (.int .i64 0), (.int .i64 0), (.int .i64 0)] [(0, 1, (.c (.int .i64 0))), (1, 1, (.t 81)), (2, 1, (.c (.int .i64 0))), (3, 1, (.t 83))]⟩,
    ⟨(some 85), none, .bslice 4 [(.t 84)]⟩,
    ⟨(some 86), none, .mv (.t 5)⟩,
    ⟨(some 87), none, .mv (.t 6)⟩,
    ⟨(some 88), none, .mv (.t 9)⟩,
    ⟨(some 89), none, .call c6 [(.t 85), (.t 86), (.t 87), (.t 88)]⟩,
    ⟨(some 4), none, .mv (.t 89)⟩] false)
  (.ret))))))))))))) }

end Go.Zam

namespace Go.Zam
set_option linter.all false
set_option maxRecDepth 100000
set_option maxHeartbeats 1000000

/-- a text, and where it stands -/
structure Un where
  t : Bs
  a : Nat
def encU (u : Un) : List D := [.str u.t, .int .i64 (u.a : Int)]

/-- texts as units, from a place on -/
def unU : Nat → List Bs → List Un
  | _, [] => []
  | p, s :: r => ⟨s, p⟩ :: unU (p + s.length) r

def neB (s : Bs) : Bool := !s.isEmpty
/-- the texts of tokens' units -/
def txU (l : List Tk) : List Bs := l.flatMap fun t => [t.l, t.x].filter neB

theorem unU_len : ∀ (p : Nat) (A : List Bs), (unU p A).length = A.length
  | _, [] => rfl
  | p, s :: r => by simp [unU, unU_len]
theorem unU_app : ∀ (p : Nat) (A B : List Bs), unU p (A ++ B) = unU p A ++ unU (p + A.flatten.length) B
  | p, [], B => by simp [unU]
  | p, s :: r, B => by simp [unU, unU_app, Nat.add_assoc]
theorem unU_take : ∀ (p : Nat) (A : List Bs) (n : Nat), (unU p A).take n = unU p (A.take n)
  | _, [], n => by simp [unU]
  | p, s :: r, 0 => by simp [unU]
  | p, s :: r, n + 1 => by simp [unU, unU_take]
theorem posU_zero (A : List Bs) : posU A 0 = 0 := by simp [posU]
theorem posU_cons (s : Bs) (r : List Bs) (n : Nat) : posU (s :: r) (n + 1) = s.length + posU r n := by simp [posU]
theorem unU_drop : ∀ (p : Nat) (A : List Bs) (n : Nat), (unU p A).drop n = unU (p + posU A n) (A.drop n)
  | p, [], n => by simp [unU]
  | p, s :: r, 0 => by simp [unU, posU_zero]
  | p, s :: r, n + 1 => by simp [unU, unU_drop, posU_cons, Nat.add_assoc]
theorem unU_get : ∀ (p : Nat) (A : List Bs) (i : Nat) (s : Bs), A[i]? = some s → (unU p A)[i]? = some ⟨s, p + posU A i⟩
  | p, [], i, s, h => by simp at h
  | p, x :: r, 0, s, h => by simp at h; subst h; simp [unU, posU_zero]
  | p, x :: r, i + 1, s, h => by
    have := unU_get (p + x.length) r i s (by simpa using h)
    simp [unU, this, posU_cons, Nat.add_assoc]
theorem unU_row {p : Nat} {A : List Bs} {i : Nat} (h : i < A.length) : Zam.rowAt ((unU p A).map encU) (i : Int) = some [.str A[i], .int .i64 ((p + posU A i : Nat) : Int)] :=
  rowAt_get (f := encU) (unU_get p A i A[i] (List.getElem?_eq_getElem h))

theorem filter_flat : ∀ (l : List Bs), (l.filter neB).flatten = l.flatten
  | [] => rfl
  | [] :: r => by simp [neB, filter_flat r]
  | (b :: s) :: r => by simp [neB, filter_flat r]
theorem txU_app (a b : List Tk) : txU (a ++ b) = txU a ++ txU b := by simp [txU]
theorem txU_one (t : Tk) : txU [t] = [t.l, t.x].filter neB := by simp [txU]
theorem txU_flat : ∀ (l : List Tk), (txU l).flatten = joinS l
  | [] => rfl
  | t :: r => by
    have e1 : txU (t :: r) = [t.l, t.x].filter neB ++ txU r := rfl
    have e2 : joinS (t :: r) = (t.l ++ t.x) ++ joinS r := rfl
    rw [e1, e2, List.flatten_append, filter_flat, txU_flat r]; simp
theorem filter_len (l : List Bs) : (l.filter neB).length ≤ l.length := List.length_filter_le ..
theorem txU_len : ∀ (l : List Tk), (txU l).length ≤ 2 * l.length
  | [] => by simp [txU]
  | t :: r => by
    have := txU_len r
    have h2 : ([t.l, t.x].filter neB).length ≤ 2 := filter_len _
    have e1 : txU (t :: r) = [t.l, t.x].filter neB ++ txU r := rfl
    rw [e1]; simp only [List.length_append, List.length_cons]; omega

section
variable {P : Program}

theorem HasT.units {f tu tt} (h : HasT P [3] f (irDUnits tu tt)) (z : Bool) (l : List Tk) (hl : l.length ≤ 1048576) (hj : (joinS l).length ≤ 1048576) (H : Hp) :
    ACall P f [.d (.sl z 4 (l.map encTk))] H (fun r H' => r = .d (.sl true 2 ((unU 0 (txU l)).map encU)) ∧ H' = H) := by
  obtain ⟨fn, hf, hcf⟩ := h
  refine acall_fin hf hcf (by simp [irDUnits]) fun hcl _ => ?_
  simp [irDUnits]
  refine LoopK_outR 0 (fun fr H' => fr 3 = .osl true 2 ((unU 0 (txU l)).map encU) H.length ∧ ∃ n, H' = H ++ [.tok n 2 tu]) (fun _ _ => False) ?_ (fun _ _ h => h.elim) ?_
  · refine RangeK_of (H.length + 1) l.length (fun i fr H' => fr 3 = .osl true 2 ((unU 0 (txU (l.take i))).map encU) H.length ∧ fr 4 = .d (.int .i64 ((joinS (l.take i)).length : Int)) ∧ fr 9 = .d (.sl z 4 (l.map encTk)) ∧ H' = H ++ [.tok (txU (l.take i)).length 2 tu]) (by omega) (by decide) (by simp) (by simp) ?_ ?_ ?_
    · simp [cut_appk hcl, joinS, txU, unU]
    · rintro i fr H' hi f11 f10 ⟨f3, f4, f9, rfl⟩
      have hr := rowAt_map encTk hi
      have ht : l.take (i + 1) = l.take i ++ [l[i]] := List.take_succ_eq_append_getElem hi
      have hjt : joinS (l.take (i + 1)) = joinS (l.take i) ++ (l[i].l ++ l[i].x) := by rw [ht, joinS_app, joinS_one]
      have htx : txU (l.take (i + 1)) = txU (l.take i) ++ [l[i].l, l[i].x].filter neB := by rw [ht, txU_app, txU_one]
      have hb := joinS_take l (i + 1)
      have hbl := txU_len (l.take i)
      have hfl := txU_flat (l.take i)
      rw [hjt] at hb
      simp only [encTk] at hr
      generalize l[i] = t at hr ht hjt hb htx
      obtain ⟨tk, ta, tl, tx⟩ := t
      simp only at hjt htx hb hr
      generalize hS1 : joinS (l.take i) = X at hjt hb hfl f4
      generalize hS2 : txU (l.take i) = T at htx hbl hfl f3
      simp only [List.length_take, List.length_append] at hb hbl
      simp [f11, f9, hr]
      refine LoopK_out 2 (fun fr' H' => fr' 3 = .osl true 2 ((unU 0 (T ++ [tl, tx].filter neB)).map encU) H.length ∧ fr' 4 = .d (.int .i64 ((X.length + (tl.length + tx.length) : Nat) : Int)) ∧ fr' 9 = .d (.sl z 4 (l.map encTk)) ∧ fr' 10 = .d (.int .i64 (l.length : Int)) ∧ fr' 11 = .d (.int .i64 (i : Int)) ∧ H' = H ++ [.tok (T ++ [tl, tx].filter neB).length 2 tu]) ?_ ?_
      · refine LoopM_of (H.length + 1) (fun d fr' H' => ∃ k : Nat, d = 2 - k ∧ k ≤ 2 ∧ fr' 19 = .agg [.d (.str tl), .d (.str tx)] ∧ fr' 20 = .d (.int .i64 (k : Int)) ∧ fr' 3 = .osl true 2 ((unU 0 (T ++ ([tl, tx].take k).filter neB)).map encU) H.length ∧ fr' 4 = .d (.int .i64 ((X.length + ([tl, tx].take k).flatten.length : Nat) : Int)) ∧ fr' 9 = .d (.sl z 4 (l.map encTk)) ∧ fr' 10 = .d (.int .i64 (l.length : Int)) ∧ fr' 11 = .d (.int .i64 (i : Int)) ∧ H' = H ++ [.tok (T ++ ([tl, tx].take k).filter neB).length 2 tu]) 2 (by simp) ⟨0, rfl, by omega, ?_⟩ ?_
        · simp [f3, f4, f9, f10, f11, cut_appk hcl]
        rintro d fr' H' ⟨k, rfl, hk, f19, f20, f3, f4, f9, f10, f11, rfl⟩
        rcases Nat.lt_or_ge k 2 with hlt | hge
        · obtain ⟨y, hy, htk⟩ : ∃ y : Bs, ([.d (.str tl), .d (.str tx)] : List A)[k]? = some (.d (.str y)) ∧ [tl, tx].take (k + 1) = [tl, tx].take k ++ [y] := by
            rcases (by omega : k = 0 ∨ k = 1) with rfl | rfl
            · exact ⟨tl, rfl, rfl⟩
            · exact ⟨tx, rfl, rfl⟩
          have hlt' : (k : Int) < 2 := by omega
          have hyl : ([tl, tx].take k).flatten.length + y.length ≤ tl.length + tx.length := by
            have : ([tl, tx].take (k + 1)).flatten.length ≤ tl.length + tx.length := by
              rcases (by omega : k = 0 ∨ k = 1) with rfl | rfl <;> simp
            rw [htk] at this; simpa using this
          have hfl2 : (([tl, tx].take k).filter neB).length ≤ 2 := Nat.le_trans (filter_len _) (by simp; omega)
          have hff : (T ++ ([tl, tx].take k).filter neB).flatten.length = X.length + ([tl, tx].take k).flatten.length := by rw [List.flatten_append, filter_flat, hfl]; simp
          generalize hY : [tl, tx].take k = Y at f3 f4 htk hyl hfl2 hff ⊢
          have hwk : IntKind.i64.wrap ((k : Int) + 1) = ((k + 1 : Nat) : Int) := by rw [wrap_i64 (by omega) (by omega)]; omega
          obtain ⟨c, hc⟩ : ∃ c, c = X.length + Y.flatten.length := ⟨_, rfl⟩
          rw [← hc] at f4 hff
          have hwa : IntKind.i64.wrap ((c : Int) + y.length) = (c : Int) + y.length := by rw [wrap_i64 (by omega) (by omega)]
          simp [f19, f20, hlt', hy]
          by_cases hye : y = []
          · have hyl0 : y.length = 0 := by rw [hye]; rfl
            have hwc : IntKind.i64.wrap (c : Int) = c := wrap_i64 (by omega) (by omega)
            have hne : [y].filter neB = [] := by rw [hye]; rfl
            simp [hye, f4, f20, hwk, hwc]
            refine NextM_of (H.length + 1) (2 - (k + 1)) (Nat.le_refl _) (by simp) (by omega) ⟨k + 1, rfl, by omega, ?_⟩
            rw [htk, List.filter_append, hne]
            simp [f19, f3, f9, f10, f11, hye, hc, cut_appk hcl]
          · have hne : [y].filter neB = [y] := by simp [neB, hye]
            have hue : unU 0 (T ++ (Y.filter neB ++ [y])) = unU 0 (T ++ Y.filter neB) ++ [⟨y, c⟩] := by
              rw [← List.append_assoc, unU_app, hff]; simp [unU]
            have hbd : ((T.length + (Y.filter neB).length + 1 : Nat) : Int) * 24 ≤ 140737488355328 := by omega
            simp [hye, f3, f4, appA, unU_len]
            rw [if_pos (by omega)]
            simp [f4, hwa, hwk, f20, hye]
            refine NextM_of (H.length + 1) (2 - (k + 1)) (Nat.le_refl _) (by simp) (by omega) ⟨k + 1, rfl, by omega, ?_⟩
            rw [htk, List.filter_append, hne, hue]
            simp [f19, f9, f10, f11, hc, cut_appk hcl, encU, Nat.add_assoc, Int.add_assoc]
        · have : k = 2 := by omega
          subst this
          simp at f3 f4
          simp [f20, f3, f4, f9, f10, f11]
      rintro fr' H' ⟨f3, f4, f9, f10, f11, rfl⟩
      simp
      refine NextK_of (H.length + 1) (by omega) (by simp [f11, f10]) ?_
      simp [f3, f4, f9, cut_appk hcl, hjt, htx]
    · rintro fr H' f11 f10 ⟨f3, f4, f9, rfl⟩
      simp [f3, List.take_of_length_le (Nat.le_refl _)]
  rintro fr H' ⟨f3, n, rfl⟩
  simp [f3]
  simp [RetK, cut_app hcl]

end
end Go.Zam

namespace Go.Zam
set_option linter.all false
set_option maxRecDepth 100000
set_option maxHeartbeats 1000000

/-- how many texts at the beginning are one -/
def alikeN : List Bs → List Bs → Nat
  | a :: A, b :: B => if a = b then alikeN A B + 1 else 0
  | [], _ => 0
  | _ :: _, [] => 0

theorem alikeN_le : ∀ (A B : List Bs), alikeN A B ≤ A.length ∧ alikeN A B ≤ B.length
  | [], B => by simp [alikeN]
  | a :: A, [] => by simp [alikeN]
  | a :: A, b :: B => by
    have := alikeN_le A B
    simp only [alikeN, List.length_cons]
    split <;> omega
theorem alikeN_nil (A : List Bs) : alikeN A [] = 0 := by cases A <;> rfl

section
variable {P : Program}

theorem Has.alike {f} (h : Has P f irDAlike) (z y : Bool) (p q : Nat) (A B : List Bs) (hA : A.length ≤ 1048576) (hB : B.length ≤ 1048576) (H : Hp) :
    ACall P f [.d (.sl z 2 ((unU p A).map encU)), .d (.sl y 2 ((unU q B).map encU))] H (fun r H' => r = .d (.int .i64 (alikeN A B : Int)) ∧ H' = H) := by
  obtain ⟨fn, hf, hcf⟩ := h
  refine acall_fin hf hcf (by simp [irDAlike]) fun hcl _ => ?_
  simp [irDAlike]
  refine LoopK_outR 0 (fun fr H' => fr 5 = .d (.int .i64 (alikeN A B : Int)) ∧ H' = H) (fun _ _ => False) ?_ (fun _ _ h => h.elim) ?_
  · refine LoopM_of H.length (fun d fr H' => ∃ i : Nat, d = A.length - i ∧ i ≤ A.length ∧ i ≤ B.length ∧ alikeN A B = i + alikeN (A.drop i) (B.drop i) ∧ fr 0 = .d (.sl z 2 ((unU p A).map encU)) ∧ fr 1 = .d (.sl y 2 ((unU q B).map encU)) ∧ fr 5 = .d (.int .i64 (i : Int)) ∧ H' = H) A.length (by simp) ⟨0, rfl, by omega, by omega, by simp, ?_⟩ ?_
    · simp [cut_self hcl]
    rintro d fr H' ⟨i, rfl, hiA, hiB, hq, f0, f1, f5, rfl⟩
    have hwi : IntKind.i64.wrap ((i : Int) + 1) = ((i + 1 : Nat) : Int) := by rw [wrap_i64 (by omega) (by omega)]; omega
    rcases Nat.lt_or_ge i A.length with la | la
    · have la' : (i : Int) < A.length := by omega
      rcases Nat.lt_or_ge i B.length with lb | lb
      · have lb' : (i : Int) < B.length := by omega
        have ra := unU_row (p := p) la
        have rb := unU_row (p := q) lb
        rw [List.drop_eq_getElem_cons la, List.drop_eq_getElem_cons lb, alikeN] at hq
        generalize A[i] = a at ra hq
        generalize B[i] = b at rb hq
        simp [f0, f1, f5, unU_len, la', lb', ra, rb]
        by_cases hab : a = b
        · rw [if_pos hab] at hq
          simp [hab, f5, hwi]
          refine NextM_of H'.length (A.length - (i + 1)) (Nat.le_refl _) (by simp) (by omega) ⟨i + 1, rfl, by omega, by omega, by omega, ?_⟩
          simp [f0, f1, cut_self hcl]
        · rw [if_neg hab] at hq
          simp [hab, f5, hq]
      · have lb' : ¬ (i : Int) < B.length := by omega
        rw [List.drop_eq_nil_of_le lb, alikeN_nil] at hq
        simp [f0, f1, f5, unU_len, la', lb', hq]
    · have la' : ¬ (i : Int) < A.length := by omega
      rw [List.drop_eq_nil_of_le la, alikeN] at hq
      simp [f0, f1, f5, unU_len, la', hq]
  rintro fr H' ⟨f5, rfl⟩
  simp [f5]
  simp [RetK, cut_self hcl]

theorem Has.tailA {f} (h : Has P f irDTail) (z y : Bool) (p q : Nat) (A B : List Bs) (hA : A.length ≤ 1048576) (hB : B.length ≤ 1048576) (H : Hp) :
    ACall P f [.d (.sl z 2 ((unU p A).map encU)), .d (.sl y 2 ((unU q B).map encU))] H (fun r H' => r = .d (.int .i64 (alikeN A.reverse B.reverse : Int)) ∧ H' = H) := by
  obtain ⟨fn, hf, hcf⟩ := h
  refine acall_fin hf hcf (by simp [irDTail]) fun hcl _ => ?_
  simp [irDTail]
  refine LoopK_outR 0 (fun fr H' => fr 5 = .d (.int .i64 (alikeN A.reverse B.reverse : Int)) ∧ H' = H) (fun _ _ => False) ?_ (fun _ _ h => h.elim) ?_
  · refine LoopM_of H.length (fun d fr H' => ∃ i : Nat, d = A.length - i ∧ i ≤ A.length ∧ i ≤ B.length ∧ alikeN A.reverse B.reverse = i + alikeN (A.reverse.drop i) (B.reverse.drop i) ∧ fr 0 = .d (.sl z 2 ((unU p A).map encU)) ∧ fr 1 = .d (.sl y 2 ((unU q B).map encU)) ∧ fr 5 = .d (.int .i64 (i : Int)) ∧ H' = H) A.length (by simp) ⟨0, rfl, by omega, by omega, by simp, ?_⟩ ?_
    · simp [cut_self hcl]
    rintro d fr H' ⟨i, rfl, hiA, hiB, hq, f0, f1, f5, rfl⟩
    have hwi : IntKind.i64.wrap ((i : Int) + 1) = ((i + 1 : Nat) : Int) := by rw [wrap_i64 (by omega) (by omega)]; omega
    have wA1 : IntKind.i64.wrap ((A.length : Int) - 1) = (A.length : Int) - 1 := wrap_i64 (by omega) (by omega)
    have wB1 : IntKind.i64.wrap ((B.length : Int) - 1) = (B.length : Int) - 1 := wrap_i64 (by omega) (by omega)
    rcases Nat.lt_or_ge i A.length with la | la
    · have la' : (i : Int) < A.length := by omega
      have wA2 : IntKind.i64.wrap ((A.length : Int) - 1 - i) = ((A.length - 1 - i : Nat) : Int) := by rw [wrap_i64 (by omega) (by omega)]; omega
      rcases Nat.lt_or_ge i B.length with lb | lb
      · have lb' : (i : Int) < B.length := by omega
        have wB2 : IntKind.i64.wrap ((B.length : Int) - 1 - i) = ((B.length - 1 - i : Nat) : Int) := by rw [wrap_i64 (by omega) (by omega)]; omega
        have ra := unU_row (p := p) (A := A) (i := A.length - 1 - i) (by omega)
        have rb := unU_row (p := q) (A := B) (i := B.length - 1 - i) (by omega)
        have hdA : A.reverse.drop i = A[A.length - 1 - i]'(by omega) :: A.reverse.drop (i + 1) := by rw [List.drop_eq_getElem_cons (by simpa using la), List.getElem_reverse]
        have hdB : B.reverse.drop i = B[B.length - 1 - i]'(by omega) :: B.reverse.drop (i + 1) := by rw [List.drop_eq_getElem_cons (by simpa using lb), List.getElem_reverse]
        rw [hdA, hdB, alikeN] at hq
        clear hdA hdB
        generalize A[A.length - 1 - i] = a at ra hq
        generalize B[B.length - 1 - i] = b at rb hq
        generalize A.length - 1 - i = ia at wA2 ra
        generalize B.length - 1 - i = ib at wB2 rb
        simp [f0, f1, f5, unU_len, la', lb', ra, rb, wA1, wA2, wB1, wB2]
        by_cases hab : a = b
        · rw [if_pos hab] at hq
          simp [hab, f5, hwi]
          refine NextM_of H'.length (A.length - (i + 1)) (Nat.le_refl _) (by simp) (by omega) ⟨i + 1, rfl, by omega, by omega, by omega, ?_⟩
          simp [f0, f1, cut_self hcl]
        · rw [if_neg hab] at hq
          simp [hab, f5, hq]
      · have lb' : ¬ (i : Int) < B.length := by omega
        have hz : B.reverse.drop i = [] := List.drop_eq_nil_of_le (by simpa using lb)
        rw [hz, alikeN_nil] at hq
        simp [f0, f1, f5, unU_len, la', lb', hq]
    · have la' : ¬ (i : Int) < A.length := by omega
      have hz : A.reverse.drop i = [] := List.drop_eq_nil_of_le (by simpa using la)
      rw [hz, alikeN] at hq
      simp [f0, f1, f5, unU_len, la', hq]
  rintro fr H' ⟨f5, rfl⟩
  simp [f5]
  simp [RetK, cut_self hcl]

theorem Has.endU {f tu} (h : Has P f (irDEnd tu)) (z : Bool) (p : Nat) (A : List Bs) (hA : A.length ≤ 1048576) (hp : p + A.flatten.length ≤ 1099511627776) (H : Hp) :
    ACall P f [.d (.sl z 2 ((unU p A).map encU))] H (fun r H' => r = .d (.int .i64 ((if A = [] then 0 else p + A.flatten.length : Nat) : Int)) ∧ H' = H) := by
  obtain ⟨fn, hf, hcf⟩ := h
  refine acall_fin hf hcf (by simp [irDEnd]) fun hcl _ => ?_
  by_cases hE : A = []
  · subst hE
    simp [irDEnd, unU]
    simp [RetK, cut_self hcl]
  have hpos : 0 < A.length := List.length_pos_iff.2 hE
  have hn0 : ¬ ((A.length : Int) = 0) := by omega
  have w1 : IntKind.i64.wrap ((A.length : Int) - 1) = ((A.length - 1 : Nat) : Int) := by rw [wrap_i64 (by omega) (by omega)]; omega
  have ra := unU_row (p := p) (A := A) (i := A.length - 1) (by omega)
  have hd : A.drop (A.length - 1) = A[A.length - 1] :: A.drop (A.length - 1 + 1) := List.drop_eq_getElem_cons (by omega)
  have hps := posU_succ hd
  have hpa := posU_all A (i := A.length - 1 + 1) (List.drop_eq_nil_of_le (by omega))
  rw [hpa] at hps
  have hfin : (if A = [] then 0 else p + A.flatten.length : Nat) = p + A.flatten.length := if_neg hE
  rw [hfin]
  generalize A[A.length - 1] = a at ra hps
  generalize posU A (A.length - 1) = k at ra hps
  generalize hi : A.length - 1 = i at w1 ra
  have w2 : IntKind.i64.wrap (((p + k : Nat) : Int) + a.length) = ((p + A.flatten.length : Nat) : Int) := by rw [wrap_i64 (by omega) (by omega)]; omega
  simp only [Int.natCast_add] at w2 ra
  simp [irDEnd, unU_len, hE, w1, ra, w2]
  simp [RetK, cut_app hcl]

theorem Has.place {f} (h : Has P f irDPlace) (z : Bool) (p : Nat) (A : List Bs) (hA : A.length ≤ 1048576) {H : Hp} {ia it : Nat} {t1 t2 : TypeId} (h1 : H[ia]? = some (.box t1 [.d (.sl z 2 ((unU p A).map encU))])) (h2 : H[it]? = some (.box t2 [.d (.int .i64 ((p + A.flatten.length : Nat) : Int))])) (i : Nat) (hi : i ≤ A.length) :
    ACall P f [.d (.int .i64 (i : Int)), .ptr ia 0, .ptr it 0] H (fun r H' => r = .d (.int .i64 ((p + posU A i : Nat) : Int)) ∧ H' = H) := by
  obtain ⟨fn, hf, hcf⟩ := h
  refine acall_fin hf hcf (by simp [irDPlace]) fun hcl _ => ?_
  rcases Nat.lt_or_ge i A.length with la | la
  · have la' : (i : Int) < A.length := by omega
    have ra := unU_row (p := p) la
    generalize A[i] = a at ra
    simp [irDPlace, h1, unU_len, la', ra]
    simp [RetK, cut_self hcl]
  · have la' : ¬ (i : Int) < A.length := by omega
    have := posU_all A (i := i) (List.drop_eq_nil_of_le la)
    simp [irDPlace, h1, h2, unU_len, la', this]
    simp [RetK, cut_self hcl]

theorem flat_take (A : List Bs) (i : Nat) : (A.take i).flatten.length ≤ A.flatten.length := by
  have : A.flatten = (A.take i).flatten ++ (A.drop i).flatten := by rw [← List.flatten_append, List.take_append_drop]
  rw [this]; simp

theorem HasT.textU {f fw fs bt tu} (h : HasT P [3] f (irDText fw fs bt 5 tu)) (hw : WriteSOk P fw bt) (hs : StringOk P fs bt) (z : Bool) (p : Nat) (A : List Bs) (hA : A.length ≤ 1048576) (hp : A.flatten.length ≤ 1048576) (H : Hp) :
    ACall P f [.d (.sl z 2 ((unU p A).map encU))] H (fun r H' => r = .d (.str A.flatten) ∧ H' = H) := by
  obtain ⟨fn, hf, hcf⟩ := h
  refine acall_fin hf hcf (by simp [irDText]) fun hcl _ => ?_
  simp [irDText]
  refine LoopK_outR 0 (fun fr H' => ∃ a, fr 3 = .ptr (H.length + 1) 0 ∧ H' = H ++ [.tok A.flatten.length 1 5, .box bt [a, .osl true 1 (byteRows A.flatten) H.length]]) (fun _ _ => False) ?_ (fun _ _ h => h.elim) ?_
  · refine RangeK_of (H.length + 2) A.length (fun i fr H' => ∃ a, (a = .d .nilp ∨ a = .ptr (H.length + 1) 0) ∧ fr 3 = .ptr (H.length + 1) 0 ∧ fr 6 = .d (.sl z 2 ((unU p A).map encU)) ∧ H' = H ++ [.tok (A.take i).flatten.length 1 5, .box bt [a, .osl true 1 (byteRows (A.take i).flatten) H.length]]) (by omega) (by decide) (by simp) (by simp [unU_len]) ?_ ?_ ?_
    · simp [cut_appk hcl, byteRows]
    · rintro i fr H' hi f8 f7 ⟨a, ha, f3, f6, rfl⟩
      have hr := unU_row (p := p) hi
      have ht : (A.take (i + 1)).flatten = (A.take i).flatten ++ A[i] := by rw [List.take_succ_eq_append_getElem hi, List.flatten_append]; simp
      have hb := flat_take A (i + 1)
      rw [ht] at hb
      generalize A[i] = t at hr ht hb
      generalize hX : (A.take i).flatten = X at ht hb
      simp only [List.length_append] at hb
      have w1 := hw (H ++ [.tok X.length 1 5, .box bt [a, .osl true 1 (byteRows X) H.length], .box tu [.d (.str t), .d (.int .i64 ((p + posU A i : Nat) : Int))]]) (H.length + 1) H.length a X t (by simp) ha (by simp) (by omega)
      simp at w1
      simp only [Int.natCast_add] at hr
      simp [f8, f6, f3, hr]
      refine CallK_of' w1 ?_
      simp
      refine NextK_of (H.length + 2) (by omega) (by simp [f8, f7]) ?_
      simp [f3, f6, cut_appk hcl, ht]
    · rintro fr H' f8 f7 ⟨a, ha, f3, f6, rfl⟩
      simp [f3, List.take_of_length_le (Nat.le_refl _)]
  rintro fr H' ⟨a, f3, rfl⟩
  simp [f3, -List.length_flatten]
  have w3 := hs (H ++ [.tok A.flatten.length 1 5, .box bt [a, .osl true 1 (byteRows A.flatten) H.length]]) (H.length + 1) H.length a A.flatten (by simp) (by simp) (by omega)
  refine CallK_of' w3 ?_
  simp
  simp [RetK, cut_app hcl]

end
end Go.Zam

namespace Go.Zam
set_option linter.all false
set_option maxRecDepth 100000
set_option maxHeartbeats 1000000

theorem ldA_eptr (H : Hp) (n : Nat) (cells : List D) : ldA H n (.eptr cells) = (cutL cells 0 n).map (List.map .d) := rfl
theorem iaddrA_sl (H : Hp) (sz : Nat) (z : Bool) (s : Nat) (rows : List (List D)) (k : IntKind) (n : Int) : iaddrA H sz (.d (.sl z s rows)) (.d (.int k n)) = if s = sz then (Zam.rowAt rows n).map .eptr else none := rfl

def e32 (x : Int) : List D := [.int .i32 x]
def ptrR (h i m : Nat) : List (List A) := (List.range i).map fun k => [.msl (h + 1 + k) 0 m]
def rowO (m : Nat) (c : Nat → Int) : Ob := arrE e32 1 ((List.range m).map c)
/-- a table, as memory: its rows, by their places -/
def tabX (h n m : Nat) (cell : Nat → Nat → Int) : Hp := .arr 1 (ptrR h n m) :: (List.range n).map fun k => rowO m (cell k)
def updC (cell : Nat → Nat → Int) (k l : Nat) (v : Int) : Nat → Nat → Int := fun a b => if a = k ∧ b = l then v else cell a b

theorem tabX_len (h n m : Nat) (cell : Nat → Nat → Int) : (tabX h n m cell).length = n + 1 := by simp [tabX]

theorem tabX_congr {h n m : Nat} {c c' : Nat → Nat → Int} (hc : ∀ k l, k < n → l < m → c k l = c' k l) : tabX h n m c = tabX h n m c' := by
  unfold tabX
  congr 1
  refine List.map_congr_left fun k hk => ?_
  unfold rowO
  congr 1
  refine List.map_congr_left fun l hl => hc k l (by simpa using hk) (by simpa using hl)

section
variable {H : Hp} {n m : Nat} {cell : Nat → Nat → Int}

theorem tab_p : (H ++ tabX H.length n m cell)[H.length]? = some (.arr 1 (ptrR H.length n m)) := by simp [tabX]
theorem tab_r {k : Nat} (hk : k < n) : (H ++ tabX H.length n m cell)[H.length + 1 + k]? = some (rowO m (cell k)) := by
  rw [List.getElem?_append_right (by omega)]
  have : H.length + 1 + k - H.length = k + 1 := by omega
  rw [this]
  simp [tabX, hk]
theorem ptrR_get {h i m k : Nat} (hk : k < i) : (ptrR h i m)[k]? = some [.msl (h + 1 + k) 0 m] := by simp [ptrR, hk]
theorem tab_i1 {q : Int} {k : Nat} (hq : q = k) (hk : k < n) : iaddrA (H ++ tabX H.length n m cell) 1 (.msl H.length 0 n) (.d (.int .i64 q)) = some (.aptr H.length k 0) := by
  subst hq
  simp only [iaddrA, tab_p]
  rw [if_pos ⟨trivial, by omega, by omega⟩]
  simp
theorem tab_l1 {k : Nat} (hk : k < n) : ldA (H ++ tabX H.length n m cell) 1 (.aptr H.length k 0) = some [.msl (H.length + 1 + k) 0 m] := by
  simp only [ldA, tab_p, ptrR_get hk]
  simp [cutL]
theorem tab_i2 {q : Int} {k l : Nat} (hk : k < n) (hq : q = l) (hl : l < m) : iaddrA (H ++ tabX H.length n m cell) 1 (.msl (H.length + 1 + k) 0 m) (.d (.int .i64 q)) = some (.aptr (H.length + 1 + k) l 0) :=
  arr_iaddr (enc := e32) (L := (List.range m).map (cell k)) (tab_r hk) hq hl
theorem tab_l2 {k l : Nat} (hk : k < n) (hl : l < m) : ldA (H ++ tabX H.length n m cell) 1 (.aptr (H.length + 1 + k) l 0) = some [.d (.int .i32 (cell k l))] :=
  arr_ld (enc := e32) (sz := 1) (fun _ => rfl) (tab_r hk) (by simp [hl])
theorem tab_st {k l : Nat} (hk : k < n) (hl : l < m) (v : Int) : stA (H ++ tabX H.length n m cell) [.d (.int .i32 v)] (.aptr (H.length + 1 + k) l 0) = some (H ++ tabX H.length n m (updC cell k l v)) := by
  have h1 := arr_st (enc := e32) (sz := 1) (fun _ => rfl) (tab_r (H := H) (m := m) (cell := cell) hk) (k := l) (e := v) (by simpa using hl)
  refine Eq.trans h1 (congrArg some ?_)
  rw [List.set_append_right _ _ (by omega)]
  congr 1
  have : H.length + 1 + k - H.length = k + 1 := by omega
  rw [this, tabX, List.set_cons_succ, tabX]
  congr 1
  refine List.ext_getElem? fun i => ?_
  rw [List.getElem?_set]
  simp only [List.length_map, List.length_range, List.getElem?_map]
  by_cases hi : k = i
  · subst hi
    rw [if_pos rfl, if_pos hk, List.getElem?_range hk]
    simp only [Option.map_some, Option.some.injEq, rowO]
    congr 1
    refine List.ext_getElem? fun j => ?_
    rw [List.getElem?_set]
    simp only [List.length_map, List.length_range, List.getElem?_map]
    by_cases hj : l = j
    · subst hj
      rw [if_pos rfl, if_pos hl, List.getElem?_range hl]
      simp [updC]
    · rw [if_neg hj]
      rcases Nat.lt_or_ge j m with h | h
      · rw [List.getElem?_range h]; simp [updC, Ne.symm hj]
      · rw [List.getElem?_eq_none (by simpa using h)]; rfl
  · rw [if_neg hi]
    rcases Nat.lt_or_ge i n with h | h
    · rw [List.getElem?_range h]
      simp only [Option.map_some, Option.some.injEq, rowO]
      congr 1
      refine List.map_congr_left fun j _ => ?_
      simp [updC, Ne.symm hi]
    · rw [List.getElem?_eq_none (by simpa using h)]; rfl

theorem ptrR_clr {h i m q : Nat} (hq : h + 1 + i ≤ q) : (ptrR h i m).map (fun r => r.map (A.clr0 q)) = ptrR h i m := by
  simp only [ptrR, List.map_map]
  refine List.map_congr_left fun k hk => ?_
  have : k < i := by simpa using hk
  have h2 : h + 1 + k < q := by omega
  simp [h2]
theorem tab_clr {q : Nat} (hq : H.length + 1 + n ≤ q) : (tabX H.length n m cell).map (Ob.clr q) = tabX H.length n m cell := by
  simp only [tabX, List.map_cons, List.map_map]
  congr 1
  · simp only [Ob.clr, ptrR_clr hq]
  · refine List.map_congr_left fun k _ => ?_
    exact arrE_clr _ _
theorem tab_cut (hcl : H.Closed) (X : Hp) : Hp.cut (H.length + (n + 1)) (H ++ (tabX H.length n m cell ++ X)) = H ++ tabX H.length n m cell := by
  rw [cut_appk hcl, List.take_left' (tabX_len ..), tab_clr (by omega)]
theorem tab_cut0 (hcl : H.Closed) : Hp.cut (H.length + (n + 1)) (H ++ tabX H.length n m cell) = H ++ tabX H.length n m cell := by
  have := tab_cut (n := n) (m := m) (cell := cell) hcl []
  simpa using this
end

/-- the table's rows while they are made -/
def stgX (H : Hp) (n m i : Nat) : Hp := H ++ (.arr 1 (ptrR H.length i m ++ List.replicate (n - i) [.d (.sl true 1 [])]) :: (List.range i).map fun _ => rowO m fun _ => 0)

section
variable {H : Hp} {n m i : Nat}
theorem stg_len : (stgX H n m i).length = H.length + 1 + i := by simp [stgX]; omega
theorem stg_p (X : Hp) : (stgX H n m i ++ X)[H.length]? = some (.arr 1 (ptrR H.length i m ++ List.replicate (n - i) [.d (.sl true 1 [])])) := by simp [stgX]
theorem ptrR_len {h i m : Nat} : (ptrR h i m).length = i := by simp [ptrR]
theorem stg_i (X : Hp) (hi : i < n) : iaddrA (stgX H n m i ++ X) 1 (.msl H.length 0 n) (.d (.int .i64 (i : Int))) = some (.aptr H.length i 0) := by
  simp only [iaddrA, stg_p]
  rw [if_pos ⟨trivial, by omega, by omega⟩]
  simp
theorem zeros_row : Ob.arr 1 (List.replicate m [A.d (D.int .i32 0)]) = rowO m fun _ => 0 := by
  simp only [rowO, arrE, List.map_map]
  congr 1
  refine List.ext_getElem? fun k => ?_
  rw [List.getElem?_map]
  rcases Nat.lt_or_ge k m with h | h
  · rw [List.getElem?_range h, List.getElem?_replicate, if_pos h]; rfl
  · rw [List.getElem?_eq_none (by simpa using h), List.getElem?_eq_none (by simpa using h)]; rfl
theorem stg_st (hi : i < n) : stA (stgX H n m i ++ [.arr 1 (List.replicate m [A.d (D.int .i32 0)])]) [.msl (H.length + 1 + i) 0 m] (.aptr H.length i 0) = some (stgX H n m (i + 1)) := by
  have hr : (ptrR H.length i m ++ List.replicate (n - i) [A.d (.sl true 1 [])])[i]? = some [A.d (.sl true 1 [])] := by
    rw [List.getElem?_append_right (by rw [ptrR_len]; omega), ptrR_len, Nat.sub_self, List.getElem?_replicate, if_pos (by omega)]
  simp only [stA, stg_p, hr]
  rw [if_pos (by simp)]
  congr 1
  rw [zeros_row, stgX, stgX, List.append_assoc, List.set_append_right _ _ (Nat.le_refl _), Nat.sub_self, List.cons_append, List.set_cons_zero]
  congr 2
  · congr 1
    have e1 : n - i = (n - (i + 1)) + 1 := by omega
    have e2 : ptrR H.length (i + 1) m = ptrR H.length i m ++ [[.msl (H.length + 1 + i) 0 m]] := by simp [ptrR, List.range_succ]
    rw [List.set_append_right _ _ (by rw [ptrR_len]; omega), ptrR_len, Nat.sub_self, e1, List.replicate_succ, List.set_cons_zero, e2, List.append_assoc]
    rfl
  · rw [List.range_succ, List.map_append]; rfl
theorem stg_cut (hcl : H.Closed) : Hp.cut (H.length + (1 + i)) (stgX H n m i) = stgX H n m i := by
  unfold stgX
  rw [cut_appk hcl, List.take_of_length_le (by simp; omega)]
  congr 1
  simp only [List.map_cons, List.map_map]
  congr 1
  · simp only [Ob.clr, List.map_append, ptrR_clr (show H.length + 1 + i ≤ H.length + (1 + i) by omega)]
    simp
  · refine List.map_congr_left fun k _ => ?_
    exact arrE_clr _ _
theorem stg_fin : stgX H n m n = H ++ tabX H.length n m fun _ _ => 0 := by
  simp [stgX, tabX]
end

/-- the table while it is made: i rows are left -/
def cO (A B : List Bs) (i : Nat) : Nat → Nat → Int := fun k l => if i ≤ k then (lcs (A.drop k) (B.drop l) : Int) else 0
/-- in the row ahead of i, j places are left -/
def cI (A B : List Bs) (i j : Nat) : Nat → Nat → Int := fun k l => if i + 1 ≤ k ∨ (k = i ∧ j ≤ l) then (lcs (A.drop k) (B.drop l) : Int) else 0
/-- the table -/
def cL (A B : List Bs) : Nat → Nat → Int := fun k l => (lcs (A.drop k) (B.drop l) : Int)

section
variable {P : Program}

theorem Has.table {f} (h : Has P f irDTable) (z y : Bool) (p q : Nat) (A B : List Bs) (hA : A.length ≤ 1048576) (hB : B.length ≤ 1048576) (H : Hp) :
    ACall P f [.d (.sl z 2 ((unU p A).map encU)), .d (.sl y 2 ((unU q B).map encU))] H (fun r H' => r = .msl H.length 0 (A.length + 1) ∧ H' = H ++ tabX H.length (A.length + 1) (B.length + 1) (cL A B)) := by
  obtain ⟨fn, hf, hcf⟩ := h
  refine acall_fink (A.length + 1 + 1) hf hcf (by simp [irDTable]) fun hcl _ => ?_
  have hwA : IntKind.i64.wrap ((A.length : Int) + 1) = ((A.length + 1 : Nat) : Int) := by rw [wrap_i64 (by omega) (by omega)]; omega
  have hwB : IntKind.i64.wrap ((B.length : Int) + 1) = ((B.length + 1 : Nat) : Int) := by rw [wrap_i64 (by omega) (by omega)]; omega
  obtain ⟨n, hn⟩ : ∃ n, n = A.length + 1 := ⟨_, rfl⟩
  obtain ⟨m, hm⟩ : ∃ m, m = B.length + 1 := ⟨_, rfl⟩
  rw [← hn] at hwA ⊢
  rw [← hm] at hwB ⊢
  have hn24 : (n : Int) * 24 ≤ 140737488355328 := by omega
  have hm4 : (m : Int) * 4 ≤ 140737488355328 := by omega
  have hAl : A.length < n := by omega
  have hBl : B.length < m := by omega
  have hAl : A.length < n := by omega
  have hBl : B.length < m := by omega
  have hAl : A.length < n := by omega
  have hBl : B.length < m := by omega
  simp [irDTable, unU_len, hwA, hn24]
  refine LoopK_out 0 (fun fr H' => fr 0 = .d (.sl z 2 ((unU p A).map encU)) ∧ fr 1 = .d (.sl y 2 ((unU q B).map encU)) ∧ fr 5 = .msl H.length 0 n ∧ H' = H ++ tabX H.length n m (cO A B A.length)) ?_ ?_
  · refine RangeK_of (H.length + 1) n (fun i fr H' => fr 0 = .d (.sl z 2 ((unU p A).map encU)) ∧ fr 1 = .d (.sl y 2 ((unU q B).map encU)) ∧ fr 5 = .msl H.length 0 n ∧ H' = stgX H n m i) (by omega) (by decide) (by simp) (by simp) ?_ ?_ ?_
    · simp [cut_appk hcl, stgX, ptrR]
    · rintro i fr H' hi f15 f14 ⟨f0, f1, f5, rfl⟩
      have e1 := stg_i (H := H) (m := m) [.arr 1 (List.replicate m [Zam.A.d (D.int .i32 0)])] hi
      have e2 := stg_st (H := H) (m := m) hi
      have e3 := stg_len (H := H) (n := n) (m := m) (i := i)
      simp [f15, f5, f1, unU_len, hwB, hm4, e3, e1, e2, -iaddrA, -ldA, -stA]
      have e4 := stg_len (H := H) (n := n) (m := m) (i := i + 1)
      refine NextK_of (H.length + (1 + (i + 1))) (by omega) (by simp [f15, f14, e4]; omega) ?_
      have h5 : H.length < H.length + (1 + (i + 1)) := by omega
      rw [stg_cut hcl]
      simp [f0, f1, f5]
    · rintro fr H' f15 f14 ⟨f0, f1, f5, rfl⟩
      simp [f0, f1, f5, stg_fin]
      refine tabX_congr fun k l hk hl => ?_
      unfold cO
      split
      · rw [List.drop_eq_nil_of_le (by omega), nil_lcs]; rfl
      · rfl
  rintro fr H' ⟨f0, f1, f5, rfl⟩
  have hwA1 : IntKind.i64.wrap ((A.length : Int) - 1) = (A.length : Int) - 1 := wrap_i64 (by omega) (by omega)
  have hwB1 : IntKind.i64.wrap ((B.length : Int) - 1) = (B.length : Int) - 1 := wrap_i64 (by omega) (by omega)
  simp [f0, f1, unU_len, hwA1]
  refine LoopK_out 2 (fun fr H' => fr 5 = .msl H.length 0 n ∧ H' = H ++ tabX H.length n m (cL A B)) ?_ ?_
  · refine LoopM_of (H.length + (n + 1)) (fun i fr H' => i ≤ A.length ∧ fr 0 = .d (.sl z 2 ((unU p A).map encU)) ∧ fr 1 = .d (.sl y 2 ((unU q B).map encU)) ∧ fr 5 = .msl H.length 0 n ∧ fr 7 = .d (.int .i64 ((i : Int) - 1)) ∧ H' = H ++ tabX H.length n m (cO A B i)) A.length (by simp [tabX_len]) ⟨Nat.le_refl _, ?_⟩ ?_
    · have h5 : H.length < H.length + (n + 1) := by omega
      rw [tab_cut0 hcl]
      simp [f0, f1, f5, h5]
    rintro i fr H' ⟨hi, f0, f1, f5, f7, rfl⟩
    simp [f7]
    refine BrK_split (fun hb => ?_) (fun hb => ?_)
    · have hi1 : 1 ≤ i := by have : (0 : Int) ≤ (i : Int) - 1 := by simpa using hb
                             omega
      obtain ⟨i, rfl⟩ : ∃ i', i = i' + 1 := ⟨i - 1, by omega⟩
      have f7 : fr 7 = .d (.int .i64 (i : Int)) := by rw [f7]; congr 2; omega
      clear hb
      simp [f1, unU_len, hwB1]
      have h5 : H.length < H.length + (n + 1) := by omega
      have hin : i < n := by omega
      have hi1n : i + 1 < n := by omega
      have hla : i < A.length := by omega
      refine LoopK_out 4 (fun fr' H' => fr' 0 = .d (.sl z 2 ((unU p A).map encU)) ∧ fr' 1 = .d (.sl y 2 ((unU q B).map encU)) ∧ fr' 5 = .msl H.length 0 n ∧ fr' 7 = .d (.int .i64 (i : Int)) ∧ H' = H ++ tabX H.length n m (cO A B i)) ?_ ?_
      · refine LoopM_of (H.length + (n + 1)) (fun j fr' H' => j ≤ B.length ∧ fr' 0 = .d (.sl z 2 ((unU p A).map encU)) ∧ fr' 1 = .d (.sl y 2 ((unU q B).map encU)) ∧ fr' 5 = .msl H.length 0 n ∧ fr' 7 = .d (.int .i64 (i : Int)) ∧ fr' 8 = .d (.int .i64 ((j : Int) - 1)) ∧ H' = H ++ tabX H.length n m (cI A B i j)) B.length (by simp [tabX_len]) ⟨Nat.le_refl _, ?_⟩ ?_
        · rw [tab_cut0 hcl]
          simp [f0, f1, f5, f7, h5]
          refine tabX_congr fun k l hk hl => ?_
          unfold cO cI
          by_cases e1 : i + 1 ≤ k
          · rw [if_pos e1, if_pos (.inl e1)]
          · rw [if_neg e1]
            split
            · rename_i e2
              rw [List.drop_eq_nil_of_le (show B.length ≤ l by omega), lcs_nil]; rfl
            · rfl
        rintro j fr' H' ⟨hj, f0, f1, f5, f7, f8, rfl⟩
        simp [f8]
        refine BrK_split (fun hb => ?_) (fun hb => ?_)
        · have hj1 : 1 ≤ j := by have : (0 : Int) ≤ (j : Int) - 1 := by simpa using hb
                                 omega
          obtain ⟨j, rfl⟩ : ∃ j', j = j' + 1 := ⟨j - 1, by omega⟩
          have f8 : fr' 8 = .d (.int .i64 (j : Int)) := by rw [f8]; congr 2; omega
          clear hb
          have hlb : j < B.length := by omega
          have hjm : j < m := by omega
          have hj1m : j + 1 < m := by omega
          have hwi : IntKind.i64.wrap ((i : Int) + 1) = (i : Int) + 1 := wrap_i64 (by omega) (by omega)
          have hwj : IntKind.i64.wrap ((j : Int) + 1) = (j : Int) + 1 := wrap_i64 (by omega) (by omega)
          have hwj2 : IntKind.i64.wrap ((j : Int) - 1) = (j : Int) - 1 := wrap_i64 (by omega) (by omega)
          have ra := unU_row (p := p) hla
          have rb := unU_row (p := q) hlb
          have hdA : A.drop i = A[i] :: A.drop (i + 1) := List.drop_eq_getElem_cons hla
          have hdB : B.drop j = B[j] :: B.drop (j + 1) := List.drop_eq_getElem_cons hlb
          have a1 := tab_i1 (H := H) (n := n) (m := m) (cell := cI A B i (j + 1)) (q := (i : Int)) (k := i) rfl hin
          have l1 := tab_l1 (H := H) (n := n) (m := m) (cell := cI A B i (j + 1)) hin
          have a2 := tab_i1 (H := H) (n := n) (m := m) (cell := cI A B i (j + 1)) (q := (i : Int) + 1) (k := i + 1) (by omega) hi1n
          have l2 := tab_l1 (H := H) (n := n) (m := m) (cell := cI A B i (j + 1)) hi1n
          have a3 := tab_i2 (H := H) (n := n) (m := m) (cell := cI A B i (j + 1)) (q := (j : Int) + 1) (l := j + 1) hi1n (by omega) hj1m
          have l3 := tab_l2 (H := H) (n := n) (m := m) (cell := cI A B i (j + 1)) hi1n hj1m
          have a4 := tab_i2 (H := H) (n := n) (m := m) (cell := cI A B i (j + 1)) (q := (j : Int)) (l := j) hi1n rfl hjm
          have l4 := tab_l2 (H := H) (n := n) (m := m) (cell := cI A B i (j + 1)) hi1n hjm
          have a5 := tab_i2 (H := H) (n := n) (m := m) (cell := cI A B i (j + 1)) (q := (j : Int) + 1) (l := j + 1) hin (by omega) hj1m
          have l5 := tab_l2 (H := H) (n := n) (m := m) (cell := cI A B i (j + 1)) hin hj1m
          have a6 := tab_i2 (H := H) (n := n) (m := m) (cell := cI A B i (j + 1)) (q := (j : Int)) (l := j) hin rfl hjm
          have s6 := tab_st (H := H) (n := n) (m := m) (cell := cI A B i (j + 1)) hin hjm
          have hup : tabX H.length n m (updC (cI A B i (j + 1)) i j (lcs (A.drop i) (B.drop j) : Int)) = tabX H.length n m (cI A B i j) := tabX_congr fun k l hk hl => by
            unfold updC cI
            by_cases e1 : k = i ∧ l = j
            · rw [if_pos e1, e1.1, e1.2, if_pos (.inr ⟨rfl, Nat.le_refl _⟩)]
            · rw [if_neg e1]
              by_cases e2 : i + 1 ≤ k ∨ (k = i ∧ j + 1 ≤ l)
              · rw [if_pos e2, if_pos (by omega)]
              · rw [if_neg e2, if_neg (by omega)]
          have c3 : cI A B i (j + 1) (i + 1) (j + 1) = (lcs (A.drop (i + 1)) (B.drop (j + 1)) : Int) := if_pos (.inl (Nat.le_refl _))
          have c4 : cI A B i (j + 1) (i + 1) j = (lcs (A.drop (i + 1)) (B.drop j) : Int) := if_pos (.inl (Nat.le_refl _))
          have c5 : cI A B i (j + 1) i (j + 1) = (lcs (A.drop i) (B.drop (j + 1)) : Int) := if_pos (.inr ⟨rfl, Nat.le_refl _⟩)
          rw [c3] at l3; rw [c4] at l4; rw [c5] at l5
          have hL : lcs (A.drop i) (B.drop j) = if A[i] = B[j] then lcs (A.drop (i + 1)) (B.drop (j + 1)) + 1 else max (lcs (A.drop (i + 1)) (B.drop j)) (lcs (A.drop i) (B.drop (j + 1))) := by
            conv => lhs; rw [hdA, hdB, lcs]
            rw [← hdA, ← hdB]
          have hlt3 := (lcs_le (A.drop (i + 1)) (B.drop (j + 1))).1
          simp only [List.length_drop] at hlt3
          clear hdA hdB c3 c4 c5
          generalize lcs (A.drop i) (B.drop j) = X at hL hup
          generalize lcs (A.drop (i + 1)) (B.drop (j + 1)) = X3 at hL l3 hlt3
          generalize lcs (A.drop (i + 1)) (B.drop j) = X4 at hL l4
          generalize lcs (A.drop i) (B.drop (j + 1)) = X5 at hL l5
          generalize A[i] = a at ra hL
          generalize B[j] = b at rb hL
          generalize hT : tabX H.length n m (cI A B i (j + 1)) = T at a1 l1 a2 l2 a3 l3 a4 l4 a5 l5 a6 s6
          simp [f0, f1, f5, f7, f8, ra, rb, iaddrA_sl, ldA_eptr, -iaddrA, -ldA, -stA]
          by_cases hab : a = b
          · rw [if_pos hab] at hL
            have hw3 : IntKind.i32.wrap ((X3 : Int) + 1) = (X : Int) := by
              rw [hL]; simp [IntKind.wrap, IntKind.bits, IntKind.signed]; omega
            simp [hab, f5, f7, f8, hwi, hwj, a1, l1, a2, l2, a3, l3, a6, hw3, s6, hup, -iaddrA, -ldA, -stA]
            simp [hwj2, f8]
            refine NextM_of (H.length + (n + 1)) j (Nat.le_refl _) (by simp [tabX_len]) (by omega) ⟨by omega, ?_⟩
            rw [tab_cut0 hcl]
            simp [f0, f1, f5, f7, h5]
          · rw [if_neg hab] at hL
            have hmx : max (X4 : Int) (X5 : Int) = (X : Int) := by rw [hL]; omega
            simp [hab, f5, f7, f8, hwi, hwj, a1, l1, a2, l2, a4, l4, a5, l5, a6, hmx, s6, hup, -iaddrA, -ldA, -stA]
            simp [hwj2, f8]
            refine NextM_of (H.length + (n + 1)) j (Nat.le_refl _) (by simp [tabX_len]) (by omega) ⟨by omega, ?_⟩
            rw [tab_cut0 hcl]
            simp [f0, f1, f5, f7, h5]
        · have hj0 : j = 0 := by have : ¬ (0 : Int) ≤ (j : Int) - 1 := by simpa using hb
                                 omega
          subst hj0
          simp [f0, f1, f5, f7]
          refine tabX_congr fun k l hk hl => ?_
          unfold cI cO
          by_cases e1 : i ≤ k
          · rw [if_pos e1, if_pos (by omega)]
          · rw [if_neg e1, if_neg (by omega)]
      rintro fr' H' ⟨f0, f1, f5, f7, rfl⟩
      have hwi2 : IntKind.i64.wrap ((i : Int) - 1) = (i : Int) - 1 := wrap_i64 (by omega) (by omega)
      simp [f7, hwi2]
      refine NextM_of (H.length + (n + 1)) i (Nat.le_refl _) (by simp [tabX_len]) (by omega) ⟨by omega, ?_⟩
      rw [tab_cut0 hcl]
      simp [f0, f1, f5, h5]
    · have hi0 : i = 0 := by have : ¬ (0 : Int) ≤ (i : Int) - 1 := by simpa using hb
                             omega
      subst hi0
      simp [f5]
      exact tabX_congr fun k l hk hl => by simp [cO, cL]
  rintro fr H' ⟨f5, rfl⟩
  simp [f5]
  have h5 : H.length < H.length + (n + 1) := by omega
  simp [RetK, tab_cut0 hcl, h5, tabX_len]

end
end Go.Zam

namespace Go.Zam
set_option linter.all false
set_option maxRecDepth 100000
set_option maxHeartbeats 1000000

def encRn (r : Rn) : List D := [.int .i64 (r.a : Int), .int .i64 (r.b : Int), .int .i64 (r.c : Int), .int .i64 (r.d : Int)]

theorem iaddrA_app {H X : Hp} {sz i o n : Nat} {q : Int} {k : IntKind} {v : A} (h : iaddrA H sz (.msl i o n) (.d (.int k q)) = some v) : iaddrA (H ++ X) sz (.msl i o n) (.d (.int k q)) = some v := by
  simp only [iaddrA] at h ⊢
  cases e : H[i]? with
  | none => rw [e] at h; cases h
  | some o' =>
    rw [List.getElem?_append_left (List.getElem?_eq_some_iff.1 e).1, e]
    rw [e] at h; exact h
theorem ldA_app {H X : Hp} {n i k o : Nat} {v : List A} (h : ldA H n (.aptr i k o) = some v) : ldA (H ++ X) n (.aptr i k o) = some v := by
  simp only [ldA] at h ⊢
  cases e : H[i]? with
  | none => rw [e] at h; cases h
  | some o' =>
    rw [List.getElem?_append_left (List.getElem?_eq_some_iff.1 e).1, e]
    rw [e] at h; exact h
theorem tab_closed {H : Hp} {n m : Nat} {cell : Nat → Nat → Int} (hcl : H.Closed) : Hp.Closed (H ++ tabX H.length n m cell) := by
  intro q hq
  simp only [List.length_append, tabX_len] at hq
  rw [List.map_append, hcl q (by omega), tab_clr (by omega)]
theorem skipN_nil_nil : skipN [] [] = (0, 0) := by rw [skipN]
theorem skipN_cons_nil (a : Bs) (A : List Bs) : skipN (a :: A) [] = ((skipN A []).1 + 1, (skipN A []).2) := by rw [skipN]
theorem skipN_nil_cons (b : Bs) (B : List Bs) : skipN [] (b :: B) = ((skipN [] B).1, (skipN [] B).2 + 1) := by rw [skipN]
theorem skipN_cons (a b : Bs) (A B : List Bs) : skipN (a :: A) (b :: B) = if a = b then (0, 0) else if lcs (a :: A) B ≤ lcs A (b :: B) then ((skipN A (b :: B)).1 + 1, (skipN A (b :: B)).2) else ((skipN (a :: A) B).1, (skipN (a :: A) B).2 + 1) := by rw [skipN]
theorem runsF_run {f i j : Nat} {A B : List Bs} (h1 : ¬ (A = [] ∧ B = [])) (h2 : headEq A B = false) : runsF (f + 1) A B i j = ⟨i, i + (skipN A B).1, j, j + (skipN A B).2⟩ :: runsF f (A.drop (skipN A B).1) (B.drop (skipN A B).2) (i + (skipN A B).1) (j + (skipN A B).2) := by
  rw [runsF, if_neg h1, if_neg (by simp [h2])]

section
variable {P : Program}

theorem HasT.runs {f ft tr} (h : HasT P [6] f (irDRuns ft tr)) (ht : Has P ft irDTable) (z y : Bool) (p q : Nat) (A B : List Bs) (hA : A.length ≤ 1048576) (hB : B.length ≤ 1048576) (H : Hp) :
    ACall P f [.d (.sl z 2 ((unU p A).map encU)), .d (.sl y 2 ((unU q B).map encU))] H (fun r H' => r = .d (.sl true 4 ((runsL A B).map encRn)) ∧ H' = H) := by
  obtain ⟨fn, hf, hcf⟩ := h
  refine acall_fin hf hcf (by simp [irDRuns]) fun hcl _ => ?_
  have gt := ht.table z y p q A B hA hB H
  obtain ⟨n, hn⟩ : ∃ n, n = A.length + 1 := ⟨_, rfl⟩
  obtain ⟨m, hm⟩ : ∃ m, m = B.length + 1 := ⟨_, rfl⟩
  rw [← hn, ← hm] at gt
  simp [irDRuns]
  refine CallK_of' gt ?_
  have hi1 : ∀ (q : Int) (k : Nat), q = k → k < n → iaddrA (H ++ tabX H.length n m (cL A B)) 1 (.msl H.length 0 n) (.d (.int .i64 q)) = some (.aptr H.length k 0) := fun q k hq hk => tab_i1 hq hk
  have hl1 : ∀ (k : Nat), k < n → ldA (H ++ tabX H.length n m (cL A B)) 1 (.aptr H.length k 0) = some [.msl (H.length + 1 + k) 0 m] := fun k hk => tab_l1 hk
  have hi2 : ∀ (q : Int) (k l : Nat), k < n → q = l → l < m → iaddrA (H ++ tabX H.length n m (cL A B)) 1 (.msl (H.length + 1 + k) 0 m) (.d (.int .i64 q)) = some (.aptr (H.length + 1 + k) l 0) := fun q k l hk hq hl => tab_i2 hk hq hl
  have hl2 : ∀ (k l : Nat), k < n → l < m → ldA (H ++ tabX H.length n m (cL A B)) 1 (.aptr (H.length + 1 + k) l 0) = some [.d (.int .i32 (lcs (A.drop k) (B.drop l) : Int))] := fun k l hk hl => tab_l2 (cell := cL A B) hk hl
  have hcl1 : Hp.Closed (H ++ tabX H.length n m (cL A B)) := tab_closed hcl
  have hlen1 : H.length < (H ++ tabX H.length n m (cL A B)).length := by simp [tabX_len]
  have hfin : ∀ X, Hp.cut H.length ((H ++ tabX H.length n m (cL A B)) ++ X) = H := fun X => by rw [List.append_assoc]; exact cut_app hcl _
  generalize H ++ tabX H.length n m (cL A B) = H1 at hi1 hl1 hi2 hl2 hcl1 hlen1 hfin ⊢
  simp
  have hrl := runsF
  clear hrl
  refine LoopK_out 0 (fun fr H' => fr 6 = .osl true 4 ((runsL A B).map encRn) H1.length ∧ ∃ X, H' = H1 ++ X) ?_ ?_
  · refine LoopM_of (H1.length + 1) (fun d fr H' => ∃ (i j f : Nat) (out : List Rn), d = (A.length - i) + (B.length - j) ∧ i ≤ A.length ∧ j ≤ B.length ∧ runsL A B = out ++ runsF f (A.drop i) (B.drop j) i j ∧ (A.length - i) + (B.length - j) < f ∧ out.length ≤ i + j ∧
      fr 0 = .d (.sl z 2 ((unU p A).map encU)) ∧ fr 1 = .d (.sl y 2 ((unU q B).map encU)) ∧ fr 5 = .msl H.length 0 n ∧ fr 6 = .osl true 4 (out.map encRn) H1.length ∧ fr 7 = .d (.int .i64 (i : Int)) ∧ fr 8 = .d (.int .i64 (j : Int)) ∧ H' = H1 ++ [.tok out.length 4 tr]) (A.length + B.length) (by simp; omega) ⟨0, 0, A.length + B.length + 1, [], by omega, by omega, by omega, by simp [runsL], by omega, by simp, ?_⟩ ?_
    · have h5 : H.length < H1.length + 1 := by omega
      simp [cut_appk hcl1, h5]
    rintro d fr H' ⟨i, j, f, out, rfl, hi, hj, hrs, hf, hout, f0, f1, f5, f6, f7, f8, rfl⟩
    obtain ⟨f, rfl⟩ : ∃ f', f = f' + 1 := ⟨f - 1, by omega⟩
    have h5 : H.length < H1.length + 1 := by omega
    have h52 : H.length < H1.length + 2 := by omega
    have hwi : IntKind.i64.wrap ((i : Int) + 1) = ((i + 1 : Nat) : Int) := by rw [wrap_i64 (by omega) (by omega)]; omega
    have hwj : IntKind.i64.wrap ((j : Int) + 1) = ((j + 1 : Nat) : Int) := by rw [wrap_i64 (by omega) (by omega)]; omega
    simp only [Int.natCast_add, Int.natCast_one] at hwi hwj
    rcases Nat.lt_or_ge i A.length with la | la
    · have la' : (i : Int) < A.length := by omega
      have ra := unU_row (p := p) la
      have hdA : A.drop i = A[i] :: A.drop (i + 1) := List.drop_eq_getElem_cons la
      rcases Nat.lt_or_ge j B.length with lb | lb
      · have lb' : (j : Int) < B.length := by omega
        have rb := unU_row (p := q) lb
        have hdB : B.drop j = B[j] :: B.drop (j + 1) := List.drop_eq_getElem_cons lb
        by_cases hab : A[i] = B[j]
        · have hne : ¬ (A.drop i = [] ∧ B.drop j = []) := fun h => by have := h.1; rw [hdA] at this; cases this
          have hhe : headEq (A.drop i) (B.drop j) = true := by rw [hdA, hdB]; simp [headEq, hab]
          rw [runsF, if_neg hne, if_pos hhe, hdA, hdB, List.tail_cons, List.tail_cons] at hrs
          rw [hab] at ra
          generalize B[j] = b at ra rb
          simp [f0, f1, f7, f8, unU_len, la', lb', ra, rb, hwi, hwj]
          refine NextM_of (H1.length + 1) ((A.length - (i + 1)) + (B.length - (j + 1))) (Nat.le_refl _) (by simp) (by omega) ⟨i + 1, j + 1, f, out, rfl, by omega, by omega, hrs, by omega, by omega, ?_⟩
          simp [f0, f1, f5, f6, h5, cut_appk hcl1]
        · have hhe : headEq (A.drop i) (B.drop j) = false := by rw [hdA, hdB]; simp [headEq, hab]
          have hne : ¬ (A.drop i = [] ∧ B.drop j = []) := fun h => by have := h.1; rw [hdA] at this; cases this
          rw [runsF_run hne hhe] at hrs
          have hskp : 1 ≤ (skipN (A.drop i) (B.drop j)).1 + (skipN (A.drop i) (B.drop j)).2 := (skipN_spec _ _).2.2.2.2 (by rw [hdA, hdB]; exact hab)
          clear hdA hdB hhe hne
          generalize A[i] = a at ra hab
          generalize B[j] = b at rb hab
          simp [f0, f1, f7, f8, unU_len, la', lb', ra, rb, hab]
          have hsp := skipN_spec (A.drop i) (B.drop j)
          simp only [List.length_drop] at hsp
          obtain ⟨sp1, sp2, -, -, -⟩ := hsp
          simp only [List.drop_drop] at hrs
          generalize hSK : skipN (A.drop i) (B.drop j) = SK at hrs hskp sp1 sp2
          obtain ⟨x, w⟩ := SK
          simp only at hrs hskp sp1 sp2
          refine LoopK_out 2 (fun fr' H' => fr' 0 = .d (.sl z 2 ((unU p A).map encU)) ∧ fr' 1 = .d (.sl y 2 ((unU q B).map encU)) ∧ fr' 5 = .msl H.length 0 n ∧ fr' 6 = .osl true 4 (out.map encRn) H1.length ∧ fr' 7 = .d (.int .i64 ((i + x : Nat) : Int)) ∧ fr' 8 = .d (.int .i64 ((j + w : Nat) : Int)) ∧ fr' 9 = .ptr (H1.length + 1) 0 ∧ H' = H1 ++ [.tok out.length 4 tr, .box tr [.d (.int .i64 (i : Int)), .d (.int .i64 0), .d (.int .i64 (j : Int)), .d (.int .i64 0)]]) ?_ ?_
          · refine LoopM_of (H1.length + 2) (fun d fr' H' => ∃ u v : Nat, d = (A.length - (i + u)) + (B.length - (j + v)) ∧ i + u ≤ A.length ∧ j + v ≤ B.length ∧ x = u + (skipN (A.drop (i + u)) (B.drop (j + v))).1 ∧ w = v + (skipN (A.drop (i + u)) (B.drop (j + v))).2 ∧ fr' 0 = .d (.sl z 2 ((unU p A).map encU)) ∧ fr' 1 = .d (.sl y 2 ((unU q B).map encU)) ∧ fr' 5 = .msl H.length 0 n ∧ fr' 6 = .osl true 4 (out.map encRn) H1.length ∧ fr' 7 = .d (.int .i64 ((i + u : Nat) : Int)) ∧ fr' 8 = .d (.int .i64 ((j + v : Nat) : Int)) ∧ fr' 9 = .ptr (H1.length + 1) 0 ∧ H' = H1 ++ [.tok out.length 4 tr, .box tr [.d (.int .i64 (i : Int)), .d (.int .i64 0), .d (.int .i64 (j : Int)), .d (.int .i64 0)]]) ((A.length - (i + 0)) + (B.length - (j + 0))) (by simp; omega) ⟨0, 0, rfl, by omega, by omega, by simp [hSK], by simp [hSK], ?_⟩ ?_
            · simp [f0, f1, f5, f6, f7, f8, h52, cut_appk hcl1]
            clear hSK hskp f0 f1 f5 f6 f7 f8
            rintro d fr' H' ⟨u, v, rfl, hu, hv, hx, hw, f0, f1, f5, f6, f7, f8, f9, rfl⟩
            generalize hU : i + u = I at hu hx hw f7
            generalize hV : j + v = J at hv hx hw f8
            have eI : (i : Int) + (u : Int) = (I : Int) := by omega
            have eJ : (j : Int) + (v : Int) = (J : Int) := by omega
            have eI1 : (i : Int) + ((u : Int) + 1) = (I : Int) + 1 := by omega
            have eJ1 : (j : Int) + ((v : Int) + 1) = (J : Int) + 1 := by omega
            have hwI : IntKind.i64.wrap ((I : Int) + 1) = (I : Int) + 1 := wrap_i64 (by omega) (by omega)
            have hwJ : IntKind.i64.wrap ((J : Int) + 1) = (J : Int) + 1 := wrap_i64 (by omega) (by omega)
            rcases Nat.lt_or_ge I A.length with la | la
            · have la' : (I : Int) < A.length := by omega
              have ra := unU_row (p := p) la
              have hdA : A.drop I = A[I] :: A.drop (I + 1) := List.drop_eq_getElem_cons la
              rcases Nat.lt_or_ge J B.length with lb | lb
              · have lb' : (J : Int) < B.length := by omega
                have nlb : ¬ ((J : Int) = B.length) := by omega
                have rb := unU_row (p := q) lb
                have hdB : B.drop J = B[J] :: B.drop (J + 1) := List.drop_eq_getElem_cons lb
                by_cases hab : A[I] = B[J]
                · rw [hdA, hdB, skipN_cons, if_pos hab] at hx hw
                  rw [hab] at ra
                  generalize B[J] = b at ra rb
                  simp at hx hw
                  subst hx; subst hw
                  simp [f0, f1, f7, f8, unU_len, la', lb', ra, rb]
                  simp [f0, f1, f5, f6, f7, f8, f9, eI, eJ]
                · have a1 := iaddrA_app (X := [.tok out.length 4 tr, .box tr [.d (.int .i64 (i : Int)), .d (.int .i64 0), .d (.int .i64 (j : Int)), .d (.int .i64 0)]]) (hi1 ((I : Int) + 1) (I + 1) (by omega) (by omega))
                  have l1 := ldA_app (X := [.tok out.length 4 tr, .box tr [.d (.int .i64 (i : Int)), .d (.int .i64 0), .d (.int .i64 (j : Int)), .d (.int .i64 0)]]) (hl1 (I + 1) (by omega))
                  have a2 := iaddrA_app (X := [.tok out.length 4 tr, .box tr [.d (.int .i64 (i : Int)), .d (.int .i64 0), .d (.int .i64 (j : Int)), .d (.int .i64 0)]]) (hi2 (J : Int) (I + 1) J (by omega) rfl (by omega))
                  have l2 := ldA_app (X := [.tok out.length 4 tr, .box tr [.d (.int .i64 (i : Int)), .d (.int .i64 0), .d (.int .i64 (j : Int)), .d (.int .i64 0)]]) (hl2 (I + 1) J (by omega) (by omega))
                  have a3 := iaddrA_app (X := [.tok out.length 4 tr, .box tr [.d (.int .i64 (i : Int)), .d (.int .i64 0), .d (.int .i64 (j : Int)), .d (.int .i64 0)]]) (hi1 (I : Int) I rfl (by omega))
                  have l3 := ldA_app (X := [.tok out.length 4 tr, .box tr [.d (.int .i64 (i : Int)), .d (.int .i64 0), .d (.int .i64 (j : Int)), .d (.int .i64 0)]]) (hl1 I (by omega))
                  have a4 := iaddrA_app (X := [.tok out.length 4 tr, .box tr [.d (.int .i64 (i : Int)), .d (.int .i64 0), .d (.int .i64 (j : Int)), .d (.int .i64 0)]]) (hi2 ((J : Int) + 1) I (J + 1) (by omega) (by omega) (by omega))
                  have l4 := ldA_app (X := [.tok out.length 4 tr, .box tr [.d (.int .i64 (i : Int)), .d (.int .i64 0), .d (.int .i64 (j : Int)), .d (.int .i64 0)]]) (hl2 I (J + 1) (by omega) (by omega))
                  have hsk := skipN_cons A[I] B[J] (A.drop (I + 1)) (B.drop (J + 1))
                  rw [if_neg hab, ← hdA, ← hdB] at hsk
                  generalize lcs (A.drop (I + 1)) (B.drop J) = X1 at l2 hsk
                  generalize lcs (A.drop I) (B.drop (J + 1)) = X2 at l4 hsk
                  clear hdA hdB
                  generalize A[I] = a at ra hab
                  generalize B[J] = b at rb hab
                  have hi2' : ∀ H : Hp, ∀ c : D, iaddrA H 2 (.d c) = iaddrA H 2 (.d c) := fun _ _ => rfl
                  simp [f0, f1, f5, f7, f8, unU_len, la', lb', nlb, ra, rb, hab, hwI, hwJ, a1, l1, a2, l2, a3, l3, a4, l4, iaddrA_sl, ldA_eptr, -iaddrA, -ldA]
                  by_cases hle : X2 ≤ X1
                  · rw [if_pos hle] at hsk
                    rw [hsk] at hx hw
                    simp [hle, f7, hwI]
                    refine NextM_of (H1.length + 2) ((A.length - (i + (u + 1))) + (B.length - (j + v))) (Nat.le_refl _) (by simp) (by omega) ⟨u + 1, v, rfl, by omega, by omega, ?_, ?_, ?_⟩
                    · rw [show i + (u + 1) = I + 1 by omega, hV]; simp only at hx; omega
                    · rw [show i + (u + 1) = I + 1 by omega, hV]; exact hw
                    · simp [eI, eI1, eJ, f0, f1, f5, f6, f8, f9, h52, cut_appk hcl1]
                  · rw [if_neg hle] at hsk
                    rw [hsk] at hx hw
                    simp [hle, f8, hwJ]
                    refine NextM_of (H1.length + 2) ((A.length - (i + u)) + (B.length - (j + (v + 1)))) (Nat.le_refl _) (by simp) (by omega) ⟨u, v + 1, rfl, by omega, by omega, ?_, ?_, ?_⟩
                    · rw [show j + (v + 1) = J + 1 by omega, hU]; exact hx
                    · rw [show j + (v + 1) = J + 1 by omega, hU]; simp only at hw; omega
                    · simp [eI, eJ, eJ1, f0, f1, f5, f6, f7, f9, h52, cut_appk hcl1]
              · have lb' : ¬ (J : Int) < B.length := by omega
                have elb : (J : Int) = B.length := by omega
                have hdB : B.drop J = [] := List.drop_eq_nil_of_le lb
                rw [hdA, hdB, skipN_cons_nil, ← hdB] at hx hw
                clear hdA
                simp [f0, f1, f7, f8, unU_len, la', elb]
                simp [f7, hwI]
                refine NextM_of (H1.length + 2) ((A.length - (i + (u + 1))) + (B.length - (j + v))) (Nat.le_refl _) (by simp) (by omega) ⟨u + 1, v, rfl, by omega, by omega, ?_, ?_, ?_⟩
                · rw [show i + (u + 1) = I + 1 by omega, hV]; simp only at hx; omega
                · rw [show i + (u + 1) = I + 1 by omega, hV]; exact hw
                · simp [eI, eI1, eJ, f0, f1, f5, f6, f8, f9, h52, cut_appk hcl1]
            · have la' : ¬ (I : Int) < A.length := by omega
              have hdA : A.drop I = [] := List.drop_eq_nil_of_le la
              rcases Nat.lt_or_ge J B.length with lb | lb
              · have lb' : (J : Int) < B.length := by omega
                have nlb : ¬ ((J : Int) = B.length) := by omega
                have hdB : B.drop J = B[J] :: B.drop (J + 1) := List.drop_eq_getElem_cons lb
                rw [hdA, hdB, skipN_nil_cons, ← hdA] at hx hw
                clear hdB
                simp [f0, f1, f7, f8, unU_len, la', lb', nlb]
                simp [f8, hwJ]
                refine NextM_of (H1.length + 2) ((A.length - (i + u)) + (B.length - (j + (v + 1)))) (Nat.le_refl _) (by simp) (by omega) ⟨u, v + 1, rfl, by omega, by omega, ?_, ?_, ?_⟩
                · rw [show j + (v + 1) = J + 1 by omega, hU]; exact hx
                · rw [show j + (v + 1) = J + 1 by omega, hU]; simp only at hw; omega
                · simp [eI, eJ, eJ1, f0, f1, f5, f6, f7, f9, h52, cut_appk hcl1]
              · have lb' : ¬ (J : Int) < B.length := by omega
                have hdB : B.drop J = [] := List.drop_eq_nil_of_le lb
                rw [hdA, hdB, skipN_nil_nil] at hx hw
                simp at hx hw
                subst hx; subst hw
                simp [f0, f1, f7, f8, unU_len, la', lb']
                simp [f0, f1, f5, f6, f7, f8, f9, eI, eJ]
          clear f0 f1 f5 f6 f7 f8
          rintro fr' H' ⟨f0, f1, f5, f6, f7, f8, f9, rfl⟩
          obtain ⟨r, hr⟩ : ∃ r : Rn, r = ⟨i, i + x, j, j + w⟩ := ⟨_, rfl⟩
          have hbt : out.map encRn ++ [[.int .i64 (i : Int), .int .i64 ((i + x : Nat) : Int), .int .i64 (j : Int), .int .i64 ((j + w : Nat) : Int)]] = (out ++ [r]).map encRn := by simp [encRn, hr]
          rw [← hr] at hrs
          generalize hI : i + x = I at hrs f7 hbt
          generalize hJ : j + w = J at hrs f8 hbt
          simp [f6, f7, f8, f9, appA]
          rw [if_pos (by omega)]
          simp [hbt]
          refine NextM_of (H1.length + 1) ((A.length - I) + (B.length - J)) (Nat.le_refl _) (by simp) (by omega) ⟨I, J, f, out ++ [r], rfl, by omega, by omega, ?_, by omega, by simp; omega, ?_⟩
          · rw [hrs]; simp
          · simp [f0, f1, f5, f7, f8, h5, cut_appk hcl1]
      · have lb' : ¬ (j : Int) < B.length := by omega
        have hdB : B.drop j = [] := List.drop_eq_nil_of_le lb
        have hhe : headEq (A.drop i) (B.drop j) = false := by rw [hdA, hdB]; rfl
        have hne : ¬ (A.drop i = [] ∧ B.drop j = []) := fun h => by have := h.1; rw [hdA] at this; cases this
        rw [runsF_run hne hhe] at hrs
        have hskp : 1 ≤ (skipN (A.drop i) (B.drop j)).1 + (skipN (A.drop i) (B.drop j)).2 := (skipN_spec _ _).2.2.2.2 (by rw [hdA, hdB]; exact fun h => h)
        clear hdA hdB hhe hne
        simp [f0, f1, f7, f8, unU_len, la', lb']
        have hsp := skipN_spec (A.drop i) (B.drop j)
        simp only [List.length_drop] at hsp
        obtain ⟨sp1, sp2, -, -, -⟩ := hsp
        simp only [List.drop_drop] at hrs
        generalize hSK : skipN (A.drop i) (B.drop j) = SK at hrs hskp sp1 sp2
        obtain ⟨x, w⟩ := SK
        simp only at hrs hskp sp1 sp2
        refine LoopK_out 2 (fun fr' H' => fr' 0 = .d (.sl z 2 ((unU p A).map encU)) ∧ fr' 1 = .d (.sl y 2 ((unU q B).map encU)) ∧ fr' 5 = .msl H.length 0 n ∧ fr' 6 = .osl true 4 (out.map encRn) H1.length ∧ fr' 7 = .d (.int .i64 ((i + x : Nat) : Int)) ∧ fr' 8 = .d (.int .i64 ((j + w : Nat) : Int)) ∧ fr' 9 = .ptr (H1.length + 1) 0 ∧ H' = H1 ++ [.tok out.length 4 tr, .box tr [.d (.int .i64 (i : Int)), .d (.int .i64 0), .d (.int .i64 (j : Int)), .d (.int .i64 0)]]) ?_ ?_
        · refine LoopM_of (H1.length + 2) (fun d fr' H' => ∃ u v : Nat, d = (A.length - (i + u)) + (B.length - (j + v)) ∧ i + u ≤ A.length ∧ j + v ≤ B.length ∧ x = u + (skipN (A.drop (i + u)) (B.drop (j + v))).1 ∧ w = v + (skipN (A.drop (i + u)) (B.drop (j + v))).2 ∧ fr' 0 = .d (.sl z 2 ((unU p A).map encU)) ∧ fr' 1 = .d (.sl y 2 ((unU q B).map encU)) ∧ fr' 5 = .msl H.length 0 n ∧ fr' 6 = .osl true 4 (out.map encRn) H1.length ∧ fr' 7 = .d (.int .i64 ((i + u : Nat) : Int)) ∧ fr' 8 = .d (.int .i64 ((j + v : Nat) : Int)) ∧ fr' 9 = .ptr (H1.length + 1) 0 ∧ H' = H1 ++ [.tok out.length 4 tr, .box tr [.d (.int .i64 (i : Int)), .d (.int .i64 0), .d (.int .i64 (j : Int)), .d (.int .i64 0)]]) ((A.length - (i + 0)) + (B.length - (j + 0))) (by simp; omega) ⟨0, 0, rfl, by omega, by omega, by simp [hSK], by simp [hSK], ?_⟩ ?_
          · simp [f0, f1, f5, f6, f7, f8, h52, cut_appk hcl1]
          clear hSK hskp f0 f1 f5 f6 f7 f8
          rintro d fr' H' ⟨u, v, rfl, hu, hv, hx, hw, f0, f1, f5, f6, f7, f8, f9, rfl⟩
          generalize hU : i + u = I at hu hx hw f7
          generalize hV : j + v = J at hv hx hw f8
          have eI : (i : Int) + (u : Int) = (I : Int) := by omega
          have eJ : (j : Int) + (v : Int) = (J : Int) := by omega
          have eI1 : (i : Int) + ((u : Int) + 1) = (I : Int) + 1 := by omega
          have eJ1 : (j : Int) + ((v : Int) + 1) = (J : Int) + 1 := by omega
          have hwI : IntKind.i64.wrap ((I : Int) + 1) = (I : Int) + 1 := wrap_i64 (by omega) (by omega)
          have hwJ : IntKind.i64.wrap ((J : Int) + 1) = (J : Int) + 1 := wrap_i64 (by omega) (by omega)
          rcases Nat.lt_or_ge I A.length with la | la
          · have la' : (I : Int) < A.length := by omega
            have ra := unU_row (p := p) la
            have hdA : A.drop I = A[I] :: A.drop (I + 1) := List.drop_eq_getElem_cons la
            rcases Nat.lt_or_ge J B.length with lb | lb
            · have lb' : (J : Int) < B.length := by omega
              have nlb : ¬ ((J : Int) = B.length) := by omega
              have rb := unU_row (p := q) lb
              have hdB : B.drop J = B[J] :: B.drop (J + 1) := List.drop_eq_getElem_cons lb
              by_cases hab : A[I] = B[J]
              · rw [hdA, hdB, skipN_cons, if_pos hab] at hx hw
                rw [hab] at ra
                generalize B[J] = b at ra rb
                simp at hx hw
                subst hx; subst hw
                simp [f0, f1, f7, f8, unU_len, la', lb', ra, rb]
                simp [f0, f1, f5, f6, f7, f8, f9, eI, eJ]
              · have a1 := iaddrA_app (X := [.tok out.length 4 tr, .box tr [.d (.int .i64 (i : Int)), .d (.int .i64 0), .d (.int .i64 (j : Int)), .d (.int .i64 0)]]) (hi1 ((I : Int) + 1) (I + 1) (by omega) (by omega))
                have l1 := ldA_app (X := [.tok out.length 4 tr, .box tr [.d (.int .i64 (i : Int)), .d (.int .i64 0), .d (.int .i64 (j : Int)), .d (.int .i64 0)]]) (hl1 (I + 1) (by omega))
                have a2 := iaddrA_app (X := [.tok out.length 4 tr, .box tr [.d (.int .i64 (i : Int)), .d (.int .i64 0), .d (.int .i64 (j : Int)), .d (.int .i64 0)]]) (hi2 (J : Int) (I + 1) J (by omega) rfl (by omega))
                have l2 := ldA_app (X := [.tok out.length 4 tr, .box tr [.d (.int .i64 (i : Int)), .d (.int .i64 0), .d (.int .i64 (j : Int)), .d (.int .i64 0)]]) (hl2 (I + 1) J (by omega) (by omega))
                have a3 := iaddrA_app (X := [.tok out.length 4 tr, .box tr [.d (.int .i64 (i : Int)), .d (.int .i64 0), .d (.int .i64 (j : Int)), .d (.int .i64 0)]]) (hi1 (I : Int) I rfl (by omega))
                have l3 := ldA_app (X := [.tok out.length 4 tr, .box tr [.d (.int .i64 (i : Int)), .d (.int .i64 0), .d (.int .i64 (j : Int)), .d (.int .i64 0)]]) (hl1 I (by omega))
                have a4 := iaddrA_app (X := [.tok out.length 4 tr, .box tr [.d (.int .i64 (i : Int)), .d (.int .i64 0), .d (.int .i64 (j : Int)), .d (.int .i64 0)]]) (hi2 ((J : Int) + 1) I (J + 1) (by omega) (by omega) (by omega))
                have l4 := ldA_app (X := [.tok out.length 4 tr, .box tr [.d (.int .i64 (i : Int)), .d (.int .i64 0), .d (.int .i64 (j : Int)), .d (.int .i64 0)]]) (hl2 I (J + 1) (by omega) (by omega))
                have hsk := skipN_cons A[I] B[J] (A.drop (I + 1)) (B.drop (J + 1))
                rw [if_neg hab, ← hdA, ← hdB] at hsk
                generalize lcs (A.drop (I + 1)) (B.drop J) = X1 at l2 hsk
                generalize lcs (A.drop I) (B.drop (J + 1)) = X2 at l4 hsk
                clear hdA hdB
                generalize A[I] = a at ra hab
                generalize B[J] = b at rb hab
                have hi2' : ∀ H : Hp, ∀ c : D, iaddrA H 2 (.d c) = iaddrA H 2 (.d c) := fun _ _ => rfl
                simp [f0, f1, f5, f7, f8, unU_len, la', lb', nlb, ra, rb, hab, hwI, hwJ, a1, l1, a2, l2, a3, l3, a4, l4, iaddrA_sl, ldA_eptr, -iaddrA, -ldA]
                by_cases hle : X2 ≤ X1
                · rw [if_pos hle] at hsk
                  rw [hsk] at hx hw
                  simp [hle, f7, hwI]
                  refine NextM_of (H1.length + 2) ((A.length - (i + (u + 1))) + (B.length - (j + v))) (Nat.le_refl _) (by simp) (by omega) ⟨u + 1, v, rfl, by omega, by omega, ?_, ?_, ?_⟩
                  · rw [show i + (u + 1) = I + 1 by omega, hV]; simp only at hx; omega
                  · rw [show i + (u + 1) = I + 1 by omega, hV]; exact hw
                  · simp [eI, eI1, eJ, f0, f1, f5, f6, f8, f9, h52, cut_appk hcl1]
                · rw [if_neg hle] at hsk
                  rw [hsk] at hx hw
                  simp [hle, f8, hwJ]
                  refine NextM_of (H1.length + 2) ((A.length - (i + u)) + (B.length - (j + (v + 1)))) (Nat.le_refl _) (by simp) (by omega) ⟨u, v + 1, rfl, by omega, by omega, ?_, ?_, ?_⟩
                  · rw [show j + (v + 1) = J + 1 by omega, hU]; exact hx
                  · rw [show j + (v + 1) = J + 1 by omega, hU]; simp only at hw; omega
                  · simp [eI, eJ, eJ1, f0, f1, f5, f6, f7, f9, h52, cut_appk hcl1]
            · have lb' : ¬ (J : Int) < B.length := by omega
              have elb : (J : Int) = B.length := by omega
              have hdB : B.drop J = [] := List.drop_eq_nil_of_le lb
              rw [hdA, hdB, skipN_cons_nil, ← hdB] at hx hw
              clear hdA
              simp [f0, f1, f7, f8, unU_len, la', elb]
              simp [f7, hwI]
              refine NextM_of (H1.length + 2) ((A.length - (i + (u + 1))) + (B.length - (j + v))) (Nat.le_refl _) (by simp) (by omega) ⟨u + 1, v, rfl, by omega, by omega, ?_, ?_, ?_⟩
              · rw [show i + (u + 1) = I + 1 by omega, hV]; simp only at hx; omega
              · rw [show i + (u + 1) = I + 1 by omega, hV]; exact hw
              · simp [eI, eI1, eJ, f0, f1, f5, f6, f8, f9, h52, cut_appk hcl1]
          · have la' : ¬ (I : Int) < A.length := by omega
            have hdA : A.drop I = [] := List.drop_eq_nil_of_le la
            rcases Nat.lt_or_ge J B.length with lb | lb
            · have lb' : (J : Int) < B.length := by omega
              have nlb : ¬ ((J : Int) = B.length) := by omega
              have hdB : B.drop J = B[J] :: B.drop (J + 1) := List.drop_eq_getElem_cons lb
              rw [hdA, hdB, skipN_nil_cons, ← hdA] at hx hw
              clear hdB
              simp [f0, f1, f7, f8, unU_len, la', lb', nlb]
              simp [f8, hwJ]
              refine NextM_of (H1.length + 2) ((A.length - (i + u)) + (B.length - (j + (v + 1)))) (Nat.le_refl _) (by simp) (by omega) ⟨u, v + 1, rfl, by omega, by omega, ?_, ?_, ?_⟩
              · rw [show j + (v + 1) = J + 1 by omega, hU]; exact hx
              · rw [show j + (v + 1) = J + 1 by omega, hU]; simp only at hw; omega
              · simp [eI, eJ, eJ1, f0, f1, f5, f6, f7, f9, h52, cut_appk hcl1]
            · have lb' : ¬ (J : Int) < B.length := by omega
              have hdB : B.drop J = [] := List.drop_eq_nil_of_le lb
              rw [hdA, hdB, skipN_nil_nil] at hx hw
              simp at hx hw
              subst hx; subst hw
              simp [f0, f1, f7, f8, unU_len, la', lb']
              simp [f0, f1, f5, f6, f7, f8, f9, eI, eJ]
        clear f0 f1 f5 f6 f7 f8
        rintro fr' H' ⟨f0, f1, f5, f6, f7, f8, f9, rfl⟩
        obtain ⟨r, hr⟩ : ∃ r : Rn, r = ⟨i, i + x, j, j + w⟩ := ⟨_, rfl⟩
        have hbt : out.map encRn ++ [[.int .i64 (i : Int), .int .i64 ((i + x : Nat) : Int), .int .i64 (j : Int), .int .i64 ((j + w : Nat) : Int)]] = (out ++ [r]).map encRn := by simp [encRn, hr]
        rw [← hr] at hrs
        generalize hI : i + x = I at hrs f7 hbt
        generalize hJ : j + w = J at hrs f8 hbt
        simp [f6, f7, f8, f9, appA]
        rw [if_pos (by omega)]
        simp [hbt]
        refine NextM_of (H1.length + 1) ((A.length - I) + (B.length - J)) (Nat.le_refl _) (by simp) (by omega) ⟨I, J, f, out ++ [r], rfl, by omega, by omega, ?_, by omega, by simp; omega, ?_⟩
        · rw [hrs]; simp
        · simp [f0, f1, f5, f7, f8, h5, cut_appk hcl1]
    · have la' : ¬ (i : Int) < A.length := by omega
      have hdA : A.drop i = [] := List.drop_eq_nil_of_le la
      rcases Nat.lt_or_ge j B.length with lb | lb
      · have lb' : (j : Int) < B.length := by omega
        have hdB : B.drop j = B[j] :: B.drop (j + 1) := List.drop_eq_getElem_cons lb
        have hhe : headEq (A.drop i) (B.drop j) = false := by rw [hdA]; rfl
        have hne : ¬ (A.drop i = [] ∧ B.drop j = []) := fun h => by have := h.2; rw [hdB] at this; cases this
        rw [runsF_run hne hhe] at hrs
        have hskp : 1 ≤ (skipN (A.drop i) (B.drop j)).1 + (skipN (A.drop i) (B.drop j)).2 := (skipN_spec _ _).2.2.2.2 (by rw [hdA, hdB]; exact fun h => h)
        clear hdA hdB hhe hne
        simp [f0, f1, f7, f8, unU_len, la', lb']
        have hsp := skipN_spec (A.drop i) (B.drop j)
        simp only [List.length_drop] at hsp
        obtain ⟨sp1, sp2, -, -, -⟩ := hsp
        simp only [List.drop_drop] at hrs
        generalize hSK : skipN (A.drop i) (B.drop j) = SK at hrs hskp sp1 sp2
        obtain ⟨x, w⟩ := SK
        simp only at hrs hskp sp1 sp2
        refine LoopK_out 2 (fun fr' H' => fr' 0 = .d (.sl z 2 ((unU p A).map encU)) ∧ fr' 1 = .d (.sl y 2 ((unU q B).map encU)) ∧ fr' 5 = .msl H.length 0 n ∧ fr' 6 = .osl true 4 (out.map encRn) H1.length ∧ fr' 7 = .d (.int .i64 ((i + x : Nat) : Int)) ∧ fr' 8 = .d (.int .i64 ((j + w : Nat) : Int)) ∧ fr' 9 = .ptr (H1.length + 1) 0 ∧ H' = H1 ++ [.tok out.length 4 tr, .box tr [.d (.int .i64 (i : Int)), .d (.int .i64 0), .d (.int .i64 (j : Int)), .d (.int .i64 0)]]) ?_ ?_
        · refine LoopM_of (H1.length + 2) (fun d fr' H' => ∃ u v : Nat, d = (A.length - (i + u)) + (B.length - (j + v)) ∧ i + u ≤ A.length ∧ j + v ≤ B.length ∧ x = u + (skipN (A.drop (i + u)) (B.drop (j + v))).1 ∧ w = v + (skipN (A.drop (i + u)) (B.drop (j + v))).2 ∧ fr' 0 = .d (.sl z 2 ((unU p A).map encU)) ∧ fr' 1 = .d (.sl y 2 ((unU q B).map encU)) ∧ fr' 5 = .msl H.length 0 n ∧ fr' 6 = .osl true 4 (out.map encRn) H1.length ∧ fr' 7 = .d (.int .i64 ((i + u : Nat) : Int)) ∧ fr' 8 = .d (.int .i64 ((j + v : Nat) : Int)) ∧ fr' 9 = .ptr (H1.length + 1) 0 ∧ H' = H1 ++ [.tok out.length 4 tr, .box tr [.d (.int .i64 (i : Int)), .d (.int .i64 0), .d (.int .i64 (j : Int)), .d (.int .i64 0)]]) ((A.length - (i + 0)) + (B.length - (j + 0))) (by simp; omega) ⟨0, 0, rfl, by omega, by omega, by simp [hSK], by simp [hSK], ?_⟩ ?_
          · simp [f0, f1, f5, f6, f7, f8, h52, cut_appk hcl1]
          clear hSK hskp f0 f1 f5 f6 f7 f8
          rintro d fr' H' ⟨u, v, rfl, hu, hv, hx, hw, f0, f1, f5, f6, f7, f8, f9, rfl⟩
          generalize hU : i + u = I at hu hx hw f7
          generalize hV : j + v = J at hv hx hw f8
          have eI : (i : Int) + (u : Int) = (I : Int) := by omega
          have eJ : (j : Int) + (v : Int) = (J : Int) := by omega
          have eI1 : (i : Int) + ((u : Int) + 1) = (I : Int) + 1 := by omega
          have eJ1 : (j : Int) + ((v : Int) + 1) = (J : Int) + 1 := by omega
          have hwI : IntKind.i64.wrap ((I : Int) + 1) = (I : Int) + 1 := wrap_i64 (by omega) (by omega)
          have hwJ : IntKind.i64.wrap ((J : Int) + 1) = (J : Int) + 1 := wrap_i64 (by omega) (by omega)
          rcases Nat.lt_or_ge I A.length with la | la
          · have la' : (I : Int) < A.length := by omega
            have ra := unU_row (p := p) la
            have hdA : A.drop I = A[I] :: A.drop (I + 1) := List.drop_eq_getElem_cons la
            rcases Nat.lt_or_ge J B.length with lb | lb
            · have lb' : (J : Int) < B.length := by omega
              have nlb : ¬ ((J : Int) = B.length) := by omega
              have rb := unU_row (p := q) lb
              have hdB : B.drop J = B[J] :: B.drop (J + 1) := List.drop_eq_getElem_cons lb
              by_cases hab : A[I] = B[J]
              · rw [hdA, hdB, skipN_cons, if_pos hab] at hx hw
                rw [hab] at ra
                generalize B[J] = b at ra rb
                simp at hx hw
                subst hx; subst hw
                simp [f0, f1, f7, f8, unU_len, la', lb', ra, rb]
                simp [f0, f1, f5, f6, f7, f8, f9, eI, eJ]
              · have a1 := iaddrA_app (X := [.tok out.length 4 tr, .box tr [.d (.int .i64 (i : Int)), .d (.int .i64 0), .d (.int .i64 (j : Int)), .d (.int .i64 0)]]) (hi1 ((I : Int) + 1) (I + 1) (by omega) (by omega))
                have l1 := ldA_app (X := [.tok out.length 4 tr, .box tr [.d (.int .i64 (i : Int)), .d (.int .i64 0), .d (.int .i64 (j : Int)), .d (.int .i64 0)]]) (hl1 (I + 1) (by omega))
                have a2 := iaddrA_app (X := [.tok out.length 4 tr, .box tr [.d (.int .i64 (i : Int)), .d (.int .i64 0), .d (.int .i64 (j : Int)), .d (.int .i64 0)]]) (hi2 (J : Int) (I + 1) J (by omega) rfl (by omega))
                have l2 := ldA_app (X := [.tok out.length 4 tr, .box tr [.d (.int .i64 (i : Int)), .d (.int .i64 0), .d (.int .i64 (j : Int)), .d (.int .i64 0)]]) (hl2 (I + 1) J (by omega) (by omega))
                have a3 := iaddrA_app (X := [.tok out.length 4 tr, .box tr [.d (.int .i64 (i : Int)), .d (.int .i64 0), .d (.int .i64 (j : Int)), .d (.int .i64 0)]]) (hi1 (I : Int) I rfl (by omega))
                have l3 := ldA_app (X := [.tok out.length 4 tr, .box tr [.d (.int .i64 (i : Int)), .d (.int .i64 0), .d (.int .i64 (j : Int)), .d (.int .i64 0)]]) (hl1 I (by omega))
                have a4 := iaddrA_app (X := [.tok out.length 4 tr, .box tr [.d (.int .i64 (i : Int)), .d (.int .i64 0), .d (.int .i64 (j : Int)), .d (.int .i64 0)]]) (hi2 ((J : Int) + 1) I (J + 1) (by omega) (by omega) (by omega))
                have l4 := ldA_app (X := [.tok out.length 4 tr, .box tr [.d (.int .i64 (i : Int)), .d (.int .i64 0), .d (.int .i64 (j : Int)), .d (.int .i64 0)]]) (hl2 I (J + 1) (by omega) (by omega))
                have hsk := skipN_cons A[I] B[J] (A.drop (I + 1)) (B.drop (J + 1))
                rw [if_neg hab, ← hdA, ← hdB] at hsk
                generalize lcs (A.drop (I + 1)) (B.drop J) = X1 at l2 hsk
                generalize lcs (A.drop I) (B.drop (J + 1)) = X2 at l4 hsk
                clear hdA hdB
                generalize A[I] = a at ra hab
                generalize B[J] = b at rb hab
                have hi2' : ∀ H : Hp, ∀ c : D, iaddrA H 2 (.d c) = iaddrA H 2 (.d c) := fun _ _ => rfl
                simp [f0, f1, f5, f7, f8, unU_len, la', lb', nlb, ra, rb, hab, hwI, hwJ, a1, l1, a2, l2, a3, l3, a4, l4, iaddrA_sl, ldA_eptr, -iaddrA, -ldA]
                by_cases hle : X2 ≤ X1
                · rw [if_pos hle] at hsk
                  rw [hsk] at hx hw
                  simp [hle, f7, hwI]
                  refine NextM_of (H1.length + 2) ((A.length - (i + (u + 1))) + (B.length - (j + v))) (Nat.le_refl _) (by simp) (by omega) ⟨u + 1, v, rfl, by omega, by omega, ?_, ?_, ?_⟩
                  · rw [show i + (u + 1) = I + 1 by omega, hV]; simp only at hx; omega
                  · rw [show i + (u + 1) = I + 1 by omega, hV]; exact hw
                  · simp [eI, eI1, eJ, f0, f1, f5, f6, f8, f9, h52, cut_appk hcl1]
                · rw [if_neg hle] at hsk
                  rw [hsk] at hx hw
                  simp [hle, f8, hwJ]
                  refine NextM_of (H1.length + 2) ((A.length - (i + u)) + (B.length - (j + (v + 1)))) (Nat.le_refl _) (by simp) (by omega) ⟨u, v + 1, rfl, by omega, by omega, ?_, ?_, ?_⟩
                  · rw [show j + (v + 1) = J + 1 by omega, hU]; exact hx
                  · rw [show j + (v + 1) = J + 1 by omega, hU]; simp only at hw; omega
                  · simp [eI, eJ, eJ1, f0, f1, f5, f6, f7, f9, h52, cut_appk hcl1]
            · have lb' : ¬ (J : Int) < B.length := by omega
              have elb : (J : Int) = B.length := by omega
              have hdB : B.drop J = [] := List.drop_eq_nil_of_le lb
              rw [hdA, hdB, skipN_cons_nil, ← hdB] at hx hw
              clear hdA
              simp [f0, f1, f7, f8, unU_len, la', elb]
              simp [f7, hwI]
              refine NextM_of (H1.length + 2) ((A.length - (i + (u + 1))) + (B.length - (j + v))) (Nat.le_refl _) (by simp) (by omega) ⟨u + 1, v, rfl, by omega, by omega, ?_, ?_, ?_⟩
              · rw [show i + (u + 1) = I + 1 by omega, hV]; simp only at hx; omega
              · rw [show i + (u + 1) = I + 1 by omega, hV]; exact hw
              · simp [eI, eI1, eJ, f0, f1, f5, f6, f8, f9, h52, cut_appk hcl1]
          · have la' : ¬ (I : Int) < A.length := by omega
            have hdA : A.drop I = [] := List.drop_eq_nil_of_le la
            rcases Nat.lt_or_ge J B.length with lb | lb
            · have lb' : (J : Int) < B.length := by omega
              have nlb : ¬ ((J : Int) = B.length) := by omega
              have hdB : B.drop J = B[J] :: B.drop (J + 1) := List.drop_eq_getElem_cons lb
              rw [hdA, hdB, skipN_nil_cons, ← hdA] at hx hw
              clear hdB
              simp [f0, f1, f7, f8, unU_len, la', lb', nlb]
              simp [f8, hwJ]
              refine NextM_of (H1.length + 2) ((A.length - (i + u)) + (B.length - (j + (v + 1)))) (Nat.le_refl _) (by simp) (by omega) ⟨u, v + 1, rfl, by omega, by omega, ?_, ?_, ?_⟩
              · rw [show j + (v + 1) = J + 1 by omega, hU]; exact hx
              · rw [show j + (v + 1) = J + 1 by omega, hU]; simp only at hw; omega
              · simp [eI, eJ, eJ1, f0, f1, f5, f6, f7, f9, h52, cut_appk hcl1]
            · have lb' : ¬ (J : Int) < B.length := by omega
              have hdB : B.drop J = [] := List.drop_eq_nil_of_le lb
              rw [hdA, hdB, skipN_nil_nil] at hx hw
              simp at hx hw
              subst hx; subst hw
              simp [f0, f1, f7, f8, unU_len, la', lb']
              simp [f0, f1, f5, f6, f7, f8, f9, eI, eJ]
        clear f0 f1 f5 f6 f7 f8
        rintro fr' H' ⟨f0, f1, f5, f6, f7, f8, f9, rfl⟩
        obtain ⟨r, hr⟩ : ∃ r : Rn, r = ⟨i, i + x, j, j + w⟩ := ⟨_, rfl⟩
        have hbt : out.map encRn ++ [[.int .i64 (i : Int), .int .i64 ((i + x : Nat) : Int), .int .i64 (j : Int), .int .i64 ((j + w : Nat) : Int)]] = (out ++ [r]).map encRn := by simp [encRn, hr]
        rw [← hr] at hrs
        generalize hI : i + x = I at hrs f7 hbt
        generalize hJ : j + w = J at hrs f8 hbt
        simp [f6, f7, f8, f9, appA]
        rw [if_pos (by omega)]
        simp [hbt]
        refine NextM_of (H1.length + 1) ((A.length - I) + (B.length - J)) (Nat.le_refl _) (by simp) (by omega) ⟨I, J, f, out ++ [r], rfl, by omega, by omega, ?_, by omega, by simp; omega, ?_⟩
        · rw [hrs]; simp
        · simp [f0, f1, f5, f7, f8, h5, cut_appk hcl1]
      · have lb' : ¬ (j : Int) < B.length := by omega
        have hdB : B.drop j = [] := List.drop_eq_nil_of_le lb
        rw [runsF, if_pos ⟨hdA, hdB⟩, List.append_nil] at hrs
        simp [f0, f1, f7, f8, unU_len, la', lb', f6, hrs]
  rintro fr H' ⟨f6, X, rfl⟩
  simp [f6]
  simp [RetK, hfin]
  omega

end
end Go.Zam

namespace Go.Zam
set_option linter.all false
set_option maxRecDepth 100000
set_option maxHeartbeats 1000000

theorem posU_bd (A : List Bs) (i : Nat) : posU A i ≤ A.flatten.length := flat_take A i

section
variable {P : Program}

theorem HasT.edits {f fp fx t1 t2 te tr} (h : HasT P [9] f (irDEdits fp fx t1 t2 te tr)) (hp : Has P fp irDPlace) (kp : callOk P fp = true)
    (hx : ∀ (z : Bool) (p : Nat) (A : List Bs), A.length ≤ 1048576 → A.flatten.length ≤ 1048576 → ∀ H, ACall P fx [.d (.sl z 2 ((unU p A).map encU))] H (fun r H' => r = .d (.str A.flatten) ∧ H' = H))
    (z za zb : Bool) (p q : Nat) (A B : List Bs) (rs : List Rn) (hA : A.length ≤ 1048576) (hB : B.length ≤ 1048576) (hfB : B.flatten.length ≤ 1048576) (hl : rs.length ≤ 4194304) (hrs : ∀ r ∈ rs, r.a ≤ A.length ∧ r.b ≤ A.length ∧ r.c ≤ r.d ∧ r.d ≤ B.length) (H : Hp) :
    ACall P f [.d (.sl z 4 (rs.map encRn)), .d (.sl za 2 ((unU p A).map encU)), .d (.sl zb 2 ((unU q B).map encU)), .d (.int .i64 ((p + A.flatten.length : Nat) : Int))] H (fun r H' => r = .d (.sl true 3 ((rs.map (edR p A B)).map encE)) ∧ H' = H) := by
  obtain ⟨fn, hf, hcf⟩ := h
  refine acall_fin hf hcf (by simp [irDEdits]) fun hcl _ => ?_
  simp only [irDEdits]
  generalize hT : (p + A.flatten.length : Nat) = T
  simp [-List.length_flatten]
  refine LoopK_out 0 (fun fr H' => fr 9 = .osl true 3 ((rs.map (edR p A B)).map encE) (H.length + 2) ∧ ∃ X, H' = H ++ X) ?_ ?_
  · refine RangeK_of (H.length + 3) rs.length (fun i fr H' => fr 9 = .osl true 3 (((rs.take i).map (edR p A B)).map encE) (H.length + 2) ∧ fr 10 = .fn (.func fp) [] [.ptr H.length 0, .ptr (H.length + 1) 0] ∧ fr 2 = .d (.sl zb 2 ((unU q B).map encU)) ∧ fr 14 = .d (.sl z 4 (rs.map encRn)) ∧ H' = H ++ [.box t1 [.d (.sl za 2 ((unU p A).map encU))], .box t2 [.d (.int .i64 (T : Int))], .tok i 3 te]) (by omega) (by decide) (by simp) (by simp) ?_ ?_ ?_
    · simp [cut_appk hcl, Zam.A.lo]
    · rintro i fr H' hi f16 f15 ⟨f9, f10, f2, f14, rfl⟩
      have hr := rowAt_map encRn hi
      have ht : (rs.take (i + 1)).map (edR p A B) = (rs.take i).map (edR p A B) ++ [edR p A B rs[i]] := by rw [List.take_succ_eq_append_getElem hi, List.map_append]; rfl
      obtain ⟨b1, b2, b3, b4⟩ := hrs rs[i] (List.getElem_mem hi)
      generalize rs[i] = r at hr ht b1 b2 b3 b4
      obtain ⟨ra, rb, rc, rd⟩ := r
      simp only [encRn] at hr
      simp only at b1 b2 b3 b4
      have hsub : subL ((unU q B).map encU) (rc : Int) (rd : Int) = some ((unU (q + posU B rc) ((B.drop rc).take (rd - rc))).map encU) := by
        rw [subL_ok ⟨by omega, by omega, by simp [unU_len]; omega⟩]
        simp only [Int.toNat_natCast]
        rw [← List.map_drop, ← List.map_take, unU_drop, unU_take]
      have hfl : ((B.drop rc).take (rd - rc)).flatten.length ≤ 1048576 := by
        have h1 := flat_take (B.drop rc) (rd - rc)
        have h2 : (B.drop rc).flatten.length ≤ B.flatten.length := by
          have : B.flatten = (B.take rc).flatten ++ (B.drop rc).flatten := by rw [← List.flatten_append, List.take_append_drop]
          rw [this]; simp
        omega
      generalize hHp : H ++ [.box t1 [.d (.sl za 2 ((unU p A).map encU))], .box t2 [.d (.int .i64 (T : Int))], .tok i 3 te, .box tr [.d (.int .i64 (ra : Int)), .d (.int .i64 (rb : Int)), .d (.int .i64 (rc : Int)), .d (.int .i64 (rd : Int))]] = W
      have w1 : W[H.length]? = some (.box t1 [.d (.sl za 2 ((unU p A).map encU))]) := by rw [← hHp]; simp
      have w2 : W[H.length + 1]? = some (.box t2 [.d (.int .i64 ((p + A.flatten.length : Nat) : Int))]) := by rw [← hHp, hT]; simp
      have g1 := hp.place za p A hA w1 w2 ra b1
      have g2 := hp.place za p A hA w1 w2 rb b2
      have g3 := hx (zb && (unU q B).isEmpty) (q + posU B rc) ((B.drop rc).take (rd - rc)) (by simp; omega) hfl W
      have hed : encE (edR p A B ⟨ra, rb, rc, rd⟩) = [.int .i64 ((p + posU A ra : Nat) : Int), .int .i64 ((p + posU A rb : Nat) : Int), .str ((B.drop rc).take (rd - rc)).flatten] := rfl
      generalize ((B.drop rc).take (rd - rc)) = Y at hsub g3 hed
      subst hHp
      simp only [Int.natCast_add] at g1 g2 hed
      simp [f16, f14, hr, f9, f10, kp]
      refine CallD_of (by simpa using g1) ?_
      simp [f10, kp]
      refine CallD_of (by simpa using g2) ?_
      simp [f2, hsub]
      refine CallD_of (by simpa using g3) ?_
      have hel : ((rs.take i).map (edR p A B)).length = i := by simp; omega
      simp [f9, appA]
      rw [if_pos (by omega)]
      simp
      refine NextK_of (H.length + 3) (by omega) (by simp [f16, f15]) ?_
      rw [ht]
      simp [f9, f10, f2, f14, cut_appk hcl, hed, Zam.A.lo]
      omega
    · rintro fr H' f16 f15 ⟨f9, f10, f2, f14, rfl⟩
      simp [f9, List.take_of_length_le (Nat.le_refl _)]
  rintro fr H' ⟨f9, X, rfl⟩
  simp [f9]
  simp [RetK, cut_app hcl]

end
end Go.Zam

namespace Go.Zam
set_option linter.all false
set_option maxRecDepth 100000
set_option maxHeartbeats 1000000

/-- what is left of two lists without what they have in common at the beginning and at the end -/
def midN (A B : List Bs) : Nat := alikeN (A.drop (alikeN A B)).reverse (B.drop (alikeN A B)).reverse
def midA (A B : List Bs) : List Bs := (A.drop (alikeN A B)).take ((A.drop (alikeN A B)).length - midN A B)
def midB (A B : List Bs) : List Bs := (B.drop (alikeN A B)).take ((B.drop (alikeN A B)).length - midN A B)

def edsOf (p : Nat) (A B : List Bs) : List Ed :=
  if A.length + B.length = 0 then [] else
  if A.length * B.length ≤ 1048576 ∧ (runsL A B).length ≤ 512 then (runsL A B).map (edR p A B) else [edR p A B ⟨0, A.length, 0, B.length⟩]
/-- the edits between two lists of texts -/
def betweenL (A B : List Bs) : List Ed := edsOf (posU A (alikeN A B)) (midA A B) (midB A B)
theorem way_bd {o : Prop} {A B : List Bs} {i j : Nat} {rs : List Rn} (h : Way o A B i j rs) : (∀ r ∈ rs, r.a ≤ A.length ∧ r.b ≤ A.length ∧ r.c ≤ r.d ∧ r.d ≤ B.length) ∧ (i ≤ A.length → j ≤ B.length → rs.length ≤ (A.length - i) + (B.length - j)) := by
  induction h with
  | fin h1 h2 => simp
  | @keep i j u A' B' rs h1 h2 h ih =>
    refine ⟨ih.1, fun hi hj => ?_⟩
    have li : i < A.length := by
      rcases Nat.lt_or_ge i A.length with q | q
      · exact q
      · rw [List.drop_eq_nil_of_le q] at h1; cases h1
    have lj : j < B.length := by
      rcases Nat.lt_or_ge j B.length with q | q
      · exact q
      · rw [List.drop_eq_nil_of_le q] at h2; cases h2
    have := ih.2 (by omega) (by omega)
    omega
  | @run i j x y rs h0 h1 h2 h3 h4 h5 h ih =>
    refine ⟨fun r hr => ?_, fun hi hj => ?_⟩
    · rcases List.mem_cons.1 hr with rfl | hr
      · exact ⟨by simp only; omega, by simp only; omega, by simp only; omega, by simp only; omega⟩
      · exact ih.1 r hr
    · have := ih.2 h1 h2
      simp only [List.length_cons]; omega

theorem subL_drop {p : Nat} {A : List Bs} {n : Nat} (h : n ≤ A.length) : subL ((unU p A).map encU) (n : Int) (A.length : Int) = some ((unU (p + posU A n) (A.drop n)).map encU) := by
  rw [subL_ok ⟨by omega, by omega, by simp [unU_len]⟩]
  simp only [Int.toNat_natCast]
  rw [← List.map_drop, unU_drop, List.take_of_length_le (by simp [unU_len])]
theorem subL_take {p : Nat} {A : List Bs} {n : Nat} (h : n ≤ A.length) : subL ((unU p A).map encU) 0 (n : Int) = some ((unU p (A.take n)).map encU) := by
  rw [subL_ok ⟨by omega, by omega, by simp [unU_len]; omega⟩]
  simp only [Int.toNat_natCast]
  have e : Int.toNat 0 = 0 := rfl
  rw [e, List.drop_zero, Nat.sub_zero, ← List.map_take, unU_take]

section
variable {P : Program}

structure DHas (P : Program) (fu fa ft fe fr fd fb : FuncId) : Prop where
  units : ∀ (z : Bool) (l : List Tk), l.length ≤ 1048576 → (joinS l).length ≤ 1048576 → ∀ H, ACall P fu [.d (.sl z 4 (l.map encTk))] H (fun r H' => r = .d (.sl true 2 ((unU 0 (txU l)).map encU)) ∧ H' = H)
  alike : Has P fa irDAlike
  tail : Has P ft irDTail
  end_ : ∀ (z : Bool) (p : Nat) (A : List Bs), A.length ≤ 1048576 → p + A.flatten.length ≤ 1099511627776 → ∀ H, ACall P fe [.d (.sl z 2 ((unU p A).map encU))] H (fun r H' => r = .d (.int .i64 ((if A = [] then 0 else p + A.flatten.length : Nat) : Int)) ∧ H' = H)
  runs : ∀ (z y : Bool) (p q : Nat) (A B : List Bs), A.length ≤ 1048576 → B.length ≤ 1048576 → ∀ H, ACall P fr [.d (.sl z 2 ((unU p A).map encU)), .d (.sl y 2 ((unU q B).map encU))] H (fun r H' => r = .d (.sl true 4 ((runsL A B).map encRn)) ∧ H' = H)
  edits : ∀ (z za zb : Bool) (p q : Nat) (A B : List Bs) (rs : List Rn), A.length ≤ 1048576 → B.length ≤ 1048576 → B.flatten.length ≤ 1048576 → rs.length ≤ 4194304 → (∀ r ∈ rs, r.a ≤ A.length ∧ r.b ≤ A.length ∧ r.c ≤ r.d ∧ r.d ≤ B.length) → ∀ H,
    ACall P fd [.d (.sl z 4 (rs.map encRn)), .d (.sl za 2 ((unU p A).map encU)), .d (.sl zb 2 ((unU q B).map encU)), .d (.int .i64 ((p + A.flatten.length : Nat) : Int))] H (fun r H' => r = .d (.sl true 3 ((rs.map (edR p A B)).map encE)) ∧ H' = H)
  table : Has P fb irDTable

variable {fu fa ft fe fr fd fb : FuncId}

theorem DHas.between {f} (hD : DHas P fu fa ft fe fr fd fb) (h : Has P f (irDBetween fu fa ft fe fr fd)) (z y : Bool) (a b : List Tk) (ha : a.length ≤ 262144) (hb : b.length ≤ 262144) (hja : (joinS a).length ≤ 1048576) (hjb : (joinS b).length ≤ 1048576) (H : Hp) :
    ACall P f [.d (.sl z 4 (a.map encTk)), .d (.sl y 4 (b.map encTk))] H (fun r H' => r = .d (.sl true 3 ((betweenL (txU a) (txU b)).map encE)) ∧ H' = H) := by
  obtain ⟨fn, hf, hcf⟩ := h
  refine acall_fin hf hcf (by simp [irDBetween]) fun hcl _ => ?_
  have gu := hD.units z a (by omega) hja H
  have gv := hD.units y b (by omega) hjb H
  have lA := txU_len a
  have lB := txU_len b
  have fA := txU_flat a
  have fB := txU_flat b
  simp only [betweenL, midA, midB, midN]
  generalize txU a = A at gu lA fA ⊢
  generalize txU b = B at gv lB fB ⊢
  have hfA : A.flatten.length ≤ 1048576 := by rw [fA]; exact hja
  have hfB : B.flatten.length ≤ 1048576 := by rw [fB]; exact hjb
  have g1 := hD.alike.alike true true 0 0 A B (by omega) (by omega) H
  obtain ⟨n1, n2⟩ := alikeN_le A B
  generalize alikeN A B = n at g1 n1 n2 ⊢
  have s1 := subL_drop (p := 0) n1
  have s2 := subL_drop (p := 0) n2
  have hp := posU_bd A n
  have hdA : (A.drop n).flatten.length + posU A n = A.flatten.length := by
    have : A.flatten = (A.take n).flatten ++ (A.drop n).flatten := by rw [← List.flatten_append, List.take_append_drop]
    rw [this, List.length_append]; unfold posU; omega
  have hdB : (B.drop n).flatten.length ≤ B.flatten.length := by
    have : B.flatten = (B.take n).flatten ++ (B.drop n).flatten := by rw [← List.flatten_append, List.take_append_drop]
    rw [this, List.length_append]; omega
  have hnilA : A.drop n = [] → posU A n = A.flatten.length := posU_all A
  have ld1 : (A.drop n).length ≤ 1048576 := by simp; omega
  have ld2 : (B.drop n).length ≤ 1048576 := by simp; omega
  rw [Nat.zero_add] at s1 s2
  generalize posU A n = p at s1 hp hdA hnilA ⊢
  generalize posU B n = q at s2
  generalize A.drop n = A1 at s1 hdA hnilA ld1 ⊢
  generalize B.drop n = B1 at s2 hdB ld2 ⊢
  have g2 := fun z y => hD.tail.tailA z y p q A1 B1 ld1 ld2 H
  have g3 := fun z => hD.end_ z p A1 ld1 (by omega) H
  have g4 := hD.end_ true 0 A (by omega) (by omega) H
  obtain ⟨m1, m2⟩ := alikeN_le A1.reverse B1.reverse
  simp only [List.length_reverse] at m1 m2
  have hm0 : A1 = [] → alikeN A1.reverse B1.reverse = 0 := fun h => by rw [h]; rfl
  generalize alikeN A1.reverse B1.reverse = m at g2 m1 m2 hm0 ⊢
  simp [irDBetween]
  refine CallK_of' gu ?_
  simp
  refine CallK_of' gv ?_
  simp
  refine CallK_of' g1 ?_
  simp [unU_len, s1, s2]
  refine CallK_of' (g2 _ _) ?_
  simp
  refine CallK_of' (g3 _) ?_
  obtain ⟨L1, hL1⟩ : ∃ L1, L1 = A1.length - m := ⟨_, rfl⟩
  obtain ⟨L2, hL2⟩ : ∃ L2, L2 = B1.length - m := ⟨_, rfl⟩
  have hw1 : IntKind.i64.wrap ((A1.length : Int) - m) = (L1 : Int) := by rw [wrap_i64 (by omega) (by omega)]; omega
  have hw2 : IntKind.i64.wrap ((B1.length : Int) - m) = (L2 : Int) := by rw [wrap_i64 (by omega) (by omega)]; omega
  have t1 := subL_take (p := p) (A := A1) (n := L1) (by omega)
  have t2 := subL_take (p := q) (A := B1) (n := L2) (by omega)
  rw [← hL1, ← hL2]
  have hA2l : (A1.take L1).length = L1 := by simp; omega
  have hB2l : (B1.take L2).length = L2 := by simp; omega
  have hT0 : A1 = [] → (if A = [] then 0 else 0 + A.flatten.length : Nat) = p + (A1.take L1).flatten.length := fun e => by
    subst e
    have := hnilA rfl
    by_cases hA0 : A = []
    · subst hA0
      have : p = 0 := by simpa using hp
      simp [this]
    · rw [if_neg hA0]; simp [this]
  have hT1 : m = 0 → p + A1.flatten.length = p + (A1.take L1).flatten.length := fun e => by rw [List.take_of_length_le (by omega)]
  have hT2 : 0 < m → Zam.rowAt ((unU p A1).map encU) (L1 : Int) = some [.str (A1.getD L1 []), .int .i64 ((p + (A1.take L1).flatten.length : Nat) : Int)] := fun e => by
    have hlt : L1 < A1.length := by omega
    rw [unU_row hlt]
    simp [List.getD_eq_getElem?_getD, hlt, posU]
  have hfA2 : (A1.take L1).flatten.length ≤ 1048576 := by have := flat_take A1 L1; omega
  have hfB2 : (B1.take L2).flatten.length ≤ 1048576 := by have := flat_take B1 L2; omega
  generalize A1.take L1 = A2 at t1 hA2l hT0 hT1 hT2 hfA2 ⊢
  generalize B1.take L2 = B2 at t2 hB2l hfB2 ⊢
  have g5 := fun z y => hD.runs z y p q A2 B2 (by omega) (by omega) H
  obtain ⟨wb, wl⟩ := way_bd (runsL_way (o := True) A2 B2)
  have wl := wl (Nat.zero_le _) (Nat.zero_le _)
  have g6 := fun z za zb rs h1 h2 => hD.edits z za zb p q A2 B2 rs (by omega) (by omega) hfB2 h1 h2 H
  have g7 := fun z za zb => g6 z za zb (runsL A2 B2) (by omega) wb
  have g8 := fun z za zb => g6 z za zb [⟨0, A2.length, 0, B2.length⟩] (by simp) (by simp)
  clear g6 wb wl
  generalize hT : (p + A2.flatten.length : Nat) = T at g7 g8 hT0 hT1 hT2
  have hmul : IntKind.i64.wrap ((L1 : Int) * L2) = ((L1 * L2 : Nat) : Int) := by
    have h1 : L1 * L2 ≤ 1048576 * 1048576 := Nat.mul_le_mul (by omega) (by omega)
    rw [wrap_i64 (by have := Int.natCast_nonneg (L1 * L2); rw [← Int.natCast_mul]; omega) (by rw [← Int.natCast_mul]; omega), Int.natCast_mul]
  have hadd : IntKind.i64.wrap ((L1 : Int) + L2) = ((L1 + L2 : Nat) : Int) := by rw [wrap_i64 (by omega) (by omega)]; omega
  have hres : edsOf p A2 B2 = if L1 + L2 = 0 then [] else if L1 * L2 ≤ 1048576 ∧ (runsL A2 B2).length ≤ 512 then (runsL A2 B2).map (edR p A2 B2) else [edR p A2 B2 ⟨0, A2.length, 0, B2.length⟩] := by unfold edsOf; rw [hA2l, hB2l]
  rw [hres]
  generalize runsL A2 B2 = RS at g5 g7 ⊢
  simp only [encRn, List.map_cons, List.map_nil, hA2l, hB2l] at g8
  have hprod : ((L1 * L2 : Nat) : Int) = ((L1 * L2 : Nat) : Int) := rfl
  generalize hM : L1 * L2 = M at hmul ⊢
  simp only [Int.natCast_zero] at g8
  clear hprod hres
  rcases Nat.eq_zero_or_pos A1.length with hA1 | hA1
  · have hA1n : A1 = [] := List.eq_nil_of_length_eq_zero hA1
    have hm := hm0 hA1n
    have hT0 := hT0 hA1n
    rw [hT0] at g4
    have hml : A1.length = 0 := hA1
    simp [unU_len, hA1n]
    refine CallK_of' gu ?_
    simp
    refine CallK_of' g4 ?_
    simp [hm]
    simp only [hA1n] at t1 hw1
    simp only [hm] at hw1 hw2
    simp only [List.length_nil, Int.natCast_zero, Int.sub_zero] at hw1 hw2
    by_cases h0 : L1 + L2 = 0
    · have h0' : ((L1 + L2 : Nat) : Int) = 0 := by omega
      have e1 : L1 = 0 := by omega
      have e2 : L2 = 0 := by omega
      have hw0 : IntKind.i64.wrap 0 = 0 := by decide
      subst e1
      subst e2
      simp only [Int.natCast_zero] at t1 t2 hw1 hw2
      simp [hm, hA1n, unU_len, hw1, hw2, t1, t2, hA2l, hB2l, hw0]
      simp [RetK, cut_self hcl]
    have h0' : ¬ (((L1 + L2 : Nat) : Int) = 0) := by omega
    have h0'' : ¬ (L1 = 0 ∧ L2 = 0) := by omega
    have h0i : ¬ ((L1 : Int) + (L2 : Int) = 0) := by omega
    rw [if_neg h0]
    by_cases hc : M ≤ 1048576
    · have hc' : (M : Int) ≤ 1048576 := by omega
      simp [hm, hA1n, unU_len, hw1, hw2, t1, t2, hA2l, hB2l, hadd, hmul, h0', h0'', h0i, hc, hc']
      refine CallK_of' (g5 _ _) ?_
      simp
      refine CallK_of' (g7 _ _ _) ?_
      by_cases hl : RS.length ≤ 512
      · have hl' : (RS.length : Int) ≤ 512 := by omega
        rw [if_pos ⟨hc, hl⟩]
        simp [hl, hl']
        simp [RetK, cut_self hcl]
      · have hl' : ¬ (RS.length : Int) ≤ 512 := by omega
        rw [if_neg (fun h => hl h.2)]
        simp [hl, hl', unU_len, hA2l, hB2l]
        refine CallK_of' (g8 _ _ _) ?_
        simp
        simp [RetK, cut_self hcl, hA2l, hB2l]
    · have hc' : ¬ (M : Int) ≤ 1048576 := by omega
      rw [if_neg (fun h => hc h.1)]
      simp [hm, hA1n, unU_len, hw1, hw2, t1, t2, hA2l, hB2l, hadd, hmul, h0', h0'', h0i, hc, hc']
      refine CallK_of' (g8 _ _ _) ?_
      simp
      simp [RetK, cut_self hcl, hA2l, hB2l]
  · have hA1n : ¬ A1 = [] := fun e => by rw [e] at hA1; simp at hA1
    have hn0 : ¬ A1.length = 0 := by omega
    rw [if_neg hA1n]
    rcases Nat.eq_zero_or_pos m with hm | hm
    · rw [hT1 hm]
      simp [unU_len, hA1n, hn0, hm]
      simp only [hm] at hw1 hw2
      simp only [Int.natCast_zero, Int.sub_zero] at hw1 hw2
      by_cases h0 : L1 + L2 = 0
      · have h0' : ((L1 + L2 : Nat) : Int) = 0 := by omega
        have e1 : L1 = 0 := by omega
        have e2 : L2 = 0 := by omega
        have hw0 : IntKind.i64.wrap 0 = 0 := by decide
        subst e1
        subst e2
        simp only [Int.natCast_zero] at t1 t2 hw1 hw2
        simp [hm, hA1n, hn0, unU_len, hw1, hw2, t1, t2, hA2l, hB2l, hw0]
        simp [RetK, cut_self hcl]
      have h0' : ¬ (((L1 + L2 : Nat) : Int) = 0) := by omega
      have h0'' : ¬ (L1 = 0 ∧ L2 = 0) := by omega
      have h0i : ¬ ((L1 : Int) + (L2 : Int) = 0) := by omega
      rw [if_neg h0]
      by_cases hc : M ≤ 1048576
      · have hc' : (M : Int) ≤ 1048576 := by omega
        simp [hm, hA1n, hn0, unU_len, hw1, hw2, t1, t2, hA2l, hB2l, hadd, hmul, h0', h0'', h0i, hc, hc']
        refine CallK_of' (g5 _ _) ?_
        simp
        refine CallK_of' (g7 _ _ _) ?_
        by_cases hl : RS.length ≤ 512
        · have hl' : (RS.length : Int) ≤ 512 := by omega
          rw [if_pos ⟨hc, hl⟩]
          simp [hl, hl']
          simp [RetK, cut_self hcl]
        · have hl' : ¬ (RS.length : Int) ≤ 512 := by omega
          rw [if_neg (fun h => hl h.2)]
          simp [hl, hl', unU_len, hA2l, hB2l]
          refine CallK_of' (g8 _ _ _) ?_
          simp
          simp [RetK, cut_self hcl, hA2l, hB2l]
      · have hc' : ¬ (M : Int) ≤ 1048576 := by omega
        rw [if_neg (fun h => hc h.1)]
        simp [hm, hA1n, hn0, unU_len, hw1, hw2, t1, t2, hA2l, hB2l, hadd, hmul, h0', h0'', h0i, hc, hc']
        refine CallK_of' (g8 _ _ _) ?_
        simp
        simp [RetK, cut_self hcl, hA2l, hB2l]
    · have hT2 := hT2 hm
      have hm' : (0 : Int) < m := by omega
      simp [unU_len, hA1n, hn0, hm, hm', hw1, hT2]
      by_cases h0 : L1 + L2 = 0
      · have h0' : ((L1 + L2 : Nat) : Int) = 0 := by omega
        have e1 : L1 = 0 := by omega
        have e2 : L2 = 0 := by omega
        have hw0 : IntKind.i64.wrap 0 = 0 := by decide
        subst e1
        subst e2
        simp only [Int.natCast_zero] at t1 t2 hw1 hw2
        simp [hm, hA1n, hn0, unU_len, hw1, hw2, t1, t2, hA2l, hB2l, hw0]
        simp [RetK, cut_self hcl]
      have h0' : ¬ (((L1 + L2 : Nat) : Int) = 0) := by omega
      have h0'' : ¬ (L1 = 0 ∧ L2 = 0) := by omega
      have h0i : ¬ ((L1 : Int) + (L2 : Int) = 0) := by omega
      rw [if_neg h0]
      by_cases hc : M ≤ 1048576
      · have hc' : (M : Int) ≤ 1048576 := by omega
        simp [hm, hA1n, hn0, unU_len, hw1, hw2, t1, t2, hA2l, hB2l, hadd, hmul, h0', h0'', h0i, hc, hc']
        refine CallK_of' (g5 _ _) ?_
        simp
        refine CallK_of' (g7 _ _ _) ?_
        by_cases hl : RS.length ≤ 512
        · have hl' : (RS.length : Int) ≤ 512 := by omega
          rw [if_pos ⟨hc, hl⟩]
          simp [hl, hl']
          simp [RetK, cut_self hcl]
        · have hl' : ¬ (RS.length : Int) ≤ 512 := by omega
          rw [if_neg (fun h => hl h.2)]
          simp [hl, hl', unU_len, hA2l, hB2l]
          refine CallK_of' (g8 _ _ _) ?_
          simp
          simp [RetK, cut_self hcl, hA2l, hB2l]
      · have hc' : ¬ (M : Int) ≤ 1048576 := by omega
        rw [if_neg (fun h => hc h.1)]
        simp [hm, hA1n, hn0, unU_len, hw1, hw2, t1, t2, hA2l, hB2l, hadd, hmul, h0', h0'', h0i, hc, hc']
        refine CallK_of' (g8 _ _ _) ?_
        simp
        simp [RetK, cut_self hcl, hA2l, hB2l]

end
end Go.Zam

namespace Go.Zam
set_option linter.all false
set_option maxRecDepth 100000
set_option maxHeartbeats 1000000

section
variable {P : Program} {fu fa ft fe fr fd fb : FuncId}

end
end Go.Zam

namespace Go.Zam
set_option maxRecDepth 100000

def irChLight (tM : Nat) : IFn :=
 { nt := 30, res := [.t 4], body := (
  .seq (.ops [
    ⟨(some 4), none, .mv (.c (.bool false))⟩] false)
  (.seq (.ops [
    ⟨(some 5), none, .mv (.c (.int .i64 0))⟩] false)
  (.seq (.seq (.ops [
     ⟨(some 8), none, .mv (.t 0)⟩,
     ⟨(some 9), none, .lenL (.t 8)⟩,
     ⟨(some 10), none, .mv (.c (.int .i64 0))⟩] false)
   (.blk 0 (.loop (.seq (.ops [
       ⟨(some 11), none, .bin .lss (.t 10) (.t 9)⟩] false)
     (.seq (.cond (.t 11) (.skip)
      (.exit 0))
     (.seq (.blk 1 (.seq (.ops [
         ⟨(some 12), none, .iaddr 2 (.t 8) (.t 10)⟩,
         ⟨(some 13), none, .load 2 true (.t 12)⟩,
         ⟨(some 7), none, .alloc tM [(.str []), (.str [])]⟩,
         ⟨none, none, .store 2 (.t 7) (.t 13)⟩] false)
       (.seq (.ops [
         ⟨(some 14), none, .mv (.t 5)⟩,
         ⟨(some 15), none, .faddr 0 (.t 7)⟩,
         ⟨(some 16), none, .load 1 false (.t 15)⟩,
         ⟨(some 17), none, .lenS (.t 16)⟩,
         ⟨(some 18), none, .faddr 1 (.t 7)⟩,
         ⟨(some 19), none, .load 1 false (.t 18)⟩,
         ⟨(some 20), none, .lenS (.t 19)⟩,
         ⟨(some 21), none, .bin .add (.t 17) (.t 20)⟩,
         ⟨(some 22), none, .bin .add (.t 14) (.t 21)⟩,
         ⟨(some 5), none, .mv (.t 22)⟩] false)
       (.seq (.ops [
         ⟨(some 23), none, .mv (.t 5)⟩,
         ⟨(some 24), none, .mv (.t 1)⟩,
         ⟨(some 25), none, .bin .gtr (.t 23) (.t 24)⟩] false)
       (.cond (.t 25) (.seq (.ops [
          ⟨(some 4), none, .mv (.c (.bool false))⟩] false)
        (.ret))
       (.skip))))))
     (.ops [
      ⟨(some 26), none, .bin .add (.t 10) (.c (.int .i64 1))⟩,
      ⟨(some 10), none, .mv (.t 26)⟩] false)))))))
  (.seq (.ops [
    ⟨(some 27), none, .mv (.t 0)⟩,
    ⟨(some 28), none, .lenL (.t 27)⟩,
    ⟨(some 29), none, .bin .leq (.t 28) (.c (.int .i64 20))⟩,
    ⟨(some 4), none, .mv (.t 29)⟩] false)
  (.ret))))) }
def irChApply (clone find apply tC : Nat) : IFn :=
 { nt := 58, res := [.t 4, .t 5], body := (
  .seq (.ops [
    ⟨(some 4), none, .mv (.c (.sl true 2 []))⟩,
    ⟨(some 5), none, .mv (.c (.int .i64 0))⟩] false)
  (.seq (.ops [
    ⟨(some 13), none, .mv (.t 0)⟩,
    ⟨(some 14), none, .call clone [(.t 13)]⟩,
    ⟨(some 6), none, .mv (.t 14)⟩] false)
  (.seq (.ops [
    ⟨(some 15), none, .mkMap⟩,
    ⟨(some 7), none, .mv (.t 15)⟩] false)
  (.seq (.seq (.ops [
     ⟨(some 16), none, .mv (.t 1)⟩,
     ⟨(some 17), none, .lenL (.t 16)⟩,
     ⟨(some 18), none, .mv (.c (.int .i64 0))⟩] false)
   (.blk 0 (.loop (.seq (.ops [
       ⟨(some 19), none, .bin .lss (.t 18) (.t 17)⟩] false)
     (.seq (.cond (.t 19) (.skip)
      (.exit 0))
     (.seq (.blk 1 (.seq (.ops [
         ⟨(some 20), none, .iaddr 2 (.t 16) (.t 18)⟩,
         ⟨(some 21), none, .load 2 true (.t 20)⟩,
         ⟨(some 9), none, .alloc tC [(.str []), (.sl true 3 [])]⟩,
         ⟨none, none, .store 2 (.t 9) (.t 21)⟩] false)
       (.seq (.ops [
         ⟨(some 22), none, .mv (.t 6)⟩,
         ⟨(some 23), none, .faddr 0 (.t 9)⟩,
         ⟨(some 24), none, .load 1 false (.t 23)⟩,
         ⟨(some 25), none, .call find [(.t 22), (.t 24)]⟩,
         ⟨(some 10), none, .mv (.t 25)⟩] false)
       (.seq (.blk 2 (.seq (.ops [
           ⟨(some 27), none, .mv (.t 10)⟩,
           ⟨(some 28), none, .bin .lss (.t 27) (.c (.int .i64 0))⟩,
           ⟨(some 26), none, .mv (.t 28)⟩] false)
         (.cond (.t 26) (.seq (.ops [
            ⟨(some 4), none, .mv (.c (.sl true 2 []))⟩,
            ⟨(some 5), none, .mv (.c (.int .i64 32))⟩] false)
          (.ret))
         (.seq (.ops [
            ⟨(some 30), none, .mv (.t 7)⟩,
            ⟨(some 31), none, .faddr 0 (.t 9)⟩,
            ⟨(some 32), none, .load 1 false (.t 31)⟩,
            ⟨(some 33), none, .lkp false (.str []) false [(.bool false)] (.t 30) (.t 32)⟩,
            ⟨(some 29), none, .mv (.t 33)⟩] false)
          (.cond (.t 29) (.seq (.ops [
             ⟨(some 4), none, .mv (.c (.sl true 2 []))⟩,
             ⟨(some 5), none, .mv (.c (.int .i64 4))⟩] false)
           (.ret))
          (.skip))))))
       (.seq (.ops [
         ⟨(some 34), none, .mv (.t 7)⟩,
         ⟨(some 35), none, .faddr 0 (.t 9)⟩,
         ⟨(some 36), none, .load 1 false (.t 35)⟩,
         ⟨none, none, .mpUpd (.str []) (.t 34) (.t 36) (.c (.bool true))⟩] false)
       (.seq (.ops [
         ⟨(some 38), none, .mv (.t 6)⟩,
         ⟨(some 39), none, .mv (.t 10)⟩,
         ⟨(some 40), none, .iaddr 2 (.t 38) (.t 39)⟩,
         ⟨(some 41), none, .faddr 1 (.t 40)⟩,
         ⟨(some 42), none, .load 1 false (.t 41)⟩,
         ⟨(some 43), none, .faddr 1 (.t 9)⟩,
         ⟨(some 44), none, .load 1 false (.t 43)⟩,
         ⟨(some 45), none, .call apply [(.t 42), (.t 44)]⟩,
         ⟨(some 37), none, .mv (.t 45)⟩,
         ⟨(some 46), none, .ext (.t 37) 0⟩,
         ⟨(some 47), none, .ext (.t 37) 1⟩,
         ⟨(some 11), none, .mv (.t 46)⟩,
         ⟨(some 12), none, .mv (.t 47)⟩] true)
       (.seq (.seq (.ops [
          ⟨(some 48), none, .mv (.t 12)⟩,
          ⟨(some 49), none, .bin .neq (.t 48) (.c (.int .i64 0))⟩] false)
        (.cond (.t 49) (.seq (.ops [
           ⟨(some 50), none, .mv (.t 12)⟩,
           ⟨(some 4), none, .mv (.c (.sl true 2 []))⟩,
           ⟨(some 5), none, .mv (.t 50)⟩] false)
         (.ret))
        (.skip)))
       (.ops [
        ⟨(some 51), none, .mv (.t 6)⟩,
        ⟨(some 52), none, .mv (.t 10)⟩,
        ⟨(some 53), none, .mv (.t 11)⟩,
        ⟨(some 54), none, .iaddr 2 (.t 51) (.t 52)⟩,
        ⟨(some 55), none, .faddr 1 (.t 54)⟩,
        ⟨none, none, .store 1 (.t 55) (.t 53)⟩] false))))))))
     (.ops [
      ⟨(some 56), none, .bin .add (.t 18) (.c (.int .i64 1))⟩,
      ⟨(some 18), none, .mv (.t 56)⟩] false)))))))
  (.seq (.ops [
    ⟨(some 57), none, .mv (.t 6)⟩,
    ⟨(some 4), none, .mv (.t 57)⟩,
    ⟨(some 5), none, .mv (.c (.int .i64 0))⟩] false)
  (.ret)))))) }
def irRcSame : IFn :=
 { nt := 26, res := [.t 4], body := (
  .seq (.ops [
    ⟨(some 4), none, .mv (.c (.bool false))⟩] false)
  (.seq (.seq (.ops [
     ⟨(some 6), none, .mv (.t 0)⟩,
     ⟨(some 7), none, .lenL (.t 6)⟩,
     ⟨(some 8), none, .mv (.t 1)⟩,
     ⟨(some 9), none, .lenL (.t 8)⟩,
     ⟨(some 10), none, .bin .neq (.t 7) (.t 9)⟩] false)
   (.cond (.t 10) (.seq (.ops [
      ⟨(some 4), none, .mv (.c (.bool false))⟩] false)
    (.ret))
   (.skip)))
  (.seq (.seq (.ops [
     ⟨(some 5), none, .mv (.c (.int .i64 0))⟩] false)
   (.blk 0 (.loop (.seq (.seq (.ops [
        ⟨(some 11), none, .mv (.t 5)⟩,
        ⟨(some 12), none, .mv (.t 0)⟩,
        ⟨(some 13), none, .lenL (.t 12)⟩,
        ⟨(some 14), none, .bin .lss (.t 11) (.t 13)⟩] false)
      (.cond (.t 14) (.skip)
      (.exit 0)))
     (.seq (.blk 1 (.seq (.ops [
         ⟨(some 17), none, .mv (.t 0)⟩,
         ⟨(some 18), none, .mv (.t 5)⟩,
         ⟨(some 19), none, .iaddr 2 (.t 17) (.t 18)⟩,
         ⟨(some 20), none, .load 2 true (.t 19)⟩,
         ⟨(some 21), none, .mv (.t 1)⟩,
         ⟨(some 22), none, .mv (.t 5)⟩,
         ⟨(some 23), none, .iaddr 2 (.t 21) (.t 22)⟩,
         ⟨(some 24), none, .load 2 true (.t 23)⟩,
         ⟨(some 25), none, .eqA true [(.str []), (.str [])] (.t 20) (.t 24)⟩] true)
       (.cond (.t 25) (.seq (.ops [
          ⟨(some 4), none, .mv (.c (.bool false))⟩] false)
        (.ret))
       (.skip))))
     (.ops [
      ⟨(some 15), none, .mv (.t 5)⟩,
      ⟨(some 16), none, .bin .add (.t 15) (.c (.int .i64 1))⟩,
      ⟨(some 5), none, .mv (.t 16)⟩] false))))))
  (.seq (.ops [
    ⟨(some 4), none, .mv (.c (.bool true))⟩] false)
  (.ret))))) }
def irChSort (clone srt cmpM : Nat) : IFn :=
 { nt := 9, res := [.t 2], body := (
  .seq (.ops [
    ⟨(some 2), none, .mv (.c (.sl true 2 []))⟩] false)
  (.seq (.ops [
    ⟨(some 4), none, .mv (.t 0)⟩,
    ⟨(some 5), none, .call clone [(.t 4)]⟩,
    ⟨(some 3), none, .mv (.t 5)⟩] false)
  (.seq (.ops [
    ⟨(some 6), none, .mv (.t 3)⟩,
    ⟨(some 7), none, .call srt [(.t 6), (.c (.fn cmpM))]⟩] false)
  (.seq (.ops [
    ⟨(some 8), none, .mv (.t 3)⟩,
    ⟨(some 2), none, .mv (.t 8)⟩] false)
  (.ret))))) }
def irRcSort (tM : Nat) : IFn :=
 { nt := 51, res := [.t 2], body := (
  .seq (.ops [
    ⟨(some 2), none, .mv (.c (.sl true 2 []))⟩] false)
  (.seq (.ops [
    ⟨(some 3), none, .nilT 2 tM⟩] false)
  (.seq (.seq (.ops [
     ⟨(some 4), none, .mv (.c (.int .i64 0))⟩] false)
   (.blk 0 (.loop (.seq (.seq (.ops [
        ⟨(some 7), none, .mv (.t 4)⟩,
        ⟨(some 8), none, .mv (.t 0)⟩,
        ⟨(some 9), none, .lenL (.t 8)⟩,
        ⟨(some 10), none, .bin .lss (.t 7) (.t 9)⟩] false)
      (.cond (.t 10) (.skip)
      (.exit 0)))
     (.seq (.blk 1 (.seq (.ops [
         ⟨(some 13), none, .mv (.t 3)⟩,
         ⟨(some 14), none, .lenL (.t 13)⟩,
         ⟨(some 5), none, .mv (.t 14)⟩] false)
       (.seq (.blk 2 (.loop (.seq (.seq (.ops [
             ⟨(some 15), none, .mv (.t 5)⟩,
             ⟨(some 16), none, .bin .gtr (.t 15) (.c (.int .i64 0))⟩,
             ⟨(some 17), none, .mv (.t 16)⟩,
             ⟨(some 18), (some (17, true)), .mv (.t 3)⟩,
             ⟨(some 19), (some (17, true)), .mv (.t 5)⟩,
             ⟨(some 20), (some (17, true)), .bin .sub (.t 19) (.c (.int .i64 1))⟩,
             ⟨(some 21), (some (17, true)), .iaddr 2 (.t 18) (.t 20)⟩,
             ⟨(some 22), (some (17, true)), .faddr 0 (.t 21)⟩,
             ⟨(some 23), (some (17, true)), .load 1 false (.t 22)⟩,
             ⟨(some 24), (some (17, true)), .mv (.t 0)⟩,
             ⟨(some 25), (some (17, true)), .mv (.t 4)⟩,
             ⟨(some 26), (some (17, true)), .iaddr 2 (.t 24) (.t 25)⟩,
             ⟨(some 27), (some (17, true)), .faddr 0 (.t 26)⟩,
             ⟨(some 28), (some (17, true)), .load 1 false (.t 27)⟩,
             ⟨(some 29), (some (17, true)), .bin .gtr (.t 23) (.t 28)⟩,
             ⟨(some 30), none, .pick (.t 17) (.t 29) (.c (.bool false))⟩] true)
           (.cond (.t 30) (.skip)
           (.exit 2)))
          (.blk 3 (.ops [
            ⟨(some 31), none, .mv (.t 5)⟩,
            ⟨(some 32), none, .bin .sub (.t 31) (.c (.int .i64 1))⟩,
            ⟨(some 5), none, .mv (.t 32)⟩] false)))))
       (.seq (.ops [
         ⟨(some 6), none, .nilT 2 tM⟩] false)
       (.seq (.ops [
         ⟨(some 33), none, .mv (.t 6)⟩,
         ⟨(some 34), none, .mv (.t 3)⟩,
         ⟨(some 35), none, .mv (.t 5)⟩,
         ⟨(some 36), none, .slice 2 (.t 34) none (some (.t 35)) none⟩,
         ⟨(some 37), none, .app 2 32 tM (.t 33) (.t 36)⟩,
         ⟨(some 6), none, .mv (.t 37)⟩] false)
       (.seq (.ops [
         ⟨(some 38), none, .mv (.t 6)⟩,
         ⟨(some 39), none, .mv (.t 0)⟩,
         ⟨(some 40), none, .mv (.t 4)⟩,
         ⟨(some 41), none, .iaddr 2 (.t 39) (.t 40)⟩,
         ⟨(some 42), none, .load 2 true (.t 41)⟩,
         ⟨(some 43), none, .bslice 2 [(.t 42)]⟩,
         ⟨(some 44), none, .app 2 32 tM (.t 38) (.t 43)⟩,
         ⟨(some 6), none, .mv (.t 44)⟩] false)
       (.ops [
        ⟨(some 45), none, .mv (.t 6)⟩,
        ⟨(some 46), none, .mv (.t 3)⟩,
        ⟨(some 47), none, .mv (.t 5)⟩,
        ⟨(some 48), none, .slice 2 (.t 46) (some (.t 47)) none none⟩,
        ⟨(some 49), none, .app 2 32 tM (.t 45) (.t 48)⟩,
        ⟨(some 3), none, .mv (.t 49)⟩] false)))))))
     (.ops [
      ⟨(some 11), none, .mv (.t 4)⟩,
      ⟨(some 12), none, .bin .add (.t 11) (.c (.int .i64 1))⟩,
      ⟨(some 4), none, .mv (.t 12)⟩] false))))))
  (.seq (.ops [
    ⟨(some 50), none, .mv (.t 3)⟩,
    ⟨(some 2), none, .mv (.t 50)⟩] false)
  (.ret))))) }
def irChFind (idxF find1 ts : Nat) : IFn :=
 { nt := 8, res := [.t 4], body := (
  .seq (.ops [
    ⟨(some 3), none, .box ts 1 (.t 1)⟩,
    ⟨(some 4), none, .mv (.c (.int .i64 0))⟩] false)
  (.seq (.ops [
    ⟨(some 5), none, .mv (.t 0)⟩,
    ⟨(some 6), none, .mkfn (.func find1) [] [(.t 3)]⟩,
    ⟨(some 7), none, .call idxF [(.t 5), (.t 6)]⟩,
    ⟨(some 4), none, .mv (.t 7)⟩] false)
  (.ret))) }
def irRcFind : IFn :=
 { nt := 20, res := [.t 4], body := (
  .seq (.ops [
    ⟨(some 4), none, .mv (.c (.int .i64 0))⟩] false)
  (.seq (.seq (.ops [
     ⟨(some 5), none, .mv (.c (.int .i64 0))⟩] false)
   (.blk 0 (.loop (.seq (.seq (.ops [
        ⟨(some 6), none, .mv (.t 5)⟩,
        ⟨(some 7), none, .mv (.t 0)⟩,
        ⟨(some 8), none, .lenL (.t 7)⟩,
        ⟨(some 9), none, .bin .lss (.t 6) (.t 8)⟩] false)
      (.cond (.t 9) (.skip)
      (.exit 0)))
     (.seq (.blk 1 (.seq (.ops [
         ⟨(some 12), none, .mv (.t 0)⟩,
         ⟨(some 13), none, .mv (.t 5)⟩,
         ⟨(some 14), none, .iaddr 2 (.t 12) (.t 13)⟩,
         ⟨(some 15), none, .faddr 0 (.t 14)⟩,
         ⟨(some 16), none, .load 1 false (.t 15)⟩,
         ⟨(some 17), none, .mv (.t 1)⟩,
         ⟨(some 18), none, .bin .eql (.t 16) (.t 17)⟩] false)
       (.cond (.t 18) (.seq (.ops [
          ⟨(some 19), none, .mv (.t 5)⟩,
          ⟨(some 4), none, .mv (.t 19)⟩] false)
        (.ret))
       (.skip))))
     (.ops [
      ⟨(some 10), none, .mv (.t 5)⟩,
      ⟨(some 11), none, .bin .add (.t 10) (.c (.int .i64 1))⟩,
      ⟨(some 5), none, .mv (.t 11)⟩] false))))))
  (.seq (.ops [
    ⟨(some 4), none, .mv (.c (.int .i64 (-1)))⟩] false)
  (.ret)))) }
def irChCmp (cmpS tM : Nat) : IFn :=
 { nt := 10, res := [.t 4], body := (
  .seq (.ops [
    ⟨(some 2), none, .box tM 2 (.t 0)⟩,
    ⟨(some 3), none, .box tM 2 (.t 1)⟩,
    ⟨(some 4), none, .mv (.c (.int .i64 0))⟩] false)
  (.seq (.ops [
    ⟨(some 5), none, .faddr 0 (.t 2)⟩,
    ⟨(some 6), none, .load 1 false (.t 5)⟩,
    ⟨(some 7), none, .faddr 0 (.t 3)⟩,
    ⟨(some 8), none, .load 1 false (.t 7)⟩,
    ⟨(some 9), none, .call cmpS [(.t 6), (.t 8)]⟩,
    ⟨(some 4), none, .mv (.t 9)⟩] false)
  (.ret))) }
def irChFind1 (tM : Nat) : IFn :=
 { nt := 8, res := [.t 3], body := (
  .seq (.ops [
    ⟨(some 2), none, .box tM 2 (.t 0)⟩,
    ⟨(some 3), none, .mv (.c (.bool false))⟩] false)
  (.seq (.ops [
    ⟨(some 4), none, .faddr 0 (.t 2)⟩,
    ⟨(some 5), none, .load 1 false (.t 4)⟩,
    ⟨(some 6), none, .load 1 false (.t 1)⟩,
    ⟨(some 7), none, .bin .eql (.t 5) (.t 6)⟩,
    ⟨(some 3), none, .mv (.t 7)⟩] false)
  (.ret))) }

def irRcApply (rfind rapply tM : Nat) : IFn :=
 { nt := 69, res := [.t 4, .t 5], body := (
  .seq (.ops [
    ⟨(some 4), none, .mv (.c (.sl true 2 []))⟩,
    ⟨(some 5), none, .mv (.c (.int .i64 0))⟩] false)
  (.seq (.ops [
    ⟨(some 6), none, .mv (.c (.sl true 2 []))⟩] false)
  (.seq (.ops [
    ⟨(some 12), none, .mv (.t 6)⟩,
    ⟨(some 13), none, .mv (.t 0)⟩,
    ⟨(some 14), none, .appV 2 32 tM (.t 12) (.t 13)⟩,
    ⟨(some 6), none, .mv (.t 14)⟩] false)
  (.seq (.seq (.ops [
     ⟨(some 7), none, .mv (.c (.int .i64 0))⟩] false)
   (.blk 0 (.loop (.seq (.seq (.ops [
        ⟨(some 15), none, .mv (.t 7)⟩,
        ⟨(some 16), none, .mv (.t 1)⟩,
        ⟨(some 17), none, .lenL (.t 16)⟩,
        ⟨(some 18), none, .bin .lss (.t 15) (.t 17)⟩] false)
      (.cond (.t 18) (.skip)
      (.exit 0)))
     (.seq (.blk 1 (.seq (.ops [
         ⟨(some 21), none, .mv (.t 6)⟩,
         ⟨(some 22), none, .mv (.t 1)⟩,
         ⟨(some 23), none, .mv (.t 7)⟩,
         ⟨(some 24), none, .iaddr 2 (.t 22) (.t 23)⟩,
         ⟨(some 25), none, .faddr 0 (.t 24)⟩,
         ⟨(some 26), none, .load 1 false (.t 25)⟩,
         ⟨(some 27), none, .call rfind [(.t 21), (.t 26)]⟩,
         ⟨(some 8), none, .mv (.t 27)⟩] false)
       (.seq (.seq (.ops [
          ⟨(some 28), none, .mv (.t 8)⟩,
          ⟨(some 29), none, .bin .lss (.t 28) (.c (.int .i64 0))⟩] false)
        (.cond (.t 29) (.seq (.ops [
           ⟨(some 4), none, .mv (.c (.sl true 2 []))⟩,
           ⟨(some 5), none, .mv (.c (.int .i64 32))⟩] false)
         (.ret))
        (.skip)))
       (.seq (.seq (.ops [
          ⟨(some 9), none, .mv (.c (.int .i64 0))⟩] false)
        (.blk 2 (.loop (.seq (.seq (.ops [
             ⟨(some 30), none, .mv (.t 9)⟩,
             ⟨(some 31), none, .mv (.t 7)⟩,
             ⟨(some 32), none, .bin .lss (.t 30) (.t 31)⟩] false)
           (.cond (.t 32) (.skip)
           (.exit 2)))
          (.seq (.blk 3 (.seq (.ops [
              ⟨(some 35), none, .mv (.t 1)⟩,
              ⟨(some 36), none, .mv (.t 9)⟩,
              ⟨(some 37), none, .iaddr 2 (.t 35) (.t 36)⟩,
              ⟨(some 38), none, .faddr 0 (.t 37)⟩,
              ⟨(some 39), none, .load 1 false (.t 38)⟩,
              ⟨(some 40), none, .mv (.t 1)⟩,
              ⟨(some 41), none, .mv (.t 7)⟩,
              ⟨(some 42), none, .iaddr 2 (.t 40) (.t 41)⟩,
              ⟨(some 43), none, .faddr 0 (.t 42)⟩,
              ⟨(some 44), none, .load 1 false (.t 43)⟩,
              ⟨(some 45), none, .bin .eql (.t 39) (.t 44)⟩] true)
            (.cond (.t 45) (.seq (.ops [
               ⟨(some 4), none, .mv (.c (.sl true 2 []))⟩,
               ⟨(some 5), none, .mv (.c (.int .i64 4))⟩] false)
             (.ret))
            (.skip))))
          (.ops [
           ⟨(some 33), none, .mv (.t 9)⟩,
           ⟨(some 34), none, .bin .add (.t 33) (.c (.int .i64 1))⟩,
           ⟨(some 9), none, .mv (.t 34)⟩] false))))))
       (.seq (.ops [
         ⟨(some 47), none, .mv (.t 6)⟩,
         ⟨(some 48), none, .mv (.t 8)⟩,
         ⟨(some 49), none, .iaddrV 2 (.t 47) (.t 48)⟩,
         ⟨(some 50), none, .faddr 1 (.t 49)⟩,
         ⟨(some 51), none, .loadV 1 false (.t 50)⟩,
         ⟨(some 52), none, .mv (.t 1)⟩,
         ⟨(some 53), none, .mv (.t 7)⟩,
         ⟨(some 54), none, .iaddr 2 (.t 52) (.t 53)⟩,
         ⟨(some 55), none, .faddr 1 (.t 54)⟩,
         ⟨(some 56), none, .load 1 false (.t 55)⟩,
         ⟨(some 57), none, .call rapply [(.t 51), (.t 56)]⟩,
         ⟨(some 46), none, .mv (.t 57)⟩,
         ⟨(some 58), none, .ext (.t 46) 0⟩,
         ⟨(some 59), none, .ext (.t 46) 1⟩,
         ⟨(some 10), none, .mv (.t 58)⟩,
         ⟨(some 11), none, .mv (.t 59)⟩] true)
       (.seq (.seq (.ops [
          ⟨(some 60), none, .mv (.t 11)⟩,
          ⟨(some 61), none, .bin .neq (.t 60) (.c (.int .i64 0))⟩] false)
        (.cond (.t 61) (.seq (.ops [
           ⟨(some 62), none, .mv (.t 11)⟩,
           ⟨(some 4), none, .mv (.c (.sl true 2 []))⟩,
           ⟨(some 5), none, .mv (.t 62)⟩] false)
         (.ret))
        (.skip)))
       (.ops [
        ⟨(some 63), none, .mv (.t 6)⟩,
        ⟨(some 64), none, .mv (.t 8)⟩,
        ⟨(some 65), none, .mv (.t 10)⟩,
        ⟨(some 66), none, .iaddrV 2 (.t 63) (.t 64)⟩,
        ⟨(some 67), none, .faddr 1 (.t 66)⟩,
        ⟨none, none, .store 1 (.t 67) (.t 65)⟩] false)))))))
     (.ops [
      ⟨(some 19), none, .mv (.t 7)⟩,
      ⟨(some 20), none, .bin .add (.t 19) (.c (.int .i64 1))⟩,
      ⟨(some 7), none, .mv (.t 20)⟩] false))))))
  (.seq (.ops [
    ⟨(some 68), none, .mv (.t 6)⟩,
    ⟨(some 4), none, .mv (.t 68)⟩,
    ⟨(some 5), none, .mv (.c (.int .i64 0))⟩] false)
  (.ret)))))) }
def irRcFindV : IFn :=
 { nt := 20, res := [.t 4], body := (
  .seq (.ops [
    ⟨(some 4), none, .mv (.c (.int .i64 0))⟩] false)
  (.seq (.seq (.ops [
     ⟨(some 5), none, .mv (.c (.int .i64 0))⟩] false)
   (.blk 0 (.loop (.seq (.seq (.ops [
        ⟨(some 6), none, .mv (.t 5)⟩,
        ⟨(some 7), none, .mv (.t 0)⟩,
        ⟨(some 8), none, .lenL (.t 7)⟩,
        ⟨(some 9), none, .bin .lss (.t 6) (.t 8)⟩] false)
      (.cond (.t 9) (.skip)
      (.exit 0)))
     (.seq (.blk 1 (.seq (.ops [
         ⟨(some 12), none, .mv (.t 0)⟩,
         ⟨(some 13), none, .mv (.t 5)⟩,
         ⟨(some 14), none, .iaddrV 2 (.t 12) (.t 13)⟩,
         ⟨(some 15), none, .faddr 0 (.t 14)⟩,
         ⟨(some 16), none, .loadV 1 false (.t 15)⟩,
         ⟨(some 17), none, .mv (.t 1)⟩,
         ⟨(some 18), none, .bin .eql (.t 16) (.t 17)⟩] false)
       (.cond (.t 18) (.seq (.ops [
          ⟨(some 19), none, .mv (.t 5)⟩,
          ⟨(some 4), none, .mv (.t 19)⟩] false)
        (.ret))
       (.skip))))
     (.ops [
      ⟨(some 10), none, .mv (.t 5)⟩,
      ⟨(some 11), none, .bin .add (.t 10) (.c (.int .i64 1))⟩,
      ⟨(some 5), none, .mv (.t 11)⟩] false))))))
  (.seq (.ops [
    ⟨(some 4), none, .mv (.c (.int .i64 (-1)))⟩] false)
  (.ret)))) }

def irRcApply0 (rfind rapply tM : Nat) : IFn :=
 { nt := 69, res := [.t 4, .t 5], body := (
  .seq (.ops [
    ⟨(some 4), none, .mv (.c (.sl true 2 []))⟩,
    ⟨(some 5), none, .mv (.c (.int .i64 0))⟩] false)
  (.seq (.ops [
    ⟨(some 6), none, .nilT 2 tM⟩] false)
  (.seq (.ops [
    ⟨(some 12), none, .mv (.t 6)⟩,
    ⟨(some 13), none, .mv (.t 0)⟩,
    ⟨(some 14), none, .app 2 32 tM (.t 12) (.t 13)⟩,
    ⟨(some 6), none, .mv (.t 14)⟩] false)
  (.seq (.seq (.ops [
     ⟨(some 7), none, .mv (.c (.int .i64 0))⟩] false)
   (.blk 0 (.loop (.seq (.seq (.ops [
        ⟨(some 15), none, .mv (.t 7)⟩,
        ⟨(some 16), none, .mv (.t 1)⟩,
        ⟨(some 17), none, .lenL (.t 16)⟩,
        ⟨(some 18), none, .bin .lss (.t 15) (.t 17)⟩] false)
      (.cond (.t 18) (.skip)
      (.exit 0)))
     (.seq (.blk 1 (.seq (.ops [
         ⟨(some 21), none, .mv (.t 6)⟩,
         ⟨(some 22), none, .mv (.t 1)⟩,
         ⟨(some 23), none, .mv (.t 7)⟩,
         ⟨(some 24), none, .iaddr 2 (.t 22) (.t 23)⟩,
         ⟨(some 25), none, .faddr 0 (.t 24)⟩,
         ⟨(some 26), none, .load 1 false (.t 25)⟩,
         ⟨(some 27), none, .call rfind [(.t 21), (.t 26)]⟩,
         ⟨(some 8), none, .mv (.t 27)⟩] false)
       (.seq (.seq (.ops [
          ⟨(some 28), none, .mv (.t 8)⟩,
          ⟨(some 29), none, .bin .lss (.t 28) (.c (.int .i64 0))⟩] false)
        (.cond (.t 29) (.seq (.ops [
           ⟨(some 4), none, .mv (.c (.sl true 2 []))⟩,
           ⟨(some 5), none, .mv (.c (.int .i64 32))⟩] false)
         (.ret))
        (.skip)))
       (.seq (.seq (.ops [
          ⟨(some 9), none, .mv (.c (.int .i64 0))⟩] false)
        (.blk 2 (.loop (.seq (.seq (.ops [
             ⟨(some 30), none, .mv (.t 9)⟩,
             ⟨(some 31), none, .mv (.t 7)⟩,
             ⟨(some 32), none, .bin .lss (.t 30) (.t 31)⟩] false)
           (.cond (.t 32) (.skip)
           (.exit 2)))
          (.seq (.blk 3 (.seq (.ops [
              ⟨(some 35), none, .mv (.t 1)⟩,
              ⟨(some 36), none, .mv (.t 9)⟩,
              ⟨(some 37), none, .iaddr 2 (.t 35) (.t 36)⟩,
              ⟨(some 38), none, .faddr 0 (.t 37)⟩,
              ⟨(some 39), none, .load 1 false (.t 38)⟩,
              ⟨(some 40), none, .mv (.t 1)⟩,
              ⟨(some 41), none, .mv (.t 7)⟩,
              ⟨(some 42), none, .iaddr 2 (.t 40) (.t 41)⟩,
              ⟨(some 43), none, .faddr 0 (.t 42)⟩,
              ⟨(some 44), none, .load 1 false (.t 43)⟩,
              ⟨(some 45), none, .bin .eql (.t 39) (.t 44)⟩] true)
            (.cond (.t 45) (.seq (.ops [
               ⟨(some 4), none, .mv (.c (.sl true 2 []))⟩,
               ⟨(some 5), none, .mv (.c (.int .i64 4))⟩] false)
             (.ret))
            (.skip))))
          (.ops [
           ⟨(some 33), none, .mv (.t 9)⟩,
           ⟨(some 34), none, .bin .add (.t 33) (.c (.int .i64 1))⟩,
           ⟨(some 9), none, .mv (.t 34)⟩] false))))))
       (.seq (.ops [
         ⟨(some 47), none, .mv (.t 6)⟩,
         ⟨(some 48), none, .mv (.t 8)⟩,
         ⟨(some 49), none, .iaddr 2 (.t 47) (.t 48)⟩,
         ⟨(some 50), none, .faddr 1 (.t 49)⟩,
         ⟨(some 51), none, .load 1 false (.t 50)⟩,
         ⟨(some 52), none, .mv (.t 1)⟩,
         ⟨(some 53), none, .mv (.t 7)⟩,
         ⟨(some 54), none, .iaddr 2 (.t 52) (.t 53)⟩,
         ⟨(some 55), none, .faddr 1 (.t 54)⟩,
         ⟨(some 56), none, .load 1 false (.t 55)⟩,
         ⟨(some 57), none, .call rapply [(.t 51), (.t 56)]⟩,
         ⟨(some 46), none, .mv (.t 57)⟩,
         ⟨(some 58), none, .ext (.t 46) 0⟩,
         ⟨(some 59), none, .ext (.t 46) 1⟩,
         ⟨(some 10), none, .mv (.t 58)⟩,
         ⟨(some 11), none, .mv (.t 59)⟩] true)
       (.seq (.seq (.ops [
          ⟨(some 60), none, .mv (.t 11)⟩,
          ⟨(some 61), none, .bin .neq (.t 60) (.c (.int .i64 0))⟩] false)
        (.cond (.t 61) (.seq (.ops [
           ⟨(some 62), none, .mv (.t 11)⟩,
           ⟨(some 4), none, .mv (.c (.sl true 2 []))⟩,
           ⟨(some 5), none, .mv (.t 62)⟩] false)
         (.ret))
        (.skip)))
       (.ops [
        ⟨(some 63), none, .mv (.t 6)⟩,
        ⟨(some 64), none, .mv (.t 8)⟩,
        ⟨(some 65), none, .mv (.t 10)⟩,
        ⟨(some 66), none, .iaddr 2 (.t 63) (.t 64)⟩,
        ⟨(some 67), none, .faddr 1 (.t 66)⟩,
        ⟨none, none, .store 1 (.t 67) (.t 65)⟩] false)))))))
     (.ops [
      ⟨(some 19), none, .mv (.t 7)⟩,
      ⟨(some 20), none, .bin .add (.t 19) (.c (.int .i64 1))⟩,
      ⟨(some 7), none, .mv (.t 20)⟩] false))))))
  (.seq (.ops [
    ⟨(some 68), none, .mv (.t 6)⟩,
    ⟨(some 4), none, .mv (.t 68)⟩,
    ⟨(some 5), none, .mv (.c (.int .i64 0))⟩] false)
  (.ret)))))) }

end Go.Zam

namespace Go.Zam
open Go.Proofs
set_option maxRecDepth 100000
set_option linter.all false
set_option maxHeartbeats 1000000

/-- the numbers of the functions of modules and changes, in a program -/
structure CF where
  clone : Nat
  srt : Nat
  stb : Nat
  ins : Nat
  sym : Nat
  rot : Nat
  swp : Nat
  cmpM : Nat
  cmpS : Nat
  nan : Nat
  idxF : Nat
  find1 : Nat
  find : Nat
  sort : Nat
  apply : Nat
  applyE : Nat
  tM : Nat
  tC : Nat
  ts : Nat

structure ChHas (P : Program) (C : CF) : Prop where
  clone : HasT P [1000005] C.clone (irCloneM 2 32 C.tM)
  srt : Has P C.srt (irSortStable C.stb)
  stb : Has P C.stb (irStable C.ins C.sym)
  ins : Has P C.ins (irInsertion 2)
  sym : Has P C.sym (irSymMerge 2 C.rot C.sym)
  rot : Has P C.rot (irRotate C.swp)
  swp : Has P C.swp (irSwapRange 2)
  cmpM : Has P C.cmpM (irChCmp C.cmpS C.tM)
  kCmpM : callOk P C.cmpM = true
  cmpS : Has P C.cmpS (irCompare C.nan)
  nan : Has P C.nan irIsNaN
  idxF : Has P C.idxF (irIndexFunc 2)
  find1 : Has P C.find1 (irChFind1 C.tM)
  kFind1 : callOk P C.find1 = true
  find : Has P C.find (irChFind C.idxF C.find1 C.ts)
  sort : Has P C.sort (irChSort C.clone C.srt C.cmpM)
  apply : Has P C.apply (irChApply C.clone C.find C.applyE C.tC)
  applyE : ∀ (H : Hp) (z : Bool) (s : List UInt8) (l : List Ed), s.length + total l ≤ 70368744177664 →
    ACall P C.applyE [.d (.str s), .d (.sl z 3 (l.map encE))] H (fun r H' => r = .tup [.d (.str (applyS s l)), .d (.int .i64 (sound l s.length))] ∧ H' = H)

section
variable {P : Program} {C : CF}

structure Mod where
  n : List UInt8
  t : List UInt8

def encM (m : Mod) : List D := [.str m.n, .str m.t]

structure Chg where
  n : List UInt8
  z : Bool
  l : List Ed

def encC (c : Chg) : List D := [.str c.n, .sl c.z 3 (c.l.map encE)]

def cM (a b : Mod) : Int := cmpStr a.n b.n

theorem cM_cmp : Cmp cM := cmpStr_cmp.on Mod.n
theorem encM_len : ∀ x, (encM x).length = 2 := fun _ => rfl

theorem cmpM_acall (hC : ChHas P C) (H : Hp) (x y : Mod) : ACall P C.cmpM [.agg (rowE encM x), .agg (rowE encM y)] H (fun r H' => r = .d (.int .i64 (cM x y)) ∧ H' = H) := by
  refine acall_fin hC.cmpM.choose_spec.1 hC.cmpM.choose_spec.2 (by simp [irChCmp]) fun hcl _ => ?_
  simp [irChCmp, rowE, encM]
  refine CallK_of' (compareStr_acall hC.cmpS.choose_spec.1 hC.cmpS.choose_spec.2 hC.nan.choose_spec.1 hC.nan.choose_spec.2 _ _) ?_
  simp [RetK, cut_app hcl, cM]


theorem cmpA_M (hC : ChHas P C) : CmpA P encM cM (.d (.fn C.cmpM)) := fun H x y Q t hq => by
  simp only [ValD_d]
  exact ⟨hC.kCmpM, CallD_of (cmpM_acall hC H x y) hq⟩

theorem sortMOk (hC : ChHas P C) (H : Hp) (z : Bool) (l : List Mod) (hl : l.length ≤ 1048576) :
    ACall P C.sort [.d (.sl z 2 (l.map encM))] H (fun r H' => r = .d (.sl (z && l.isEmpty) 2 ((ssort cM l).map encM)) ∧ H' = H) := by
  have hss : ∀ (H : Hp) (i : Nat), H[i]? = some (arrE encM 2 l) → ACall P C.srt [.msl i 0 l.length, .d (.fn C.cmpM)] H (fun r' H' => r' = .tup [] ∧ H' = H.set i (arrE encM 2 (ssort cM l))) := fun H i hi =>
    sortStable_acall encM_len cM_cmp hC.srt.choose_spec.1 hC.srt.choose_spec.2 hC.stb.choose_spec.1 hC.stb.choose_spec.2 hC.ins.choose_spec.1 hC.ins.choose_spec.2 hC.sym.choose_spec.1 hC.sym.choose_spec.2 hC.rot.choose_spec.1 hC.rot.choose_spec.2 hC.swp.choose_spec.1 hC.swp.choose_spec.2 (cmpA_M hC) (fun m _ => by simp) hi (by omega)
  have hlen := ssort_length cM_cmp l
  by_cases h0 : l = []
  · subst h0
    cases z with
    | true =>
      refine acall_fin hC.sort.choose_spec.1 hC.sort.choose_spec.2 (by simp [irChSort]) fun hcl _ => ?_
      simp [irChSort]
      refine CallK_of' (clone0_acall hC.clone.choose_spec.1 hC.clone.choose_spec.2) ?_
      simp
      refine CallK_of' (sortStable0_acall (sz := 2) hC.srt.choose_spec.1 hC.srt.choose_spec.2 hC.stb.choose_spec.1 hC.stb.choose_spec.2 hC.ins.choose_spec.1 hC.ins.choose_spec.2 (fun m _ => by simp)) ?_
      simp [RetK, cut_self hcl, ssort]
    | false =>
      refine ACall.freeze (k := 0) (X := [.arr 2 []]) (by simp [ssort]) ?_
      refine acall_fink 1 hC.sort.choose_spec.1 hC.sort.choose_spec.2 (by simp [irChSort]) fun hcl _ => ?_
      simp [irChSort]
      refine CallK_of' (cloneM0_acall hC.clone.choose_spec.1 hC.clone.choose_spec.2) ?_
      simp
      have := hss (H ++ [.arr 2 []]) H.length (by simp [arrE])
      simp only [List.length_nil] at this
      refine CallK_of' this ?_
      simp [RetK, cut_appk hcl, arrE, ssort]
  · have hrows : l.map encM ≠ [] := by simpa using h0
    have he : l.isEmpty = false := by cases l <;> simp_all
    rw [he, Bool.and_false]
    refine ACall.freeze (k := 1) (X := [.arr 2 [], arrE encM 2 (ssort cM l)]) (by simp [arrE, rowE]) ?_
    refine acall_fink 2 hC.sort.choose_spec.1 hC.sort.choose_spec.2 (by simp [irChSort]) fun hcl _ => ?_
    simp [irChSort]
    refine CallK_of' (cloneM_acall hC.clone.choose_spec.1 hC.clone.choose_spec.2 hrows (by simp; omega)) ?_
    have := hss (H ++ [.arr 2 [], .arr 2 ((l.map encM).map (List.map .d))]) (H.length + 1) (by simp [arrE, rowE])
    simp at this
    simp
    refine CallK_of' this ?_
    simp [RetK, cut_appk hcl, arrE_clr, hlen, -Ob.clr]
    simp

def findM (l : List Mod) (s : List UInt8) : Int := indexI (fun m => decide (m.n = s)) l

theorem find1_acall (hC : ChHas P C) (H : Hp) (i : Nat) (s : List UInt8) (m : Mod) (hi : H[i]? = some (.box C.ts [.d (.str s)])) :
    ACall P C.find1 [.agg (rowE encM m), .ptr i 0] H (fun r H' => r = .d (.bool (decide (m.n = s))) ∧ H' = H) := by
  have hil : i < H.length := (List.getElem?_eq_some_iff.1 hi).1
  refine acall_fin hC.find1.choose_spec.1 hC.find1.choose_spec.2 (by simp [irChFind1]) fun hcl _ => ?_
  have h1 : (H ++ [Ob.box C.tM [A.d (.str m.n), A.d (.str m.t)]])[i]? = some (.box C.ts [.d (.str s)]) := by rw [List.getElem?_append_left hil]; exact hi
  simp [irChFind1, rowE, encM, h1]
  simp [RetK, cut_app hcl]

/-- Find, over whatever holds modules -/
theorem findOk (hC : ChHas P C) (H : Hp) (x : A) (l : List Mod) (s : List UInt8) (hlen : lenA x = some l.length) (hx : ∀ m, H.length + 1 ≤ m → x.clr m = x)
    (hld : ∀ (k : Nat) (e : Mod), l[k]? = some e → ∃ q, ∀ X : Ob, iaddrA (H ++ [X]) 2 x (.d (.int .i64 (k : Int))) = some q ∧ ldA (H ++ [X]) 2 q = some (rowE encM e)) (hb : l.length ≤ 1099511627776) :
    ACall P C.find [x, .d (.str s)] H (fun r H' => r = .d (.int .i64 (findM l s)) ∧ H' = H) := by
  refine acall_fin hC.find.choose_spec.1 hC.find.choose_spec.2 (by simp [irChFind]) fun hcl _ => ?_
  simp [irChFind]
  refine CallK_of' (indexFunc_acall (enc := encM) (l := l) (p := fun m => decide (m.n = s)) hC.idxF.choose_spec.1 hC.idxF.choose_spec.2 hlen (fun m hm => hx m (by simpa using hm)) (fun m hm => by
    have : H.length < m := by simp at hm; omega
    simp [A.lo, this]) (fun k e hk => by
    obtain ⟨q, hq⟩ := hld k e hk
    exact ⟨q, hq _⟩) (fun e Q t hq => by
    simp only [ValK_fn]
    exact ⟨hC.kFind1, CallK_of' (find1_acall hC _ H.length s e (by simp)) hq⟩) hb) ?_
  simp [RetK, cut_app hcl, findM]

theorem findDOk (hC : ChHas P C) (H : Hp) (z : Bool) (l : List Mod) (s : List UInt8) (hb : l.length ≤ 1099511627776) :
    ACall P C.find [.d (.sl z 2 (l.map encM)), .d (.str s)] H (fun r H' => r = .d (.int .i64 (findM l s)) ∧ H' = H) :=
  findOk hC H _ l s (by simp) (fun m _ => by simp) (fun k e hk => ⟨.eptr (encM e), fun X => by simp [Zam.rowAt, hk, rowE, encM]⟩) hb

theorem findAOk (hC : ChHas P C) (H : Hp) (i : Nat) (l : List Mod) (s : List UInt8) (hi : H[i]? = some (arrE encM 2 l)) (hb : l.length ≤ 1099511627776) :
    ACall P C.find [.msl i 0 l.length, .d (.str s)] H (fun r H' => r = .d (.int .i64 (findM l s)) ∧ H' = H) := by
  have hil : i < H.length := (List.getElem?_eq_some_iff.1 hi).1
  have hi' : ∀ X : Ob, (H ++ [X])[i]? = some (arrE encM 2 l) := fun X => by rw [List.getElem?_append_left hil]; exact hi
  exact findOk hC H _ l s (by simp) (fun m hm => clr_msl (by omega) _ _) (fun k e hk => ⟨.aptr i k 0, fun X => ⟨arr_iaddr (hi' X) rfl (List.getElem?_eq_some_iff.1 hk).1, arr_ld encM_len (hi' X) hk⟩⟩) hb

theorem findM_some {l : List Mod} {s : List UInt8} (h : 0 ≤ findM l s) : ∃ (k : Nat) (m : Mod), findM l s = k ∧ l[k]? = some m ∧ m.n = s := by
  unfold findM indexI at h ⊢
  split at h
  · rename_i k hk
    refine ⟨k, ?_⟩
    clear h
    induction l generalizing k with
    | nil => simp [indexP] at hk
    | cons x l ih =>
      simp only [indexP] at hk
      split at hk
      · rename_i hx
        cases hk
        exact ⟨x, rfl, rfl, by simpa using hx⟩
      · simp only [Option.map_eq_some_iff] at hk
        obtain ⟨k', hk', rfl⟩ := hk
        obtain ⟨m, -, h1, h2⟩ := ih k' hk'
        exact ⟨m, rfl, by simpa using h1, h2⟩
  · omega

/-- what changes make of modules, or why not -/
def applyC (l : List Mod) (done : List (List UInt8)) : List Chg → Int × List Mod
  | [] => (0, l)
  | c :: r => if findM l c.n < 0 then (32, []) else if c.n ∈ done then (4, []) else
    match l[(findM l c.n).toNat]? with
    | none => (32, [])
    | some m => if sound c.l m.t.length = 0 then applyC (l.set (findM l c.n).toNat ⟨m.n, applyS m.t c.l⟩) (done ++ [c.n]) r else (sound c.l m.t.length, [])

def totC : List Chg → Nat
  | [] => 0
  | c :: r => total c.l + totC r
theorem arrM_ld {H : Hp} {i k : Nat} {L : List Mod} {m : Mod} (hi : H[i]? = some (arrE encM 2 L)) (hk : L[k]? = some m) : ldA H 1 (.aptr i k 1) = some [.d (.str m.t)] := by
  simp [ldA, hi, arrE, hk, rowE, encM, cutL]

theorem arrM_st {H : Hp} {i k : Nat} {L : List Mod} {m : Mod} {t : List UInt8} (hi : H[i]? = some (arrE encM 2 L)) (hk : L[k]? = some m) : stA H [.d (.str t)] (.aptr i k 1) = some (H.set i (arrE encM 2 (L.set k ⟨m.n, t⟩))) := by
  simp [stA, hi, arrE, hk, rowE, encM, setL]

/-- how long texts may become -/
def fitM (l : List Mod) (cs : List Chg) : Prop := ∀ m ∈ l, m.t.length + totC cs ≤ 70368744177664

theorem grows_le : ∀ (l : List Ed) (n last : Int), soundFrom n last l = 0 → grows l ≤ total l
  | [], _, _, _ => by simp [grows, total]
  | e :: l, n, last, h => by
    obtain ⟨h0, h1, h2, h3, h4⟩ := soundFrom_cons h
    have := grows_le l n e.t h4
    simp only [grows, total]
    omega

theorem applyS_le (s : List UInt8) (l : List Ed) : (applyS s l).length ≤ s.length + total l := by
  unfold applyS
  split
  · rename_i h
    have := applied_len s l 0 (-1) (sound_zero h).2 (by omega) (by omega) (by omega)
    have := grows_le l _ _ (sound_zero h).2
    omega
  · simp

theorem fitM_next {l : List Mod} {c : Chg} {cs : List Chg} {k : Nat} {m : Mod} (h : fitM l (c :: cs)) (hk : l[k]? = some m) : fitM (l.set k ⟨m.n, applyS m.t c.l⟩) cs := by
  intro x hx
  have hm := h m (List.mem_of_getElem? hk)
  have := applyS_le m.t c.l
  simp only [totC] at hm
  rcases List.mem_or_eq_of_mem_set hx with h1 | h1
  · have := h x h1
    simp only [totC] at this
    omega
  · subst h1
    simp only; omega

theorem applyC_len {l : List Mod} {done : List (List UInt8)} : ∀ {cs : List Chg}, (applyC l done cs).1 = 0 → (applyC l done cs).2.length = l.length := by
  intro cs
  induction cs generalizing l done with
  | nil => intro _; rfl
  | cons c cs ih =>
    intro h
    simp only [applyC] at h ⊢
    split at h
    · simp at h
    · split at h
      · simp at h
      · rename_i h1 h2
        simp only [h1, h2, if_false]
        split at h
        · simp at h
        · split at h
          · rename_i h3
            simp only [h3, if_true]
            rw [ih h, List.length_set]
          · rename_i h3
            simp only at h
            exact absurd h h3

theorem applyC_step {l : List Mod} {done : List (List UInt8)} {c : Chg} {r : List Chg} {k : Nat} {m : Mod} (hk : findM l c.n = k) (hm : l[k]? = some m) (h2 : c.n ∉ done) :
    applyC l done (c :: r) = if sound c.l m.t.length = 0 then applyC (l.set k ⟨m.n, applyS m.t c.l⟩) (done ++ [c.n]) r else (sound c.l m.t.length, []) := by
  have : ¬ findM l c.n < 0 := by omega
  rw [applyC, if_neg this, if_neg h2, hk, Int.toNat_natCast, hm]

theorem app_walk (hC : ChHas P C) {H : Hp} {z zc : Bool} {l : List Mod} {cs : List Chg} (hl : l ≠ []) (hb : l.length ≤ 1048576) (hc : cs.length ≤ 1048576) (hf : fitM l cs) (k : Nat) (K : A → Hp → Prop)
    (hok : ∀ (d : List (D × A)), (applyC l [] cs).1 = 0 → RetK K .mk (H.length + k) (some (.tup [.msl (H.length + 1) 0 l.length, .d (.int .i64 0)])) (H ++ [.arr 2 [], arrE encM 2 (applyC l [] cs).2, .mp d]))
    (herr : ∀ e X, (applyC l [] cs).1 = e → e ≠ 0 → RetK K .mk (H.length + k) (some (.tup [.d (.sl true 2 []), .d (.int .i64 e)])) (H ++ X)) :
    ACall P C.apply [.d (.sl z 2 (l.map encM)), .d (.sl zc 2 (cs.map encC))] H K := by
  refine acall_fink k hC.apply.choose_spec.1 hC.apply.choose_spec.2 (by simp [irChApply]) fun hcl _ => ?_
  simp [irChApply]
  refine CallK_of' (cloneM_acall hC.clone.choose_spec.1 hC.clone.choose_spec.2 (by simpa using hl) (by simp; omega)) ?_
  simp
  refine LoopK_of (H.length + 3) (fun fr H' => ∃ pre rest l', cs = pre ++ rest ∧ fitM l' rest ∧ l'.length = l.length ∧ applyC l [] cs = applyC l' (pre.map Chg.n) rest ∧
      fr 6 = .msl (H.length + 1) 0 l.length ∧ fr 7 = .map (H.length + 2) ∧ fr 16 = .d (.sl zc 2 (cs.map encC)) ∧ fr 17 = .d (.int .i64 cs.length) ∧ fr 18 = .d (.int .i64 (pre.length : Int)) ∧ H' = H ++ [.arr 2 [], arrE encM 2 l', .mp (setMp (pre.map Chg.n))])
    (fun fr H' => match fr 18 with | .d (.int _ k) => (cs.length - k).toNat | _ => 0) (by simp) ?_ ?_
  · refine ⟨[], cs, l, ?_⟩
    simp [hf, cut_appk hcl, arrE, rowE, setMp]
  rintro fr H' ⟨pre, rest, l', hcs, hf', hl', happ, f6, f7, f16, f17, f18, hH⟩
  rw [hH]
  simp [f17, f18]
  refine BrK_split (fun h => ?_) (fun h => ?_)
  · obtain ⟨c, rest, rfl⟩ : ∃ e r, rest = e :: r := by
      cases rest with
      | nil => rw [hcs] at h; simp at h
      | cons e r => exact ⟨e, r, rfl⟩
    have hpl : pre.length < cs.length := by rw [hcs]; simp
    have hw : IntKind.i64.wrap ((pre.length : Int) + 1) = pre.length + 1 := wrap_i64 (by omega) (by omega)
    have hg  : Zam.rowAt (cs.map encC) (pre.length : Int) = some (encC c) := by simp [Zam.rowAt, hcs]
    simp [f6, f16, f18, hg, encC]
    have hi : ∀ X : Ob, (H ++ [.arr 2 [], arrE encM 2 l', .mp (setMp (pre.map Chg.n)), X])[H.length + 1]? = some (arrE encM 2 l') := fun X => by simp
    have hfind := findAOk hC _ (H.length + 1) l' c.n (hi (.box C.tC [.d (.str c.n), .d (.sl c.z 3 (c.l.map encE))])) (by omega)
    rw [hl'] at hfind
    refine CallK_of' hfind ?_
    simp
    refine BrK_split (fun h1 => ?_) (fun h1 => ?_)
    · simp at h1
      simp
      exact herr 32 _ (by rw [happ]; simp [applyC, h1]) (by omega)
    simp at h1
    obtain ⟨k, m, hk, hm, hmn⟩ := findM_some h1
    rw [hk]
    have hap : ¬ findM l' c.n < 0 := by omega
    have hkl : k < l.length := by rw [← hl']; exact (List.getElem?_eq_some_iff.1 hm).1
    by_cases h2 : c.n ∈ pre.map Chg.n
    · simp [f7, setMp_ok, setMp_get, h2, -mpOk, -List.mem_map]
      exact herr 4 _ (by rw [happ]; simp only [applyC, if_neg hap, if_pos h2]) (by omega)
    · have hi2 : ∀ X Y : Ob, (H ++ [.arr 2 [], arrE encM 2 l', X, Y])[H.length + 1]? = some (arrE encM 2 l') := fun X Y => by simp
      have hfit : m.t.length + total c.l ≤ 70368744177664 := by
        have := hf' m (List.mem_of_getElem? hm)
        simp only [totC] at this; omega
      simp [f7, setMp_ok, setMp_get, setMp_put, h2, f6, arr_iaddr (hi2 _ _) rfl hkl, arrM_ld (hi2 _ _) hm, ld_ptr, st_ptr, -iaddrA, -ldA, -stA, -mpOk, -List.mem_map]
      refine CallD_of (hC.applyE _ c.z m.t c.l hfit) ?_
      simp
      refine BrK_split (fun h3 => ?_) (fun h3 => ?_)
      · simp at h3
        simp
        exact herr _ _ (by rw [happ, applyC_step hk hm h2, if_neg h3]) h3
      simp at h3
      have hi3 : ∀ X Y : Ob, (H ++ [.arr 2 [], arrE encM 2 l', X, Y])[H.length + 1]? = some (arrE encM 2 l') := fun X Y => by simp
      simp [f6, f18, hw, arr_iaddr (hi3 _ _) rfl hkl, arrM_st (hi3 _ _) hm, -iaddrA, -ldA, -stA]
      refine AgainK_of (m := H.length + 3) (by simp) ⟨pre ++ [c], rest, l'.set k ⟨m.n, applyS m.t c.l⟩, ?_⟩ ?_
      · simp [f6, f7, f16, f17, cut_appk hcl, hcs, fitM_next hf' hm, hl', happ, arrE_clr, setMp, -Ob.clr, -List.mem_map]
        exact ⟨by rw [← hcs, happ, applyC_step hk hm h2, if_pos h3], by simp, by simp⟩
      · simp; omega
  · obtain rfl : rest = [] := by
      cases rest with
      | nil => rfl
      | cons e r => exfalso; rw [hcs] at h; simp at h
    have h0 : applyC l [] cs = (0, l') := by rw [happ]; rfl
    simp [f6]
    have := hok (setMp (pre.map Chg.n)) (by rw [h0])
    rw [h0] at this
    exact this

/-- what Apply answers -/
def outC (z : Bool) (l : List Mod) (cs : List Chg) : A :=
  .tup [.d (.sl (if (applyC l [] cs).1 = 0 then z && l.isEmpty else true) 2 ((applyC l [] cs).2.map encM)), .d (.int .i64 (applyC l [] cs).1)]

theorem applyC_err {l : List Mod} {done : List (List UInt8)} : ∀ {cs : List Chg}, (applyC l done cs).1 ≠ 0 → (applyC l done cs).2 = [] := by
  intro cs
  induction cs generalizing l done with
  | nil => intro h; exact absurd rfl h
  | cons c cs ih =>
    intro h
    simp only [applyC] at h ⊢
    split
    · rfl
    · split
      · rfl
      · rename_i h1 h2
        simp only [h1, h2, if_false] at h
        split
        · rfl
        · rename_i m hm
          simp only [hm] at h
          split
          · rename_i h3
            rw [if_pos h3] at h
            exact ih h
          · rfl

theorem applyCOk (hC : ChHas P C) (H : Hp) (z zc : Bool) (l : List Mod) (cs : List Chg) (hb : l.length ≤ 1048576) (hc : cs.length ≤ 1048576) (hf : fitM l cs) :
    ACall P C.apply [.d (.sl z 2 (l.map encM)), .d (.sl zc 2 (cs.map encC))] H (fun r H' => r = outC z l cs ∧ H' = H) := by
  intro κ w vs hr
  have hcl : H.Closed := hr.closed
  revert κ w vs hr
  show ACall P C.apply [.d (.sl z 2 (l.map encM)), .d (.sl zc 2 (cs.map encC))] H (fun r H' => r = outC z l cs ∧ H' = H)
  by_cases hl : l = []
  · subst hl
    have hz0 : applyC [] [] cs = if cs = [] then (0, []) else (32, []) := by
      cases cs with
      | nil => rfl
      | cons c r => simp [applyC, findM, indexI, indexP]
    cases z with
    | true =>
      refine acall_fin hC.apply.choose_spec.1 hC.apply.choose_spec.2 (by simp [irChApply]) fun hcl _ => ?_
      simp [irChApply]
      refine CallK_of' (clone0_acall hC.clone.choose_spec.1 hC.clone.choose_spec.2) ?_
      simp
      refine LoopK_of (H.length + 1) (fun fr H' => fr 6 = .d (.sl true 2 []) ∧ fr 16 = .d (.sl zc 2 (cs.map encC)) ∧ fr 17 = .d (.int .i64 cs.length) ∧ fr 18 = .d (.int .i64 0) ∧ H' = H ++ [.mp []]) (fun _ _ => 0) (by simp) (by simp [cut_appk hcl]) ?_
      rintro fr H' ⟨f6, f16, f17, f18, hH⟩
      rw [hH]
      simp [f17, f18]
      refine BrK_split (fun h => ?_) (fun h => ?_)
      · cases cs with
        | nil => simp at h
        | cons c r =>
          simp [f16, f18, f6, Zam.rowAt, encC]
          refine CallK_of' (findDOk hC _ true [] c.n (by simp)) ?_
          simp [findM, indexI, indexP]
          simp [RetK, outC, hz0, cut_app hcl]
      · cases cs with
        | nil => simp [f6, RetK, outC, applyC, cut_app hcl]
        | cons c r => simp at h
    | false =>
      by_cases hcs : cs = []
      · subst hcs
        refine ACall.freeze2 (k := 0) (X := [.arr 2 []]) (by simp [arrE, rowE, applyC]) ?_
        refine acall_fink 1 hC.apply.choose_spec.1 hC.apply.choose_spec.2 (by simp [irChApply]) fun hcl _ => ?_
        simp [irChApply]
        refine CallK_of' (cloneM0_acall hC.clone.choose_spec.1 hC.clone.choose_spec.2) ?_
        simp
        refine LoopK_of (H.length + 2) (fun fr H' => fr 6 = .msl H.length 0 0 ∧ fr 17 = .d (.int .i64 0) ∧ fr 18 = .d (.int .i64 0) ∧ H' = H ++ [.arr 2 [], .mp []]) (fun _ _ => 0) (by simp) (by simp [cut_appk hcl]) ?_
        rintro fr H' ⟨f6, f17, f18, hH⟩
        rw [hH]
        simp [f17, f18, f6]
        simp [RetK, cut_appk hcl, applyC]
      · have hne := hcs
        cases cs with
        | nil => exact absurd rfl hcs
        | cons c r =>
        refine acall_fin hC.apply.choose_spec.1 hC.apply.choose_spec.2 (by simp [irChApply]) fun hcl _ => ?_
        simp [irChApply]
        refine CallK_of' (cloneM0_acall hC.clone.choose_spec.1 hC.clone.choose_spec.2) ?_
        simp
        refine LoopK_of (H.length + 2) (fun fr H' => fr 6 = .msl H.length 0 0 ∧ fr 16 = .d (.sl zc 2 ((c :: r).map encC)) ∧ fr 17 = .d (.int .i64 (c :: r).length) ∧ fr 18 = .d (.int .i64 0) ∧ H' = H ++ [.arr 2 [], .mp []]) (fun _ _ => 0) (by simp) (by simp [cut_appk hcl]) ?_
        rintro fr H' ⟨f6, f16, f17, f18, hH⟩
        rw [hH]
        simp [f17, f18, f16, f6, Zam.rowAt, encC]
        refine CallK_of' (findAOk hC _ H.length [] c.n (by simp [arrE]) (by simp)) ?_
        simp [findM, indexI, indexP]
        simp [RetK, outC, hz0, cut_app hcl]
  · have he : l.isEmpty = false := by cases l <;> simp_all
    by_cases h0 : (applyC l [] cs).1 = 0
    · have hlen := applyC_len h0
      have : outC z l cs = .tup [.d (.sl false 2 ((applyC l [] cs).2.map encM)), .d (.int .i64 0)] := by simp [outC, h0, he]
      rw [this]
      refine ACall.freeze2 (k := 1) (X := [.arr 2 [], arrE encM 2 (applyC l [] cs).2]) (by simp [arrE, rowE]) ?_
      refine app_walk hC hl hb hc hf 2 _ (fun d h => ?_) (fun e X h1 h2 => absurd (h1.symm.trans h0) h2)
      simp [RetK, cut_appk hcl, arrE_clr, hlen, -Ob.clr]
      simp
    · have := applyC_err h0
      refine app_walk hC hl hb hc hf 0 _ (fun d h => absurd h h0) (fun e X h1 h2 => ?_)
      simp [RetK, outC, h0, this, h1, h2, cut_app hcl]


def lightB (most : Int) : Int → List Mod → Bool
  | _, [] => true
  | n, m :: r => if most < n + (m.n.length + m.t.length) then false else lightB most (n + (m.n.length + m.t.length)) r

def light (l : List Mod) (most : Int) : Bool := lightB most 0 l && decide (l.length ≤ 20)

theorem lightOk {fL tM : Nat} (hf : Has P fL (irChLight tM)) (H : Hp) (z : Bool) (l : List Mod) (most : Int) (hm : 0 ≤ most ∧ most ≤ 1048576) (hl : l.length ≤ 1048576) (hs : ∀ m ∈ l, m.n.length ≤ 1048576 ∧ m.t.length ≤ 1048576) :
    ACall P fL [.d (.sl z 2 (l.map encM)), .d (.int .i64 most)] H (fun r H' => r = .d (.bool (light l most)) ∧ H' = H) := by
  refine acall_fin hf.choose_spec.1 hf.choose_spec.2 (by simp [irChLight]) fun hcl _ => ?_
  simp [irChLight]
  refine LoopK_of H.length (fun fr H' => ∃ pre rest, ∃ n : Int, l = pre ++ rest ∧ 0 ≤ n ∧ n ≤ most ∧ lightB most 0 l = lightB most n rest ∧ fr 0 = .d (.sl z 2 (l.map encM)) ∧ fr 1 = .d (.int .i64 most) ∧ fr 5 = .d (.int .i64 n) ∧ fr 8 = .d (.sl z 2 (l.map encM)) ∧ fr 9 = .d (.int .i64 l.length) ∧ fr 10 = .d (.int .i64 (pre.length : Int)) ∧ H' = H)
    (fun fr H' => match fr 10 with | .d (.int _ k) => (l.length - k).toNat | _ => 0) (by simp) ?_ ?_
  · refine ⟨[], l, 0, ?_⟩
    simp [cut_self hcl, hm]
  rintro fr H' ⟨pre, rest, n, hcs, hn0, hnm, hli, f0, f1, f5, f8, f9, f10, hH⟩
  rw [hH]
  simp [f9, f10]
  refine BrK_split (fun h => ?_) (fun h => ?_)
  · obtain ⟨c, rest, rfl⟩ : ∃ e r, rest = e :: r := by
      cases rest with
      | nil => rw [hcs] at h; simp at h
      | cons e r => exact ⟨e, r, rfl⟩
    have hpl : pre.length < l.length := by rw [hcs]; simp
    obtain ⟨s1, s2⟩ := hs c (by rw [hcs]; simp)
    have hw : IntKind.i64.wrap ((pre.length : Int) + 1) = pre.length + 1 := wrap_i64 (by omega) (by omega)
    have hw2 : IntKind.i64.wrap ((c.n.length : Int) + c.t.length) = c.n.length + c.t.length := wrap_i64 (by omega) (by omega)
    have hw3 : IntKind.i64.wrap (n + ((c.n.length : Int) + c.t.length)) = n + (c.n.length + c.t.length) := wrap_i64 (by omega) (by omega)
    have hgr : Zam.rowAt (l.map encM) (pre.length : Int) = some (encM c) := by simp [Zam.rowAt, hcs]
    simp [f1, f5, f8, f10, hgr, encM, hw2, hw3]
    refine BrK_split (fun h2 => ?_) (fun h2 => ?_)
    · simp at h2
      have : light l most = false := by simp only [light, hli, lightB, if_pos h2, Bool.false_and]
      simp
      simp [RetK, cut_app hcl, this]
    · simp at h2
      simp [f10, hw]
      refine AgainK_of (m := H.length) (by simp) ⟨pre ++ [c], rest, n + (c.n.length + c.t.length), ?_⟩ ?_
      · simp [f0, f1, f8, f9, cut_app hcl, hcs]
        refine ⟨by omega, by omega, ?_⟩
        rw [← hcs, hli, lightB, if_neg (by omega)]
      · simp; omega
  · obtain rfl : rest = [] := by
      cases rest with
      | nil => rfl
      | cons e r => exfalso; rw [hcs] at h; simp at h
    have : light l most = decide (l.length ≤ 20) := by simp only [light, hli, lightB, Bool.true_and]
    simp [f0]
    simp [RetK, cut_self hcl, this]
    omega

deriving instance DecidableEq for Mod

theorem eqM (x y : Mod) : eqDs [.str [], .str []] (rowE encM x) (rowE encM y) = some (decide (x = y)) := by
  cases x; cases y
  simp [rowE, encM, eqDs, eqD]

theorem sameMOk {fS : Nat} (hf : Has P fS irRcSame) (H : Hp) (z z' : Bool) (a b : List Mod) (ha : a.length ≤ 1048576) :
    ACall P fS [.d (.sl z 2 (a.map encM)), .d (.sl z' 2 (b.map encM))] H (fun r H' => r = .d (.bool (decide (a = b))) ∧ H' = H) := by
  refine acall_fin hf.choose_spec.1 hf.choose_spec.2 (by simp [irRcSame]) fun hcl _ => ?_
  simp [irRcSame]
  refine BrK_split (fun h => ?_) (fun h => ?_)
  · simp at h
    have : a ≠ b := by intro e; subst e; simp at h
    simp
    simp [RetK, cut_self hcl, this]
  simp at h
  have hab : a.length = b.length := by omega
  simp
  refine LoopK_of H.length (fun fr H' => ∃ pre ra rb, a = pre ++ ra ∧ b = pre ++ rb ∧ fr 0 = .d (.sl z 2 (a.map encM)) ∧ fr 1 = .d (.sl z' 2 (b.map encM)) ∧ fr 5 = .d (.int .i64 (pre.length : Int)) ∧ H' = H)
    (fun fr H' => match fr 5 with | .d (.int _ k) => (a.length - k).toNat | _ => 0) (by simp) ?_ ?_
  · exact ⟨[], a, b, by simp [cut_self hcl]⟩
  rintro fr H' ⟨pre, ra, rb, h1, h2, f0, f1, f5, hH⟩
  rw [hH]
  simp [f0, f5]
  refine BrK_split (fun h3 => ?_) (fun h3 => ?_)
  · simp at h3
    obtain ⟨x, ra, rfl⟩ : ∃ e r, ra = e :: r := by
      cases ra with
      | nil => rw [h1] at h3; simp at h3
      | cons e r => exact ⟨e, r, rfl⟩
    obtain ⟨y, rb, rfl⟩ : ∃ e r, rb = e :: r := by
      cases rb with
      | nil => rw [h1, h2] at hab; simp at hab
      | cons e r => exact ⟨e, r, rfl⟩
    have g1 : Zam.rowAt (a.map encM) (pre.length : Int) = some (encM x) := by simp [Zam.rowAt, h1]
    have g2 : Zam.rowAt (b.map encM) (pre.length : Int) = some (encM y) := by simp [Zam.rowAt, h2]
    have hw : IntKind.i64.wrap ((pre.length : Int) + 1) = pre.length + 1 := wrap_i64 (by omega) (by omega)
    have q := eqM x y
    simp only [rowE, encM, List.map_cons, List.map_nil] at q
    simp [f0, f1, f5, g1, g2, encM, q]
    refine BrK_split (fun h4 => ?_) (fun h4 => ?_)
    · simp at h4
      have : a ≠ b := by rw [h1, h2]; simp [h4]
      simp
      simp [RetK, cut_self hcl, this]
    · simp at h4
      subst h4
      simp [f5, hw]
      refine AgainK_of (m := H.length) (by simp) ⟨pre ++ [x], ra, rb, ?_⟩ ?_
      · simp [f0, f1, cut_self hcl, h1, h2]
      · simp; omega
  · simp at h3
    obtain rfl : ra = [] := by
      cases ra with
      | nil => rfl
      | cons e r => exfalso; rw [h1] at h3; simp at h3; omega
    obtain rfl : rb = [] := by
      cases rb with
      | nil => rfl
      | cons e r => exfalso; rw [h1, h2] at hab; simp at hab
    have : a = b := by rw [h1, h2]
    simp
    simp [RetK, cut_self hcl, this]

end
end Go.Zam

namespace Go.Zam
open Go.Proofs
set_option maxRecDepth 100000
set_option linter.all false
set_option maxHeartbeats 1000000

def irR2Sound (et : Nat) : IFn :=
 { nt := 60, res := [.t 4], body := (
  .seq (.ops [
    ⟨(some 4), none, .mv (.c (.int .i64 0))⟩] false)
  (.seq (.seq (.ops [
     ⟨(some 7), none, .mv (.t 0)⟩,
     ⟨(some 8), none, .lenL (.t 7)⟩,
     ⟨(some 9), none, .bin .gtr (.t 8) (.c (.int .i64 512))⟩] false)
   (.cond (.t 9) (.seq (.ops [
      ⟨(some 4), none, .mv (.c (.int .i64 5))⟩] false)
    (.ret))
   (.skip)))
  (.seq (.seq (.ops [
     ⟨(some 5), none, .mv (.c (.int .i64 0))⟩] false)
   (.blk 0 (.loop (.seq (.seq (.ops [
        ⟨(some 10), none, .mv (.t 5)⟩,
        ⟨(some 11), none, .mv (.t 0)⟩,
        ⟨(some 12), none, .lenL (.t 11)⟩,
        ⟨(some 13), none, .bin .lss (.t 10) (.t 12)⟩] false)
      (.cond (.t 13) (.skip)
      (.exit 0)))
     (.seq (.blk 1 (.seq (.ops [
         ⟨(some 16), none, .mv (.t 0)⟩,
         ⟨(some 17), none, .mv (.t 5)⟩,
         ⟨(some 18), none, .iaddr 3 (.t 16) (.t 17)⟩,
         ⟨(some 19), none, .load 3 true (.t 18)⟩,
         ⟨(some 6), none, .alloc et [(.int .i64 0), (.int .i64 0), (.str [])]⟩,
         ⟨none, none, .store 3 (.t 6) (.t 19)⟩] false)
       (.seq (.seq (.ops [
          ⟨(some 20), none, .faddr 0 (.t 6)⟩,
          ⟨(some 21), none, .load 1 false (.t 20)⟩,
          ⟨(some 22), none, .bin .lss (.t 21) (.c (.int .i64 0))⟩,
          ⟨(some 23), none, .mv (.t 22)⟩,
          ⟨(some 24), (some (23, false)), .faddr 1 (.t 6)⟩,
          ⟨(some 25), (some (23, false)), .load 1 false (.t 24)⟩,
          ⟨(some 26), (some (23, false)), .faddr 0 (.t 6)⟩,
          ⟨(some 27), (some (23, false)), .load 1 false (.t 26)⟩,
          ⟨(some 28), (some (23, false)), .bin .lss (.t 25) (.t 27)⟩,
          ⟨(some 29), none, .pick (.t 23) (.c (.bool true)) (.t 28)⟩,
          ⟨(some 30), none, .mv (.t 29)⟩,
          ⟨(some 31), (some (30, false)), .faddr 1 (.t 6)⟩,
          ⟨(some 32), (some (30, false)), .load 1 false (.t 31)⟩,
          ⟨(some 33), (some (30, false)), .mv (.t 1)⟩,
          ⟨(some 34), (some (30, false)), .bin .gtr (.t 32) (.t 33)⟩,
          ⟨(some 35), none, .pick (.t 30) (.c (.bool true)) (.t 34)⟩] false)
        (.cond (.t 35) (.seq (.ops [
           ⟨(some 4), none, .mv (.c (.int .i64 6))⟩] false)
         (.ret))
        (.skip)))
       (.seq (.seq (.ops [
          ⟨(some 36), none, .faddr 0 (.t 6)⟩,
          ⟨(some 37), none, .load 1 false (.t 36)⟩,
          ⟨(some 38), none, .faddr 1 (.t 6)⟩,
          ⟨(some 39), none, .load 1 false (.t 38)⟩,
          ⟨(some 40), none, .bin .eql (.t 37) (.t 39)⟩,
          ⟨(some 41), none, .mv (.t 40)⟩,
          ⟨(some 42), (some (41, true)), .faddr 2 (.t 6)⟩,
          ⟨(some 43), (some (41, true)), .load 1 false (.t 42)⟩,
          ⟨(some 44), (some (41, true)), .lenS (.t 43)⟩,
          ⟨(some 45), (some (41, true)), .bin .eql (.t 44) (.c (.int .i64 0))⟩,
          ⟨(some 46), none, .pick (.t 41) (.t 45) (.c (.bool false))⟩] false)
        (.cond (.t 46) (.seq (.ops [
           ⟨(some 4), none, .mv (.c (.int .i64 1))⟩] false)
         (.ret))
        (.skip)))
       (.seq (.ops [
         ⟨(some 47), none, .mv (.t 5)⟩,
         ⟨(some 48), none, .bin .gtr (.t 47) (.c (.int .i64 0))⟩,
         ⟨(some 49), none, .mv (.t 48)⟩,
         ⟨(some 50), (some (49, true)), .mv (.t 0)⟩,
         ⟨(some 51), (some (49, true)), .mv (.t 5)⟩,
         ⟨(some 52), (some (49, true)), .bin .sub (.t 51) (.c (.int .i64 1))⟩,
         ⟨(some 53), (some (49, true)), .iaddr 3 (.t 50) (.t 52)⟩,
         ⟨(some 54), (some (49, true)), .faddr 1 (.t 53)⟩,
         ⟨(some 55), (some (49, true)), .load 1 false (.t 54)⟩,
         ⟨(some 56), (some (49, true)), .faddr 0 (.t 6)⟩,
         ⟨(some 57), (some (49, true)), .load 1 false (.t 56)⟩,
         ⟨(some 58), (some (49, true)), .bin .geq (.t 55) (.t 57)⟩,
         ⟨(some 59), none, .pick (.t 49) (.t 58) (.c (.bool false))⟩] true)
       (.cond (.t 59) (.seq (.ops [
          ⟨(some 4), none, .mv (.c (.int .i64 7))⟩] false)
        (.ret))
       (.skip)))))))
     (.ops [
      ⟨(some 14), none, .mv (.t 5)⟩,
      ⟨(some 15), none, .bin .add (.t 14) (.c (.int .i64 1))⟩,
      ⟨(some 5), none, .mv (.t 15)⟩] false))))))
  (.seq (.ops [
    ⟨(some 4), none, .mv (.c (.int .i64 0))⟩] false)
  (.ret))))) }
def irR2Apply (snd : Nat) : IFn :=
 { nt := 97, res := [.t 4, .t 5], body := (
  .seq (.ops [
    ⟨(some 4), none, .mv (.c (.str []))⟩,
    ⟨(some 5), none, .mv (.c (.int .i64 0))⟩] false)
  (.seq (.ops [
    ⟨(some 11), none, .mv (.t 1)⟩,
    ⟨(some 12), none, .mv (.t 0)⟩,
    ⟨(some 13), none, .lenS (.t 12)⟩,
    ⟨(some 14), none, .call snd [(.t 11), (.t 13)]⟩,
    ⟨(some 6), none, .mv (.t 14)⟩] false)
  (.seq (.seq (.ops [
     ⟨(some 15), none, .mv (.t 6)⟩,
     ⟨(some 16), none, .bin .neq (.t 15) (.c (.int .i64 0))⟩] false)
   (.cond (.t 16) (.seq (.ops [
      ⟨(some 17), none, .mv (.t 6)⟩,
      ⟨(some 4), none, .mv (.c (.str []))⟩,
      ⟨(some 5), none, .mv (.t 17)⟩] false)
    (.ret))
   (.skip)))
  (.seq (.ops [
    ⟨(some 7), none, .mv (.c (.str []))⟩] false)
  (.seq (.ops [
    ⟨(some 8), none, .mv (.c (.int .i64 0))⟩] false)
  (.seq (.seq (.ops [
     ⟨(some 9), none, .mv (.c (.int .i64 0))⟩] false)
   (.blk 0 (.loop (.seq (.seq (.ops [
        ⟨(some 18), none, .mv (.t 9)⟩,
        ⟨(some 19), none, .mv (.t 0)⟩,
        ⟨(some 20), none, .lenS (.t 19)⟩,
        ⟨(some 21), none, .bin .leq (.t 18) (.t 20)⟩] false)
      (.cond (.t 21) (.skip)
      (.exit 0)))
     (.seq (.blk 1 (.seq (.seq (.ops [
          ⟨(some 24), none, .mv (.t 8)⟩,
          ⟨(some 25), none, .mv (.t 1)⟩,
          ⟨(some 26), none, .lenL (.t 25)⟩,
          ⟨(some 27), none, .bin .lss (.t 24) (.t 26)⟩,
          ⟨(some 28), none, .mv (.t 27)⟩,
          ⟨(some 29), (some (28, true)), .mv (.t 1)⟩,
          ⟨(some 30), (some (28, true)), .mv (.t 8)⟩,
          ⟨(some 31), (some (28, true)), .iaddr 3 (.t 29) (.t 30)⟩,
          ⟨(some 32), (some (28, true)), .faddr 0 (.t 31)⟩,
          ⟨(some 33), (some (28, true)), .load 1 false (.t 32)⟩,
          ⟨(some 34), (some (28, true)), .mv (.t 9)⟩,
          ⟨(some 35), (some (28, true)), .bin .eql (.t 33) (.t 34)⟩,
          ⟨(some 36), none, .pick (.t 28) (.t 35) (.c (.bool false))⟩] false)
        (.cond (.t 36) (.ops [
          ⟨(some 37), none, .mv (.t 7)⟩,
          ⟨(some 38), none, .mv (.t 1)⟩,
          ⟨(some 39), none, .mv (.t 8)⟩,
          ⟨(some 40), none, .iaddr 3 (.t 38) (.t 39)⟩,
          ⟨(some 41), none, .faddr 2 (.t 40)⟩,
          ⟨(some 42), none, .load 1 false (.t 41)⟩,
          ⟨(some 43), none, .bin .add (.t 37) (.t 42)⟩,
          ⟨(some 7), none, .mv (.t 43)⟩] false)
        (.skip)))
       (.seq (.seq (.ops [
          ⟨(some 44), none, .mv (.t 8)⟩,
          ⟨(some 45), none, .mv (.t 1)⟩,
          ⟨(some 46), none, .lenL (.t 45)⟩,
          ⟨(some 47), none, .bin .lss (.t 44) (.t 46)⟩,
          ⟨(some 48), none, .mv (.t 47)⟩,
          ⟨(some 49), (some (48, true)), .mv (.t 1)⟩,
          ⟨(some 50), (some (48, true)), .mv (.t 8)⟩,
          ⟨(some 51), (some (48, true)), .iaddr 3 (.t 49) (.t 50)⟩,
          ⟨(some 52), (some (48, true)), .faddr 1 (.t 51)⟩,
          ⟨(some 53), (some (48, true)), .load 1 false (.t 52)⟩,
          ⟨(some 54), (some (48, true)), .mv (.t 9)⟩,
          ⟨(some 55), (some (48, true)), .bin .eql (.t 53) (.t 54)⟩,
          ⟨(some 56), none, .pick (.t 48) (.t 55) (.c (.bool false))⟩] false)
        (.cond (.t 56) (.ops [
          ⟨(some 57), none, .mv (.t 8)⟩,
          ⟨(some 58), none, .bin .add (.t 57) (.c (.int .i64 1))⟩,
          ⟨(some 8), none, .mv (.t 58)⟩] false)
        (.skip)))
       (.seq (.ops [
         ⟨(some 59), none, .mv (.t 8)⟩,
         ⟨(some 60), none, .mv (.t 1)⟩,
         ⟨(some 61), none, .lenL (.t 60)⟩,
         ⟨(some 62), none, .bin .lss (.t 59) (.t 61)⟩,
         ⟨(some 63), none, .mv (.t 62)⟩,
         ⟨(some 64), (some (63, true)), .mv (.t 1)⟩,
         ⟨(some 65), (some (63, true)), .mv (.t 8)⟩,
         ⟨(some 66), (some (63, true)), .iaddr 3 (.t 64) (.t 65)⟩,
         ⟨(some 67), (some (63, true)), .faddr 0 (.t 66)⟩,
         ⟨(some 68), (some (63, true)), .load 1 false (.t 67)⟩,
         ⟨(some 69), (some (63, true)), .mv (.t 9)⟩,
         ⟨(some 70), (some (63, true)), .bin .leq (.t 68) (.t 69)⟩,
         ⟨(some 71), none, .pick (.t 63) (.t 70) (.c (.bool false))⟩,
         ⟨(some 72), none, .mv (.t 71)⟩,
         ⟨(some 73), (some (72, true)), .mv (.t 9)⟩,
         ⟨(some 74), (some (72, true)), .mv (.t 1)⟩,
         ⟨(some 75), (some (72, true)), .mv (.t 8)⟩,
         ⟨(some 76), (some (72, true)), .iaddr 3 (.t 74) (.t 75)⟩,
         ⟨(some 77), (some (72, true)), .faddr 1 (.t 76)⟩,
         ⟨(some 78), (some (72, true)), .load 1 false (.t 77)⟩,
         ⟨(some 79), (some (72, true)), .bin .lss (.t 73) (.t 78)⟩,
         ⟨(some 80), none, .pick (.t 72) (.t 79) (.c (.bool false))⟩,
         ⟨(some 10), none, .mv (.t 80)⟩] false)
       (.seq (.ops [
         ⟨(some 81), none, .mv (.t 9)⟩,
         ⟨(some 82), none, .mv (.t 0)⟩,
         ⟨(some 83), none, .lenS (.t 82)⟩,
         ⟨(some 84), none, .bin .lss (.t 81) (.t 83)⟩,
         ⟨(some 85), none, .mv (.t 84)⟩,
         ⟨(some 86), (some (85, true)), .mv (.t 10)⟩,
         ⟨(some 87), (some (85, true)), .un .not (.t 86)⟩,
         ⟨(some 88), none, .pick (.t 85) (.t 87) (.c (.bool false))⟩] false)
       (.cond (.t 88) (.ops [
         ⟨(some 89), none, .mv (.t 7)⟩,
         ⟨(some 90), none, .mv (.t 0)⟩,
         ⟨(some 91), none, .mv (.t 9)⟩,
         ⟨(some 92), none, .mv (.t 9)⟩,
         ⟨(some 93), none, .bin .add (.t 92) (.c (.int .i64 1))⟩,
         ⟨(some 94), none, .sslice (.t 90) (some (.t 91)) (some (.t 93))⟩,
         ⟨(some 95), none, .bin .add (.t 89) (.t 94)⟩,
         ⟨(some 7), none, .mv (.t 95)⟩] false)
       (.skip)))))))
     (.ops [
      ⟨(some 22), none, .mv (.t 9)⟩,
      ⟨(some 23), none, .bin .add (.t 22) (.c (.int .i64 1))⟩,
      ⟨(some 9), none, .mv (.t 23)⟩] false))))))
  (.seq (.ops [
    ⟨(some 96), none, .mv (.t 7)⟩,
    ⟨(some 4), none, .mv (.t 96)⟩,
    ⟨(some 5), none, .mv (.c (.int .i64 0))⟩] false)
  (.ret)))))))) }

namespace R2
section
variable {P : Program}

theorem refSoundOk {fs et : Nat} (hs_ : Has P fs (irR2Sound et)) (H : Hp) (z : Bool) (l : List Ed) (n : Int) : ACall P fs [.d (.sl z 3 (l.map encE)), .d (.int .i64 n)] H (fun r H' => r = .d (.int .i64 (sound l n)) ∧ H' = H) := by
  obtain ⟨fn, hf1, hf2⟩ := hs_
  refine acall_fin hf1 hf2 (by simp [irR2Sound]) fun hcl _ => ?_
  simp [irR2Sound]
  refine BrK_split (fun h => ?_) (fun h => ?_)
  · simp [RetK, cut_self hcl, sound] at h ⊢
    omega
  simp
  refine LoopK_of H.length (fun fr H' => ∃ pre rest last, l = pre ++ rest ∧ sound l n = soundFrom n last rest ∧ (pre = [] ∧ last = -1 ∨ ∃ q y, pre = q ++ [y] ∧ last = y.t) ∧ fr 0 = .d (.sl z 3 (l.map encE)) ∧ fr 1 = .d (.int .i64 n) ∧ fr 5 = .d (.int .i64 (pre.length : Int)) ∧ H' = H)
    (fun fr H' => match fr 5 with | .d (.int _ k) => (l.length - k).toNat | _ => 0) (by simp) ?_ ?_
  · refine ⟨[], l, -1, ?_⟩
    simp [cut_self hcl, sound]
    simp at h; omega
  rintro fr H' ⟨pre, rest, last, hl, hs, hp, f0, f1, f5, rfl⟩
  simp [f0, f1, f5]
  refine BrK_split (fun h => ?_) (fun h => ?_)
  · obtain ⟨e, r, rfl⟩ : ∃ e r, rest = e :: r := by
      cases rest with
      | nil => simp_all
      | cons e r => exact ⟨e, r, rfl⟩
    have hr : Zam.rowAt (l.map encE) pre.length = some (encE e) := by rw [hl]; exact rowAt_mid _ _ _ _
    have hw : IntKind.i64.wrap (pre.length + 1) = pre.length + 1 := wrap_i64 (by omega) (by simp at *; omega)
    rcases hp with ⟨rfl, rfl⟩ | ⟨q, y, rfl, rfl⟩
    · simp at hl hr f5
      simp [f0, f1, f5, hr, encE]
      repeat' (first
        | refine GdK_split (by simp) (fun h => ?_) (fun h => ?_)
        | refine BrK_split (fun h => ?_) (fun h => ?_)
        | simp [f0, f1, f5])
      all_goals simp only [decide_eq_true_eq, decide_eq_false_iff_not, Bool.not_true, Bool.not_false] at *
      all_goals first
        | (clear hl hr; simp_all [RetK, cut_app hcl, soundFrom]; done)
        | (have hs' : sound l n = soundFrom n e.t r := by
             clear hl hr
             rw [hs, soundFrom]
             (repeat' split) <;> first | rfl | omega | (simp_all; done) | (simp_all; omega)
           have hw : IntKind.i64.wrap 1 = 1 := rfl
           refine AgainK_of (m := H'.length) (by simp) ⟨[e], r, e.t, hl, hs', .inr ⟨[], e, rfl, rfl⟩, ?_⟩ ?_
           · simp [cut_app hcl, f0, f1, f5, hw]
           · simp [hw]; simp at *; omega)
    · have hr2 : Zam.rowAt (l.map encE) q.length = some (encE y) := by
        rw [hl, List.append_assoc]; exact rowAt_mid encE q ([] ++ e :: r) y
      simp only [List.length_append, List.length_cons, List.length_nil, Nat.zero_add, Int.natCast_add, Int.cast_ofNat_Int] at f5 hr hw h
      have hw2 : IntKind.i64.wrap (q.length : Int) = q.length := wrap_i64 (by omega) (by simp at *; omega)
      have hq : decide ((0 : Int) < q.length + 1) = true := by simp only [decide_eq_true_eq]; omega
      simp [f0, f1, f5, hr, encE]
      repeat' (first
        | refine GdK_split (by simp) (fun h => ?_) (fun h => ?_)
        | refine BrK_split (fun h => ?_) (fun h => ?_)
        | simp [f0, f1, f5, hr2, hw2, hq, encE])
      all_goals simp only [decide_eq_true_eq, decide_eq_false_iff_not, Bool.not_true, Bool.not_false] at *
      all_goals first
        | (clear hl hr hr2; simp_all [RetK, cut_app hcl, soundFrom]; done)
        | skip
      all_goals
        have hs' : sound l n = soundFrom n e.t r := by
          clear hl hr hr2
          rw [hs, soundFrom]
          (repeat' split) <;> first | rfl | omega | (simp_all; done) | (simp_all; omega)
        refine AgainK_of (m := H'.length) (by simp) ⟨q ++ [y] ++ [e], r, e.t, by simpa using hl, hs', .inr ⟨_, e, rfl, rfl⟩, ?_⟩ ?_
        · simp [cut_app hcl, f0, f1, f5, hw]
          omega
        · simp [hw]
          omega
  · obtain rfl : rest = [] := by
      cases rest with
      | nil => rfl
      | cons e r => simp_all
    simp [RetK, hs, soundFrom, cut_self hcl]


def remn (s : List UInt8) (k : Nat) : List Ed → List UInt8
  | [] => s.drop k
  | e :: r => if e.f < k then applied s e.t r else applied s k (e :: r)

theorem take_one {s : List UInt8} {k m : Nat} (h : 1 ≤ m) : (s.drop k).take m = (s.drop k).take 1 ++ (s.drop (k + 1)).take (m - 1) := by
  obtain ⟨m, rfl⟩ : ∃ j, m = j + 1 := ⟨m - 1, by omega⟩
  rw [show m + 1 = 1 + m by omega, List.take_add, List.drop_drop, Nat.add_sub_cancel_left]

theorem drop_one (s : List UInt8) (k : Nat) : s.drop k = (s.drop k).take 1 ++ s.drop (k + 1) := by
  rw [← List.drop_drop, List.take_append_drop]

theorem applied_one {s : List UInt8} {k : Nat} {e : Ed} {r : List Ed} (h : (k : Int) < e.f) : applied s k (e :: r) = (s.drop k).take 1 ++ applied s ((k + 1 : Nat) : Int) (e :: r) := by
  simp only [applied, Int.toNat_natCast]
  rw [take_one (m := e.f.toNat - k) (by omega), show e.f.toNat - (k + 1) = e.f.toNat - k - 1 by omega]
  simp

theorem applied_length (s : List UInt8) : ∀ (k : Int) (l : List Ed), (applied s k l).length ≤ (l.length + 1) * s.length + total l
  | k, [] => by simp [applied, total]
  | k, e :: r => by
    have := applied_length s e.t r
    simp only [applied, List.length_append, List.length_take, List.length_drop, total, List.length_cons]
    rw [Nat.add_mul (r.length + 1) 1]
    omega

def J11 (H : Hp) (s : List UInt8) (z : Bool) (l : List Ed) (fr : Fr) (H' : Hp) : Prop :=
  ∃ pre rest, ∃ (k : Nat) (last : Int) (o : List UInt8), l = pre ++ rest ∧ o ++ remn s k rest = applied s 0 l ∧ k ≤ s.length + 1 ∧ soundFrom s.length last rest = 0 ∧ (∀ e r, rest = e :: r → (k : Int) ≤ e.t) ∧
      fr 0 = .d (.str s) ∧ fr 1 = .d (.sl z 3 (l.map encE)) ∧ fr 7 = .d (.str o) ∧ fr 8 = .d (.int .i64 (pre.length : Int)) ∧ fr 9 = .d (.int .i64 (k : Int)) ∧ H' = H

def M11 (s : List UInt8) (fr : Fr) (_ : Hp) : Nat := match fr 9 with | .d (.int _ k) => (s.length + 1 - k).toNat | _ => 0

theorem again11 {H : Hp} (hcl : H.Closed) {s : List UInt8} {z : Bool} {l pre rest : List Ed} {k : Nat} {last : Int} {o : List UInt8} {fr fr0 : Fr} {t : Tag (J11 H s z l, M11 s)} (h9 : fr0 9 = .d (.int .i64 (k : Int))) (hk : k ≤ s.length)
    (h1 : l = pre ++ rest) (h2 : o ++ remn s (k + 1) rest = applied s 0 l) (h3 : soundFrom s.length last rest = 0) (h4 : ∀ e r, rest = e :: r → ((k + 1 : Nat) : Int) ≤ e.t)
    (g0 : fr 0 = .d (.str s)) (g1 : fr 1 = .d (.sl z 3 (l.map encE))) (g7 : fr 7 = .d (.str o)) (g8 : fr 8 = .d (.int .i64 (pre.length : Int))) (g9 : fr 9 = .d (.int .i64 ((k : Int) + 1))) :
    AgainK (J11 H s z l) (M11 s) t H.length (M11 s fr0 H) fr H := by
  refine AgainK_of (Nat.le_refl _) ⟨pre, rest, k + 1, last, o, h1, h2, by omega, h3, h4, ?_⟩ ?_
  · simp [g0, g1, g7, g8, g9, cut_self hcl]
  · simp [M11, h9, g9]
    omega

theorem strOp_add {a b : List UInt8} (h : a.length + b.length ≤ 9223372036854775807) : strOp .add a b = some (.str (a ++ b)) := by simp [strOp, h]

theorem refApplyOk {fs et fa : Nat} (hs_ : Has P fs (irR2Sound et)) (ha_ : Has P fa (irR2Apply fs)) (H : Hp) (z : Bool) (s : List UInt8) (l : List Ed) (hb : s.length + total l ≤ 70368744177664) :
    ACall P fa [.d (.str s), .d (.sl z 3 (l.map encE))] H (fun r H' => r = .tup [.d (.str (applyS s l)), .d (.int .i64 (sound l s.length))] ∧ H' = H) := by
  obtain ⟨fn, hf1, hf2⟩ := ha_
  refine acall_fin hf1 hf2 (by simp [irR2Apply]) fun hcl _ => ?_
  simp [irR2Apply]
  refine CallK_of' (refSoundOk hs_ H z l s.length) ?_
  simp
  refine BrK_split (fun h => ?_) (fun h => ?_)
  · simp [RetK, cut_self hcl]
    simp at h
    simp [applyS, h]
  have h0 : sound l s.length = 0 := by simpa using h
  obtain ⟨hl512, hs0⟩ := sound_zero h0
  have hal : (applied s 0 l).length ≤ 72057594037927936 := by
    have := applied_length s 0 l
    have h5 : (l.length + 1) * s.length ≤ 513 * s.length := Nat.mul_le_mul_right _ (by omega)
    omega
  simp
  refine LoopK_of H.length (J11 H s z l) (M11 s) (by simp) ?_ ?_
  · refine ⟨[], l, 0, -1, [], rfl, ?_, Nat.zero_le _, hs0, fun e r hl => ?_, ?_⟩
    · cases l with
      | nil => simp [remn, applied]
      | cons e r =>
        have := soundFrom_cons hs0
        simp only [remn]; rw [if_neg (by omega)]; rfl
    · subst hl; have := soundFrom_cons hs0; simp; omega
    · simp [cut_self hcl]
  rintro fr H' ⟨pre, rest, k, last, o, hl, hap, hk, hsf, hkt, f0, f1, f7, f8, f9, rfl⟩
  simp [f0, f9]
  refine BrK_split (fun h => ?_) (fun h => ?_)
  · have hk2 : k ≤ s.length := by simpa using h
    have hw : IntKind.i64.wrap ((k : Int) + 1) = k + 1 := wrap_i64 (by omega) (by omega)
    have hsub : k < s.length → subL s (k : Int) ((k : Int) + 1) = some ((s.drop k).take 1) := fun hlt => by
      rw [subL_ok ⟨by omega, by omega, by omega⟩]; simp
    rcases rest with _ | ⟨e, r⟩
    · have hln : l.length = pre.length := by simp [hl]
      by_cases hlt : k < s.length
      · have hx : remn s k [] = (s.drop k).take 1 ++ remn s (k + 1) [] := drop_one s k
        rw [hx] at hap
        have hle := congrArg List.length hap
        rw [List.length_append, List.length_append] at hle
        have hst := strOp_add (a := o) (b := (s.drop k).take 1) (by omega)
        simp [-strOp, f0, f1, f7, f8, f9, hln, hlt, hsub hlt, hw, hst]
        exact again11 hcl f9 hk2 hl (o := o ++ (s.drop k).take 1) (by rw [List.append_assoc]; exact hap) hsf (by simp) (by simp [f0]) (by simp [f1]) (by simp) (by simp [f8]) (by simp)
      · have hx : remn s k [] = remn s (k + 1) [] := by simp only [remn]; rw [List.drop_eq_nil_of_le (by omega), List.drop_eq_nil_of_le (by omega)]
        rw [hx] at hap
        simp [-strOp, f0, f1, f7, f8, f9, hln, hlt, hw]
        exact again11 hcl f9 hk2 hl hap hsf (by simp) (by simp [f0]) (by simp [f1]) (by simp [f7]) (by simp [f8]) (by simp)
    · obtain ⟨e1, e2, e3, e4, e5⟩ := soundFrom_cons hsf
      have kt := hkt e r rfl
      have hr : Zam.rowAt (l.map encE) pre.length = some (encE e) := by rw [hl]; exact rowAt_mid _ _ _ _
      have hln : l.length = pre.length + (r.length + 1) := by simp [hl]
      have hp : pre.length < l.length := by omega
      have hw8 : IntKind.i64.wrap ((pre.length : Int) + 1) = pre.length + 1 := wrap_i64 (by omega) (by omega)
      by_cases hA : e.t = k
      · have hl' : l = (pre ++ [e]) ++ r := by simp [hl]
        have hB' : e.f = k ∨ e.f < k := by omega
        have hBle : e.f ≤ k := by omega
        have hrem : remn s k (e :: r) = (if e.f = k then e.s else []) ++ applied s k r := by
          rcases hB' with hB | hB
          · simp only [remn, applied]; rw [if_neg (by omega), if_pos hB, hB, hA]; simp
          · simp only [remn]; rw [if_pos hB, if_neg (by omega), hA]; rfl
        rcases r with _ | ⟨e', r'⟩
        · have hln1 : l.length = pre.length + 1 := by simpa using hln
          have hq1 : (pre.length : Int) < pre.length + 1 := by omega
          by_cases hlt : k < s.length
          · have hx : remn s k [e] = (if e.f = k then e.s else []) ++ ((s.drop k).take 1 ++ remn s (k + 1) []) := by
              rw [hrem]; simp only [applied, remn, Int.toNat_natCast]; rw [← drop_one]
            rw [hx] at hap
            have hle := congrArg List.length hap
            rw [List.length_append, List.length_append, List.length_append] at hle
            by_cases hB : e.f = k
            · rw [if_pos hB] at hap hle
              have hst0 := strOp_add (a := o) (b := e.s) (by omega)
              have hst := strOp_add (a := o ++ e.s) (b := (s.drop k).take 1) (by rw [List.length_append]; omega)
              simp [-strOp, -List.append_assoc, f0, f1, f7, f8, f9, hln1, hq1, hr, encE, hA, hB, hlt, hsub hlt, hw, hw8, hst0, hst]
              exact again11 hcl f9 hk2 hl' (o := o ++ e.s ++ (s.drop k).take 1) (by rw [List.append_assoc, List.append_assoc]; exact hap) e5 (by simp) (by simp [f0]) (by simp [f1]) (by simp) (by simp) (by simp)
            · rw [if_neg hB] at hap hle
              have hst := strOp_add (a := o) (b := (s.drop k).take 1) (by omega)
              simp [-strOp, -List.append_assoc, f0, f1, f7, f8, f9, hln1, hq1, hr, encE, hA, hB, hBle, hlt, hsub hlt, hw, hw8, hst]
              exact again11 hcl f9 hk2 hl' (o := o ++ (s.drop k).take 1) (by rw [List.append_assoc]; exact hap) e5 (by simp) (by simp [f0]) (by simp [f1]) (by simp) (by simp) (by simp)
          · have hx : remn s k [e] = (if e.f = k then e.s else []) ++ remn s (k + 1) [] := by
              rw [hrem]; simp only [applied, remn, Int.toNat_natCast]; rw [List.drop_eq_nil_of_le (by omega), List.drop_eq_nil_of_le (by omega)]
            rw [hx] at hap
            have hle := congrArg List.length hap
            rw [List.length_append, List.length_append] at hle
            by_cases hB : e.f = k
            · rw [if_pos hB] at hap hle
              have hst0 := strOp_add (a := o) (b := e.s) (by omega)
              simp [-strOp, -List.append_assoc, f0, f1, f7, f8, f9, hln1, hq1, hr, encE, hA, hB, hlt, hw, hw8, hst0]
              exact again11 hcl f9 hk2 hl' (o := o ++ e.s) (by rw [List.append_assoc]; exact hap) e5 (by simp) (by simp [f0]) (by simp [f1]) (by simp) (by simp) (by simp)
            · rw [if_neg hB] at hap hle
              simp [-strOp, -List.append_assoc, f0, f1, f7, f8, f9, hln1, hq1, hr, encE, hA, hB, hBle, hlt, hw, hw8]
              exact again11 hcl f9 hk2 hl' (o := o) hap e5 (by simp) (by simp [f0]) (by simp [f1]) (by simp [f7]) (by simp) (by simp)
        · obtain ⟨d1, d2, d3, d4, d5⟩ := soundFrom_cons e5
          have hlt : k < s.length := by omega
          have hr2 : Zam.rowAt (l.map encE) ((pre.length : Int) + 1) = some (encE e') := by
            have := rowAt_mid encE (pre ++ [e]) r' e'
            rw [← hl'] at this; simpa using this
          have hp2 : pre.length + 1 < l.length := by simp at hln; omega
          have hN : ¬ e'.f ≤ k := by omega
          have hq2 : (pre.length : Int) + 1 < l.length := by omega
          have hx : remn s k (e :: e' :: r') = (if e.f = k then e.s else []) ++ ((s.drop k).take 1 ++ remn s (k + 1) (e' :: r')) := by
            rw [hrem, applied_one (by omega)]; simp only [remn]; rw [if_neg (c := e'.f < ((k + 1 : Nat) : Int)) (by omega)]
          rw [hx] at hap
          have hle := congrArg List.length hap
          rw [List.length_append, List.length_append, List.length_append] at hle
          have h4 : ∀ y q, e' :: r' = y :: q → ((k + 1 : Nat) : Int) ≤ y.t := fun y q hy => by cases hy; omega
          by_cases hB : e.f = k
          · rw [if_pos hB] at hap hle
            have hst0 := strOp_add (a := o) (b := e.s) (by omega)
            have hst := strOp_add (a := o ++ e.s) (b := (s.drop k).take 1) (by rw [List.length_append]; omega)
            simp [-strOp, -List.append_assoc, f0, f1, f7, f8, f9, hp, hp2, hq2, hr, hr2, hN, encE, hA, hB, hlt, hsub hlt, hw, hw8, hst0, hst]
            exact again11 hcl f9 hk2 hl' (o := o ++ e.s ++ (s.drop k).take 1) (by rw [List.append_assoc, List.append_assoc]; exact hap) e5 h4 (by simp [f0]) (by simp [f1]) (by simp) (by simp) (by simp)
          · rw [if_neg hB] at hap hle
            have hst := strOp_add (a := o) (b := (s.drop k).take 1) (by omega)
            simp [-strOp, -List.append_assoc, f0, f1, f7, f8, f9, hp, hp2, hq2, hr, hr2, hN, encE, hA, hB, hlt, hsub hlt, hw, hw8, hst]
            exact again11 hcl f9 hk2 hl' (o := o ++ (s.drop k).take 1) (by rw [List.append_assoc]; exact hap) e5 h4 (by simp [f0]) (by simp [f1]) (by simp) (by simp) (by simp)
      · have hkt' : (k : Int) < e.t := by omega
        have hlt : k < s.length := by omega
        have h4 : ∀ y q, e :: r = y :: q → ((k + 1 : Nat) : Int) ≤ y.t := fun y q hy => by cases hy; omega
        rcases Int.lt_trichotomy e.f k with hB | hB | hB
        · have hB1 : ¬ e.f = k := by omega
          have hB2 : e.f ≤ k := by omega
          have hx : remn s k (e :: r) = remn s (k + 1) (e :: r) := by simp only [remn]; rw [if_pos hB, if_pos (by omega)]
          rw [hx] at hap
          simp [-strOp, -List.append_assoc, f0, f1, f7, f8, f9, hp, hr, encE, hA, hB1, hB2, hkt', hlt, hw, hw8]
          exact again11 hcl f9 hk2 hl (o := o) hap hsf h4 (by simp [f0]) (by simp [f1]) (by simp [f7]) (by simp [f8]) (by simp)
        · have hx : remn s k (e :: r) = e.s ++ remn s (k + 1) (e :: r) := by
            simp only [remn]; rw [if_neg (by omega), if_pos (by omega), applied, hB]; simp
          rw [hx] at hap
          have hle := congrArg List.length hap
          rw [List.length_append, List.length_append] at hle
          have hst0 := strOp_add (a := o) (b := e.s) (by omega)
          simp [-strOp, -List.append_assoc, f0, f1, f7, f8, f9, hp, hr, encE, hA, hB, hkt', hlt, hw, hw8, hst0]
          exact again11 hcl f9 hk2 hl (o := o ++ e.s) (by rw [List.append_assoc]; exact hap) hsf h4 (by simp [f0]) (by simp [f1]) (by simp) (by simp [f8]) (by simp)
        · have hB1 : ¬ e.f = k := by omega
          have hB2 : ¬ e.f ≤ k := by omega
          have hx : remn s k (e :: r) = (s.drop k).take 1 ++ remn s (k + 1) (e :: r) := by
            simp only [remn]; rw [if_neg (by omega), if_neg (by omega), applied_one hB]
          rw [hx] at hap
          have hle := congrArg List.length hap
          rw [List.length_append, List.length_append] at hle
          have hst := strOp_add (a := o) (b := (s.drop k).take 1) (by omega)
          simp [-strOp, -List.append_assoc, f0, f1, f7, f8, f9, hp, hr, encE, hA, hB1, hB2, hlt, hsub hlt, hw, hw8, hst]
          exact again11 hcl f9 hk2 hl (o := o ++ (s.drop k).take 1) (by rw [List.append_assoc]; exact hap) hsf h4 (by simp [f0]) (by simp [f1]) (by simp) (by simp [f8]) (by simp)
  · obtain ⟨rfl⟩ : rest = [] := by
      cases rest with
      | nil => rfl
      | cons e r =>
        have h1 := soundFrom_cons hsf
        have h2 := hkt e r rfl
        simp at h; omega
    simp at h
    simp [RetK, cut_self hcl, f7, h0, applyS, ← hap, remn]
    omega

end
end R2
end Go.Zam

namespace Go.Zam
set_option linter.all false
set_option maxRecDepth 100000
set_option maxHeartbeats 1000000

end Go.Zam

namespace Go.Zam
set_option linter.all false
set_option maxRecDepth 100000
set_option maxHeartbeats 1000000

/-- the other view of a row, and how it stands -/
theorem HR.vecArr2 {κ : K} {H : Hp} {w : World} (hr : HR κ H w) {i k sz e : Nat} {rows : List (List D)} (hi : H[i]? = some (.vec sz e k rows)) (hne : rows ≠ []) :
    ∃ κs, κ.le κs ∧ HR κs (H.set i .dead ++ [.arr sz (rows.map (List.map .d))]) w ∧ (∀ v, VR κ v (.vsl i k rows.length) → VR κs v (.msl H.length 0 rows.length)) ∧ (∀ m, m ≠ i → m ≠ H.length → κs.β m = κ.β m) ∧ ∃ b c n, κ.β i = .vec b c rows.length k sz ∧ κs.β H.length = .arr b sz (some (e, n)) ∧ (k = 0 → rows ≠ []) ∧ rows.length ≤ c ∧ c * sz ≤ n := by
  have hil : i < H.length := (List.getElem?_eq_some_iff.1 hi).1
  rcases hr.ob i _ hi with ⟨-, -, h0⟩ | ⟨b, c, cur, hβ, hk0, hheap, hle0, hsz, hcells⟩
  · exact absurd h0 hne
  have hpos : 0 < rows.length := List.length_pos_iff.2 hne
  have hbx := hr.ex i b (by rw [hβ]; rfl)
  have hn : κ.β H.length = .none := hr.dom _ (Nat.le_refl _)
  let κs : K := { κ with β := upd (upd κ.β i .deadT) H.length (.arr b sz (some (e, cur.size))) }
  have hsβ : ∀ m, m ≠ i → m ≠ H.length → κs.β m = κ.β m := fun m h1 h2 => by
    show upd (upd κ.β i _) H.length _ m = _
    rw [upd_ne _ _ h2, upd_ne _ _ h1]
  have hsi : κs.β i = .deadT := by
    show upd (upd κ.β i _) H.length _ i = _
    rw [upd_ne _ _ (by omega), upd_same]
  have hsn : κs.β H.length = .arr b sz (some (e, cur.size)) := upd_same _ _ _
  have hks : κ.le κs := ⟨rfl, fun _ _ _ h => h, fun m => by
    by_cases h1 : m = i
    · subst h1; rw [hsi, hβ]; exact .inr (.inl rfl)
    · by_cases h2 : m = H.length
      · subst h2; rw [hn]; trivial
      · rw [hsβ m h1 h2]; exact Bind.le_refl _⟩
  have hblk : ∀ m b', (κs.β m).block = some b' → (m = H.length ∧ b' = b) ∨ (m ≠ H.length ∧ m ≠ i ∧ (κ.β m).block = some b') := fun m b' hm => by
    by_cases h2 : m = H.length
    · subst h2; rw [hsn] at hm; cases hm; exact .inl ⟨rfl, rfl⟩
    · by_cases h1 : m = i
      · subst h1; rw [hsi] at hm; cases hm
      · rw [hsβ m h1 h2] at hm; exact .inr ⟨h2, h1, hm⟩
  refine ⟨κs, hks, ⟨hr.below, hr.st, fun m x hx => ?_, fun m hm => ?_, fun m b' hb' => ?_, fun m b' o ho => ?_, fun m q b' h1 h2 => ?_, fun m x hx => ?_⟩, fun v hv => ?_, hsβ, b, c, cur.size, hβ, hsn, hk0, hle0, hsz⟩
  · by_cases h2 : m = H.length
    · subst h2
      rw [show H.length = (H.set i Ob.dead).length by simp, getElem?_app0] at hx
      cases hx
      refine ⟨b, _, hsn, fun ty n he => by cases he; exact ⟨cur, hheap, rfl⟩, fun q r hq => ?_⟩
      simp only [List.getElem?_map, Option.map_eq_some_iff] at hq
      obtain ⟨r0, hr0, rfl⟩ := hq
      refine ⟨by simpa using (hcells q r0 hr0).1, fun y a ha => ?_⟩
      simp only [List.getElem?_map, Option.map_eq_some_iff] at ha
      obtain ⟨x0, hx0, rfl⟩ := ha
      obtain ⟨u, u1, u2⟩ := (hcells q r0 hr0).2 y x0 hx0
      exact ⟨u, by rw [cell_cells hheap]; exact u1, by simp [World.frozen?, hheap], .d u2⟩
    · have hm : m < (H.set i Ob.dead).length := by
        have := (List.getElem?_eq_some_iff.1 hx).1
        simp at this ⊢; omega
      rw [List.getElem?_append_left hm] at hx
      by_cases h1 : i = m
      · subst h1
        rw [List.getElem?_set_self hil] at hx
        cases hx; trivial
      · rw [List.getElem?_set_ne h1] at hx
        exact (hr.ob m x hx).mono hks (hsβ m (Ne.symm h1) h2) fun _ _ => rfl
  · have : H.length + 1 ≤ m := by simpa using hm
    rw [hsβ m (by omega) (by omega)]; exact hr.dom m (by omega)
  · rcases hblk m b' hb' with ⟨-, rfl⟩ | ⟨-, -, h3⟩
    · exact hbx
    · exact hr.ex m b' h3
  · rcases hblk m b' (Bind.block_of_owns ho) with ⟨rfl, rfl⟩ | ⟨h1, h2, h3⟩
    · exact hr.exσ i b' o (by rw [hβ]; rfl)
    · rw [hsβ m h2 h1] at ho; exact hr.exσ m b' o ho
  · rcases hblk m b' h1 with ⟨rfl, rfl⟩ | ⟨a1, a2, a3⟩
    · rcases hblk q b' h2 with ⟨rfl, -⟩ | ⟨c1, c2, c3⟩
      · rfl
      · exact absurd (hr.exd q i b' c3 (by rw [hβ]; rfl)) c2
    · rcases hblk q b' h2 with ⟨rfl, rfl⟩ | ⟨c1, c2, c3⟩
      · exact absurd (hr.exd m i b' a3 (by rw [hβ]; rfl)) a2
      · exact hr.exd m q b' a3 c3
  · by_cases h2 : m = H.length
    · subst h2
      rw [show H.length = (H.set i Ob.dead).length by simp, getElem?_app0] at hx
      cases hx
      simp [Ob.flat, A.flat]
    · have hm : m < (H.set i Ob.dead).length := by
        have := (List.getElem?_eq_some_iff.1 hx).1
        simp at this ⊢; omega
      rw [List.getElem?_append_left hm] at hx
      by_cases h1 : i = m
      · subst h1
        rw [List.getElem?_set_self hil] at hx
        cases hx; rfl
      · rw [List.getElem?_set_ne h1] at hx
        exact hr.fl m x hx
  · cases hv with
    | vsl _ _ _ ad cap hlc hf =>
    rw [hβ] at hf
    have := (hf.2 rfl).2
    cases this
    exact .msl _ _ _ b sz 0 c (.inl ⟨_, hsn⟩) hlc (fun _ => by simp) (fun h0 => by omega)


end Go.Zam
