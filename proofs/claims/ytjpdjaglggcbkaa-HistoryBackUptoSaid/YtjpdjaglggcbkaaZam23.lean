/-
  An abstract machine over the model, twenty-third part: the library's stable sorting, as code of the machine, over any element's size. No condition.
-/
import Derived.Test.YtjpdjaglggcbkaaZam22
namespace Go.Zam

def irSwapRange (sz : Nat) : IFn :=
 { nt := 38, res := [], body := (
  .seq (.ops [
    ⟨(some 10), none, .mv (.c (.int .i64 0))⟩] false)
  (.blk 0 (.loop (.seq (.seq (.ops [
       ⟨(some 11), none, .mv (.t 10)⟩,
       ⟨(some 12), none, .mv (.t 3)⟩,
       ⟨(some 13), none, .bin .lss (.t 11) (.t 12)⟩] false)
     (.cond (.t 13) (.skip)
     (.exit 0)))
    (.seq (.blk 1 (.ops [
       ⟨(some 16), none, .mv (.t 0)⟩,
       ⟨(some 17), none, .mv (.t 1)⟩,
       ⟨(some 18), none, .mv (.t 10)⟩,
       ⟨(some 19), none, .bin .add (.t 17) (.t 18)⟩,
       ⟨(some 20), none, .mv (.t 0)⟩,
       ⟨(some 21), none, .mv (.t 2)⟩,
       ⟨(some 22), none, .mv (.t 10)⟩,
       ⟨(some 23), none, .bin .add (.t 21) (.t 22)⟩,
       ⟨(some 24), none, .mv (.t 0)⟩,
       ⟨(some 25), none, .mv (.t 2)⟩,
       ⟨(some 26), none, .mv (.t 10)⟩,
       ⟨(some 27), none, .bin .add (.t 25) (.t 26)⟩,
       ⟨(some 28), none, .iaddr sz (.t 24) (.t 27)⟩,
       ⟨(some 29), none, .load sz true (.t 28)⟩,
       ⟨(some 30), none, .mv (.t 0)⟩,
       ⟨(some 31), none, .mv (.t 1)⟩,
       ⟨(some 32), none, .mv (.t 10)⟩,
       ⟨(some 33), none, .bin .add (.t 31) (.t 32)⟩,
       ⟨(some 34), none, .iaddr sz (.t 30) (.t 33)⟩,
       ⟨(some 35), none, .load sz true (.t 34)⟩,
       ⟨(some 36), none, .iaddr sz (.t 16) (.t 19)⟩,
       ⟨none, none, .store sz (.t 36) (.t 29)⟩,
       ⟨(some 37), none, .iaddr sz (.t 20) (.t 23)⟩,
       ⟨none, none, .store sz (.t 37) (.t 35)⟩] true))
    (.ops [
     ⟨(some 14), none, .mv (.t 10)⟩,
     ⟨(some 15), none, .bin .add (.t 14) (.c (.int .i64 1))⟩,
     ⟨(some 10), none, .mv (.t 15)⟩] false)))))) }

def irRotate (swp : Nat) : IFn :=
 { nt := 58, res := [], body := (
  .seq (.ops [
    ⟨(some 12), none, .mv (.t 2)⟩,
    ⟨(some 13), none, .mv (.t 1)⟩,
    ⟨(some 14), none, .bin .sub (.t 12) (.t 13)⟩,
    ⟨(some 10), none, .mv (.t 14)⟩] false)
  (.seq (.ops [
    ⟨(some 15), none, .mv (.t 3)⟩,
    ⟨(some 16), none, .mv (.t 2)⟩,
    ⟨(some 17), none, .bin .sub (.t 15) (.t 16)⟩,
    ⟨(some 11), none, .mv (.t 17)⟩] false)
  (.seq (.blk 0 (.loop (.seq (.seq (.ops [
        ⟨(some 18), none, .mv (.t 10)⟩,
        ⟨(some 19), none, .mv (.t 11)⟩,
        ⟨(some 20), none, .bin .neq (.t 18) (.t 19)⟩] false)
      (.cond (.t 20) (.skip)
      (.exit 0)))
     (.blk 1 (.seq (.ops [
        ⟨(some 21), none, .mv (.t 10)⟩,
        ⟨(some 22), none, .mv (.t 11)⟩,
        ⟨(some 23), none, .bin .gtr (.t 21) (.t 22)⟩] false)
      (.cond (.t 23) (.seq (.ops [
         ⟨(some 24), none, .mv (.t 0)⟩,
         ⟨(some 25), none, .mv (.t 2)⟩,
         ⟨(some 26), none, .mv (.t 10)⟩,
         ⟨(some 27), none, .bin .sub (.t 25) (.t 26)⟩,
         ⟨(some 28), none, .mv (.t 2)⟩,
         ⟨(some 29), none, .mv (.t 11)⟩,
         ⟨(some 30), none, .mv (.t 4)⟩,
         ⟨(some 31), none, .call swp [(.t 24), (.t 27), (.t 28), (.t 29), (.t 30)]⟩] false)
       (.ops [
        ⟨(some 32), none, .mv (.t 10)⟩,
        ⟨(some 33), none, .mv (.t 11)⟩,
        ⟨(some 34), none, .bin .sub (.t 32) (.t 33)⟩,
        ⟨(some 10), none, .mv (.t 34)⟩] false))
      (.seq (.ops [
         ⟨(some 35), none, .mv (.t 0)⟩,
         ⟨(some 36), none, .mv (.t 2)⟩,
         ⟨(some 37), none, .mv (.t 10)⟩,
         ⟨(some 38), none, .bin .sub (.t 36) (.t 37)⟩,
         ⟨(some 39), none, .mv (.t 2)⟩,
         ⟨(some 40), none, .mv (.t 11)⟩,
         ⟨(some 41), none, .bin .add (.t 39) (.t 40)⟩,
         ⟨(some 42), none, .mv (.t 10)⟩,
         ⟨(some 43), none, .bin .sub (.t 41) (.t 42)⟩,
         ⟨(some 44), none, .mv (.t 10)⟩,
         ⟨(some 45), none, .mv (.t 4)⟩,
         ⟨(some 46), none, .call swp [(.t 35), (.t 38), (.t 43), (.t 44), (.t 45)]⟩] false)
       (.ops [
        ⟨(some 47), none, .mv (.t 11)⟩,
        ⟨(some 48), none, .mv (.t 10)⟩,
        ⟨(some 49), none, .bin .sub (.t 47) (.t 48)⟩,
        ⟨(some 11), none, .mv (.t 49)⟩] false))))))))
  (.ops [
   ⟨(some 50), none, .mv (.t 0)⟩,
   ⟨(some 51), none, .mv (.t 2)⟩,
   ⟨(some 52), none, .mv (.t 10)⟩,
   ⟨(some 53), none, .bin .sub (.t 51) (.t 52)⟩,
   ⟨(some 54), none, .mv (.t 2)⟩,
   ⟨(some 55), none, .mv (.t 10)⟩,
   ⟨(some 56), none, .mv (.t 4)⟩,
   ⟨(some 57), none, .call swp [(.t 50), (.t 53), (.t 54), (.t 55), (.t 56)]⟩] false)))) }

def symEnd (rot sym : Nat) : C :=
 (.seq (.ops [
    ⟨(some 175), none, .mv (.t 19)⟩,
    ⟨(some 176), none, .mv (.t 20)⟩,
    ⟨(some 177), none, .bin .sub (.t 175) (.t 176)⟩,
    ⟨(some 24), none, .mv (.t 177)⟩] false)
  (.seq (.seq (.ops [
     ⟨(some 178), none, .mv (.t 20)⟩,
     ⟨(some 179), none, .mv (.t 2)⟩,
     ⟨(some 180), none, .bin .lss (.t 178) (.t 179)⟩,
     ⟨(some 181), none, .mv (.t 180)⟩,
     ⟨(some 182), (some (181, true)), .mv (.t 2)⟩,
     ⟨(some 183), (some (181, true)), .mv (.t 24)⟩,
     ⟨(some 184), (some (181, true)), .bin .lss (.t 182) (.t 183)⟩,
     ⟨(some 185), none, .pick (.t 181) (.t 184) (.c (.bool false))⟩] false)
   (.cond (.t 185) (.ops [
     ⟨(some 186), none, .mv (.t 0)⟩,
     ⟨(some 187), none, .mv (.t 20)⟩,
     ⟨(some 188), none, .mv (.t 2)⟩,
     ⟨(some 189), none, .mv (.t 24)⟩,
     ⟨(some 190), none, .mv (.t 4)⟩,
     ⟨(some 191), none, .call rot [(.t 186), (.t 187), (.t 188), (.t 189), (.t 190)]⟩] false)
   (.skip)))
  (.seq (.seq (.ops [
     ⟨(some 192), none, .mv (.t 1)⟩,
     ⟨(some 193), none, .mv (.t 20)⟩,
     ⟨(some 194), none, .bin .lss (.t 192) (.t 193)⟩,
     ⟨(some 195), none, .mv (.t 194)⟩,
     ⟨(some 196), (some (195, true)), .mv (.t 20)⟩,
     ⟨(some 197), (some (195, true)), .mv (.t 18)⟩,
     ⟨(some 198), (some (195, true)), .bin .lss (.t 196) (.t 197)⟩,
     ⟨(some 199), none, .pick (.t 195) (.t 198) (.c (.bool false))⟩] false)
   (.cond (.t 199) (.ops [
     ⟨(some 200), none, .mv (.t 0)⟩,
     ⟨(some 201), none, .mv (.t 1)⟩,
     ⟨(some 202), none, .mv (.t 20)⟩,
     ⟨(some 203), none, .mv (.t 18)⟩,
     ⟨(some 204), none, .mv (.t 4)⟩,
     ⟨(some 205), none, .call sym [(.t 200), (.t 201), (.t 202), (.t 203), (.t 204)]⟩] false)
   (.skip)))
  (.seq (.ops [
    ⟨(some 206), none, .mv (.t 18)⟩,
    ⟨(some 207), none, .mv (.t 24)⟩,
    ⟨(some 208), none, .bin .lss (.t 206) (.t 207)⟩,
    ⟨(some 209), none, .mv (.t 208)⟩,
    ⟨(some 210), (some (209, true)), .mv (.t 24)⟩,
    ⟨(some 211), (some (209, true)), .mv (.t 3)⟩,
    ⟨(some 212), (some (209, true)), .bin .lss (.t 210) (.t 211)⟩,
    ⟨(some 213), none, .pick (.t 209) (.t 212) (.c (.bool false))⟩] false)
  (.cond (.t 213) (.ops [
    ⟨(some 214), none, .mv (.t 0)⟩,
    ⟨(some 215), none, .mv (.t 18)⟩,
    ⟨(some 216), none, .mv (.t 24)⟩,
    ⟨(some 217), none, .mv (.t 3)⟩,
    ⟨(some 218), none, .mv (.t 4)⟩,
    ⟨(some 219), none, .call sym [(.t 214), (.t 215), (.t 216), (.t 217), (.t 218)]⟩] false)
  (.skip))))))

def symLoop (sz rot sym : Nat) : C :=
 (.seq (.blk 8 (.loop (.seq (.seq (.ops [
        ⟨(some 149), none, .mv (.t 20)⟩,
        ⟨(some 150), none, .mv (.t 21)⟩,
        ⟨(some 151), none, .bin .lss (.t 149) (.t 150)⟩] false)
      (.cond (.t 151) (.skip)
      (.exit 8)))
     (.blk 9 (.seq (.ops [
        ⟨(some 152), none, .mv (.t 20)⟩,
        ⟨(some 153), none, .mv (.t 21)⟩,
        ⟨(some 154), none, .bin .add (.t 152) (.t 153)⟩,
        ⟨(some 155), none, .cvt .u64 (.t 154)⟩,
        ⟨(some 156), none, .bin .shr (.t 155) (.c (.int .u64 1))⟩,
        ⟨(some 157), none, .cvt .i64 (.t 156)⟩,
        ⟨(some 23), none, .mv (.t 157)⟩] false)
      (.seq (.ops [
        ⟨(some 158), none, .mv (.t 4)⟩,
        ⟨(some 159), none, .mv (.t 0)⟩,
        ⟨(some 160), none, .mv (.t 22)⟩,
        ⟨(some 161), none, .mv (.t 23)⟩,
        ⟨(some 162), none, .bin .sub (.t 160) (.t 161)⟩,
        ⟨(some 163), none, .iaddr sz (.t 159) (.t 162)⟩,
        ⟨(some 164), none, .load sz true (.t 163)⟩,
        ⟨(some 165), none, .mv (.t 0)⟩,
        ⟨(some 166), none, .mv (.t 23)⟩,
        ⟨(some 167), none, .iaddr sz (.t 165) (.t 166)⟩,
        ⟨(some 168), none, .load sz true (.t 167)⟩,
        ⟨(some 169), none, .callv (.t 158) [(.t 164), (.t 168)]⟩,
        ⟨(some 170), none, .bin .lss (.t 169) (.c (.int .i64 0))⟩,
        ⟨(some 171), none, .un .not (.t 170)⟩] true)
      (.cond (.t 171) (.ops [
        ⟨(some 172), none, .mv (.t 23)⟩,
        ⟨(some 173), none, .bin .add (.t 172) (.c (.int .i64 1))⟩,
        ⟨(some 20), none, .mv (.t 173)⟩] false)
      (.ops [
        ⟨(some 174), none, .mv (.t 23)⟩,
        ⟨(some 21), none, .mv (.t 174)⟩] false))))))))
  (symEnd rot sym))

def symA (sz : Nat) : C :=
 (.seq (.ops [
      ⟨(some 29), none, .mv (.t 2)⟩,
      ⟨(some 10), none, .mv (.t 29)⟩] false)
    (.seq (.ops [
      ⟨(some 30), none, .mv (.t 3)⟩,
      ⟨(some 11), none, .mv (.t 30)⟩] false)
    (.seq (.blk 0 (.loop (.seq (.seq (.ops [
          ⟨(some 31), none, .mv (.t 10)⟩,
          ⟨(some 32), none, .mv (.t 11)⟩,
          ⟨(some 33), none, .bin .lss (.t 31) (.t 32)⟩] false)
        (.cond (.t 33) (.skip)
        (.exit 0)))
       (.blk 1 (.seq (.ops [
          ⟨(some 34), none, .mv (.t 10)⟩,
          ⟨(some 35), none, .mv (.t 11)⟩,
          ⟨(some 36), none, .bin .add (.t 34) (.t 35)⟩,
          ⟨(some 37), none, .cvt .u64 (.t 36)⟩,
          ⟨(some 38), none, .bin .shr (.t 37) (.c (.int .u64 1))⟩,
          ⟨(some 39), none, .cvt .i64 (.t 38)⟩,
          ⟨(some 12), none, .mv (.t 39)⟩] false)
        (.seq (.ops [
          ⟨(some 40), none, .mv (.t 4)⟩,
          ⟨(some 41), none, .mv (.t 0)⟩,
          ⟨(some 42), none, .mv (.t 12)⟩,
          ⟨(some 43), none, .iaddr sz (.t 41) (.t 42)⟩,
          ⟨(some 44), none, .load sz true (.t 43)⟩,
          ⟨(some 45), none, .mv (.t 0)⟩,
          ⟨(some 46), none, .mv (.t 1)⟩,
          ⟨(some 47), none, .iaddr sz (.t 45) (.t 46)⟩,
          ⟨(some 48), none, .load sz true (.t 47)⟩,
          ⟨(some 49), none, .callv (.t 40) [(.t 44), (.t 48)]⟩,
          ⟨(some 50), none, .bin .lss (.t 49) (.c (.int .i64 0))⟩] true)
        (.cond (.t 50) (.ops [
          ⟨(some 51), none, .mv (.t 12)⟩,
          ⟨(some 52), none, .bin .add (.t 51) (.c (.int .i64 1))⟩,
          ⟨(some 10), none, .mv (.t 52)⟩] false)
        (.ops [
          ⟨(some 53), none, .mv (.t 12)⟩,
          ⟨(some 11), none, .mv (.t 53)⟩] false))))))))
    (.seq (.seq (.ops [
       ⟨(some 54), none, .mv (.t 1)⟩,
       ⟨(some 13), none, .mv (.t 54)⟩] false)
     (.blk 2 (.loop (.seq (.seq (.ops [
          ⟨(some 55), none, .mv (.t 13)⟩,
          ⟨(some 56), none, .mv (.t 10)⟩,
          ⟨(some 57), none, .bin .sub (.t 56) (.c (.int .i64 1))⟩,
          ⟨(some 58), none, .bin .lss (.t 55) (.t 57)⟩] false)
        (.cond (.t 58) (.skip)
        (.exit 2)))
       (.seq (.blk 3 (.ops [
          ⟨(some 61), none, .mv (.t 0)⟩,
          ⟨(some 62), none, .mv (.t 13)⟩,
          ⟨(some 63), none, .mv (.t 0)⟩,
          ⟨(some 64), none, .mv (.t 13)⟩,
          ⟨(some 65), none, .bin .add (.t 64) (.c (.int .i64 1))⟩,
          ⟨(some 66), none, .mv (.t 0)⟩,
          ⟨(some 67), none, .mv (.t 13)⟩,
          ⟨(some 68), none, .bin .add (.t 67) (.c (.int .i64 1))⟩,
          ⟨(some 69), none, .iaddr sz (.t 66) (.t 68)⟩,
          ⟨(some 70), none, .load sz true (.t 69)⟩,
          ⟨(some 71), none, .mv (.t 0)⟩,
          ⟨(some 72), none, .mv (.t 13)⟩,
          ⟨(some 73), none, .iaddr sz (.t 71) (.t 72)⟩,
          ⟨(some 74), none, .load sz true (.t 73)⟩,
          ⟨(some 75), none, .iaddr sz (.t 61) (.t 62)⟩,
          ⟨none, none, .store sz (.t 75) (.t 70)⟩,
          ⟨(some 76), none, .iaddr sz (.t 63) (.t 65)⟩,
          ⟨none, none, .store sz (.t 76) (.t 74)⟩] true))
       (.ops [
        ⟨(some 59), none, .mv (.t 13)⟩,
        ⟨(some 60), none, .bin .add (.t 59) (.c (.int .i64 1))⟩,
        ⟨(some 13), none, .mv (.t 60)⟩] false))))))
    (.ret)))))

def symB (sz : Nat) : C :=
 (.seq (.ops [
      ⟨(some 81), none, .mv (.t 1)⟩,
      ⟨(some 14), none, .mv (.t 81)⟩] false)
    (.seq (.ops [
      ⟨(some 82), none, .mv (.t 2)⟩,
      ⟨(some 15), none, .mv (.t 82)⟩] false)
    (.seq (.blk 4 (.loop (.seq (.seq (.ops [
          ⟨(some 83), none, .mv (.t 14)⟩,
          ⟨(some 84), none, .mv (.t 15)⟩,
          ⟨(some 85), none, .bin .lss (.t 83) (.t 84)⟩] false)
        (.cond (.t 85) (.skip)
        (.exit 4)))
       (.blk 5 (.seq (.ops [
          ⟨(some 86), none, .mv (.t 14)⟩,
          ⟨(some 87), none, .mv (.t 15)⟩,
          ⟨(some 88), none, .bin .add (.t 86) (.t 87)⟩,
          ⟨(some 89), none, .cvt .u64 (.t 88)⟩,
          ⟨(some 90), none, .bin .shr (.t 89) (.c (.int .u64 1))⟩,
          ⟨(some 91), none, .cvt .i64 (.t 90)⟩,
          ⟨(some 16), none, .mv (.t 91)⟩] false)
        (.seq (.ops [
          ⟨(some 92), none, .mv (.t 4)⟩,
          ⟨(some 93), none, .mv (.t 0)⟩,
          ⟨(some 94), none, .mv (.t 2)⟩,
          ⟨(some 95), none, .iaddr sz (.t 93) (.t 94)⟩,
          ⟨(some 96), none, .load sz true (.t 95)⟩,
          ⟨(some 97), none, .mv (.t 0)⟩,
          ⟨(some 98), none, .mv (.t 16)⟩,
          ⟨(some 99), none, .iaddr sz (.t 97) (.t 98)⟩,
          ⟨(some 100), none, .load sz true (.t 99)⟩,
          ⟨(some 101), none, .callv (.t 92) [(.t 96), (.t 100)]⟩,
          ⟨(some 102), none, .bin .lss (.t 101) (.c (.int .i64 0))⟩,
          ⟨(some 103), none, .un .not (.t 102)⟩] true)
        (.cond (.t 103) (.ops [
          ⟨(some 104), none, .mv (.t 16)⟩,
          ⟨(some 105), none, .bin .add (.t 104) (.c (.int .i64 1))⟩,
          ⟨(some 14), none, .mv (.t 105)⟩] false)
        (.ops [
          ⟨(some 106), none, .mv (.t 16)⟩,
          ⟨(some 15), none, .mv (.t 106)⟩] false))))))))
    (.seq (.seq (.ops [
       ⟨(some 107), none, .mv (.t 2)⟩,
       ⟨(some 17), none, .mv (.t 107)⟩] false)
     (.blk 6 (.loop (.seq (.seq (.ops [
          ⟨(some 108), none, .mv (.t 17)⟩,
          ⟨(some 109), none, .mv (.t 14)⟩,
          ⟨(some 110), none, .bin .gtr (.t 108) (.t 109)⟩] false)
        (.cond (.t 110) (.skip)
        (.exit 6)))
       (.seq (.blk 7 (.ops [
          ⟨(some 113), none, .mv (.t 0)⟩,
          ⟨(some 114), none, .mv (.t 17)⟩,
          ⟨(some 115), none, .mv (.t 0)⟩,
          ⟨(some 116), none, .mv (.t 17)⟩,
          ⟨(some 117), none, .bin .sub (.t 116) (.c (.int .i64 1))⟩,
          ⟨(some 118), none, .mv (.t 0)⟩,
          ⟨(some 119), none, .mv (.t 17)⟩,
          ⟨(some 120), none, .bin .sub (.t 119) (.c (.int .i64 1))⟩,
          ⟨(some 121), none, .iaddr sz (.t 118) (.t 120)⟩,
          ⟨(some 122), none, .load sz true (.t 121)⟩,
          ⟨(some 123), none, .mv (.t 0)⟩,
          ⟨(some 124), none, .mv (.t 17)⟩,
          ⟨(some 125), none, .iaddr sz (.t 123) (.t 124)⟩,
          ⟨(some 126), none, .load sz true (.t 125)⟩,
          ⟨(some 127), none, .iaddr sz (.t 113) (.t 114)⟩,
          ⟨none, none, .store sz (.t 127) (.t 122)⟩,
          ⟨(some 128), none, .iaddr sz (.t 115) (.t 117)⟩,
          ⟨none, none, .store sz (.t 128) (.t 126)⟩] true))
       (.ops [
        ⟨(some 111), none, .mv (.t 17)⟩,
        ⟨(some 112), none, .bin .sub (.t 111) (.c (.int .i64 1))⟩,
        ⟨(some 17), none, .mv (.t 112)⟩] false))))))
    (.ret)))))

def irSymMerge (sz rot sym : Nat) : IFn :=
 { nt := 220, res := [], body := (
  .seq (.seq (.ops [
     ⟨(some 25), none, .mv (.t 2)⟩,
     ⟨(some 26), none, .mv (.t 1)⟩,
     ⟨(some 27), none, .bin .sub (.t 25) (.t 26)⟩,
     ⟨(some 28), none, .bin .eql (.t 27) (.c (.int .i64 1))⟩] false)
   (.cond (.t 28) (symA sz)
   (.skip)))
  (.seq (.seq (.ops [
     ⟨(some 77), none, .mv (.t 3)⟩,
     ⟨(some 78), none, .mv (.t 2)⟩,
     ⟨(some 79), none, .bin .sub (.t 77) (.t 78)⟩,
     ⟨(some 80), none, .bin .eql (.t 79) (.c (.int .i64 1))⟩] false)
   (.cond (.t 80) (symB sz)
   (.skip)))
  (.seq (.ops [
    ⟨(some 129), none, .mv (.t 1)⟩,
    ⟨(some 130), none, .mv (.t 3)⟩,
    ⟨(some 131), none, .bin .add (.t 129) (.t 130)⟩,
    ⟨(some 132), none, .cvt .u64 (.t 131)⟩,
    ⟨(some 133), none, .bin .shr (.t 132) (.c (.int .u64 1))⟩,
    ⟨(some 134), none, .cvt .i64 (.t 133)⟩,
    ⟨(some 18), none, .mv (.t 134)⟩] false)
  (.seq (.ops [
    ⟨(some 135), none, .mv (.t 18)⟩,
    ⟨(some 136), none, .mv (.t 2)⟩,
    ⟨(some 137), none, .bin .add (.t 135) (.t 136)⟩,
    ⟨(some 19), none, .mv (.t 137)⟩] false)
  (.seq (.ops [
    ⟨(some 20), none, .mv (.c (.int .i64 0))⟩,
    ⟨(some 21), none, .mv (.c (.int .i64 0))⟩] false)
  (.seq (.seq (.ops [
     ⟨(some 138), none, .mv (.t 2)⟩,
     ⟨(some 139), none, .mv (.t 18)⟩,
     ⟨(some 140), none, .bin .gtr (.t 138) (.t 139)⟩] false)
   (.cond (.t 140) (.seq (.ops [
      ⟨(some 141), none, .mv (.t 19)⟩,
      ⟨(some 142), none, .mv (.t 3)⟩,
      ⟨(some 143), none, .bin .sub (.t 141) (.t 142)⟩,
      ⟨(some 20), none, .mv (.t 143)⟩] false)
    (.ops [
     ⟨(some 144), none, .mv (.t 18)⟩,
     ⟨(some 21), none, .mv (.t 144)⟩] false))
   (.seq (.ops [
      ⟨(some 145), none, .mv (.t 1)⟩,
      ⟨(some 20), none, .mv (.t 145)⟩] false)
    (.ops [
     ⟨(some 146), none, .mv (.t 2)⟩,
     ⟨(some 21), none, .mv (.t 146)⟩] false))))
  (.seq (.ops [
    ⟨(some 147), none, .mv (.t 19)⟩,
    ⟨(some 148), none, .bin .sub (.t 147) (.c (.int .i64 1))⟩,
    ⟨(some 22), none, .mv (.t 148)⟩] false)
  (symLoop sz rot sym)))))))) }

def irInsertion (sz : Nat) : IFn :=
 { nt := 53, res := [], body := (
  .seq (.ops [
    ⟨(some 10), none, .mv (.t 1)⟩,
    ⟨(some 11), none, .bin .add (.t 10) (.c (.int .i64 1))⟩,
    ⟨(some 8), none, .mv (.t 11)⟩] false)
  (.blk 0 (.loop (.seq (.seq (.ops [
       ⟨(some 12), none, .mv (.t 8)⟩,
       ⟨(some 13), none, .mv (.t 2)⟩,
       ⟨(some 14), none, .bin .lss (.t 12) (.t 13)⟩] false)
     (.cond (.t 14) (.skip)
     (.exit 0)))
    (.seq (.blk 1 (.seq (.ops [
        ⟨(some 17), none, .mv (.t 8)⟩,
        ⟨(some 9), none, .mv (.t 17)⟩] false)
      (.blk 2 (.loop (.seq (.seq (.ops [
           ⟨(some 18), none, .mv (.t 9)⟩,
           ⟨(some 19), none, .mv (.t 1)⟩,
           ⟨(some 20), none, .bin .gtr (.t 18) (.t 19)⟩,
           ⟨(some 21), none, .mv (.t 20)⟩,
           ⟨(some 22), (some (21, true)), .mv (.t 3)⟩,
           ⟨(some 23), (some (21, true)), .mv (.t 0)⟩,
           ⟨(some 24), (some (21, true)), .mv (.t 9)⟩,
           ⟨(some 25), (some (21, true)), .iaddr sz (.t 23) (.t 24)⟩,
           ⟨(some 26), (some (21, true)), .load sz true (.t 25)⟩,
           ⟨(some 27), (some (21, true)), .mv (.t 0)⟩,
           ⟨(some 28), (some (21, true)), .mv (.t 9)⟩,
           ⟨(some 29), (some (21, true)), .bin .sub (.t 28) (.c (.int .i64 1))⟩,
           ⟨(some 30), (some (21, true)), .iaddr sz (.t 27) (.t 29)⟩,
           ⟨(some 31), (some (21, true)), .load sz true (.t 30)⟩,
           ⟨(some 32), (some (21, true)), .callv (.t 22) [(.t 26), (.t 31)]⟩,
           ⟨(some 33), (some (21, true)), .bin .lss (.t 32) (.c (.int .i64 0))⟩,
           ⟨(some 34), none, .pick (.t 21) (.t 33) (.c (.bool false))⟩] true)
         (.cond (.t 34) (.skip)
         (.exit 2)))
        (.seq (.blk 3 (.ops [
           ⟨(some 37), none, .mv (.t 0)⟩,
           ⟨(some 38), none, .mv (.t 9)⟩,
           ⟨(some 39), none, .mv (.t 0)⟩,
           ⟨(some 40), none, .mv (.t 9)⟩,
           ⟨(some 41), none, .bin .sub (.t 40) (.c (.int .i64 1))⟩,
           ⟨(some 42), none, .mv (.t 0)⟩,
           ⟨(some 43), none, .mv (.t 9)⟩,
           ⟨(some 44), none, .bin .sub (.t 43) (.c (.int .i64 1))⟩,
           ⟨(some 45), none, .iaddr sz (.t 42) (.t 44)⟩,
           ⟨(some 46), none, .load sz true (.t 45)⟩,
           ⟨(some 47), none, .mv (.t 0)⟩,
           ⟨(some 48), none, .mv (.t 9)⟩,
           ⟨(some 49), none, .iaddr sz (.t 47) (.t 48)⟩,
           ⟨(some 50), none, .load sz true (.t 49)⟩,
           ⟨(some 51), none, .iaddr sz (.t 37) (.t 38)⟩,
           ⟨none, none, .store sz (.t 51) (.t 46)⟩,
           ⟨(some 52), none, .iaddr sz (.t 39) (.t 41)⟩,
           ⟨none, none, .store sz (.t 52) (.t 50)⟩] true))
        (.ops [
         ⟨(some 35), none, .mv (.t 9)⟩,
         ⟨(some 36), none, .bin .sub (.t 35) (.c (.int .i64 1))⟩,
         ⟨(some 9), none, .mv (.t 36)⟩] false)))))))
    (.ops [
     ⟨(some 15), none, .mv (.t 8)⟩,
     ⟨(some 16), none, .bin .add (.t 15) (.c (.int .i64 1))⟩,
     ⟨(some 8), none, .mv (.t 16)⟩] false)))))) }

def irStable (ins sym : Nat) : IFn :=
 { nt := 63, res := [], body := (
  .seq (.ops [
    ⟨(some 6), none, .mv (.c (.int .i64 20))⟩] false)
  (.seq (.ops [
    ⟨(some 10), none, .mv (.t 6)⟩,
    ⟨(some 7), none, .mv (.c (.int .i64 0))⟩,
    ⟨(some 8), none, .mv (.t 10)⟩] false)
  (.seq (.blk 0 (.loop (.seq (.seq (.ops [
        ⟨(some 11), none, .mv (.t 8)⟩,
        ⟨(some 12), none, .mv (.t 1)⟩,
        ⟨(some 13), none, .bin .leq (.t 11) (.t 12)⟩] false)
      (.cond (.t 13) (.skip)
      (.exit 0)))
     (.blk 1 (.seq (.ops [
        ⟨(some 14), none, .mv (.t 0)⟩,
        ⟨(some 15), none, .mv (.t 7)⟩,
        ⟨(some 16), none, .mv (.t 8)⟩,
        ⟨(some 17), none, .mv (.t 2)⟩,
        ⟨(some 18), none, .call ins [(.t 14), (.t 15), (.t 16), (.t 17)]⟩] false)
      (.seq (.ops [
        ⟨(some 19), none, .mv (.t 8)⟩,
        ⟨(some 7), none, .mv (.t 19)⟩] false)
      (.ops [
       ⟨(some 20), none, .mv (.t 8)⟩,
       ⟨(some 21), none, .mv (.t 6)⟩,
       ⟨(some 22), none, .bin .add (.t 20) (.t 21)⟩,
       ⟨(some 8), none, .mv (.t 22)⟩] false)))))))
  (.seq (.ops [
    ⟨(some 23), none, .mv (.t 0)⟩,
    ⟨(some 24), none, .mv (.t 7)⟩,
    ⟨(some 25), none, .mv (.t 1)⟩,
    ⟨(some 26), none, .mv (.t 2)⟩,
    ⟨(some 27), none, .call ins [(.t 23), (.t 24), (.t 25), (.t 26)]⟩] false)
  (.blk 2 (.loop (.seq (.seq (.ops [
       ⟨(some 28), none, .mv (.t 6)⟩,
       ⟨(some 29), none, .mv (.t 1)⟩,
       ⟨(some 30), none, .bin .lss (.t 28) (.t 29)⟩] false)
     (.cond (.t 30) (.skip)
     (.exit 2)))
    (.blk 3 (.seq (.ops [
       ⟨(some 31), none, .mv (.t 6)⟩,
       ⟨(some 32), none, .bin .mul (.c (.int .i64 2)) (.t 31)⟩,
       ⟨(some 7), none, .mv (.c (.int .i64 0))⟩,
       ⟨(some 8), none, .mv (.t 32)⟩] false)
     (.seq (.blk 4 (.loop (.seq (.seq (.ops [
           ⟨(some 33), none, .mv (.t 8)⟩,
           ⟨(some 34), none, .mv (.t 1)⟩,
           ⟨(some 35), none, .bin .leq (.t 33) (.t 34)⟩] false)
         (.cond (.t 35) (.skip)
         (.exit 4)))
        (.blk 5 (.seq (.ops [
           ⟨(some 36), none, .mv (.t 0)⟩,
           ⟨(some 37), none, .mv (.t 7)⟩,
           ⟨(some 38), none, .mv (.t 7)⟩,
           ⟨(some 39), none, .mv (.t 6)⟩,
           ⟨(some 40), none, .bin .add (.t 38) (.t 39)⟩,
           ⟨(some 41), none, .mv (.t 8)⟩,
           ⟨(some 42), none, .mv (.t 2)⟩,
           ⟨(some 43), none, .call sym [(.t 36), (.t 37), (.t 40), (.t 41), (.t 42)]⟩] false)
         (.seq (.ops [
           ⟨(some 44), none, .mv (.t 8)⟩,
           ⟨(some 7), none, .mv (.t 44)⟩] false)
         (.ops [
          ⟨(some 45), none, .mv (.t 8)⟩,
          ⟨(some 46), none, .mv (.t 6)⟩,
          ⟨(some 47), none, .bin .mul (.c (.int .i64 2)) (.t 46)⟩,
          ⟨(some 48), none, .bin .add (.t 45) (.t 47)⟩,
          ⟨(some 8), none, .mv (.t 48)⟩] false)))))))
     (.seq (.seq (.ops [
        ⟨(some 49), none, .mv (.t 7)⟩,
        ⟨(some 50), none, .mv (.t 6)⟩,
        ⟨(some 51), none, .bin .add (.t 49) (.t 50)⟩,
        ⟨(some 9), none, .mv (.t 51)⟩] false)
      (.seq (.ops [
        ⟨(some 52), none, .mv (.t 9)⟩,
        ⟨(some 53), none, .mv (.t 1)⟩,
        ⟨(some 54), none, .bin .lss (.t 52) (.t 53)⟩] false)
      (.cond (.t 54) (.ops [
        ⟨(some 55), none, .mv (.t 0)⟩,
        ⟨(some 56), none, .mv (.t 7)⟩,
        ⟨(some 57), none, .mv (.t 9)⟩,
        ⟨(some 58), none, .mv (.t 1)⟩,
        ⟨(some 59), none, .mv (.t 2)⟩,
        ⟨(some 60), none, .call sym [(.t 55), (.t 56), (.t 57), (.t 58), (.t 59)]⟩] false)
      (.skip))))
     (.ops [
      ⟨(some 61), none, .mv (.t 6)⟩,
      ⟨(some 62), none, .bin .mul (.t 61) (.c (.int .i64 2))⟩,
      ⟨(some 6), none, .mv (.t 62)⟩] false)))))))))))) }

def irSortStable (stb : Nat) : IFn :=
 { nt := 9, res := [], body := (
  .ops [
   ⟨(some 4), none, .mv (.t 0)⟩,
   ⟨(some 5), none, .mv (.t 0)⟩,
   ⟨(some 6), none, .lenL (.t 5)⟩,
   ⟨(some 7), none, .mv (.t 1)⟩,
   ⟨(some 8), none, .call stb [(.t 4), (.t 6), (.t 7)]⟩] false) }

def irCloneM (sz bytes e : Nat) : IFn :=
 { nt := 8, res := [.t 2], body := (
  .seq (.ops [
    ⟨(some 2), none, .mv (.c (.sl true sz []))⟩] false)
  (.seq (.seq (.ops [
     ⟨(some 3), none, .mv (.t 0)⟩,
     ⟨(some 4), none, .isNilS false (.t 3)⟩] false)
   (.cond (.t 4) (.seq (.ops [
      ⟨(some 2), none, .mv (.c (.sl true sz []))⟩] false)
    (.ret))
   (.skip)))
  (.seq (.ops [
    ⟨(some 5), none, .bsliceM sz []⟩,
    ⟨(some 6), none, .mv (.t 0)⟩,
    ⟨(some 7), none, .app sz bytes e (.t 5) (.t 6)⟩,
    ⟨(some 2), none, .mv (.t 7)⟩] false)
  (.ret)))) }

def irIsNaN : IFn :=
 { nt := 6, res := [.t 2], body := (
  .seq (.ops [
    ⟨(some 2), none, .mv (.c (.bool false))⟩] false)
  (.seq (.ops [
    ⟨(some 3), none, .mv (.t 0)⟩,
    ⟨(some 4), none, .mv (.t 0)⟩,
    ⟨(some 5), none, .bin .neq (.t 3) (.t 4)⟩,
    ⟨(some 2), none, .mv (.t 5)⟩] false)
  (.ret))) }

def irCompare (nan : Nat) : IFn :=
 { nt := 20, res := [.t 4], body := (
  .seq (.ops [
    ⟨(some 4), none, .mv (.c (.int .i64 0))⟩] false)
  (.seq (.ops [
    ⟨(some 7), none, .mv (.t 0)⟩,
    ⟨(some 8), none, .call nan [(.t 7)]⟩,
    ⟨(some 5), none, .mv (.t 8)⟩] false)
  (.seq (.ops [
    ⟨(some 9), none, .mv (.t 1)⟩,
    ⟨(some 10), none, .call nan [(.t 9)]⟩,
    ⟨(some 6), none, .mv (.t 10)⟩] false)
  (.seq (.seq (.ops [
     ⟨(some 11), none, .mv (.t 5)⟩] false)
   (.cond (.t 11) (.seq (.seq (.ops [
       ⟨(some 12), none, .mv (.t 6)⟩] false)
     (.cond (.t 12) (.seq (.ops [
        ⟨(some 4), none, .mv (.c (.int .i64 0))⟩] false)
      (.ret))
     (.skip)))
    (.seq (.ops [
      ⟨(some 4), none, .mv (.c (.int .i64 (-1)))⟩] false)
    (.ret)))
   (.skip)))
  (.seq (.seq (.ops [
     ⟨(some 13), none, .mv (.t 6)⟩] false)
   (.cond (.t 13) (.seq (.ops [
      ⟨(some 4), none, .mv (.c (.int .i64 1))⟩] false)
    (.ret))
   (.skip)))
  (.seq (.seq (.ops [
     ⟨(some 14), none, .mv (.t 0)⟩,
     ⟨(some 15), none, .mv (.t 1)⟩,
     ⟨(some 16), none, .bin .lss (.t 14) (.t 15)⟩] false)
   (.cond (.t 16) (.seq (.ops [
      ⟨(some 4), none, .mv (.c (.int .i64 (-1)))⟩] false)
    (.ret))
   (.skip)))
  (.seq (.seq (.ops [
     ⟨(some 17), none, .mv (.t 0)⟩,
     ⟨(some 18), none, .mv (.t 1)⟩,
     ⟨(some 19), none, .bin .gtr (.t 17) (.t 18)⟩] false)
   (.cond (.t 19) (.seq (.ops [
      ⟨(some 4), none, .mv (.c (.int .i64 1))⟩] false)
    (.ret))
   (.skip)))
  (.seq (.ops [
    ⟨(some 4), none, .mv (.c (.int .i64 0))⟩] false)
  (.ret))))))))) }

def irOrInt : IFn :=
 { nt := 18, res := [.t 2], body := (
  .seq (.ops [
    ⟨(some 2), none, .mv (.c (.int .i64 0))⟩] false)
  (.seq (.ops [
    ⟨(some 3), none, .mv (.c (.int .i64 0))⟩] false)
  (.seq (.seq (.ops [
     ⟨(some 6), none, .mv (.t 0)⟩,
     ⟨(some 7), none, .lenL (.t 6)⟩,
     ⟨(some 8), none, .mv (.c (.int .i64 0))⟩] false)
   (.blk 0 (.loop (.seq (.ops [
       ⟨(some 9), none, .bin .lss (.t 8) (.t 7)⟩] false)
     (.seq (.cond (.t 9) (.skip)
      (.exit 0))
     (.seq (.blk 1 (.seq (.ops [
         ⟨(some 10), none, .iaddr 1 (.t 6) (.t 8)⟩,
         ⟨(some 11), none, .load 1 false (.t 10)⟩,
         ⟨(some 5), none, .mv (.t 11)⟩] false)
       (.seq (.ops [
         ⟨(some 12), none, .mv (.t 5)⟩,
         ⟨(some 13), none, .mv (.t 3)⟩,
         ⟨(some 14), none, .bin .neq (.t 12) (.t 13)⟩] false)
       (.cond (.t 14) (.seq (.ops [
          ⟨(some 15), none, .mv (.t 5)⟩,
          ⟨(some 2), none, .mv (.t 15)⟩] false)
        (.ret))
       (.skip)))))
     (.ops [
      ⟨(some 16), none, .bin .add (.t 8) (.c (.int .i64 1))⟩,
      ⟨(some 8), none, .mv (.t 16)⟩] false)))))))
  (.seq (.ops [
    ⟨(some 17), none, .mv (.t 3)⟩,
    ⟨(some 2), none, .mv (.t 17)⟩] false)
  (.ret))))) }

end Go.Zam