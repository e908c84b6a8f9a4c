import Derived.Test.YtdpaolhcoahomaaZam16
import Derived.Test.YtdpaolhcoahomaaProg
import Derived.KernelRfl
namespace Go.Proofs.Zt
open Go Go.Zam Go.Proofs
set_option maxRecDepth 100000
/- whetstone/whetstonelaw02.EditBoth -/
def ir5 : IFn :=
 { nt := 112, res := [.t 6], body := (
  .seq (.ops [
    ⟨(some 6), none, .mv (.c (.bool false))⟩] false)
  (.seq (.seq (.ops [
     ⟨(some 17), none, .mv (.t 0)⟩,
     ⟨(some 18), none, .mv (.t 1)⟩,
     ⟨(some 19), none, .call 8 [(.t 17), (.t 18)]⟩,
     ⟨(some 20), none, .un .not (.t 19)⟩,
     ⟨(some 21), none, .mv (.t 20)⟩,
     ⟨(some 22), (some (21, false)), .mv (.t 0)⟩,
     ⟨(some 23), (some (21, false)), .mv (.t 2)⟩,
     ⟨(some 24), (some (21, false)), .call 8 [(.t 22), (.t 23)]⟩,
     ⟨(some 25), (some (21, false)), .un .not (.t 24)⟩,
     ⟨(some 26), none, .pick (.t 21) (.c (.bool true)) (.t 25)⟩,
     ⟨(some 27), none, .mv (.t 26)⟩,
     ⟨(some 28), (some (27, false)), .mv (.t 1)⟩,
     ⟨(some 29), (some (27, false)), .lenL (.t 28)⟩,
     ⟨(some 30), (some (27, false)), .mv (.t 2)⟩,
     ⟨(some 31), (some (27, false)), .lenL (.t 30)⟩,
     ⟨(some 32), (some (27, false)), .bin .add (.t 29) (.t 31)⟩,
     ⟨(some 33), (some (27, false)), .bin .gtr (.t 32) (.c (.int .i64 500))⟩,
     ⟨(some 34), none, .pick (.t 27) (.c (.bool true)) (.t 33)⟩] false)
   (.cond (.t 34) (.seq (.ops [
      ⟨(some 35), none, .call 9 []⟩,
      ⟨(some 6), none, .mv (.t 35)⟩] false)
    (.ret))
   (.skip)))
  (.seq (.ops [
    ⟨(some 37), none, .mv (.t 0)⟩,
    ⟨(some 38), none, .mv (.t 1)⟩,
    ⟨(some 39), none, .call 10 [(.t 37), (.t 38)]⟩,
    ⟨(some 36), none, .mv (.t 39)⟩,
    ⟨(some 40), none, .ext (.t 36) 0⟩,
    ⟨(some 41), none, .ext (.t 36) 1⟩,
    ⟨(some 7), none, .mv (.t 40)⟩,
    ⟨(some 8), none, .mv (.t 41)⟩] false)
  (.seq (.ops [
    ⟨(some 43), none, .mv (.t 7)⟩,
    ⟨(some 44), none, .mv (.t 2)⟩,
    ⟨(some 45), none, .call 10 [(.t 43), (.t 44)]⟩,
    ⟨(some 42), none, .mv (.t 45)⟩,
    ⟨(some 46), none, .ext (.t 42) 0⟩,
    ⟨(some 47), none, .ext (.t 42) 1⟩,
    ⟨(some 9), none, .mv (.t 46)⟩,
    ⟨(some 10), none, .mv (.t 47)⟩] false)
  (.seq (.ops [
    ⟨(some 49), none, .mv (.t 1)⟩,
    ⟨(some 50), none, .mv (.t 2)⟩,
    ⟨(some 51), none, .mv (.t 0)⟩,
    ⟨(some 52), none, .lenS (.t 51)⟩,
    ⟨(some 53), none, .call 16 [(.t 49), (.t 50), (.t 52)]⟩,
    ⟨(some 48), none, .mv (.t 53)⟩,
    ⟨(some 54), none, .ext (.t 48) 0⟩,
    ⟨(some 55), none, .ext (.t 48) 1⟩,
    ⟨(some 11), none, .mv (.t 54)⟩,
    ⟨(some 12), none, .mv (.t 55)⟩] false)
  (.seq (.seq (.ops [
     ⟨(some 56), none, .mv (.t 8)⟩,
     ⟨(some 57), none, .bin .neq (.t 56) (.c (.int .i64 0))⟩] false)
   (.cond (.t 57) (.seq (.ops [
      ⟨(some 58), none, .call 9 []⟩,
      ⟨(some 59), none, .mv (.t 58)⟩,
      ⟨(some 60), (some (59, true)), .mv (.t 12)⟩,
      ⟨(some 61), (some (59, true)), .mv (.t 8)⟩,
      ⟨(some 62), (some (59, true)), .bin .eql (.t 60) (.t 61)⟩,
      ⟨(some 63), none, .pick (.t 59) (.t 62) (.c (.bool false))⟩,
      ⟨(some 64), none, .mv (.t 63)⟩,
      ⟨(some 65), (some (64, true)), .mv (.t 11)⟩,
      ⟨(some 66), (some (64, true)), .lenL (.t 65)⟩,
      ⟨(some 67), (some (64, true)), .bin .eql (.t 66) (.c (.int .i64 0))⟩,
      ⟨(some 68), none, .pick (.t 64) (.t 67) (.c (.bool false))⟩,
      ⟨(some 6), none, .mv (.t 68)⟩] false)
    (.ret))
   (.skip)))
  (.seq (.seq (.ops [
     ⟨(some 69), none, .mv (.t 10)⟩,
     ⟨(some 70), none, .bin .neq (.t 69) (.c (.int .i64 0))⟩] false)
   (.cond (.t 70) (.seq (.ops [
      ⟨(some 71), none, .call 9 []⟩,
      ⟨(some 72), none, .mv (.t 71)⟩,
      ⟨(some 73), (some (72, true)), .mv (.t 12)⟩,
      ⟨(some 74), (some (72, true)), .mv (.t 10)⟩,
      ⟨(some 75), (some (72, true)), .bin .eql (.t 73) (.t 74)⟩,
      ⟨(some 76), none, .pick (.t 72) (.t 75) (.c (.bool false))⟩,
      ⟨(some 77), none, .mv (.t 76)⟩,
      ⟨(some 78), (some (77, true)), .mv (.t 11)⟩,
      ⟨(some 79), (some (77, true)), .lenL (.t 78)⟩,
      ⟨(some 80), (some (77, true)), .bin .eql (.t 79) (.c (.int .i64 0))⟩,
      ⟨(some 81), none, .pick (.t 77) (.t 80) (.c (.bool false))⟩,
      ⟨(some 6), none, .mv (.t 81)⟩] false)
    (.ret))
   (.skip)))
  (.seq (.ops [
    ⟨(some 83), none, .mv (.t 0)⟩,
    ⟨(some 84), none, .mv (.t 11)⟩,
    ⟨(some 85), none, .call 10 [(.t 83), (.t 84)]⟩,
    ⟨(some 82), none, .mv (.t 85)⟩,
    ⟨(some 86), none, .ext (.t 82) 0⟩,
    ⟨(some 87), none, .ext (.t 82) 1⟩,
    ⟨(some 13), none, .mv (.t 86)⟩,
    ⟨(some 14), none, .mv (.t 87)⟩] false)
  (.seq (.ops [
    ⟨(some 89), none, .mv (.t 1)⟩,
    ⟨(some 90), none, .mv (.t 2)⟩,
    ⟨(some 91), none, .call 16 [(.t 89), (.t 90), (.c (.int .i64 (-1)))]⟩,
    ⟨(some 88), none, .mv (.t 91)⟩,
    ⟨(some 92), none, .ext (.t 88) 0⟩,
    ⟨(some 93), none, .ext (.t 88) 1⟩,
    ⟨(some 15), none, .mv (.t 92)⟩,
    ⟨(some 16), none, .mv (.t 93)⟩] false)
  (.seq (.ops [
    ⟨(some 94), none, .call 9 []⟩,
    ⟨(some 95), none, .mv (.t 94)⟩,
    ⟨(some 96), (some (95, true)), .mv (.t 12)⟩,
    ⟨(some 97), (some (95, true)), .bin .eql (.t 96) (.c (.int .i64 0))⟩,
    ⟨(some 98), none, .pick (.t 95) (.t 97) (.c (.bool false))⟩,
    ⟨(some 99), none, .mv (.t 98)⟩,
    ⟨(some 100), (some (99, true)), .mv (.t 14)⟩,
    ⟨(some 101), (some (99, true)), .bin .eql (.t 100) (.c (.int .i64 0))⟩,
    ⟨(some 102), none, .pick (.t 99) (.t 101) (.c (.bool false))⟩,
    ⟨(some 103), none, .mv (.t 102)⟩,
    ⟨(some 104), (some (103, true)), .mv (.t 13)⟩,
    ⟨(some 105), (some (103, true)), .mv (.t 9)⟩,
    ⟨(some 106), (some (103, true)), .bin .eql (.t 104) (.t 105)⟩,
    ⟨(some 107), none, .pick (.t 103) (.t 106) (.c (.bool false))⟩,
    ⟨(some 108), none, .mv (.t 107)⟩,
    ⟨(some 109), (some (108, true)), .mv (.t 16)⟩,
    ⟨(some 110), (some (108, true)), .bin .eql (.t 109) (.c (.int .i64 1))⟩,
    ⟨(some 111), none, .pick (.t 108) (.t 110) (.c (.bool false))⟩,
    ⟨(some 6), none, .mv (.t 111)⟩] false)
  (.ret))))))))))) }
theorem cf5 : compF Try.prog [] Try.f5 = some ir5 := by kernel_rfl
/- whetstone/whetstonelaw02.EditThree -/
def ir6 : IFn :=
 { nt := 161, res := [.t 8], body := (
  .seq (.ops [
    ⟨(some 8), none, .mv (.c (.bool false))⟩] false)
  (.seq (.seq (.ops [
     ⟨(some 27), none, .mv (.t 0)⟩,
     ⟨(some 28), none, .mv (.t 1)⟩,
     ⟨(some 29), none, .call 8 [(.t 27), (.t 28)]⟩,
     ⟨(some 30), none, .un .not (.t 29)⟩,
     ⟨(some 31), none, .mv (.t 30)⟩,
     ⟨(some 32), (some (31, false)), .mv (.t 0)⟩,
     ⟨(some 33), (some (31, false)), .mv (.t 2)⟩,
     ⟨(some 34), (some (31, false)), .call 8 [(.t 32), (.t 33)]⟩,
     ⟨(some 35), (some (31, false)), .un .not (.t 34)⟩,
     ⟨(some 36), none, .pick (.t 31) (.c (.bool true)) (.t 35)⟩,
     ⟨(some 37), none, .mv (.t 36)⟩,
     ⟨(some 38), (some (37, false)), .mv (.t 0)⟩,
     ⟨(some 39), (some (37, false)), .mv (.t 3)⟩,
     ⟨(some 40), (some (37, false)), .call 8 [(.t 38), (.t 39)]⟩,
     ⟨(some 41), (some (37, false)), .un .not (.t 40)⟩,
     ⟨(some 42), none, .pick (.t 37) (.c (.bool true)) (.t 41)⟩,
     ⟨(some 43), none, .mv (.t 42)⟩,
     ⟨(some 44), (some (43, false)), .mv (.t 1)⟩,
     ⟨(some 45), (some (43, false)), .lenL (.t 44)⟩,
     ⟨(some 46), (some (43, false)), .mv (.t 2)⟩,
     ⟨(some 47), (some (43, false)), .lenL (.t 46)⟩,
     ⟨(some 48), (some (43, false)), .bin .add (.t 45) (.t 47)⟩,
     ⟨(some 49), (some (43, false)), .mv (.t 3)⟩,
     ⟨(some 50), (some (43, false)), .lenL (.t 49)⟩,
     ⟨(some 51), (some (43, false)), .bin .add (.t 48) (.t 50)⟩,
     ⟨(some 52), (some (43, false)), .bin .gtr (.t 51) (.c (.int .i64 300))⟩,
     ⟨(some 53), none, .pick (.t 43) (.c (.bool true)) (.t 52)⟩] false)
   (.cond (.t 53) (.seq (.ops [
      ⟨(some 54), none, .call 9 []⟩,
      ⟨(some 8), none, .mv (.t 54)⟩] false)
    (.ret))
   (.skip)))
  (.seq (.ops [
    ⟨(some 56), none, .mv (.t 0)⟩,
    ⟨(some 57), none, .mv (.t 1)⟩,
    ⟨(some 58), none, .call 10 [(.t 56), (.t 57)]⟩,
    ⟨(some 55), none, .mv (.t 58)⟩,
    ⟨(some 59), none, .ext (.t 55) 0⟩,
    ⟨(some 60), none, .ext (.t 55) 1⟩,
    ⟨(some 9), none, .mv (.t 59)⟩,
    ⟨(some 10), none, .mv (.t 60)⟩] false)
  (.seq (.ops [
    ⟨(some 62), none, .mv (.t 9)⟩,
    ⟨(some 63), none, .mv (.t 2)⟩,
    ⟨(some 64), none, .call 10 [(.t 62), (.t 63)]⟩,
    ⟨(some 61), none, .mv (.t 64)⟩,
    ⟨(some 65), none, .ext (.t 61) 0⟩,
    ⟨(some 66), none, .ext (.t 61) 1⟩,
    ⟨(some 11), none, .mv (.t 65)⟩,
    ⟨(some 12), none, .mv (.t 66)⟩] false)
  (.seq (.ops [
    ⟨(some 68), none, .mv (.t 11)⟩,
    ⟨(some 69), none, .mv (.t 3)⟩,
    ⟨(some 70), none, .call 10 [(.t 68), (.t 69)]⟩,
    ⟨(some 67), none, .mv (.t 70)⟩,
    ⟨(some 71), none, .ext (.t 67) 0⟩,
    ⟨(some 72), none, .ext (.t 67) 1⟩,
    ⟨(some 13), none, .mv (.t 71)⟩,
    ⟨(some 14), none, .mv (.t 72)⟩] false)
  (.seq (.seq (.ops [
     ⟨(some 73), none, .mv (.t 10)⟩,
     ⟨(some 74), none, .bin .neq (.t 73) (.c (.int .i64 0))⟩,
     ⟨(some 75), none, .mv (.t 74)⟩,
     ⟨(some 76), (some (75, false)), .mv (.t 12)⟩,
     ⟨(some 77), (some (75, false)), .bin .neq (.t 76) (.c (.int .i64 0))⟩,
     ⟨(some 78), none, .pick (.t 75) (.c (.bool true)) (.t 77)⟩,
     ⟨(some 79), none, .mv (.t 78)⟩,
     ⟨(some 80), (some (79, false)), .mv (.t 14)⟩,
     ⟨(some 81), (some (79, false)), .bin .neq (.t 80) (.c (.int .i64 0))⟩,
     ⟨(some 82), none, .pick (.t 79) (.c (.bool true)) (.t 81)⟩] false)
   (.cond (.t 82) (.seq (.ops [
      ⟨(some 83), none, .call 9 []⟩,
      ⟨(some 8), none, .mv (.t 83)⟩] false)
    (.ret))
   (.skip)))
  (.seq (.ops [
    ⟨(some 85), none, .mv (.t 1)⟩,
    ⟨(some 86), none, .mv (.t 2)⟩,
    ⟨(some 87), none, .mv (.t 0)⟩,
    ⟨(some 88), none, .lenS (.t 87)⟩,
    ⟨(some 89), none, .call 16 [(.t 85), (.t 86), (.t 88)]⟩,
    ⟨(some 84), none, .mv (.t 89)⟩,
    ⟨(some 90), none, .ext (.t 84) 0⟩,
    ⟨(some 91), none, .ext (.t 84) 1⟩,
    ⟨(some 15), none, .mv (.t 90)⟩,
    ⟨(some 16), none, .mv (.t 91)⟩] false)
  (.seq (.ops [
    ⟨(some 93), none, .mv (.t 2)⟩,
    ⟨(some 94), none, .mv (.t 3)⟩,
    ⟨(some 95), none, .mv (.t 9)⟩,
    ⟨(some 96), none, .lenS (.t 95)⟩,
    ⟨(some 97), none, .call 16 [(.t 93), (.t 94), (.t 96)]⟩,
    ⟨(some 92), none, .mv (.t 97)⟩,
    ⟨(some 98), none, .ext (.t 92) 0⟩,
    ⟨(some 99), none, .ext (.t 92) 1⟩,
    ⟨(some 17), none, .mv (.t 98)⟩,
    ⟨(some 18), none, .mv (.t 99)⟩] false)
  (.seq (.ops [
    ⟨(some 101), none, .mv (.t 15)⟩,
    ⟨(some 102), none, .mv (.t 3)⟩,
    ⟨(some 103), none, .mv (.t 0)⟩,
    ⟨(some 104), none, .lenS (.t 103)⟩,
    ⟨(some 105), none, .call 16 [(.t 101), (.t 102), (.t 104)]⟩,
    ⟨(some 100), none, .mv (.t 105)⟩,
    ⟨(some 106), none, .ext (.t 100) 0⟩,
    ⟨(some 107), none, .ext (.t 100) 1⟩,
    ⟨(some 19), none, .mv (.t 106)⟩,
    ⟨(some 20), none, .mv (.t 107)⟩] false)
  (.seq (.ops [
    ⟨(some 109), none, .mv (.t 1)⟩,
    ⟨(some 110), none, .mv (.t 17)⟩,
    ⟨(some 111), none, .mv (.t 0)⟩,
    ⟨(some 112), none, .lenS (.t 111)⟩,
    ⟨(some 113), none, .call 16 [(.t 109), (.t 110), (.t 112)]⟩,
    ⟨(some 108), none, .mv (.t 113)⟩,
    ⟨(some 114), none, .ext (.t 108) 0⟩,
    ⟨(some 115), none, .ext (.t 108) 1⟩,
    ⟨(some 21), none, .mv (.t 114)⟩,
    ⟨(some 22), none, .mv (.t 115)⟩] false)
  (.seq (.seq (.ops [
     ⟨(some 116), none, .mv (.t 16)⟩,
     ⟨(some 117), none, .bin .neq (.t 116) (.c (.int .i64 0))⟩,
     ⟨(some 118), none, .mv (.t 117)⟩,
     ⟨(some 119), (some (118, false)), .mv (.t 18)⟩,
     ⟨(some 120), (some (118, false)), .bin .neq (.t 119) (.c (.int .i64 0))⟩,
     ⟨(some 121), none, .pick (.t 118) (.c (.bool true)) (.t 120)⟩,
     ⟨(some 122), none, .mv (.t 121)⟩,
     ⟨(some 123), (some (122, false)), .mv (.t 20)⟩,
     ⟨(some 124), (some (122, false)), .bin .neq (.t 123) (.c (.int .i64 0))⟩,
     ⟨(some 125), none, .pick (.t 122) (.c (.bool true)) (.t 124)⟩,
     ⟨(some 126), none, .mv (.t 125)⟩,
     ⟨(some 127), (some (126, false)), .mv (.t 22)⟩,
     ⟨(some 128), (some (126, false)), .bin .neq (.t 127) (.c (.int .i64 0))⟩,
     ⟨(some 129), none, .pick (.t 126) (.c (.bool true)) (.t 128)⟩] false)
   (.cond (.t 129) (.seq (.ops [
      ⟨(some 8), none, .mv (.c (.bool false))⟩] false)
    (.ret))
   (.skip)))
  (.seq (.ops [
    ⟨(some 131), none, .mv (.t 0)⟩,
    ⟨(some 132), none, .mv (.t 19)⟩,
    ⟨(some 133), none, .call 10 [(.t 131), (.t 132)]⟩,
    ⟨(some 130), none, .mv (.t 133)⟩,
    ⟨(some 134), none, .ext (.t 130) 0⟩,
    ⟨(some 135), none, .ext (.t 130) 1⟩,
    ⟨(some 23), none, .mv (.t 134)⟩,
    ⟨(some 24), none, .mv (.t 135)⟩] false)
  (.seq (.ops [
    ⟨(some 137), none, .mv (.t 0)⟩,
    ⟨(some 138), none, .mv (.t 21)⟩,
    ⟨(some 139), none, .call 10 [(.t 137), (.t 138)]⟩,
    ⟨(some 136), none, .mv (.t 139)⟩,
    ⟨(some 140), none, .ext (.t 136) 0⟩,
    ⟨(some 141), none, .ext (.t 136) 1⟩,
    ⟨(some 25), none, .mv (.t 140)⟩,
    ⟨(some 26), none, .mv (.t 141)⟩] false)
  (.seq (.ops [
    ⟨(some 142), none, .call 9 []⟩,
    ⟨(some 143), none, .mv (.t 142)⟩,
    ⟨(some 144), (some (143, true)), .mv (.t 24)⟩,
    ⟨(some 145), (some (143, true)), .bin .eql (.t 144) (.c (.int .i64 0))⟩,
    ⟨(some 146), none, .pick (.t 143) (.t 145) (.c (.bool false))⟩,
    ⟨(some 147), none, .mv (.t 146)⟩,
    ⟨(some 148), (some (147, true)), .mv (.t 26)⟩,
    ⟨(some 149), (some (147, true)), .bin .eql (.t 148) (.c (.int .i64 0))⟩,
    ⟨(some 150), none, .pick (.t 147) (.t 149) (.c (.bool false))⟩,
    ⟨(some 151), none, .mv (.t 150)⟩,
    ⟨(some 152), (some (151, true)), .mv (.t 23)⟩,
    ⟨(some 153), (some (151, true)), .mv (.t 13)⟩,
    ⟨(some 154), (some (151, true)), .bin .eql (.t 152) (.t 153)⟩,
    ⟨(some 155), none, .pick (.t 151) (.t 154) (.c (.bool false))⟩,
    ⟨(some 156), none, .mv (.t 155)⟩,
    ⟨(some 157), (some (156, true)), .mv (.t 25)⟩,
    ⟨(some 158), (some (156, true)), .mv (.t 13)⟩,
    ⟨(some 159), (some (156, true)), .bin .eql (.t 157) (.t 158)⟩,
    ⟨(some 160), none, .pick (.t 156) (.t 159) (.c (.bool false))⟩,
    ⟨(some 8), none, .mv (.t 160)⟩] false)
  (.ret))))))))))))))) }
theorem cf6 : compF Try.prog [] Try.f6 = some ir6 := by kernel_rfl
/- whetstone/edit.Compose -/
def ir16 : IFn :=
 { nt := 62, res := [.t 6, .t 7], body := (
  .seq (.ops [
    ⟨(some 6), none, .mv (.c (.sl true 3 []))⟩,
    ⟨(some 7), none, .mv (.c (.int .i64 0))⟩] false)
  (.seq (.seq (.ops [
     ⟨(some 15), none, .mv (.t 2)⟩,
     ⟨(some 16), none, .bin .lss (.t 15) (.c (.int .i64 0))⟩] false)
   (.cond (.t 16) (.seq (.ops [
      ⟨(some 6), none, .mv (.c (.sl true 3 []))⟩,
      ⟨(some 7), none, .mv (.c (.int .i64 1))⟩] false)
    (.ret))
   (.skip)))
  (.seq (.seq (.ops [
     ⟨(some 17), none, .mv (.t 0)⟩,
     ⟨(some 18), none, .mv (.t 2)⟩,
     ⟨(some 19), none, .call 12 [(.t 17), (.t 18)]⟩,
     ⟨(some 8), none, .mv (.t 19)⟩] false)
   (.seq (.ops [
     ⟨(some 20), none, .mv (.t 8)⟩,
     ⟨(some 21), none, .bin .neq (.t 20) (.c (.int .i64 0))⟩] false)
   (.cond (.t 21) (.seq (.ops [
      ⟨(some 22), none, .mv (.t 8)⟩,
      ⟨(some 6), none, .mv (.c (.sl true 3 []))⟩,
      ⟨(some 7), none, .mv (.t 22)⟩] false)
    (.ret))
   (.skip))))
  (.seq (.ops [
    ⟨(some 23), none, .mv (.t 2)⟩,
    ⟨(some 24), none, .mv (.t 0)⟩,
    ⟨(some 25), none, .call 15 [(.t 24)]⟩,
    ⟨(some 26), none, .bin .add (.t 23) (.t 25)⟩,
    ⟨(some 9), none, .mv (.t 26)⟩] false)
  (.seq (.seq (.ops [
     ⟨(some 27), none, .mv (.t 1)⟩,
     ⟨(some 28), none, .mv (.t 9)⟩,
     ⟨(some 29), none, .call 12 [(.t 27), (.t 28)]⟩,
     ⟨(some 10), none, .mv (.t 29)⟩] false)
   (.seq (.ops [
     ⟨(some 30), none, .mv (.t 10)⟩,
     ⟨(some 31), none, .bin .neq (.t 30) (.c (.int .i64 0))⟩] false)
   (.cond (.t 31) (.seq (.ops [
      ⟨(some 32), none, .mv (.t 10)⟩,
      ⟨(some 6), none, .mv (.c (.sl true 3 []))⟩,
      ⟨(some 7), none, .mv (.t 32)⟩] false)
    (.ret))
   (.skip))))
  (.seq (.ops [
    ⟨(some 33), none, .mv (.t 0)⟩,
    ⟨(some 34), none, .mv (.t 2)⟩,
    ⟨(some 35), none, .call 20 [(.t 33), (.t 34)]⟩,
    ⟨(some 11), none, .mv (.t 35)⟩] false)
  (.seq (.ops [
    ⟨(some 12), none, .nilT 4 55⟩] false)
  (.seq (.seq (.ops [
     ⟨(some 36), none, .mv (.t 1)⟩,
     ⟨(some 37), none, .mv (.t 9)⟩,
     ⟨(some 38), none, .call 20 [(.t 36), (.t 37)]⟩,
     ⟨(some 39), none, .lenL (.t 38)⟩,
     ⟨(some 40), none, .mv (.c (.int .i64 0))⟩] false)
   (.blk 0 (.loop (.seq (.ops [
       ⟨(some 41), none, .bin .lss (.t 40) (.t 39)⟩] false)
     (.seq (.cond (.t 41) (.skip)
      (.exit 0))
     (.seq (.blk 1 (.seq (.ops [
         ⟨(some 42), none, .iaddr 4 (.t 38) (.t 40)⟩,
         ⟨(some 43), none, .load 4 true (.t 42)⟩,
         ⟨(some 14), none, .alloc 55 [(.int .i64 0), (.int .i64 0), (.str []), (.bool false)]⟩,
         ⟨none, none, .store 4 (.t 14) (.t 43)⟩] false)
       (.seq (.seq (.ops [
          ⟨(some 44), none, .faddr 3 (.t 14)⟩,
          ⟨(some 45), none, .load 1 false (.t 44)⟩] false)
        (.cond (.t 45) (.seq (.ops [
           ⟨(some 46), none, .mv (.t 12)⟩,
           ⟨(some 47), none, .load 4 true (.t 14)⟩,
           ⟨(some 48), none, .bslice 4 [(.t 47)]⟩,
           ⟨(some 49), none, .app 4 40 55 (.t 46) (.t 48)⟩,
           ⟨(some 12), none, .mv (.t 49)⟩] false)
         (.exit 1))
        (.skip)))
       (.ops [
        ⟨(some 50), none, .mv (.t 12)⟩,
        ⟨(some 51), none, .mv (.t 11)⟩,
        ⟨(some 52), none, .faddr 0 (.t 14)⟩,
        ⟨(some 53), none, .load 1 false (.t 52)⟩,
        ⟨(some 54), none, .faddr 1 (.t 14)⟩,
        ⟨(some 55), none, .load 1 false (.t 54)⟩,
        ⟨(some 56), none, .call 21 [(.t 51), (.t 53), (.t 55)]⟩,
        ⟨(some 57), none, .app 4 40 55 (.t 50) (.t 56)⟩,
        ⟨(some 12), none, .mv (.t 57)⟩] false))))
     (.ops [
      ⟨(some 58), none, .bin .add (.t 40) (.c (.int .i64 1))⟩,
      ⟨(some 40), none, .mv (.t 58)⟩] false)))))))
  (.seq (.ops [
    ⟨(some 59), none, .mv (.t 12)⟩,
    ⟨(some 60), none, .mv (.t 2)⟩,
    ⟨(some 61), none, .call 22 [(.t 59), (.t 60)]⟩,
    ⟨(some 6), none, .mv (.t 61)⟩,
    ⟨(some 7), none, .mv (.c (.int .i64 0))⟩] false)
  (.ret)))))))))) }
theorem cf16 : compF Try.prog [12] Try.f16 = some ir16 := by kernel_rfl
/- whetstone/edit.pieces -/
def ir20 : IFn :=
 { nt := 34, res := [.t 4], body := (
  .seq (.ops [
    ⟨(some 4), none, .nilT 4 55⟩] false)
  (.seq (.ops [
    ⟨(some 5), none, .nilT 4 55⟩] false)
  (.seq (.ops [
    ⟨(some 6), none, .mv (.c (.int .i64 0))⟩] false)
  (.seq (.seq (.ops [
     ⟨(some 9), none, .mv (.t 0)⟩,
     ⟨(some 10), none, .lenL (.t 9)⟩,
     ⟨(some 11), none, .mv (.c (.int .i64 0))⟩] false)
   (.blk 0 (.loop (.seq (.ops [
       ⟨(some 12), none, .bin .lss (.t 11) (.t 10)⟩] false)
     (.seq (.cond (.t 12) (.skip)
      (.exit 0))
     (.seq (.blk 1 (.seq (.ops [
         ⟨(some 13), none, .iaddr 3 (.t 9) (.t 11)⟩,
         ⟨(some 14), none, .load 3 true (.t 13)⟩,
         ⟨(some 8), none, .alloc 41 [(.int .i64 0), (.int .i64 0), (.str [])]⟩,
         ⟨none, none, .store 3 (.t 8) (.t 14)⟩] false)
       (.seq (.ops [
         ⟨(some 15), none, .mv (.t 5)⟩,
         ⟨(some 16), none, .mv (.t 6)⟩,
         ⟨(some 17), none, .faddr 0 (.t 8)⟩,
         ⟨(some 18), none, .load 1 false (.t 17)⟩,
         ⟨(some 19), none, .build [(.int .i64 0), (.int .i64 0), (.str []), (.bool false)] [(0, 1, (.t 16)), (1, 1, (.t 18))]⟩,
         ⟨(some 20), none, .faddr 2 (.t 8)⟩,
         ⟨(some 21), none, .load 1 false (.t 20)⟩,
         ⟨(some 22), none, .build [(.int .i64 0), (.int .i64 0), (.str []), (.bool false)] [(2, 1, (.t 21)), (3, 1, (.c (.bool true)))]⟩,
         ⟨(some 23), none, .bslice 4 [(.t 19), (.t 22)]⟩,
         ⟨(some 24), none, .app 4 40 55 (.t 15) (.t 23)⟩,
         ⟨(some 5), none, .mv (.t 24)⟩] false)
       (.ops [
        ⟨(some 25), none, .faddr 1 (.t 8)⟩,
        ⟨(some 26), none, .load 1 false (.t 25)⟩,
        ⟨(some 6), none, .mv (.t 26)⟩] false))))
     (.ops [
      ⟨(some 27), none, .bin .add (.t 11) (.c (.int .i64 1))⟩,
      ⟨(some 11), none, .mv (.t 27)⟩] false)))))))
  (.seq (.ops [
    ⟨(some 28), none, .mv (.t 5)⟩,
    ⟨(some 29), none, .mv (.t 6)⟩,
    ⟨(some 30), none, .mv (.t 1)⟩,
    ⟨(some 31), none, .build [(.int .i64 0), (.int .i64 0), (.str []), (.bool false)] [(0, 1, (.t 29)), (1, 1, (.t 30))]⟩,
    ⟨(some 32), none, .bslice 4 [(.t 31)]⟩,
    ⟨(some 33), none, .app 4 40 55 (.t 28) (.t 32)⟩,
    ⟨(some 4), none, .mv (.t 33)⟩] false)
  (.ret)))))) }
theorem cf20 : compF Try.prog [5, 4] Try.f20 = some ir20 := by kernel_rfl
/- whetstone/edit.part -/
def ir21 : IFn :=
 { nt := 45, res := [.t 6], body := (
  .seq (.ops [
    ⟨(some 6), none, .mv (.c (.sl true 4 []))⟩] false)
  (.seq (.ops [
    ⟨(some 7), none, .nilT 4 55⟩] false)
  (.seq (.ops [
    ⟨(some 8), none, .mv (.c (.int .i64 0))⟩] false)
  (.seq (.seq (.ops [
     ⟨(some 13), none, .mv (.t 0)⟩,
     ⟨(some 14), none, .lenL (.t 13)⟩,
     ⟨(some 15), none, .mv (.c (.int .i64 0))⟩] false)
   (.blk 0 (.loop (.seq (.ops [
       ⟨(some 16), none, .bin .lss (.t 15) (.t 14)⟩] false)
     (.seq (.cond (.t 16) (.skip)
      (.exit 0))
     (.seq (.blk 1 (.seq (.ops [
         ⟨(some 17), none, .iaddr 4 (.t 13) (.t 15)⟩,
         ⟨(some 18), none, .load 4 true (.t 17)⟩,
         ⟨(some 10), none, .alloc 55 [(.int .i64 0), (.int .i64 0), (.str []), (.bool false)]⟩,
         ⟨none, none, .store 4 (.t 10) (.t 18)⟩] false)
       (.seq (.ops [
         ⟨(some 19), none, .mv (.t 1)⟩,
         ⟨(some 20), none, .mv (.t 8)⟩,
         ⟨(some 21), none, .bin .sub (.t 19) (.t 20)⟩,
         ⟨(some 22), none, .mm true (.t 21) (.c (.int .i64 0))⟩,
         ⟨(some 23), none, .mv (.t 2)⟩,
         ⟨(some 24), none, .mv (.t 8)⟩,
         ⟨(some 25), none, .bin .sub (.t 23) (.t 24)⟩,
         ⟨(some 26), none, .load 4 true (.t 10)⟩,
         ⟨(some 27), none, .call 29 [(.t 26)]⟩,
         ⟨(some 28), none, .mm false (.t 25) (.t 27)⟩,
         ⟨(some 11), none, .mv (.t 22)⟩,
         ⟨(some 12), none, .mv (.t 28)⟩] false)
       (.seq (.seq (.ops [
          ⟨(some 29), none, .mv (.t 11)⟩,
          ⟨(some 30), none, .mv (.t 12)⟩,
          ⟨(some 31), none, .bin .lss (.t 29) (.t 30)⟩] false)
        (.cond (.t 31) (.ops [
          ⟨(some 32), none, .mv (.t 7)⟩,
          ⟨(some 33), none, .load 4 true (.t 10)⟩,
          ⟨(some 34), none, .mv (.t 11)⟩,
          ⟨(some 35), none, .mv (.t 12)⟩,
          ⟨(some 36), none, .call 30 [(.t 33), (.t 34), (.t 35)]⟩,
          ⟨(some 37), none, .bslice 4 [(.t 36)]⟩,
          ⟨(some 38), none, .app 4 40 55 (.t 32) (.t 37)⟩,
          ⟨(some 7), none, .mv (.t 38)⟩] false)
        (.skip)))
       (.ops [
        ⟨(some 39), none, .mv (.t 8)⟩,
        ⟨(some 40), none, .load 4 true (.t 10)⟩,
        ⟨(some 41), none, .call 29 [(.t 40)]⟩,
        ⟨(some 42), none, .bin .add (.t 39) (.t 41)⟩,
        ⟨(some 8), none, .mv (.t 42)⟩] false)))))
     (.ops [
      ⟨(some 43), none, .bin .add (.t 15) (.c (.int .i64 1))⟩,
      ⟨(some 15), none, .mv (.t 43)⟩] false)))))))
  (.seq (.ops [
    ⟨(some 44), none, .mv (.t 7)⟩,
    ⟨(some 6), none, .mv (.t 44)⟩] false)
  (.ret)))))) }
theorem cf21 : compF Try.prog [7] Try.f21 = some ir21 := by kernel_rfl
/- whetstone/edit.edits -/
def ir22 : IFn :=
 { nt := 42, res := [.t 4], body := (
  .seq (.ops [
    ⟨(some 4), none, .mv (.c (.sl true 3 []))⟩] false)
  (.seq (.ops [
    ⟨(some 5), none, .allocT 22 [(.sl true 3 [])] 0 3 41⟩] false)
  (.seq (.ops [
    ⟨(some 6), none, .alloc 3 [(.int .i64 0)]⟩,
    ⟨(some 7), none, .alloc 9 [(.str [])]⟩,
    ⟨none, none, .store 1 (.t 6) (.c (.int .i64 0))⟩,
    ⟨none, none, .store 1 (.t 7) (.c (.str []))⟩] false)
  (.seq (.ops [
    ⟨(some 11), none, .mkfn (.func 31) [] [(.t 6), (.t 7), (.t 5)]⟩,
    ⟨(some 8), none, .mv (.t 11)⟩] false)
  (.seq (.seq (.ops [
     ⟨(some 12), none, .mv (.t 0)⟩,
     ⟨(some 13), none, .lenL (.t 12)⟩,
     ⟨(some 14), none, .mv (.c (.int .i64 0))⟩] false)
   (.blk 0 (.loop (.seq (.ops [
       ⟨(some 15), none, .bin .lss (.t 14) (.t 13)⟩] false)
     (.seq (.cond (.t 15) (.skip)
      (.exit 0))
     (.seq (.blk 1 (.seq (.ops [
         ⟨(some 16), none, .iaddr 4 (.t 12) (.t 14)⟩,
         ⟨(some 17), none, .load 4 true (.t 16)⟩,
         ⟨(some 10), none, .alloc 55 [(.int .i64 0), (.int .i64 0), (.str []), (.bool false)]⟩,
         ⟨none, none, .store 4 (.t 10) (.t 17)⟩] false)
       (.blk 2 (.seq (.ops [
          ⟨(some 19), none, .faddr 3 (.t 10)⟩,
          ⟨(some 20), none, .load 1 false (.t 19)⟩,
          ⟨(some 18), none, .mv (.t 20)⟩] false)
        (.cond (.t 18) (.ops [
          ⟨(some 21), none, .load 1 false (.t 7)⟩,
          ⟨(some 22), none, .faddr 2 (.t 10)⟩,
          ⟨(some 23), none, .load 1 false (.t 22)⟩,
          ⟨(some 24), none, .bin .add (.t 21) (.t 23)⟩,
          ⟨none, none, .store 1 (.t 7) (.t 24)⟩] false)
        (.seq (.ops [
           ⟨(some 26), none, .faddr 0 (.t 10)⟩,
           ⟨(some 27), none, .load 1 false (.t 26)⟩,
           ⟨(some 28), none, .faddr 1 (.t 10)⟩,
           ⟨(some 29), none, .load 1 false (.t 28)⟩,
           ⟨(some 30), none, .bin .lss (.t 27) (.t 29)⟩,
           ⟨(some 25), none, .mv (.t 30)⟩] false)
         (.cond (.t 25) (.seq (.ops [
            ⟨(some 31), none, .mv (.t 8)⟩,
            ⟨(some 32), none, .faddr 0 (.t 10)⟩,
            ⟨(some 33), none, .load 1 false (.t 32)⟩,
            ⟨(some 34), none, .callv (.t 31) [(.t 33)]⟩] false)
          (.ops [
           ⟨(some 35), none, .faddr 1 (.t 10)⟩,
           ⟨(some 36), none, .load 1 false (.t 35)⟩,
           ⟨none, none, .store 1 (.t 6) (.t 36)⟩] false))
         (.skip))))))))
     (.ops [
      ⟨(some 37), none, .bin .add (.t 14) (.c (.int .i64 1))⟩,
      ⟨(some 14), none, .mv (.t 37)⟩] false)))))))
  (.seq (.ops [
    ⟨(some 38), none, .mv (.t 8)⟩,
    ⟨(some 39), none, .mv (.t 1)⟩,
    ⟨(some 40), none, .callv (.t 38) [(.t 39)]⟩] false)
  (.seq (.ops [
    ⟨(some 41), none, .load 1 false (.t 5)⟩,
    ⟨(some 4), none, .mv (.t 41)⟩] false)
  (.ret)))))))) }
theorem cf22 : compF Try.prog [5] Try.f22 = some ir22 := by kernel_rfl
/- (whetstone/edit.piece).long -/
def ir29 : IFn :=
 { nt := 13, res := [.t 2], body := (
  .seq (.ops [
    ⟨(some 1), none, .box 55 4 (.t 0)⟩,
    ⟨(some 2), none, .mv (.c (.int .i64 0))⟩] false)
  (.seq (.seq (.ops [
     ⟨(some 3), none, .faddr 3 (.t 1)⟩,
     ⟨(some 4), none, .load 1 false (.t 3)⟩] false)
   (.cond (.t 4) (.seq (.ops [
      ⟨(some 5), none, .faddr 2 (.t 1)⟩,
      ⟨(some 6), none, .load 1 false (.t 5)⟩,
      ⟨(some 7), none, .lenS (.t 6)⟩,
      ⟨(some 2), none, .mv (.t 7)⟩] false)
    (.ret))
   (.skip)))
  (.seq (.ops [
    ⟨(some 8), none, .faddr 1 (.t 1)⟩,
    ⟨(some 9), none, .load 1 false (.t 8)⟩,
    ⟨(some 10), none, .faddr 0 (.t 1)⟩,
    ⟨(some 11), none, .load 1 false (.t 10)⟩,
    ⟨(some 12), none, .bin .sub (.t 9) (.t 11)⟩,
    ⟨(some 2), none, .mv (.t 12)⟩] false)
  (.ret)))) }
theorem cf29 : compF Try.prog [] Try.f29 = some ir29 := by kernel_rfl
/- (whetstone/edit.piece).cut -/
def ir30 : IFn :=
 { nt := 24, res := [.cell 6 4 true], body := (
  .seq (.ops [
    ⟨(some 3), none, .box 55 4 (.t 0)⟩,
    ⟨(some 6), none, .alloc 55 [(.int .i64 0), (.int .i64 0), (.str []), (.bool false)]⟩] false)
  (.seq (.seq (.ops [
     ⟨(some 7), none, .faddr 3 (.t 3)⟩,
     ⟨(some 8), none, .load 1 false (.t 7)⟩] false)
   (.cond (.t 8) (.seq (.ops [
      ⟨(some 9), none, .faddr 2 (.t 3)⟩,
      ⟨(some 10), none, .load 1 false (.t 9)⟩,
      ⟨(some 11), none, .mv (.t 1)⟩,
      ⟨(some 12), none, .mv (.t 2)⟩,
      ⟨(some 13), none, .sslice (.t 10) (some (.t 11)) (some (.t 12))⟩,
      ⟨(some 14), none, .build [(.int .i64 0), (.int .i64 0), (.str []), (.bool false)] [(2, 1, (.t 13)), (3, 1, (.c (.bool true)))]⟩,
      ⟨none, none, .store 4 (.t 6) (.t 14)⟩] false)
    (.ret))
   (.skip)))
  (.seq (.ops [
    ⟨(some 15), none, .faddr 0 (.t 3)⟩,
    ⟨(some 16), none, .load 1 false (.t 15)⟩,
    ⟨(some 17), none, .mv (.t 1)⟩,
    ⟨(some 18), none, .bin .add (.t 16) (.t 17)⟩,
    ⟨(some 19), none, .faddr 0 (.t 3)⟩,
    ⟨(some 20), none, .load 1 false (.t 19)⟩,
    ⟨(some 21), none, .mv (.t 2)⟩,
    ⟨(some 22), none, .bin .add (.t 20) (.t 21)⟩,
    ⟨(some 23), none, .build [(.int .i64 0), (.int .i64 0), (.str []), (.bool false)] [(0, 1, (.t 18)), (1, 1, (.t 22))]⟩,
    ⟨none, none, .store 4 (.t 6) (.t 23)⟩] false)
  (.ret)))) }
theorem cf30 : compF Try.prog [] Try.f30 = some ir30 := by kernel_rfl
/- whetstone/edit.edits$1 -/
def ir31 : IFn :=
 { nt := 19, res := [], body := (
  .seq (.seq (.ops [
     ⟨(some 5), none, .mv (.t 0)⟩,
     ⟨(some 6), none, .load 1 false (.t 1)⟩,
     ⟨(some 7), none, .bin .gtr (.t 5) (.t 6)⟩,
     ⟨(some 8), none, .mv (.t 7)⟩,
     ⟨(some 9), (some (8, false)), .load 1 false (.t 2)⟩,
     ⟨(some 10), (some (8, false)), .bin .neq (.t 9) (.c (.str []))⟩,
     ⟨(some 11), none, .pick (.t 8) (.c (.bool true)) (.t 10)⟩] false)
   (.cond (.t 11) (.ops [
     ⟨(some 12), none, .load 1 false (.t 3)⟩,
     ⟨(some 13), none, .load 1 false (.t 1)⟩,
     ⟨(some 14), none, .mv (.t 0)⟩,
     ⟨(some 15), none, .load 1 false (.t 2)⟩,
     ⟨(some 16), none, .build [(.int .i64 0), (.int .i64 0), (.str [])] [(0, 1, (.t 13)), (1, 1, (.t 14)), (2, 1, (.t 15))]⟩,
     ⟨(some 17), none, .bslice 3 [(.t 16)]⟩,
     ⟨(some 18), none, .app 3 32 41 (.t 12) (.t 17)⟩,
     ⟨none, none, .store 1 (.t 3) (.t 18)⟩] false)
   (.skip)))
  (.ops [
   ⟨none, none, .store 1 (.t 2) (.c (.str []))⟩] false)) }
theorem cf31 : compF Try.prog [] Try.f31 = some ir31 := by kernel_rfl
end Go.Proofs.Zt
