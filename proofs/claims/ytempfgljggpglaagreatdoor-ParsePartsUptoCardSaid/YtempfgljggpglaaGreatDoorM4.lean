/-
  Texts of one proof, one behind the other: An abstract machine over the model, thirtieth part: edits of texts: what they are, and the plain laws of undoing them; the code of the functions on them. No condition. An abstract machine over the model, thirty-first part: the functions on edits: what they compute, over any program that has them. The lengths are bounded where a theorem says so. An abstract machine over the model, thirty-second part: IndexFunc; an array handed back in a pair; maps from names. No condition. An abstract machine over the model, thirty-third part: comparing texts. No condition. An abstract machine over the model, thirty-fourth part: heaps that are closed; cells of boxes and of rows; Clone's answer as a plain slice. No condition. An abstract machine over the model, thirty-sixth part: a slice that was appended to, handed to a function that writes its cells. No program in sight. No condition. An abstract machine over the model, thirty-seventh part: loops over the rows of a slice, by their number. No program in sight. No condition. An abstract machine over the model, thirty-eighth part: a slice that was appended to, sorted in place. No program in sight. No condition. An abstract machine over the model, thirty-ninth part: functions of the library that turn pure data into pure data. No program in sight. No condition. An abstract machine over the model, forty-second part: what a name is, in the document's words: digit, Letter, IsKey, IsName, over any program that has them. No condition but on lengths. An abstract machine over the model, forty-third part: types of the language: how great one is, whether one may be, over any program that asks. The lengths are bounded. An abstract machine over the model, forty-fourth part: the form of the functions of the layers of runes and tokens, over any program that has them. (Printed by gen.py.) An abstract machine over the model, forty-fifth part: a scanner over a text: bytes, blanks, words, signs, over any program that has these functions. The lengths are bounded. An abstract machine over the model, forty-sixth part: the scanner goes through what means nothing, and through signs, over any program that has these functions. The lengths are bounded. An abstract machine over the model, forty-seventh part: keys, names, signs, strings of the language, over any program that has these functions. The lengths are bounded. An abstract machine over the model, forty-eighth part: what a string of the language stands for, over any program that has the function. The lengths are bounded. An abstract machine over the model, forty-ninth part: one token of a text, over any program that has the functions. The lengths are bounded.
-/
import Derived.Test.YtempfgljggpglaaGreatDoorM3
import Derived.Lib.Bytealg
import Derived.Lib.ParseIntB
import Derived.Lib.DecodeN
namespace Go.Zam
set_option linter.all false
set_option maxRecDepth 100000

def irSound (et : Nat) : IFn :=
 { nt := 53, res := [.t 4], body := (
  .seq (.ops [
    ⟨(some 4), none, .mv (.c (.int .i64 0))⟩] false)
  (.seq (.seq (.ops [
     ⟨(some 8), none, .mv (.t 0)⟩,
     ⟨(some 9), none, .lenL (.t 8)⟩,
     ⟨(some 10), none, .bin .gtr (.t 9) (.c (.int .i64 512))⟩] false)
   (.cond (.t 10) (.seq (.ops [
      ⟨(some 4), none, .mv (.c (.int .i64 5))⟩] false)
    (.ret))
   (.skip)))
  (.seq (.ops [
    ⟨(some 5), none, .mv (.c (.int .i64 (-1)))⟩] false)
  (.seq (.seq (.ops [
     ⟨(some 11), none, .mv (.t 0)⟩,
     ⟨(some 12), none, .lenL (.t 11)⟩,
     ⟨(some 13), none, .mv (.c (.int .i64 0))⟩] false)
   (.blk 0 (.loop (.seq (.ops [
       ⟨(some 14), none, .bin .lss (.t 13) (.t 12)⟩] false)
     (.seq (.cond (.t 14) (.skip)
      (.exit 0))
     (.seq (.blk 1 (.seq (.ops [
         ⟨(some 15), none, .iaddr 3 (.t 11) (.t 13)⟩,
         ⟨(some 16), none, .load 3 true (.t 15)⟩,
         ⟨(some 7), none, .alloc et [(.int .i64 0), (.int .i64 0), (.str [])]⟩,
         ⟨none, none, .store 3 (.t 7) (.t 16)⟩] false)
       (.seq (.blk 2 (.seq (.ops [
           ⟨(some 18), none, .faddr 0 (.t 7)⟩,
           ⟨(some 19), none, .load 1 false (.t 18)⟩,
           ⟨(some 20), none, .bin .lss (.t 19) (.c (.int .i64 0))⟩,
           ⟨(some 21), none, .mv (.t 20)⟩,
           ⟨(some 22), (some (21, false)), .faddr 0 (.t 7)⟩,
           ⟨(some 23), (some (21, false)), .load 1 false (.t 22)⟩,
           ⟨(some 24), (some (21, false)), .faddr 1 (.t 7)⟩,
           ⟨(some 25), (some (21, false)), .load 1 false (.t 24)⟩,
           ⟨(some 26), (some (21, false)), .bin .gtr (.t 23) (.t 25)⟩,
           ⟨(some 27), none, .pick (.t 21) (.c (.bool true)) (.t 26)⟩,
           ⟨(some 28), none, .mv (.t 27)⟩,
           ⟨(some 29), (some (28, false)), .faddr 1 (.t 7)⟩,
           ⟨(some 30), (some (28, false)), .load 1 false (.t 29)⟩,
           ⟨(some 31), (some (28, false)), .mv (.t 1)⟩,
           ⟨(some 32), (some (28, false)), .bin .gtr (.t 30) (.t 31)⟩,
           ⟨(some 33), none, .pick (.t 28) (.c (.bool true)) (.t 32)⟩,
           ⟨(some 17), none, .mv (.t 33)⟩] false)
         (.cond (.t 17) (.seq (.ops [
            ⟨(some 4), none, .mv (.c (.int .i64 6))⟩] false)
          (.ret))
         (.seq (.ops [
            ⟨(some 35), none, .faddr 0 (.t 7)⟩,
            ⟨(some 36), none, .load 1 false (.t 35)⟩,
            ⟨(some 37), none, .faddr 1 (.t 7)⟩,
            ⟨(some 38), none, .load 1 false (.t 37)⟩,
            ⟨(some 39), none, .bin .eql (.t 36) (.t 38)⟩,
            ⟨(some 40), none, .mv (.t 39)⟩,
            ⟨(some 41), (some (40, true)), .faddr 2 (.t 7)⟩,
            ⟨(some 42), (some (40, true)), .load 1 false (.t 41)⟩,
            ⟨(some 43), (some (40, true)), .bin .eql (.t 42) (.c (.str []))⟩,
            ⟨(some 44), none, .pick (.t 40) (.t 43) (.c (.bool false))⟩,
            ⟨(some 34), none, .mv (.t 44)⟩] false)
          (.cond (.t 34) (.seq (.ops [
             ⟨(some 4), none, .mv (.c (.int .i64 1))⟩] false)
           (.ret))
          (.seq (.ops [
             ⟨(some 46), none, .faddr 0 (.t 7)⟩,
             ⟨(some 47), none, .load 1 false (.t 46)⟩,
             ⟨(some 48), none, .mv (.t 5)⟩,
             ⟨(some 49), none, .bin .leq (.t 47) (.t 48)⟩,
             ⟨(some 45), none, .mv (.t 49)⟩] false)
           (.cond (.t 45) (.seq (.ops [
              ⟨(some 4), none, .mv (.c (.int .i64 7))⟩] false)
            (.ret))
           (.skip))))))))
       (.ops [
        ⟨(some 50), none, .faddr 1 (.t 7)⟩,
        ⟨(some 51), none, .load 1 false (.t 50)⟩,
        ⟨(some 5), none, .mv (.t 51)⟩] false))))
     (.ops [
      ⟨(some 52), none, .bin .add (.t 13) (.c (.int .i64 1))⟩,
      ⟨(some 13), none, .mv (.t 52)⟩] false)))))))
  (.seq (.ops [
    ⟨(some 4), none, .mv (.c (.int .i64 0))⟩] false)
  (.ret)))))) }

def irWrite (cc : Nat) : IFn :=
 { nt := 19, res := [.t 4, .t 5], body := (
  .seq (.ops [
    ⟨(some 4), none, .mv (.c (.int .i64 0))⟩,
    ⟨(some 5), none, .mv (.c .nili)⟩] false)
  (.seq (.ops [
    ⟨(some 6), none, .mv (.t 0)⟩,
    ⟨(some 7), none, .call cc [(.t 6)]⟩] false)
  (.seq (.ops [
    ⟨(some 8), none, .mv (.t 0)⟩,
    ⟨(some 9), none, .mv (.t 0)⟩,
    ⟨(some 10), none, .nilCheck (.t 9)⟩,
    ⟨(some 11), none, .faddr 1 (.t 10)⟩,
    ⟨(some 12), none, .load 1 false (.t 11)⟩,
    ⟨(some 13), none, .mv (.t 1)⟩,
    ⟨(some 14), none, .appS 5 (.t 12) (.t 13)⟩,
    ⟨(some 15), none, .nilCheck (.t 8)⟩,
    ⟨(some 16), none, .faddr 1 (.t 15)⟩,
    ⟨none, none, .store 1 (.t 16) (.t 14)⟩] false)
  (.seq (.ops [
    ⟨(some 17), none, .mv (.t 1)⟩,
    ⟨(some 18), none, .lenS (.t 17)⟩,
    ⟨(some 4), none, .mv (.t 18)⟩,
    ⟨(some 5), none, .mv (.c .nili)⟩] false)
  (.ret))))) }

def irApply (et bt snd wr str : Nat) : IFn :=
 { nt := 41, res := [.t 4, .t 5], body := (
  .seq (.ops [
    ⟨(some 4), none, .mv (.c (.str []))⟩,
    ⟨(some 5), none, .mv (.c (.int .i64 0))⟩] false)
  (.seq (.seq (.ops [
     ⟨(some 11), none, .mv (.t 1)⟩,
     ⟨(some 12), none, .mv (.t 0)⟩,
     ⟨(some 13), none, .lenS (.t 12)⟩,
     ⟨(some 14), none, .call snd [(.t 11), (.t 13)]⟩,
     ⟨(some 6), none, .mv (.t 14)⟩] false)
   (.seq (.ops [
     ⟨(some 15), none, .mv (.t 6)⟩,
     ⟨(some 16), none, .bin .neq (.t 15) (.c (.int .i64 0))⟩] false)
   (.cond (.t 16) (.seq (.ops [
      ⟨(some 17), none, .mv (.t 6)⟩,
      ⟨(some 4), none, .mv (.c (.str []))⟩,
      ⟨(some 5), none, .mv (.t 17)⟩] false)
    (.ret))
   (.skip))))
  (.seq (.ops [
    ⟨(some 7), none, .allocT bt [.nilp, (.sl true 1 [])] 1 1 5⟩] false)
  (.seq (.ops [
    ⟨(some 8), none, .mv (.c (.int .i64 0))⟩] false)
  (.seq (.seq (.ops [
     ⟨(some 18), none, .mv (.t 1)⟩,
     ⟨(some 19), none, .lenL (.t 18)⟩,
     ⟨(some 20), none, .mv (.c (.int .i64 0))⟩] false)
   (.blk 0 (.loop (.seq (.ops [
       ⟨(some 21), none, .bin .lss (.t 20) (.t 19)⟩] false)
     (.seq (.cond (.t 21) (.skip)
      (.exit 0))
     (.seq (.blk 1 (.seq (.ops [
         ⟨(some 22), none, .iaddr 3 (.t 18) (.t 20)⟩,
         ⟨(some 23), none, .load 3 true (.t 22)⟩,
         ⟨(some 10), none, .alloc et [(.int .i64 0), (.int .i64 0), (.str [])]⟩,
         ⟨none, none, .store 3 (.t 10) (.t 23)⟩] false)
       (.seq (.ops [
         ⟨(some 24), none, .mv (.t 0)⟩,
         ⟨(some 25), none, .mv (.t 8)⟩,
         ⟨(some 26), none, .faddr 0 (.t 10)⟩,
         ⟨(some 27), none, .load 1 false (.t 26)⟩,
         ⟨(some 28), none, .sslice (.t 24) (some (.t 25)) (some (.t 27))⟩,
         ⟨(some 29), none, .call wr [(.t 7), (.t 28)]⟩] false)
       (.seq (.ops [
         ⟨(some 30), none, .faddr 2 (.t 10)⟩,
         ⟨(some 31), none, .load 1 false (.t 30)⟩,
         ⟨(some 32), none, .call wr [(.t 7), (.t 31)]⟩] false)
       (.ops [
        ⟨(some 33), none, .faddr 1 (.t 10)⟩,
        ⟨(some 34), none, .load 1 false (.t 33)⟩,
        ⟨(some 8), none, .mv (.t 34)⟩] false)))))
     (.ops [
      ⟨(some 35), none, .bin .add (.t 20) (.c (.int .i64 1))⟩,
      ⟨(some 20), none, .mv (.t 35)⟩] false)))))))
  (.seq (.ops [
    ⟨(some 36), none, .mv (.t 0)⟩,
    ⟨(some 37), none, .mv (.t 8)⟩,
    ⟨(some 38), none, .sslice (.t 36) (some (.t 37)) none⟩,
    ⟨(some 39), none, .call wr [(.t 7), (.t 38)]⟩] false)
  (.seq (.ops [
    ⟨(some 40), none, .call str [(.t 7)]⟩,
    ⟨(some 4), none, .mv (.t 40)⟩,
    ⟨(some 5), none, .mv (.c (.int .i64 0))⟩] false)
  (.ret)))))))) }

def irInvert (et snd : Nat) : IFn :=
 { nt := 58, res := [.t 4, .t 5], body := (
  .seq (.ops [
    ⟨(some 4), none, .mv (.c (.sl true 3 []))⟩,
    ⟨(some 5), none, .mv (.c (.int .i64 0))⟩] false)
  (.seq (.seq (.ops [
     ⟨(some 12), none, .mv (.t 1)⟩,
     ⟨(some 13), none, .mv (.t 0)⟩,
     ⟨(some 14), none, .lenS (.t 13)⟩,
     ⟨(some 15), none, .call snd [(.t 12), (.t 14)]⟩,
     ⟨(some 6), none, .mv (.t 15)⟩] false)
   (.seq (.ops [
     ⟨(some 16), none, .mv (.t 6)⟩,
     ⟨(some 17), none, .bin .neq (.t 16) (.c (.int .i64 0))⟩] false)
   (.cond (.t 17) (.seq (.ops [
      ⟨(some 18), none, .mv (.t 6)⟩,
      ⟨(some 4), none, .mv (.c (.sl true 3 []))⟩,
      ⟨(some 5), none, .mv (.t 18)⟩] false)
    (.ret))
   (.skip))))
  (.seq (.ops [
    ⟨(some 7), none, .nilT 3 et⟩] false)
  (.seq (.ops [
    ⟨(some 8), none, .mv (.c (.int .i64 0))⟩] false)
  (.seq (.seq (.ops [
     ⟨(some 19), none, .mv (.t 1)⟩,
     ⟨(some 20), none, .lenL (.t 19)⟩,
     ⟨(some 21), none, .mv (.c (.int .i64 0))⟩] false)
   (.blk 0 (.loop (.seq (.ops [
       ⟨(some 22), none, .bin .lss (.t 21) (.t 20)⟩] false)
     (.seq (.cond (.t 22) (.skip)
      (.exit 0))
     (.seq (.blk 1 (.seq (.ops [
         ⟨(some 23), none, .iaddr 3 (.t 19) (.t 21)⟩,
         ⟨(some 24), none, .load 3 true (.t 23)⟩,
         ⟨(some 10), none, .alloc et [(.int .i64 0), (.int .i64 0), (.str [])]⟩,
         ⟨none, none, .store 3 (.t 10) (.t 24)⟩] false)
       (.seq (.ops [
         ⟨(some 25), none, .faddr 0 (.t 10)⟩,
         ⟨(some 26), none, .load 1 false (.t 25)⟩,
         ⟨(some 27), none, .mv (.t 8)⟩,
         ⟨(some 28), none, .bin .add (.t 26) (.t 27)⟩,
         ⟨(some 11), none, .mv (.t 28)⟩] false)
       (.seq (.ops [
         ⟨(some 29), none, .mv (.t 7)⟩,
         ⟨(some 30), none, .mv (.t 11)⟩,
         ⟨(some 31), none, .mv (.t 11)⟩,
         ⟨(some 32), none, .faddr 2 (.t 10)⟩,
         ⟨(some 33), none, .load 1 false (.t 32)⟩,
         ⟨(some 34), none, .lenS (.t 33)⟩,
         ⟨(some 35), none, .bin .add (.t 31) (.t 34)⟩,
         ⟨(some 36), none, .mv (.t 0)⟩,
         ⟨(some 37), none, .faddr 0 (.t 10)⟩,
         ⟨(some 38), none, .load 1 false (.t 37)⟩,
         ⟨(some 39), none, .faddr 1 (.t 10)⟩,
         ⟨(some 40), none, .load 1 false (.t 39)⟩,
         ⟨(some 41), none, .sslice (.t 36) (some (.t 38)) (some (.t 40))⟩,
         ⟨(some 42), none, .build [(.int .i64 0), (.int .i64 0), (.str [])] [(0, 1, (.t 30)), (1, 1, (.t 35)), (2, 1, (.t 41))]⟩,
         ⟨(some 43), none, .bslice 3 [(.t 42)]⟩,
         ⟨(some 44), none, .app 3 32 et (.t 29) (.t 43)⟩,
         ⟨(some 7), none, .mv (.t 44)⟩] true)
       (.ops [
        ⟨(some 45), none, .mv (.t 8)⟩,
        ⟨(some 46), none, .faddr 2 (.t 10)⟩,
        ⟨(some 47), none, .load 1 false (.t 46)⟩,
        ⟨(some 48), none, .lenS (.t 47)⟩,
        ⟨(some 49), none, .faddr 1 (.t 10)⟩,
        ⟨(some 50), none, .load 1 false (.t 49)⟩,
        ⟨(some 51), none, .faddr 0 (.t 10)⟩,
        ⟨(some 52), none, .load 1 false (.t 51)⟩,
        ⟨(some 53), none, .bin .sub (.t 50) (.t 52)⟩,
        ⟨(some 54), none, .bin .sub (.t 48) (.t 53)⟩,
        ⟨(some 55), none, .bin .add (.t 45) (.t 54)⟩,
        ⟨(some 8), none, .mv (.t 55)⟩] false)))))
     (.ops [
      ⟨(some 56), none, .bin .add (.t 21) (.c (.int .i64 1))⟩,
      ⟨(some 21), none, .mv (.t 56)⟩] false)))))))
  (.seq (.ops [
    ⟨(some 57), none, .mv (.t 7)⟩,
    ⟨(some 4), none, .mv (.t 57)⟩,
    ⟨(some 5), none, .mv (.c (.int .i64 0))⟩] false)
  (.ret))))))) }

def irGrows (et : Nat) : IFn :=
 { nt := 25, res := [.t 2], body := (
  .seq (.ops [
    ⟨(some 2), none, .mv (.c (.int .i64 0))⟩] false)
  (.seq (.ops [
    ⟨(some 3), none, .mv (.c (.int .i64 0))⟩] false)
  (.seq (.seq (.ops [
     ⟨(some 6), none, .mv (.t 0)⟩,
     ⟨(some 7), none, .lenL (.t 6)⟩,
     ⟨(some 8), none, .mv (.c (.int .i64 0))⟩] false)
   (.blk 0 (.loop (.seq (.ops [
       ⟨(some 9), none, .bin .lss (.t 8) (.t 7)⟩] false)
     (.seq (.cond (.t 9) (.skip)
      (.exit 0))
     (.seq (.blk 1 (.seq (.ops [
         ⟨(some 10), none, .iaddr 3 (.t 6) (.t 8)⟩,
         ⟨(some 11), none, .load 3 true (.t 10)⟩,
         ⟨(some 5), none, .alloc et [(.int .i64 0), (.int .i64 0), (.str [])]⟩,
         ⟨none, none, .store 3 (.t 5) (.t 11)⟩] false)
       (.ops [
        ⟨(some 12), none, .mv (.t 3)⟩,
        ⟨(some 13), none, .faddr 2 (.t 5)⟩,
        ⟨(some 14), none, .load 1 false (.t 13)⟩,
        ⟨(some 15), none, .lenS (.t 14)⟩,
        ⟨(some 16), none, .faddr 1 (.t 5)⟩,
        ⟨(some 17), none, .load 1 false (.t 16)⟩,
        ⟨(some 18), none, .faddr 0 (.t 5)⟩,
        ⟨(some 19), none, .load 1 false (.t 18)⟩,
        ⟨(some 20), none, .bin .sub (.t 17) (.t 19)⟩,
        ⟨(some 21), none, .bin .sub (.t 15) (.t 20)⟩,
        ⟨(some 22), none, .bin .add (.t 12) (.t 21)⟩,
        ⟨(some 3), none, .mv (.t 22)⟩] false)))
     (.ops [
      ⟨(some 23), none, .bin .add (.t 8) (.c (.int .i64 1))⟩,
      ⟨(some 8), none, .mv (.t 23)⟩] false)))))))
  (.seq (.ops [
    ⟨(some 24), none, .mv (.t 3)⟩,
    ⟨(some 2), none, .mv (.t 24)⟩] false)
  (.ret))))) }

structure Ed where
  f : Int
  t : Int
  s : List UInt8

def encE (e : Ed) : List D := [.int .i64 e.f, .int .i64 e.t, .str e.s]

def soundFrom (n : Int) : Int → List Ed → Int
  | _, [] => 0
  | last, e :: r => if e.f < 0 ∨ e.t < e.f ∨ n < e.t then 6 else if e.f = e.t ∧ e.s = [] then 1 else if e.f ≤ last then 7 else soundFrom n e.t r

def sound (l : List Ed) (n : Int) : Int := if 512 < l.length then 5 else soundFrom n (-1) l

def total : List Ed → Nat
  | [] => 0
  | e :: r => e.s.length + total r


theorem appA_osl {H : Hp} {t sz b e : Nat} {z : Bool} {rows new : List (List D)} (ht : H[t]? = some (.tok rows.length sz e)) (hf : (rows.length + new.length) * b ≤ 140737488355328) :
    appA H sz b e new (.osl z sz rows t) = some (.osl z sz (rows ++ new) t, H.set t (.tok (rows.length + new.length) sz e)) := by
  simp [appA, ht, hf]

@[simp] theorem byteRows_length (s : List UInt8) : (byteRows s).length = s.length := by simp [byteRows]
theorem byteRows_append (a b : List UInt8) : byteRows (a ++ b) = byteRows a ++ byteRows b := by simp [byteRows]


def applied (s : List UInt8) : Int → List Ed → List UInt8
  | k, [] => s.drop k.toNat
  | k, e :: r => (s.drop k.toNat).take (e.f.toNat - k.toNat) ++ (e.s ++ applied s e.t r)

def applyS (s : List UInt8) (l : List Ed) : List UInt8 := if sound l s.length = 0 then applied s 0 l else []

theorem soundFrom_cons {n last : Int} {e : Ed} {r : List Ed} (h : soundFrom n last (e :: r) = 0) : 0 ≤ e.f ∧ e.f ≤ e.t ∧ e.t ≤ n ∧ last < e.f ∧ soundFrom n e.t r = 0 := by
  rw [soundFrom] at h
  split at h
  · cases h
  · split at h
    · cases h
    · split at h
      · cases h
      · refine ⟨by omega, by omega, by omega, by omega, h⟩

theorem sound_zero {l : List Ed} {n : Int} (h : sound l n = 0) : l.length ≤ 512 ∧ soundFrom n (-1) l = 0 := by
  unfold sound at h
  split at h
  · cases h
  · exact ⟨by omega, h⟩

theorem subL_ok {α : Type} {s : List α} {a b : Int} (h : 0 ≤ a ∧ a ≤ b ∧ b ≤ s.length) : subL s a b = some ((s.drop a.toNat).take (b.toNat - a.toNat)) := by
  simp [subL, h]


def inv (s : List UInt8) : Int → List Ed → List Ed
  | _, [] => []
  | d, e :: r => ⟨e.f + d, e.f + d + e.s.length, (s.drop e.f.toNat).take (e.t.toNat - e.f.toNat)⟩ :: inv s (d + (e.s.length - (e.t - e.f))) r

def grows : List Ed → Int
  | [] => 0
  | e :: r => (e.s.length - (e.t - e.f)) + grows r

theorem inv_length (s : List UInt8) : ∀ (d : Int) (l : List Ed), (inv s d l).length = l.length
  | _, [] => rfl
  | d, e :: r => by simp [inv, inv_length s _ r]

theorem soundFrom_cons2 {n last : Int} {e : Ed} {r : List Ed} (h : soundFrom n last (e :: r) = 0) : ¬ (e.f = e.t ∧ e.s = []) := by
  rw [soundFrom] at h
  split at h
  · cases h
  · split at h
    · cases h
    · assumption

theorem applied_len (s : List UInt8) : ∀ (l : List Ed) (p last : Int), soundFrom s.length last l = 0 → 0 ≤ p → p ≤ last + 1 → p ≤ s.length → ((applied s p l).length : Int) = s.length - p + grows l
  | [], p, last, _, h0, _, h1 => by simp [applied, grows]; omega
  | e :: r, p, last, h, h0, hp, h1 => by
    obtain ⟨e1, e2, e3, e4, e5⟩ := soundFrom_cons h
    have := applied_len s r e.t e.t e5 (by omega) (by omega) e3
    simp only [applied, grows, List.length_append, List.length_take, List.length_drop, Int.natCast_add, this]
    omega

theorem inv_sound (s : List UInt8) (N : Int) : ∀ (l : List Ed) (d p last : Int), soundFrom s.length last l = 0 → 0 ≤ p → p ≤ last + 1 → p ≤ s.length → 0 ≤ p + d → N = s.length + d + grows l → soundFrom N (last + d) (inv s d l) = 0
  | [], _, _, _, _, _, _, _, _, _ => rfl
  | e :: r, d, p, last, h, h0, hp, h1, hd, hN => by
    obtain ⟨e1, e2, e3, e4, e5⟩ := soundFrom_cons h
    have hne := soundFrom_cons2 h
    have hl := applied_len s r e.t e.t e5 (by omega) (by omega) e3
    simp only [grows] at hN
    have := inv_sound s N r (d + (e.s.length - (e.t - e.f))) e.t e.t e5 (by omega) (by omega) e3 (by omega) (by omega)
    rw [inv, soundFrom, if_neg (by simp only; omega), if_neg, if_neg (by simp only; omega)]
    · have h2 : e.f + d + e.s.length = e.t + (d + (e.s.length - (e.t - e.f))) := by omega
      simp only [h2]; exact this
    · rintro ⟨a, b⟩
      simp only at a b
      apply hne
      have h3 := congrArg List.length b
      simp only [List.length_take, List.length_drop, List.length_nil] at h3
      exact ⟨by omega, List.eq_nil_of_length_eq_zero (by omega)⟩

theorem inv_applied (s X : List UInt8) : ∀ (l : List Ed) (d p last : Int), soundFrom s.length last l = 0 → 0 ≤ p → p ≤ last + 1 → p ≤ s.length → 0 ≤ p + d → X.drop (p + d).toNat = applied s p l → applied X (p + d) (inv s d l) = s.drop p.toNat
  | [], d, p, _, _, _, _, _, _, hX => by simp [inv, applied, hX]
  | e :: r, d, p, last, h, h0, hp, h1, hd, hX => by
    obtain ⟨e1, e2, e3, e4, e5⟩ := soundFrom_cons h
    have h2 : e.f + d + e.s.length = e.t + (d + (e.s.length - (e.t - e.f))) := by omega
    have hA : ((s.drop p.toNat).take (e.f.toNat - p.toNat)).length = e.f.toNat - p.toNat := by simp; omega
    have hX' : X.drop (e.t + (d + (e.s.length - (e.t - e.f)))).toNat = applied s e.t r := by
      have : (e.t + (d + ((e.s.length : Int) - (e.t - e.f)))).toNat = (p + d).toNat + ((e.f.toNat - p.toNat) + e.s.length) := by omega
      rw [this, ← List.drop_drop, hX, applied, ← List.append_assoc]
      apply List.drop_left'
      rw [List.length_append, hA]
    have := inv_applied s X r (d + (e.s.length - (e.t - e.f))) e.t e.t e5 (by omega) (by omega) e3 (by omega) hX'
    rw [inv, applied]
    simp only [h2, this]
    have h4 : (e.f + d).toNat - (p + d).toNat = e.f.toNat - p.toNat := by omega
    rw [hX, h4, applied, List.take_left' hA]
    have h5 : (s.drop p.toNat).drop (e.f.toNat - p.toNat) = s.drop e.f.toNat := by rw [List.drop_drop]; congr 1; omega
    have h6 : (s.drop e.f.toNat).drop (e.t.toNat - e.f.toNat) = s.drop e.t.toNat := by rw [List.drop_drop]; congr 1; omega
    rw [← List.take_append_drop (e.f.toNat - p.toNat) (s.drop p.toNat), h5, ← h6, List.take_append_drop]
    congr 1
    rw [List.take_left' hA]

theorem inv_law {s : List UInt8} {l : List Ed} (h : sound l s.length = 0) :
    sound (inv s 0 l) (applied s 0 l).length = 0 ∧ applied (applied s 0 l) 0 (inv s 0 l) = s ∧ ((applied s 0 l).length : Int) = s.length + grows l := by
  obtain ⟨hl, h0⟩ := sound_zero h
  have hlen := applied_len s l 0 (-1) h0 (by omega) (by omega) (by omega)
  refine ⟨?_, ?_, by omega⟩
  · rw [sound, inv_length, if_neg (by omega)]
    have := inv_sound s (applied s 0 l).length l 0 0 (-1) h0 (by omega) (by omega) (by omega) (by omega) (by omega)
    simpa using this
  · have := inv_applied s (applied s 0 l) l 0 0 (-1) h0 (by omega) (by omega) (by omega) (by omega) (by simp)
    simpa using this


def invS (s : List UInt8) (l : List Ed) : List Ed := if sound l s.length = 0 then inv s 0 l else []


end Go.Zam

namespace Go.Zam
set_option linter.all false
set_option maxRecDepth 100000
set_option maxHeartbeats 1000000

/-- strings.Builder's copyCheck, at a program -/
def CopyOk (P : Program) (cc : FuncId) (bt : TypeId) : Prop := ∀ (H : Hp) (i : Nat) (x a : A), H[i]? = some (.box bt [a, x]) → (a = .d .nilp ∨ a = .ptr i 0) → ACall P cc [.ptr i 0] H (fun r H' => r = .tup [] ∧ H' = H.set i (.box bt [.ptr i 0, x]))
/-- strings.Builder's String, at a program -/
def StringOk (P : Program) (st : FuncId) (bt : TypeId) : Prop := ∀ (H : Hp) (i t : Nat) (a : A) (s : List UInt8), H[i]? = some (.box bt [a, .osl true 1 (byteRows s) t]) → H[t]? = some (.tok s.length 1 5) → s.length ≤ 140737488355328 → ACall P st [.ptr i 0] H (fun r H' => r = .d (.str s) ∧ H' = H)

section
variable {P : Program} {et bt : Nat}

theorem sound_acall {f : FuncId} {fn : Func} (hf : P.funcs[f]? = some fn) (hcf : compF P [] fn = some (irSound et)) (H : Hp) (z : Bool) (l : List Ed) (n : Int) : ACall P f [.d (.sl z 3 (l.map encE)), .d (.int .i64 n)] H (fun r H' => r = .d (.int .i64 (sound l n)) ∧ H' = H) := by
  refine acall_fin hf hcf (by simp [irSound]) fun hcl _ => ?_
  simp [irSound]
  refine BrK_split (fun h => ?_) (fun h => ?_)
  · simp [RetK, cut_self hcl, sound] at h ⊢
    omega
  simp
  refine LoopK_of H.length (fun fr H' => ∃ pre rest last, l = pre ++ rest ∧ sound l n = soundFrom n last rest ∧ fr 1 = .d (.int .i64 n) ∧ fr 5 = .d (.int .i64 last) ∧ fr 11 = .d (.sl z 3 (l.map encE)) ∧ fr 12 = .d (.int .i64 l.length) ∧ fr 13 = .d (.int .i64 (pre.length : Int)) ∧ H' = H)
    (fun fr H' => match fr 13 with | .d (.int _ k) => (l.length - k).toNat | _ => 0) (by simp) ?_ ?_
  · refine ⟨[], l, -1, ?_⟩
    simp [cut_self hcl, sound]
    simp at h; omega
  rintro fr H' ⟨pre, rest, last, hl, hs, f1, f5, f11, f12, f13, rfl⟩
  simp [f1, f5, f11, f12, f13]
  refine BrK_split (fun h => ?_) (fun h => ?_)
  · obtain ⟨e, r, rfl⟩ : ∃ e r, rest = e :: r := by
      cases rest with
      | nil => simp_all
      | cons e r => exact ⟨e, r, rfl⟩
    have hr : Zam.rowAt (l.map encE) pre.length = some (encE e) := by rw [hl]; exact rowAt_mid _ _ _ _
    simp [f1, f5, f11, f12, f13, hr, encE]
    repeat' (first
      | refine GdK_split (by simp) (fun h => ?_) (fun h => ?_)
      | refine BrK_split (fun h => ?_) (fun h => ?_)
      | simp [f1, f5, f11, f12, f13])
    all_goals simp only [decide_eq_true_eq, decide_eq_false_iff_not, Bool.not_true, Bool.not_false] at *
    all_goals first
      | (clear hl hr; simp_all [RetK, cut_app hcl, soundFrom]; done)
      | (refine AgainK_of (m := H'.length) (by simp) ⟨pre ++ [e], r, e.t, ?_⟩ ?_
         · have hw : IntKind.i64.wrap (pre.length + 1) = pre.length + 1 := wrap_i64 (by omega) (by omega)
           simp [cut_app hcl, f1, f5, f11, f12, f13, hw]
           refine ⟨hl, ?_⟩
           clear hl hr
           rw [hs, soundFrom]
           (repeat' split) <;> first | rfl | omega | (simp_all; done) | (simp_all; omega)
         · have hw : IntKind.i64.wrap (pre.length + 1) = pre.length + 1 := wrap_i64 (by omega) (by omega)
           simp [hw]; omega)
  · obtain rfl : rest = [] := by
      cases rest with
      | nil => rfl
      | cons e r => simp_all
    simp [RetK, hs, soundFrom, cut_self hcl]


theorem write_acall {f cc : FuncId} {fn : Func} (hf : P.funcs[f]? = some fn) (hcf : compF P [] fn = some (irWrite cc)) (hcc : CopyOk P cc bt) (H : Hp) (i t : Nat) (a : A) (bs s : List UInt8) (hi : H[i]? = some (.box bt [a, .osl true 1 (byteRows bs) t])) (ha : a = .d .nilp ∨ a = .ptr i 0) (ht : H[t]? = some (.tok bs.length 1 5)) (hb : bs.length + s.length ≤ 140737488355328) :
    ACall P f [.ptr i 0, .d (.str s)] H (fun r H' => r = .tup [.d (.int .i64 s.length), .d .nili] ∧ H' = (H.set i (.box bt [.ptr i 0, .osl true 1 (byteRows (bs ++ s)) t])).set t (.tok (bs ++ s).length 1 5)) := by
  have hit : i ≠ t := fun e => by subst e; rw [hi] at ht; cases ht
  have hil : i < H.length := (List.getElem?_eq_some_iff.1 hi).1
  have htl : t < H.length := (List.getElem?_eq_some_iff.1 ht).1
  refine acall_fin hf hcf (by simp [irWrite]) fun hcl hlo => ?_
  simp [irWrite]
  refine CallK_of' (hcc _ _ _ _ hi ha) ?_
  have ht' : (H.set i (.box bt [.ptr i 0, .osl true 1 (byteRows bs) t]))[t]? = some (.tok (byteRows bs).length 1 5) := by
    rw [List.getElem?_set_ne hit, ht, byteRows_length]
  have happ := appA_osl (z := true) (b := 1) (new := byteRows s) ht' (by simp; omega)
  simp [hil, htl, hit, ht, happ, Ne.symm hit]
  simp [RetK, Hp.cut_set, cut_self hcl, hil, htl, byteRows_append]
  rw [List.set_comm _ _ hit, List.set_comm _ _ hit, List.set_set]


theorem apply_acall {f f1 f2 f3 cc : FuncId} {fn fn1 fn2 : Func} (hf : P.funcs[f]? = some fn) (hcf : compF P [7] fn = some (irApply et bt f1 f2 f3)) (hf1 : P.funcs[f1]? = some fn1) (hcf1 : compF P [] fn1 = some (irSound et)) (hf2 : P.funcs[f2]? = some fn2) (hcf2 : compF P [] fn2 = some (irWrite cc)) (hcc : CopyOk P cc bt) (hst : StringOk P f3 bt) (H : Hp) (z : Bool) (s : List UInt8) (l : List Ed) (hb : s.length + total l ≤ 70368744177664) :
    ACall P f [.d (.str s), .d (.sl z 3 (l.map encE))] H (fun r H' => r = .tup [.d (.str (applyS s l)), .d (.int .i64 (sound l s.length))] ∧ H' = H) := by
  refine acall_fin hf hcf (by simp [irApply]) fun hcl _ => ?_
  simp [irApply]
  refine CallK_of' (sound_acall hf1 hcf1 H z l s.length) ?_
  simp
  refine BrK_split (fun h => ?_) (fun h => ?_)
  · simp [RetK, cut_self hcl]
    simp at h
    simp [applyS, h]
  have h0 : sound l s.length = 0 := by simpa using h
  obtain ⟨hl512, hs0⟩ := sound_zero h0
  simp
  refine LoopK_of (H.length + 2) (fun fr H' => ∃ pre rest, ∃ (p last : Int) (bs : List UInt8) (a : A), l = pre ++ rest ∧ bs ++ applied s p rest = applied s 0 l ∧ 0 ≤ p ∧ p ≤ s.length ∧ p ≤ last + 1 ∧ soundFrom s.length last rest = 0 ∧
      bs.length + (s.length - p.toNat) + total rest ≤ s.length + total l ∧ (a = .d .nilp ∨ a = .ptr (H.length + 1) 0) ∧
      fr 0 = .d (.str s) ∧ fr 7 = .ptr (H.length + 1) 0 ∧ fr 8 = .d (.int .i64 p) ∧ fr 18 = .d (.sl z 3 (l.map encE)) ∧ fr 19 = .d (.int .i64 l.length) ∧ fr 20 = .d (.int .i64 (pre.length : Int)) ∧ H' = H ++ [.tok bs.length 1 5, .box bt [a, .osl true 1 (byteRows bs) H.length]])
    (fun fr H' => match fr 20 with | .d (.int _ k) => (l.length - k).toNat | _ => 0) (by simp) ?_ ?_
  · refine ⟨[], l, 0, -1, [], .d .nilp, ?_⟩
    simp [cut_appk hcl, hs0, byteRows]
  rintro fr H' ⟨pre, rest, p, last, bs, a, hl, hap, hp0, hp1, hp2, hsf, hsz, ha, f0, f7, f8, f18, f19, f20, rfl⟩
  simp [f18, f19, f20]
  refine BrK_split (fun h => ?_) (fun h => ?_)
  · obtain ⟨e, r, rfl⟩ : ∃ e r, rest = e :: r := by
      cases rest with
      | nil => simp_all
      | cons e r => exact ⟨e, r, rfl⟩
    have hr : Zam.rowAt (l.map encE) pre.length = some (encE e) := by rw [hl]; exact rowAt_mid _ _ _ _
    obtain ⟨e1, e2, e3, e4, e5⟩ := soundFrom_cons hsf
    simp only [total] at hsz
    have hsub := subL_ok (s := s) (a := p) (b := e.f) ⟨hp0, by omega, by omega⟩
    have hlen : ((s.drop p.toNat).take (e.f.toNat - p.toNat)).length = e.f.toNat - p.toNat := by simp; omega
    simp [f0, f7, f8, f18, f19, f20, hr, encE, hsub]
    refine CallK_of' (write_acall hf2 hcf2 hcc _ (H.length + 1) H.length a bs ((s.drop p.toNat).take (e.f.toNat - p.toNat)) (by simp) ha (by simp) (by omega)) ?_
    simp [f0, f7, f8, f18, f19, f20]
    refine CallK_of' (write_acall hf2 hcf2 hcc _ (H.length + 1) H.length (.ptr (H.length + 1) 0) (bs ++ (s.drop p.toNat).take (e.f.toNat - p.toNat)) e.s (by simp) (.inr rfl) (by simp) (by rw [List.length_append]; omega)) ?_
    have hw : IntKind.i64.wrap (pre.length + 1) = pre.length + 1 := wrap_i64 (by omega) (by simp at h; omega)
    simp [f0, f7, f8, f18, f19, f20, hw]
    refine AgainK_of (m := H.length + 2) (by simp) ⟨pre ++ [e], r, e.t, e.t, bs ++ ((s.drop p.toNat).take (e.f.toNat - p.toNat) ++ e.s), .ptr (H.length + 1) 0, ?_⟩ ?_
    · simp [cut_appk hcl, f0, f7, f8, f18, f19, f20]
      refine ⟨hl, ?_, by omega, e3, by omega, e5, ?_⟩
      · rw [← hap, applied]
      · omega
    · simp; simp at h; omega
  · obtain rfl : rest = [] := by
      cases rest with
      | nil => rfl
      | cons e r => simp_all
    have hsub := subL_ok (s := s) (a := p) (b := s.length) ⟨hp0, hp1, by omega⟩
    have htk : (s.drop p.toNat).take ((s.length : Int).toNat - p.toNat) = s.drop p.toNat := List.take_of_length_le (by simp)
    rw [htk] at hsub
    simp [total] at hsz
    simp [f0, f7, f8, hsub]
    refine CallK_of' (write_acall hf2 hcf2 hcc _ (H.length + 1) H.length a bs (s.drop p.toNat) (by simp) ha (by simp) (by simp; omega)) ?_
    simp [f0, f7, f8]
    refine CallK_of' (hst _ (H.length + 1) H.length (.ptr (H.length + 1) 0) (bs ++ s.drop p.toNat) (by simp) (by simp) (by simp; omega)) ?_
    simp [RetK, cut_app hcl, h0, applyS]
    simpa [applied] using hap


theorem invert_acall {f f1 : FuncId} {fn fn1 : Func} (hf : P.funcs[f]? = some fn) (hcf : compF P [7] fn = some (irInvert et f1)) (hf1 : P.funcs[f1]? = some fn1) (hcf1 : compF P [] fn1 = some (irSound et)) (H : Hp) (z : Bool) (s : List UInt8) (l : List Ed) (hb : s.length + total l ≤ 70368744177664) :
    ACall P f [.d (.str s), .d (.sl z 3 (l.map encE))] H (fun r H' => r = .tup [.d (.sl true 3 ((invS s l).map encE)), .d (.int .i64 (sound l s.length))] ∧ H' = H) := by
  refine acall_fin hf hcf (by simp [irInvert]) fun hcl _ => ?_
  simp [irInvert]
  refine CallK_of' (sound_acall hf1 hcf1 H z l s.length) ?_
  simp
  refine BrK_split (fun h => ?_) (fun h => ?_)
  · simp [RetK, cut_self hcl]
    simp at h
    simp [invS, h]
  have h0 : sound l s.length = 0 := by simpa using h
  obtain ⟨hl512, hs0⟩ := sound_zero h0
  simp
  refine LoopK_of (H.length + 1) (fun fr H' => ∃ pre rest, ∃ (p last d : Int) (q : List Ed), l = pre ++ rest ∧ inv s 0 l = q ++ inv s d rest ∧ q.length = pre.length ∧ 0 ≤ p ∧ p ≤ s.length ∧ p ≤ last + 1 ∧ soundFrom s.length last rest = 0 ∧
      0 ≤ p + d ∧ d + total rest ≤ total l ∧
      fr 0 = .d (.str s) ∧ fr 7 = .osl true 3 (q.map encE) H.length ∧ fr 8 = .d (.int .i64 d) ∧ fr 19 = .d (.sl z 3 (l.map encE)) ∧ fr 20 = .d (.int .i64 l.length) ∧ fr 21 = .d (.int .i64 (pre.length : Int)) ∧ H' = H ++ [.tok q.length 3 et])
    (fun fr H' => match fr 21 with | .d (.int _ k) => (l.length - k).toNat | _ => 0) (by simp) ?_ ?_
  · refine ⟨[], l, 0, -1, 0, [], ?_⟩
    simp [cut_appk hcl, hs0]
  rintro fr H' ⟨pre, rest, p, last, d, q, hl, hap, hq, hp0, hp1, hp2, hsf, hpd, hsz, f0, f7, f8, f19, f20, f21, rfl⟩
  simp [f19, f20, f21]
  refine BrK_split (fun h => ?_) (fun h => ?_)
  · obtain ⟨e, r, rfl⟩ : ∃ e r, rest = e :: r := by
      cases rest with
      | nil => simp_all
      | cons e r => exact ⟨e, r, rfl⟩
    have hr : Zam.rowAt (l.map encE) pre.length = some (encE e) := by rw [hl]; exact rowAt_mid _ _ _ _
    obtain ⟨e1, e2, e3, e4, e5⟩ := soundFrom_cons hsf
    simp only [total] at hsz
    have hsub := subL_ok (s := s) (a := e.f) (b := e.t) ⟨e1, by omega, by omega⟩
    have w1 : IntKind.i64.wrap (e.f + d) = e.f + d := wrap_i64 (by omega) (by omega)
    have w2 : IntKind.i64.wrap (e.f + d + e.s.length) = e.f + d + e.s.length := wrap_i64 (by omega) (by omega)
    have w3 : IntKind.i64.wrap (e.t - e.f) = e.t - e.f := wrap_i64 (by omega) (by omega)
    have w4 : IntKind.i64.wrap (e.s.length - (e.t - e.f)) = e.s.length - (e.t - e.f) := wrap_i64 (by omega) (by omega)
    have w5 : IntKind.i64.wrap (d + (e.s.length - (e.t - e.f))) = d + (e.s.length - (e.t - e.f)) := wrap_i64 (by omega) (by omega)
    have hpl : pre.length ≤ 512 := by rw [hl] at hl512; simp at hl512; omega
    have happ : ∀ X, appA (H ++ .tok q.length 3 et :: X) 3 32 et [[.int .i64 (e.f + d), .int .i64 (e.f + d + e.s.length), .str ((s.drop e.f.toNat).take (e.t.toNat - e.f.toNat))]] (.osl true 3 (q.map encE) H.length) = some (.osl true 3 ((q ++ [(⟨e.f + d, e.f + d + e.s.length, (s.drop e.f.toNat).take (e.t.toNat - e.f.toNat)⟩ : Ed)]).map encE) H.length, H ++ .tok (q.length + 1) 3 et :: X) := by
      intro X
      rw [appA_osl (by simp) (by simp; omega)]
      simp [encE]
    simp [f0, f7, f8, f19, f20, f21, hr, encE, hsub, w1, w2, w3, w4, w5, happ]
    have hw : IntKind.i64.wrap (pre.length + 1) = pre.length + 1 := wrap_i64 (by omega) (by omega)
    simp [f21, hw]
    refine AgainK_of (m := H.length + 1) (by simp) ⟨pre ++ [e], r, e.t, e.t, d + (e.s.length - (e.t - e.f)), q ++ [⟨e.f + d, e.f + d + e.s.length, (s.drop e.f.toNat).take (e.t.toNat - e.f.toNat)⟩], ?_⟩ ?_
    · simp [cut_appk hcl, f0, f7, f8, f19, f20, f21]
      refine ⟨hl, ?_, by omega, by omega, by omega, by omega, e5, by omega, by omega, ?_⟩
      rotate_left
      · simp [encE]
      rw [hap, inv]
    · simp; simp at h; omega
  · obtain rfl : rest = [] := by
      cases rest with
      | nil => rfl
      | cons e r => simp_all
    simp [f7]
    simp [inv] at hap
    simp [RetK, cut_app hcl, h0, invS, hap]


theorem grows_acall {f : FuncId} {fn : Func} (hf : P.funcs[f]? = some fn) (hcf : compF P [] fn = some (irGrows et)) (H : Hp) (z : Bool) (n : Int) (l : List Ed) (hn0 : 0 ≤ n) (h0 : sound l n = 0) (hb : n + total l ≤ 70368744177664) :
    ACall P f [.d (.sl z 3 (l.map encE))] H (fun r H' => r = .d (.int .i64 (grows l)) ∧ H' = H) := by
  refine acall_fin hf hcf (by simp [irGrows]) fun hcl _ => ?_
  simp [irGrows]
  obtain ⟨hl512, hs0⟩ := sound_zero h0
  refine LoopK_of H.length (fun fr H' => ∃ pre rest, ∃ (p last d : Int), l = pre ++ rest ∧ grows l = d + grows rest ∧ 0 ≤ p ∧ p ≤ n ∧ p ≤ last + 1 ∧ soundFrom n last rest = 0 ∧
      0 ≤ p + d ∧ d + total rest ≤ total l ∧
      fr 3 = .d (.int .i64 d) ∧ fr 6 = .d (.sl z 3 (l.map encE)) ∧ fr 7 = .d (.int .i64 l.length) ∧ fr 8 = .d (.int .i64 (pre.length : Int)) ∧ H' = H)
    (fun fr H' => match fr 8 with | .d (.int _ k) => (l.length - k).toNat | _ => 0) (by simp) ?_ ?_
  · refine ⟨[], l, 0, -1, 0, ?_⟩
    simp [cut_self hcl, hs0, hn0]
  rintro fr H' ⟨pre, rest, p, last, d, hl, hap, hp0, hp1, hp2, hsf, hpd, hsz, f3, f6, f7, f8, rfl⟩
  simp [f6, f7, f8]
  refine BrK_split (fun h => ?_) (fun h => ?_)
  · obtain ⟨e, r, rfl⟩ : ∃ e r, rest = e :: r := by
      cases rest with
      | nil => simp_all
      | cons e r => exact ⟨e, r, rfl⟩
    have hr : Zam.rowAt (l.map encE) pre.length = some (encE e) := by rw [hl]; exact rowAt_mid _ _ _ _
    obtain ⟨e1, e2, e3, e4, e5⟩ := soundFrom_cons hsf
    simp only [total] at hsz
    have w3 : IntKind.i64.wrap (e.t - e.f) = e.t - e.f := wrap_i64 (by omega) (by omega)
    have w4 : IntKind.i64.wrap (e.s.length - (e.t - e.f)) = e.s.length - (e.t - e.f) := wrap_i64 (by omega) (by omega)
    have w5 : IntKind.i64.wrap (d + (e.s.length - (e.t - e.f))) = d + (e.s.length - (e.t - e.f)) := wrap_i64 (by omega) (by omega)
    have hpl : pre.length ≤ 512 := by rw [hl] at hl512; simp at hl512; omega
    simp [f3, f6, f7, f8, hr, encE, w3, w4, w5]
    have hw : IntKind.i64.wrap (pre.length + 1) = pre.length + 1 := wrap_i64 (by omega) (by omega)
    simp [f8, hw]
    refine AgainK_of (m := H'.length) (by simp) ⟨pre ++ [e], r, e.t, e.t, d + (e.s.length - (e.t - e.f)), ?_⟩ ?_
    · simp [cut_app hcl, f3, f6, f7, f8]
      refine ⟨hl, ?_, by omega, by omega, by omega, e5, by omega, by omega⟩
      rw [hap, grows]; omega
    · simp; simp at h; omega
  · obtain rfl : rest = [] := by
      cases rest with
      | nil => rfl
      | cons e r => simp_all
    simp [f3]
    simp [grows] at hap
    simp [RetK, cut_self hcl, hap]


end
end Go.Zam

namespace Go.Zam
set_option linter.all false
set_option maxRecDepth 100000
set_option maxHeartbeats 1000000

/-- a call that yields an array that it made, in a pair -/
theorem ACall.freeze2 {P : Program} {f : FuncId} {args : List A} {H X : Hp} {k sz : Nat} {rows : List (List D)} {y : D} (hX : X[k]? = some (.arr sz (rows.map (List.map .d)))) (h : ACall P f args H (fun r H' => r = .tup [.msl (H.length + k) 0 rows.length, .d y] ∧ H' = H ++ X)) :
    ACall P f args H (fun r H' => r = .tup [.d (.sl false sz rows), .d y] ∧ H' = H) := by
  intro κ w vs hr hl hv
  refine (h κ w vs hr hl hv).mono ?_
  rintro e w' ⟨v, κ', x, H', h1, h2, h3, h4, rfl, rfl⟩
  cases h4 with
  | tup us _ hul hu =>
  match us, hul with
  | [u0, u1], _ =>
  have v0 := hu 0 u0 _ rfl rfl
  have v1 := hu 1 u1 _ rfl rfl
  obtain ⟨κ2, k1, k2, k3⟩ := h3.freezeArr (i := H.length + k) (sz := sz) (rows := rows) (by rw [getElem?_appk]; exact hX) v0
  rw [set_appk] at k2
  refine ⟨_, κ2.cut H.length, .tup [.d (.sl false sz rows), .d y], Hp.cut H.length (H ++ X.set k .dead), h1, K.le_cut (h2.trans k1) hr.dom, k2.cut _ (by simp), ?_, rfl, cut_app hr.closed _⟩
  refine .tup [u0, u1] _ rfl fun i v a hv ha => ?_
  match i with
  | 0 => simp at hv ha; subst hv; subst ha; exact VR.clr H.length k3
  | 1 => simp at hv ha; subst hv; subst ha; exact VR.clr H.length (v1.mono k1)
  | i + 2 => simp at hv

def indexP {α : Type} (p : α → Bool) : List α → Option Nat
  | [] => none
  | x :: r => if p x then some 0 else (indexP p r).map (· + 1)

def indexI {α : Type} (p : α → Bool) (l : List α) : Int := match indexP p l with | some k => k | none => -1

theorem indexP_append {α : Type} (p : α → Bool) : ∀ (a b : List α), (∀ x ∈ a, p x = false) → indexP p (a ++ b) = (indexP p b).map (· + a.length)
  | [], b, _ => by simp
  | x :: a, b, h => by
    simp only [List.cons_append, indexP, h x (by simp), Bool.false_eq_true, if_false, indexP_append p a b fun y hy => h y (by simp [hy]), Option.map_map, List.length_cons]
    congr 1

def irIndexFunc (sz : Nat) : IFn :=
 { nt := 19, res := [.t 4], body := (
  .seq (.ops [
    ⟨(some 4), none, .mv (.c (.int .i64 0))⟩] false)
  (.seq (.seq (.ops [
     ⟨(some 6), none, .mv (.t 0)⟩,
     ⟨(some 7), none, .lenL (.t 6)⟩,
     ⟨(some 8), none, .mv (.c (.int .i64 0))⟩] false)
   (.blk 0 (.loop (.seq (.ops [
       ⟨(some 9), none, .bin .lss (.t 8) (.t 7)⟩] false)
     (.seq (.cond (.t 9) (.skip)
      (.exit 0))
     (.seq (.blk 1 (.seq (.ops [
         ⟨(some 10), none, .mv (.t 8)⟩,
         ⟨(some 5), none, .mv (.t 10)⟩] false)
       (.seq (.ops [
         ⟨(some 11), none, .mv (.t 1)⟩,
         ⟨(some 12), none, .mv (.t 0)⟩,
         ⟨(some 13), none, .mv (.t 5)⟩,
         ⟨(some 14), none, .iaddr sz (.t 12) (.t 13)⟩,
         ⟨(some 15), none, .load sz true (.t 14)⟩,
         ⟨(some 16), none, .callv (.t 11) [(.t 15)]⟩] false)
       (.cond (.t 16) (.seq (.ops [
          ⟨(some 17), none, .mv (.t 5)⟩,
          ⟨(some 4), none, .mv (.t 17)⟩] false)
        (.ret))
       (.skip)))))
     (.ops [
      ⟨(some 18), none, .bin .add (.t 8) (.c (.int .i64 1))⟩,
      ⟨(some 8), none, .mv (.t 18)⟩] false)))))))
  (.seq (.ops [
    ⟨(some 4), none, .mv (.c (.int .i64 (-1)))⟩] false)
  (.ret)))) }

section
variable {P : Program} {α : Type} {enc : α → List D} {sz : Nat}

/-- IndexFunc over whatever holds a list -/
theorem indexFunc_acall {f : FuncId} {fn : Func} (hf : P.funcs[f]? = some fn) (hcf : compF P [] fn = some (irIndexFunc sz)) {H : Hp} {l : List α} {p : α → Bool} {g x : A} (hlen : lenA x = some l.length)
    (hx : ∀ m, H.length ≤ m → x.clr m = x) (hg : ∀ m, H.length ≤ m → g.clr m = g)
    (hld : ∀ (k : Nat) (e : α), l[k]? = some e → ∃ q, iaddrA H sz x (.d (.int .i64 (k : Int))) = some q ∧ ldA H sz q = some (rowE enc e))
    (hp : ∀ (e : α) (Q : A → Hp → Prop) (t : Tag Q), Q (.d (.bool (p e))) H → ValK Q t P [.agg (rowE enc e)] H g) (hb : l.length ≤ 1099511627776) :
    ACall P f [x, g] H (fun r H' => r = .d (.int .i64 (indexI p l)) ∧ H' = H) := by
  refine acall_fin hf hcf (by simp [irIndexFunc]) fun hcl _ => ?_
  simp [irIndexFunc, hlen, -lenA]
  refine LoopK_of H.length (fun fr H' => ∃ pre rest, l = pre ++ rest ∧ (∀ e ∈ pre, p e = false) ∧ fr 0 = x ∧ fr 1 = g ∧ fr 7 = .d (.int .i64 l.length) ∧ fr 8 = .d (.int .i64 (pre.length : Int)) ∧ H' = H)
    (fun fr H' => match fr 8 with | .d (.int _ k) => (l.length - k).toNat | _ => 0) (by simp) ?_ ?_
  · refine ⟨[], l, ?_⟩
    simp [cut_self hcl, hx, hg, clr_d, -A.clr]
  rintro fr H' ⟨pre, rest, hl, hpre, f0, f1, f7, f8, hH⟩
  rw [hH]
  simp [f7, f8]
  refine BrK_split (fun h => ?_) (fun h => ?_)
  · obtain ⟨e, r, rfl⟩ : ∃ e r, rest = e :: r := by
      cases rest with
      | nil => rw [hl] at h; simp at h
      | cons e r => exact ⟨e, r, rfl⟩
    obtain ⟨q, q1, q2⟩ := hld pre.length e (by rw [hl]; simp)
    have hpl : pre.length < l.length := by rw [hl]; simp
    have hw : IntKind.i64.wrap ((pre.length : Int) + 1) = pre.length + 1 := wrap_i64 (by omega) (by omega)
    simp [f0, f1, f7, f8, q1, q2, -iaddrA, -ldA]
    refine hp e _ _ ?_
    simp [f0, f1, f7, f8]
    refine BrK_split (fun h2 => ?_) (fun h2 => ?_)
    · have : indexI p l = pre.length := by rw [hl, indexI, indexP_append p _ _ hpre]; simp [indexP, h2]
      simp [RetK, cut_self hcl, this]
    · simp [f8, hw]
      refine AgainK_of (m := H.length) (by simp) ⟨pre ++ [e], r, ?_⟩ ?_
      · simp [f0, f1, f7, f8, cut_self hcl, hx, hg, clr_d, -A.clr]
        refine ⟨hl, fun a ha => ?_⟩
        rcases ha with h3 | h3
        · exact hpre a h3
        · subst h3; exact h2
      · simp; omega
  · obtain rfl : rest = [] := by
      cases rest with
      | nil => rfl
      | cons e r => exfalso; rw [hl] at h; simp at h
    rw [List.append_nil] at hl
    subst hl
    have : indexI p l = -1 := by
      have := indexP_append p l [] hpre
      simp [indexP] at this
      simp [indexI, this]
    simp [RetK, cut_self hcl, this]

end

/-- the names met, as a map -/
def setMp (l : List (List UInt8)) : List (D × A) := l.map fun s => (.str s, .d (.bool true))

theorem setMp_ok (l : List (List UInt8)) (s : List UInt8) : mpOk (.str []) (.str s) (setMp l) = true := by simp [setMp]
theorem setMp_get (s : List UInt8) : ∀ l : List (List UInt8), mpGet (.str s) (setMp l) = if s ∈ l then some (.d (.bool true)) else none
  | [] => rfl
  | x :: l => by
    have := setMp_get s l
    simp only [setMp, List.map_cons, mpGet, sameK, List.mem_cons] at this ⊢
    by_cases h : s = x
    · simp [h]
    · simp only [h, decide_false, Bool.false_eq_true, if_false, false_or]; exact this
theorem setMp_put (s : List UInt8) : ∀ l : List (List UInt8), s ∉ l → mpPut (.str s) (.d (.bool true)) (setMp l) = setMp (l ++ [s])
  | [], _ => rfl
  | x :: l, h => by
    simp only [List.mem_cons, not_or] at h
    have := setMp_put s l h.2
    simp only [setMp, List.map_cons, mpPut, sameK, List.cons_append] at this ⊢
    simp only [h.1, decide_false, Bool.false_eq_true, if_false]
    rw [this]

end Go.Zam

namespace Go.Zam
set_option linter.all false
set_option maxRecDepth 100000
set_option maxHeartbeats 1000000

theorem bl_irrefl : ∀ a : List UInt8, Op.bytesLess a a = false
  | [] => rfl
  | x :: a => by simp [Op.bytesLess, bl_irrefl a]

theorem bl_total : ∀ a b : List UInt8, Op.bytesLess a b = false → Op.bytesLess b a = false → a = b
  | [], [], _, _ => rfl
  | [], y :: b, h, _ => by simp [Op.bytesLess] at h
  | x :: a, [], _, h => by simp [Op.bytesLess] at h
  | x :: a, y :: b, h, h' => by
    simp only [Op.bytesLess, Bool.or_eq_false_iff, decide_eq_false_iff_not, Bool.and_eq_false_iff, beq_eq_false_iff_ne, UInt8.lt_iff_toNat_lt] at h h'
    have hxy : x = y := by
      apply UInt8.toNat_inj.1
      omega
    subst hxy
    have h1 := h.2.resolve_left (fun e => e rfl)
    have h2 := h'.2.resolve_left (fun e => e rfl)
    rw [bl_total a b h1 h2]

theorem bl_trans : ∀ a b c : List UInt8, Op.bytesLess a b = true → Op.bytesLess b c = true → Op.bytesLess a c = true
  | _, [], _, h, _ => by cases ‹List UInt8› <;> simp [Op.bytesLess] at h
  | _, _ :: _, [], _, h => by simp [Op.bytesLess] at h
  | [], _ :: _, _ :: _, _, _ => rfl
  | x :: a, y :: b, z :: c, h, h' => by
    simp only [Op.bytesLess, Bool.or_eq_true, decide_eq_true_eq, Bool.and_eq_true, beq_iff_eq, UInt8.lt_iff_toNat_lt] at h h' ⊢
    rcases h with h | ⟨rfl, h⟩ <;> rcases h' with h' | ⟨rfl, h'⟩
    · left; omega
    · left; exact h
    · left; exact h'
    · right; exact ⟨rfl, bl_trans a b c h h'⟩

theorem bl_asymm {a b : List UInt8} (h : Op.bytesLess a b = true) : Op.bytesLess b a = false := by
  cases h2 : Op.bytesLess b a with
  | false => rfl
  | true => have := bl_trans a b a h h2; rw [bl_irrefl] at this; cases this

theorem cmpStr_lt {a b : List UInt8} : cmpStr a b < 0 ↔ Op.bytesLess a b = true := by
  unfold cmpStr
  split
  · simp_all
  · split <;> simp_all
theorem cmpStr_gt {a b : List UInt8} : 0 < cmpStr a b ↔ Op.bytesLess b a = true := by
  unfold cmpStr
  split
  · rename_i h; simp [bl_asymm h]
  · rename_i h
    split
    · rename_i h2
      simp [h] at h2
      subst h2
      simp [bl_irrefl]
    · rename_i h2
      simp [h] at h2
      cases h3 : Op.bytesLess b a with
      | true => simp
      | false => exact absurd (bl_total a b (by simpa using h) h3) h2
theorem cmpStr_zero {a b : List UInt8} : cmpStr a b = 0 ↔ a = b := by
  constructor
  · intro h
    have h1 : ¬ cmpStr a b < 0 := by omega
    have h2 : ¬ 0 < cmpStr a b := by omega
    rw [cmpStr_lt] at h1
    rw [cmpStr_gt] at h2
    exact bl_total a b (by simpa using h1) (by simpa using h2)
  · rintro rfl
    have h1 : ¬ cmpStr a a < 0 := by rw [cmpStr_lt, bl_irrefl]; simp
    have h2 : ¬ 0 < cmpStr a a := by rw [cmpStr_gt, bl_irrefl]; simp
    omega

theorem cmpStr_cmp : Cmp cmpStr where
  refl := fun x => cmpStr_zero.2 rfl
  anti := fun x y => by rw [cmpStr_lt, cmpStr_gt]
  trans := fun x y z h1 h2 => by
    have e1 : x = y ∨ Op.bytesLess x y = true := by
      by_cases h : cmpStr x y = 0
      · exact .inl (cmpStr_zero.1 h)
      · exact .inr (cmpStr_lt.1 (by omega))
    have e2 : y = z ∨ Op.bytesLess y z = true := by
      by_cases h : cmpStr y z = 0
      · exact .inl (cmpStr_zero.1 h)
      · exact .inr (cmpStr_lt.1 (by omega))
    rcases e1 with rfl | e1 <;> rcases e2 with rfl | e2
    · exact h1
    · exact h2
    · exact h1
    · have := cmpStr_lt.2 (bl_trans x y z e1 e2); omega

theorem Cmp.on {α β : Type} {c : β → β → Int} (h : Cmp c) (f : α → β) : Cmp fun x y => c (f x) (f y) :=
  ⟨fun x => h.refl _, fun x y => h.anti _ _, fun x y z => h.trans _ _ _⟩

theorem compareStr_acall {P : Program} {f f1 : FuncId} {fn fn1 : Func} (hf : P.funcs[f]? = some fn) (hcf : compF P [] fn = some (irCompare f1)) (hf1 : P.funcs[f1]? = some fn1) (hcf1 : compF P [] fn1 = some irIsNaN) {H : Hp} (a b : List UInt8) :
    ACall P f [.d (.str a), .d (.str b)] H (fun r H' => r = .d (.int .i64 (cmpStr a b)) ∧ H' = H) := by
  have hn : ∀ x, ACall P f1 [.d (.str x)] H (fun r H' => r = .d (.bool false) ∧ H' = H) := fun x => by
    refine acall_fin hf1 hcf1 (by simp [irIsNaN]) fun hcl _ => ?_
    simp [irIsNaN]
    simp [RetK, cut_self hcl]
  refine acall_fin hf hcf (by simp [irCompare]) fun hcl _ => ?_
  simp [irCompare]
  refine CallK_of' (hn a) ?_
  simp
  refine CallK_of' (hn b) ?_
  cases h : Op.bytesLess a b with
  | true =>
    simp [h]
    simp [RetK, cut_self hcl, cmpStr, h]
  | false =>
    by_cases he : a = b
    · subst he
      simp [h]
      simp [RetK, cut_self hcl, cmpStr, h]
    · simp [h, he]
      simp [RetK, cut_self hcl, cmpStr, h, he]

end Go.Zam

namespace Go.Zam
set_option linter.all false
set_option maxRecDepth 100000
set_option maxHeartbeats 1000000

theorem closed_iff {H : Hp} : H.Closed ↔ ∀ n, H.length ≤ n → ∀ x ∈ H, x.clr n = x := by
  unfold Hp.Closed
  refine forall_congr' fun n => imp_congr_right fun _ => ?_
  constructor
  · intro h x hx
    obtain ⟨i, hi, rfl⟩ := List.getElem_of_mem hx
    have := congrArg (fun l => l[i]?) h
    simpa [hi] using this
  · intro h
    exact (List.map_congr_left h).trans (List.map_id' _)

theorem Closed.set {H : Hp} (h : H.Closed) (i : Nat) {x : Ob} (hx : ∀ n, H.length ≤ n → x.clr n = x) : Hp.Closed (H.set i x) := by
  rw [closed_iff] at h ⊢
  intro n hn y hy
  rw [List.length_set] at hn
  rcases List.mem_or_eq_of_mem_set hy with h1 | h1
  · exact h n hn y h1
  · rw [h1]; exact hx n hn

theorem Closed.snoc {H : Hp} (h : H.Closed) {x : Ob} (hx : ∀ n, H.length + 1 ≤ n → x.clr n = x) : Hp.Closed (H ++ [x]) := by
  rw [closed_iff] at h ⊢
  intro n hn y hy
  simp only [List.length_append, List.length_singleton] at hn
  rcases List.mem_append.1 hy with h1 | h1
  · exact h n (by omega) y h1
  · rw [List.mem_singleton.1 h1]; exact hx n hn

theorem ld_ptr (H : Hp) (i off n : Nat) : ldA H n (.ptr i off) = (match H[i]? with | some (.box _ cs) => cutL cs off n | _ => none) := rfl
theorem st_ptr (H : Hp) (i off : Nat) (cs : List A) : stA H cs (.ptr i off) = (match H[i]? with | some (.box ty old) => if off + cs.length ≤ old.length then some (H.set i (.box ty (setL old off cs))) else none | _ => none) := rfl

section
variable {P : Program} {α : Type} {enc : α → List D} {sz : Nat}

theorem arr_ldc {H : Hp} {i k j : Nat} {L : List α} {e : α} {d : D} (hi : H[i]? = some (arrE enc sz L)) (hk : L[k]? = some e) (hj : (enc e)[j]? = some d) : ldA H 1 (.aptr i k j) = some [.d d] := by
  have hjl := (List.getElem?_eq_some_iff.1 hj)
  obtain ⟨h1, h2⟩ := hjl
  have : j + 1 ≤ (enc e).length := h1
  simp [ldA, hi, arrE, hk, rowE, cutL, this]
  rw [List.take_one]
  simp [hj]

theorem arr_stc {H : Hp} {i k j : Nat} {L : List α} {e e' : α} {d : D} (hi : H[i]? = some (arrE enc sz L)) (hk : L[k]? = some e) (hj : j < (enc e).length) (he : (enc e).set j d = enc e') : stA H [.d d] (.aptr i k j) = some (H.set i (arrE enc sz (L.set k e'))) := by
  have : j + 1 ≤ (enc e).length := hj
  simp [stA, hi, arrE, hk, rowE, this]
  rw [← List.map_set, he]

theorem cloneD_acall {bytes e : Nat} {f : FuncId} {fn : Func} (hf : P.funcs[f]? = some fn) (hcf : compF P [1000005] fn = some (irCloneM sz bytes e)) {H : Hp} {z : Bool} {rows : List (List D)} (hb : rows.length * bytes ≤ 140737488355328) :
    ACall P f [.d (.sl z sz rows)] H (fun r H' => r = .d (.sl (z && rows.isEmpty) sz rows) ∧ H' = H) := by
  by_cases h0 : rows = []
  · subst h0
    cases z with
    | true => exact clone0_acall hf hcf
    | false => exact ACall.freeze (k := 0) (X := [.arr sz []]) (by simp) (cloneM0_acall hf hcf)
  · have : rows.isEmpty = false := by cases rows <;> simp_all
    rw [this, Bool.and_false]
    exact ACall.freeze (k := 1) (X := [.arr sz [], .arr sz (rows.map (List.map .d))]) (by simp) (cloneM_acall hf hcf h0 hb)

end
end Go.Zam

namespace Go.Zam
set_option linter.all false
set_option maxRecDepth 100000
set_option maxHeartbeats 1000000

/-- does not speak of an object -/
def A.off0 (i : Nat) : A → Bool
  | .d _ | .eptr _ | .cun | .undef => true
  | .osl _ _ _ t => decide (t ≠ i)
  | .msl j _ _ | .vsl j _ _ | .vptr j _ _ _ | .ptr j _ | .aptr j _ _ | .map j => decide (j ≠ i)
  | .agg _ | .tup _ | .fn .. => false

def A.off (i : Nat) : A → Bool
  | .agg cs => cs.all (A.off0 i)
  | .tup cs => cs.all (A.off0 i)
  | .fn _ a b => a.all (A.off0 i) && b.all (A.off0 i)
  | x => x.off0 i

def Ob.off (i : Nat) : Ob → Bool
  | .box _ cs => cs.all (A.off i)
  | .arr _ rows => rows.all fun r => r.all (A.off i)
  | .mp l => l.all fun e => e.2.off i
  | _ => true

theorem A.off0_lo {n : Nat} {a : A} (h : a.lo n = true) : a.off0 n = true := by
  cases a <;> simp_all [A.lo, A.off0] <;> omega

theorem A.off_clr {n : Nat} {a : A} (h : a.clr0 n = a) : a.off n = true := by
  cases a with
  | d x => rfl
  | eptr c => rfl
  | cun => rfl
  | undef => rfl
  | agg cs =>
    simp only [A.clr0] at h
    split at h
    · rename_i h1
      simp only [List.all_eq_true] at h1
      simp only [A.off, List.all_eq_true]
      exact fun x hx => A.off0_lo (h1 x hx)
    · cases h
  | tup cs => simp [A.clr0] at h
  | fn f a b =>
    simp only [A.clr0] at h
    split at h
    · rename_i h1
      simp only [Bool.and_eq_true, List.all_eq_true] at h1
      simp only [A.off, Bool.and_eq_true, List.all_eq_true]
      exact ⟨fun x hx => A.off0_lo (h1.1 x hx), fun x hx => A.off0_lo (h1.2 x hx)⟩
    · cases h
  | _ => 
    simp only [A.clr0] at h
    split at h
    · simp [A.off, A.off0]; omega
    · cases h

theorem map_fix {α : Type} {f : α → α} : ∀ {l : List α}, l.map f = l → ∀ x ∈ l, f x = x
  | [], _, x, hx => by simp at hx
  | y :: l, h, x, hx => by
    simp only [List.map_cons, List.cons.injEq] at h
    rcases List.mem_cons.1 hx with rfl | hx
    · exact h.1
    · exact map_fix h.2 x hx

theorem Ob.off_clr {n : Nat} {x : Ob} (h : x.clr n = x) : x.off n = true := by
  cases x with
  | box ty cs =>
    simp only [Ob.clr, Ob.box.injEq, true_and] at h
    simp only [Ob.off, List.all_eq_true]
    exact fun a ha => A.off_clr (map_fix h a ha)
  | arr sz rows =>
    simp only [Ob.clr, Ob.arr.injEq, true_and] at h
    simp only [Ob.off, List.all_eq_true]
    exact fun r hr a ha => A.off_clr (map_fix (map_fix h r hr) a ha)
  | mp l =>
    simp only [Ob.clr, Ob.mp.injEq] at h
    simp only [Ob.off, List.all_eq_true]
    exact fun e he => A.off_clr (by have := congrArg Prod.snd (map_fix h e he); exact this)
  | _ => rfl

section
variable {κ κ' : K} {i j : Nat}

theorem VR.off0 (hσ : κ'.σ = κ.σ) (hβ : ∀ m, m ≠ i → m ≠ j → κ'.β m = κ.β m) {v : Value} {a : A} (h : VR κ v a) (hi : a.off0 i = true) (hj : a.off0 j = true) : VR κ' v a := by
  cases h with
  | d h => exact .d (hσ ▸ h)
  | agg vs xs hl' h => simp [A.off0] at hi
  | tup vs xs hl' h => simp [A.off0] at hi
  | osl h ht => simp [A.off0] at hi hj; exact .osl (hσ ▸ h) (by rw [hβ _ hi hj]; exact ht)
  | msl m off len b sz o cap hb h1 h2 h3 => simp [A.off0] at hi hj; exact .msl m off len b sz o cap (by rw [hβ _ hi hj]; exact hb) h1 h2 h3
  | vsl m k len ad cap h0 hf => simp [A.off0] at hi hj; exact .vsl m k len ad cap h0 (by rw [hβ _ hi hj]; exact hf)
  | vptr m k idx off b o hf => simp [A.off0] at hi hj; exact .vptr m k idx off b o (by rw [hβ _ hi hj]; exact hf)
  | ptr m off b hb => simp [A.off0] at hi hj; exact .ptr m off b (by rw [hβ _ hi hj]; exact hb)
  | aptr m idx off b sz hb => simp [A.off0] at hi hj; exact .aptr m idx off b sz (by rw [hβ _ hi hj]; exact hb)
  | eptr cells b o f hc hd => exact .eptr cells b o f (by rw [hσ]; exact hc) (by rw [hσ]; exact hd)
  | fn f vs1 vs2 as1 as2 hl1 hl2 h1 h2 => simp [A.off0] at hi
  | map m b hb => simp [A.off0] at hi hj; exact .map m b (by rw [hβ _ hi hj]; exact hb)
  | cun v h => exact .cun v h
  | undef v => exact .undef v

theorem VR.off (hσ : κ'.σ = κ.σ) (hβ : ∀ m, m ≠ i → m ≠ j → κ'.β m = κ.β m) {v : Value} {a : A} (h : VR κ v a) (hi : a.off i = true) (hj : a.off j = true) : VR κ' v a := by
  cases h with
  | agg vs xs hl' h =>
    simp only [A.off, List.all_eq_true] at hi hj
    exact .agg vs xs hl' fun m v a hv ha => (h m v a hv ha).off0 hσ hβ (hi a (List.mem_of_getElem? ha)) (hj a (List.mem_of_getElem? ha))
  | tup vs xs hl' h =>
    simp only [A.off, List.all_eq_true] at hi hj
    exact .tup vs xs hl' fun m v a hv ha => (h m v a hv ha).off0 hσ hβ (hi a (List.mem_of_getElem? ha)) (hj a (List.mem_of_getElem? ha))
  | fn f vs1 vs2 as1 as2 hl1 hl2 h1 h2 =>
    simp only [A.off, Bool.and_eq_true, List.all_eq_true] at hi hj
    exact .fn f vs1 vs2 as1 as2 hl1 hl2 (fun m v a hv ha => (h1 m v a hv ha).off0 hσ hβ (hi.1 a (List.mem_of_getElem? ha)) (hj.1 a (List.mem_of_getElem? ha)))
      (fun m v a hv ha => (h2 m v a hv ha).off0 hσ hβ (hi.2 a (List.mem_of_getElem? ha)) (hj.2 a (List.mem_of_getElem? ha)))
  | d h => exact VR.off0 (i := i) (j := j) hσ hβ (.d h) hi hj
  | osl h ht => exact VR.off0 hσ hβ (.osl h ht) hi hj
  | msl m off len b sz o cap hb h1 h2 h3 => exact VR.off0 hσ hβ (.msl m off len b sz o cap hb h1 h2 h3) hi hj
  | vsl m k len ad cap h0 hf => exact VR.off0 hσ hβ (.vsl m k len ad cap h0 hf) hi hj
  | vptr m k idx off b o hf => exact VR.off0 hσ hβ (.vptr m k idx off b o hf) hi hj
  | ptr m off b hb => exact VR.off0 hσ hβ (.ptr m off b hb) hi hj
  | aptr m idx off b sz hb => exact VR.off0 hσ hβ (.aptr m idx off b sz hb) hi hj
  | eptr cells b o f hc hd => exact VR.off0 (i := i) (j := j) hσ hβ (.eptr cells b o f hc hd) hi hj
  | map m b hb => exact VR.off0 hσ hβ (.map m b hb) hi hj
  | cun v h => exact .cun v h
  | undef v => exact .undef v

theorem OR.off (hσ : κ'.σ = κ.σ) (hw0 : κ'.w0 = κ.w0) (hβ : ∀ m, m ≠ i → m ≠ j → κ'.β m = κ.β m) {w : World} {m : Nat} {x : Ob} (hmi : m ≠ i) (hmj : m ≠ j) (h : OR κ w m x) (hi : x.off i = true) (hj : x.off j = true) : OR κ' w m x := by
  have hb := hβ m hmi hmj
  cases x with
  | box ty cs =>
    simp only [Ob.off, List.all_eq_true] at hi hj
    obtain ⟨b, h1, hsh, h2⟩ := h
    refine ⟨b, hb.trans h1, hsh, fun q a ha => ?_⟩
    obtain ⟨v, h3, h4, h5⟩ := h2 q a ha
    exact ⟨v, h3, h4, h5.off hσ hβ (hi a (List.mem_of_getElem? ha)) (hj a (List.mem_of_getElem? ha))⟩
  | arr sz rows =>
    simp only [Ob.off, List.all_eq_true] at hi hj
    obtain ⟨b, s, h1, hs, h2⟩ := h
    refine ⟨b, s, hb.trans h1, hs, fun k r hr => ⟨(h2 k r hr).1, fun q a ha => ?_⟩⟩
    obtain ⟨v, h3, h4, h5⟩ := (h2 k r hr).2 q a ha
    exact ⟨v, h3, h4, h5.off hσ hβ (hi r (List.mem_of_getElem? hr) a (List.mem_of_getElem? ha)) (hj r (List.mem_of_getElem? hr) a (List.mem_of_getElem? ha))⟩
  | tok n sz ty =>
    rcases h with ⟨h1, h2⟩ | ⟨b, e, c, cur, lo, hi', h1, h2⟩
    · exact .inl ⟨hb.trans h1, h2⟩
    · exact .inr ⟨b, e, c, cur, lo, hi', hb.trans h1, h2⟩
  | vec sz ty k rows =>
    obtain ⟨b, c, cur, h1, h2, h3, h4, h5⟩ := h
    exact ⟨b, c, cur, hb.trans h1, h2, h3, h4, by rw [hσ]; exact h5⟩
  | mp l =>
    simp only [Ob.off, List.all_eq_true] at hi hj
    obtain ⟨b, es, clock, h1, h2, h3, h4⟩ := h
    refine ⟨b, es, clock, hb.trans h1, h2, h3, fun q x hx => ?_⟩
    obtain ⟨e, h5, h6, h7⟩ := h4 q x hx
    exact ⟨e, h5, by rw [hσ]; exact h6, h7.off hσ hβ (hi x (List.mem_of_getElem? hx)) (hj x (List.mem_of_getElem? hx))⟩
  | dead => trivial
  | glob g cs => obtain ⟨ty, fr, h1⟩ := h; exact ⟨ty, fr, hw0 ▸ h1⟩

end

theorem closed_off {H : Hp} (h : H.Closed) {n : Nat} (hn : H.length ≤ n) {m : Nat} {x : Ob} (hx : H[m]? = some x) : x.off n = true :=
  Ob.off_clr (closed_iff.1 h n hn x (List.mem_of_getElem? hx))

/-- A SLICE THAT WAS APPENDED TO, IN PLACE OF A ROW THAT IS WRITTEN -/
theorem ACall.thaw {P : Program} {f : FuncId} {H : Hp} {i k sz e : Nat} {rows rows' : List (List D)} {args : List A} {v : A} (hi : H[i]? = some (.vec sz e k rows)) (hne : rows ≠ [])
    (hH : ∀ m x, m ≠ i → H[m]? = some x → x.off i = true) (hv : v.off i = true ∧ v.off H.length = true) (hl : rows'.length = rows.length)
    (h : ACall P f (.msl H.length 0 rows.length :: args) (H.set i .dead ++ [.arr sz (rows.map (List.map .d))]) (fun r H' => r = v ∧ H' = H.set i .dead ++ [.arr sz (rows'.map (List.map .d))])) :
    ACall P f (.vsl i k rows.length :: args) H (fun r H' => r = v ∧ H' = H.set i (.vec sz e k rows')) := by
  intro κ w vs hr hvl hva
  have hil : i < H.length := (List.getElem?_eq_some_iff.1 hi).1
  obtain ⟨b, c, cur, hβ, hheap, hle0, hsz, hcells⟩ := hr.ob i _ hi
  have hpos : 0 < rows.length := List.length_pos_iff.2 hne
  have hbx := hr.ex i b (by rw [hβ]; rfl)
  have hn : κ.β H.length = .none := hr.dom _ (Nat.le_refl _)
  have hni : H.length ≠ i := by omega
  -- the first argument
  cases vs with
  | nil => simp at hvl
  | cons v0 vs =>
  have hv0 : VR κ v0 (.vsl i k rows.length) := hva 0 v0 _ rfl rfl
  obtain ⟨hlc, rfl⟩ : rows.length ≤ c ∧ v0 = .slice (some ⟨b, 0, none⟩) rows.length c := by
    cases hv0 with
    | vsl _ _ _ ad cap hlc hf =>
      rw [hβ] at hf
      have := (hf.2 rfl).2
      cases this
      exact ⟨hlc, rfl⟩
  -- the other view
  let κs : K := { κ with β := upd (upd κ.β i .deadT) H.length (.arr b sz (some (e, cur.size))) }
  have hsβ : ∀ m, m ≠ i → m ≠ H.length → κs.β m = κ.β m := fun m h1 h2 => by
    show upd (upd κ.β i _) H.length _ m = _
    rw [upd_ne _ _ h2, upd_ne _ _ h1]
  have hsi : κs.β i = .deadT := by
    show upd (upd κ.β i _) H.length _ i = _
    rw [upd_ne _ _ (by omega), upd_same]
  have hsn : κs.β H.length = .arr b sz (some (e, cur.size)) := upd_same _ _ _
  have hks : κ.le κs := ⟨rfl, fun _ _ _ h => h, fun m => by
    by_cases h1 : m = i
    · subst h1; rw [hsi, hβ]; exact .inr (.inl rfl)
    · by_cases h2 : m = H.length
      · subst h2; rw [hn]; trivial
      · rw [hsβ m h1 h2]; exact Bind.le_refl _⟩
  have hblk : ∀ m b', (κs.β m).block = some b' → (m = H.length ∧ b' = b) ∨ (m ≠ H.length ∧ m ≠ i ∧ (κ.β m).block = some b') := fun m b' hm => by
    by_cases h2 : m = H.length
    · subst h2; rw [hsn] at hm; cases hm; exact .inl ⟨rfl, rfl⟩
    · by_cases h1 : m = i
      · subst h1; rw [hsi] at hm; cases hm
      · rw [hsβ m h1 h2] at hm; exact .inr ⟨h2, h1, hm⟩
  have hrs : HR κs (H.set i .dead ++ [.arr sz (rows.map (List.map .d))]) w := by
    refine ⟨hr.below, hr.st, fun m x hx => ?_, fun m hm => ?_, fun m b' hb' => ?_, fun m b' o ho => ?_, fun m q b' h1 h2 => ?_, fun m x hx => ?_⟩
    · by_cases h2 : m = H.length
      · subst h2
        rw [show H.length = (H.set i Ob.dead).length by simp, getElem?_app0] at hx
        cases hx
        refine ⟨b, _, hsn, fun ty n he => by cases he; exact ⟨cur, hheap, rfl⟩, fun q r hq => ?_⟩
        simp only [List.getElem?_map, Option.map_eq_some_iff] at hq
        obtain ⟨r0, hr0, rfl⟩ := hq
        refine ⟨by simpa using (hcells q r0 hr0).1, fun y a ha => ?_⟩
        simp only [List.getElem?_map, Option.map_eq_some_iff] at ha
        obtain ⟨x0, hx0, rfl⟩ := ha
        obtain ⟨u, u1, u2⟩ := (hcells q r0 hr0).2 y x0 hx0
        exact ⟨u, by rw [cell_cells hheap]; exact u1, by simp [World.frozen?, hheap], .d u2⟩
      · have hm : m < (H.set i Ob.dead).length := by
          have := (List.getElem?_eq_some_iff.1 hx).1
          simp at this ⊢; omega
        rw [List.getElem?_append_left hm] at hx
        by_cases h1 : i = m
        · subst h1
          rw [List.getElem?_set_self hil] at hx
          cases hx; trivial
        · rw [List.getElem?_set_ne h1] at hx
          exact (hr.ob m x hx).mono hks (hsβ m (Ne.symm h1) h2) fun _ _ => rfl
    · have : H.length + 1 ≤ m := by simpa using hm
      rw [hsβ m (by omega) (by omega)]; exact hr.dom m (by omega)
    · rcases hblk m b' hb' with ⟨-, rfl⟩ | ⟨-, -, h3⟩
      · exact hbx
      · exact hr.ex m b' h3
    · rcases hblk m b' (Bind.block_of_owns ho) with ⟨rfl, rfl⟩ | ⟨h1, h2, h3⟩
      · exact hr.exσ i b' o (by rw [hβ]; rfl)
      · rw [hsβ m h2 h1] at ho; exact hr.exσ m b' o ho
    · rcases hblk m b' h1 with ⟨rfl, rfl⟩ | ⟨a1, a2, a3⟩
      · rcases hblk q b' h2 with ⟨rfl, -⟩ | ⟨c1, c2, c3⟩
        · rfl
        · exact absurd (hr.exd q i b' c3 (by rw [hβ]; rfl)) c2
      · rcases hblk q b' h2 with ⟨rfl, rfl⟩ | ⟨c1, c2, c3⟩
        · exact absurd (hr.exd m i b' a3 (by rw [hβ]; rfl)) a2
        · exact hr.exd m q b' a3 c3
    · by_cases h2 : m = H.length
      · subst h2
        rw [show H.length = (H.set i Ob.dead).length by simp, getElem?_app0] at hx
        cases hx
        simp [Ob.flat, A.flat]
      · have hm : m < (H.set i Ob.dead).length := by
          have := (List.getElem?_eq_some_iff.1 hx).1
          simp at this ⊢; omega
        rw [List.getElem?_append_left hm] at hx
        by_cases h1 : i = m
        · subst h1
          rw [List.getElem?_set_self hil] at hx
          cases hx; rfl
        · rw [List.getElem?_set_ne h1] at hx
          exact hr.fl m x hx
  refine (h κs w (.slice (some ⟨b, 0, none⟩) rows.length c :: vs) hrs (by simpa using hvl) (fun m u a hu ha => ?_)).mono ?_
  · cases m with
    | zero =>
      simp only [List.getElem?_cons_zero, Option.some.injEq] at hu ha
      subst hu; subst ha
      exact .msl _ _ _ b sz 0 c (.inl ⟨_, hsn⟩) hlc (fun _ => by simp) (fun h0 => by omega)
    | succ m => exact (hva (m + 1) u a hu ha).mono hks
  rintro ev w' ⟨u, κ', x, H', h1, h2, h3, h4, rfl, rfl⟩
  -- back
  have h2i : κ'.β i = .deadT := by have := h2.β i; rw [hsi] at this; exact this
  have hml : H.length < (H.set i Ob.dead ++ [Ob.arr sz (rows'.map (List.map .d))]).length := by simp
  have hob := h3.ob H.length _ (by rw [show H.length = (H.set i Ob.dead).length by simp, getElem?_app0]; rfl)
  obtain ⟨b', s', hb', hs', hc'⟩ := hob
  obtain ⟨rfl, rfl⟩ : b' = b ∧ s' = some (e, cur.size) := by
    have := h2.β H.length
    rw [hsn] at this
    rcases this with this | this
    · rw [this] at hb'; cases hb'; exact ⟨rfl, rfl⟩
    · rw [this] at hb'; cases hb'
  obtain ⟨cur', hheap', hcs⟩ := hs' e cur.size rfl
  let κt : K := { κ' with β := upd (upd κ'.β i (κ.β i)) H.length .none }
  have htβ : ∀ m, m ≠ i → m ≠ H.length → κt.β m = κ'.β m := fun m h1 h2 => by
    show upd (upd κ'.β i _) H.length _ m = _
    rw [upd_ne _ _ h2, upd_ne _ _ h1]
  have hti : κt.β i = .vec b' c rows.length k sz := by
    show upd (upd κ'.β i _) H.length _ i = _
    rw [upd_ne _ _ (by omega), upd_same, hβ]
  have htn : κt.β H.length = .none := upd_same _ _ _
  have htblk : ∀ m b2, (κt.β m).block = some b2 → (m = i ∧ b2 = b') ∨ (m ≠ H.length ∧ m ≠ i ∧ (κ'.β m).block = some b2) := fun m b2 hm => by
    by_cases h2 : m = H.length
    · subst h2; rw [htn] at hm; cases hm
    · by_cases h1 : m = i
      · subst h1; rw [hti] at hm; cases hm; exact .inl ⟨rfl, rfl⟩
      · rw [htβ m h1 h2] at hm; exact .inr ⟨h2, h1, hm⟩
  have hoff : ∀ m x, m ≠ i → H[m]? = some x → x.off H.length = true := fun m x _ hx =>
    Ob.off_clr (closed_iff.1 hr.closed H.length (Nat.le_refl _) x (List.mem_of_getElem? hx))
  have hgetm : ∀ m, m ≠ i → m < H.length → (H.set i Ob.dead ++ [Ob.arr sz (rows'.map (List.map .d))])[m]? = H[m]? := fun m h1 h2 => by
    rw [List.getElem?_append_left (by simpa using h2), List.getElem?_set_ne (Ne.symm h1)]
  refine ⟨u, κt, x, _, h1, ⟨(h2.w0.trans hks.w0), fun b2 o2 y hy => h2.σ b2 o2 y (hks.σ b2 o2 y hy), fun m => ?_⟩, ⟨h3.below, h3.st, fun m y hy => ?_, fun m hm => ?_, fun m b2 hb2 => ?_, fun m b2 o ho => ?_, fun m q b2 u1 u2 => ?_, fun m y hy => ?_⟩, @VR.off κ' κt i H.length rfl htβ _ _ h4 hv.1 hv.2, rfl, rfl⟩
  · by_cases e1 : m = i
    · subst e1; rw [hti, hβ]; exact Bind.le_refl _
    · by_cases e2 : m = H.length
      · subst e2; rw [hn]; trivial
      · rw [htβ m e1 e2, ← hsβ m e1 e2]; exact h2.β m
  · by_cases e1 : i = m
    · subst e1
      rw [List.getElem?_set_self hil] at hy
      cases hy
      refine ⟨b', c, cur', by rw [hti, hl], hheap', by omega, by rw [hcs]; exact hsz, fun q r hq => ?_⟩
      obtain ⟨g1, g2⟩ := hc' q (r.map .d) (by simp [hq])
      refine ⟨by simpa using g1, fun y x hx => ?_⟩
      obtain ⟨z, z1, -, z3⟩ := g2 y (.d x) (by simp [hx])
      rw [cell_cells hheap'] at z1
      exact ⟨z, z1, z3.d_inv⟩
    · rw [List.getElem?_set_ne e1] at hy
      have hm : m < H.length := (List.getElem?_eq_some_iff.1 hy).1
      exact @OR.off κ' κt i H.length rfl rfl htβ _ _ _ (Ne.symm e1) (by omega) (h3.ob m y (by rw [hgetm m (Ne.symm e1) hm]; exact hy)) (hH m y (Ne.symm e1) hy) (hoff m y (Ne.symm e1) hy)
  · have hm' : H.length ≤ m := by simpa using hm
    by_cases e2 : m = H.length
    · subst e2; exact htn
    · rw [htβ m (by omega) e2]
      exact h3.dom m (by simp; omega)
  · rcases htblk m b2 hb2 with ⟨-, rfl⟩ | ⟨-, -, g⟩
    · exact h3.ex H.length b2 (by rw [hb']; rfl)
    · exact h3.ex m b2 g
  · rcases htblk m b2 (Bind.block_of_owns ho) with ⟨rfl, rfl⟩ | ⟨g1, g2, g3⟩
    · exact h3.exσ H.length b2 o (by rw [hb']; rfl)
    · rw [htβ m g2 g1] at ho; exact h3.exσ m b2 o ho
  · rcases htblk m b2 u1 with ⟨rfl, rfl⟩ | ⟨a1, a2, a3⟩
    · rcases htblk q b2 u2 with ⟨rfl, -⟩ | ⟨c1, c2, c3⟩
      · rfl
      · exact absurd (h3.exd q H.length b2 c3 (by rw [hb']; rfl)) c1
    · rcases htblk q b2 u2 with ⟨rfl, rfl⟩ | ⟨c1, c2, c3⟩
      · exact absurd (h3.exd m H.length b2 a3 (by rw [hb']; rfl)) a1
      · exact h3.exd m q b2 a3 c3
  · by_cases e1 : i = m
    · subst e1
      rw [List.getElem?_set_self hil] at hy
      cases hy; rfl
    · rw [List.getElem?_set_ne e1] at hy
      exact hr.fl m y hy

end Go.Zam

namespace Go.Zam
set_option linter.all false
set_option maxRecDepth 100000

theorem rowAt_map {α : Type} (f : α → List D) {l : List α} {i : Nat} (h : i < l.length) : Zam.rowAt (l.map f) (i : Int) = some (f l[i]) := by
  simp [Zam.rowAt, h]

theorem rowAt_get {α : Type} {f : α → List D} {l : List α} {i : Nat} {x : α} (h : l[i]? = some x) : Zam.rowAt (l.map f) (i : Int) = some (f x) := by
  simp [Zam.rowAt, h]

theorem take_succ_map {α β : Type} (f : α → β) {l : List α} {i : Nat} (h : i < l.length) : (l.take (i + 1)).map f = (l.take i).map f ++ [f l[i]] := by
  rw [List.take_succ_eq_append_getElem h, List.map_append]; rfl

theorem take_map_succ {α β : Type} (f : α → β) {l : List α} {i : Nat} (h : i < l.length) : (l.map f).take (i + 1) = (l.map f).take i ++ [f l[i]] := by
  rw [List.take_succ_eq_append_getElem (by simpa using h)]; simp

/-- what a round of a range hands on -/
def NextK (J : Nat → Fr → Hp → Prop) (_ : Tag J) (m n si sn st : Nat) (i : Nat) (fr : Fr) (H : Hp) : Prop :=
  fr si = .d (.int .i64 (i : Int)) ∧ fr sn = .d (.int .i64 (n : Int)) ∧ ∃ k, m ≤ k ∧ k ≤ H.length ∧ J (i + 1) (Fr.clr k ((fr.set st (.d (.int .i64 ((i : Int) + 1)))).set si (.d (.int .i64 ((i : Int) + 1))))) (Hp.cut k H)

@[congr] theorem NextK_congr {J : Nat → Fr → Hp → Prop} {t : Tag J} {m n si sn st i : Nat} {fr fr' : Fr} {H H' : Hp} (h : fr = fr') (h2 : H = H') : NextK J t m n si sn st i fr H = NextK J t m n si sn st i fr' H' := by rw [h, h2]

theorem NextK_of {J : Nat → Fr → Hp → Prop} {t : Tag J} {m n si sn st i : Nat} {fr : Fr} {H : Hp} (k : Nat) (hk : m ≤ k) (h : k ≤ H.length ∧ fr si = .d (.int .i64 (i : Int)) ∧ fr sn = .d (.int .i64 (n : Int)))
    (hj : J (i + 1) (Fr.clr k ((fr.set st (.d (.int .i64 ((i : Int) + 1)))).set si (.d (.int .i64 ((i : Int) + 1))))) (Hp.cut k H)) : NextK J t m n si sn st i fr H :=
  ⟨h.2.1, h.2.2, k, hk, h.1, hj⟩

def rangeC (si sn sb st b c : Nat) (body : C) : C :=
  .seq (.ops [⟨some sb, none, .bin .lss (.t si) (.t sn)⟩] false) (.seq (.cond (.t sb) .skip (.exit b)) (.seq (.blk c body) (.ops [⟨some st, none, .bin .add (.t si) (.c (.int .i64 1))⟩, ⟨some si, none, .mv (.t st)⟩] false)))

/-- A LOOP OVER THE ROWS OF A SLICE -/
theorem RangeK_of {P : Program} {n0 : Nat} {Q : Ex → Fr → Hp → Prop} {fr : Fr} {H : Hp} {si sn sb st b c : Nat} {body : C} {t : Tag (Q, rangeC si sn sb st b c body)} (m n : Nat) (J : Nat → Fr → Hp → Prop) (hn : n ≤ 4611686018427387904)
    (hne : (si ≠ sn ∧ si ≠ sb ∧ sn ≠ sb) ∧ (sb ≠ st ∧ sn ≠ st)) (h1 : n0 ≤ m ∧ m ≤ H.length) (h2 : fr si = .d (.int .i64 0) ∧ fr sn = .d (.int .i64 (n : Int))) (h3 : J 0 (fr.clr m) (Hp.cut m H))
    (h4 : ∀ i fr H, i < n → fr si = .d (.int .i64 (i : Int)) → fr sn = .d (.int .i64 (n : Int)) → J i fr H →
      AWp P n0 body (Ex.blk c (Ex.then (NextK J .mk m n si sn st i) Q)) (fr.set sb (.d (.bool true))) H)
    (h5 : ∀ fr H, fr si = .d (.int .i64 (n : Int)) → fr sn = .d (.int .i64 (n : Int)) → J n fr H → Q (.exit b) (fr.set sb (.d (.bool false))) H) :
    LoopK Q (rangeC si sn sb st b c body) t P n0 fr H := by
  obtain ⟨⟨n1, n2, n3⟩, n4, n5⟩ := hne
  refine LoopK_of m (fun fr H => ∃ i : Nat, i ≤ n ∧ fr si = .d (.int .i64 (i : Int)) ∧ fr sn = .d (.int .i64 (n : Int)) ∧ J i fr H) (fun fr H => match fr si with | .d (.int _ k) => (n - k).toNat | _ => 0) h1
    ⟨0, Nat.zero_le _, by simp [h2.1], by simp [h2.2], h3⟩ ?_
  rintro fr H ⟨i, hi, f1, f2, hj⟩
  simp [rangeC, f1, f2]
  refine BrK_split (fun h => ?_) (fun h => ?_)
  · have hlt : i < n := by simpa using h
    have hw : IntKind.i64.wrap ((i : Int) + 1) = i + 1 := wrap_i64 (by omega) (by omega)
    have hd : decide (i < n) = true := by simpa using hlt
    rw [hd]
    simp only [AWp_skip, then_normal, AWp_seq, AWp_blk]
    refine AWp.mono _ ?_ _ _ (h4 i fr H hlt f1 f2 hj)
    intro e fr' H' h
    have fin : NextK J .mk m n si sn st i fr' H' → Ex.then (AWp P n0 (.ops [⟨some st, none, .bin .add (.t si) (.c (.int .i64 1))⟩, ⟨some si, none, .mv (.t st)⟩] false) (Ex.then (Again m (fun fr H => ∃ i : Nat, i ≤ n ∧ fr si = .d (.int .i64 (i : Int)) ∧ fr sn = .d (.int .i64 (n : Int)) ∧ J i fr H) (fun fr H => match fr si with | .d (.int _ k) => (n - k).toNat | _ => 0) (n - i)) Q)) (Ex.then (Again m (fun fr H => ∃ i : Nat, i ≤ n ∧ fr si = .d (.int .i64 (i : Int)) ∧ fr sn = .d (.int .i64 (n : Int)) ∧ J i fr H) (fun fr H => match fr si with | .d (.int _ k) => (n - k).toNat | _ => 0) (n - i)) Q) Ex.normal fr' H' := by
      rintro ⟨g1, g2, k, k1, k2, k3⟩
      simp [g1, hw]
      refine AgainK_ofk k k1 k2 ⟨i + 1, by omega, by simp, by simp [n1.symm, n5, g2], ?_⟩ ?_
      · exact k3
      · simp; omega
    cases e with
    | normal => exact fin h
    | exit j =>
      simp only [blk_exit] at h ⊢
      by_cases hj : j = c
      · rw [if_pos hj] at h ⊢; exact fin h
      · rw [if_neg hj] at h ⊢; exact h
    | ret => exact h
  · have : i = n := by have : ¬ i < n := by simpa using h
                       omega
    subst this
    simp
    exact h5 fr H f1 f2 hj

/-- what a round of a counted loop hands on -/
def NextF (J : Nat → Fr → Hp → Prop) (_ : Tag J) (m n si su sv : Nat) (i : Nat) (fr : Fr) (H : Hp) : Prop :=
  fr si = .d (.int .i64 (i : Int)) ∧ i < n ∧ ∃ k, m ≤ k ∧ k ≤ H.length ∧ J (i + 1) (Fr.clr k (((fr.set su (.d (.int .i64 (i : Int)))).set sv (.d (.int .i64 ((i : Int) + 1)))).set si (.d (.int .i64 ((i : Int) + 1))))) (Hp.cut k H)

@[congr] theorem NextF_congr {J : Nat → Fr → Hp → Prop} {t : Tag J} {m n si su sv i : Nat} {fr fr' : Fr} {H H' : Hp} (h : fr = fr') (h2 : H = H') : NextF J t m n si su sv i fr H = NextF J t m n si su sv i fr' H' := by rw [h, h2]

theorem NextF_of {J : Nat → Fr → Hp → Prop} {t : Tag J} {m n si su sv i : Nat} {fr : Fr} {H : Hp} (k : Nat) (hk : m ≤ k) (hi : i < n) (h : k ≤ H.length ∧ fr si = .d (.int .i64 (i : Int)))
    (hj : J (i + 1) (Fr.clr k (((fr.set su (.d (.int .i64 (i : Int)))).set sv (.d (.int .i64 ((i : Int) + 1)))).set si (.d (.int .i64 ((i : Int) + 1))))) (Hp.cut k H)) : NextF J t m n si su sv i fr H :=
  ⟨h.2, hi, k, hk, h.1, hj⟩

def forC (si su sv c : Nat) (cnd body : C) : C :=
  .seq cnd (.seq (.blk c body) (.ops [⟨some su, none, .mv (.t si)⟩, ⟨some sv, none, .bin .add (.t su) (.c (.int .i64 1))⟩, ⟨some si, none, .mv (.t sv)⟩] false))

/-- A LOOP THAT COUNTS -/
theorem ForK_of {P : Program} {n0 : Nat} {Q : Ex → Fr → Hp → Prop} {fr : Fr} {H : Hp} {si su sv c : Nat} {cnd body : C} {t : Tag (Q, forC si su sv c cnd body)} (m n : Nat) (J : Nat → Fr → Hp → Prop) (hn : n ≤ 4611686018427387904)
    (hne : si ≠ su ∧ si ≠ sv ∧ su ≠ sv) (h1 : n0 ≤ m ∧ m ≤ H.length) (h2 : fr si = .d (.int .i64 0)) (h3 : J 0 (fr.clr m) (Hp.cut m H))
    (h4 : ∀ i fr H, i ≤ n → fr si = .d (.int .i64 (i : Int)) → J i fr H →
      AWp P n0 cnd (Ex.then (AWp P n0 body (Ex.blk c (Ex.then (NextF J .mk m n si su sv i) Q))) Q) fr H) :
    LoopK Q (forC si su sv c cnd body) t P n0 fr H := by
  obtain ⟨n1, n2, n3⟩ := hne
  refine LoopK_of m (fun fr H => ∃ i : Nat, i ≤ n ∧ fr si = .d (.int .i64 (i : Int)) ∧ J i fr H) (fun fr H => match fr si with | .d (.int _ k) => (n - k).toNat | _ => 0) h1
    ⟨0, Nat.zero_le _, by simp [h2], h3⟩ ?_
  rintro fr H ⟨i, hi, f1, hj⟩
  simp only [forC, AWp_seq]
  refine AWp.mono _ ?_ _ _ (h4 i fr H hi f1 hj)
  intro e fr' H' h
  cases e with
  | normal =>
    simp only [then_normal, AWp_seq, AWp_blk] at h ⊢
    refine AWp.mono _ ?_ _ _ h
    intro e fr' H' h
    have fin : NextF J .mk m n si su sv i fr' H' → AWp P n0 (.ops [⟨some su, none, .mv (.t si)⟩, ⟨some sv, none, .bin .add (.t su) (.c (.int .i64 1))⟩, ⟨some si, none, .mv (.t sv)⟩] false) (Ex.then (Again m (fun fr H => ∃ i : Nat, i ≤ n ∧ fr si = .d (.int .i64 (i : Int)) ∧ J i fr H) (fun fr H => match fr si with | .d (.int _ k) => (n - k).toNat | _ => 0) (match fr si with | .d (.int _ k) => (n - k).toNat | _ => 0)) Q) fr' H' := by
      rintro ⟨g1, g0, k, k1, k2, k3⟩
      have hw : IntKind.i64.wrap ((i : Int) + 1) = i + 1 := wrap_i64 (by omega) (by omega)
      simp [g1, hw, f1]
      refine AgainK_ofk k k1 k2 ⟨i + 1, by omega, by simp, ?_⟩ ?_
      · exact k3
      · simp; omega
    cases e with
    | normal => simp only [blk_normal, then_normal] at h ⊢; exact fin h
    | exit j =>
      simp only [blk_exit] at h ⊢
      by_cases hj : j = c
      · rw [if_pos hj] at h ⊢; exact fin h
      · rw [if_neg hj] at h ⊢; exact h
    | ret => exact h
  | exit j => exact h
  | ret => exact h

/-- where a loop is left by one exit, what holds there -/
def Ex.outE (b : Nat) (E : Fr → Hp → Prop) (Q : Ex → Fr → Hp → Prop) : Ex → Fr → Hp → Prop
  | .exit j, fr, H => if j = b then E fr H else Q (.exit j) fr H
  | e, fr, H => Q e fr H

@[simp ↓] theorem outE_exit (b j : Nat) {E : Fr → Hp → Prop} {Q : Ex → Fr → Hp → Prop} {fr : Fr} {H : Hp} : Ex.outE b E Q (.exit j) fr H = if j = b then E fr H else Q (.exit j) fr H := propext Iff.rfl
@[simp ↓] theorem outE_ret (b : Nat) {E : Fr → Hp → Prop} {Q : Ex → Fr → Hp → Prop} {fr : Fr} {H : Hp} : Ex.outE b E Q .ret fr H = Q .ret fr H := propext Iff.rfl
@[simp ↓] theorem outE_normal (b : Nat) {E : Fr → Hp → Prop} {Q : Ex → Fr → Hp → Prop} {fr : Fr} {H : Hp} : Ex.outE b E Q .normal fr H = Q .normal fr H := propext Iff.rfl

/-- a loop that is left by one exit, or returns -/
def Ex.outR (b : Nat) (E R : Fr → Hp → Prop) : Ex → Fr → Hp → Prop
  | .exit j, fr, H => if j = b then E fr H else False
  | .ret, fr, H => R fr H
  | .normal, _, _ => False

@[simp ↓] theorem outR_exit (b j : Nat) {E R : Fr → Hp → Prop} {fr : Fr} {H : Hp} : Ex.outR b E R (.exit j) fr H = if j = b then E fr H else False := propext Iff.rfl
@[simp ↓] theorem outR_ret (b : Nat) {E R : Fr → Hp → Prop} {fr : Fr} {H : Hp} : Ex.outR b E R .ret fr H = R fr H := propext Iff.rfl

theorem LoopK_outR {P : Program} {n0 : Nat} {Q : Ex → Fr → Hp → Prop} {fr : Fr} {H : Hp} {c : C} {t : Tag (Q, c)} (b : Nat) (E R : Fr → Hp → Prop) (h : LoopK (Ex.outR b E R) c .mk P n0 fr H) (hret : ∀ fr H, R fr H → Q .ret fr H) (hout : ∀ fr H, E fr H → Q (.exit b) fr H) : LoopK Q c t P n0 fr H :=
  AWp.mono (.loop c) (fun e fr H h => by
    cases e with
    | normal => exact h.elim
    | ret => exact hret fr H h
    | exit j =>
      simp only [outR_exit] at h
      by_cases hj : j = b
      · rw [if_pos hj] at h; rw [hj]; exact hout fr H h
      · rw [if_neg hj] at h; exact h.elim) fr H h

/-- a step that ends, or returns -/
def Ex.outN (E R : Fr → Hp → Prop) : Ex → Fr → Hp → Prop
  | .exit _, _, _ => False
  | .ret, fr, H => R fr H
  | .normal, fr, H => E fr H

@[simp ↓] theorem outN_normal {E R : Fr → Hp → Prop} {fr : Fr} {H : Hp} : Ex.outN E R .normal fr H = E fr H := propext Iff.rfl
@[simp ↓] theorem outN_ret {E R : Fr → Hp → Prop} {fr : Fr} {H : Hp} : Ex.outN E R .ret fr H = R fr H := propext Iff.rfl

theorem Seq_out {P : Program} {n0 : Nat} {Q : Ex → Fr → Hp → Prop} {fr : Fr} {H : Hp} {a b : C} (E R : Fr → Hp → Prop) (h : AWp P n0 a (Ex.outN E R) fr H) (hret : ∀ fr H, R fr H → Q .ret fr H) (hout : ∀ fr H, E fr H → AWp P n0 b Q fr H) : AWp P n0 (.seq a b) Q fr H :=
  AWp.mono a (fun e fr H h => by
    cases e with
    | normal => exact hout fr H h
    | ret => exact hret fr H h
    | exit j => exact h.elim) fr H h

/-- what a call yields, memory as it was -/
def Is (v : A) (H : Hp) : A → Hp → Prop := fun r H' => r = v ∧ H' = H
/-- a return of it -/
def RetIs (rs : List Res) (n0 : Nat) (v : A) (H0 : Hp) (fr : Fr) (H : Hp) : Prop := RetK (Is v H0) .mk n0 (resA fr H rs) H

theorem LoopK_out {P : Program} {n0 : Nat} {Q : Ex → Fr → Hp → Prop} {fr : Fr} {H : Hp} {c : C} {t : Tag (Q, c)} (b : Nat) (E : Fr → Hp → Prop) (h : LoopK (Ex.outE b E Q) c .mk P n0 fr H) (hout : ∀ fr H, E fr H → Q (.exit b) fr H) : LoopK Q c t P n0 fr H :=
  AWp.mono (.loop c) (fun e fr H h => by
    cases e with
    | normal => exact h
    | ret => exact h
    | exit j =>
      simp only [outE_exit] at h
      by_cases hj : j = b
      · rw [if_pos hj] at h; rw [hj]; exact hout fr H h
      · rw [if_neg hj] at h; exact h) fr H h

end Go.Zam

namespace Go.Zam
set_option linter.all false
set_option maxRecDepth 100000

theorem arrE_map {α : Type} (enc : α → List D) (sz : Nat) (L : List α) : arrE enc sz L = .arr sz ((L.map enc).map (List.map .d)) := by
  simp [arrE, rowE]

theorem sortVec {P : Program} {α : Type} {enc : α → List D} {sz : Nat} {c : α → α → Int} (hc : Cmp c) {L : List α} {f : FuncId} {g : A}
    (hs : ∀ (H : Hp) (i : Nat), H[i]? = some (arrE enc sz L) → ACall P f [.msl i 0 L.length, g] H (fun r' H' => r' = .tup [] ∧ H' = H.set i (arrE enc sz (ssort c L))))
    {H : Hp} {i k e : Nat} (hi : H[i]? = some (.vec sz e k (L.map enc))) (hne : L ≠ []) (hH : ∀ m x, m ≠ i → H[m]? = some x → x.off i = true) :
    ACall P f [.vsl i k L.length, g] H (fun r' H' => r' = .tup [] ∧ H' = H.set i (.vec sz e k ((ssort c L).map enc))) := by
  have h1 := hs (H.set i .dead ++ [.arr sz ((L.map enc).map (List.map .d))]) H.length (by rw [arrE_map, show H.length = (H.set i Ob.dead).length by simp, getElem?_app0]; rfl)
  have h2 : (H.set i .dead ++ [Ob.arr sz ((L.map enc).map (List.map .d))]).set H.length (arrE enc sz (ssort c L)) = H.set i .dead ++ [.arr sz (((ssort c L).map enc).map (List.map .d))] := by
    rw [arrE_map, show H.length = (H.set i Ob.dead).length by simp, set_app0]; rfl
  rw [h2] at h1
  have := ACall.thaw (P := P) (f := f) (rows' := (ssort c L).map enc) (args := [g]) (v := .tup []) hi (by simpa using hne) hH ⟨rfl, rfl⟩ (by simp [ssort_length hc]) (by rw [List.length_map]; exact h1)
  rw [List.length_map] at this
  exact this

end Go.Zam

namespace Go.Zam
open Go.RowKit (Below)
set_option linter.all false
set_option maxRecDepth 100000

/-- what comes after a world that is the same below its end -/
theorem HR.later {κ : K} {H : Hp} {w w' : World} (h : HR κ H w) (hb : Below w.heap.size w w') : HR κ H w' := by
  have hst : ∀ b o v, κ.σ b o = some v → b < w.heap.size := fun b o v hv => World.block_lt_of_cell? w ⟨b, o, none⟩ (h.st b o v hv)
  refine ⟨h.below.trans (hb.mono h.below.size), fun b o v hv => ?_, fun i x hx => ?_, h.dom, fun i b hi => ?_, h.exσ, h.exd, h.fl⟩
  · rw [(cell_of_block (hb.block b (hst b o v hv)) o).1]; exact h.st b o v hv
  · exact (h.ob i x hx).mono (K.le_refl κ) rfl fun b hb' => hb.block b (h.ex i b hb').2
  · have := h.ex i b hi
    have := hb.size
    omega

/-- A LEAF: a function of the library, of pure data -/
theorem leaf {P : Program} {f : FuncId} {args : List D} {x : D}
    (h : ∀ (w : World) (σ : St) (vs : List Value), (∀ b o v, σ b o = some v → w.cell? ⟨b, o, none⟩ = some v) → vs.length = args.length → (∀ (i : Nat) (v : Value) (d : D), vs[i]? = some v → args[i]? = some d → DR σ v d) →
      Calls P f vs.toArray w fun e w' => ∃ v, e = .returned v ∧ Below w.heap.size w w' ∧ ∀ σ, DR σ v x) (H : Hp) : ACall P f (args.map .d) H (fun r H' => r = .d x ∧ H' = H) := by
  intro κ w vs hr hl hv
  refine (h w κ.σ vs hr.st (by simpa using hl) (fun i v d hi hd => (hv i v (.d d) hi (by simp [hd])).d_inv)).mono ?_
  rintro e w' ⟨v, rfl, hb, hd⟩
  exact ⟨v, κ, _, H, rfl, K.le_refl κ, hr.later hb, .d (hd _), rfl, rfl⟩

theorem DR.str_inv {σ : St} {v : Value} {s : List UInt8} (h : DR σ v (.str s)) : v = .string ⟨s.toArray⟩ := by
  cases h with
  | str u => simp
theorem DR.int_inv {σ : St} {v : Value} {k : IntKind} {n : Int} (h : DR σ v (.int k n)) : v = .int k n := by cases h; rfl

theorem DR.strOf {σ : St} (l : List UInt8) : DR σ (.string ⟨l.toArray⟩) (.str l) := by
  have := DR.str (σ := σ) ⟨l.toArray⟩
  simpa using this

/-- a slice that may be appended to, where a plain one is asked for -/
theorem ACall.oslAt {P : Program} {f : FuncId} {H : Hp} {Q : A → Hp → Prop} {pre l : List A} {z : Bool} {s t : Nat} {rows : List (List D)} (h : ACall P f (pre ++ .d (.sl z s rows) :: l) H Q) : ACall P f (pre ++ .osl z s rows t :: l) H Q := by
  intro κ w vs hr hl hv
  refine h κ w vs hr (by simpa using hl) fun i v a hi ha => ?_
  by_cases e : i = pre.length
  · subst e
    have h1 := hv pre.length v (.osl z s rows t) hi (by simp)
    rw [List.getElem?_append_right (Nat.le_refl _), Nat.sub_self] at ha
    cases ha
    cases h1 with
    | osl hd _ => exact .d hd
  · refine hv i v a hi ?_
    by_cases hlt : i < pre.length
    · rw [List.getElem?_append_left hlt] at ha ⊢; exact ha
    · rw [List.getElem?_append_right (by omega)] at ha ⊢
      obtain ⟨k, hk⟩ : ∃ k, i - pre.length = k + 1 := ⟨i - pre.length - 1, by omega⟩
      rw [hk] at ha ⊢
      exact ha

theorem ACall.osl1 {P : Program} {f : FuncId} {H : Hp} {Q : A → Hp → Prop} {l : List A} {z : Bool} {s t : Nat} {rows : List (List D)} (h : ACall P f (.d (.sl z s rows) :: l) H Q) : ACall P f (.osl z s rows t :: l) H Q := ACall.oslAt (pre := []) h
theorem ACall.osl2 {P : Program} {f : FuncId} {H : Hp} {Q : A → Hp → Prop} {a : A} {l : List A} {z : Bool} {s t : Nat} {rows : List (List D)} (h : ACall P f (a :: .d (.sl z s rows) :: l) H Q) : ACall P f (a :: .osl z s rows t :: l) H Q := ACall.oslAt (pre := [a]) h

def irWriteByte (cc et : Nat) : IFn :=
 { nt := 17, res := [.t 4], body := (
  .seq (.ops [
    ⟨(some 4), none, .mv (.c .nili)⟩] false)
  (.seq (.ops [
    ⟨(some 5), none, .mv (.t 0)⟩,
    ⟨(some 6), none, .call cc [(.t 5)]⟩] false)
  (.seq (.ops [
    ⟨(some 7), none, .mv (.t 0)⟩,
    ⟨(some 8), none, .mv (.t 0)⟩,
    ⟨(some 9), none, .nilCheck (.t 8)⟩,
    ⟨(some 10), none, .faddr 1 (.t 9)⟩,
    ⟨(some 11), none, .load 1 false (.t 10)⟩,
    ⟨(some 12), none, .mv (.t 1)⟩,
    ⟨(some 13), none, .bslice 1 [(.t 12)]⟩,
    ⟨(some 14), none, .app 1 1 et (.t 11) (.t 13)⟩,
    ⟨(some 15), none, .nilCheck (.t 7)⟩,
    ⟨(some 16), none, .faddr 1 (.t 15)⟩,
    ⟨none, none, .store 1 (.t 16) (.t 14)⟩] false)
  (.seq (.ops [
    ⟨(some 4), none, .mv (.c .nili)⟩] false)
  (.ret))))) }

theorem writeByte_acall {P : Program} {f cc bt et : Nat} {fn : Func} (hf : P.funcs[f]? = some fn) (hcf : compF P [] fn = some (irWriteByte cc et)) (hcc : CopyOk P cc bt) (H : Hp) (i t : Nat) (a : A) (bs : List UInt8) (c : UInt8)
    (hi : H[i]? = some (.box bt [a, .osl true 1 (byteRows bs) t])) (ha : a = .d .nilp ∨ a = .ptr i 0) (ht : H[t]? = some (.tok bs.length 1 et)) (hb : bs.length + 1 ≤ 140737488355328) :
    ACall P f [.ptr i 0, .d (.int .u8 c.toNat)] H (fun r H' => r = .d .nili ∧ H' = (H.set i (.box bt [.ptr i 0, .osl true 1 (byteRows (bs ++ [c])) t])).set t (.tok (bs ++ [c]).length 1 et)) := by
  have hit : i ≠ t := fun e => by subst e; rw [hi] at ht; cases ht
  have hil : i < H.length := (List.getElem?_eq_some_iff.1 hi).1
  have htl : t < H.length := (List.getElem?_eq_some_iff.1 ht).1
  refine acall_fin hf hcf (by simp [irWriteByte]) fun hcl hlo => ?_
  simp [irWriteByte]
  refine CallK_of' (hcc _ _ _ _ hi ha) ?_
  have hbl : (byteRows bs).length = bs.length := by simp [byteRows]
  have ht' : (H.set i (.box bt [.ptr i 0, .osl true 1 (byteRows bs) t]))[t]? = some (.tok (byteRows bs).length 1 et) := by
    rw [List.getElem?_set_ne hit, ht, hbl]
  have htv : H[t] = Ob.tok bs.length 1 et := (List.getElem?_eq_some_iff.1 ht).2
  have hb' : bs.length ≤ 140737488355327 := by omega
  simp [hil, htl, hit, htv, hb', appA, hbl, Ne.symm hit]
  simp [RetK, Hp.cut_set, cut_self hcl, hil, htl, byteRows]
  rw [List.set_comm _ _ hit, List.set_comm _ _ hit, List.set_set]

end Go.Zam

namespace Go.Zam
set_option linter.all false
set_option maxRecDepth 100000
set_option maxHeartbeats 1000000

def irDigit : IFn :=
 { nt := 9, res := [.t 2], body := (
  .seq (.ops [
    ⟨(some 2), none, .mv (.c (.bool false))⟩] false)
  (.seq (.ops [
    ⟨(some 3), none, .mv (.t 0)⟩,
    ⟨(some 4), none, .bin .geq (.t 3) (.c (.int .u8 48))⟩,
    ⟨(some 5), none, .mv (.t 4)⟩,
    ⟨(some 6), (some (5, true)), .mv (.t 0)⟩,
    ⟨(some 7), (some (5, true)), .bin .leq (.t 6) (.c (.int .u8 57))⟩,
    ⟨(some 8), none, .pick (.t 5) (.t 7) (.c (.bool false))⟩,
    ⟨(some 2), none, .mv (.t 8)⟩] false)
  (.ret))) }

def irLetter : IFn :=
 { nt := 21, res := [.t 2], body := (
  .seq (.ops [
    ⟨(some 2), none, .mv (.c (.bool false))⟩] false)
  (.seq (.ops [
    ⟨(some 3), none, .mv (.t 0)⟩,
    ⟨(some 4), none, .bin .geq (.t 3) (.c (.int .u8 97))⟩,
    ⟨(some 5), none, .mv (.t 4)⟩,
    ⟨(some 6), (some (5, true)), .mv (.t 0)⟩,
    ⟨(some 7), (some (5, true)), .bin .leq (.t 6) (.c (.int .u8 122))⟩,
    ⟨(some 8), none, .pick (.t 5) (.t 7) (.c (.bool false))⟩,
    ⟨(some 9), none, .mv (.t 8)⟩,
    ⟨(some 10), (some (9, false)), .mv (.t 0)⟩,
    ⟨(some 11), (some (9, false)), .bin .geq (.t 10) (.c (.int .u8 65))⟩,
    ⟨(some 12), (some (9, false)), .mv (.t 11)⟩,
    ⟨(some 13), (some (12, true)), .mv (.t 0)⟩,
    ⟨(some 14), (some (12, true)), .bin .leq (.t 13) (.c (.int .u8 90))⟩,
    ⟨(some 15), (some (9, false)), .pick (.t 12) (.t 14) (.c (.bool false))⟩,
    ⟨(some 16), none, .pick (.t 9) (.c (.bool true)) (.t 15)⟩,
    ⟨(some 17), none, .mv (.t 16)⟩,
    ⟨(some 18), (some (17, false)), .mv (.t 0)⟩,
    ⟨(some 19), (some (17, false)), .bin .eql (.t 18) (.c (.int .u8 95))⟩,
    ⟨(some 20), none, .pick (.t 17) (.c (.bool true)) (.t 19)⟩,
    ⟨(some 2), none, .mv (.t 20)⟩] false)
  (.ret))) }

def irIsKey : IFn :=
 { nt := 18, res := [.t 2], body := (
  .seq (.ops [
    ⟨(some 2), none, .mv (.c (.bool false))⟩] false)
  (.seq (.ops [
    ⟨(some 5), none, .bslice 1 [(.c (.str [117, 115, 101])), (.c (.str [100, 101, 102])), (.c (.str [108, 101, 116])), (.c (.str [105, 102])), (.c (.str [101, 108, 115, 101])), (.c (.str [119, 104, 105, 108, 101])), (.c (.str [112, 114, 105, 110, 116])), (.c (.str [114, 101, 116, 117, 114, 110])), (.c (.str [102, 110])), (.c (.str [105, 110, 112, 117, 116])), (.c (.str [105, 110, 116])), (.c (.str [115, 116, 114])), (.c (.str [100, 121, 110]))]⟩,
    ⟨(some 3), none, .mv (.t 5)⟩] false)
  (.seq (.seq (.ops [
     ⟨(some 4), none, .mv (.c (.int .i64 0))⟩] false)
   (.blk 0 (.loop (.seq (.seq (.ops [
        ⟨(some 6), none, .mv (.t 4)⟩,
        ⟨(some 7), none, .mv (.t 3)⟩,
        ⟨(some 8), none, .lenL (.t 7)⟩,
        ⟨(some 9), none, .bin .lss (.t 6) (.t 8)⟩] false)
      (.cond (.t 9) (.skip)
      (.exit 0)))
     (.seq (.blk 1 (.seq (.ops [
         ⟨(some 12), none, .mv (.t 3)⟩,
         ⟨(some 13), none, .mv (.t 4)⟩,
         ⟨(some 14), none, .iaddr 1 (.t 12) (.t 13)⟩,
         ⟨(some 15), none, .load 1 false (.t 14)⟩,
         ⟨(some 16), none, .mv (.t 0)⟩,
         ⟨(some 17), none, .bin .eql (.t 15) (.t 16)⟩] false)
       (.cond (.t 17) (.seq (.ops [
          ⟨(some 2), none, .mv (.c (.bool true))⟩] false)
        (.ret))
       (.skip))))
     (.ops [
      ⟨(some 10), none, .mv (.t 4)⟩,
      ⟨(some 11), none, .bin .add (.t 10) (.c (.int .i64 1))⟩,
      ⟨(some 4), none, .mv (.t 11)⟩] false))))))
  (.seq (.ops [
    ⟨(some 2), none, .mv (.c (.bool false))⟩] false)
  (.ret))))) }

def irIsName (fk fd fl : Nat) : IFn :=
 { nt := 39, res := [.t 2], body := (
  .seq (.ops [
    ⟨(some 2), none, .mv (.c (.bool false))⟩] false)
  (.seq (.seq (.ops [
     ⟨(some 4), none, .mv (.t 0)⟩,
     ⟨(some 5), none, .lenS (.t 4)⟩,
     ⟨(some 6), none, .bin .eql (.t 5) (.c (.int .i64 0))⟩,
     ⟨(some 7), none, .mv (.t 6)⟩,
     ⟨(some 8), (some (7, false)), .mv (.t 0)⟩,
     ⟨(some 9), (some (7, false)), .lenS (.t 8)⟩,
     ⟨(some 10), (some (7, false)), .bin .gtr (.t 9) (.c (.int .i64 40))⟩,
     ⟨(some 11), none, .pick (.t 7) (.c (.bool true)) (.t 10)⟩,
     ⟨(some 12), none, .mv (.t 11)⟩,
     ⟨(some 13), (some (12, false)), .mv (.t 0)⟩,
     ⟨(some 14), (some (12, false)), .call fk [(.t 13)]⟩,
     ⟨(some 15), none, .pick (.t 12) (.c (.bool true)) (.t 14)⟩,
     ⟨(some 16), none, .mv (.t 15)⟩,
     ⟨(some 17), (some (16, false)), .mv (.t 0)⟩,
     ⟨(some 18), (some (16, false)), .sidx (.t 17) (.c (.int .i64 0))⟩,
     ⟨(some 19), (some (16, false)), .call fd [(.t 18)]⟩,
     ⟨(some 20), none, .pick (.t 16) (.c (.bool true)) (.t 19)⟩] false)
   (.cond (.t 20) (.seq (.ops [
      ⟨(some 2), none, .mv (.c (.bool false))⟩] false)
    (.ret))
   (.skip)))
  (.seq (.seq (.ops [
     ⟨(some 3), none, .mv (.c (.int .i64 0))⟩] false)
   (.blk 0 (.loop (.seq (.seq (.ops [
        ⟨(some 21), none, .mv (.t 3)⟩,
        ⟨(some 22), none, .mv (.t 0)⟩,
        ⟨(some 23), none, .lenS (.t 22)⟩,
        ⟨(some 24), none, .bin .lss (.t 21) (.t 23)⟩] false)
      (.cond (.t 24) (.skip)
      (.exit 0)))
     (.seq (.blk 1 (.seq (.ops [
         ⟨(some 27), none, .mv (.t 0)⟩,
         ⟨(some 28), none, .mv (.t 3)⟩,
         ⟨(some 29), none, .sidx (.t 27) (.t 28)⟩,
         ⟨(some 30), none, .call fl [(.t 29)]⟩,
         ⟨(some 31), none, .un .not (.t 30)⟩,
         ⟨(some 32), none, .mv (.t 31)⟩,
         ⟨(some 33), (some (32, true)), .mv (.t 0)⟩,
         ⟨(some 34), (some (32, true)), .mv (.t 3)⟩,
         ⟨(some 35), (some (32, true)), .sidx (.t 33) (.t 34)⟩,
         ⟨(some 36), (some (32, true)), .call fd [(.t 35)]⟩,
         ⟨(some 37), (some (32, true)), .un .not (.t 36)⟩,
         ⟨(some 38), none, .pick (.t 32) (.t 37) (.c (.bool false))⟩] false)
       (.cond (.t 38) (.seq (.ops [
          ⟨(some 2), none, .mv (.c (.bool false))⟩] false)
        (.ret))
       (.skip))))
     (.ops [
      ⟨(some 25), none, .mv (.t 3)⟩,
      ⟨(some 26), none, .bin .add (.t 25) (.c (.int .i64 1))⟩,
      ⟨(some 3), none, .mv (.t 26)⟩] false))))))
  (.seq (.ops [
    ⟨(some 2), none, .mv (.c (.bool true))⟩] false)
  (.ret))))) }

def digitB (b : UInt8) : Bool := decide ((48 : Int) ≤ b.toNat) && decide ((b.toNat : Int) ≤ 57)
def letterB (b : UInt8) : Bool := (decide ((97 : Int) ≤ b.toNat) && decide ((b.toNat : Int) ≤ 122)) || (decide ((65 : Int) ≤ b.toNat) && decide ((b.toNat : Int) ≤ 90)) || decide ((b.toNat : Int) = 95)
def keysL : List (List UInt8) := [[117, 115, 101], [100, 101, 102], [108, 101, 116], [105, 102], [101, 108, 115, 101], [119, 104, 105, 108, 101], [112, 114, 105, 110, 116], [114, 101, 116, 117, 114, 110], [102, 110], [105, 110, 112, 117, 116], [105, 110, 116], [115, 116, 114], [100, 121, 110]]
def isNameB (s : List UInt8) : Bool := match s with
  | [] => false
  | b :: r => decide ((b :: r).length ≤ 40) && !decide ((b :: r) ∈ keysL) && !digitB b && (b :: r).all fun c => letterB c || digitB c

section
variable {P : Program}

theorem digit_acall {f : FuncId} {fn : Func} (hf : P.funcs[f]? = some fn) (hcf : compF P [] fn = some irDigit) (b : UInt8) (H : Hp) : ACall P f [.d (.int .u8 b.toNat)] H (fun r H' => r = .d (.bool (digitB b)) ∧ H' = H) := by
  refine acall_fin hf hcf (by simp [irDigit]) fun hcl _ => ?_
  simp [irDigit]
  refine GdK_split (by simp) (fun h => ?_) (fun h => ?_)
  · simp
    simp at h
    simp [RetK, cut_self hcl, digitB, h]
  · simp
    simp at h
    simp [RetK, cut_self hcl, digitB]
    omega

theorem letter_acall {f : FuncId} {fn : Func} (hf : P.funcs[f]? = some fn) (hcf : compF P [] fn = some irLetter) (b : UInt8) (H : Hp) : ACall P f [.d (.int .u8 b.toNat)] H (fun r H' => r = .d (.bool (letterB b)) ∧ H' = H) := by
  refine acall_fin hf hcf (by simp [irLetter]) fun hcl _ => ?_
  simp [irLetter]
  generalize ha : decide ((97 : Int) ≤ b.toNat) = a
  generalize hb : decide ((b.toNat : Int) ≤ 122) = c
  generalize hd : decide ((65 : Int) ≤ b.toNat) = d
  generalize he : decide ((b.toNat : Int) ≤ 90) = e
  have hl : letterB b = (a && c || d && e || decide ((b.toNat : Int) = 95)) := by simp only [letterB, ha, hb, hd, he]
  cases a <;> cases c <;> cases d <;> cases e <;> simp [ha, hb, hd, he] <;> simp [RetK, cut_self hcl, hl]

theorem isKey_acall {f : FuncId} {fn : Func} (hf : P.funcs[f]? = some fn) (hcf : compF P [] fn = some irIsKey) (s : List UInt8) (H : Hp) : ACall P f [.d (.str s)] H (fun r H' => r = .d (.bool (decide (s ∈ keysL))) ∧ H' = H) := by
  refine acall_fin hf hcf (by simp [irIsKey]) fun hcl _ => ?_
  simp [irIsKey]
  have hrows : [[D.str [117, 115, 101]], [D.str [100, 101, 102]], [D.str [108, 101, 116]], [D.str [105, 102]], [D.str [101, 108, 115, 101]], [D.str [119, 104, 105, 108, 101]], [D.str [112, 114, 105, 110, 116]], [D.str [114, 101, 116, 117, 114, 110]], [D.str [102, 110]], [D.str [105, 110, 112, 117, 116]], [D.str [105, 110, 116]], [D.str [115, 116, 114]], [D.str [100, 121, 110]]] = keysL.map fun x => [D.str x] := rfl
  rw [hrows]
  refine LoopK_outR 0 (fun fr H' => s ∉ keysL ∧ H' = H) (fun fr H' => fr 2 = .d (.bool true) ∧ s ∈ keysL ∧ H' = H) ?_ ?_ ?_
  · refine ForK_of H.length keysL.length (fun i fr H' => fr 0 = .d (.str s) ∧ fr 3 = .d (.sl false 1 (keysL.map fun x => [D.str x])) ∧ s ∉ keysL.take i ∧ H' = H) (by decide) (by decide) (by simp) (by simp) ?_ ?_
    · simp [cut_self hcl]
    · rintro i fr H' hi f4 ⟨f0, f3, hn, rfl⟩
      simp [f4, f3]
      refine BrK_split (fun h => ?_) (fun h => ?_)
      · have hlt : i < keysL.length := by simpa using h
        have hr := rowAt_map (fun x => [D.str x]) hlt
        have hm := List.getElem_mem hlt
        have ht : keysL.take (i + 1) = keysL.take i ++ [keysL[i]] := List.take_succ_eq_append_getElem hlt
        generalize keysL[i] = x at hr hm ht
        simp [f4, f3, hr, f0]
        refine BrK_split (fun h => ?_) (fun h => ?_)
        · have e : x = s := by simpa using h
          simp
          exact e ▸ hm
        · have e : x ≠ s := by simpa using h
          simp
          refine NextF_of H'.length (Nat.le_refl _) hlt (by simp [f4]) ?_
          simp [f0, f3, cut_self hcl, ht, hn]
          exact fun q => e q.symm
      · have hii : i = keysL.length := by have : ¬ i < keysL.length := by simpa using h
                                          omega
        rw [hii, List.take_of_length_le (Nat.le_refl _)] at hn
        simp [hn]
  · rintro fr H' ⟨f2, hm, rfl⟩
    simp
    simp [RetK, cut_self hcl, f2, hm]
  · rintro fr H' ⟨hm, rfl⟩
    simp
    simp [RetK, cut_self hcl, hm]

theorem isName_acall {f fk fd fl : FuncId} {fn : Func} (hf : P.funcs[f]? = some fn) (hcf : compF P [] fn = some (irIsName fk fd fl)) (hk : ∀ s H, ACall P fk [.d (.str s)] H (fun r H' => r = .d (.bool (decide (s ∈ keysL))) ∧ H' = H))
    (hd : ∀ (b : UInt8) H, ACall P fd [.d (.int .u8 b.toNat)] H (fun r H' => r = .d (.bool (digitB b)) ∧ H' = H)) (hl : ∀ (b : UInt8) H, ACall P fl [.d (.int .u8 b.toNat)] H (fun r H' => r = .d (.bool (letterB b)) ∧ H' = H)) (s : List UInt8) (H : Hp) :
    ACall P f [.d (.str s)] H (fun r H' => r = .d (.bool (isNameB s)) ∧ H' = H) := by
  refine acall_fin hf hcf (by simp [irIsName]) fun hcl _ => ?_
  cases s with
  | nil =>
    simp [irIsName]
    simp [RetK, cut_self hcl, isNameB]
  | cons b r =>
  have hne : ¬ (((b :: r).length : Int) = 0) := by simp; omega
  generalize hS : b :: r = S at hne
  have hb0 : byteAt S 0 = some b := by subst hS; rfl
  have hN : isNameB S = (decide (S.length ≤ 40) && !decide (S ∈ keysL) && !digitB b && S.all fun c => letterB c || digitB c) := by subst hS; rfl
  have hne' : ¬ S = [] := by subst hS; simp
  by_cases g1 : (40 : Int) < S.length
  case pos =>
    have : ¬ S.length ≤ 40 := by omega
    simp [irIsName, hne, hne', g1]
    simp [RetK, cut_self hcl, hN, this]
  have g1' : S.length ≤ 40 := by omega
  simp [irIsName, hne, hne', g1]
  refine CallK_of' (hk S _) ?_
  by_cases g2 : S ∈ keysL
  case pos =>
    simp [g2]
    simp [RetK, cut_self hcl, hN, g2]
  simp [g2, hb0]
  refine CallK_of' (hd b _) ?_
  cases g3 : digitB b with
  | true =>
    simp
    simp [RetK, cut_self hcl, hN, g3]
  | false =>
  simp
  refine LoopK_outR 0 (fun fr H' => (S.all fun c => letterB c || digitB c) = true ∧ H' = H) (fun fr H' => fr 2 = .d (.bool false) ∧ (S.all fun c => letterB c || digitB c) = false ∧ H' = H) ?_ ?_ ?_
  · refine ForK_of H.length S.length (fun i fr H' => fr 0 = .d (.str S) ∧ (∀ c ∈ S.take i, (letterB c || digitB c) = true) ∧ H' = H) (by omega) (by decide) (by simp) (by simp) ?_ ?_
    · simp [cut_self hcl]
    · rintro i fr H' hi f3 ⟨f0, hA, rfl⟩
      simp [f3, f0]
      refine BrK_split (fun h => ?_) (fun h => ?_)
      · have hlt : i < S.length := by simpa using h
        have hb : byteAt S (i : Int) = some S[i] := by simp [byteAt, hlt]
        have hm := List.getElem_mem hlt
        have ht : S.take (i + 1) = S.take i ++ [S[i]] := List.take_succ_eq_append_getElem hlt
        generalize S[i] = c at hb hm ht
        simp [f3, f0, hb]
        refine CallK_of' (hl c _) ?_
        cases e1 : letterB c with
        | true =>
          simp
          refine NextF_of H'.length (Nat.le_refl _) hlt (by simp [f3]) ?_
          simp [f0, cut_self hcl, ht]
          intro q hq
          rcases hq with hq | rfl
          · simpa using hA q hq
          · exact .inl e1
        | false =>
          simp [f3, f0, hb]
          refine CallK_of' (hd c _) ?_
          cases e2 : digitB c with
          | true =>
            simp
            refine NextF_of H'.length (Nat.le_refl _) hlt (by simp [f3]) ?_
            simp [f0, cut_self hcl, ht]
            intro q hq
            rcases hq with hq | rfl
            · simpa using hA q hq
            · exact .inr e2
          | false =>
            simp
            exact ⟨c, hm, e1, e2⟩
      · have hii : i = S.length := by have : ¬ i < S.length := by simpa using h
                                      omega
        rw [hii, List.take_of_length_le (Nat.le_refl _)] at hA
        simp
        simpa using hA
  · rintro fr H' ⟨f2, hm, rfl⟩
    simp
    simp [RetK, cut_self hcl, f2, hN, hm]
  · rintro fr H' ⟨hm, rfl⟩
    simp
    simp [RetK, cut_self hcl, hN, hm, g1', g2, g3]

end
end Go.Zam

namespace Go.Zam
set_option linter.all false
set_option maxRecDepth 100000
set_option maxHeartbeats 1000000

inductive T where
  | mk (k : Int) (z : Bool) (ns : List (List UInt8)) (y : Bool) (ps : List T)

def encStr (x : List UInt8) : List D := [.str x]

mutual
def T.enc : T → List D
  | .mk k z ns y ps => [.int .i64 k, .sl z 1 (ns.map encStr), .sl y 3 (T.encs ps)]
def T.encs : List T → List (List D)
  | [] => []
  | p :: r => T.enc p :: T.encs r
end
theorem T.encs_map : ∀ l : List T, T.encs l = l.map T.enc
  | [] => rfl
  | p :: r => by rw [T.encs, T.encs_map r]; rfl
theorem T.enc_mk (k : Int) (z : Bool) (ns : List (List UInt8)) (y : Bool) (ps : List T) : T.enc (.mk k z ns y ps) = [.int .i64 k, .sl z 1 (ns.map encStr), .sl y 3 (ps.map T.enc)] := by rw [T.enc, T.encs_map]

mutual
theorem T.ind {Q : T → Prop} (h : ∀ k z ns y ps, (∀ p ∈ ps, Q p) → Q (.mk k z ns y ps)) : ∀ v, Q v
  | .mk k z ns y ps => h k z ns y ps (T.inds h ps)
theorem T.inds {Q : T → Prop} (h : ∀ k z ns y ps, (∀ p ∈ ps, Q p) → Q (.mk k z ns y ps)) : ∀ l : List T, ∀ p ∈ l, Q p
  | [] => fun p hp => by simp at hp
  | x :: r => fun p hp => (List.mem_cons.1 hp).elim (fun e => e ▸ T.ind h x) (fun hp => T.inds h r p hp)
end

/-- no row in it is longer than a number -/
inductive T.Fit (b : Nat) : T → Prop
  | mk (k : Int) (z : Bool) (ns : List (List UInt8)) (y : Bool) (ps : List T) (h1 : ns.length ≤ b) (h2 : ps.length ≤ b) (h3 : ∀ x ∈ ns, x.length ≤ b) (h4 : ∀ p ∈ ps, T.Fit b p) : T.Fit b (.mk k z ns y ps)

def T.a (t : T) : A := .agg (t.enc.map .d)
theorem T.a_mk (k : Int) (z : Bool) (ns : List (List UInt8)) (y : Bool) (ps : List T) : T.a (.mk k z ns y ps) = .agg [.d (.int .i64 k), .d (.sl z 1 (ns.map encStr)), .d (.sl y 3 (ps.map T.enc))] := by rw [T.a, T.enc_mk]; rfl

def irTSize (bt fs : Nat) : IFn :=
 { nt := 46, res := [.t 6], body := (
  .seq (.ops [
    ⟨(some 3), none, .box bt 3 (.t 0)⟩,
    ⟨(some 6), none, .mv (.c (.int .i64 0))⟩] false)
  (.seq (.seq (.ops [
     ⟨(some 9), none, .mv (.t 2)⟩,
     ⟨(some 10), none, .bin .eql (.t 9) (.c (.int .i64 0))⟩,
     ⟨(some 11), none, .mv (.t 10)⟩,
     ⟨(some 12), (some (11, false)), .faddr 1 (.t 3)⟩,
     ⟨(some 13), (some (11, false)), .load 1 false (.t 12)⟩,
     ⟨(some 14), (some (11, false)), .lenL (.t 13)⟩,
     ⟨(some 15), (some (11, false)), .mv (.t 1)⟩,
     ⟨(some 16), (some (11, false)), .bin .gtr (.t 14) (.t 15)⟩,
     ⟨(some 17), none, .pick (.t 11) (.c (.bool true)) (.t 16)⟩] false)
   (.cond (.t 17) (.seq (.ops [
      ⟨(some 18), none, .mv (.t 1)⟩,
      ⟨(some 19), none, .bin .add (.t 18) (.c (.int .i64 1))⟩,
      ⟨(some 6), none, .mv (.t 19)⟩] false)
    (.ret))
   (.skip)))
  (.seq (.ops [
    ⟨(some 7), none, .mv (.c (.int .i64 1))⟩] false)
  (.seq (.seq (.ops [
     ⟨(some 8), none, .mv (.c (.int .i64 0))⟩] false)
   (.blk 0 (.loop (.seq (.seq (.ops [
        ⟨(some 20), none, .mv (.t 8)⟩,
        ⟨(some 21), none, .faddr 2 (.t 3)⟩,
        ⟨(some 22), none, .load 1 false (.t 21)⟩,
        ⟨(some 23), none, .lenL (.t 22)⟩,
        ⟨(some 24), none, .bin .lss (.t 20) (.t 23)⟩,
        ⟨(some 25), none, .mv (.t 24)⟩,
        ⟨(some 26), (some (25, true)), .mv (.t 7)⟩,
        ⟨(some 27), (some (25, true)), .mv (.t 1)⟩,
        ⟨(some 28), (some (25, true)), .bin .leq (.t 26) (.t 27)⟩,
        ⟨(some 29), none, .pick (.t 25) (.t 28) (.c (.bool false))⟩] false)
      (.cond (.t 29) (.skip)
      (.exit 0)))
     (.seq (.blk 1 (.ops [
        ⟨(some 32), none, .mv (.t 7)⟩,
        ⟨(some 33), none, .faddr 2 (.t 3)⟩,
        ⟨(some 34), none, .load 1 false (.t 33)⟩,
        ⟨(some 35), none, .mv (.t 8)⟩,
        ⟨(some 36), none, .iaddr 3 (.t 34) (.t 35)⟩,
        ⟨(some 37), none, .load 3 true (.t 36)⟩,
        ⟨(some 38), none, .mv (.t 1)⟩,
        ⟨(some 39), none, .mv (.t 7)⟩,
        ⟨(some 40), none, .bin .sub (.t 38) (.t 39)⟩,
        ⟨(some 41), none, .mv (.t 2)⟩,
        ⟨(some 42), none, .bin .sub (.t 41) (.c (.int .i64 1))⟩,
        ⟨(some 43), none, .call fs [(.t 37), (.t 40), (.t 42)]⟩,
        ⟨(some 44), none, .bin .add (.t 32) (.t 43)⟩,
        ⟨(some 7), none, .mv (.t 44)⟩] false))
     (.ops [
      ⟨(some 30), none, .mv (.t 8)⟩,
      ⟨(some 31), none, .bin .add (.t 30) (.c (.int .i64 1))⟩,
      ⟨(some 8), none, .mv (.t 31)⟩] false))))))
  (.seq (.ops [
    ⟨(some 45), none, .mv (.t 7)⟩,
    ⟨(some 6), none, .mv (.t 45)⟩] false)
  (.ret)))))) }

def irTSmall (bt fs : Nat) : IFn :=
 { nt := 13, res := [.t 6], body := (
  .seq (.ops [
    ⟨(some 3), none, .box bt 3 (.t 0)⟩,
    ⟨(some 6), none, .mv (.c (.bool false))⟩] false)
  (.seq (.ops [
    ⟨(some 7), none, .load 3 true (.t 3)⟩,
    ⟨(some 8), none, .mv (.t 1)⟩,
    ⟨(some 9), none, .mv (.t 2)⟩,
    ⟨(some 10), none, .call fs [(.t 7), (.t 8), (.t 9)]⟩,
    ⟨(some 11), none, .mv (.t 1)⟩,
    ⟨(some 12), none, .bin .leq (.t 10) (.t 11)⟩,
    ⟨(some 6), none, .mv (.t 12)⟩] false)
  (.ret))) }

def irTLight (bt fs : Nat) : IFn :=
 { nt := 5, res := [.t 2], body := (
  .seq (.ops [
    ⟨(some 1), none, .box bt 3 (.t 0)⟩,
    ⟨(some 2), none, .mv (.c (.bool false))⟩] false)
  (.seq (.ops [
    ⟨(some 3), none, .load 3 true (.t 1)⟩,
    ⟨(some 4), none, .call fs [(.t 3), (.c (.int .i64 200)), (.c (.int .i64 30))]⟩,
    ⟨(some 2), none, .mv (.t 4)⟩] false)
  (.ret))) }

def irTRight (bt fs fn : Nat) : IFn :=
 { nt := 103, res := [.t 2], body := (
  .seq (.ops [
    ⟨(some 1), none, .box bt 3 (.t 0)⟩,
    ⟨(some 2), none, .mv (.c (.bool false))⟩] false)
  (.seq (.seq (.ops [
     ⟨(some 5), none, .faddr 0 (.t 1)⟩,
     ⟨(some 6), none, .load 1 false (.t 5)⟩,
     ⟨(some 7), none, .bin .lss (.t 6) (.c (.int .i64 0))⟩,
     ⟨(some 8), none, .mv (.t 7)⟩,
     ⟨(some 9), (some (8, false)), .faddr 0 (.t 1)⟩,
     ⟨(some 10), (some (8, false)), .load 1 false (.t 9)⟩,
     ⟨(some 11), (some (8, false)), .bin .gtr (.t 10) (.c (.int .i64 4))⟩,
     ⟨(some 12), none, .pick (.t 8) (.c (.bool true)) (.t 11)⟩] false)
   (.cond (.t 12) (.seq (.ops [
      ⟨(some 2), none, .mv (.c (.bool false))⟩] false)
    (.ret))
   (.skip)))
  (.seq (.seq (.ops [
     ⟨(some 13), none, .faddr 0 (.t 1)⟩,
     ⟨(some 14), none, .load 1 false (.t 13)⟩,
     ⟨(some 15), none, .bin .leq (.t 14) (.c (.int .i64 2))⟩,
     ⟨(some 16), none, .mv (.t 15)⟩,
     ⟨(some 17), (some (16, true)), .faddr 1 (.t 1)⟩,
     ⟨(some 18), (some (16, true)), .load 1 false (.t 17)⟩,
     ⟨(some 19), (some (16, true)), .lenL (.t 18)⟩,
     ⟨(some 20), (some (16, true)), .bin .gtr (.t 19) (.c (.int .i64 0))⟩,
     ⟨(some 21), (some (16, true)), .mv (.t 20)⟩,
     ⟨(some 22), (some (21, false)), .faddr 2 (.t 1)⟩,
     ⟨(some 23), (some (21, false)), .load 1 false (.t 22)⟩,
     ⟨(some 24), (some (21, false)), .lenL (.t 23)⟩,
     ⟨(some 25), (some (21, false)), .bin .gtr (.t 24) (.c (.int .i64 0))⟩,
     ⟨(some 26), (some (16, true)), .pick (.t 21) (.c (.bool true)) (.t 25)⟩,
     ⟨(some 27), none, .pick (.t 16) (.t 26) (.c (.bool false))⟩] false)
   (.cond (.t 27) (.seq (.ops [
      ⟨(some 2), none, .mv (.c (.bool false))⟩] false)
    (.ret))
   (.skip)))
  (.seq (.seq (.ops [
     ⟨(some 28), none, .faddr 0 (.t 1)⟩,
     ⟨(some 29), none, .load 1 false (.t 28)⟩,
     ⟨(some 30), none, .bin .eql (.t 29) (.c (.int .i64 3))⟩,
     ⟨(some 31), none, .mv (.t 30)⟩,
     ⟨(some 32), (some (31, true)), .faddr 1 (.t 1)⟩,
     ⟨(some 33), (some (31, true)), .load 1 false (.t 32)⟩,
     ⟨(some 34), (some (31, true)), .lenL (.t 33)⟩,
     ⟨(some 35), (some (31, true)), .faddr 2 (.t 1)⟩,
     ⟨(some 36), (some (31, true)), .load 1 false (.t 35)⟩,
     ⟨(some 37), (some (31, true)), .lenL (.t 36)⟩,
     ⟨(some 38), (some (31, true)), .bin .neq (.t 34) (.t 37)⟩,
     ⟨(some 39), none, .pick (.t 31) (.t 38) (.c (.bool false))⟩,
     ⟨(some 40), none, .mv (.t 39)⟩,
     ⟨(some 41), (some (40, false)), .faddr 0 (.t 1)⟩,
     ⟨(some 42), (some (40, false)), .load 1 false (.t 41)⟩,
     ⟨(some 43), (some (40, false)), .bin .eql (.t 42) (.c (.int .i64 4))⟩,
     ⟨(some 44), (some (40, false)), .mv (.t 43)⟩,
     ⟨(some 45), (some (44, true)), .faddr 1 (.t 1)⟩,
     ⟨(some 46), (some (44, true)), .load 1 false (.t 45)⟩,
     ⟨(some 47), (some (44, true)), .lenL (.t 46)⟩,
     ⟨(some 48), (some (44, true)), .bin .gtr (.t 47) (.c (.int .i64 0))⟩,
     ⟨(some 49), (some (44, true)), .mv (.t 48)⟩,
     ⟨(some 50), (some (49, false)), .faddr 2 (.t 1)⟩,
     ⟨(some 51), (some (49, false)), .load 1 false (.t 50)⟩,
     ⟨(some 52), (some (49, false)), .lenL (.t 51)⟩,
     ⟨(some 53), (some (49, false)), .bin .eql (.t 52) (.c (.int .i64 0))⟩,
     ⟨(some 54), (some (44, true)), .pick (.t 49) (.c (.bool true)) (.t 53)⟩,
     ⟨(some 55), (some (40, false)), .pick (.t 44) (.t 54) (.c (.bool false))⟩,
     ⟨(some 56), none, .pick (.t 40) (.c (.bool true)) (.t 55)⟩] false)
   (.cond (.t 56) (.seq (.ops [
      ⟨(some 2), none, .mv (.c (.bool false))⟩] false)
    (.ret))
   (.skip)))
  (.seq (.seq (.ops [
     ⟨(some 3), none, .mv (.c (.int .i64 0))⟩] false)
   (.blk 0 (.loop (.seq (.seq (.ops [
        ⟨(some 57), none, .mv (.t 3)⟩,
        ⟨(some 58), none, .faddr 1 (.t 1)⟩,
        ⟨(some 59), none, .load 1 false (.t 58)⟩,
        ⟨(some 60), none, .lenL (.t 59)⟩,
        ⟨(some 61), none, .bin .lss (.t 57) (.t 60)⟩] false)
      (.cond (.t 61) (.skip)
      (.exit 0)))
     (.seq (.blk 1 (.seq (.ops [
         ⟨(some 64), none, .faddr 1 (.t 1)⟩,
         ⟨(some 65), none, .load 1 false (.t 64)⟩,
         ⟨(some 66), none, .mv (.t 3)⟩,
         ⟨(some 67), none, .iaddr 1 (.t 65) (.t 66)⟩,
         ⟨(some 68), none, .load 1 false (.t 67)⟩,
         ⟨(some 69), none, .call fn [(.t 68)]⟩,
         ⟨(some 70), none, .un .not (.t 69)⟩,
         ⟨(some 71), none, .mv (.t 70)⟩,
         ⟨(some 72), (some (71, false)), .mv (.t 3)⟩,
         ⟨(some 73), (some (71, false)), .bin .gtr (.t 72) (.c (.int .i64 0))⟩,
         ⟨(some 74), (some (71, false)), .mv (.t 73)⟩,
         ⟨(some 75), (some (74, true)), .faddr 1 (.t 1)⟩,
         ⟨(some 76), (some (74, true)), .load 1 false (.t 75)⟩,
         ⟨(some 77), (some (74, true)), .mv (.t 3)⟩,
         ⟨(some 78), (some (74, true)), .iaddr 1 (.t 76) (.t 77)⟩,
         ⟨(some 79), (some (74, true)), .load 1 false (.t 78)⟩,
         ⟨(some 80), (some (74, true)), .faddr 1 (.t 1)⟩,
         ⟨(some 81), (some (74, true)), .load 1 false (.t 80)⟩,
         ⟨(some 82), (some (74, true)), .mv (.t 3)⟩,
         ⟨(some 83), (some (74, true)), .bin .sub (.t 82) (.c (.int .i64 1))⟩,
         ⟨(some 84), (some (74, true)), .iaddr 1 (.t 81) (.t 83)⟩,
         ⟨(some 85), (some (74, true)), .load 1 false (.t 84)⟩,
         ⟨(some 86), (some (74, true)), .bin .leq (.t 79) (.t 85)⟩,
         ⟨(some 87), (some (71, false)), .pick (.t 74) (.t 86) (.c (.bool false))⟩,
         ⟨(some 88), none, .pick (.t 71) (.c (.bool true)) (.t 87)⟩] true)
       (.cond (.t 88) (.seq (.ops [
          ⟨(some 2), none, .mv (.c (.bool false))⟩] false)
        (.ret))
       (.skip))))
     (.ops [
      ⟨(some 62), none, .mv (.t 3)⟩,
      ⟨(some 63), none, .bin .add (.t 62) (.c (.int .i64 1))⟩,
      ⟨(some 3), none, .mv (.t 63)⟩] false))))))
  (.seq (.seq (.ops [
     ⟨(some 4), none, .mv (.c (.int .i64 0))⟩] false)
   (.blk 2 (.loop (.seq (.seq (.ops [
        ⟨(some 89), none, .mv (.t 4)⟩,
        ⟨(some 90), none, .faddr 2 (.t 1)⟩,
        ⟨(some 91), none, .load 1 false (.t 90)⟩,
        ⟨(some 92), none, .lenL (.t 91)⟩,
        ⟨(some 93), none, .bin .lss (.t 89) (.t 92)⟩] false)
      (.cond (.t 93) (.skip)
      (.exit 2)))
     (.seq (.blk 3 (.seq (.ops [
         ⟨(some 96), none, .faddr 2 (.t 1)⟩,
         ⟨(some 97), none, .load 1 false (.t 96)⟩,
         ⟨(some 98), none, .mv (.t 4)⟩,
         ⟨(some 99), none, .iaddr 3 (.t 97) (.t 98)⟩,
         ⟨(some 100), none, .load 3 true (.t 99)⟩,
         ⟨(some 101), none, .call fs [(.t 100)]⟩,
         ⟨(some 102), none, .un .not (.t 101)⟩] false)
       (.cond (.t 102) (.seq (.ops [
          ⟨(some 2), none, .mv (.c (.bool false))⟩] false)
        (.ret))
       (.skip))))
     (.ops [
      ⟨(some 94), none, .mv (.t 4)⟩,
      ⟨(some 95), none, .bin .add (.t 94) (.c (.int .i64 1))⟩,
      ⟨(some 4), none, .mv (.t 95)⟩] false))))))
  (.seq (.ops [
    ⟨(some 2), none, .mv (.c (.bool true))⟩] false)
  (.ret)))))))) }

section
variable {P : Program} {bt : Nat}

theorem tsize_acall {f : FuncId} {fn : Func} (hf : P.funcs[f]? = some fn) (hcf : compF P [] fn = some (irTSize bt f)) (v : T) : v.Fit 1048576 → ∀ (m d : Int) (H : Hp), ACall P f [v.a, .d (.int .i64 m), .d (.int .i64 d)] H (fun r H' => (∃ c : Int, r = .d (.int .i64 c)) ∧ H' = H) := by
  induction v using T.ind with
  | h k z ns y ps ih =>
  rintro (⟨_, _, _, _, _, b2, b3, b4, b5⟩) m d H
  refine acall_fin hf hcf (by simp [irTSize]) fun hcl _ => ?_
  rw [T.a_mk]
  by_cases h1 : d = 0
  case pos =>
    simp [irTSize, h1]
    simp [RetK, cut_app hcl]
  by_cases h2 : m < ns.length
  case pos =>
    simp [irTSize, h1, h2]
    simp [RetK, cut_app hcl]
  simp [irTSize, h1, h2]
  refine LoopK_outR 0 (fun fr H' => (∃ c : Int, fr 7 = .d (.int .i64 c)) ∧ ∃ X, H' = H ++ X) (fun _ _ => False) ?_ (fun _ _ h => h.elim) ?_
  · refine ForK_of (H.length + 1) ps.length (fun i fr H' => fr 1 = .d (.int .i64 m) ∧ fr 2 = .d (.int .i64 d) ∧ fr 3 = .ptr H.length 0 ∧ (∃ c : Int, fr 7 = .d (.int .i64 c)) ∧ H' = H ++ [.box bt [.d (.int .i64 k), .d (.sl z 1 (ns.map encStr)), .d (.sl y 3 (ps.map T.enc))]]) (by omega) (by decide) (by simp) (by simp) ?_ ?_
    · simp [cut_appk hcl]
    rintro i fr H' hi f8 ⟨f1, f2, f3, ⟨c, f7⟩, rfl⟩
    simp [f8, f3, f7, f1]
    refine GdK_split (by simp) (fun h => ?_) (fun h => ?_)
    · simp at h
      simp [f7, f1]
      refine BrK_split (fun h2 => ?_) (fun h2 => ?_)
      · have hr := rowAt_map T.enc h
        have hx := ih ps[i] (List.getElem_mem h) (b5 _ (List.getElem_mem h))
        generalize ps[i] = p at hr hx
        cases p with | mk k1 z1 ns1 y1 ps1 =>
        simp only [T.a_mk, T.enc_mk] at hr hx
        simp [f8, f3, f7, f2, f1, hr]
        refine CallK_of (hx _ _ _) ?_
        rintro x H2 ⟨⟨c2, rfl⟩, rfl⟩
        simp
        refine NextF_of (H.length + 1) (Nat.le_refl _) h (by simp [f8]) ?_
        simp [f1, f2, f3, cut_appk hcl]
      · simp [f7]
    · simp [f7]
  rintro fr H2 ⟨⟨c, f7⟩, X, rfl⟩
  simp [f7]
  simp [RetK, cut_app hcl]

theorem tsmall_acall {f fs : FuncId} {fn : Func} (hf : P.funcs[f]? = some fn) (hcf : compF P [] fn = some (irTSmall bt fs)) (hs : ∀ (v : T), v.Fit 1048576 → ∀ (m d : Int) (H : Hp), ACall P fs [v.a, .d (.int .i64 m), .d (.int .i64 d)] H (fun r H' => (∃ c : Int, r = .d (.int .i64 c)) ∧ H' = H))
    (v : T) (hv : v.Fit 1048576) (m d : Int) (H : Hp) : ACall P f [v.a, .d (.int .i64 m), .d (.int .i64 d)] H (fun r H' => (∃ c : Bool, r = .d (.bool c)) ∧ H' = H) := by
  refine acall_fin hf hcf (by simp [irTSmall]) fun hcl _ => ?_
  have hx := hs v hv m d
  cases v with | mk k1 z1 ns1 y1 ps1 =>
  simp only [T.a_mk] at hx ⊢
  simp [irTSmall]
  refine CallK_of (hx _) ?_
  rintro x H2 ⟨⟨c2, rfl⟩, rfl⟩
  simp
  simp [RetK, cut_app hcl]
  omega

theorem tlight_acall {f fs : FuncId} {fn : Func} (hf : P.funcs[f]? = some fn) (hcf : compF P [] fn = some (irTLight bt fs)) (hs : ∀ (v : T), v.Fit 1048576 → ∀ (m d : Int) (H : Hp), ACall P fs [v.a, .d (.int .i64 m), .d (.int .i64 d)] H (fun r H' => (∃ c : Bool, r = .d (.bool c)) ∧ H' = H))
    (v : T) (hv : v.Fit 1048576) (H : Hp) : ACall P f [v.a] H (fun r H' => (∃ c : Bool, r = .d (.bool c)) ∧ H' = H) := by
  refine acall_fin hf hcf (by simp [irTLight]) fun hcl _ => ?_
  have hx := hs v hv
  cases v with | mk k1 z1 ns1 y1 ps1 =>
  simp only [T.a_mk] at hx ⊢
  simp [irTLight]
  refine CallK_of (hx _ _ _) ?_
  rintro x H2 ⟨⟨c2, rfl⟩, rfl⟩
  simp
  simp [RetK, cut_app hcl]

theorem tright_acall {f fi : FuncId} {fn : Func} (hf : P.funcs[f]? = some fn) (hcf : compF P [] fn = some (irTRight bt f fi)) (hn : ∀ s H, ACall P fi [.d (.str s)] H (fun r H' => r = .d (.bool (isNameB s)) ∧ H' = H)) (v : T) :
    v.Fit 1048576 → ∀ (H : Hp), ACall P f [v.a] H (fun r H' => (∃ c : Bool, r = .d (.bool c)) ∧ H' = H) := by
  induction v using T.ind with
  | h k z ns y ps ih =>
  rintro (⟨_, _, _, _, _, b2, b3, b4, b5⟩) H
  refine acall_fin hf hcf (by simp [irTRight]) fun hcl _ => ?_
  rw [T.a_mk]
  generalize hB : H ++ [Ob.box bt [A.d (D.int IntKind.i64 k), A.d (D.sl z 1 (List.map encStr ns)), A.d (D.sl y 3 (List.map T.enc ps))]] = B
  have hB0 : B[H.length]? = some (Ob.box bt [A.d (D.int IntKind.i64 k), A.d (D.sl z 1 (List.map encStr ns)), A.d (D.sl y 3 (List.map T.enc ps))]) := by rw [← hB]; simp
  have hBl : B.length = H.length + 1 := by rw [← hB]; simp
  have hBc : Hp.cut (H.length + 1) B = B := by rw [← hB, cut_appk hcl]; simp
  have hBz : Hp.cut H.length B = H := by rw [← hB, cut_app hcl]
  have ret : ∀ fr H', ((∃ c : Bool, fr 2 = .d (.bool c)) ∧ H' = B) → Zam.Fin [Res.t 2] H.length (fun r H' => (∃ c : Bool, r = .d (.bool c)) ∧ H' = H) .ret fr H' := by
    rintro fr H' ⟨⟨c, f2⟩, rfl⟩
    simp [RetK, hBz, hBl, f2]
  simp only [irTRight]
  refine Seq_out (fun fr H' => fr 1 = .ptr H.length 0 ∧ H' = B) (fun _ _ => False) (by simp [hB]) (fun _ _ h => h.elim) ?_
  rintro fr H' ⟨f1, rfl⟩
  refine Seq_out (fun fr H2 => fr 1 = .ptr H.length 0 ∧ H2 = H') (fun fr H2 => (∃ c : Bool, fr 2 = .d (.bool c)) ∧ H2 = H') ?_ ret ?_
  · simp [f1, hB0]
    repeat' (first
      | (refine GdK_split (by simp) (fun h => ?_) (fun h => ?_) <;> simp [f1, hB0])
      | (refine BrK_split (fun h => ?_) (fun h => ?_) <;> simp [f1, hB0]))
  rintro fr H2 ⟨f1, rfl⟩
  refine Seq_out (fun fr H3 => fr 1 = .ptr H.length 0 ∧ H3 = H2) (fun fr H3 => (∃ c : Bool, fr 2 = .d (.bool c)) ∧ H3 = H2) ?_ ret ?_
  · simp [f1, hB0]
    repeat' (first
      | (refine GdK_split (by simp) (fun h => ?_) (fun h => ?_) <;> simp [f1, hB0])
      | (refine BrK_split (fun h => ?_) (fun h => ?_) <;> simp [f1, hB0]))
  rintro fr H3 ⟨f1, rfl⟩
  refine Seq_out (fun fr H4 => fr 1 = .ptr H.length 0 ∧ H4 = H3) (fun fr H4 => (∃ c : Bool, fr 2 = .d (.bool c)) ∧ H4 = H3) ?_ ret ?_
  · simp [f1, hB0]
    repeat' (first
      | (refine GdK_split (by simp) (fun h => ?_) (fun h => ?_) <;> simp [f1, hB0])
      | (refine BrK_split (fun h => ?_) (fun h => ?_) <;> simp [f1, hB0]))
  rintro fr H4 ⟨f1, rfl⟩
  refine Seq_out (fun fr H5 => fr 1 = .ptr H.length 0 ∧ H5 = H4) (fun fr H5 => (∃ c : Bool, fr 2 = .d (.bool c)) ∧ H5 = H4) ?_ ret ?_
  · simp
    refine LoopK_outR 0 (fun fr H5 => fr 1 = .ptr H.length 0 ∧ H5 = H4) (fun fr H5 => (∃ c : Bool, fr 2 = .d (.bool c)) ∧ H5 = H4) ?_ (fun fr H h => by simpa using h) (fun fr H h => by simpa using h)
    refine ForK_of (H.length + 1) ns.length (fun i fr H5 => fr 1 = .ptr H.length 0 ∧ H5 = H4) (by omega) (by decide) (by simp [hBl]) (by simp) ?_ ?_
    · simp [hBc, f1]
    rintro i fr H5 hi f3 ⟨f1, rfl⟩
    simp [f3, f1, hB0]
    refine BrK_split (fun h => ?_) (fun h => ?_)
    · have hlt : i < ns.length := by simpa using h
      have hr := rowAt_map encStr hlt
      simp only [encStr] at hr
      simp [f3, f1, hB0, encStr, hr]
      refine CallD_of (hn _ _) ?_
      cases isNameB ns[i] with
      | false => simp
      | true =>
        simp [f3]
        refine GdK_split (by simp) (fun h => ?_) (fun h => ?_)
        · have hpos : 0 < i := by simpa using h
          have hwm : IntKind.i64.wrap ((i : Int) - 1) = ((i - 1 : Nat) : Int) := by rw [wrap_i64 (by omega) (by omega)]; omega
          have hj : i - 1 < ns.length := by omega
          have rj := rowAt_map encStr hj
          simp only [encStr] at rj
          simp [f3, f1, hB0, encStr, hr, hwm, rj]
          refine BrK_split (fun h => ?_) (fun h => ?_)
          · simp
          · simp
            refine NextF_of (H.length + 1) (Nat.le_refl _) hlt (by simp [hBl, f3]) ?_
            simp [f1, hBc]
        · simp
          refine NextF_of (H.length + 1) (Nat.le_refl _) hlt (by simp [hBl, f3]) ?_
          simp [f1, hBc]
    · simp [f1]
  rintro fr H5 ⟨f1, rfl⟩
  simp
  refine LoopK_outR 2 (fun fr H6 => H6 = H5) (fun fr H6 => (∃ c : Bool, fr 2 = .d (.bool c)) ∧ H6 = H5) ?_ (fun fr H h => ret fr H h) ?_
  · refine ForK_of (H.length + 1) ps.length (fun i fr H6 => fr 1 = .ptr H.length 0 ∧ H6 = H5) (by omega) (by decide) (by simp [hBl]) (by simp) ?_ ?_
    · simp [hBc, f1]
    rintro i fr H6 hi f4 ⟨f1, rfl⟩
    simp [f4, f1, hB0]
    refine BrK_split (fun h => ?_) (fun h => ?_)
    · have hlt : i < ps.length := by simpa using h
      have hr := rowAt_map T.enc hlt
      have hx := ih ps[i] (List.getElem_mem hlt) (b5 _ (List.getElem_mem hlt))
      generalize ps[i] = p at hr hx
      cases p with | mk k1 z1 ns1 y1 ps1 =>
      simp only [T.a_mk, T.enc_mk] at hr hx
      simp [f4, f1, hB0, hr]
      refine CallK_of (hx _) ?_
      rintro x H7 ⟨⟨c, rfl⟩, rfl⟩
      cases c with
      | false => simp
      | true =>
        simp
        refine NextF_of (H.length + 1) (Nat.le_refl _) hlt (by simp [hBl, f4]) ?_
        simp [f1, hBc]
    · simp
  · rintro fr H6 rfl
    simp
    simp [RetK, hBz, hBl]

end
end Go.Zam

namespace Go.Zam
set_option linter.all false
set_option maxRecDepth 100000

def irTkLex (c1 c2 c3 t1 t2 : Nat) : IFn :=
 { nt := 52, res := [.t 2, .t 3, .t 4], body := (
  .seq (.ops [
    ⟨(some 2), none, .mv (.c (.sl true 4 []))⟩,
    ⟨(some 3), none, .mv (.c (.int .i64 0))⟩,
    ⟨(some 4), none, .mv (.c (.int .i64 0))⟩] false)
  (.seq (.seq (.ops [
     ⟨(some 12), none, .mv (.t 0)⟩,
     ⟨(some 13), none, .lenS (.t 12)⟩,
     ⟨(some 14), none, .bin .gtr (.t 13) (.c (.int .i64 16384))⟩] false)
   (.cond (.t 14) (.seq (.ops [
      ⟨(some 2), none, .mv (.c (.sl true 4 []))⟩,
      ⟨(some 3), none, .mv (.c (.int .i64 5))⟩,
      ⟨(some 4), none, .mv (.c (.int .i64 16384))⟩] false)
    (.ret))
   (.skip)))
  (.seq (.seq (.ops [
     ⟨(some 15), none, .mv (.t 0)⟩,
     ⟨(some 16), none, .call c1 [(.t 15)]⟩,
     ⟨(some 5), none, .mv (.t 16)⟩] false)
   (.seq (.ops [
     ⟨(some 17), none, .mv (.t 5)⟩,
     ⟨(some 18), none, .bin .geq (.t 17) (.c (.int .i64 0))⟩] false)
   (.cond (.t 18) (.seq (.ops [
      ⟨(some 19), none, .mv (.t 5)⟩,
      ⟨(some 2), none, .mv (.c (.sl true 4 []))⟩,
      ⟨(some 3), none, .mv (.c (.int .i64 20))⟩,
      ⟨(some 4), none, .mv (.t 19)⟩] false)
    (.ret))
   (.skip))))
  (.seq (.ops [
    ⟨(some 20), none, .mv (.t 0)⟩,
    ⟨(some 21), none, .build [(.str []), (.int .i64 0)] [(0, 1, (.t 20))]⟩,
    ⟨(some 22), none, .box t1 2 (.t 21)⟩,
    ⟨(some 6), none, .mv (.t 22)⟩] false)
  (.seq (.ops [
    ⟨(some 7), none, .nilT 4 t2⟩] false)
  (.blk 0 (.loop (.blk 1 (.seq (.ops [
       ⟨(some 23), none, .mv (.t 6)⟩,
       ⟨(some 24), none, .call c2 [(.t 23)]⟩,
       ⟨(some 8), none, .mv (.t 24)⟩] false)
     (.seq (.ops [
       ⟨(some 25), none, .mv (.t 6)⟩,
       ⟨(some 26), none, .nilCheck (.t 25)⟩,
       ⟨(some 27), none, .faddr 1 (.t 26)⟩,
       ⟨(some 28), none, .load 1 false (.t 27)⟩,
       ⟨(some 9), none, .mv (.t 28)⟩] false)
     (.seq (.ops [
       ⟨(some 30), none, .mv (.t 6)⟩,
       ⟨(some 31), none, .call c3 [(.t 30)]⟩,
       ⟨(some 29), none, .mv (.t 31)⟩,
       ⟨(some 32), none, .ext (.t 29) 0⟩,
       ⟨(some 33), none, .ext (.t 29) 1⟩,
       ⟨(some 10), none, .alloc t2 [(.int .i64 0), (.int .i64 0), (.str []), (.str [])]⟩,
       ⟨none, none, .store 4 (.t 10) (.t 32)⟩,
       ⟨(some 11), none, .mv (.t 33)⟩] false)
     (.seq (.seq (.ops [
        ⟨(some 34), none, .mv (.t 11)⟩,
        ⟨(some 35), none, .bin .neq (.t 34) (.c (.int .i64 0))⟩] false)
      (.cond (.t 35) (.seq (.ops [
         ⟨(some 36), none, .mv (.t 11)⟩,
         ⟨(some 37), none, .mv (.t 9)⟩,
         ⟨(some 2), none, .mv (.c (.sl true 4 []))⟩,
         ⟨(some 3), none, .mv (.t 36)⟩,
         ⟨(some 4), none, .mv (.t 37)⟩] false)
       (.ret))
      (.skip)))
     (.seq (.seq (.ops [
        ⟨(some 38), none, .mv (.t 7)⟩,
        ⟨(some 39), none, .lenL (.t 38)⟩,
        ⟨(some 40), none, .bin .geq (.t 39) (.c (.int .i64 4000))⟩] false)
      (.cond (.t 40) (.seq (.ops [
         ⟨(some 41), none, .mv (.t 9)⟩,
         ⟨(some 2), none, .mv (.c (.sl true 4 []))⟩,
         ⟨(some 3), none, .mv (.c (.int .i64 5))⟩,
         ⟨(some 4), none, .mv (.t 41)⟩] false)
       (.ret))
      (.skip)))
     (.seq (.ops [
       ⟨(some 42), none, .mv (.t 8)⟩,
       ⟨(some 43), none, .faddr 2 (.t 10)⟩,
       ⟨none, none, .store 1 (.t 43) (.t 42)⟩] false)
     (.seq (.ops [
       ⟨(some 44), none, .mv (.t 7)⟩,
       ⟨(some 45), none, .load 4 true (.t 10)⟩,
       ⟨(some 46), none, .bslice 4 [(.t 45)]⟩,
       ⟨(some 47), none, .app 4 48 t2 (.t 44) (.t 46)⟩,
       ⟨(some 7), none, .mv (.t 47)⟩] false)
     (.seq (.ops [
       ⟨(some 48), none, .faddr 0 (.t 10)⟩,
       ⟨(some 49), none, .load 1 false (.t 48)⟩,
       ⟨(some 50), none, .bin .eql (.t 49) (.c (.int .i64 0))⟩] false)
     (.cond (.t 50) (.seq (.ops [
        ⟨(some 51), none, .mv (.t 7)⟩,
        ⟨(some 2), none, .mv (.t 51)⟩,
        ⟨(some 3), none, .mv (.c (.int .i64 0))⟩,
        ⟨(some 4), none, .mv (.c (.int .i64 0))⟩] false)
      (.ret))
     (.skip)))))))))))))))))) }

def irTkIsKey (c1 c2 : Nat) : IFn :=
 { nt := 6, res := [.t 2], body := (
  .seq (.ops [
    ⟨(some 2), none, .mv (.c (.bool false))⟩] false)
  (.seq (.ops [
    ⟨(some 3), none, .call c1 []⟩,
    ⟨(some 4), none, .mv (.t 0)⟩,
    ⟨(some 5), none, .call c2 [(.t 3), (.t 4)]⟩,
    ⟨(some 2), none, .mv (.t 5)⟩] false)
  (.ret))) }

def irTkIsName (c1 c2 c3 : Nat) : IFn :=
 { nt := 39, res := [.t 2], body := (
  .seq (.ops [
    ⟨(some 2), none, .mv (.c (.bool false))⟩] false)
  (.seq (.seq (.ops [
     ⟨(some 4), none, .mv (.t 0)⟩,
     ⟨(some 5), none, .bin .eql (.t 4) (.c (.str []))⟩,
     ⟨(some 6), none, .mv (.t 5)⟩,
     ⟨(some 7), (some (6, false)), .mv (.t 0)⟩,
     ⟨(some 8), (some (6, false)), .lenS (.t 7)⟩,
     ⟨(some 9), (some (6, false)), .bin .gtr (.t 8) (.c (.int .i64 40))⟩,
     ⟨(some 10), none, .pick (.t 6) (.c (.bool true)) (.t 9)⟩,
     ⟨(some 11), none, .mv (.t 10)⟩,
     ⟨(some 12), (some (11, false)), .mv (.t 0)⟩,
     ⟨(some 13), (some (11, false)), .sidx (.t 12) (.c (.int .i64 0))⟩,
     ⟨(some 14), (some (11, false)), .call c1 [(.t 13)]⟩,
     ⟨(some 15), (some (11, false)), .un .not (.t 14)⟩,
     ⟨(some 16), none, .pick (.t 11) (.c (.bool true)) (.t 15)⟩,
     ⟨(some 17), none, .mv (.t 16)⟩,
     ⟨(some 18), (some (17, false)), .mv (.t 0)⟩,
     ⟨(some 19), (some (17, false)), .call c2 [(.t 18)]⟩,
     ⟨(some 20), none, .pick (.t 17) (.c (.bool true)) (.t 19)⟩] false)
   (.cond (.t 20) (.seq (.ops [
      ⟨(some 2), none, .mv (.c (.bool false))⟩] false)
    (.ret))
   (.skip)))
  (.seq (.seq (.ops [
     ⟨(some 21), none, .mv (.t 0)⟩,
     ⟨(some 22), none, .lenS (.t 21)⟩,
     ⟨(some 23), none, .mv (.c (.int .i64 0))⟩] false)
   (.blk 0 (.loop (.seq (.ops [
       ⟨(some 24), none, .bin .lss (.t 23) (.t 22)⟩] false)
     (.seq (.cond (.t 24) (.skip)
      (.exit 0))
     (.seq (.blk 1 (.seq (.ops [
         ⟨(some 25), none, .mv (.t 23)⟩,
         ⟨(some 3), none, .mv (.t 25)⟩] false)
       (.seq (.ops [
         ⟨(some 26), none, .mv (.t 0)⟩,
         ⟨(some 27), none, .mv (.t 3)⟩,
         ⟨(some 28), none, .sidx (.t 26) (.t 27)⟩,
         ⟨(some 29), none, .call c1 [(.t 28)]⟩,
         ⟨(some 30), none, .un .not (.t 29)⟩,
         ⟨(some 31), none, .mv (.t 30)⟩,
         ⟨(some 32), (some (31, true)), .mv (.t 0)⟩,
         ⟨(some 33), (some (31, true)), .mv (.t 3)⟩,
         ⟨(some 34), (some (31, true)), .sidx (.t 32) (.t 33)⟩,
         ⟨(some 35), (some (31, true)), .call c3 [(.t 34)]⟩,
         ⟨(some 36), (some (31, true)), .un .not (.t 35)⟩,
         ⟨(some 37), none, .pick (.t 31) (.t 36) (.c (.bool false))⟩] false)
       (.cond (.t 37) (.seq (.ops [
          ⟨(some 2), none, .mv (.c (.bool false))⟩] false)
        (.ret))
       (.skip)))))
     (.ops [
      ⟨(some 38), none, .bin .add (.t 23) (.c (.int .i64 1))⟩,
      ⟨(some 23), none, .mv (.t 38)⟩] false)))))))
  (.seq (.ops [
    ⟨(some 2), none, .mv (.c (.bool true))⟩] false)
  (.ret))))) }

def irTkJoin (c1 c2 t1 t2 t3 : Nat) : IFn :=
 { nt := 20, res := [.t 2], body := (
  .seq (.ops [
    ⟨(some 2), none, .mv (.c (.str []))⟩] false)
  (.seq (.ops [
    ⟨(some 3), none, .allocT t1 [.nilp, (.sl true 1 [])] 1 1 t2⟩] false)
  (.seq (.seq (.ops [
     ⟨(some 6), none, .mv (.t 0)⟩,
     ⟨(some 7), none, .lenL (.t 6)⟩,
     ⟨(some 8), none, .mv (.c (.int .i64 0))⟩] false)
   (.blk 0 (.loop (.seq (.ops [
       ⟨(some 9), none, .bin .lss (.t 8) (.t 7)⟩] false)
     (.seq (.cond (.t 9) (.skip)
      (.exit 0))
     (.seq (.blk 1 (.seq (.ops [
         ⟨(some 10), none, .iaddr 4 (.t 6) (.t 8)⟩,
         ⟨(some 11), none, .load 4 true (.t 10)⟩,
         ⟨(some 5), none, .alloc t3 [(.int .i64 0), (.int .i64 0), (.str []), (.str [])]⟩,
         ⟨none, none, .store 4 (.t 5) (.t 11)⟩] false)
       (.seq (.ops [
         ⟨(some 12), none, .faddr 2 (.t 5)⟩,
         ⟨(some 13), none, .load 1 false (.t 12)⟩,
         ⟨(some 14), none, .call c1 [(.t 3), (.t 13)]⟩] false)
       (.ops [
        ⟨(some 15), none, .faddr 3 (.t 5)⟩,
        ⟨(some 16), none, .load 1 false (.t 15)⟩,
        ⟨(some 17), none, .call c1 [(.t 3), (.t 16)]⟩] false))))
     (.ops [
      ⟨(some 18), none, .bin .add (.t 8) (.c (.int .i64 1))⟩,
      ⟨(some 8), none, .mv (.t 18)⟩] false)))))))
  (.seq (.ops [
    ⟨(some 19), none, .call c2 [(.t 3)]⟩,
    ⟨(some 2), none, .mv (.t 19)⟩] false)
  (.ret))))) }

def irR4Same : IFn :=
 { nt := 26, res := [.t 4], body := (
  .seq (.ops [
    ⟨(some 4), none, .mv (.c (.bool false))⟩] false)
  (.seq (.seq (.ops [
     ⟨(some 6), none, .mv (.t 0)⟩,
     ⟨(some 7), none, .lenL (.t 6)⟩,
     ⟨(some 8), none, .mv (.t 1)⟩,
     ⟨(some 9), none, .lenL (.t 8)⟩,
     ⟨(some 10), none, .bin .neq (.t 7) (.t 9)⟩] false)
   (.cond (.t 10) (.seq (.ops [
      ⟨(some 4), none, .mv (.c (.bool false))⟩] false)
    (.ret))
   (.skip)))
  (.seq (.seq (.ops [
     ⟨(some 5), none, .mv (.c (.int .i64 0))⟩] false)
   (.blk 0 (.loop (.seq (.seq (.ops [
        ⟨(some 11), none, .mv (.t 5)⟩,
        ⟨(some 12), none, .mv (.t 0)⟩,
        ⟨(some 13), none, .lenL (.t 12)⟩,
        ⟨(some 14), none, .bin .lss (.t 11) (.t 13)⟩] false)
      (.cond (.t 14) (.skip)
      (.exit 0)))
     (.seq (.blk 1 (.seq (.ops [
         ⟨(some 17), none, .mv (.t 0)⟩,
         ⟨(some 18), none, .mv (.t 5)⟩,
         ⟨(some 19), none, .iaddr 4 (.t 17) (.t 18)⟩,
         ⟨(some 20), none, .load 4 true (.t 19)⟩,
         ⟨(some 21), none, .mv (.t 1)⟩,
         ⟨(some 22), none, .mv (.t 5)⟩,
         ⟨(some 23), none, .iaddr 4 (.t 21) (.t 22)⟩,
         ⟨(some 24), none, .load 4 true (.t 23)⟩,
         ⟨(some 25), none, .eqA true [(.int .i64 0), (.int .i64 0), (.str []), (.str [])] (.t 20) (.t 24)⟩] true)
       (.cond (.t 25) (.seq (.ops [
          ⟨(some 4), none, .mv (.c (.bool false))⟩] false)
        (.ret))
       (.skip))))
     (.ops [
      ⟨(some 15), none, .mv (.t 5)⟩,
      ⟨(some 16), none, .bin .add (.t 15) (.c (.int .i64 1))⟩,
      ⟨(some 5), none, .mv (.t 16)⟩] false))))))
  (.seq (.ops [
    ⟨(some 4), none, .mv (.c (.bool true))⟩] false)
  (.ret))))) }

def irRnBad (c1 : Nat) : IFn :=
 { nt := 27, res := [.t 2], body := (
  .seq (.ops [
    ⟨(some 2), none, .mv (.c (.int .i64 0))⟩] false)
  (.seq (.seq (.ops [
     ⟨(some 3), none, .mv (.c (.int .i64 0))⟩] false)
   (.blk 0 (.loop (.seq (.seq (.ops [
        ⟨(some 6), none, .mv (.t 3)⟩,
        ⟨(some 7), none, .mv (.t 0)⟩,
        ⟨(some 8), none, .lenS (.t 7)⟩,
        ⟨(some 9), none, .bin .lss (.t 6) (.t 8)⟩] false)
      (.cond (.t 9) (.skip)
      (.exit 0)))
     (.blk 1 (.seq (.ops [
        ⟨(some 11), none, .mv (.t 0)⟩,
        ⟨(some 12), none, .mv (.t 3)⟩,
        ⟨(some 13), none, .sslice (.t 11) (some (.t 12)) none⟩,
        ⟨(some 14), none, .call c1 [(.t 13)]⟩,
        ⟨(some 10), none, .mv (.t 14)⟩,
        ⟨(some 15), none, .ext (.t 10) 0⟩,
        ⟨(some 16), none, .ext (.t 10) 1⟩,
        ⟨(some 4), none, .mv (.t 15)⟩,
        ⟨(some 5), none, .mv (.t 16)⟩] false)
      (.seq (.seq (.ops [
         ⟨(some 17), none, .mv (.t 4)⟩,
         ⟨(some 18), none, .bin .eql (.t 17) (.c (.int .i32 65533))⟩,
         ⟨(some 19), none, .mv (.t 18)⟩,
         ⟨(some 20), (some (19, true)), .mv (.t 5)⟩,
         ⟨(some 21), (some (19, true)), .bin .eql (.t 20) (.c (.int .i64 1))⟩,
         ⟨(some 22), none, .pick (.t 19) (.t 21) (.c (.bool false))⟩] false)
       (.cond (.t 22) (.seq (.ops [
          ⟨(some 23), none, .mv (.t 3)⟩,
          ⟨(some 2), none, .mv (.t 23)⟩] false)
        (.ret))
       (.skip)))
      (.ops [
       ⟨(some 24), none, .mv (.t 3)⟩,
       ⟨(some 25), none, .mv (.t 5)⟩,
       ⟨(some 26), none, .bin .add (.t 24) (.t 25)⟩,
       ⟨(some 3), none, .mv (.t 26)⟩] false))))))))
  (.seq (.ops [
    ⟨(some 2), none, .mv (.c (.int .i64 (-1)))⟩] false)
  (.ret)))) }

def irScLead (c1 c2 c3 c4 : Nat) : IFn :=
 { nt := 39, res := [.t 2], body := (
  .seq (.ops [
    ⟨(some 2), none, .mv (.c (.str []))⟩] false)
  (.seq (.ops [
    ⟨(some 4), none, .mv (.t 0)⟩,
    ⟨(some 5), none, .nilCheck (.t 4)⟩,
    ⟨(some 6), none, .faddr 1 (.t 5)⟩,
    ⟨(some 7), none, .load 1 false (.t 6)⟩,
    ⟨(some 3), none, .mv (.t 7)⟩] false)
  (.blk 0 (.loop (.blk 1 (.seq (.blk 2 (.loop (.seq (.seq (.ops [
           ⟨(some 8), none, .mv (.t 0)⟩,
           ⟨(some 9), none, .call c1 [(.t 8), (.c (.fn c2))]⟩] false)
         (.cond (.t 9) (.skip)
         (.exit 2)))
        (.blk 3 (.ops [
          ⟨(some 10), none, .mv (.t 0)⟩,
          ⟨(some 11), none, .nilCheck (.t 10)⟩,
          ⟨(some 12), none, .faddr 1 (.t 11)⟩,
          ⟨(some 13), none, .load 1 false (.t 12)⟩,
          ⟨(some 14), none, .bin .add (.t 13) (.c (.int .i64 1))⟩,
          ⟨(some 15), none, .nilCheck (.t 10)⟩,
          ⟨(some 16), none, .faddr 1 (.t 15)⟩,
          ⟨none, none, .store 1 (.t 16) (.t 14)⟩] false)))))
     (.seq (.seq (.ops [
        ⟨(some 17), none, .mv (.t 0)⟩,
        ⟨(some 18), none, .call c1 [(.t 17), (.c (.fn c3))]⟩,
        ⟨(some 19), none, .un .not (.t 18)⟩] false)
      (.cond (.t 19) (.seq (.ops [
         ⟨(some 20), none, .mv (.t 0)⟩,
         ⟨(some 21), none, .nilCheck (.t 20)⟩,
         ⟨(some 22), none, .faddr 0 (.t 21)⟩,
         ⟨(some 23), none, .load 1 false (.t 22)⟩,
         ⟨(some 24), none, .mv (.t 3)⟩,
         ⟨(some 25), none, .mv (.t 0)⟩,
         ⟨(some 26), none, .nilCheck (.t 25)⟩,
         ⟨(some 27), none, .faddr 1 (.t 26)⟩,
         ⟨(some 28), none, .load 1 false (.t 27)⟩,
         ⟨(some 29), none, .sslice (.t 23) (some (.t 24)) (some (.t 28))⟩,
         ⟨(some 2), none, .mv (.t 29)⟩] true)
       (.ret))
      (.skip)))
     (.blk 4 (.loop (.seq (.seq (.ops [
          ⟨(some 30), none, .mv (.t 0)⟩,
          ⟨(some 31), none, .call c1 [(.t 30), (.c (.fn c4))]⟩] false)
        (.cond (.t 31) (.skip)
        (.exit 4)))
       (.blk 5 (.ops [
         ⟨(some 32), none, .mv (.t 0)⟩,
         ⟨(some 33), none, .nilCheck (.t 32)⟩,
         ⟨(some 34), none, .faddr 1 (.t 33)⟩,
         ⟨(some 35), none, .load 1 false (.t 34)⟩,
         ⟨(some 36), none, .bin .add (.t 35) (.c (.int .i64 1))⟩,
         ⟨(some 37), none, .nilCheck (.t 32)⟩,
         ⟨(some 38), none, .faddr 1 (.t 37)⟩,
         ⟨none, none, .store 1 (.t 38) (.t 36)⟩] false)))))))))))) }

def irScNext (c1 c2 c3 c4 c5 c6 c7 c8 t1 : Nat) : IFn :=
 { nt := 77, res := [.cell 2 4 true, .t 3], body := (
  .seq (.ops [
    ⟨(some 2), none, .alloc t1 [(.int .i64 0), (.int .i64 0), (.str []), (.str [])]⟩,
    ⟨(some 3), none, .mv (.c (.int .i64 0))⟩] false)
  (.seq (.ops [
    ⟨(some 4), none, .mv (.t 0)⟩,
    ⟨(some 5), none, .nilCheck (.t 4)⟩,
    ⟨(some 6), none, .faddr 1 (.t 5)⟩,
    ⟨(some 7), none, .load 1 false (.t 6)⟩,
    ⟨(some 8), none, .faddr 1 (.t 2)⟩,
    ⟨none, none, .store 1 (.t 8) (.t 7)⟩] false)
  (.seq (.blk 0 (.seq (.ops [
      ⟨(some 18), none, .mv (.t 0)⟩,
      ⟨(some 19), none, .nilCheck (.t 18)⟩,
      ⟨(some 20), none, .faddr 1 (.t 19)⟩,
      ⟨(some 21), none, .load 1 false (.t 20)⟩,
      ⟨(some 22), none, .mv (.t 0)⟩,
      ⟨(some 23), none, .nilCheck (.t 22)⟩,
      ⟨(some 24), none, .faddr 0 (.t 23)⟩,
      ⟨(some 25), none, .load 1 false (.t 24)⟩,
      ⟨(some 26), none, .lenS (.t 25)⟩,
      ⟨(some 27), none, .bin .eql (.t 21) (.t 26)⟩,
      ⟨(some 17), none, .mv (.t 27)⟩] true)
    (.cond (.t 17) (.seq (.ops [
       ⟨(some 28), none, .load 4 true (.t 2)⟩,
       ⟨none, none, .store 4 (.t 2) (.t 28)⟩,
       ⟨(some 3), none, .mv (.c (.int .i64 0))⟩] false)
     (.ret))
    (.seq (.ops [
       ⟨(some 30), none, .mv (.t 0)⟩,
       ⟨(some 31), none, .call c1 [(.t 30), (.c (.fn c2))]⟩,
       ⟨(some 29), none, .mv (.t 31)⟩] false)
     (.cond (.t 29) (.seq (.ops [
        ⟨(some 32), none, .mv (.t 0)⟩,
        ⟨(some 33), none, .call c3 [(.t 32)]⟩,
        ⟨(some 34), none, .faddr 0 (.t 2)⟩,
        ⟨none, none, .store 1 (.t 34) (.c (.int .i64 1))⟩,
        ⟨(some 35), none, .faddr 3 (.t 2)⟩,
        ⟨none, none, .store 1 (.t 35) (.t 33)⟩] false)
      (.seq (.ops [
        ⟨(some 36), none, .faddr 3 (.t 2)⟩,
        ⟨(some 37), none, .load 1 false (.t 36)⟩,
        ⟨(some 38), none, .call c4 [(.t 37)]⟩] false)
      (.cond (.t 38) (.ops [
        ⟨(some 39), none, .faddr 0 (.t 2)⟩,
        ⟨none, none, .store 1 (.t 39) (.c (.int .i64 2))⟩] false)
      (.seq (.ops [
         ⟨(some 40), none, .faddr 3 (.t 2)⟩,
         ⟨(some 41), none, .load 1 false (.t 40)⟩,
         ⟨(some 42), none, .lenS (.t 41)⟩,
         ⟨(some 43), none, .bin .gtr (.t 42) (.c (.int .i64 40))⟩] false)
       (.cond (.t 43) (.seq (.ops [
          ⟨(some 44), none, .load 4 true (.t 2)⟩,
          ⟨none, none, .store 4 (.t 2) (.t 44)⟩,
          ⟨(some 3), none, .mv (.c (.int .i64 26))⟩] false)
        (.ret))
       (.skip))))))
     (.seq (.ops [
        ⟨(some 46), none, .mv (.t 0)⟩,
        ⟨(some 47), none, .call c1 [(.t 46), (.c (.fn c5))]⟩,
        ⟨(some 45), none, .mv (.t 47)⟩] false)
      (.cond (.t 45) (.seq (.ops [
         ⟨(some 48), none, .mv (.t 0)⟩,
         ⟨(some 49), none, .call c3 [(.t 48)]⟩,
         ⟨(some 50), none, .faddr 0 (.t 2)⟩,
         ⟨none, none, .store 1 (.t 50) (.c (.int .i64 3))⟩,
         ⟨(some 51), none, .faddr 3 (.t 2)⟩,
         ⟨none, none, .store 1 (.t 51) (.t 49)⟩] false)
       (.seq (.ops [
         ⟨(some 52), none, .load 4 true (.t 2)⟩,
         ⟨(some 53), none, .faddr 3 (.t 2)⟩,
         ⟨(some 54), none, .load 1 false (.t 53)⟩,
         ⟨(some 55), none, .call c6 [(.t 54)]⟩,
         ⟨none, none, .store 4 (.t 2) (.t 52)⟩,
         ⟨(some 3), none, .mv (.t 55)⟩] true)
       (.ret)))
      (.seq (.ops [
         ⟨(some 57), none, .mv (.t 0)⟩,
         ⟨(some 58), none, .nilCheck (.t 57)⟩,
         ⟨(some 59), none, .faddr 0 (.t 58)⟩,
         ⟨(some 60), none, .load 1 false (.t 59)⟩,
         ⟨(some 61), none, .mv (.t 0)⟩,
         ⟨(some 62), none, .nilCheck (.t 61)⟩,
         ⟨(some 63), none, .faddr 1 (.t 62)⟩,
         ⟨(some 64), none, .load 1 false (.t 63)⟩,
         ⟨(some 65), none, .sidx (.t 60) (.t 64)⟩,
         ⟨(some 66), none, .bin .eql (.t 65) (.c (.int .u8 34))⟩,
         ⟨(some 56), none, .mv (.t 66)⟩] true)
       (.cond (.t 56) (.seq (.ops [
          ⟨(some 67), none, .faddr 0 (.t 2)⟩,
          ⟨none, none, .store 1 (.t 67) (.c (.int .i64 4))⟩] false)
        (.seq (.ops [
          ⟨(some 69), none, .mv (.t 0)⟩,
          ⟨(some 70), none, .call c7 [(.t 69)]⟩,
          ⟨(some 68), none, .mv (.t 70)⟩,
          ⟨(some 71), none, .ext (.t 68) 0⟩,
          ⟨(some 72), none, .ext (.t 68) 1⟩,
          ⟨(some 73), none, .faddr 3 (.t 2)⟩,
          ⟨none, none, .store 1 (.t 73) (.t 71)⟩,
          ⟨(some 3), none, .mv (.t 72)⟩] false)
        (.seq (.ops [
          ⟨(some 74), none, .load 4 true (.t 2)⟩,
          ⟨(some 75), none, .mv (.t 3)⟩,
          ⟨none, none, .store 4 (.t 2) (.t 74)⟩,
          ⟨(some 3), none, .mv (.t 75)⟩] false)
        (.ret))))
       (.seq (.ops [
          ⟨(some 9), none, .mv (.t 0)⟩,
          ⟨(some 10), none, .call c8 [(.t 9)]⟩,
          ⟨(some 11), none, .faddr 0 (.t 2)⟩,
          ⟨none, none, .store 1 (.t 11) (.c (.int .i64 5))⟩,
          ⟨(some 12), none, .faddr 3 (.t 2)⟩,
          ⟨none, none, .store 1 (.t 12) (.t 10)⟩] false)
        (.seq (.ops [
          ⟨(some 13), none, .faddr 3 (.t 2)⟩,
          ⟨(some 14), none, .load 1 false (.t 13)⟩,
          ⟨(some 15), none, .bin .eql (.t 14) (.c (.str []))⟩] false)
        (.cond (.t 15) (.seq (.ops [
           ⟨(some 16), none, .load 4 true (.t 2)⟩,
           ⟨none, none, .store 4 (.t 2) (.t 16)⟩,
           ⟨(some 3), none, .mv (.c (.int .i64 21))⟩] false)
         (.ret))
        (.skip)))))))))))))
  (.seq (.ops [
    ⟨(some 76), none, .load 4 true (.t 2)⟩,
    ⟨none, none, .store 4 (.t 2) (.t 76)⟩,
    ⟨(some 3), none, .mv (.c (.int .i64 0))⟩] false)
  (.ret))))) }

def irSlHas (c1 : Nat) : IFn :=
 { nt := 9, res := [.t 4], body := (
  .seq (.ops [
    ⟨(some 4), none, .mv (.c (.bool false))⟩] false)
  (.seq (.ops [
    ⟨(some 5), none, .mv (.t 0)⟩,
    ⟨(some 6), none, .mv (.t 1)⟩,
    ⟨(some 7), none, .call c1 [(.t 5), (.t 6)]⟩,
    ⟨(some 8), none, .bin .geq (.t 7) (.c (.int .i64 0))⟩,
    ⟨(some 4), none, .mv (.t 8)⟩] false)
  (.ret))) }

def irSlIdx : IFn :=
 { nt := 19, res := [.t 4], body := (
  .seq (.ops [
    ⟨(some 4), none, .mv (.c (.int .i64 0))⟩] false)
  (.seq (.seq (.ops [
     ⟨(some 6), none, .mv (.t 0)⟩,
     ⟨(some 7), none, .lenL (.t 6)⟩,
     ⟨(some 8), none, .mv (.c (.int .i64 0))⟩] false)
   (.blk 0 (.loop (.seq (.ops [
       ⟨(some 9), none, .bin .lss (.t 8) (.t 7)⟩] false)
     (.seq (.cond (.t 9) (.skip)
      (.exit 0))
     (.seq (.blk 1 (.seq (.ops [
         ⟨(some 10), none, .mv (.t 8)⟩,
         ⟨(some 5), none, .mv (.t 10)⟩] false)
       (.seq (.ops [
         ⟨(some 11), none, .mv (.t 1)⟩,
         ⟨(some 12), none, .mv (.t 0)⟩,
         ⟨(some 13), none, .mv (.t 5)⟩,
         ⟨(some 14), none, .iaddr 1 (.t 12) (.t 13)⟩,
         ⟨(some 15), none, .load 1 false (.t 14)⟩,
         ⟨(some 16), none, .bin .eql (.t 11) (.t 15)⟩] false)
       (.cond (.t 16) (.seq (.ops [
          ⟨(some 17), none, .mv (.t 5)⟩,
          ⟨(some 4), none, .mv (.t 17)⟩] false)
        (.ret))
       (.skip)))))
     (.ops [
      ⟨(some 18), none, .bin .add (.t 8) (.c (.int .i64 1))⟩,
      ⟨(some 8), none, .mv (.t 18)⟩] false)))))))
  (.seq (.ops [
    ⟨(some 4), none, .mv (.c (.int .i64 (-1)))⟩] false)
  (.ret)))) }

def irTkKeys : IFn :=
 { nt := 2, res := [.t 0], body := (
  .seq (.ops [
    ⟨(some 0), none, .mv (.c (.sl true 1 []))⟩] false)
  (.seq (.ops [
    ⟨(some 1), none, .bslice 1 [(.c (.str [100, 101, 102])), (.c (.str [100, 121, 110])), (.c (.str [101, 108, 115, 101])), (.c (.str [102, 110])), (.c (.str [105, 102])), (.c (.str [105, 110, 112, 117, 116])), (.c (.str [105, 110, 116])), (.c (.str [108, 101, 116])), (.c (.str [112, 114, 105, 110, 116])), (.c (.str [114, 101, 116, 117, 114, 110])), (.c (.str [115, 116, 114])), (.c (.str [117, 115, 101])), (.c (.str [119, 104, 105, 108, 101]))]⟩,
    ⟨(some 0), none, .mv (.t 1)⟩] false)
  (.ret))) }

def irScMore : IFn :=
 { nt := 28, res := [.t 4], body := (
  .seq (.ops [
    ⟨(some 4), none, .mv (.c (.bool false))⟩] false)
  (.seq (.ops [
    ⟨(some 5), none, .mv (.t 0)⟩,
    ⟨(some 6), none, .nilCheck (.t 5)⟩,
    ⟨(some 7), none, .faddr 1 (.t 6)⟩,
    ⟨(some 8), none, .load 1 false (.t 7)⟩,
    ⟨(some 9), none, .mv (.t 0)⟩,
    ⟨(some 10), none, .nilCheck (.t 9)⟩,
    ⟨(some 11), none, .faddr 0 (.t 10)⟩,
    ⟨(some 12), none, .load 1 false (.t 11)⟩,
    ⟨(some 13), none, .lenS (.t 12)⟩,
    ⟨(some 14), none, .bin .lss (.t 8) (.t 13)⟩,
    ⟨(some 15), none, .mv (.t 14)⟩,
    ⟨(some 16), (some (15, true)), .mv (.t 1)⟩,
    ⟨(some 17), (some (15, true)), .mv (.t 0)⟩,
    ⟨(some 18), (some (15, true)), .nilCheck (.t 17)⟩,
    ⟨(some 19), (some (15, true)), .faddr 0 (.t 18)⟩,
    ⟨(some 20), (some (15, true)), .load 1 false (.t 19)⟩,
    ⟨(some 21), (some (15, true)), .mv (.t 0)⟩,
    ⟨(some 22), (some (15, true)), .nilCheck (.t 21)⟩,
    ⟨(some 23), (some (15, true)), .faddr 1 (.t 22)⟩,
    ⟨(some 24), (some (15, true)), .load 1 false (.t 23)⟩,
    ⟨(some 25), (some (15, true)), .sidx (.t 20) (.t 24)⟩,
    ⟨(some 26), (some (15, true)), .callv (.t 16) [(.t 25)]⟩,
    ⟨(some 27), none, .pick (.t 15) (.t 26) (.c (.bool false))⟩,
    ⟨(some 4), none, .mv (.t 27)⟩] true)
  (.ret))) }

def irTkBlank : IFn :=
 { nt := 17, res := [.t 2], body := (
  .seq (.ops [
    ⟨(some 2), none, .mv (.c (.bool false))⟩] false)
  (.seq (.ops [
    ⟨(some 3), none, .mv (.t 0)⟩,
    ⟨(some 4), none, .bin .eql (.t 3) (.c (.int .u8 32))⟩,
    ⟨(some 5), none, .mv (.t 4)⟩,
    ⟨(some 6), (some (5, false)), .mv (.t 0)⟩,
    ⟨(some 7), (some (5, false)), .bin .eql (.t 6) (.c (.int .u8 9))⟩,
    ⟨(some 8), none, .pick (.t 5) (.c (.bool true)) (.t 7)⟩,
    ⟨(some 9), none, .mv (.t 8)⟩,
    ⟨(some 10), (some (9, false)), .mv (.t 0)⟩,
    ⟨(some 11), (some (9, false)), .bin .eql (.t 10) (.c (.int .u8 10))⟩,
    ⟨(some 12), none, .pick (.t 9) (.c (.bool true)) (.t 11)⟩,
    ⟨(some 13), none, .mv (.t 12)⟩,
    ⟨(some 14), (some (13, false)), .mv (.t 0)⟩,
    ⟨(some 15), (some (13, false)), .bin .eql (.t 14) (.c (.int .u8 13))⟩,
    ⟨(some 16), none, .pick (.t 13) (.c (.bool true)) (.t 15)⟩,
    ⟨(some 2), none, .mv (.t 16)⟩] false)
  (.ret))) }

def irScHash : IFn :=
 { nt := 5, res := [.t 2], body := (
  .seq (.ops [
    ⟨(some 2), none, .mv (.c (.bool false))⟩] false)
  (.seq (.ops [
    ⟨(some 3), none, .mv (.t 0)⟩,
    ⟨(some 4), none, .bin .eql (.t 3) (.c (.int .u8 35))⟩,
    ⟨(some 2), none, .mv (.t 4)⟩] false)
  (.ret))) }

def irScNoNl : IFn :=
 { nt := 5, res := [.t 2], body := (
  .seq (.ops [
    ⟨(some 2), none, .mv (.c (.bool false))⟩] false)
  (.seq (.ops [
    ⟨(some 3), none, .mv (.t 0)⟩,
    ⟨(some 4), none, .bin .neq (.t 3) (.c (.int .u8 10))⟩,
    ⟨(some 2), none, .mv (.t 4)⟩] false)
  (.ret))) }

def irScWord (c1 c2 : Nat) : IFn :=
 { nt := 27, res := [.t 2], body := (
  .seq (.ops [
    ⟨(some 2), none, .mv (.c (.str []))⟩] false)
  (.seq (.ops [
    ⟨(some 4), none, .mv (.t 0)⟩,
    ⟨(some 5), none, .nilCheck (.t 4)⟩,
    ⟨(some 6), none, .faddr 1 (.t 5)⟩,
    ⟨(some 7), none, .load 1 false (.t 6)⟩,
    ⟨(some 3), none, .mv (.t 7)⟩] false)
  (.seq (.blk 0 (.loop (.seq (.seq (.ops [
        ⟨(some 8), none, .mv (.t 0)⟩,
        ⟨(some 9), none, .call c1 [(.t 8), (.c (.fn c2))]⟩] false)
      (.cond (.t 9) (.skip)
      (.exit 0)))
     (.blk 1 (.ops [
       ⟨(some 10), none, .mv (.t 0)⟩,
       ⟨(some 11), none, .nilCheck (.t 10)⟩,
       ⟨(some 12), none, .faddr 1 (.t 11)⟩,
       ⟨(some 13), none, .load 1 false (.t 12)⟩,
       ⟨(some 14), none, .bin .add (.t 13) (.c (.int .i64 1))⟩,
       ⟨(some 15), none, .nilCheck (.t 10)⟩,
       ⟨(some 16), none, .faddr 1 (.t 15)⟩,
       ⟨none, none, .store 1 (.t 16) (.t 14)⟩] false)))))
  (.seq (.ops [
    ⟨(some 17), none, .mv (.t 0)⟩,
    ⟨(some 18), none, .nilCheck (.t 17)⟩,
    ⟨(some 19), none, .faddr 0 (.t 18)⟩,
    ⟨(some 20), none, .load 1 false (.t 19)⟩,
    ⟨(some 21), none, .mv (.t 3)⟩,
    ⟨(some 22), none, .mv (.t 0)⟩,
    ⟨(some 23), none, .nilCheck (.t 22)⟩,
    ⟨(some 24), none, .faddr 1 (.t 23)⟩,
    ⟨(some 25), none, .load 1 false (.t 24)⟩,
    ⟨(some 26), none, .sslice (.t 20) (some (.t 21)) (some (.t 25))⟩,
    ⟨(some 2), none, .mv (.t 26)⟩] true)
  (.ret))))) }

def irScWordB (c1 c2 : Nat) : IFn :=
 { nt := 9, res := [.t 2], body := (
  .seq (.ops [
    ⟨(some 2), none, .mv (.c (.bool false))⟩] false)
  (.seq (.ops [
    ⟨(some 3), none, .mv (.t 0)⟩,
    ⟨(some 4), none, .call c1 [(.t 3)]⟩,
    ⟨(some 5), none, .mv (.t 4)⟩,
    ⟨(some 6), (some (5, false)), .mv (.t 0)⟩,
    ⟨(some 7), (some (5, false)), .call c2 [(.t 6)]⟩,
    ⟨(some 8), none, .pick (.t 5) (.c (.bool true)) (.t 7)⟩,
    ⟨(some 2), none, .mv (.t 8)⟩] false)
  (.ret))) }

def irScStr (c1 : Nat) : IFn :=
 { nt := 86, res := [.t 2, .t 3], body := (
  .seq (.ops [
    ⟨(some 2), none, .mv (.c (.str []))⟩,
    ⟨(some 3), none, .mv (.c (.int .i64 0))⟩] false)
  (.seq (.ops [
    ⟨(some 9), none, .mv (.t 0)⟩,
    ⟨(some 10), none, .nilCheck (.t 9)⟩,
    ⟨(some 11), none, .faddr 1 (.t 10)⟩,
    ⟨(some 12), none, .load 1 false (.t 11)⟩,
    ⟨(some 4), none, .mv (.t 12)⟩] false)
  (.seq (.seq (.ops [
     ⟨(some 13), none, .mv (.t 0)⟩,
     ⟨(some 14), none, .nilCheck (.t 13)⟩,
     ⟨(some 15), none, .faddr 1 (.t 14)⟩,
     ⟨(some 16), none, .load 1 false (.t 15)⟩,
     ⟨(some 17), none, .bin .add (.t 16) (.c (.int .i64 1))⟩,
     ⟨(some 18), none, .nilCheck (.t 13)⟩,
     ⟨(some 19), none, .faddr 1 (.t 18)⟩,
     ⟨none, none, .store 1 (.t 19) (.t 17)⟩] false)
   (.blk 0 (.loop (.seq (.seq (.ops [
        ⟨(some 20), none, .mv (.t 0)⟩,
        ⟨(some 21), none, .nilCheck (.t 20)⟩,
        ⟨(some 22), none, .faddr 1 (.t 21)⟩,
        ⟨(some 23), none, .load 1 false (.t 22)⟩,
        ⟨(some 24), none, .mv (.t 0)⟩,
        ⟨(some 25), none, .nilCheck (.t 24)⟩,
        ⟨(some 26), none, .faddr 0 (.t 25)⟩,
        ⟨(some 27), none, .load 1 false (.t 26)⟩,
        ⟨(some 28), none, .lenS (.t 27)⟩,
        ⟨(some 29), none, .bin .lss (.t 23) (.t 28)⟩] true)
      (.cond (.t 29) (.skip)
      (.exit 0)))
     (.seq (.blk 1 (.seq (.ops [
         ⟨(some 37), none, .mv (.t 0)⟩,
         ⟨(some 38), none, .nilCheck (.t 37)⟩,
         ⟨(some 39), none, .faddr 0 (.t 38)⟩,
         ⟨(some 40), none, .load 1 false (.t 39)⟩,
         ⟨(some 41), none, .mv (.t 0)⟩,
         ⟨(some 42), none, .nilCheck (.t 41)⟩,
         ⟨(some 43), none, .faddr 1 (.t 42)⟩,
         ⟨(some 44), none, .load 1 false (.t 43)⟩,
         ⟨(some 45), none, .sidx (.t 40) (.t 44)⟩,
         ⟨(some 5), none, .mv (.t 45)⟩] true)
       (.blk 2 (.seq (.ops [
          ⟨(some 47), none, .mv (.t 5)⟩,
          ⟨(some 48), none, .bin .eql (.t 47) (.c (.int .u8 34))⟩,
          ⟨(some 46), none, .mv (.t 48)⟩] false)
        (.cond (.t 46) (.seq (.ops [
           ⟨(some 49), none, .mv (.t 0)⟩,
           ⟨(some 50), none, .nilCheck (.t 49)⟩,
           ⟨(some 51), none, .faddr 1 (.t 50)⟩,
           ⟨(some 52), none, .load 1 false (.t 51)⟩,
           ⟨(some 53), none, .bin .add (.t 52) (.c (.int .i64 1))⟩,
           ⟨(some 54), none, .nilCheck (.t 49)⟩,
           ⟨(some 55), none, .faddr 1 (.t 54)⟩,
           ⟨none, none, .store 1 (.t 55) (.t 53)⟩] false)
         (.seq (.ops [
           ⟨(some 56), none, .mv (.t 0)⟩,
           ⟨(some 57), none, .nilCheck (.t 56)⟩,
           ⟨(some 58), none, .faddr 0 (.t 57)⟩,
           ⟨(some 59), none, .load 1 false (.t 58)⟩,
           ⟨(some 60), none, .mv (.t 4)⟩,
           ⟨(some 61), none, .mv (.t 0)⟩,
           ⟨(some 62), none, .nilCheck (.t 61)⟩,
           ⟨(some 63), none, .faddr 1 (.t 62)⟩,
           ⟨(some 64), none, .load 1 false (.t 63)⟩,
           ⟨(some 65), none, .sslice (.t 59) (some (.t 60)) (some (.t 64))⟩,
           ⟨(some 6), none, .mv (.t 65)⟩] true)
         (.seq (.ops [
           ⟨(some 67), none, .mv (.t 6)⟩,
           ⟨(some 68), none, .call c1 [(.t 67)]⟩,
           ⟨(some 66), none, .mv (.t 68)⟩,
           ⟨(some 69), none, .ext (.t 66) 0⟩,
           ⟨(some 70), none, .ext (.t 66) 1⟩,
           ⟨(some 7), none, .mv (.t 69)⟩,
           ⟨(some 8), none, .mv (.t 70)⟩] false)
         (.seq (.ops [
           ⟨(some 71), none, .mv (.t 6)⟩,
           ⟨(some 72), none, .mv (.t 8)⟩,
           ⟨(some 2), none, .mv (.t 71)⟩,
           ⟨(some 3), none, .mv (.t 72)⟩] false)
         (.ret)))))
        (.seq (.ops [
           ⟨(some 74), none, .mv (.t 5)⟩,
           ⟨(some 75), none, .bin .eql (.t 74) (.c (.int .u8 92))⟩,
           ⟨(some 73), none, .mv (.t 75)⟩] false)
         (.cond (.t 73) (.ops [
           ⟨(some 76), none, .mv (.t 0)⟩,
           ⟨(some 77), none, .nilCheck (.t 76)⟩,
           ⟨(some 78), none, .faddr 1 (.t 77)⟩,
           ⟨(some 79), none, .load 1 false (.t 78)⟩,
           ⟨(some 80), none, .bin .add (.t 79) (.c (.int .i64 1))⟩,
           ⟨(some 81), none, .nilCheck (.t 76)⟩,
           ⟨(some 82), none, .faddr 1 (.t 81)⟩,
           ⟨none, none, .store 1 (.t 82) (.t 80)⟩] false)
         (.seq (.ops [
            ⟨(some 84), none, .mv (.t 5)⟩,
            ⟨(some 85), none, .bin .eql (.t 84) (.c (.int .u8 10))⟩,
            ⟨(some 83), none, .mv (.t 85)⟩] false)
          (.cond (.t 83) (.seq (.ops [
             ⟨(some 2), none, .mv (.c (.str []))⟩,
             ⟨(some 3), none, .mv (.c (.int .i64 22))⟩] false)
           (.ret))
          (.skip))))))))))
     (.ops [
      ⟨(some 30), none, .mv (.t 0)⟩,
      ⟨(some 31), none, .nilCheck (.t 30)⟩,
      ⟨(some 32), none, .faddr 1 (.t 31)⟩,
      ⟨(some 33), none, .load 1 false (.t 32)⟩,
      ⟨(some 34), none, .bin .add (.t 33) (.c (.int .i64 1))⟩,
      ⟨(some 35), none, .nilCheck (.t 30)⟩,
      ⟨(some 36), none, .faddr 1 (.t 35)⟩,
      ⟨none, none, .store 1 (.t 36) (.t 34)⟩] false))))))
  (.seq (.ops [
    ⟨(some 2), none, .mv (.c (.str []))⟩,
    ⟨(some 3), none, .mv (.c (.int .i64 22))⟩] false)
  (.ret))))) }

def irScSign (c1 c2 : Nat) : IFn :=
 { nt := 33, res := [.t 2], body := (
  .seq (.ops [
    ⟨(some 2), none, .mv (.c (.str []))⟩] false)
  (.seq (.seq (.ops [
     ⟨(some 5), none, .call c1 []⟩,
     ⟨(some 6), none, .lenL (.t 5)⟩,
     ⟨(some 7), none, .mv (.c (.int .i64 0))⟩] false)
   (.blk 0 (.loop (.seq (.ops [
       ⟨(some 8), none, .bin .lss (.t 7) (.t 6)⟩] false)
     (.seq (.cond (.t 8) (.skip)
      (.exit 0))
     (.seq (.blk 1 (.seq (.ops [
         ⟨(some 9), none, .iaddr 1 (.t 5) (.t 7)⟩,
         ⟨(some 10), none, .load 1 false (.t 9)⟩,
         ⟨(some 4), none, .mv (.t 10)⟩] false)
       (.seq (.ops [
         ⟨(some 11), none, .mv (.t 0)⟩,
         ⟨(some 12), none, .nilCheck (.t 11)⟩,
         ⟨(some 13), none, .faddr 0 (.t 12)⟩,
         ⟨(some 14), none, .load 1 false (.t 13)⟩,
         ⟨(some 15), none, .mv (.t 0)⟩,
         ⟨(some 16), none, .nilCheck (.t 15)⟩,
         ⟨(some 17), none, .faddr 1 (.t 16)⟩,
         ⟨(some 18), none, .load 1 false (.t 17)⟩,
         ⟨(some 19), none, .sslice (.t 14) (some (.t 18)) none⟩,
         ⟨(some 20), none, .mv (.t 4)⟩,
         ⟨(some 21), none, .call c2 [(.t 19), (.t 20)]⟩] true)
       (.cond (.t 21) (.seq (.ops [
          ⟨(some 22), none, .mv (.t 0)⟩,
          ⟨(some 23), none, .nilCheck (.t 22)⟩,
          ⟨(some 24), none, .faddr 1 (.t 23)⟩,
          ⟨(some 25), none, .load 1 false (.t 24)⟩,
          ⟨(some 26), none, .mv (.t 4)⟩,
          ⟨(some 27), none, .lenS (.t 26)⟩,
          ⟨(some 28), none, .bin .add (.t 25) (.t 27)⟩,
          ⟨(some 29), none, .nilCheck (.t 22)⟩,
          ⟨(some 30), none, .faddr 1 (.t 29)⟩,
          ⟨none, none, .store 1 (.t 30) (.t 28)⟩] false)
        (.seq (.ops [
          ⟨(some 31), none, .mv (.t 4)⟩,
          ⟨(some 2), none, .mv (.t 31)⟩] false)
        (.ret)))
       (.skip)))))
     (.ops [
      ⟨(some 32), none, .bin .add (.t 7) (.c (.int .i64 1))⟩,
      ⟨(some 7), none, .mv (.t 32)⟩] false)))))))
  (.seq (.ops [
    ⟨(some 2), none, .mv (.c (.str []))⟩] false)
  (.ret)))) }

def irRnUnquote (c1 c2 c3 t1 t2 : Nat) : IFn :=
 { nt := 69, res := [.t 2, .t 3], body := (
  .seq (.ops [
    ⟨(some 2), none, .mv (.c (.str []))⟩,
    ⟨(some 3), none, .mv (.c (.int .i64 0))⟩] false)
  (.seq (.seq (.ops [
     ⟨(some 7), none, .mv (.t 0)⟩,
     ⟨(some 8), none, .lenS (.t 7)⟩,
     ⟨(some 9), none, .bin .lss (.t 8) (.c (.int .i64 2))⟩,
     ⟨(some 10), none, .mv (.t 9)⟩,
     ⟨(some 11), (some (10, false)), .mv (.t 0)⟩,
     ⟨(some 12), (some (10, false)), .sidx (.t 11) (.c (.int .i64 0))⟩,
     ⟨(some 13), (some (10, false)), .bin .neq (.t 12) (.c (.int .u8 34))⟩,
     ⟨(some 14), none, .pick (.t 10) (.c (.bool true)) (.t 13)⟩,
     ⟨(some 15), none, .mv (.t 14)⟩,
     ⟨(some 16), (some (15, false)), .mv (.t 0)⟩,
     ⟨(some 17), (some (15, false)), .mv (.t 0)⟩,
     ⟨(some 18), (some (15, false)), .lenS (.t 17)⟩,
     ⟨(some 19), (some (15, false)), .bin .sub (.t 18) (.c (.int .i64 1))⟩,
     ⟨(some 20), (some (15, false)), .sidx (.t 16) (.t 19)⟩,
     ⟨(some 21), (some (15, false)), .bin .neq (.t 20) (.c (.int .u8 34))⟩,
     ⟨(some 22), none, .pick (.t 15) (.c (.bool true)) (.t 21)⟩] false)
   (.cond (.t 22) (.seq (.ops [
      ⟨(some 2), none, .mv (.c (.str []))⟩,
      ⟨(some 3), none, .mv (.c (.int .i64 22))⟩] false)
    (.ret))
   (.skip)))
  (.seq (.ops [
    ⟨(some 4), none, .allocT t1 [.nilp, (.sl true 1 [])] 1 1 t2⟩] false)
  (.seq (.seq (.ops [
     ⟨(some 5), none, .mv (.c (.int .i64 1))⟩] false)
   (.blk 0 (.loop (.seq (.seq (.ops [
        ⟨(some 23), none, .mv (.t 5)⟩,
        ⟨(some 24), none, .mv (.t 0)⟩,
        ⟨(some 25), none, .lenS (.t 24)⟩,
        ⟨(some 26), none, .bin .sub (.t 25) (.c (.int .i64 1))⟩,
        ⟨(some 27), none, .bin .lss (.t 23) (.t 26)⟩] false)
      (.cond (.t 27) (.skip)
      (.exit 0)))
     (.seq (.blk 1 (.blk 2 (.seq (.ops [
          ⟨(some 35), none, .mv (.t 0)⟩,
          ⟨(some 36), none, .mv (.t 5)⟩,
          ⟨(some 37), none, .sidx (.t 35) (.t 36)⟩,
          ⟨(some 38), none, .bin .eql (.t 37) (.c (.int .u8 92))⟩,
          ⟨(some 34), none, .mv (.t 38)⟩] false)
        (.cond (.t 34) (.seq (.ops [
           ⟨(some 39), none, .mv (.t 5)⟩,
           ⟨(some 40), none, .bin .add (.t 39) (.c (.int .i64 1))⟩,
           ⟨(some 5), none, .mv (.t 40)⟩] false)
         (.seq (.ops [
           ⟨(some 41), none, .mv (.t 0)⟩,
           ⟨(some 42), none, .mv (.t 5)⟩,
           ⟨(some 43), none, .sidx (.t 41) (.t 42)⟩,
           ⟨(some 44), none, .call c1 [(.c (.str [110, 116, 34, 92])), (.t 43)]⟩,
           ⟨(some 6), none, .mv (.t 44)⟩] false)
         (.seq (.seq (.ops [
            ⟨(some 45), none, .mv (.t 6)⟩,
            ⟨(some 46), none, .bin .lss (.t 45) (.c (.int .i64 0))⟩,
            ⟨(some 47), none, .mv (.t 46)⟩,
            ⟨(some 48), (some (47, false)), .mv (.t 5)⟩,
            ⟨(some 49), (some (47, false)), .mv (.t 0)⟩,
            ⟨(some 50), (some (47, false)), .lenS (.t 49)⟩,
            ⟨(some 51), (some (47, false)), .bin .sub (.t 50) (.c (.int .i64 1))⟩,
            ⟨(some 52), (some (47, false)), .bin .eql (.t 48) (.t 51)⟩,
            ⟨(some 53), none, .pick (.t 47) (.c (.bool true)) (.t 52)⟩] false)
          (.cond (.t 53) (.seq (.ops [
             ⟨(some 2), none, .mv (.c (.str []))⟩,
             ⟨(some 3), none, .mv (.c (.int .i64 22))⟩] false)
           (.ret))
          (.skip)))
         (.ops [
          ⟨(some 54), none, .mv (.t 6)⟩,
          ⟨(some 55), none, .sidx (.c (.str [10, 9, 34, 92])) (.t 54)⟩,
          ⟨(some 56), none, .call c2 [(.t 4), (.t 55)]⟩] false))))
        (.seq (.ops [
           ⟨(some 58), none, .mv (.t 0)⟩,
           ⟨(some 59), none, .mv (.t 5)⟩,
           ⟨(some 60), none, .sidx (.t 58) (.t 59)⟩,
           ⟨(some 61), none, .bin .lss (.t 60) (.c (.int .u8 32))⟩,
           ⟨(some 62), none, .mv (.t 61)⟩,
           ⟨(some 63), (some (62, false)), .mv (.t 0)⟩,
           ⟨(some 64), (some (62, false)), .mv (.t 5)⟩,
           ⟨(some 65), (some (62, false)), .sidx (.t 63) (.t 64)⟩,
           ⟨(some 66), (some (62, false)), .bin .eql (.t 65) (.c (.int .u8 34))⟩,
           ⟨(some 67), none, .pick (.t 62) (.c (.bool true)) (.t 66)⟩,
           ⟨(some 57), none, .mv (.t 67)⟩] false)
         (.cond (.t 57) (.seq (.ops [
            ⟨(some 2), none, .mv (.c (.str []))⟩,
            ⟨(some 3), none, .mv (.c (.int .i64 22))⟩] false)
          (.ret))
         (.ops [
           ⟨(some 30), none, .mv (.t 0)⟩,
           ⟨(some 31), none, .mv (.t 5)⟩,
           ⟨(some 32), none, .sidx (.t 30) (.t 31)⟩,
           ⟨(some 33), none, .call c2 [(.t 4), (.t 32)]⟩] false)))))))
     (.ops [
      ⟨(some 28), none, .mv (.t 5)⟩,
      ⟨(some 29), none, .bin .add (.t 28) (.c (.int .i64 1))⟩,
      ⟨(some 5), none, .mv (.t 29)⟩] false))))))
  (.seq (.ops [
    ⟨(some 68), none, .call c3 [(.t 4)]⟩,
    ⟨(some 2), none, .mv (.t 68)⟩,
    ⟨(some 3), none, .mv (.c (.int .i64 0))⟩] false)
  (.ret)))))) }

def irTkSigns : IFn :=
 { nt := 2, res := [.t 0], body := (
  .seq (.ops [
    ⟨(some 0), none, .mv (.c (.sl true 1 []))⟩] false)
  (.seq (.ops [
    ⟨(some 1), none, .bslice 1 [(.c (.str [61, 61])), (.c (.str [40])), (.c (.str [41])), (.c (.str [123])), (.c (.str [125])), (.c (.str [44])), (.c (.str [59])), (.c (.str [58])), (.c (.str [46])), (.c (.str [61])), (.c (.str [43])), (.c (.str [45])), (.c (.str [42])), (.c (.str [60]))]⟩,
    ⟨(some 0), none, .mv (.t 1)⟩] false)
  (.ret))) }

end Go.Zam

namespace Go.Zam
set_option linter.all false
set_option maxRecDepth 100000
set_option maxHeartbeats 1000000

abbrev Bs := List UInt8
/-- the program's function has this form -/
def Has (P : Program) (f : FuncId) (i : IFn) : Prop := ∃ fn, P.funcs[f]? = some fn ∧ compF P [] fn = some i
/-- the same, with tokens -/
def HasT (P : Program) (tk : List Nat) (f : FuncId) (i : IFn) : Prop := ∃ fn, P.funcs[f]? = some fn ∧ compF P tk fn = some i
/-- a function that asks a byte -/
def ByteOk (P : Program) (f : FuncId) (p : UInt8 → Bool) : Prop := ∀ (b : UInt8) H, ACall P f [.d (.int .u8 b.toNat)] H (fun r H' => r = .d (.bool (p b)) ∧ H' = H)

theorem least_of {p : Nat → Prop} : ∀ n, p n → ∃ d, p d ∧ ∀ e, p e → d ≤ e := by
  intro n
  induction n using Nat.strongRecOn with
  | ind n ih =>
  intro h
  by_cases hm : ∃ m, m < n ∧ p m
  · obtain ⟨m, hm, hp⟩ := hm
    exact ih m hm hp
  · exact ⟨n, h, fun e he => Nat.le_of_not_lt fun hl => hm ⟨e, hl, he⟩⟩

/-- what a round hands on, where something falls -/
def NextM (J : Nat → Fr → Hp → Prop) (_ : Tag J) (m d : Nat) (fr : Fr) (H : Hp) : Prop := ∃ k d', m ≤ k ∧ k ≤ H.length ∧ d' < d ∧ J d' (fr.clr k) (Hp.cut k H)

@[congr] theorem NextM_congr {J : Nat → Fr → Hp → Prop} {t : Tag J} {m d : Nat} {fr fr' : Fr} {H H' : Hp} (h : fr = fr') (h2 : H = H') : NextM J t m d fr H = NextM J t m d fr' H' := by rw [h, h2]

theorem NextM_of {J : Nat → Fr → Hp → Prop} {t : Tag J} {m d : Nat} {fr : Fr} {H : Hp} (k d' : Nat) (hk : m ≤ k) (h : k ≤ H.length) (hd : d' < d) (hj : J d' (fr.clr k) (Hp.cut k H)) : NextM J t m d fr H := ⟨k, d', hk, h, hd, hj⟩

/-- A LOOP IN WHICH SOMETHING FALLS -/
theorem LoopM_of {P : Program} {n0 : Nat} {Q : Ex → Fr → Hp → Prop} {fr : Fr} {H : Hp} {c : C} {t : Tag (Q, c)} (m : Nat) (J : Nat → Fr → Hp → Prop) (start : Nat) (h1 : n0 ≤ m ∧ m ≤ H.length) (h2 : J start (fr.clr m) (Hp.cut m H))
    (h3 : ∀ d fr H, J d fr H → AWp P n0 c (Ex.then (NextM J .mk m d) Q) fr H) : LoopK Q c t P n0 fr H := by
  have key : ∀ fr H, (∃ d, J d fr H) → ∃ d, J d fr H ∧ ∀ e, J e fr H → d ≤ e := fun fr H ⟨d, h⟩ => least_of (p := fun d => J d fr H) d h
  let mu : Fr → Hp → Nat := fun fr H => @dite _ (∃ d, J d fr H) (Classical.propDecidable _) (fun h => (key fr H h).choose) (fun _ => 0)
  have hmu : ∀ fr H (h : ∃ d, J d fr H), J (mu fr H) fr H ∧ ∀ e, J e fr H → mu fr H ≤ e := fun fr H h => by
    have : mu fr H = (key fr H h).choose := dif_pos h
    rw [this]
    exact (key fr H h).choose_spec
  refine LoopK_of m (fun fr H => ∃ d, J d fr H) mu h1 ⟨start, h2⟩ ?_
  rintro fr H h
  obtain ⟨g1, g2⟩ := hmu fr H h
  refine AWp.mono _ ?_ _ _ (h3 _ _ _ g1)
  intro e fr' H' hn
  cases e with
  | normal =>
    obtain ⟨k, d', k1, k2, k3, k4⟩ := hn
    refine AgainK_ofk (t := .mk) k k1 k2 ⟨d', k4⟩ ?_
    exact Nat.lt_of_le_of_lt ((hmu _ _ ⟨d', k4⟩).2 d' k4) k3
  | exit j => exact hn
  | ret => exact hn

section
variable {P : Program}

def blankB (b : UInt8) : Bool := decide ((b.toNat : Int) = 32) || decide ((b.toNat : Int) = 9) || decide ((b.toNat : Int) = 10) || decide ((b.toNat : Int) = 13)
def hashB (b : UInt8) : Bool := decide ((b.toNat : Int) = 35)
def noNlB (b : UInt8) : Bool := !decide ((b.toNat : Int) = 10)
def wordB (b : UInt8) : Bool := letterB b || digitB b

theorem Has.letter {f} (h : Has P f irLetter) : ByteOk P f letterB := fun b H => letter_acall h.choose_spec.1 h.choose_spec.2 b H
theorem Has.digit {f} (h : Has P f irDigit) : ByteOk P f digitB := fun b H => digit_acall h.choose_spec.1 h.choose_spec.2 b H

theorem Has.blank {f} (h : Has P f irTkBlank) : ByteOk P f blankB := fun b H => by
  obtain ⟨fn, hf, hcf⟩ := h
  refine acall_fin hf hcf (by simp [irTkBlank]) fun hcl _ => ?_
  simp [irTkBlank]
  generalize ha : decide ((b.toNat : Int) = 32) = a
  generalize hb : decide ((b.toNat : Int) = 9) = c
  generalize hd : decide ((b.toNat : Int) = 10) = d
  generalize he : decide ((b.toNat : Int) = 13) = e
  have hl : blankB b = (a || c || d || e) := by simp only [blankB, ha, hb, hd, he]
  cases a <;> cases c <;> cases d <;> cases e <;> simp [ha, hb, hd, he] <;> simp [RetK, cut_self hcl, hl]

theorem Has.hash {f} (h : Has P f irScHash) : ByteOk P f hashB := fun b H => by
  obtain ⟨fn, hf, hcf⟩ := h
  refine acall_fin hf hcf (by simp [irScHash]) fun hcl _ => ?_
  simp [irScHash]
  simp [RetK, cut_self hcl, hashB]

theorem Has.noNl {f} (h : Has P f irScNoNl) : ByteOk P f noNlB := fun b H => by
  obtain ⟨fn, hf, hcf⟩ := h
  refine acall_fin hf hcf (by simp [irScNoNl]) fun hcl _ => ?_
  simp [irScNoNl]
  simp [RetK, cut_self hcl, noNlB]

theorem Has.wordB {f fl fd} (h : Has P f (irScWordB fl fd)) (hl : ByteOk P fl letterB) (hd : ByteOk P fd digitB) : ByteOk P f Zam.wordB := fun b H => by
  obtain ⟨fn, hf, hcf⟩ := h
  refine acall_fin hf hcf (by simp [irScWordB]) fun hcl _ => ?_
  simp [irScWordB]
  refine CallK_of' (hl b _) ?_
  cases e : letterB b with
  | true =>
    simp
    simp [RetK, cut_self hcl, Zam.wordB, e]
  | false =>
    simp
    refine CallK_of' (hd b _) ?_
    simp
    simp [RetK, cut_self hcl, Zam.wordB, e]

/-- whether there is another byte, and of that kind -/
def moreB (p : UInt8 → Bool) : Bs → Bool
  | [] => false
  | b :: _ => p b

def scan (ts : TypeId) (text : Bs) (at_ : Nat) : Ob := .box ts [.d (.str text), .d (.int .i64 (at_ : Int))]

theorem byteAt_drop {s : Bs} {n : Nat} {b : UInt8} {r : Bs} (h : s.drop n = b :: r) : byteAt s (n : Int) = some b ∧ n < s.length := by
  have hn : n < s.length := by
    rcases Nat.lt_or_ge n s.length with h' | h'
    · exact h'
    · rw [List.drop_eq_nil_of_le h'] at h; cases h
  refine ⟨?_, hn⟩
  have : s[n] = b := by
    have e := List.drop_eq_getElem_cons hn
    rw [h] at e
    exact (List.cons.inj e).1.symm
  simp [byteAt, hn, this]

theorem Has.more {f} (h : Has P f irScMore) {k : FuncId} {p : UInt8 → Bool} (hk : callOk P k = true) (hp : ByteOk P k p) {H : Hp} {i : Nat} {ts : TypeId} {text : Bs} {n : Nat} (hi : H[i]? = some (scan ts text n)) :
    ACall P f [.ptr i 0, .d (.fn k)] H (fun r H' => r = .d (.bool (moreB p (text.drop n))) ∧ H' = H) := by
  obtain ⟨fn, hf, hcf⟩ := h
  refine acall_fin hf hcf (by simp [irScMore]) fun hcl _ => ?_
  unfold scan at hi
  simp [irScMore, hi]
  cases hd : text.drop n with
  | nil =>
    have hn : ¬ n < text.length := by
      have := List.drop_eq_nil_iff.1 hd
      omega
    simp [hn]
    simp [RetK, cut_self hcl, moreB]
  | cons b r =>
    obtain ⟨hb, hn⟩ := byteAt_drop hd
    simp [hn, hi, hb]
    refine ⟨hk, ?_⟩
    refine CallD_of (hp b _) ?_
    simp
    simp [RetK, cut_self hcl, moreB]

theorem Hp.set_self {H : Hp} {i : Nat} {o : Ob} (h : H[i]? = some o) : H.set i o = H := by
  obtain ⟨hi, e⟩ := List.getElem?_eq_some_iff.1 h
  rw [← e]; exact List.set_getElem_self hi

/-- how many bytes of a kind stand first -/
def runN (p : UInt8 → Bool) (s : Bs) : Nat := (s.takeWhile p).length

theorem runN_le (p : UInt8 → Bool) (s : Bs) : runN p s ≤ s.length := by
  unfold runN
  exact List.Sublist.length_le (List.takeWhile_sublist p)

theorem runN_step (p : UInt8 → Bool) : ∀ (s : Bs) (j : Nat), j ≤ runN p s → moreB p (s.drop j) = decide (j < runN p s)
  | [], j, h => by simp [runN] at h ⊢; subst h; rfl
  | b :: r, 0, h => by
    cases e : p b <;> simp [runN, moreB, e]
  | b :: r, j + 1, h => by
    cases e : p b with
    | false => simp [runN, e] at h
    | true =>
      have hr : runN p (b :: r) = runN p r + 1 := by simp [runN, e]
      rw [hr] at h ⊢
      have := runN_step p r j (by omega)
      simpa using this

theorem scan_len {H : Hp} {i : Nat} {o : Ob} (h : H[i]? = some o) : i < H.length := (List.getElem?_eq_some_iff.1 h).1

/-- the text behind a place is behind a further one -/
theorem drop_add' (s : Bs) (n j : Nat) : (s.drop n).drop j = s.drop (n + j) := by rw [List.drop_drop]

theorem sub_ok {s : Bs} {n w : Nat} (h : n + w ≤ s.length) : subL s (n : Int) ((n : Int) + w) = some ((s.drop n).take w) := by
  rw [subL_ok ⟨by omega, by omega, by omega⟩]
  congr 2 <;> omega

theorem Has.word {f fm fw} (h : Has P f (irScWord fm fw)) (hm : Has P fm irScMore) (hk : callOk P fw = true) (hw : ByteOk P fw Zam.wordB) {H : Hp} {i : Nat} {ts : TypeId} {text : Bs} {n : Nat} (hi : H[i]? = some (scan ts text n)) (hn : n ≤ text.length) (hl : text.length ≤ 4611686018427387904) :
    ACall P f [.ptr i 0] H (fun r H' => r = .d (.str ((text.drop n).take (runN Zam.wordB (text.drop n)))) ∧ H' = H.set i (scan ts text (n + runN Zam.wordB (text.drop n)))) := by
  obtain ⟨fn, hf, hcf⟩ := h
  have hil := scan_len hi
  refine acall_fin hf hcf (by simp [irScWord]) fun hcl _ => ?_
  have hi' := hi
  unfold scan at hi'
  simp [irScWord, hi']
  have hW := runN_le Zam.wordB (text.drop n)
  have hstep := runN_step Zam.wordB (text.drop n)
  simp only [drop_add', List.length_drop] at hW hstep
  generalize runN Zam.wordB (text.drop n) = W at hW hstep
  refine LoopK_outR 0 (fun fr H' => fr 0 = .ptr i 0 ∧ fr 3 = .d (.int .i64 (n : Int)) ∧ H' = H.set i (scan ts text (n + W))) (fun _ _ => False) ?_ (fun _ _ h => h.elim) ?_
  · refine LoopM_of H.length (fun d fr H' => ∃ j, d = W - j ∧ j ≤ W ∧ fr 0 = .ptr i 0 ∧ fr 3 = .d (.int .i64 (n : Int)) ∧ H' = H.set i (scan ts text (n + j))) W (by simp) ⟨0, ?_⟩ ?_
    · simp [cut_self hcl, hil]
      exact (Hp.set_self hi).symm
    rintro d fr H' ⟨j, rfl, hj, f0, f3, rfl⟩
    have hij : (H.set i (scan ts text (n + j)))[i]? = some (scan ts text (n + j)) := by simp [hil]
    have hm' := hm.more hk hw hij
    rw [hstep j hj] at hm'
    simp [f0]
    refine CallK_of' hm' ?_
    simp
    refine BrK_split (fun h => ?_) (fun h => ?_)
    · have hlt : j < W := by simpa using h
      have hwr : IntKind.i64.wrap ((n : Int) + j + 1) = n + (j + 1) := by rw [wrap_i64 (by omega) (by omega)]; omega
      simp [f0, hil, scan, hwr]
      refine NextM_of H.length (W - (j + 1)) (Nat.le_refl _) (by simp) (by omega) ⟨j + 1, rfl, by omega, ?_⟩
      simp [f0, f3, Hp.cut_set, cut_self hcl, hil, scan]
    · have hjj : j = W := by have : ¬ j < W := by simpa using h
                             omega
      subst hjj
      simp [f0, f3]
  rintro fr H' ⟨f0, f3, rfl⟩
  have hs := sub_ok (s := text) (n := n) (w := W) (by omega)
  simp [f0, f3, hil, scan, hs]
  simp [RetK, Hp.cut_set, cut_self hcl, hil, scan]

end
end Go.Zam

namespace Go.Zam
set_option linter.all false
set_option maxRecDepth 100000
set_option maxHeartbeats 1000000

/-- how many bytes mean nothing; true: in a comment -/
def leadS : Bool → Bs → Nat
  | _, [] => 0
  | false, b :: r => if blankB b then leadS false r + 1 else if hashB b then leadS true r + 1 else 0
  | true, b :: r => if noNlB b then leadS true r + 1 else leadS false r + 1

theorem lead_le : ∀ (c : Bool) (s : Bs), leadS c s ≤ s.length
  | _, [] => by simp [leadS]
  | false, b :: r => by
    have h1 := lead_le false r
    have h2 := lead_le true r
    simp only [leadS, List.length_cons]
    split
    · omega
    · split <;> omega
  | true, b :: r => by
    have h1 := lead_le false r
    have h2 := lead_le true r
    simp only [leadS, List.length_cons]
    split <;> omega

theorem lead_blank : ∀ (s : Bs), leadS false s = runN blankB s + leadS false (s.drop (runN blankB s))
  | [] => by simp [leadS, runN]
  | b :: r => by
    cases e : blankB b with
    | false => simp [runN, e]
    | true =>
      have := lead_blank r
      have hr : runN blankB (b :: r) = runN blankB r + 1 := by simp [runN, e]
      rw [hr, List.drop_succ_cons, leadS, if_pos e]
      omega

theorem lead_cmt : ∀ (s : Bs), leadS true s = runN noNlB s + leadS false (s.drop (runN noNlB s))
  | [] => by simp [leadS, runN]
  | b :: r => by
    cases e : noNlB b with
    | false =>
      have hb : blankB b = true := by
        have : (b.toNat : Int) = 10 := by simpa [noNlB] using e
        simp [blankB, this]
      simp [runN, e, leadS, hb]
    | true =>
      have := lead_cmt r
      have hr : runN noNlB (b :: r) = runN noNlB r + 1 := by simp [runN, e]
      rw [hr, List.drop_succ_cons, leadS, if_pos e]
      omega

theorem lead_hash {s : Bs} (h : moreB hashB s = true) : leadS false s = runN noNlB s + leadS false (s.drop (runN noNlB s)) ∧ 1 ≤ runN noNlB s := by
  cases s with
  | nil => simp [moreB] at h
  | cons b r =>
    have hb : (b.toNat : Int) = 35 := by simpa [moreB, hashB] using h
    have h1 : blankB b = false := by simp [blankB, hb]
    have h2 : hashB b = true := by simp [hashB, hb]
    have h3 : noNlB b = true := by simp [noNlB, hb]
    have hr : runN noNlB (b :: r) = runN noNlB r + 1 := by simp [runN, h3]
    have := lead_cmt r
    rw [hr, List.drop_succ_cons, leadS, h1, if_neg (by simp), if_pos h2]
    exact ⟨by omega, by omega⟩

theorem lead_none {s : Bs} (h1 : moreB blankB s = false) (h2 : moreB hashB s = false) : leadS false s = 0 := by
  cases s with
  | nil => rfl
  | cons b r =>
    have h1 : blankB b = false := h1
    have h2 : hashB b = false := h2
    simp [leadS, h1, h2]

section
variable {P : Program}

theorem Has.lead {f fm fb fh fl} (h : Has P f (irScLead fm fb fh fl)) (hm : Has P fm irScMore) (k1 : callOk P fb = true) (p1 : ByteOk P fb blankB) (k2 : callOk P fh = true) (p2 : ByteOk P fh hashB) (k3 : callOk P fl = true) (p3 : ByteOk P fl noNlB)
    {H : Hp} {i : Nat} {ts : TypeId} {text : Bs} {n : Nat} (hi : H[i]? = some (scan ts text n)) (hn : n ≤ text.length) (hl : text.length ≤ 4611686018427387904) :
    ACall P f [.ptr i 0] H (fun r H' => r = .d (.str ((text.drop n).take (leadS false (text.drop n)))) ∧ H' = H.set i (scan ts text (n + leadS false (text.drop n)))) := by
  obtain ⟨fn, hf, hcf⟩ := h
  have hil := scan_len hi
  refine acall_fin hf hcf (by simp [irScLead]) fun hcl _ => ?_
  have hi' := hi
  unfold scan at hi'
  simp [irScLead, hi']
  have hL := lead_le false (text.drop n)
  simp only [List.length_drop] at hL
  refine LoopM_of H.length (fun d fr H' => ∃ j, d = leadS false (text.drop n) - j ∧ j + leadS false (text.drop (n + j)) = leadS false (text.drop n) ∧ fr 0 = .ptr i 0 ∧ fr 3 = .d (.int .i64 (n : Int)) ∧ H' = H.set i (scan ts text (n + j))) (leadS false (text.drop n)) (by simp) ⟨0, ?_⟩ ?_
  · simp [cut_self hcl, hil]
    exact (Hp.set_self hi).symm
  generalize leadS false (text.drop n) = L at hL
  rintro d fr H' ⟨j, rfl, hj, f0, f3, rfl⟩
  simp
  have hb := lead_blank (text.drop (n + j))
  have hstep := runN_step blankB (text.drop (n + j))
  have hW := runN_le blankB (text.drop (n + j))
  simp only [drop_add', List.length_drop] at hW hstep hb
  generalize runN blankB (text.drop (n + j)) = wa at hb hstep hW
  refine LoopK_out 2 (fun fr H' => fr 0 = .ptr i 0 ∧ fr 3 = .d (.int .i64 (n : Int)) ∧ H' = H.set i (scan ts text (n + j + wa))) ?_ ?_
  · refine LoopM_of H.length (fun d fr H' => ∃ q, d = wa - q ∧ q ≤ wa ∧ fr 0 = .ptr i 0 ∧ fr 3 = .d (.int .i64 (n : Int)) ∧ H' = H.set i (scan ts text (n + j + q))) wa (by simp) ⟨0, ?_⟩ ?_
    · simp [f0, f3, Hp.cut_set, cut_self hcl, hil, scan]
    rintro d fr H' ⟨q, rfl, hq, f0, f3, rfl⟩
    have hij : (H.set i (scan ts text (n + j + q)))[i]? = some (scan ts text (n + j + q)) := by simp [hil]
    have hm' := hm.more k1 p1 hij
    rw [hstep q hq] at hm'
    simp [f0]
    refine CallK_of' hm' ?_
    simp
    refine BrK_split (fun h => ?_) (fun h => ?_)
    · have hlt : q < wa := by simpa using h
      have hwr : IntKind.i64.wrap (((n : Int) + j) + q + 1) = ((n : Int) + j) + (q + 1) := by rw [wrap_i64 (by omega) (by omega)]; omega
      simp [f0, hil, scan, hwr]
      refine NextM_of H.length (wa - (q + 1)) (Nat.le_refl _) (by simp) (by omega) ⟨q + 1, rfl, by omega, ?_⟩
      simp [f0, f3, Hp.cut_set, cut_self hcl, hil, scan]
    · have hqq : q = wa := by
        have : ¬ q < wa := by simpa using h
        omega
      subst hqq
      simp [f0, f3]
  rintro fr H' ⟨f0, f3, rfl⟩
  have hij : (H.set i (scan ts text (n + j + wa)))[i]? = some (scan ts text (n + j + wa)) := by simp [hil]
  have hm' := hm.more k2 p2 hij
  simp [f0]
  refine CallK_of' hm' ?_
  cases hh : moreB hashB (text.drop (n + j + wa)) with
  | false =>
    have hnb : moreB blankB (text.drop (n + j + wa)) = false := by rw [hstep wa (Nat.le_refl _)]; simp
    have h0 := lead_none hnb hh
    have hLL : L = j + wa := by omega
    have hs := sub_ok (s := text) (n := n) (w := j + wa) (by omega)
    simp [f0, f3, hil, scan, Int.add_assoc]
    simp at hs
    simp [hs]
    simp [RetK, Hp.cut_set, cut_self hcl, hil, scan, hLL, Int.add_assoc]
  | true =>
    simp
    obtain ⟨hc, hc1⟩ := lead_hash hh
    have hstep := runN_step noNlB (text.drop (n + j + wa))
    have hW := runN_le noNlB (text.drop (n + j + wa))
    simp only [drop_add', List.length_drop] at hW hstep hc
    generalize runN noNlB (text.drop (n + j + wa)) = wc at hc hc1 hstep hW
    refine LoopK_out 4 (fun fr H' => fr 0 = .ptr i 0 ∧ fr 3 = .d (.int .i64 (n : Int)) ∧ H' = H.set i (scan ts text (n + j + wa + wc))) ?_ ?_
    · refine LoopM_of H.length (fun d fr H' => ∃ q, d = wc - q ∧ q ≤ wc ∧ fr 0 = .ptr i 0 ∧ fr 3 = .d (.int .i64 (n : Int)) ∧ H' = H.set i (scan ts text (n + j + wa + q))) wc (by simp) ⟨0, ?_⟩ ?_
      · simp [f0, f3, Hp.cut_set, cut_self hcl, hil, scan]
      rintro d fr H' ⟨q, rfl, hq, f0, f3, rfl⟩
      have hij : (H.set i (scan ts text (n + j + wa + q)))[i]? = some (scan ts text (n + j + wa + q)) := by simp [hil]
      have hm' := hm.more k3 p3 hij
      rw [hstep q hq] at hm'
      simp [f0]
      refine CallK_of' hm' ?_
      simp
      refine BrK_split (fun h => ?_) (fun h => ?_)
      · have hlt : q < wc := by simpa using h
        have hwr : IntKind.i64.wrap (((n : Int) + j + wa) + q + 1) = ((n : Int) + j + wa) + (q + 1) := by rw [wrap_i64 (by omega) (by omega)]; omega
        simp [f0, hil, scan, hwr]
        refine NextM_of H.length (wc - (q + 1)) (Nat.le_refl _) (by simp) (by omega) ⟨q + 1, rfl, by omega, ?_⟩
        simp [f0, f3, Hp.cut_set, cut_self hcl, hil, scan]
      · have hqq : q = wc := by
          have : ¬ q < wc := by simpa using h
          omega
        subst hqq
        simp [f0, f3]
    rintro fr H' ⟨f0, f3, rfl⟩
    simp
    refine NextM_of H.length (L - (j + wa + wc)) (Nat.le_refl _) (by simp) (by omega) ⟨j + wa + wc, rfl, ?_, ?_⟩
    · have e : n + (j + wa + wc) = n + j + wa + wc := by omega
      rw [e]; omega
    · simp [f0, f3, Hp.cut_set, cut_self hcl, hil, scan, Int.add_assoc]

end
end Go.Zam

namespace Go.Zam
set_option linter.all false
set_option maxRecDepth 100000
set_option maxHeartbeats 1000000

def keysT : List Bs := [[100, 101, 102], [100, 121, 110], [101, 108, 115, 101], [102, 110], [105, 102], [105, 110, 112, 117, 116], [105, 110, 116], [108, 101, 116], [112, 114, 105, 110, 116], [114, 101, 116, 117, 114, 110], [115, 116, 114], [117, 115, 101], [119, 104, 105, 108, 101]]
theorem keysT_mem (s : Bs) : s ∈ keysT ↔ s ∈ keysL := by
  constructor
  · intro h
    simp only [keysT, List.mem_cons, List.not_mem_nil, or_false] at h
    rcases h with rfl | rfl | rfl | rfl | rfl | rfl | rfl | rfl | rfl | rfl | rfl | rfl | rfl <;> decide
  · intro h
    simp only [keysL, List.mem_cons, List.not_mem_nil, or_false] at h
    rcases h with rfl | rfl | rfl | rfl | rfl | rfl | rfl | rfl | rfl | rfl | rfl | rfl | rfl <;> decide

def signsT : List Bs := [[61, 61], [40], [41], [123], [125], [44], [59], [58], [46], [61], [43], [45], [42], [60]]
/-- the sign that a text begins with; none: nothing -/
def signV (s : Bs) : Bs := (signsT.find? fun x => x.isPrefixOf s).getD []

/-- a function that says whether a text begins with another one -/
def PrefixOk (P : Program) (f : FuncId) : Prop := ∀ (s p : Bs) H, ACall P f [.d (.str s), .d (.str p)] H (fun r H' => r = .d (.bool (p.isPrefixOf s)) ∧ H' = H)

section
variable {P : Program}

theorem Has.idx {f} (h : Has P f irSlIdx) (z : Bool) (ns : List Bs) (x : Bs) (hn : ns.length ≤ 1048576) (H : Hp) : ACall P f [.d (.sl z 1 (ns.map encStr)), .d (.str x)] H (fun r H' => (∃ q : Int, r = .d (.int .i64 q) ∧ (0 ≤ q ↔ x ∈ ns)) ∧ H' = H) := by
  obtain ⟨fn, hf, hcf⟩ := h
  refine acall_fin hf hcf (by simp [irSlIdx]) fun hcl _ => ?_
  simp [irSlIdx]
  refine LoopK_outR 0 (fun fr H' => x ∉ ns ∧ H' = H) (fun fr H' => (∃ q : Int, fr 4 = .d (.int .i64 q) ∧ 0 ≤ q) ∧ x ∈ ns ∧ H' = H) ?_ ?_ ?_
  · refine RangeK_of H.length ns.length (fun i fr H' => fr 0 = .d (.sl z 1 (ns.map encStr)) ∧ fr 1 = .d (.str x) ∧ x ∉ ns.take i ∧ H' = H) (by omega) (by decide) (by simp) (by simp) ?_ ?_ ?_
    · simp [cut_self hcl]
    · rintro i fr H' hi f8 f7 ⟨f0, f1, hx, rfl⟩
      have hr := rowAt_map encStr hi
      have ht : ns.take (i + 1) = ns.take i ++ [ns[i]] := List.take_succ_eq_append_getElem hi
      have hm := List.getElem_mem hi
      simp only [encStr] at hr
      generalize ns[i] = w at hr ht hm
      simp [f8, f0, f1, hr]
      refine BrK_split (fun h => ?_) (fun h => ?_)
      · have e : x = w := by simpa using h
        simp
        exact e ▸ hm
      · have e : ¬ x = w := by simpa using h
        simp
        refine NextK_of H'.length (Nat.le_refl _) (by simp [f8, f7]) ?_
        simp [f0, f1, cut_self hcl, ht, hx, e]
    · rintro fr H' f8 f7 ⟨f0, f1, hx, rfl⟩
      rw [List.take_of_length_le (Nat.le_refl _)] at hx
      simp [hx]
  · rintro fr H' ⟨⟨q, f4, hq⟩, hx, rfl⟩
    simp
    simp [RetK, cut_self hcl, f4, hx]
    exact hq
  · rintro fr H' ⟨hx, rfl⟩
    simp
    simp [RetK, cut_self hcl, hx]

theorem Has.has {f fi} (h : Has P f (irSlHas fi)) (hi : Has P fi irSlIdx) (z : Bool) (ns : List Bs) (x : Bs) (hn : ns.length ≤ 1048576) (H : Hp) : ACall P f [.d (.sl z 1 (ns.map encStr)), .d (.str x)] H (fun r H' => r = .d (.bool (decide (x ∈ ns))) ∧ H' = H) := by
  obtain ⟨fn, hf, hcf⟩ := h
  refine acall_fin hf hcf (by simp [irSlHas]) fun hcl _ => ?_
  simp [irSlHas]
  refine CallK_of (hi.idx z ns x hn _) ?_
  rintro r H' ⟨⟨q, rfl, hq⟩, rfl⟩
  simp
  simp [RetK, cut_self hcl, hq]

theorem Has.keys {f} (h : Has P f irTkKeys) (H : Hp) : ACall P f [] H (fun r H' => r = .d (.sl false 1 (keysT.map encStr)) ∧ H' = H) := by
  obtain ⟨fn, hf, hcf⟩ := h
  refine acall_fin hf hcf (by simp [irTkKeys]) fun hcl _ => ?_
  simp [irTkKeys]
  simp [RetK, cut_self hcl, keysT, encStr]

theorem Has.signs {f} (h : Has P f irTkSigns) (H : Hp) : ACall P f [] H (fun r H' => r = .d (.sl false 1 (signsT.map encStr)) ∧ H' = H) := by
  obtain ⟨fn, hf, hcf⟩ := h
  refine acall_fin hf hcf (by simp [irTkSigns]) fun hcl _ => ?_
  simp [irTkSigns]
  simp [RetK, cut_self hcl, signsT, encStr]

theorem Has.isKey {f fk fh fi} (h : Has P f (irTkIsKey fk fh)) (hk : Has P fk irTkKeys) (hh : Has P fh (irSlHas fi)) (hi : Has P fi irSlIdx) (s : Bs) (H : Hp) : ACall P f [.d (.str s)] H (fun r H' => r = .d (.bool (decide (s ∈ keysL))) ∧ H' = H) := by
  obtain ⟨fn, hf, hcf⟩ := h
  refine acall_fin hf hcf (by simp [irTkIsKey]) fun hcl _ => ?_
  simp [irTkIsKey]
  refine CallK_of' (hk.keys _) ?_
  have := hh.has hi false keysT s (by decide) H
  simp only [keysT_mem] at this
  simp
  refine CallK_of' this ?_
  simp
  simp [RetK, cut_self hcl]

theorem Has.isName {f fl fk fd} (h : Has P f (irTkIsName fl fk fd)) (hl : ByteOk P fl letterB) (hd : ByteOk P fd digitB) (hk : ∀ s H, ACall P fk [.d (.str s)] H (fun r H' => r = .d (.bool (decide (s ∈ keysL))) ∧ H' = H)) (s : Bs) (H : Hp) : ACall P f [.d (.str s)] H (fun r H' => r = .d (.bool (isNameB s)) ∧ H' = H) := by
  obtain ⟨fn, hf, hcf⟩ := h
  refine acall_fin hf hcf (by simp [irTkIsName]) fun hcl _ => ?_
  cases s with
  | nil =>
    simp [irTkIsName]
    simp [RetK, cut_self hcl, isNameB]
  | cons b r =>
  generalize hS : b :: r = S
  have hb0 : byteAt S 0 = some b := by subst hS; rfl
  have hN : isNameB S = (decide (S.length ≤ 40) && !decide (S ∈ keysL) && !digitB b && S.all fun c => letterB c || digitB c) := by subst hS; rfl
  have hall : S.all (fun c => letterB c || digitB c) = true → letterB b = false → digitB b = true := by
    subst hS
    intro h1 h2
    simp only [List.all_cons, Bool.and_eq_true, Bool.or_eq_true, h2] at h1
    simpa using h1.1
  have hld : letterB b = true → digitB b = false := by
    intro h
    cases e : digitB b with
    | false => rfl
    | true =>
      simp only [letterB, digitB, Bool.or_eq_true, Bool.and_eq_true, decide_eq_true_eq] at h e
      omega
  have hne' : ¬ S = [] := by subst hS; simp
  by_cases g1 : (40 : Int) < S.length
  case pos =>
    have : ¬ S.length ≤ 40 := by omega
    simp [irTkIsName, hne', g1]
    simp [RetK, cut_self hcl, hN, this]
  have g1' : S.length ≤ 40 := by omega
  simp [irTkIsName, hne', g1, hb0]
  refine CallK_of' (hl b _) ?_
  cases hlb : letterB b with
  | false =>
    have hF : isNameB S = false := by
      rw [hN]
      cases hA : S.all (fun c => letterB c || digitB c) with
      | false => simp
      | true => rw [hall hA hlb]; simp
    simp
    simp [RetK, cut_self hcl, hF]
  | true =>
  simp
  refine CallK_of' (hk S _) ?_
  by_cases g2 : S ∈ keysL
  case pos =>
    simp [g2]
    simp [RetK, cut_self hcl, hN, g2]
  simp [g2]
  have hN' : isNameB S = S.all fun c => letterB c || digitB c := by rw [hN]; simp [g1', g2, hld hlb]
  refine LoopK_outR 0 (fun fr H' => isNameB S = true ∧ H' = H) (fun fr H' => fr 2 = .d (.bool false) ∧ isNameB S = false ∧ H' = H) ?_ ?_ ?_
  · refine RangeK_of H.length S.length (fun i fr H' => fr 0 = .d (.str S) ∧ (∀ c ∈ S.take i, (letterB c || digitB c) = true) ∧ H' = H) (by omega) (by decide) (by simp) (by simp) ?_ ?_ ?_
    · simp [cut_self hcl]
    · rintro i fr H' hi f23 f22 ⟨f0, ha, rfl⟩
      have hbi : byteAt S (i : Int) = some S[i] := by simp [byteAt, hi]
      have ht : S.take (i + 1) = S.take i ++ [S[i]] := List.take_succ_eq_append_getElem hi
      have hm := List.getElem_mem hi
      generalize S[i] = c at hbi ht hm
      simp [f23, f0, hbi]
      refine CallK_of' (hl c _) ?_
      cases hc : letterB c with
      | true =>
        simp
        refine NextK_of H'.length (Nat.le_refl _) (by simp [f23, f22]) ?_
        simp [f0, cut_self hcl, ht]
        intro q hq
        rcases hq with hq | rfl
        · simpa using ha q hq
        · exact .inl hc
      | false =>
        simp [f0, hbi]
        refine CallK_of' (hd c _) ?_
        cases hdc : digitB c with
        | true =>
          simp
          refine NextK_of H'.length (Nat.le_refl _) (by simp [f23, f22]) ?_
          simp [f0, cut_self hcl, ht]
          intro q hq
          rcases hq with hq | rfl
          · simpa using ha q hq
          · exact .inr hdc
        | false =>
          have hF : isNameB S = false := by
            rw [hN']
            exact List.all_eq_false.2 ⟨c, hm, by simp [hc, hdc]⟩
          simp [hF]
    · rintro fr H' f23 f22 ⟨f0, ha, rfl⟩
      rw [List.take_of_length_le (Nat.le_refl _)] at ha
      have hT : isNameB S = true := by
        rw [hN']
        exact List.all_eq_true.2 ha
      simp [hT]
  · rintro fr H' ⟨f2, hF, rfl⟩
    simp
    simp [RetK, cut_self hcl, f2, hF]
  · rintro fr H' ⟨hT, rfl⟩
    simp
    simp [RetK, cut_self hcl, hT]

theorem sub_end {s : Bs} {n : Nat} (h : n ≤ s.length) : subL s (n : Int) (s.length : Int) = some (s.drop n) := by
  rw [subL_ok ⟨by omega, by omega, by omega⟩]
  congr 1
  rw [List.take_of_length_le (by simp)]
  simp

theorem Has.sign {f fs fp} (h : Has P f (irScSign fs fp)) (hs : Has P fs irTkSigns) (hp : PrefixOk P fp) {H : Hp} {i : Nat} {ts : TypeId} {text : Bs} {n : Nat} (hi : H[i]? = some (scan ts text n)) (hn : n ≤ text.length) (hl : text.length ≤ 4611686018427387904) :
    ACall P f [.ptr i 0] H (fun r H' => r = .d (.str (signV (text.drop n))) ∧ H' = H.set i (scan ts text (n + (signV (text.drop n)).length))) := by
  obtain ⟨fn, hf, hcf⟩ := h
  have hil := scan_len hi
  refine acall_fin hf hcf (by simp [irScSign]) fun hcl _ => ?_
  have hi' := hi
  unfold scan at hi'
  simp [irScSign]
  refine CallK_of' (hs.signs _) ?_
  simp
  refine LoopK_outR 0 (fun fr H' => signV (text.drop n) = [] ∧ H' = H) (fun fr H' => fr 2 = .d (.str (signV (text.drop n))) ∧ H' = H.set i (scan ts text (n + (signV (text.drop n)).length))) ?_ ?_ ?_
  · refine RangeK_of H.length signsT.length (fun j fr H' => fr 0 = .ptr i 0 ∧ fr 5 = .d (.sl false 1 (signsT.map encStr)) ∧ (∀ x ∈ signsT.take j, x.isPrefixOf (text.drop n) = false) ∧ H' = H) (by decide) (by decide) (by simp) (by simp) ?_ ?_ ?_
    · simp [cut_self hcl, hil]
    · rintro j fr H' hj f7 f6 ⟨f0, f5, ha, rfl⟩
      have hr := rowAt_map encStr hj
      have ht : signsT.take (j + 1) = signsT.take j ++ [signsT[j]] := List.take_succ_eq_append_getElem hj
      have hfind : signsT[j].isPrefixOf (text.drop n) = true → signV (text.drop n) = signsT[j] := fun h => by
        have : signsT.find? (fun x => x.isPrefixOf (text.drop n)) = some signsT[j] := by
          rw [List.find?_eq_some_iff_getElem]
          refine ⟨h, j, hj, rfl, fun k hk => ?_⟩
          rw [ha signsT[k] (by rw [List.mem_take_iff_getElem]; exact ⟨k, by omega, rfl⟩)]
          rfl
        rw [signV, this]; rfl
      have hlen : signsT[j].length ≤ 2 := by
        have : ∀ x ∈ signsT, x.length ≤ 2 := by decide
        exact this _ (List.getElem_mem hj)
      simp only [encStr] at hr
      generalize signsT[j] = x at hr ht hfind hlen
      simp [f7, f5, f0, hr, hi', sub_end hn]
      refine CallD_of (hp _ x _) ?_
      cases hx : x.isPrefixOf (text.drop n) with
      | true =>
        have hv := hfind hx
        have hwr : IntKind.i64.wrap ((n : Int) + x.length) = n + x.length := wrap_i64 (by omega) (by omega)
        have hg : H'[i] = Ob.box ts [.d (.str text), .d (.int .i64 (n : Int))] := (List.getElem?_eq_some_iff.1 hi').2
        simp [f0, hil, hg, hwr]
        simp [hv, scan]
      | false =>
        simp
        refine NextK_of H'.length (Nat.le_refl _) (by simp [f7, f6]) ?_
        simp [f0, f5, cut_self hcl, ht]
        refine ⟨hil, ?_⟩
        intro q hq
        rcases hq with hq | rfl
        · simpa using ha q hq
        · simpa using hx
    · rintro fr H' f7 f6 ⟨f0, f5, ha, rfl⟩
      rw [List.take_of_length_le (Nat.le_refl _)] at ha
      have : signsT.find? (fun x => x.isPrefixOf (text.drop n)) = none := by
        rw [List.find?_eq_none]
        intro x hx
        rw [ha x hx]; simp
      simp [signV, this]
  · rintro fr H' ⟨f2, rfl⟩
    simp
    simp [RetK, Hp.cut_set, cut_self hcl, hil, scan, f2]
  · rintro fr H' ⟨hv, rfl⟩
    simp
    simp [RetK, cut_self hcl, hv]
    exact (Hp.set_self hi).symm

end
end Go.Zam

namespace Go.Zam
set_option linter.all false
set_option maxRecDepth 100000
set_option maxHeartbeats 1000000

def unesc (c : UInt8) : Option UInt8 := if c = 110 then some 10 else if c = 116 then some 9 else if c = 34 then some 34 else if c = 92 then some 92 else none

def unqI : Bs → Option Bs
  | [] => some []
  | [b] => if b = 92 then none else if b.toNat < 32 ∨ b = 34 then none else some [b]
  | b :: c :: r => if b = 92 then (unesc c).bind fun x => (unqI r).map (x :: ·) else if b.toNat < 32 ∨ b = 34 then none else (unqI (c :: r)).map (b :: ·)

/-- what a string of the language stands for -/
def unqV (s : Bs) : Option Bs := if s.length < 2 ∨ s.head? ≠ some 34 ∨ s.getLast? ≠ some 34 then none else unqI ((s.drop 1).take (s.length - 2))
def unqR : Option Bs → A
  | some x => .tup [.d (.str x), .d (.int .i64 0)]
  | none => .tup [.d (.str []), .d (.int .i64 22)]

/-- a function that says where a byte stands first -/
def IndexOk (P : Program) (f : FuncId) : Prop := ∀ (s : Bs) (c : UInt8) H, ACall P f [.d (.str s), .d (.int .u8 c.toNat)] H (fun r H' => r = .d (.int .i64 (Lib.indexByte s c)) ∧ H' = H)
/-- strings.Builder's WriteByte, at a program -/
def WriteBOk (P : Program) (f : FuncId) (bt : TypeId) : Prop := ∀ (H : Hp) (i t : Nat) (a : A) (bs : List UInt8) (c : UInt8), H[i]? = some (.box bt [a, .osl true 1 (byteRows bs) t]) → (a = .d .nilp ∨ a = .ptr i 0) → H[t]? = some (.tok bs.length 1 5) → bs.length + 1 ≤ 140737488355328 →
    ACall P f [.ptr i 0, .d (.int .u8 c.toNat)] H (fun r H' => r = .d .nili ∧ H' = (H.set i (.box bt [.ptr i 0, .osl true 1 (byteRows (bs ++ [c])) t])).set t (.tok (bs ++ [c]).length 1 5))

theorem index_unesc (c : UInt8) : (∃ x, unesc c = some x ∧ 0 ≤ Lib.indexByte [110, 116, 34, 92] c ∧ byteAt [10, 9, 34, 92] (Lib.indexByte [110, 116, 34, 92] c) = some x) ∨ (unesc c = none ∧ Lib.indexByte [110, 116, 34, 92] c < 0) := by
  by_cases h1 : c = 110
  · subst h1; exact .inl ⟨10, by decide, by decide, by decide⟩
  by_cases h2 : c = 116
  · subst h2; exact .inl ⟨9, by decide, by decide, by decide⟩
  by_cases h3 : c = 34
  · subst h3; exact .inl ⟨34, by decide, by decide, by decide⟩
  by_cases h4 : c = 92
  · subst h4; exact .inl ⟨92, by decide, by decide, by decide⟩
  have e : Lib.indexByte [110, 116, 34, 92] c = -1 := by
    have g : ∀ x : UInt8, c ≠ x → (x == c) = false := fun x h => by simpa using Ne.symm h
    simp [Lib.indexByte, g _ h1, g _ h2, g _ h3, g _ h4]
  rw [e]
  exact .inr ⟨by simp [unesc, h1, h2, h3, h4], by decide⟩

theorem byteAt_nat (s : Bs) (n : Nat) : byteAt s (n : Int) = s[n]? := by
  have : ¬ ((n : Int) < 0) := by omega
  simp [byteAt]
theorem byte_eq (b c : UInt8) : ((b.toNat : Int) = (c.toNat : Int)) ↔ b = c := by
  constructor
  · intro e; exact UInt8.toNat_inj.1 (by omega)
  · rintro rfl; rfl

section
variable {P : Program}

theorem HasT.unquote {f fi fw fs bt} (h : HasT P [4] f (irRnUnquote fi fw fs bt 5)) (hi : IndexOk P fi) (hw : WriteBOk P fw bt) (hs : StringOk P fs bt) (s : Bs) (hl : s.length ≤ 1048576) (H : Hp) :
    ACall P f [.d (.str s)] H (fun r H' => r = unqR (unqV s) ∧ H' = H) := by
  obtain ⟨fn, hf, hcf⟩ := h
  refine acall_fin hf hcf (by simp [irRnUnquote]) fun hcl _ => ?_
  by_cases h1 : s.length < 2
  case pos =>
    have h1' : (s.length : Int) < 2 := by omega
    simp [irRnUnquote, h1']
    simp [RetK, cut_self hcl, unqV, unqR, h1]
  have h1' : ¬ (s.length : Int) < 2 := by omega
  obtain ⟨b0, hb0⟩ : ∃ b, byteAt s 0 = some b := ⟨s[0], by simp [byteAt]⟩
  obtain ⟨b1, hb1⟩ : ∃ b, byteAt s ((s.length : Int) - 1) = some b := by
    refine ⟨s[s.length - 1], ?_⟩
    have e : ((s.length : Int) - 1) = ((s.length - 1 : Nat) : Int) := by omega
    rw [e, byteAt_nat, List.getElem?_eq_getElem]
  have hh : s.head? = some b0 := by
    cases s with
    | nil => simp at h1
    | cons a r => simpa [byteAt] using hb0
  have hg : s.getLast? = some b1 := by
    have e : ((s.length : Int) - 1) = ((s.length - 1 : Nat) : Int) := by omega
    rw [List.getLast?_eq_getElem?, ← byteAt_nat, ← e]
    exact hb1
  have hwm : IntKind.i64.wrap ((s.length : Int) - 1) = s.length - 1 := wrap_i64 (by omega) (by omega)
  have byte34 : ∀ b : UInt8, ((b.toNat : Int) = 34) ↔ b = 34 := fun b => byte_eq b 34
  have byte92 : ∀ b : UInt8, ((b.toNat : Int) = 92) ↔ b = 92 := fun b => byte_eq b 92
  by_cases h2 : b0 = 34
  case neg =>
    have h2' : ¬ ((b0.toNat : Int) = 34) := fun e => h2 ((byte34 _).1 e)
    simp [irRnUnquote, h1', hb0, h2']
    simp [RetK, cut_self hcl, unqV, unqR, hh, h2]
  by_cases h3 : b1 = 34
  case neg =>
    have h3' : ¬ ((b1.toNat : Int) = 34) := fun e => h3 ((byte34 _).1 e)
    simp [irRnUnquote, h1', hb0, h2, hwm, hb1, h3']
    simp [RetK, cut_self hcl, unqV, unqR, hg, h3]
  subst h2; subst h3
  simp [irRnUnquote, h1', hb0, hwm, hb1]
  have hU : unqV s = unqI ((s.drop 1).take (s.length - 2)) := by simp [unqV, h1, hh, hg]
  rw [hU]
  have hb34 : ∀ b, byteAt s ((s.length : Int) - 1) = some b → b = 34 := fun b e => by rw [hb1] at e; exact (Option.some.inj e).symm
  obtain ⟨m, hm⟩ : ∃ m, s.length = m + 2 := ⟨s.length - 2, by omega⟩
  obtain ⟨I, hI⟩ : ∃ I, I = (s.drop 1).take (s.length - 2) := ⟨_, rfl⟩
  rw [← hI]
  have hmi : I.length = m := by rw [hI]; simp; omega
  have hbyte : ∀ j : Nat, j < m → byteAt s ((1 : Int) + j) = I[j]? := fun j hj => by
    have e : ((1 : Int) + j) = ((j + 1 : Nat) : Int) := by omega
    rw [e, byteAt_nat, hI, List.getElem?_take, if_pos (by omega), List.getElem?_drop]
    congr 1; omega
  have hbend : byteAt s ((1 : Int) + m) = some 34 := by
    have e : ((1 : Int) + m) = (s.length : Int) - 1 := by omega
    rw [e, hb1]
  clear hI hU
  refine LoopK_outR 0 (fun fr H' => ∃ x a, unqI I = some x ∧ x.length ≤ m ∧ fr 4 = .ptr (H.length + 1) 0 ∧ H' = H ++ [.tok x.length 1 5, .box bt [a, .osl true 1 (byteRows x) H.length]]) (fun fr H' => fr 2 = .d (.str []) ∧ fr 3 = .d (.int .i64 22) ∧ unqI I = none ∧ ∃ X, H' = H ++ X) ?_ ?_ ?_
  · refine LoopM_of (H.length + 2) (fun d fr H' => ∃ j x a, d = m - j ∧ j ≤ m ∧ unqI I = (unqI (I.drop j)).map (x ++ ·) ∧ x.length ≤ j ∧ (a = .d .nilp ∨ a = .ptr (H.length + 1) 0) ∧ fr 0 = .d (.str s) ∧ fr 4 = .ptr (H.length + 1) 0 ∧ fr 5 = .d (.int .i64 (1 + (j : Int))) ∧ H' = H ++ [.tok x.length 1 5, .box bt [a, .osl true 1 (byteRows x) H.length]]) m (by simp) ⟨0, [], .d .nilp, ?_⟩ ?_
    · simp [cut_appk hcl, byteRows]
    rintro d fr H' ⟨j, x, a, rfl, hj, hq, hxl, ha, f0, f4, f5, rfl⟩
    simp [f5, f0, hwm]
    refine BrK_split (fun hlt => ?_) (fun hlt => ?_)
    · have hjm : j < m := by have : 1 + (j : Int) < (s.length : Int) - 1 := by simpa using hlt
                             omega
      have hb := hbyte j hjm
      rw [List.getElem?_eq_getElem (by omega)] at hb
      have hdr : I.drop j = I[j]'(by omega) :: I.drop (j + 1) := List.drop_eq_getElem_cons (by omega)
      generalize I[j]'(by omega) = b at hb hdr
      rw [hdr] at hq
      have hw1 : IntKind.i64.wrap (1 + (j : Int) + 1) = 1 + ((j : Int) + 1) := by rw [wrap_i64 (by omega) (by omega)]; omega
      have hw2 : IntKind.i64.wrap (1 + ((j : Int) + 1) + 1) = 1 + ((j : Int) + 1 + 1) := by rw [wrap_i64 (by omega) (by omega)]; omega
      have put := fun (c : UInt8) => hw (H ++ [.tok x.length 1 5, .box bt [a, .osl true 1 (byteRows x) H.length]]) (H.length + 1) H.length a x c (by simp) ha (by simp) (by omega)
      simp at put
      simp [f5, f0, hb]
      refine BrK_split (fun h92 => ?_) (fun h92 => ?_)
      · have h92 : b = 92 := (byte92 b).1 (by simpa using h92)
        subst h92
        by_cases hj1 : j + 1 = m
        · have hnone : unqI I = none := by
            have : I.drop (j + 1) = [] := List.drop_eq_nil_of_le (by omega)
            rw [hq, this]; rfl
          have hbe : byteAt s (1 + ((j : Int) + 1)) = some 34 := by
            have e : (1 + ((j : Int) + 1)) = 1 + (m : Int) := by omega
            rw [e, hbend]
          have heq : 1 + ((j : Int) + 1) = (s.length : Int) - 1 := by omega
          simp [f5, f0, hw1, hbe]
          refine CallK_of' (hi [110, 116, 34, 92] 34 _) ?_
          have hk : Lib.indexByte [110, 116, 34, 92] 34 = 2 := by decide
          rw [hk]
          simp [hw1, f0, hwm, heq, hnone]
        · have hjl : j + 1 < m := by omega
          have hbc := hbyte (j + 1) hjl
          rw [List.getElem?_eq_getElem (by omega)] at hbc
          have hdc : I.drop (j + 1) = I[j + 1]'(by omega) :: I.drop (j + 1 + 1) := List.drop_eq_getElem_cons (by omega)
          generalize I[j + 1]'(by omega) = c at hbc hdc
          rw [hdc] at hq
          simp only [Int.natCast_add, Int.natCast_one] at hbc
          have hne : ¬ (1 + ((j : Int) + 1) = (s.length : Int) - 1) := by omega
          simp [f5, f0, hw1, hbc]
          refine CallK_of' (hi [110, 116, 34, 92] c _) ?_
          rcases index_unesc c with ⟨y, g1, g2, g3⟩ | ⟨g1, g2⟩
          · have hq' : unqI I = (unqI (I.drop (j + 1 + 1))).map ((x ++ [y]) ++ ·) := by
              rw [hq]
              simp only [unqI, g1]
              cases unqI (I.drop (j + 1 + 1)) <;> simp
            generalize Lib.indexByte [110, 116, 34, 92] c = k at g2 g3
            have hk : ¬ k < 0 := by omega
            simp [hw1, f0, f4, hwm, hne, hk, g3]
            refine CallK_of' (put y) ?_
            simp [hw2]
            refine NextM_of (H.length + 2) (m - (j + 2)) (Nat.le_refl _) (by simp) (by omega) ⟨j + 2, x ++ [y], .ptr (H.length + 1) 0, rfl, by omega, hq', by simp; omega, .inr rfl, ?_⟩
            simp [f0, f4, cut_appk hcl, hw2]
            omega
          · have hnone : unqI I = none := by
              rw [hq]
              simp [unqI, g1]
            generalize Lib.indexByte [110, 116, 34, 92] c = k at g2
            simp [hw1, f0, hwm, g2, hnone]
      · have h92 : ¬ b = 92 := fun e => by simp [e] at h92
        have hu : ∀ r, unqI (b :: r) = if b.toNat < 32 ∨ b = 34 then none else (unqI r).map (b :: ·) := fun r => by
          cases r with
          | nil => simp [unqI, h92]
          | cons c r => simp [unqI, h92]
        rw [hu] at hq
        by_cases hlo : b.toNat < 32
        · have hnone : unqI I = none := by rw [hq]; simp [hlo]
          have hlo' : (b.toNat : Int) < 32 := by omega
          simp [f5, f0, hb, hlo', hnone]
        · have hlo' : ¬ (b.toNat : Int) < 32 := by omega
          by_cases h34 : b = 34
          · have hnone : unqI I = none := by rw [hq]; simp [h34]
            subst h34
            simp [f5, f0, hb, hlo', hnone]
          · have h34' : ¬ (b.toNat : Int) = 34 := fun e => h34 ((byte34 _).1 e)
            have hq' : unqI I = (unqI (I.drop (j + 1))).map ((x ++ [b]) ++ ·) := by
              rw [hq, if_neg (by simp [hlo, h34])]
              cases unqI (I.drop (j + 1)) <;> simp
            simp [f5, f0, f4, hb, hlo', h34']
            refine CallK_of' (put b) ?_
            simp [f5, hw1]
            refine NextM_of (H.length + 2) (m - (j + 1)) (Nat.le_refl _) (by simp) (by omega) ⟨j + 1, x ++ [b], .ptr (H.length + 1) 0, rfl, by omega, hq', by simp; omega, .inr rfl, ?_⟩
            simp [f0, f4, cut_appk hcl, hw1]
    · have hjm : j = m := by have : ¬ (1 + (j : Int) < (s.length : Int) - 1) := by simpa using hlt
                             omega
      subst hjm
      rw [List.drop_eq_nil_of_le (by omega), unqI] at hq
      simp [f4]
      refine ⟨x, by simpa using hq, hxl, ?_⟩
      simp
  · rintro fr H' ⟨f2, f3, hn, X, rfl⟩
    simp
    simp [RetK, cut_app hcl, f2, f3, hn, unqR]
  · rintro fr H' ⟨x, a, hx, hxl, f4, rfl⟩
    simp [f4]
    have w3 := hs (H ++ [.tok x.length 1 5, .box bt [a, .osl true 1 (byteRows x) H.length]]) (H.length + 1) H.length a x (by simp) (by simp) (by omega)
    refine CallK_of' w3 ?_
    simp
    simp [RetK, cut_app hcl, hx, unqR]

end
end Go.Zam

namespace Go.Zam
set_option linter.all false
set_option maxRecDepth 100000
set_option maxHeartbeats 1000000

/-- a heap that begins as another one -/
def Pre0 (H0 H : Hp) : Prop := ∃ X, H = H0 ++ X
theorem Pre0.app {H0 H : Hp} (h : Pre0 H0 H) (X : Hp) : Pre0 H0 (H ++ X) := by obtain ⟨Y, rfl⟩ := h; exact ⟨Y ++ X, by simp⟩
theorem Pre0.self (H : Hp) : Pre0 H H := ⟨[], by simp⟩

/-- how far a string goes behind its first quote -/
def strS : Bs → Option Nat
  | [] => none
  | [b] => if b = 34 then some 1 else none
  | b :: c :: r => if b = 34 then some 1 else if b = 92 then (strS r).map (· + 2) else if b = 10 then none else (strS (c :: r)).map (· + 1)

/-- a string that a text begins with, what is wrong with it -/
def strV (s : Bs) : Bs × Int := match strS (s.drop 1) with
  | none => ([], 22)
  | some k => (s.take (k + 1), if (unqV (s.take (k + 1))).isSome then 0 else 22)

theorem strS_le : ∀ {s : Bs} {k : Nat}, strS s = some k → 1 ≤ k ∧ k ≤ s.length
  | [], k, h => by simp [strS] at h
  | [b], k, h => by
    simp only [strS] at h
    split at h
    · simp at h ⊢; omega
    · cases h
  | b :: c :: r, k, h => by
    simp only [strS] at h
    split at h
    · simp at h ⊢; omega
    split at h
    · cases e : strS r with
      | none => simp [e] at h
      | some q => have := strS_le e; simp [e] at h; simp; omega
    split at h
    · cases h
    · cases e : strS (c :: r) with
      | none => simp [e] at h
      | some q => have := strS_le e; simp [e] at h; simp at this ⊢; omega

section
variable {P : Program}

theorem Has.str {f fu} (h : Has P f (irScStr fu)) (hu : ∀ (s : Bs) H, s.length ≤ 1048576 → ACall P fu [.d (.str s)] H (fun r H' => r = unqR (unqV s) ∧ H' = H)) {H : Hp} {i : Nat} {ts : TypeId} {text : Bs} {n : Nat} (hi : H[i]? = some (scan ts text n)) (hn : n < text.length) (hl : text.length ≤ 1048576) :
    ACall P f [.ptr i 0] H (fun r H' => (∃ k : Nat, r = .tup [.d (.str (strV (text.drop n)).1), .d (.int .i64 (strV (text.drop n)).2)] ∧ H' = H.set i (scan ts text k) ∧ ((strV (text.drop n)).2 = 0 → k = n + (strV (text.drop n)).1.length))) := by
  obtain ⟨fn, hf, hcf⟩ := h
  have hil := scan_len hi
  refine acall_fin hf hcf (by simp [irScStr]) fun hcl _ => ?_
  have hg : H[i] = Ob.box ts [.d (.str text), .d (.int .i64 (n : Int))] := (List.getElem?_eq_some_iff.1 hi).2
  have hw0 : IntKind.i64.wrap ((n : Int) + 1) = n + 1 := wrap_i64 (by omega) (by omega)
  simp [irScStr, hil, hg, hw0]
  have hrest : (text.drop n).drop 1 = text.drop (n + 1) := by rw [List.drop_drop]
  have hSV : strV (text.drop n) = match strS (text.drop (n + 1)) with
    | none => ([], 22)
    | some k => ((text.drop n).take (k + 1), if (unqV ((text.drop n).take (k + 1))).isSome then 0 else 22) := by rw [strV, hrest]
  refine LoopK_outR 0 (fun fr H' => strS (text.drop (n + 1)) = none ∧ ∃ k : Nat, H' = H.set i (scan ts text k)) (fun fr H' => ∃ k : Nat, fr 2 = .d (.str (strV (text.drop n)).1) ∧ fr 3 = .d (.int .i64 (strV (text.drop n)).2) ∧ H' = H.set i (scan ts text k) ∧ ((strV (text.drop n)).2 = 0 → k = n + (strV (text.drop n)).1.length)) ?_ ?_ ?_
  · refine LoopM_of H.length (fun d fr H' => ∃ j : Nat, d = text.length + 1 - (n + 1 + j) ∧ n + 1 + j ≤ text.length + 1 ∧ strS (text.drop (n + 1)) = (strS (text.drop (n + 1 + j))).map (· + j) ∧ fr 0 = .ptr i 0 ∧ fr 4 = .d (.int .i64 (n : Int)) ∧ H' = H.set i (scan ts text (n + 1 + j))) (text.length + 1 - (n + 1 + 0)) (by simp) ⟨0, rfl, by omega, ?_, ?_⟩ ?_
    · simp
    · simp [cut_self hcl, Hp.cut_set, hil, scan]
    rintro d fr H' ⟨j, rfl, hj, hq, f0, f4, rfl⟩
    simp [f0, hil, scan]
    refine BrK_split (fun hlt => ?_) (fun hlt => ?_)
    · have hlt' : n + 1 + j < text.length := by have : (n : Int) + 1 + j < text.length := by simpa using hlt
                                                omega
      have hdr : text.drop (n + 1 + j) = text[n + 1 + j] :: text.drop (n + 1 + j + 1) := List.drop_eq_getElem_cons hlt'
      have hb : byteAt text ((n : Int) + 1 + j) = some text[n + 1 + j] := by
        have e : ((n : Int) + 1 + j) = ((n + 1 + j : Nat) : Int) := by omega
        rw [e, byteAt_nat, List.getElem?_eq_getElem hlt']
      generalize text[n + 1 + j] = b at hdr hb
      have hw1 : IntKind.i64.wrap ((n : Int) + 1 + j + 1) = (n : Int) + 1 + (j + 1) := by rw [wrap_i64 (by omega) (by omega)]; omega
      have hw2 : IntKind.i64.wrap ((n : Int) + 1 + (j + 1) + 1) = (n : Int) + 1 + (j + 1 + 1) := by rw [wrap_i64 (by omega) (by omega)]; omega
      simp [f0, hil, hb]
      refine BrK_split (fun h34 => ?_) (fun h34 => ?_)
      · have h34 : b = 34 := (byte_eq b 34).1 (by simpa using h34)
        subst h34
        have hS : strS (text.drop (n + 1)) = some (j + 1) := by
          rw [hq, hdr]
          cases text.drop (n + 1 + j + 1) <;> simp [strS] <;> omega
        have hsub : subL text (n : Int) ((n : Int) + 1 + (j + 1)) = some ((text.drop n).take (j + 1 + 1)) := by
          have := sub_ok (s := text) (n := n) (w := j + 1 + 1) (by omega)
          rw [← this]; congr 1; omega
        simp only [hS] at hSV
        have hU := hu ((text.drop n).take (j + 1 + 1)) (H.set i (scan ts text (n + 1 + (j + 1)))) (by simp; omega)
        have hlen : ((text.drop n).take (j + 1 + 1)).length = j + 1 + 1 := by simp; omega
        generalize (text.drop n).take (j + 1 + 1) = T at hSV hsub hU hlen
        simp [f0, f4, hil, hw1, hsub]
        simp [scan] at hU
        refine CallK_of' hU ?_
        cases hv : unqV T with
        | none =>
          simp [unqR]
          exact ⟨by simp [hSV], by simp [hSV, hv], n + 1 + (j + 1), by simp [scan], fun h => by simp [hSV, hv] at h⟩
        | some x =>
          simp [unqR]
          exact ⟨by simp [hSV], by simp [hSV, hv], n + 1 + (j + 1), by simp [scan], fun h => by simp [hSV, hlen]; omega⟩
      · have h34 : ¬ b = 34 := fun e => by simp [e] at h34
        simp
        refine BrK_split (fun h92 => ?_) (fun h92 => ?_)
        · have h92 : b = 92 := (byte_eq b 92).1 (by simpa using h92)
          subst h92
          simp [f0, hil, hw1, hw2]
          refine NextM_of H.length (text.length + 1 - (n + 1 + (j + 2))) (Nat.le_refl _) (by simp) (by omega) ⟨j + 2, rfl, by omega, ?_, ?_⟩
          · rw [hq, hdr]
            have e2 : n + 1 + (j + 2) = n + 1 + j + 1 + 1 := by omega
            rw [e2]
            cases hd2 : text.drop (n + 1 + j + 1) with
            | nil =>
              have : text.drop (n + 1 + j + 1 + 1) = [] := by
                rw [← List.drop_drop, hd2]; rfl
              rw [this]; simp [strS]
            | cons c r =>
              have : text.drop (n + 1 + j + 1 + 1) = r := by
                rw [← List.drop_drop, hd2]; rfl
              rw [this]
              simp only [strS]
              simp
              cases strS r <;> simp <;> omega
          · simp [f0, f4, Hp.cut_set, cut_self hcl, hil, scan, hw2]
            have e3 : (n : Int) + 1 + ((j : Int) + 1 + 1) = n + 1 + (j + 2) := by omega
            rw [e3]
        · have h92 : ¬ b = 92 := fun e => by simp [e] at h92
          simp
          refine BrK_split (fun h10 => ?_) (fun h10 => ?_)
          · have h10 : b = 10 := (byte_eq b 10).1 (by simpa using h10)
            subst h10
            have hS : strS (text.drop (n + 1)) = none := by
              rw [hq, hdr]
              cases text.drop (n + 1 + j + 1) <;> simp [strS]
            simp only [hS] at hSV
            simp [hSV]
            exact ⟨n + 1 + j, by simp [scan]⟩
          · have h10 : ¬ b = 10 := fun e => by simp [e] at h10
            simp [f0, hil, hw1]
            refine NextM_of H.length (text.length + 1 - (n + 1 + (j + 1))) (Nat.le_refl _) (by simp) (by omega) ⟨j + 1, rfl, by omega, ?_, ?_⟩
            · rw [hq, hdr]
              have e2 : n + 1 + (j + 1) = n + 1 + j + 1 := by omega
              rw [e2]
              cases hd2 : text.drop (n + 1 + j + 1) with
              | nil => simp [strS, h34]
              | cons c r =>
                simp only [strS, h34, h92, h10]
                simp
                cases strS (c :: r) <;> simp <;> omega
            · simp [f0, f4, Hp.cut_set, cut_self hcl, hil, scan]
    · have hge : text.length ≤ n + 1 + j := by have : ¬ ((n : Int) + 1 + j < text.length) := by simpa using hlt
                                               omega
      have hS : strS (text.drop (n + 1)) = none := by
        rw [hq, List.drop_eq_nil_of_le hge]; rfl
      simp [hS]
      exact ⟨n + 1 + j, by simp [scan]⟩
  · rintro fr H' ⟨k, f2, f3, rfl, hk⟩
    simp
    simp [RetK, Hp.cut_set, cut_self hcl, hil, scan, f2, f3]
    exact ⟨k, rfl, hk⟩
  · rintro fr H' ⟨hS, k, rfl⟩
    simp only [hS] at hSV
    simp
    simp [RetK, Hp.cut_set, cut_self hcl, hil, scan, hSV]
    exact ⟨k, rfl⟩

end
end Go.Zam
