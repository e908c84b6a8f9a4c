/-
  Texts of one proof, one behind the other: An abstract machine over the model, thirtieth part: edits of texts: what they are, and the plain laws of undoing them; the code of the functions on them. No condition. An abstract machine over the model, thirty-first part: the functions on edits: what they compute, over any program that has them. The lengths are bounded where a theorem says so. An abstract machine over the model, thirty-second part: IndexFunc; an array handed back in a pair; maps from names. No condition. An abstract machine over the model, thirty-third part: comparing texts. No condition. An abstract machine over the model, thirty-fourth part: heaps that are closed; cells of boxes and of rows; Clone's answer as a plain slice. No condition. An abstract machine over the model, thirty-sixth part: a slice that was appended to, handed to a function that writes its cells. No program in sight. No condition. Values of the language, as the statements on values have them: their cells, and what they are but for whether a slice is nil. No condition. An abstract machine over the model, thirty-seventh part: loops over the rows of a slice, by their number. No program in sight. No condition.
-/
import Derived.Test.YtdhanghnffkckaaDoorM3
namespace Go.Zam
set_option linter.all false
set_option maxRecDepth 100000

def irSound (et : Nat) : IFn :=
 { nt := 53, res := [.t 4], body := (
  .seq (.ops [
    ⟨(some 4), none, .mv (.c (.int .i64 0))⟩] false)
  (.seq (.seq (.ops [
     ⟨(some 8), none, .mv (.t 0)⟩,
     ⟨(some 9), none, .lenL (.t 8)⟩,
     ⟨(some 10), none, .bin .gtr (.t 9) (.c (.int .i64 512))⟩] false)
   (.cond (.t 10) (.seq (.ops [
      ⟨(some 4), none, .mv (.c (.int .i64 5))⟩] false)
    (.ret))
   (.skip)))
  (.seq (.ops [
    ⟨(some 5), none, .mv (.c (.int .i64 (-1)))⟩] false)
  (.seq (.seq (.ops [
     ⟨(some 11), none, .mv (.t 0)⟩,
     ⟨(some 12), none, .lenL (.t 11)⟩,
     ⟨(some 13), none, .mv (.c (.int .i64 0))⟩] false)
   (.blk 0 (.loop (.seq (.ops [
       ⟨(some 14), none, .bin .lss (.t 13) (.t 12)⟩] false)
     (.seq (.cond (.t 14) (.skip)
      (.exit 0))
     (.seq (.blk 1 (.seq (.ops [
         ⟨(some 15), none, .iaddr 3 (.t 11) (.t 13)⟩,
         ⟨(some 16), none, .load 3 true (.t 15)⟩,
         ⟨(some 7), none, .alloc et [(.int .i64 0), (.int .i64 0), (.str [])]⟩,
         ⟨none, none, .store 3 (.t 7) (.t 16)⟩] false)
       (.seq (.blk 2 (.seq (.ops [
           ⟨(some 18), none, .faddr 0 (.t 7)⟩,
           ⟨(some 19), none, .load 1 false (.t 18)⟩,
           ⟨(some 20), none, .bin .lss (.t 19) (.c (.int .i64 0))⟩,
           ⟨(some 21), none, .mv (.t 20)⟩,
           ⟨(some 22), (some (21, false)), .faddr 0 (.t 7)⟩,
           ⟨(some 23), (some (21, false)), .load 1 false (.t 22)⟩,
           ⟨(some 24), (some (21, false)), .faddr 1 (.t 7)⟩,
           ⟨(some 25), (some (21, false)), .load 1 false (.t 24)⟩,
           ⟨(some 26), (some (21, false)), .bin .gtr (.t 23) (.t 25)⟩,
           ⟨(some 27), none, .pick (.t 21) (.c (.bool true)) (.t 26)⟩,
           ⟨(some 28), none, .mv (.t 27)⟩,
           ⟨(some 29), (some (28, false)), .faddr 1 (.t 7)⟩,
           ⟨(some 30), (some (28, false)), .load 1 false (.t 29)⟩,
           ⟨(some 31), (some (28, false)), .mv (.t 1)⟩,
           ⟨(some 32), (some (28, false)), .bin .gtr (.t 30) (.t 31)⟩,
           ⟨(some 33), none, .pick (.t 28) (.c (.bool true)) (.t 32)⟩,
           ⟨(some 17), none, .mv (.t 33)⟩] false)
         (.cond (.t 17) (.seq (.ops [
            ⟨(some 4), none, .mv (.c (.int .i64 6))⟩] false)
          (.ret))
         (.seq (.ops [
            ⟨(some 35), none, .faddr 0 (.t 7)⟩,
            ⟨(some 36), none, .load 1 false (.t 35)⟩,
            ⟨(some 37), none, .faddr 1 (.t 7)⟩,
            ⟨(some 38), none, .load 1 false (.t 37)⟩,
            ⟨(some 39), none, .bin .eql (.t 36) (.t 38)⟩,
            ⟨(some 40), none, .mv (.t 39)⟩,
            ⟨(some 41), (some (40, true)), .faddr 2 (.t 7)⟩,
            ⟨(some 42), (some (40, true)), .load 1 false (.t 41)⟩,
            ⟨(some 43), (some (40, true)), .bin .eql (.t 42) (.c (.str []))⟩,
            ⟨(some 44), none, .pick (.t 40) (.t 43) (.c (.bool false))⟩,
            ⟨(some 34), none, .mv (.t 44)⟩] false)
          (.cond (.t 34) (.seq (.ops [
             ⟨(some 4), none, .mv (.c (.int .i64 1))⟩] false)
           (.ret))
          (.seq (.ops [
             ⟨(some 46), none, .faddr 0 (.t 7)⟩,
             ⟨(some 47), none, .load 1 false (.t 46)⟩,
             ⟨(some 48), none, .mv (.t 5)⟩,
             ⟨(some 49), none, .bin .leq (.t 47) (.t 48)⟩,
             ⟨(some 45), none, .mv (.t 49)⟩] false)
           (.cond (.t 45) (.seq (.ops [
              ⟨(some 4), none, .mv (.c (.int .i64 7))⟩] false)
            (.ret))
           (.skip))))))))
       (.ops [
        ⟨(some 50), none, .faddr 1 (.t 7)⟩,
        ⟨(some 51), none, .load 1 false (.t 50)⟩,
        ⟨(some 5), none, .mv (.t 51)⟩] false))))
     (.ops [
      ⟨(some 52), none, .bin .add (.t 13) (.c (.int .i64 1))⟩,
      ⟨(some 13), none, .mv (.t 52)⟩] false)))))))
  (.seq (.ops [
    ⟨(some 4), none, .mv (.c (.int .i64 0))⟩] false)
  (.ret)))))) }

def irWrite (cc : Nat) : IFn :=
 { nt := 19, res := [.t 4, .t 5], body := (
  .seq (.ops [
    ⟨(some 4), none, .mv (.c (.int .i64 0))⟩,
    ⟨(some 5), none, .mv (.c .nili)⟩] false)
  (.seq (.ops [
    ⟨(some 6), none, .mv (.t 0)⟩,
    ⟨(some 7), none, .call cc [(.t 6)]⟩] false)
  (.seq (.ops [
    ⟨(some 8), none, .mv (.t 0)⟩,
    ⟨(some 9), none, .mv (.t 0)⟩,
    ⟨(some 10), none, .nilCheck (.t 9)⟩,
    ⟨(some 11), none, .faddr 1 (.t 10)⟩,
    ⟨(some 12), none, .load 1 false (.t 11)⟩,
    ⟨(some 13), none, .mv (.t 1)⟩,
    ⟨(some 14), none, .appS 5 (.t 12) (.t 13)⟩,
    ⟨(some 15), none, .nilCheck (.t 8)⟩,
    ⟨(some 16), none, .faddr 1 (.t 15)⟩,
    ⟨none, none, .store 1 (.t 16) (.t 14)⟩] false)
  (.seq (.ops [
    ⟨(some 17), none, .mv (.t 1)⟩,
    ⟨(some 18), none, .lenS (.t 17)⟩,
    ⟨(some 4), none, .mv (.t 18)⟩,
    ⟨(some 5), none, .mv (.c .nili)⟩] false)
  (.ret))))) }

def irApply (et bt snd wr str : Nat) : IFn :=
 { nt := 41, res := [.t 4, .t 5], body := (
  .seq (.ops [
    ⟨(some 4), none, .mv (.c (.str []))⟩,
    ⟨(some 5), none, .mv (.c (.int .i64 0))⟩] false)
  (.seq (.seq (.ops [
     ⟨(some 11), none, .mv (.t 1)⟩,
     ⟨(some 12), none, .mv (.t 0)⟩,
     ⟨(some 13), none, .lenS (.t 12)⟩,
     ⟨(some 14), none, .call snd [(.t 11), (.t 13)]⟩,
     ⟨(some 6), none, .mv (.t 14)⟩] false)
   (.seq (.ops [
     ⟨(some 15), none, .mv (.t 6)⟩,
     ⟨(some 16), none, .bin .neq (.t 15) (.c (.int .i64 0))⟩] false)
   (.cond (.t 16) (.seq (.ops [
      ⟨(some 17), none, .mv (.t 6)⟩,
      ⟨(some 4), none, .mv (.c (.str []))⟩,
      ⟨(some 5), none, .mv (.t 17)⟩] false)
    (.ret))
   (.skip))))
  (.seq (.ops [
    ⟨(some 7), none, .allocT bt [.nilp, (.sl true 1 [])] 1 1 5⟩] false)
  (.seq (.ops [
    ⟨(some 8), none, .mv (.c (.int .i64 0))⟩] false)
  (.seq (.seq (.ops [
     ⟨(some 18), none, .mv (.t 1)⟩,
     ⟨(some 19), none, .lenL (.t 18)⟩,
     ⟨(some 20), none, .mv (.c (.int .i64 0))⟩] false)
   (.blk 0 (.loop (.seq (.ops [
       ⟨(some 21), none, .bin .lss (.t 20) (.t 19)⟩] false)
     (.seq (.cond (.t 21) (.skip)
      (.exit 0))
     (.seq (.blk 1 (.seq (.ops [
         ⟨(some 22), none, .iaddr 3 (.t 18) (.t 20)⟩,
         ⟨(some 23), none, .load 3 true (.t 22)⟩,
         ⟨(some 10), none, .alloc et [(.int .i64 0), (.int .i64 0), (.str [])]⟩,
         ⟨none, none, .store 3 (.t 10) (.t 23)⟩] false)
       (.seq (.ops [
         ⟨(some 24), none, .mv (.t 0)⟩,
         ⟨(some 25), none, .mv (.t 8)⟩,
         ⟨(some 26), none, .faddr 0 (.t 10)⟩,
         ⟨(some 27), none, .load 1 false (.t 26)⟩,
         ⟨(some 28), none, .sslice (.t 24) (some (.t 25)) (some (.t 27))⟩,
         ⟨(some 29), none, .call wr [(.t 7), (.t 28)]⟩] false)
       (.seq (.ops [
         ⟨(some 30), none, .faddr 2 (.t 10)⟩,
         ⟨(some 31), none, .load 1 false (.t 30)⟩,
         ⟨(some 32), none, .call wr [(.t 7), (.t 31)]⟩] false)
       (.ops [
        ⟨(some 33), none, .faddr 1 (.t 10)⟩,
        ⟨(some 34), none, .load 1 false (.t 33)⟩,
        ⟨(some 8), none, .mv (.t 34)⟩] false)))))
     (.ops [
      ⟨(some 35), none, .bin .add (.t 20) (.c (.int .i64 1))⟩,
      ⟨(some 20), none, .mv (.t 35)⟩] false)))))))
  (.seq (.ops [
    ⟨(some 36), none, .mv (.t 0)⟩,
    ⟨(some 37), none, .mv (.t 8)⟩,
    ⟨(some 38), none, .sslice (.t 36) (some (.t 37)) none⟩,
    ⟨(some 39), none, .call wr [(.t 7), (.t 38)]⟩] false)
  (.seq (.ops [
    ⟨(some 40), none, .call str [(.t 7)]⟩,
    ⟨(some 4), none, .mv (.t 40)⟩,
    ⟨(some 5), none, .mv (.c (.int .i64 0))⟩] false)
  (.ret)))))))) }

def irInvert (et snd : Nat) : IFn :=
 { nt := 58, res := [.t 4, .t 5], body := (
  .seq (.ops [
    ⟨(some 4), none, .mv (.c (.sl true 3 []))⟩,
    ⟨(some 5), none, .mv (.c (.int .i64 0))⟩] false)
  (.seq (.seq (.ops [
     ⟨(some 12), none, .mv (.t 1)⟩,
     ⟨(some 13), none, .mv (.t 0)⟩,
     ⟨(some 14), none, .lenS (.t 13)⟩,
     ⟨(some 15), none, .call snd [(.t 12), (.t 14)]⟩,
     ⟨(some 6), none, .mv (.t 15)⟩] false)
   (.seq (.ops [
     ⟨(some 16), none, .mv (.t 6)⟩,
     ⟨(some 17), none, .bin .neq (.t 16) (.c (.int .i64 0))⟩] false)
   (.cond (.t 17) (.seq (.ops [
      ⟨(some 18), none, .mv (.t 6)⟩,
      ⟨(some 4), none, .mv (.c (.sl true 3 []))⟩,
      ⟨(some 5), none, .mv (.t 18)⟩] false)
    (.ret))
   (.skip))))
  (.seq (.ops [
    ⟨(some 7), none, .nilT 3 et⟩] false)
  (.seq (.ops [
    ⟨(some 8), none, .mv (.c (.int .i64 0))⟩] false)
  (.seq (.seq (.ops [
     ⟨(some 19), none, .mv (.t 1)⟩,
     ⟨(some 20), none, .lenL (.t 19)⟩,
     ⟨(some 21), none, .mv (.c (.int .i64 0))⟩] false)
   (.blk 0 (.loop (.seq (.ops [
       ⟨(some 22), none, .bin .lss (.t 21) (.t 20)⟩] false)
     (.seq (.cond (.t 22) (.skip)
      (.exit 0))
     (.seq (.blk 1 (.seq (.ops [
         ⟨(some 23), none, .iaddr 3 (.t 19) (.t 21)⟩,
         ⟨(some 24), none, .load 3 true (.t 23)⟩,
         ⟨(some 10), none, .alloc et [(.int .i64 0), (.int .i64 0), (.str [])]⟩,
         ⟨none, none, .store 3 (.t 10) (.t 24)⟩] false)
       (.seq (.ops [
         ⟨(some 25), none, .faddr 0 (.t 10)⟩,
         ⟨(some 26), none, .load 1 false (.t 25)⟩,
         ⟨(some 27), none, .mv (.t 8)⟩,
         ⟨(some 28), none, .bin .add (.t 26) (.t 27)⟩,
         ⟨(some 11), none, .mv (.t 28)⟩] false)
       (.seq (.ops [
         ⟨(some 29), none, .mv (.t 7)⟩,
         ⟨(some 30), none, .mv (.t 11)⟩,
         ⟨(some 31), none, .mv (.t 11)⟩,
         ⟨(some 32), none, .faddr 2 (.t 10)⟩,
         ⟨(some 33), none, .load 1 false (.t 32)⟩,
         ⟨(some 34), none, .lenS (.t 33)⟩,
         ⟨(some 35), none, .bin .add (.t 31) (.t 34)⟩,
         ⟨(some 36), none, .mv (.t 0)⟩,
         ⟨(some 37), none, .faddr 0 (.t 10)⟩,
         ⟨(some 38), none, .load 1 false (.t 37)⟩,
         ⟨(some 39), none, .faddr 1 (.t 10)⟩,
         ⟨(some 40), none, .load 1 false (.t 39)⟩,
         ⟨(some 41), none, .sslice (.t 36) (some (.t 38)) (some (.t 40))⟩,
         ⟨(some 42), none, .build [(.int .i64 0), (.int .i64 0), (.str [])] [(0, 1, (.t 30)), (1, 1, (.t 35)), (2, 1, (.t 41))]⟩,
         ⟨(some 43), none, .bslice 3 [(.t 42)]⟩,
         ⟨(some 44), none, .app 3 32 et (.t 29) (.t 43)⟩,
         ⟨(some 7), none, .mv (.t 44)⟩] true)
       (.ops [
        ⟨(some 45), none, .mv (.t 8)⟩,
        ⟨(some 46), none, .faddr 2 (.t 10)⟩,
        ⟨(some 47), none, .load 1 false (.t 46)⟩,
        ⟨(some 48), none, .lenS (.t 47)⟩,
        ⟨(some 49), none, .faddr 1 (.t 10)⟩,
        ⟨(some 50), none, .load 1 false (.t 49)⟩,
        ⟨(some 51), none, .faddr 0 (.t 10)⟩,
        ⟨(some 52), none, .load 1 false (.t 51)⟩,
        ⟨(some 53), none, .bin .sub (.t 50) (.t 52)⟩,
        ⟨(some 54), none, .bin .sub (.t 48) (.t 53)⟩,
        ⟨(some 55), none, .bin .add (.t 45) (.t 54)⟩,
        ⟨(some 8), none, .mv (.t 55)⟩] false)))))
     (.ops [
      ⟨(some 56), none, .bin .add (.t 21) (.c (.int .i64 1))⟩,
      ⟨(some 21), none, .mv (.t 56)⟩] false)))))))
  (.seq (.ops [
    ⟨(some 57), none, .mv (.t 7)⟩,
    ⟨(some 4), none, .mv (.t 57)⟩,
    ⟨(some 5), none, .mv (.c (.int .i64 0))⟩] false)
  (.ret))))))) }

def irGrows (et : Nat) : IFn :=
 { nt := 25, res := [.t 2], body := (
  .seq (.ops [
    ⟨(some 2), none, .mv (.c (.int .i64 0))⟩] false)
  (.seq (.ops [
    ⟨(some 3), none, .mv (.c (.int .i64 0))⟩] false)
  (.seq (.seq (.ops [
     ⟨(some 6), none, .mv (.t 0)⟩,
     ⟨(some 7), none, .lenL (.t 6)⟩,
     ⟨(some 8), none, .mv (.c (.int .i64 0))⟩] false)
   (.blk 0 (.loop (.seq (.ops [
       ⟨(some 9), none, .bin .lss (.t 8) (.t 7)⟩] false)
     (.seq (.cond (.t 9) (.skip)
      (.exit 0))
     (.seq (.blk 1 (.seq (.ops [
         ⟨(some 10), none, .iaddr 3 (.t 6) (.t 8)⟩,
         ⟨(some 11), none, .load 3 true (.t 10)⟩,
         ⟨(some 5), none, .alloc et [(.int .i64 0), (.int .i64 0), (.str [])]⟩,
         ⟨none, none, .store 3 (.t 5) (.t 11)⟩] false)
       (.ops [
        ⟨(some 12), none, .mv (.t 3)⟩,
        ⟨(some 13), none, .faddr 2 (.t 5)⟩,
        ⟨(some 14), none, .load 1 false (.t 13)⟩,
        ⟨(some 15), none, .lenS (.t 14)⟩,
        ⟨(some 16), none, .faddr 1 (.t 5)⟩,
        ⟨(some 17), none, .load 1 false (.t 16)⟩,
        ⟨(some 18), none, .faddr 0 (.t 5)⟩,
        ⟨(some 19), none, .load 1 false (.t 18)⟩,
        ⟨(some 20), none, .bin .sub (.t 17) (.t 19)⟩,
        ⟨(some 21), none, .bin .sub (.t 15) (.t 20)⟩,
        ⟨(some 22), none, .bin .add (.t 12) (.t 21)⟩,
        ⟨(some 3), none, .mv (.t 22)⟩] false)))
     (.ops [
      ⟨(some 23), none, .bin .add (.t 8) (.c (.int .i64 1))⟩,
      ⟨(some 8), none, .mv (.t 23)⟩] false)))))))
  (.seq (.ops [
    ⟨(some 24), none, .mv (.t 3)⟩,
    ⟨(some 2), none, .mv (.t 24)⟩] false)
  (.ret))))) }

structure Ed where
  f : Int
  t : Int
  s : List UInt8

def encE (e : Ed) : List D := [.int .i64 e.f, .int .i64 e.t, .str e.s]

def soundFrom (n : Int) : Int → List Ed → Int
  | _, [] => 0
  | last, e :: r => if e.f < 0 ∨ e.t < e.f ∨ n < e.t then 6 else if e.f = e.t ∧ e.s = [] then 1 else if e.f ≤ last then 7 else soundFrom n e.t r

def sound (l : List Ed) (n : Int) : Int := if 512 < l.length then 5 else soundFrom n (-1) l

def total : List Ed → Nat
  | [] => 0
  | e :: r => e.s.length + total r


theorem appA_osl {H : Hp} {t sz b e : Nat} {z : Bool} {rows new : List (List D)} (ht : H[t]? = some (.tok rows.length sz e)) (hf : (rows.length + new.length) * b ≤ 140737488355328) :
    appA H sz b e new (.osl z sz rows t) = some (.osl z sz (rows ++ new) t, H.set t (.tok (rows.length + new.length) sz e)) := by
  simp [appA, ht, hf]

@[simp] theorem byteRows_length (s : List UInt8) : (byteRows s).length = s.length := by simp [byteRows]
theorem byteRows_append (a b : List UInt8) : byteRows (a ++ b) = byteRows a ++ byteRows b := by simp [byteRows]


def applied (s : List UInt8) : Int → List Ed → List UInt8
  | k, [] => s.drop k.toNat
  | k, e :: r => (s.drop k.toNat).take (e.f.toNat - k.toNat) ++ (e.s ++ applied s e.t r)

def applyS (s : List UInt8) (l : List Ed) : List UInt8 := if sound l s.length = 0 then applied s 0 l else []

theorem soundFrom_cons {n last : Int} {e : Ed} {r : List Ed} (h : soundFrom n last (e :: r) = 0) : 0 ≤ e.f ∧ e.f ≤ e.t ∧ e.t ≤ n ∧ last < e.f ∧ soundFrom n e.t r = 0 := by
  rw [soundFrom] at h
  split at h
  · cases h
  · split at h
    · cases h
    · split at h
      · cases h
      · refine ⟨by omega, by omega, by omega, by omega, h⟩

theorem sound_zero {l : List Ed} {n : Int} (h : sound l n = 0) : l.length ≤ 512 ∧ soundFrom n (-1) l = 0 := by
  unfold sound at h
  split at h
  · cases h
  · exact ⟨by omega, h⟩

theorem subL_ok {α : Type} {s : List α} {a b : Int} (h : 0 ≤ a ∧ a ≤ b ∧ b ≤ s.length) : subL s a b = some ((s.drop a.toNat).take (b.toNat - a.toNat)) := by
  simp [subL, h]


def inv (s : List UInt8) : Int → List Ed → List Ed
  | _, [] => []
  | d, e :: r => ⟨e.f + d, e.f + d + e.s.length, (s.drop e.f.toNat).take (e.t.toNat - e.f.toNat)⟩ :: inv s (d + (e.s.length - (e.t - e.f))) r

def grows : List Ed → Int
  | [] => 0
  | e :: r => (e.s.length - (e.t - e.f)) + grows r

theorem inv_length (s : List UInt8) : ∀ (d : Int) (l : List Ed), (inv s d l).length = l.length
  | _, [] => rfl
  | d, e :: r => by simp [inv, inv_length s _ r]

theorem soundFrom_cons2 {n last : Int} {e : Ed} {r : List Ed} (h : soundFrom n last (e :: r) = 0) : ¬ (e.f = e.t ∧ e.s = []) := by
  rw [soundFrom] at h
  split at h
  · cases h
  · split at h
    · cases h
    · assumption

theorem applied_len (s : List UInt8) : ∀ (l : List Ed) (p last : Int), soundFrom s.length last l = 0 → 0 ≤ p → p ≤ last + 1 → p ≤ s.length → ((applied s p l).length : Int) = s.length - p + grows l
  | [], p, last, _, h0, _, h1 => by simp [applied, grows]; omega
  | e :: r, p, last, h, h0, hp, h1 => by
    obtain ⟨e1, e2, e3, e4, e5⟩ := soundFrom_cons h
    have := applied_len s r e.t e.t e5 (by omega) (by omega) e3
    simp only [applied, grows, List.length_append, List.length_take, List.length_drop, Int.natCast_add, this]
    omega

theorem inv_sound (s : List UInt8) (N : Int) : ∀ (l : List Ed) (d p last : Int), soundFrom s.length last l = 0 → 0 ≤ p → p ≤ last + 1 → p ≤ s.length → 0 ≤ p + d → N = s.length + d + grows l → soundFrom N (last + d) (inv s d l) = 0
  | [], _, _, _, _, _, _, _, _, _ => rfl
  | e :: r, d, p, last, h, h0, hp, h1, hd, hN => by
    obtain ⟨e1, e2, e3, e4, e5⟩ := soundFrom_cons h
    have hne := soundFrom_cons2 h
    have hl := applied_len s r e.t e.t e5 (by omega) (by omega) e3
    simp only [grows] at hN
    have := inv_sound s N r (d + (e.s.length - (e.t - e.f))) e.t e.t e5 (by omega) (by omega) e3 (by omega) (by omega)
    rw [inv, soundFrom, if_neg (by simp only; omega), if_neg, if_neg (by simp only; omega)]
    · have h2 : e.f + d + e.s.length = e.t + (d + (e.s.length - (e.t - e.f))) := by omega
      simp only [h2]; exact this
    · rintro ⟨a, b⟩
      simp only at a b
      apply hne
      have h3 := congrArg List.length b
      simp only [List.length_take, List.length_drop, List.length_nil] at h3
      exact ⟨by omega, List.eq_nil_of_length_eq_zero (by omega)⟩

theorem inv_applied (s X : List UInt8) : ∀ (l : List Ed) (d p last : Int), soundFrom s.length last l = 0 → 0 ≤ p → p ≤ last + 1 → p ≤ s.length → 0 ≤ p + d → X.drop (p + d).toNat = applied s p l → applied X (p + d) (inv s d l) = s.drop p.toNat
  | [], d, p, _, _, _, _, _, _, hX => by simp [inv, applied, hX]
  | e :: r, d, p, last, h, h0, hp, h1, hd, hX => by
    obtain ⟨e1, e2, e3, e4, e5⟩ := soundFrom_cons h
    have h2 : e.f + d + e.s.length = e.t + (d + (e.s.length - (e.t - e.f))) := by omega
    have hA : ((s.drop p.toNat).take (e.f.toNat - p.toNat)).length = e.f.toNat - p.toNat := by simp; omega
    have hX' : X.drop (e.t + (d + (e.s.length - (e.t - e.f)))).toNat = applied s e.t r := by
      have : (e.t + (d + ((e.s.length : Int) - (e.t - e.f)))).toNat = (p + d).toNat + ((e.f.toNat - p.toNat) + e.s.length) := by omega
      rw [this, ← List.drop_drop, hX, applied, ← List.append_assoc]
      apply List.drop_left'
      rw [List.length_append, hA]
    have := inv_applied s X r (d + (e.s.length - (e.t - e.f))) e.t e.t e5 (by omega) (by omega) e3 (by omega) hX'
    rw [inv, applied]
    simp only [h2, this]
    have h4 : (e.f + d).toNat - (p + d).toNat = e.f.toNat - p.toNat := by omega
    rw [hX, h4, applied, List.take_left' hA]
    have h5 : (s.drop p.toNat).drop (e.f.toNat - p.toNat) = s.drop e.f.toNat := by rw [List.drop_drop]; congr 1; omega
    have h6 : (s.drop e.f.toNat).drop (e.t.toNat - e.f.toNat) = s.drop e.t.toNat := by rw [List.drop_drop]; congr 1; omega
    rw [← List.take_append_drop (e.f.toNat - p.toNat) (s.drop p.toNat), h5, ← h6, List.take_append_drop]
    congr 1
    rw [List.take_left' hA]

theorem inv_law {s : List UInt8} {l : List Ed} (h : sound l s.length = 0) :
    sound (inv s 0 l) (applied s 0 l).length = 0 ∧ applied (applied s 0 l) 0 (inv s 0 l) = s ∧ ((applied s 0 l).length : Int) = s.length + grows l := by
  obtain ⟨hl, h0⟩ := sound_zero h
  have hlen := applied_len s l 0 (-1) h0 (by omega) (by omega) (by omega)
  refine ⟨?_, ?_, by omega⟩
  · rw [sound, inv_length, if_neg (by omega)]
    have := inv_sound s (applied s 0 l).length l 0 0 (-1) h0 (by omega) (by omega) (by omega) (by omega) (by omega)
    simpa using this
  · have := inv_applied s (applied s 0 l) l 0 0 (-1) h0 (by omega) (by omega) (by omega) (by omega) (by simp)
    simpa using this


def invS (s : List UInt8) (l : List Ed) : List Ed := if sound l s.length = 0 then inv s 0 l else []


end Go.Zam

namespace Go.Zam
set_option linter.all false
set_option maxRecDepth 100000
set_option maxHeartbeats 1000000

/-- strings.Builder's copyCheck, at a program -/
def CopyOk (P : Program) (cc : FuncId) (bt : TypeId) : Prop := ∀ (H : Hp) (i : Nat) (x a : A), H[i]? = some (.box bt [a, x]) → (a = .d .nilp ∨ a = .ptr i 0) → ACall P cc [.ptr i 0] H (fun r H' => r = .tup [] ∧ H' = H.set i (.box bt [.ptr i 0, x]))
/-- strings.Builder's String, at a program -/
def StringOk (P : Program) (st : FuncId) (bt : TypeId) : Prop := ∀ (H : Hp) (i t : Nat) (a : A) (s : List UInt8), H[i]? = some (.box bt [a, .osl true 1 (byteRows s) t]) → H[t]? = some (.tok s.length 1 5) → s.length ≤ 140737488355328 → ACall P st [.ptr i 0] H (fun r H' => r = .d (.str s) ∧ H' = H)

section
variable {P : Program} {et bt : Nat}

theorem sound_acall {f : FuncId} {fn : Func} (hf : P.funcs[f]? = some fn) (hcf : compF P [] fn = some (irSound et)) (H : Hp) (z : Bool) (l : List Ed) (n : Int) : ACall P f [.d (.sl z 3 (l.map encE)), .d (.int .i64 n)] H (fun r H' => r = .d (.int .i64 (sound l n)) ∧ H' = H) := by
  refine acall_fin hf hcf (by simp [irSound]) fun hcl _ => ?_
  simp [irSound]
  refine BrK_split (fun h => ?_) (fun h => ?_)
  · simp [RetK, cut_self hcl, sound] at h ⊢
    omega
  simp
  refine LoopK_of H.length (fun fr H' => ∃ pre rest last, l = pre ++ rest ∧ sound l n = soundFrom n last rest ∧ fr 1 = .d (.int .i64 n) ∧ fr 5 = .d (.int .i64 last) ∧ fr 11 = .d (.sl z 3 (l.map encE)) ∧ fr 12 = .d (.int .i64 l.length) ∧ fr 13 = .d (.int .i64 (pre.length : Int)) ∧ H' = H)
    (fun fr H' => match fr 13 with | .d (.int _ k) => (l.length - k).toNat | _ => 0) (by simp) ?_ ?_
  · refine ⟨[], l, -1, ?_⟩
    simp [cut_self hcl, sound]
    simp at h; omega
  rintro fr H' ⟨pre, rest, last, hl, hs, f1, f5, f11, f12, f13, rfl⟩
  simp [f1, f5, f11, f12, f13]
  refine BrK_split (fun h => ?_) (fun h => ?_)
  · obtain ⟨e, r, rfl⟩ : ∃ e r, rest = e :: r := by
      cases rest with
      | nil => simp_all
      | cons e r => exact ⟨e, r, rfl⟩
    have hr : Zam.rowAt (l.map encE) pre.length = some (encE e) := by rw [hl]; exact rowAt_mid _ _ _ _
    simp [f1, f5, f11, f12, f13, hr, encE]
    repeat' (first
      | refine GdK_split (by simp) (fun h => ?_) (fun h => ?_)
      | refine BrK_split (fun h => ?_) (fun h => ?_)
      | simp [f1, f5, f11, f12, f13])
    all_goals simp only [decide_eq_true_eq, decide_eq_false_iff_not, Bool.not_true, Bool.not_false] at *
    all_goals first
      | (clear hl hr; simp_all [RetK, cut_app hcl, soundFrom]; done)
      | (refine AgainK_of (m := H'.length) (by simp) ⟨pre ++ [e], r, e.t, ?_⟩ ?_
         · have hw : IntKind.i64.wrap (pre.length + 1) = pre.length + 1 := wrap_i64 (by omega) (by omega)
           simp [cut_app hcl, f1, f5, f11, f12, f13, hw]
           refine ⟨hl, ?_⟩
           clear hl hr
           rw [hs, soundFrom]
           (repeat' split) <;> first | rfl | omega | (simp_all; done) | (simp_all; omega)
         · have hw : IntKind.i64.wrap (pre.length + 1) = pre.length + 1 := wrap_i64 (by omega) (by omega)
           simp [hw]; omega)
  · obtain rfl : rest = [] := by
      cases rest with
      | nil => rfl
      | cons e r => simp_all
    simp [RetK, hs, soundFrom, cut_self hcl]


theorem write_acall {f cc : FuncId} {fn : Func} (hf : P.funcs[f]? = some fn) (hcf : compF P [] fn = some (irWrite cc)) (hcc : CopyOk P cc bt) (H : Hp) (i t : Nat) (a : A) (bs s : List UInt8) (hi : H[i]? = some (.box bt [a, .osl true 1 (byteRows bs) t])) (ha : a = .d .nilp ∨ a = .ptr i 0) (ht : H[t]? = some (.tok bs.length 1 5)) (hb : bs.length + s.length ≤ 140737488355328) :
    ACall P f [.ptr i 0, .d (.str s)] H (fun r H' => r = .tup [.d (.int .i64 s.length), .d .nili] ∧ H' = (H.set i (.box bt [.ptr i 0, .osl true 1 (byteRows (bs ++ s)) t])).set t (.tok (bs ++ s).length 1 5)) := by
  have hit : i ≠ t := fun e => by subst e; rw [hi] at ht; cases ht
  have hil : i < H.length := (List.getElem?_eq_some_iff.1 hi).1
  have htl : t < H.length := (List.getElem?_eq_some_iff.1 ht).1
  refine acall_fin hf hcf (by simp [irWrite]) fun hcl hlo => ?_
  simp [irWrite]
  refine CallK_of' (hcc _ _ _ _ hi ha) ?_
  have ht' : (H.set i (.box bt [.ptr i 0, .osl true 1 (byteRows bs) t]))[t]? = some (.tok (byteRows bs).length 1 5) := by
    rw [List.getElem?_set_ne hit, ht, byteRows_length]
  have happ := appA_osl (z := true) (b := 1) (new := byteRows s) ht' (by simp; omega)
  simp [hil, htl, hit, ht, happ, Ne.symm hit]
  simp [RetK, Hp.cut_set, cut_self hcl, hil, htl, byteRows_append]
  rw [List.set_comm _ _ hit, List.set_comm _ _ hit, List.set_set]


theorem apply_acall {f f1 f2 f3 cc : FuncId} {fn fn1 fn2 : Func} (hf : P.funcs[f]? = some fn) (hcf : compF P [7] fn = some (irApply et bt f1 f2 f3)) (hf1 : P.funcs[f1]? = some fn1) (hcf1 : compF P [] fn1 = some (irSound et)) (hf2 : P.funcs[f2]? = some fn2) (hcf2 : compF P [] fn2 = some (irWrite cc)) (hcc : CopyOk P cc bt) (hst : StringOk P f3 bt) (H : Hp) (z : Bool) (s : List UInt8) (l : List Ed) (hb : s.length + total l ≤ 70368744177664) :
    ACall P f [.d (.str s), .d (.sl z 3 (l.map encE))] H (fun r H' => r = .tup [.d (.str (applyS s l)), .d (.int .i64 (sound l s.length))] ∧ H' = H) := by
  refine acall_fin hf hcf (by simp [irApply]) fun hcl _ => ?_
  simp [irApply]
  refine CallK_of' (sound_acall hf1 hcf1 H z l s.length) ?_
  simp
  refine BrK_split (fun h => ?_) (fun h => ?_)
  · simp [RetK, cut_self hcl]
    simp at h
    simp [applyS, h]
  have h0 : sound l s.length = 0 := by simpa using h
  obtain ⟨hl512, hs0⟩ := sound_zero h0
  simp
  refine LoopK_of (H.length + 2) (fun fr H' => ∃ pre rest, ∃ (p last : Int) (bs : List UInt8) (a : A), l = pre ++ rest ∧ bs ++ applied s p rest = applied s 0 l ∧ 0 ≤ p ∧ p ≤ s.length ∧ p ≤ last + 1 ∧ soundFrom s.length last rest = 0 ∧
      bs.length + (s.length - p.toNat) + total rest ≤ s.length + total l ∧ (a = .d .nilp ∨ a = .ptr (H.length + 1) 0) ∧
      fr 0 = .d (.str s) ∧ fr 7 = .ptr (H.length + 1) 0 ∧ fr 8 = .d (.int .i64 p) ∧ fr 18 = .d (.sl z 3 (l.map encE)) ∧ fr 19 = .d (.int .i64 l.length) ∧ fr 20 = .d (.int .i64 (pre.length : Int)) ∧ H' = H ++ [.tok bs.length 1 5, .box bt [a, .osl true 1 (byteRows bs) H.length]])
    (fun fr H' => match fr 20 with | .d (.int _ k) => (l.length - k).toNat | _ => 0) (by simp) ?_ ?_
  · refine ⟨[], l, 0, -1, [], .d .nilp, ?_⟩
    simp [cut_appk hcl, hs0, byteRows]
  rintro fr H' ⟨pre, rest, p, last, bs, a, hl, hap, hp0, hp1, hp2, hsf, hsz, ha, f0, f7, f8, f18, f19, f20, rfl⟩
  simp [f18, f19, f20]
  refine BrK_split (fun h => ?_) (fun h => ?_)
  · obtain ⟨e, r, rfl⟩ : ∃ e r, rest = e :: r := by
      cases rest with
      | nil => simp_all
      | cons e r => exact ⟨e, r, rfl⟩
    have hr : Zam.rowAt (l.map encE) pre.length = some (encE e) := by rw [hl]; exact rowAt_mid _ _ _ _
    obtain ⟨e1, e2, e3, e4, e5⟩ := soundFrom_cons hsf
    simp only [total] at hsz
    have hsub := subL_ok (s := s) (a := p) (b := e.f) ⟨hp0, by omega, by omega⟩
    have hlen : ((s.drop p.toNat).take (e.f.toNat - p.toNat)).length = e.f.toNat - p.toNat := by simp; omega
    simp [f0, f7, f8, f18, f19, f20, hr, encE, hsub]
    refine CallK_of' (write_acall hf2 hcf2 hcc _ (H.length + 1) H.length a bs ((s.drop p.toNat).take (e.f.toNat - p.toNat)) (by simp) ha (by simp) (by omega)) ?_
    simp [f0, f7, f8, f18, f19, f20]
    refine CallK_of' (write_acall hf2 hcf2 hcc _ (H.length + 1) H.length (.ptr (H.length + 1) 0) (bs ++ (s.drop p.toNat).take (e.f.toNat - p.toNat)) e.s (by simp) (.inr rfl) (by simp) (by rw [List.length_append]; omega)) ?_
    have hw : IntKind.i64.wrap (pre.length + 1) = pre.length + 1 := wrap_i64 (by omega) (by simp at h; omega)
    simp [f0, f7, f8, f18, f19, f20, hw]
    refine AgainK_of (m := H.length + 2) (by simp) ⟨pre ++ [e], r, e.t, e.t, bs ++ ((s.drop p.toNat).take (e.f.toNat - p.toNat) ++ e.s), .ptr (H.length + 1) 0, ?_⟩ ?_
    · simp [cut_appk hcl, f0, f7, f8, f18, f19, f20]
      refine ⟨hl, ?_, by omega, e3, by omega, e5, ?_⟩
      · rw [← hap, applied]
      · omega
    · simp; simp at h; omega
  · obtain rfl : rest = [] := by
      cases rest with
      | nil => rfl
      | cons e r => simp_all
    have hsub := subL_ok (s := s) (a := p) (b := s.length) ⟨hp0, hp1, by omega⟩
    have htk : (s.drop p.toNat).take ((s.length : Int).toNat - p.toNat) = s.drop p.toNat := List.take_of_length_le (by simp)
    rw [htk] at hsub
    simp [total] at hsz
    simp [f0, f7, f8, hsub]
    refine CallK_of' (write_acall hf2 hcf2 hcc _ (H.length + 1) H.length a bs (s.drop p.toNat) (by simp) ha (by simp) (by simp; omega)) ?_
    simp [f0, f7, f8]
    refine CallK_of' (hst _ (H.length + 1) H.length (.ptr (H.length + 1) 0) (bs ++ s.drop p.toNat) (by simp) (by simp) (by simp; omega)) ?_
    simp [RetK, cut_app hcl, h0, applyS]
    simpa [applied] using hap


theorem invert_acall {f f1 : FuncId} {fn fn1 : Func} (hf : P.funcs[f]? = some fn) (hcf : compF P [7] fn = some (irInvert et f1)) (hf1 : P.funcs[f1]? = some fn1) (hcf1 : compF P [] fn1 = some (irSound et)) (H : Hp) (z : Bool) (s : List UInt8) (l : List Ed) (hb : s.length + total l ≤ 70368744177664) :
    ACall P f [.d (.str s), .d (.sl z 3 (l.map encE))] H (fun r H' => r = .tup [.d (.sl true 3 ((invS s l).map encE)), .d (.int .i64 (sound l s.length))] ∧ H' = H) := by
  refine acall_fin hf hcf (by simp [irInvert]) fun hcl _ => ?_
  simp [irInvert]
  refine CallK_of' (sound_acall hf1 hcf1 H z l s.length) ?_
  simp
  refine BrK_split (fun h => ?_) (fun h => ?_)
  · simp [RetK, cut_self hcl]
    simp at h
    simp [invS, h]
  have h0 : sound l s.length = 0 := by simpa using h
  obtain ⟨hl512, hs0⟩ := sound_zero h0
  simp
  refine LoopK_of (H.length + 1) (fun fr H' => ∃ pre rest, ∃ (p last d : Int) (q : List Ed), l = pre ++ rest ∧ inv s 0 l = q ++ inv s d rest ∧ q.length = pre.length ∧ 0 ≤ p ∧ p ≤ s.length ∧ p ≤ last + 1 ∧ soundFrom s.length last rest = 0 ∧
      0 ≤ p + d ∧ d + total rest ≤ total l ∧
      fr 0 = .d (.str s) ∧ fr 7 = .osl true 3 (q.map encE) H.length ∧ fr 8 = .d (.int .i64 d) ∧ fr 19 = .d (.sl z 3 (l.map encE)) ∧ fr 20 = .d (.int .i64 l.length) ∧ fr 21 = .d (.int .i64 (pre.length : Int)) ∧ H' = H ++ [.tok q.length 3 et])
    (fun fr H' => match fr 21 with | .d (.int _ k) => (l.length - k).toNat | _ => 0) (by simp) ?_ ?_
  · refine ⟨[], l, 0, -1, 0, [], ?_⟩
    simp [cut_appk hcl, hs0]
  rintro fr H' ⟨pre, rest, p, last, d, q, hl, hap, hq, hp0, hp1, hp2, hsf, hpd, hsz, f0, f7, f8, f19, f20, f21, rfl⟩
  simp [f19, f20, f21]
  refine BrK_split (fun h => ?_) (fun h => ?_)
  · obtain ⟨e, r, rfl⟩ : ∃ e r, rest = e :: r := by
      cases rest with
      | nil => simp_all
      | cons e r => exact ⟨e, r, rfl⟩
    have hr : Zam.rowAt (l.map encE) pre.length = some (encE e) := by rw [hl]; exact rowAt_mid _ _ _ _
    obtain ⟨e1, e2, e3, e4, e5⟩ := soundFrom_cons hsf
    simp only [total] at hsz
    have hsub := subL_ok (s := s) (a := e.f) (b := e.t) ⟨e1, by omega, by omega⟩
    have w1 : IntKind.i64.wrap (e.f + d) = e.f + d := wrap_i64 (by omega) (by omega)
    have w2 : IntKind.i64.wrap (e.f + d + e.s.length) = e.f + d + e.s.length := wrap_i64 (by omega) (by omega)
    have w3 : IntKind.i64.wrap (e.t - e.f) = e.t - e.f := wrap_i64 (by omega) (by omega)
    have w4 : IntKind.i64.wrap (e.s.length - (e.t - e.f)) = e.s.length - (e.t - e.f) := wrap_i64 (by omega) (by omega)
    have w5 : IntKind.i64.wrap (d + (e.s.length - (e.t - e.f))) = d + (e.s.length - (e.t - e.f)) := wrap_i64 (by omega) (by omega)
    have hpl : pre.length ≤ 512 := by rw [hl] at hl512; simp at hl512; omega
    have happ : ∀ X, appA (H ++ .tok q.length 3 et :: X) 3 32 et [[.int .i64 (e.f + d), .int .i64 (e.f + d + e.s.length), .str ((s.drop e.f.toNat).take (e.t.toNat - e.f.toNat))]] (.osl true 3 (q.map encE) H.length) = some (.osl true 3 ((q ++ [(⟨e.f + d, e.f + d + e.s.length, (s.drop e.f.toNat).take (e.t.toNat - e.f.toNat)⟩ : Ed)]).map encE) H.length, H ++ .tok (q.length + 1) 3 et :: X) := by
      intro X
      rw [appA_osl (by simp) (by simp; omega)]
      simp [encE]
    simp [f0, f7, f8, f19, f20, f21, hr, encE, hsub, w1, w2, w3, w4, w5, happ]
    have hw : IntKind.i64.wrap (pre.length + 1) = pre.length + 1 := wrap_i64 (by omega) (by omega)
    simp [f21, hw]
    refine AgainK_of (m := H.length + 1) (by simp) ⟨pre ++ [e], r, e.t, e.t, d + (e.s.length - (e.t - e.f)), q ++ [⟨e.f + d, e.f + d + e.s.length, (s.drop e.f.toNat).take (e.t.toNat - e.f.toNat)⟩], ?_⟩ ?_
    · simp [cut_appk hcl, f0, f7, f8, f19, f20, f21]
      refine ⟨hl, ?_, by omega, by omega, by omega, by omega, e5, by omega, by omega, ?_⟩
      rotate_left
      · simp [encE]
      rw [hap, inv]
    · simp; simp at h; omega
  · obtain rfl : rest = [] := by
      cases rest with
      | nil => rfl
      | cons e r => simp_all
    simp [f7]
    simp [inv] at hap
    simp [RetK, cut_app hcl, h0, invS, hap]


theorem grows_acall {f : FuncId} {fn : Func} (hf : P.funcs[f]? = some fn) (hcf : compF P [] fn = some (irGrows et)) (H : Hp) (z : Bool) (n : Int) (l : List Ed) (hn0 : 0 ≤ n) (h0 : sound l n = 0) (hb : n + total l ≤ 70368744177664) :
    ACall P f [.d (.sl z 3 (l.map encE))] H (fun r H' => r = .d (.int .i64 (grows l)) ∧ H' = H) := by
  refine acall_fin hf hcf (by simp [irGrows]) fun hcl _ => ?_
  simp [irGrows]
  obtain ⟨hl512, hs0⟩ := sound_zero h0
  refine LoopK_of H.length (fun fr H' => ∃ pre rest, ∃ (p last d : Int), l = pre ++ rest ∧ grows l = d + grows rest ∧ 0 ≤ p ∧ p ≤ n ∧ p ≤ last + 1 ∧ soundFrom n last rest = 0 ∧
      0 ≤ p + d ∧ d + total rest ≤ total l ∧
      fr 3 = .d (.int .i64 d) ∧ fr 6 = .d (.sl z 3 (l.map encE)) ∧ fr 7 = .d (.int .i64 l.length) ∧ fr 8 = .d (.int .i64 (pre.length : Int)) ∧ H' = H)
    (fun fr H' => match fr 8 with | .d (.int _ k) => (l.length - k).toNat | _ => 0) (by simp) ?_ ?_
  · refine ⟨[], l, 0, -1, 0, ?_⟩
    simp [cut_self hcl, hs0, hn0]
  rintro fr H' ⟨pre, rest, p, last, d, hl, hap, hp0, hp1, hp2, hsf, hpd, hsz, f3, f6, f7, f8, rfl⟩
  simp [f6, f7, f8]
  refine BrK_split (fun h => ?_) (fun h => ?_)
  · obtain ⟨e, r, rfl⟩ : ∃ e r, rest = e :: r := by
      cases rest with
      | nil => simp_all
      | cons e r => exact ⟨e, r, rfl⟩
    have hr : Zam.rowAt (l.map encE) pre.length = some (encE e) := by rw [hl]; exact rowAt_mid _ _ _ _
    obtain ⟨e1, e2, e3, e4, e5⟩ := soundFrom_cons hsf
    simp only [total] at hsz
    have w3 : IntKind.i64.wrap (e.t - e.f) = e.t - e.f := wrap_i64 (by omega) (by omega)
    have w4 : IntKind.i64.wrap (e.s.length - (e.t - e.f)) = e.s.length - (e.t - e.f) := wrap_i64 (by omega) (by omega)
    have w5 : IntKind.i64.wrap (d + (e.s.length - (e.t - e.f))) = d + (e.s.length - (e.t - e.f)) := wrap_i64 (by omega) (by omega)
    have hpl : pre.length ≤ 512 := by rw [hl] at hl512; simp at hl512; omega
    simp [f3, f6, f7, f8, hr, encE, w3, w4, w5]
    have hw : IntKind.i64.wrap (pre.length + 1) = pre.length + 1 := wrap_i64 (by omega) (by omega)
    simp [f8, hw]
    refine AgainK_of (m := H'.length) (by simp) ⟨pre ++ [e], r, e.t, e.t, d + (e.s.length - (e.t - e.f)), ?_⟩ ?_
    · simp [cut_app hcl, f3, f6, f7, f8]
      refine ⟨hl, ?_, by omega, by omega, by omega, e5, by omega, by omega⟩
      rw [hap, grows]; omega
    · simp; simp at h; omega
  · obtain rfl : rest = [] := by
      cases rest with
      | nil => rfl
      | cons e r => simp_all
    simp [f3]
    simp [grows] at hap
    simp [RetK, cut_self hcl, hap]


end
end Go.Zam

namespace Go.Zam
set_option linter.all false
set_option maxRecDepth 100000
set_option maxHeartbeats 1000000

/-- a call that yields an array that it made, in a pair -/
theorem ACall.freeze2 {P : Program} {f : FuncId} {args : List A} {H X : Hp} {k sz : Nat} {rows : List (List D)} {y : D} (hX : X[k]? = some (.arr sz (rows.map (List.map .d)))) (h : ACall P f args H (fun r H' => r = .tup [.msl (H.length + k) 0 rows.length, .d y] ∧ H' = H ++ X)) :
    ACall P f args H (fun r H' => r = .tup [.d (.sl false sz rows), .d y] ∧ H' = H) := by
  intro κ w vs hr hl hv
  refine (h κ w vs hr hl hv).mono ?_
  rintro e w' ⟨v, κ', x, H', h1, h2, h3, h4, rfl, rfl⟩
  cases h4 with
  | tup us _ hul hu =>
  match us, hul with
  | [u0, u1], _ =>
  have v0 := hu 0 u0 _ rfl rfl
  have v1 := hu 1 u1 _ rfl rfl
  obtain ⟨κ2, k1, k2, k3⟩ := h3.freezeArr (i := H.length + k) (sz := sz) (rows := rows) (by rw [getElem?_appk]; exact hX) v0
  rw [set_appk] at k2
  refine ⟨_, κ2.cut H.length, .tup [.d (.sl false sz rows), .d y], Hp.cut H.length (H ++ X.set k .dead), h1, K.le_cut (h2.trans k1) hr.dom, k2.cut _ (by simp), ?_, rfl, cut_app hr.closed _⟩
  refine .tup [u0, u1] _ rfl fun i v a hv ha => ?_
  match i with
  | 0 => simp at hv ha; subst hv; subst ha; exact VR.clr H.length k3
  | 1 => simp at hv ha; subst hv; subst ha; exact VR.clr H.length (v1.mono k1)
  | i + 2 => simp at hv

def indexP {α : Type} (p : α → Bool) : List α → Option Nat
  | [] => none
  | x :: r => if p x then some 0 else (indexP p r).map (· + 1)

def indexI {α : Type} (p : α → Bool) (l : List α) : Int := match indexP p l with | some k => k | none => -1

theorem indexP_append {α : Type} (p : α → Bool) : ∀ (a b : List α), (∀ x ∈ a, p x = false) → indexP p (a ++ b) = (indexP p b).map (· + a.length)
  | [], b, _ => by simp
  | x :: a, b, h => by
    simp only [List.cons_append, indexP, h x (by simp), Bool.false_eq_true, if_false, indexP_append p a b fun y hy => h y (by simp [hy]), Option.map_map, List.length_cons]
    congr 1

def irIndexFunc (sz : Nat) : IFn :=
 { nt := 19, res := [.t 4], body := (
  .seq (.ops [
    ⟨(some 4), none, .mv (.c (.int .i64 0))⟩] false)
  (.seq (.seq (.ops [
     ⟨(some 6), none, .mv (.t 0)⟩,
     ⟨(some 7), none, .lenL (.t 6)⟩,
     ⟨(some 8), none, .mv (.c (.int .i64 0))⟩] false)
   (.blk 0 (.loop (.seq (.ops [
       ⟨(some 9), none, .bin .lss (.t 8) (.t 7)⟩] false)
     (.seq (.cond (.t 9) (.skip)
      (.exit 0))
     (.seq (.blk 1 (.seq (.ops [
         ⟨(some 10), none, .mv (.t 8)⟩,
         ⟨(some 5), none, .mv (.t 10)⟩] false)
       (.seq (.ops [
         ⟨(some 11), none, .mv (.t 1)⟩,
         ⟨(some 12), none, .mv (.t 0)⟩,
         ⟨(some 13), none, .mv (.t 5)⟩,
         ⟨(some 14), none, .iaddr sz (.t 12) (.t 13)⟩,
         ⟨(some 15), none, .load sz true (.t 14)⟩,
         ⟨(some 16), none, .callv (.t 11) [(.t 15)]⟩] false)
       (.cond (.t 16) (.seq (.ops [
          ⟨(some 17), none, .mv (.t 5)⟩,
          ⟨(some 4), none, .mv (.t 17)⟩] false)
        (.ret))
       (.skip)))))
     (.ops [
      ⟨(some 18), none, .bin .add (.t 8) (.c (.int .i64 1))⟩,
      ⟨(some 8), none, .mv (.t 18)⟩] false)))))))
  (.seq (.ops [
    ⟨(some 4), none, .mv (.c (.int .i64 (-1)))⟩] false)
  (.ret)))) }

section
variable {P : Program} {α : Type} {enc : α → List D} {sz : Nat}

/-- IndexFunc over whatever holds a list -/
theorem indexFunc_acall {f : FuncId} {fn : Func} (hf : P.funcs[f]? = some fn) (hcf : compF P [] fn = some (irIndexFunc sz)) {H : Hp} {l : List α} {p : α → Bool} {g x : A} (hlen : lenA x = some l.length)
    (hx : ∀ m, H.length ≤ m → x.clr m = x) (hg : ∀ m, H.length ≤ m → g.clr m = g)
    (hld : ∀ (k : Nat) (e : α), l[k]? = some e → ∃ q, iaddrA H sz x (.d (.int .i64 (k : Int))) = some q ∧ ldA H sz q = some (rowE enc e))
    (hp : ∀ (e : α) (Q : A → Hp → Prop) (t : Tag Q), Q (.d (.bool (p e))) H → ValK Q t P [.agg (rowE enc e)] H g) (hb : l.length ≤ 1099511627776) :
    ACall P f [x, g] H (fun r H' => r = .d (.int .i64 (indexI p l)) ∧ H' = H) := by
  refine acall_fin hf hcf (by simp [irIndexFunc]) fun hcl _ => ?_
  simp [irIndexFunc, hlen, -lenA]
  refine LoopK_of H.length (fun fr H' => ∃ pre rest, l = pre ++ rest ∧ (∀ e ∈ pre, p e = false) ∧ fr 0 = x ∧ fr 1 = g ∧ fr 7 = .d (.int .i64 l.length) ∧ fr 8 = .d (.int .i64 (pre.length : Int)) ∧ H' = H)
    (fun fr H' => match fr 8 with | .d (.int _ k) => (l.length - k).toNat | _ => 0) (by simp) ?_ ?_
  · refine ⟨[], l, ?_⟩
    simp [cut_self hcl, hx, hg, clr_d, -A.clr]
  rintro fr H' ⟨pre, rest, hl, hpre, f0, f1, f7, f8, hH⟩
  rw [hH]
  simp [f7, f8]
  refine BrK_split (fun h => ?_) (fun h => ?_)
  · obtain ⟨e, r, rfl⟩ : ∃ e r, rest = e :: r := by
      cases rest with
      | nil => rw [hl] at h; simp at h
      | cons e r => exact ⟨e, r, rfl⟩
    obtain ⟨q, q1, q2⟩ := hld pre.length e (by rw [hl]; simp)
    have hpl : pre.length < l.length := by rw [hl]; simp
    have hw : IntKind.i64.wrap ((pre.length : Int) + 1) = pre.length + 1 := wrap_i64 (by omega) (by omega)
    simp [f0, f1, f7, f8, q1, q2, -iaddrA, -ldA]
    refine hp e _ _ ?_
    simp [f0, f1, f7, f8]
    refine BrK_split (fun h2 => ?_) (fun h2 => ?_)
    · have : indexI p l = pre.length := by rw [hl, indexI, indexP_append p _ _ hpre]; simp [indexP, h2]
      simp [RetK, cut_self hcl, this]
    · simp [f8, hw]
      refine AgainK_of (m := H.length) (by simp) ⟨pre ++ [e], r, ?_⟩ ?_
      · simp [f0, f1, f7, f8, cut_self hcl, hx, hg, clr_d, -A.clr]
        refine ⟨hl, fun a ha => ?_⟩
        rcases ha with h3 | h3
        · exact hpre a h3
        · subst h3; exact h2
      · simp; omega
  · obtain rfl : rest = [] := by
      cases rest with
      | nil => rfl
      | cons e r => exfalso; rw [hl] at h; simp at h
    rw [List.append_nil] at hl
    subst hl
    have : indexI p l = -1 := by
      have := indexP_append p l [] hpre
      simp [indexP] at this
      simp [indexI, this]
    simp [RetK, cut_self hcl, this]

end

/-- the names met, as a map -/
def setMp (l : List (List UInt8)) : List (D × A) := l.map fun s => (.str s, .d (.bool true))

theorem setMp_ok (l : List (List UInt8)) (s : List UInt8) : mpOk (.str []) (.str s) (setMp l) = true := by simp [setMp]
theorem setMp_get (s : List UInt8) : ∀ l : List (List UInt8), mpGet (.str s) (setMp l) = if s ∈ l then some (.d (.bool true)) else none
  | [] => rfl
  | x :: l => by
    have := setMp_get s l
    simp only [setMp, List.map_cons, mpGet, sameK, List.mem_cons] at this ⊢
    by_cases h : s = x
    · simp [h]
    · simp only [h, decide_false, Bool.false_eq_true, if_false, false_or]; exact this
theorem setMp_put (s : List UInt8) : ∀ l : List (List UInt8), s ∉ l → mpPut (.str s) (.d (.bool true)) (setMp l) = setMp (l ++ [s])
  | [], _ => rfl
  | x :: l, h => by
    simp only [List.mem_cons, not_or] at h
    have := setMp_put s l h.2
    simp only [setMp, List.map_cons, mpPut, sameK, List.cons_append] at this ⊢
    simp only [h.1, decide_false, Bool.false_eq_true, if_false]
    rw [this]

end Go.Zam

namespace Go.Zam
set_option linter.all false
set_option maxRecDepth 100000
set_option maxHeartbeats 1000000

theorem bl_irrefl : ∀ a : List UInt8, Op.bytesLess a a = false
  | [] => rfl
  | x :: a => by simp [Op.bytesLess, bl_irrefl a]

theorem bl_total : ∀ a b : List UInt8, Op.bytesLess a b = false → Op.bytesLess b a = false → a = b
  | [], [], _, _ => rfl
  | [], y :: b, h, _ => by simp [Op.bytesLess] at h
  | x :: a, [], _, h => by simp [Op.bytesLess] at h
  | x :: a, y :: b, h, h' => by
    simp only [Op.bytesLess, Bool.or_eq_false_iff, decide_eq_false_iff_not, Bool.and_eq_false_iff, beq_eq_false_iff_ne, UInt8.lt_iff_toNat_lt] at h h'
    have hxy : x = y := by
      apply UInt8.toNat_inj.1
      omega
    subst hxy
    have h1 := h.2.resolve_left (fun e => e rfl)
    have h2 := h'.2.resolve_left (fun e => e rfl)
    rw [bl_total a b h1 h2]

theorem bl_trans : ∀ a b c : List UInt8, Op.bytesLess a b = true → Op.bytesLess b c = true → Op.bytesLess a c = true
  | _, [], _, h, _ => by cases ‹List UInt8› <;> simp [Op.bytesLess] at h
  | _, _ :: _, [], _, h => by simp [Op.bytesLess] at h
  | [], _ :: _, _ :: _, _, _ => rfl
  | x :: a, y :: b, z :: c, h, h' => by
    simp only [Op.bytesLess, Bool.or_eq_true, decide_eq_true_eq, Bool.and_eq_true, beq_iff_eq, UInt8.lt_iff_toNat_lt] at h h' ⊢
    rcases h with h | ⟨rfl, h⟩ <;> rcases h' with h' | ⟨rfl, h'⟩
    · left; omega
    · left; exact h
    · left; exact h'
    · right; exact ⟨rfl, bl_trans a b c h h'⟩

theorem bl_asymm {a b : List UInt8} (h : Op.bytesLess a b = true) : Op.bytesLess b a = false := by
  cases h2 : Op.bytesLess b a with
  | false => rfl
  | true => have := bl_trans a b a h h2; rw [bl_irrefl] at this; cases this

theorem cmpStr_lt {a b : List UInt8} : cmpStr a b < 0 ↔ Op.bytesLess a b = true := by
  unfold cmpStr
  split
  · simp_all
  · split <;> simp_all
theorem cmpStr_gt {a b : List UInt8} : 0 < cmpStr a b ↔ Op.bytesLess b a = true := by
  unfold cmpStr
  split
  · rename_i h; simp [bl_asymm h]
  · rename_i h
    split
    · rename_i h2
      simp [h] at h2
      subst h2
      simp [bl_irrefl]
    · rename_i h2
      simp [h] at h2
      cases h3 : Op.bytesLess b a with
      | true => simp
      | false => exact absurd (bl_total a b (by simpa using h) h3) h2
theorem cmpStr_zero {a b : List UInt8} : cmpStr a b = 0 ↔ a = b := by
  constructor
  · intro h
    have h1 : ¬ cmpStr a b < 0 := by omega
    have h2 : ¬ 0 < cmpStr a b := by omega
    rw [cmpStr_lt] at h1
    rw [cmpStr_gt] at h2
    exact bl_total a b (by simpa using h1) (by simpa using h2)
  · rintro rfl
    have h1 : ¬ cmpStr a a < 0 := by rw [cmpStr_lt, bl_irrefl]; simp
    have h2 : ¬ 0 < cmpStr a a := by rw [cmpStr_gt, bl_irrefl]; simp
    omega

theorem cmpStr_cmp : Cmp cmpStr where
  refl := fun x => cmpStr_zero.2 rfl
  anti := fun x y => by rw [cmpStr_lt, cmpStr_gt]
  trans := fun x y z h1 h2 => by
    have e1 : x = y ∨ Op.bytesLess x y = true := by
      by_cases h : cmpStr x y = 0
      · exact .inl (cmpStr_zero.1 h)
      · exact .inr (cmpStr_lt.1 (by omega))
    have e2 : y = z ∨ Op.bytesLess y z = true := by
      by_cases h : cmpStr y z = 0
      · exact .inl (cmpStr_zero.1 h)
      · exact .inr (cmpStr_lt.1 (by omega))
    rcases e1 with rfl | e1 <;> rcases e2 with rfl | e2
    · exact h1
    · exact h2
    · exact h1
    · have := cmpStr_lt.2 (bl_trans x y z e1 e2); omega

theorem Cmp.on {α β : Type} {c : β → β → Int} (h : Cmp c) (f : α → β) : Cmp fun x y => c (f x) (f y) :=
  ⟨fun x => h.refl _, fun x y => h.anti _ _, fun x y z => h.trans _ _ _⟩

theorem compareStr_acall {P : Program} {f f1 : FuncId} {fn fn1 : Func} (hf : P.funcs[f]? = some fn) (hcf : compF P [] fn = some (irCompare f1)) (hf1 : P.funcs[f1]? = some fn1) (hcf1 : compF P [] fn1 = some irIsNaN) {H : Hp} (a b : List UInt8) :
    ACall P f [.d (.str a), .d (.str b)] H (fun r H' => r = .d (.int .i64 (cmpStr a b)) ∧ H' = H) := by
  have hn : ∀ x, ACall P f1 [.d (.str x)] H (fun r H' => r = .d (.bool false) ∧ H' = H) := fun x => by
    refine acall_fin hf1 hcf1 (by simp [irIsNaN]) fun hcl _ => ?_
    simp [irIsNaN]
    simp [RetK, cut_self hcl]
  refine acall_fin hf hcf (by simp [irCompare]) fun hcl _ => ?_
  simp [irCompare]
  refine CallK_of' (hn a) ?_
  simp
  refine CallK_of' (hn b) ?_
  cases h : Op.bytesLess a b with
  | true =>
    simp [h]
    simp [RetK, cut_self hcl, cmpStr, h]
  | false =>
    by_cases he : a = b
    · subst he
      simp [h]
      simp [RetK, cut_self hcl, cmpStr, h]
    · simp [h, he]
      simp [RetK, cut_self hcl, cmpStr, h, he]

end Go.Zam

namespace Go.Zam
set_option linter.all false
set_option maxRecDepth 100000
set_option maxHeartbeats 1000000

theorem closed_iff {H : Hp} : H.Closed ↔ ∀ n, H.length ≤ n → ∀ x ∈ H, x.clr n = x := by
  unfold Hp.Closed
  refine forall_congr' fun n => imp_congr_right fun _ => ?_
  constructor
  · intro h x hx
    obtain ⟨i, hi, rfl⟩ := List.getElem_of_mem hx
    have := congrArg (fun l => l[i]?) h
    simpa [hi] using this
  · intro h
    exact (List.map_congr_left h).trans (List.map_id' _)

theorem Closed.set {H : Hp} (h : H.Closed) (i : Nat) {x : Ob} (hx : ∀ n, H.length ≤ n → x.clr n = x) : Hp.Closed (H.set i x) := by
  rw [closed_iff] at h ⊢
  intro n hn y hy
  rw [List.length_set] at hn
  rcases List.mem_or_eq_of_mem_set hy with h1 | h1
  · exact h n hn y h1
  · rw [h1]; exact hx n hn

theorem Closed.snoc {H : Hp} (h : H.Closed) {x : Ob} (hx : ∀ n, H.length + 1 ≤ n → x.clr n = x) : Hp.Closed (H ++ [x]) := by
  rw [closed_iff] at h ⊢
  intro n hn y hy
  simp only [List.length_append, List.length_singleton] at hn
  rcases List.mem_append.1 hy with h1 | h1
  · exact h n (by omega) y h1
  · rw [List.mem_singleton.1 h1]; exact hx n hn

theorem ld_ptr (H : Hp) (i off n : Nat) : ldA H n (.ptr i off) = (match H[i]? with | some (.box _ cs) => cutL cs off n | _ => none) := rfl
theorem st_ptr (H : Hp) (i off : Nat) (cs : List A) : stA H cs (.ptr i off) = (match H[i]? with | some (.box ty old) => if off + cs.length ≤ old.length then some (H.set i (.box ty (setL old off cs))) else none | _ => none) := rfl

section
variable {P : Program} {α : Type} {enc : α → List D} {sz : Nat}

theorem arr_ldc {H : Hp} {i k j : Nat} {L : List α} {e : α} {d : D} (hi : H[i]? = some (arrE enc sz L)) (hk : L[k]? = some e) (hj : (enc e)[j]? = some d) : ldA H 1 (.aptr i k j) = some [.d d] := by
  have hjl := (List.getElem?_eq_some_iff.1 hj)
  obtain ⟨h1, h2⟩ := hjl
  have : j + 1 ≤ (enc e).length := h1
  simp [ldA, hi, arrE, hk, rowE, cutL, this]
  rw [List.take_one]
  simp [hj]

theorem arr_stc {H : Hp} {i k j : Nat} {L : List α} {e e' : α} {d : D} (hi : H[i]? = some (arrE enc sz L)) (hk : L[k]? = some e) (hj : j < (enc e).length) (he : (enc e).set j d = enc e') : stA H [.d d] (.aptr i k j) = some (H.set i (arrE enc sz (L.set k e'))) := by
  have : j + 1 ≤ (enc e).length := hj
  simp [stA, hi, arrE, hk, rowE, this]
  rw [← List.map_set, he]

theorem cloneD_acall {bytes e : Nat} {f : FuncId} {fn : Func} (hf : P.funcs[f]? = some fn) (hcf : compF P [1000005] fn = some (irCloneM sz bytes e)) {H : Hp} {z : Bool} {rows : List (List D)} (hb : rows.length * bytes ≤ 140737488355328) :
    ACall P f [.d (.sl z sz rows)] H (fun r H' => r = .d (.sl (z && rows.isEmpty) sz rows) ∧ H' = H) := by
  by_cases h0 : rows = []
  · subst h0
    cases z with
    | true => exact clone0_acall hf hcf
    | false => exact ACall.freeze (k := 0) (X := [.arr sz []]) (by simp) (cloneM0_acall hf hcf)
  · have : rows.isEmpty = false := by cases rows <;> simp_all
    rw [this, Bool.and_false]
    exact ACall.freeze (k := 1) (X := [.arr sz [], .arr sz (rows.map (List.map .d))]) (by simp) (cloneM_acall hf hcf h0 hb)

end
end Go.Zam

namespace Go.Zam
set_option linter.all false
set_option maxRecDepth 100000
set_option maxHeartbeats 1000000

/-- does not speak of an object -/
def A.off0 (i : Nat) : A → Bool
  | .d _ | .eptr _ | .cun | .undef => true
  | .osl _ _ _ t => decide (t ≠ i)
  | .msl j _ _ | .vsl j _ _ | .vptr j _ _ _ | .ptr j _ | .aptr j _ _ | .map j => decide (j ≠ i)
  | .agg _ | .tup _ | .fn .. => false

def A.off (i : Nat) : A → Bool
  | .agg cs => cs.all (A.off0 i)
  | .tup cs => cs.all (A.off0 i)
  | .fn _ a b => a.all (A.off0 i) && b.all (A.off0 i)
  | x => x.off0 i

def Ob.off (i : Nat) : Ob → Bool
  | .box _ cs => cs.all (A.off i)
  | .arr _ rows => rows.all fun r => r.all (A.off i)
  | .mp l => l.all fun e => e.2.off i
  | _ => true

theorem A.off0_lo {n : Nat} {a : A} (h : a.lo n = true) : a.off0 n = true := by
  cases a <;> simp_all [A.lo, A.off0] <;> omega

theorem A.off_clr {n : Nat} {a : A} (h : a.clr0 n = a) : a.off n = true := by
  cases a with
  | d x => rfl
  | eptr c => rfl
  | cun => rfl
  | undef => rfl
  | agg cs =>
    simp only [A.clr0] at h
    split at h
    · rename_i h1
      simp only [List.all_eq_true] at h1
      simp only [A.off, List.all_eq_true]
      exact fun x hx => A.off0_lo (h1 x hx)
    · cases h
  | tup cs => simp [A.clr0] at h
  | fn f a b =>
    simp only [A.clr0] at h
    split at h
    · rename_i h1
      simp only [Bool.and_eq_true, List.all_eq_true] at h1
      simp only [A.off, Bool.and_eq_true, List.all_eq_true]
      exact ⟨fun x hx => A.off0_lo (h1.1 x hx), fun x hx => A.off0_lo (h1.2 x hx)⟩
    · cases h
  | _ => 
    simp only [A.clr0] at h
    split at h
    · simp [A.off, A.off0]; omega
    · cases h

theorem map_fix {α : Type} {f : α → α} : ∀ {l : List α}, l.map f = l → ∀ x ∈ l, f x = x
  | [], _, x, hx => by simp at hx
  | y :: l, h, x, hx => by
    simp only [List.map_cons, List.cons.injEq] at h
    rcases List.mem_cons.1 hx with rfl | hx
    · exact h.1
    · exact map_fix h.2 x hx

theorem Ob.off_clr {n : Nat} {x : Ob} (h : x.clr n = x) : x.off n = true := by
  cases x with
  | box ty cs =>
    simp only [Ob.clr, Ob.box.injEq, true_and] at h
    simp only [Ob.off, List.all_eq_true]
    exact fun a ha => A.off_clr (map_fix h a ha)
  | arr sz rows =>
    simp only [Ob.clr, Ob.arr.injEq, true_and] at h
    simp only [Ob.off, List.all_eq_true]
    exact fun r hr a ha => A.off_clr (map_fix (map_fix h r hr) a ha)
  | mp l =>
    simp only [Ob.clr, Ob.mp.injEq] at h
    simp only [Ob.off, List.all_eq_true]
    exact fun e he => A.off_clr (by have := congrArg Prod.snd (map_fix h e he); exact this)
  | _ => rfl

section
variable {κ κ' : K} {i j : Nat}

theorem VR.off0 (hσ : κ'.σ = κ.σ) (hβ : ∀ m, m ≠ i → m ≠ j → κ'.β m = κ.β m) {v : Value} {a : A} (h : VR κ v a) (hi : a.off0 i = true) (hj : a.off0 j = true) : VR κ' v a := by
  cases h with
  | d h => exact .d (hσ ▸ h)
  | agg vs xs hl' h => simp [A.off0] at hi
  | tup vs xs hl' h => simp [A.off0] at hi
  | osl h ht => simp [A.off0] at hi hj; exact .osl (hσ ▸ h) (by rw [hβ _ hi hj]; exact ht)
  | msl m off len b sz o cap hb h1 h2 h3 => simp [A.off0] at hi hj; exact .msl m off len b sz o cap (by rw [hβ _ hi hj]; exact hb) h1 h2 h3
  | vsl m k len ad cap h0 hf => simp [A.off0] at hi hj; exact .vsl m k len ad cap h0 (by rw [hβ _ hi hj]; exact hf)
  | vptr m k idx off b o hf => simp [A.off0] at hi hj; exact .vptr m k idx off b o (by rw [hβ _ hi hj]; exact hf)
  | ptr m off b hb => simp [A.off0] at hi hj; exact .ptr m off b (by rw [hβ _ hi hj]; exact hb)
  | aptr m idx off b sz hb => simp [A.off0] at hi hj; exact .aptr m idx off b sz (by rw [hβ _ hi hj]; exact hb)
  | eptr cells b o f hc hd => exact .eptr cells b o f (by rw [hσ]; exact hc) (by rw [hσ]; exact hd)
  | fn f vs1 vs2 as1 as2 hl1 hl2 h1 h2 => simp [A.off0] at hi
  | map m b hb => simp [A.off0] at hi hj; exact .map m b (by rw [hβ _ hi hj]; exact hb)
  | cun v h => exact .cun v h
  | undef v => exact .undef v

theorem VR.off (hσ : κ'.σ = κ.σ) (hβ : ∀ m, m ≠ i → m ≠ j → κ'.β m = κ.β m) {v : Value} {a : A} (h : VR κ v a) (hi : a.off i = true) (hj : a.off j = true) : VR κ' v a := by
  cases h with
  | agg vs xs hl' h =>
    simp only [A.off, List.all_eq_true] at hi hj
    exact .agg vs xs hl' fun m v a hv ha => (h m v a hv ha).off0 hσ hβ (hi a (List.mem_of_getElem? ha)) (hj a (List.mem_of_getElem? ha))
  | tup vs xs hl' h =>
    simp only [A.off, List.all_eq_true] at hi hj
    exact .tup vs xs hl' fun m v a hv ha => (h m v a hv ha).off0 hσ hβ (hi a (List.mem_of_getElem? ha)) (hj a (List.mem_of_getElem? ha))
  | fn f vs1 vs2 as1 as2 hl1 hl2 h1 h2 =>
    simp only [A.off, Bool.and_eq_true, List.all_eq_true] at hi hj
    exact .fn f vs1 vs2 as1 as2 hl1 hl2 (fun m v a hv ha => (h1 m v a hv ha).off0 hσ hβ (hi.1 a (List.mem_of_getElem? ha)) (hj.1 a (List.mem_of_getElem? ha)))
      (fun m v a hv ha => (h2 m v a hv ha).off0 hσ hβ (hi.2 a (List.mem_of_getElem? ha)) (hj.2 a (List.mem_of_getElem? ha)))
  | d h => exact VR.off0 (i := i) (j := j) hσ hβ (.d h) hi hj
  | osl h ht => exact VR.off0 hσ hβ (.osl h ht) hi hj
  | msl m off len b sz o cap hb h1 h2 h3 => exact VR.off0 hσ hβ (.msl m off len b sz o cap hb h1 h2 h3) hi hj
  | vsl m k len ad cap h0 hf => exact VR.off0 hσ hβ (.vsl m k len ad cap h0 hf) hi hj
  | vptr m k idx off b o hf => exact VR.off0 hσ hβ (.vptr m k idx off b o hf) hi hj
  | ptr m off b hb => exact VR.off0 hσ hβ (.ptr m off b hb) hi hj
  | aptr m idx off b sz hb => exact VR.off0 hσ hβ (.aptr m idx off b sz hb) hi hj
  | eptr cells b o f hc hd => exact VR.off0 (i := i) (j := j) hσ hβ (.eptr cells b o f hc hd) hi hj
  | map m b hb => exact VR.off0 hσ hβ (.map m b hb) hi hj
  | cun v h => exact .cun v h
  | undef v => exact .undef v

theorem OR.off (hσ : κ'.σ = κ.σ) (hw0 : κ'.w0 = κ.w0) (hβ : ∀ m, m ≠ i → m ≠ j → κ'.β m = κ.β m) {w : World} {m : Nat} {x : Ob} (hmi : m ≠ i) (hmj : m ≠ j) (h : OR κ w m x) (hi : x.off i = true) (hj : x.off j = true) : OR κ' w m x := by
  have hb := hβ m hmi hmj
  cases x with
  | box ty cs =>
    simp only [Ob.off, List.all_eq_true] at hi hj
    obtain ⟨b, h1, hsh, h2⟩ := h
    refine ⟨b, hb.trans h1, hsh, fun q a ha => ?_⟩
    obtain ⟨v, h3, h4, h5⟩ := h2 q a ha
    exact ⟨v, h3, h4, h5.off hσ hβ (hi a (List.mem_of_getElem? ha)) (hj a (List.mem_of_getElem? ha))⟩
  | arr sz rows =>
    simp only [Ob.off, List.all_eq_true] at hi hj
    obtain ⟨b, s, h1, hs, h2⟩ := h
    refine ⟨b, s, hb.trans h1, hs, fun k r hr => ⟨(h2 k r hr).1, fun q a ha => ?_⟩⟩
    obtain ⟨v, h3, h4, h5⟩ := (h2 k r hr).2 q a ha
    exact ⟨v, h3, h4, h5.off hσ hβ (hi r (List.mem_of_getElem? hr) a (List.mem_of_getElem? ha)) (hj r (List.mem_of_getElem? hr) a (List.mem_of_getElem? ha))⟩
  | tok n sz ty =>
    rcases h with ⟨h1, h2⟩ | ⟨b, e, c, cur, lo, hi', h1, h2⟩
    · exact .inl ⟨hb.trans h1, h2⟩
    · exact .inr ⟨b, e, c, cur, lo, hi', hb.trans h1, h2⟩
  | vec sz ty k rows =>
    obtain ⟨b, c, cur, h1, h2, h3, h4, h5⟩ := h
    exact ⟨b, c, cur, hb.trans h1, h2, h3, h4, by rw [hσ]; exact h5⟩
  | mp l =>
    simp only [Ob.off, List.all_eq_true] at hi hj
    obtain ⟨b, es, clock, h1, h2, h3, h4⟩ := h
    refine ⟨b, es, clock, hb.trans h1, h2, h3, fun q x hx => ?_⟩
    obtain ⟨e, h5, h6, h7⟩ := h4 q x hx
    exact ⟨e, h5, by rw [hσ]; exact h6, h7.off hσ hβ (hi x (List.mem_of_getElem? hx)) (hj x (List.mem_of_getElem? hx))⟩
  | dead => trivial
  | glob g cs => obtain ⟨ty, fr, h1⟩ := h; exact ⟨ty, fr, hw0 ▸ h1⟩

end

theorem closed_off {H : Hp} (h : H.Closed) {n : Nat} (hn : H.length ≤ n) {m : Nat} {x : Ob} (hx : H[m]? = some x) : x.off n = true :=
  Ob.off_clr (closed_iff.1 h n hn x (List.mem_of_getElem? hx))

/-- A SLICE THAT WAS APPENDED TO, IN PLACE OF A ROW THAT IS WRITTEN -/
theorem ACall.thaw {P : Program} {f : FuncId} {H : Hp} {i k sz e : Nat} {rows rows' : List (List D)} {args : List A} {v : A} (hi : H[i]? = some (.vec sz e k rows)) (hne : rows ≠ [])
    (hH : ∀ m x, m ≠ i → H[m]? = some x → x.off i = true) (hv : v.off i = true ∧ v.off H.length = true) (hl : rows'.length = rows.length)
    (h : ACall P f (.msl H.length 0 rows.length :: args) (H.set i .dead ++ [.arr sz (rows.map (List.map .d))]) (fun r H' => r = v ∧ H' = H.set i .dead ++ [.arr sz (rows'.map (List.map .d))])) :
    ACall P f (.vsl i k rows.length :: args) H (fun r H' => r = v ∧ H' = H.set i (.vec sz e k rows')) := by
  intro κ w vs hr hvl hva
  have hil : i < H.length := (List.getElem?_eq_some_iff.1 hi).1
  obtain ⟨b, c, cur, hβ, hheap, hle0, hsz, hcells⟩ := hr.ob i _ hi
  have hpos : 0 < rows.length := List.length_pos_iff.2 hne
  have hbx := hr.ex i b (by rw [hβ]; rfl)
  have hn : κ.β H.length = .none := hr.dom _ (Nat.le_refl _)
  have hni : H.length ≠ i := by omega
  -- the first argument
  cases vs with
  | nil => simp at hvl
  | cons v0 vs =>
  have hv0 : VR κ v0 (.vsl i k rows.length) := hva 0 v0 _ rfl rfl
  obtain ⟨hlc, rfl⟩ : rows.length ≤ c ∧ v0 = .slice (some ⟨b, 0, none⟩) rows.length c := by
    cases hv0 with
    | vsl _ _ _ ad cap hlc hf =>
      rw [hβ] at hf
      have := (hf.2 rfl).2
      cases this
      exact ⟨hlc, rfl⟩
  -- the other view
  let κs : K := { κ with β := upd (upd κ.β i .deadT) H.length (.arr b sz (some (e, cur.size))) }
  have hsβ : ∀ m, m ≠ i → m ≠ H.length → κs.β m = κ.β m := fun m h1 h2 => by
    show upd (upd κ.β i _) H.length _ m = _
    rw [upd_ne _ _ h2, upd_ne _ _ h1]
  have hsi : κs.β i = .deadT := by
    show upd (upd κ.β i _) H.length _ i = _
    rw [upd_ne _ _ (by omega), upd_same]
  have hsn : κs.β H.length = .arr b sz (some (e, cur.size)) := upd_same _ _ _
  have hks : κ.le κs := ⟨rfl, fun _ _ _ h => h, fun m => by
    by_cases h1 : m = i
    · subst h1; rw [hsi, hβ]; exact .inr (.inl rfl)
    · by_cases h2 : m = H.length
      · subst h2; rw [hn]; trivial
      · rw [hsβ m h1 h2]; exact Bind.le_refl _⟩
  have hblk : ∀ m b', (κs.β m).block = some b' → (m = H.length ∧ b' = b) ∨ (m ≠ H.length ∧ m ≠ i ∧ (κ.β m).block = some b') := fun m b' hm => by
    by_cases h2 : m = H.length
    · subst h2; rw [hsn] at hm; cases hm; exact .inl ⟨rfl, rfl⟩
    · by_cases h1 : m = i
      · subst h1; rw [hsi] at hm; cases hm
      · rw [hsβ m h1 h2] at hm; exact .inr ⟨h2, h1, hm⟩
  have hrs : HR κs (H.set i .dead ++ [.arr sz (rows.map (List.map .d))]) w := by
    refine ⟨hr.below, hr.st, fun m x hx => ?_, fun m hm => ?_, fun m b' hb' => ?_, fun m b' o ho => ?_, fun m q b' h1 h2 => ?_, fun m x hx => ?_⟩
    · by_cases h2 : m = H.length
      · subst h2
        rw [show H.length = (H.set i Ob.dead).length by simp, getElem?_app0] at hx
        cases hx
        refine ⟨b, _, hsn, fun ty n he => by cases he; exact ⟨cur, hheap, rfl⟩, fun q r hq => ?_⟩
        simp only [List.getElem?_map, Option.map_eq_some_iff] at hq
        obtain ⟨r0, hr0, rfl⟩ := hq
        refine ⟨by simpa using (hcells q r0 hr0).1, fun y a ha => ?_⟩
        simp only [List.getElem?_map, Option.map_eq_some_iff] at ha
        obtain ⟨x0, hx0, rfl⟩ := ha
        obtain ⟨u, u1, u2⟩ := (hcells q r0 hr0).2 y x0 hx0
        exact ⟨u, by rw [cell_cells hheap]; exact u1, by simp [World.frozen?, hheap], .d u2⟩
      · have hm : m < (H.set i Ob.dead).length := by
          have := (List.getElem?_eq_some_iff.1 hx).1
          simp at this ⊢; omega
        rw [List.getElem?_append_left hm] at hx
        by_cases h1 : i = m
        · subst h1
          rw [List.getElem?_set_self hil] at hx
          cases hx; trivial
        · rw [List.getElem?_set_ne h1] at hx
          exact (hr.ob m x hx).mono hks (hsβ m (Ne.symm h1) h2) fun _ _ => rfl
    · have : H.length + 1 ≤ m := by simpa using hm
      rw [hsβ m (by omega) (by omega)]; exact hr.dom m (by omega)
    · rcases hblk m b' hb' with ⟨-, rfl⟩ | ⟨-, -, h3⟩
      · exact hbx
      · exact hr.ex m b' h3
    · rcases hblk m b' (Bind.block_of_owns ho) with ⟨rfl, rfl⟩ | ⟨h1, h2, h3⟩
      · exact hr.exσ i b' o (by rw [hβ]; rfl)
      · rw [hsβ m h2 h1] at ho; exact hr.exσ m b' o ho
    · rcases hblk m b' h1 with ⟨rfl, rfl⟩ | ⟨a1, a2, a3⟩
      · rcases hblk q b' h2 with ⟨rfl, -⟩ | ⟨c1, c2, c3⟩
        · rfl
        · exact absurd (hr.exd q i b' c3 (by rw [hβ]; rfl)) c2
      · rcases hblk q b' h2 with ⟨rfl, rfl⟩ | ⟨c1, c2, c3⟩
        · exact absurd (hr.exd m i b' a3 (by rw [hβ]; rfl)) a2
        · exact hr.exd m q b' a3 c3
    · by_cases h2 : m = H.length
      · subst h2
        rw [show H.length = (H.set i Ob.dead).length by simp, getElem?_app0] at hx
        cases hx
        simp [Ob.flat, A.flat]
      · have hm : m < (H.set i Ob.dead).length := by
          have := (List.getElem?_eq_some_iff.1 hx).1
          simp at this ⊢; omega
        rw [List.getElem?_append_left hm] at hx
        by_cases h1 : i = m
        · subst h1
          rw [List.getElem?_set_self hil] at hx
          cases hx; rfl
        · rw [List.getElem?_set_ne h1] at hx
          exact hr.fl m x hx
  refine (h κs w (.slice (some ⟨b, 0, none⟩) rows.length c :: vs) hrs (by simpa using hvl) (fun m u a hu ha => ?_)).mono ?_
  · cases m with
    | zero =>
      simp only [List.getElem?_cons_zero, Option.some.injEq] at hu ha
      subst hu; subst ha
      exact .msl _ _ _ b sz 0 c (.inl ⟨_, hsn⟩) hlc (fun _ => by simp) (fun h0 => by omega)
    | succ m => exact (hva (m + 1) u a hu ha).mono hks
  rintro ev w' ⟨u, κ', x, H', h1, h2, h3, h4, rfl, rfl⟩
  -- back
  have h2i : κ'.β i = .deadT := by have := h2.β i; rw [hsi] at this; exact this
  have hml : H.length < (H.set i Ob.dead ++ [Ob.arr sz (rows'.map (List.map .d))]).length := by simp
  have hob := h3.ob H.length _ (by rw [show H.length = (H.set i Ob.dead).length by simp, getElem?_app0]; rfl)
  obtain ⟨b', s', hb', hs', hc'⟩ := hob
  obtain ⟨rfl, rfl⟩ : b' = b ∧ s' = some (e, cur.size) := by
    have := h2.β H.length
    rw [hsn] at this
    rcases this with this | this
    · rw [this] at hb'; cases hb'; exact ⟨rfl, rfl⟩
    · rw [this] at hb'; cases hb'
  obtain ⟨cur', hheap', hcs⟩ := hs' e cur.size rfl
  let κt : K := { κ' with β := upd (upd κ'.β i (κ.β i)) H.length .none }
  have htβ : ∀ m, m ≠ i → m ≠ H.length → κt.β m = κ'.β m := fun m h1 h2 => by
    show upd (upd κ'.β i _) H.length _ m = _
    rw [upd_ne _ _ h2, upd_ne _ _ h1]
  have hti : κt.β i = .vec b' c rows.length k sz := by
    show upd (upd κ'.β i _) H.length _ i = _
    rw [upd_ne _ _ (by omega), upd_same, hβ]
  have htn : κt.β H.length = .none := upd_same _ _ _
  have htblk : ∀ m b2, (κt.β m).block = some b2 → (m = i ∧ b2 = b') ∨ (m ≠ H.length ∧ m ≠ i ∧ (κ'.β m).block = some b2) := fun m b2 hm => by
    by_cases h2 : m = H.length
    · subst h2; rw [htn] at hm; cases hm
    · by_cases h1 : m = i
      · subst h1; rw [hti] at hm; cases hm; exact .inl ⟨rfl, rfl⟩
      · rw [htβ m h1 h2] at hm; exact .inr ⟨h2, h1, hm⟩
  have hoff : ∀ m x, m ≠ i → H[m]? = some x → x.off H.length = true := fun m x _ hx =>
    Ob.off_clr (closed_iff.1 hr.closed H.length (Nat.le_refl _) x (List.mem_of_getElem? hx))
  have hgetm : ∀ m, m ≠ i → m < H.length → (H.set i Ob.dead ++ [Ob.arr sz (rows'.map (List.map .d))])[m]? = H[m]? := fun m h1 h2 => by
    rw [List.getElem?_append_left (by simpa using h2), List.getElem?_set_ne (Ne.symm h1)]
  refine ⟨u, κt, x, _, h1, ⟨(h2.w0.trans hks.w0), fun b2 o2 y hy => h2.σ b2 o2 y (hks.σ b2 o2 y hy), fun m => ?_⟩, ⟨h3.below, h3.st, fun m y hy => ?_, fun m hm => ?_, fun m b2 hb2 => ?_, fun m b2 o ho => ?_, fun m q b2 u1 u2 => ?_, fun m y hy => ?_⟩, @VR.off κ' κt i H.length rfl htβ _ _ h4 hv.1 hv.2, rfl, rfl⟩
  · by_cases e1 : m = i
    · subst e1; rw [hti, hβ]; exact Bind.le_refl _
    · by_cases e2 : m = H.length
      · subst e2; rw [hn]; trivial
      · rw [htβ m e1 e2, ← hsβ m e1 e2]; exact h2.β m
  · by_cases e1 : i = m
    · subst e1
      rw [List.getElem?_set_self hil] at hy
      cases hy
      refine ⟨b', c, cur', by rw [hti, hl], hheap', by omega, by rw [hcs]; exact hsz, fun q r hq => ?_⟩
      obtain ⟨g1, g2⟩ := hc' q (r.map .d) (by simp [hq])
      refine ⟨by simpa using g1, fun y x hx => ?_⟩
      obtain ⟨z, z1, -, z3⟩ := g2 y (.d x) (by simp [hx])
      rw [cell_cells hheap'] at z1
      exact ⟨z, z1, z3.d_inv⟩
    · rw [List.getElem?_set_ne e1] at hy
      have hm : m < H.length := (List.getElem?_eq_some_iff.1 hy).1
      exact @OR.off κ' κt i H.length rfl rfl htβ _ _ _ (Ne.symm e1) (by omega) (h3.ob m y (by rw [hgetm m (Ne.symm e1) hm]; exact hy)) (hH m y (Ne.symm e1) hy) (hoff m y (Ne.symm e1) hy)
  · have hm' : H.length ≤ m := by simpa using hm
    by_cases e2 : m = H.length
    · subst e2; exact htn
    · rw [htβ m (by omega) e2]
      exact h3.dom m (by simp; omega)
  · rcases htblk m b2 hb2 with ⟨-, rfl⟩ | ⟨-, -, g⟩
    · exact h3.ex H.length b2 (by rw [hb']; rfl)
    · exact h3.ex m b2 g
  · rcases htblk m b2 (Bind.block_of_owns ho) with ⟨rfl, rfl⟩ | ⟨g1, g2, g3⟩
    · exact h3.exσ H.length b2 o (by rw [hb']; rfl)
    · rw [htβ m g2 g1] at ho; exact h3.exσ m b2 o ho
  · rcases htblk m b2 u1 with ⟨rfl, rfl⟩ | ⟨a1, a2, a3⟩
    · rcases htblk q b2 u2 with ⟨rfl, -⟩ | ⟨c1, c2, c3⟩
      · rfl
      · exact absurd (h3.exd q H.length b2 c3 (by rw [hb']; rfl)) c1
    · rcases htblk q b2 u2 with ⟨rfl, rfl⟩ | ⟨c1, c2, c3⟩
      · exact absurd (h3.exd m H.length b2 a3 (by rw [hb']; rfl)) a1
      · exact h3.exd m q b2 a3 c3
  · by_cases e1 : i = m
    · subst e1
      rw [List.getElem?_set_self hil] at hy
      cases hy; rfl
    · rw [List.getElem?_set_ne e1] at hy
      exact hr.fl m y hy

end Go.Zam

namespace Go.Proofs.Zv
open Go Go.Zam Go.Proofs
set_option linter.all false

abbrev Str := List UInt8

inductive V where
  | mk (k n : Int) (s : Str) (z : Bool) (ns : List Str) (y : Bool) (ps : List V)

inductive U where
  | mk (k n : Int) (s : Str) (ns : List Str) (ps : List U)

def encS (x : Str) : List D := [.str x]

mutual
def V.enc : V → List D
  | .mk k n s z ns y ps => [.int .i64 k, .int .i64 n, .str s, .sl z 1 (ns.map encS), .sl y 5 (V.encs ps)]
def V.encs : List V → List (List D)
  | [] => []
  | p :: r => V.enc p :: V.encs r
end

mutual
def V.strip : V → U
  | .mk k n s _ ns _ ps => .mk k n s ns (V.strips ps)
def V.strips : List V → List U
  | [] => []
  | p :: r => V.strip p :: V.strips r
end

theorem V.encs_map : ∀ l : List V, V.encs l = l.map V.enc
  | [] => rfl
  | p :: r => by rw [V.encs, V.encs_map r]; rfl
theorem V.strips_map : ∀ l : List V, V.strips l = l.map V.strip
  | [] => rfl
  | p :: r => by rw [V.strips, V.strips_map r]; rfl

theorem V.enc_mk (k n : Int) (s : Str) (z : Bool) (ns : List Str) (y : Bool) (ps : List V) : V.enc (.mk k n s z ns y ps) = [.int .i64 k, .int .i64 n, .str s, .sl z 1 (ns.map encS), .sl y 5 (ps.map V.enc)] := by rw [V.enc, V.encs_map]
theorem V.strip_mk (k n : Int) (s : Str) (z : Bool) (ns : List Str) (y : Bool) (ps : List V) : V.strip (.mk k n s z ns y ps) = .mk k n s ns (ps.map V.strip) := by rw [V.strip, V.strips_map]

mutual
theorem V.ind {Q : V → Prop} (h : ∀ k n s z ns y ps, (∀ p ∈ ps, Q p) → Q (.mk k n s z ns y ps)) : ∀ v, Q v
  | .mk k n s z ns y ps => h k n s z ns y ps (V.inds h ps)
theorem V.inds {Q : V → Prop} (h : ∀ k n s z ns y ps, (∀ p ∈ ps, Q p) → Q (.mk k n s z ns y ps)) : ∀ l : List V, ∀ p ∈ l, Q p
  | [] => fun p hp => by simp at hp
  | x :: r => fun p hp => (List.mem_cons.1 hp).elim (fun e => e ▸ V.ind h x) (fun hp => V.inds h r p hp)
end

mutual
theorem U.ind {Q : U → Prop} (h : ∀ k n s ns ps, (∀ p ∈ ps, Q p) → Q (.mk k n s ns ps)) : ∀ v, Q v
  | .mk k n s ns ps => h k n s ns ps (U.inds h ps)
theorem U.inds {Q : U → Prop} (h : ∀ k n s ns ps, (∀ p ∈ ps, Q p) → Q (.mk k n s ns ps)) : ∀ l : List U, ∀ p ∈ l, Q p
  | [] => fun p hp => by simp at hp
  | x :: r => fun p hp => (List.mem_cons.1 hp).elim (fun e => e ▸ U.ind h x) (fun hp => U.inds h r p hp)
end

theorem V.enc_len (v : V) : v.enc.length = 5 := by cases v; rw [V.enc_mk]; rfl

/-- how much a value holds -/
def V.bulk (v : V) : Nat := D.bulkC v.enc

theorem V.bulk_part {k n : Int} {s : Str} {z : Bool} {ns : List Str} {y : Bool} {ps : List V} {p : V} (h : p ∈ ps) : p.bulk ≤ (V.mk k n s z ns y ps).bulk := by
  have := bulkR_mem (List.mem_map_of_mem (f := V.enc) h)
  simp only [V.bulk, V.enc_mk k, D.bulkC, D.bulk]
  omega

theorem V.bulk_lens (k n : Int) (s : Str) (z : Bool) (ns : List Str) (y : Bool) (ps : List V) : s.length ≤ (V.mk k n s z ns y ps).bulk ∧ ns.length ≤ (V.mk k n s z ns y ps).bulk ∧ ps.length ≤ (V.mk k n s z ns y ps).bulk := by
  have h1 := bulkR_len (enc := encS) (fun m => by simp only [encS, D.bulkC, D.bulk]; omega) ns
  have h2 := bulkR_len (enc := V.enc) (fun m => by cases m; simp only [V.enc_mk, D.bulkC, D.bulk]; omega) ps
  simp only [V.bulk, V.enc_mk k, D.bulkC, D.bulk]
  omega

/-- no length in it is beyond a number -/
inductive V.Fit (b : Nat) : V → Prop
  | mk (k n : Int) (s : Str) (z : Bool) (ns : List Str) (y : Bool) (ps : List V) (h1 : s.length ≤ b) (h2 : ns.length ≤ b) (h3 : ps.length ≤ b) (hn : -9223372036854775808 ≤ n ∧ n ≤ 9223372036854775807) (h4 : ∀ x ∈ ns, x.length ≤ b) (h5 : ∀ p ∈ ps, V.Fit b p) : V.Fit b (.mk k n s z ns y ps)

/-- the zero -/
def V.nil : V := .mk 0 0 [] true [] true []
theorem V.enc_nil : V.nil.enc = [.int .i64 0, .int .i64 0, .str [], .sl true 1 [], .sl true 5 []] := rfl

end Go.Proofs.Zv

namespace Go.Zam
set_option linter.all false
set_option maxRecDepth 100000

theorem rowAt_map {α : Type} (f : α → List D) {l : List α} {i : Nat} (h : i < l.length) : Zam.rowAt (l.map f) (i : Int) = some (f l[i]) := by
  simp [Zam.rowAt, h]

theorem rowAt_get {α : Type} {f : α → List D} {l : List α} {i : Nat} {x : α} (h : l[i]? = some x) : Zam.rowAt (l.map f) (i : Int) = some (f x) := by
  simp [Zam.rowAt, h]

theorem take_succ_map {α β : Type} (f : α → β) {l : List α} {i : Nat} (h : i < l.length) : (l.take (i + 1)).map f = (l.take i).map f ++ [f l[i]] := by
  rw [List.take_succ_eq_append_getElem h, List.map_append]; rfl

theorem take_map_succ {α β : Type} (f : α → β) {l : List α} {i : Nat} (h : i < l.length) : (l.map f).take (i + 1) = (l.map f).take i ++ [f l[i]] := by
  rw [List.take_succ_eq_append_getElem (by simpa using h)]; simp

/-- what a round of a range hands on -/
def NextK (J : Nat → Fr → Hp → Prop) (_ : Tag J) (m n si sn st : Nat) (i : Nat) (fr : Fr) (H : Hp) : Prop :=
  fr si = .d (.int .i64 (i : Int)) ∧ fr sn = .d (.int .i64 (n : Int)) ∧ ∃ k, m ≤ k ∧ k ≤ H.length ∧ J (i + 1) (Fr.clr k ((fr.set st (.d (.int .i64 ((i : Int) + 1)))).set si (.d (.int .i64 ((i : Int) + 1))))) (Hp.cut k H)

@[congr] theorem NextK_congr {J : Nat → Fr → Hp → Prop} {t : Tag J} {m n si sn st i : Nat} {fr fr' : Fr} {H H' : Hp} (h : fr = fr') (h2 : H = H') : NextK J t m n si sn st i fr H = NextK J t m n si sn st i fr' H' := by rw [h, h2]

theorem NextK_of {J : Nat → Fr → Hp → Prop} {t : Tag J} {m n si sn st i : Nat} {fr : Fr} {H : Hp} (k : Nat) (hk : m ≤ k) (h : k ≤ H.length ∧ fr si = .d (.int .i64 (i : Int)) ∧ fr sn = .d (.int .i64 (n : Int)))
    (hj : J (i + 1) (Fr.clr k ((fr.set st (.d (.int .i64 ((i : Int) + 1)))).set si (.d (.int .i64 ((i : Int) + 1))))) (Hp.cut k H)) : NextK J t m n si sn st i fr H :=
  ⟨h.2.1, h.2.2, k, hk, h.1, hj⟩

def rangeC (si sn sb st b c : Nat) (body : C) : C :=
  .seq (.ops [⟨some sb, none, .bin .lss (.t si) (.t sn)⟩] false) (.seq (.cond (.t sb) .skip (.exit b)) (.seq (.blk c body) (.ops [⟨some st, none, .bin .add (.t si) (.c (.int .i64 1))⟩, ⟨some si, none, .mv (.t st)⟩] false)))

/-- A LOOP OVER THE ROWS OF A SLICE -/
theorem RangeK_of {P : Program} {n0 : Nat} {Q : Ex → Fr → Hp → Prop} {fr : Fr} {H : Hp} {si sn sb st b c : Nat} {body : C} {t : Tag (Q, rangeC si sn sb st b c body)} (m n : Nat) (J : Nat → Fr → Hp → Prop) (hn : n ≤ 4611686018427387904)
    (hne : (si ≠ sn ∧ si ≠ sb ∧ sn ≠ sb) ∧ (sb ≠ st ∧ sn ≠ st)) (h1 : n0 ≤ m ∧ m ≤ H.length) (h2 : fr si = .d (.int .i64 0) ∧ fr sn = .d (.int .i64 (n : Int))) (h3 : J 0 (fr.clr m) (Hp.cut m H))
    (h4 : ∀ i fr H, i < n → fr si = .d (.int .i64 (i : Int)) → fr sn = .d (.int .i64 (n : Int)) → J i fr H →
      AWp P n0 body (Ex.blk c (Ex.then (NextK J .mk m n si sn st i) Q)) (fr.set sb (.d (.bool true))) H)
    (h5 : ∀ fr H, fr si = .d (.int .i64 (n : Int)) → fr sn = .d (.int .i64 (n : Int)) → J n fr H → Q (.exit b) (fr.set sb (.d (.bool false))) H) :
    LoopK Q (rangeC si sn sb st b c body) t P n0 fr H := by
  obtain ⟨⟨n1, n2, n3⟩, n4, n5⟩ := hne
  refine LoopK_of m (fun fr H => ∃ i : Nat, i ≤ n ∧ fr si = .d (.int .i64 (i : Int)) ∧ fr sn = .d (.int .i64 (n : Int)) ∧ J i fr H) (fun fr H => match fr si with | .d (.int _ k) => (n - k).toNat | _ => 0) h1
    ⟨0, Nat.zero_le _, by simp [h2.1], by simp [h2.2], h3⟩ ?_
  rintro fr H ⟨i, hi, f1, f2, hj⟩
  simp [rangeC, f1, f2]
  refine BrK_split (fun h => ?_) (fun h => ?_)
  · have hlt : i < n := by simpa using h
    have hw : IntKind.i64.wrap ((i : Int) + 1) = i + 1 := wrap_i64 (by omega) (by omega)
    have hd : decide (i < n) = true := by simpa using hlt
    rw [hd]
    simp only [AWp_skip, then_normal, AWp_seq, AWp_blk]
    refine AWp.mono _ ?_ _ _ (h4 i fr H hlt f1 f2 hj)
    intro e fr' H' h
    have fin : NextK J .mk m n si sn st i fr' H' → Ex.then (AWp P n0 (.ops [⟨some st, none, .bin .add (.t si) (.c (.int .i64 1))⟩, ⟨some si, none, .mv (.t st)⟩] false) (Ex.then (Again m (fun fr H => ∃ i : Nat, i ≤ n ∧ fr si = .d (.int .i64 (i : Int)) ∧ fr sn = .d (.int .i64 (n : Int)) ∧ J i fr H) (fun fr H => match fr si with | .d (.int _ k) => (n - k).toNat | _ => 0) (n - i)) Q)) (Ex.then (Again m (fun fr H => ∃ i : Nat, i ≤ n ∧ fr si = .d (.int .i64 (i : Int)) ∧ fr sn = .d (.int .i64 (n : Int)) ∧ J i fr H) (fun fr H => match fr si with | .d (.int _ k) => (n - k).toNat | _ => 0) (n - i)) Q) Ex.normal fr' H' := by
      rintro ⟨g1, g2, k, k1, k2, k3⟩
      simp [g1, hw]
      refine AgainK_ofk k k1 k2 ⟨i + 1, by omega, by simp, by simp [n1.symm, n5, g2], ?_⟩ ?_
      · exact k3
      · simp; omega
    cases e with
    | normal => exact fin h
    | exit j =>
      simp only [blk_exit] at h ⊢
      by_cases hj : j = c
      · rw [if_pos hj] at h ⊢; exact fin h
      · rw [if_neg hj] at h ⊢; exact h
    | ret => exact h
  · have : i = n := by have : ¬ i < n := by simpa using h
                       omega
    subst this
    simp
    exact h5 fr H f1 f2 hj

/-- what a round of a counted loop hands on -/
def NextF (J : Nat → Fr → Hp → Prop) (_ : Tag J) (m n si su sv : Nat) (i : Nat) (fr : Fr) (H : Hp) : Prop :=
  fr si = .d (.int .i64 (i : Int)) ∧ i < n ∧ ∃ k, m ≤ k ∧ k ≤ H.length ∧ J (i + 1) (Fr.clr k (((fr.set su (.d (.int .i64 (i : Int)))).set sv (.d (.int .i64 ((i : Int) + 1)))).set si (.d (.int .i64 ((i : Int) + 1))))) (Hp.cut k H)

@[congr] theorem NextF_congr {J : Nat → Fr → Hp → Prop} {t : Tag J} {m n si su sv i : Nat} {fr fr' : Fr} {H H' : Hp} (h : fr = fr') (h2 : H = H') : NextF J t m n si su sv i fr H = NextF J t m n si su sv i fr' H' := by rw [h, h2]

theorem NextF_of {J : Nat → Fr → Hp → Prop} {t : Tag J} {m n si su sv i : Nat} {fr : Fr} {H : Hp} (k : Nat) (hk : m ≤ k) (hi : i < n) (h : k ≤ H.length ∧ fr si = .d (.int .i64 (i : Int)))
    (hj : J (i + 1) (Fr.clr k (((fr.set su (.d (.int .i64 (i : Int)))).set sv (.d (.int .i64 ((i : Int) + 1)))).set si (.d (.int .i64 ((i : Int) + 1))))) (Hp.cut k H)) : NextF J t m n si su sv i fr H :=
  ⟨h.2, hi, k, hk, h.1, hj⟩

def forC (si su sv c : Nat) (cnd body : C) : C :=
  .seq cnd (.seq (.blk c body) (.ops [⟨some su, none, .mv (.t si)⟩, ⟨some sv, none, .bin .add (.t su) (.c (.int .i64 1))⟩, ⟨some si, none, .mv (.t sv)⟩] false))

/-- A LOOP THAT COUNTS -/
theorem ForK_of {P : Program} {n0 : Nat} {Q : Ex → Fr → Hp → Prop} {fr : Fr} {H : Hp} {si su sv c : Nat} {cnd body : C} {t : Tag (Q, forC si su sv c cnd body)} (m n : Nat) (J : Nat → Fr → Hp → Prop) (hn : n ≤ 4611686018427387904)
    (hne : si ≠ su ∧ si ≠ sv ∧ su ≠ sv) (h1 : n0 ≤ m ∧ m ≤ H.length) (h2 : fr si = .d (.int .i64 0)) (h3 : J 0 (fr.clr m) (Hp.cut m H))
    (h4 : ∀ i fr H, i ≤ n → fr si = .d (.int .i64 (i : Int)) → J i fr H →
      AWp P n0 cnd (Ex.then (AWp P n0 body (Ex.blk c (Ex.then (NextF J .mk m n si su sv i) Q))) Q) fr H) :
    LoopK Q (forC si su sv c cnd body) t P n0 fr H := by
  obtain ⟨n1, n2, n3⟩ := hne
  refine LoopK_of m (fun fr H => ∃ i : Nat, i ≤ n ∧ fr si = .d (.int .i64 (i : Int)) ∧ J i fr H) (fun fr H => match fr si with | .d (.int _ k) => (n - k).toNat | _ => 0) h1
    ⟨0, Nat.zero_le _, by simp [h2], h3⟩ ?_
  rintro fr H ⟨i, hi, f1, hj⟩
  simp only [forC, AWp_seq]
  refine AWp.mono _ ?_ _ _ (h4 i fr H hi f1 hj)
  intro e fr' H' h
  cases e with
  | normal =>
    simp only [then_normal, AWp_seq, AWp_blk] at h ⊢
    refine AWp.mono _ ?_ _ _ h
    intro e fr' H' h
    have fin : NextF J .mk m n si su sv i fr' H' → AWp P n0 (.ops [⟨some su, none, .mv (.t si)⟩, ⟨some sv, none, .bin .add (.t su) (.c (.int .i64 1))⟩, ⟨some si, none, .mv (.t sv)⟩] false) (Ex.then (Again m (fun fr H => ∃ i : Nat, i ≤ n ∧ fr si = .d (.int .i64 (i : Int)) ∧ J i fr H) (fun fr H => match fr si with | .d (.int _ k) => (n - k).toNat | _ => 0) (match fr si with | .d (.int _ k) => (n - k).toNat | _ => 0)) Q) fr' H' := by
      rintro ⟨g1, g0, k, k1, k2, k3⟩
      have hw : IntKind.i64.wrap ((i : Int) + 1) = i + 1 := wrap_i64 (by omega) (by omega)
      simp [g1, hw, f1]
      refine AgainK_ofk k k1 k2 ⟨i + 1, by omega, by simp, ?_⟩ ?_
      · exact k3
      · simp; omega
    cases e with
    | normal => simp only [blk_normal, then_normal] at h ⊢; exact fin h
    | exit j =>
      simp only [blk_exit] at h ⊢
      by_cases hj : j = c
      · rw [if_pos hj] at h ⊢; exact fin h
      · rw [if_neg hj] at h ⊢; exact h
    | ret => exact h
  | exit j => exact h
  | ret => exact h

/-- where a loop is left by one exit, what holds there -/
def Ex.outE (b : Nat) (E : Fr → Hp → Prop) (Q : Ex → Fr → Hp → Prop) : Ex → Fr → Hp → Prop
  | .exit j, fr, H => if j = b then E fr H else Q (.exit j) fr H
  | e, fr, H => Q e fr H

@[simp ↓] theorem outE_exit (b j : Nat) {E : Fr → Hp → Prop} {Q : Ex → Fr → Hp → Prop} {fr : Fr} {H : Hp} : Ex.outE b E Q (.exit j) fr H = if j = b then E fr H else Q (.exit j) fr H := propext Iff.rfl
@[simp ↓] theorem outE_ret (b : Nat) {E : Fr → Hp → Prop} {Q : Ex → Fr → Hp → Prop} {fr : Fr} {H : Hp} : Ex.outE b E Q .ret fr H = Q .ret fr H := propext Iff.rfl
@[simp ↓] theorem outE_normal (b : Nat) {E : Fr → Hp → Prop} {Q : Ex → Fr → Hp → Prop} {fr : Fr} {H : Hp} : Ex.outE b E Q .normal fr H = Q .normal fr H := propext Iff.rfl

/-- a loop that is left by one exit, or returns -/
def Ex.outR (b : Nat) (E R : Fr → Hp → Prop) : Ex → Fr → Hp → Prop
  | .exit j, fr, H => if j = b then E fr H else False
  | .ret, fr, H => R fr H
  | .normal, _, _ => False

@[simp ↓] theorem outR_exit (b j : Nat) {E R : Fr → Hp → Prop} {fr : Fr} {H : Hp} : Ex.outR b E R (.exit j) fr H = if j = b then E fr H else False := propext Iff.rfl
@[simp ↓] theorem outR_ret (b : Nat) {E R : Fr → Hp → Prop} {fr : Fr} {H : Hp} : Ex.outR b E R .ret fr H = R fr H := propext Iff.rfl

theorem LoopK_outR {P : Program} {n0 : Nat} {Q : Ex → Fr → Hp → Prop} {fr : Fr} {H : Hp} {c : C} {t : Tag (Q, c)} (b : Nat) (E R : Fr → Hp → Prop) (h : LoopK (Ex.outR b E R) c .mk P n0 fr H) (hret : ∀ fr H, R fr H → Q .ret fr H) (hout : ∀ fr H, E fr H → Q (.exit b) fr H) : LoopK Q c t P n0 fr H :=
  AWp.mono (.loop c) (fun e fr H h => by
    cases e with
    | normal => exact h.elim
    | ret => exact hret fr H h
    | exit j =>
      simp only [outR_exit] at h
      by_cases hj : j = b
      · rw [if_pos hj] at h; rw [hj]; exact hout fr H h
      · rw [if_neg hj] at h; exact h.elim) fr H h

/-- a step that ends, or returns -/
def Ex.outN (E R : Fr → Hp → Prop) : Ex → Fr → Hp → Prop
  | .exit _, _, _ => False
  | .ret, fr, H => R fr H
  | .normal, fr, H => E fr H

@[simp ↓] theorem outN_normal {E R : Fr → Hp → Prop} {fr : Fr} {H : Hp} : Ex.outN E R .normal fr H = E fr H := propext Iff.rfl
@[simp ↓] theorem outN_ret {E R : Fr → Hp → Prop} {fr : Fr} {H : Hp} : Ex.outN E R .ret fr H = R fr H := propext Iff.rfl

theorem Seq_out {P : Program} {n0 : Nat} {Q : Ex → Fr → Hp → Prop} {fr : Fr} {H : Hp} {a b : C} (E R : Fr → Hp → Prop) (h : AWp P n0 a (Ex.outN E R) fr H) (hret : ∀ fr H, R fr H → Q .ret fr H) (hout : ∀ fr H, E fr H → AWp P n0 b Q fr H) : AWp P n0 (.seq a b) Q fr H :=
  AWp.mono a (fun e fr H h => by
    cases e with
    | normal => exact hout fr H h
    | ret => exact hret fr H h
    | exit j => exact h.elim) fr H h

/-- what a call yields, memory as it was -/
def Is (v : A) (H : Hp) : A → Hp → Prop := fun r H' => r = v ∧ H' = H
/-- a return of it -/
def RetIs (rs : List Res) (n0 : Nat) (v : A) (H0 : Hp) (fr : Fr) (H : Hp) : Prop := RetK (Is v H0) .mk n0 (resA fr H rs) H

theorem LoopK_out {P : Program} {n0 : Nat} {Q : Ex → Fr → Hp → Prop} {fr : Fr} {H : Hp} {c : C} {t : Tag (Q, c)} (b : Nat) (E : Fr → Hp → Prop) (h : LoopK (Ex.outE b E Q) c .mk P n0 fr H) (hout : ∀ fr H, E fr H → Q (.exit b) fr H) : LoopK Q c t P n0 fr H :=
  AWp.mono (.loop c) (fun e fr H h => by
    cases e with
    | normal => exact h
    | ret => exact h
    | exit j =>
      simp only [outE_exit] at h
      by_cases hj : j = b
      · rw [if_pos hj] at h; rw [hj]; exact hout fr H h
      · rw [if_neg hj] at h; exact h) fr H h

end Go.Zam
