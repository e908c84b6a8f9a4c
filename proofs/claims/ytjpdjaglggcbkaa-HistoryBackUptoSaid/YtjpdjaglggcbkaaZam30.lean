/-
  An abstract machine over the model, thirtieth part: edits of texts: what they are, and the plain laws of undoing them; the code of the functions on them. No condition.
-/
import Derived.Test.YtjpdjaglggcbkaaZam29
namespace Go.Zam
set_option linter.all false
set_option maxRecDepth 100000

def irSound (et : Nat) : IFn :=
 { nt := 53, res := [.t 4], body := (
  .seq (.ops [
    ⟨(some 4), none, .mv (.c (.int .i64 0))⟩] false)
  (.seq (.seq (.ops [
     ⟨(some 8), none, .mv (.t 0)⟩,
     ⟨(some 9), none, .lenL (.t 8)⟩,
     ⟨(some 10), none, .bin .gtr (.t 9) (.c (.int .i64 512))⟩] false)
   (.cond (.t 10) (.seq (.ops [
      ⟨(some 4), none, .mv (.c (.int .i64 5))⟩] false)
    (.ret))
   (.skip)))
  (.seq (.ops [
    ⟨(some 5), none, .mv (.c (.int .i64 (-1)))⟩] false)
  (.seq (.seq (.ops [
     ⟨(some 11), none, .mv (.t 0)⟩,
     ⟨(some 12), none, .lenL (.t 11)⟩,
     ⟨(some 13), none, .mv (.c (.int .i64 0))⟩] false)
   (.blk 0 (.loop (.seq (.ops [
       ⟨(some 14), none, .bin .lss (.t 13) (.t 12)⟩] false)
     (.seq (.cond (.t 14) (.skip)
      (.exit 0))
     (.seq (.blk 1 (.seq (.ops [
         ⟨(some 15), none, .iaddr 3 (.t 11) (.t 13)⟩,
         ⟨(some 16), none, .load 3 true (.t 15)⟩,
         ⟨(some 7), none, .alloc et [(.int .i64 0), (.int .i64 0), (.str [])]⟩,
         ⟨none, none, .store 3 (.t 7) (.t 16)⟩] false)
       (.seq (.blk 2 (.seq (.ops [
           ⟨(some 18), none, .faddr 0 (.t 7)⟩,
           ⟨(some 19), none, .load 1 false (.t 18)⟩,
           ⟨(some 20), none, .bin .lss (.t 19) (.c (.int .i64 0))⟩,
           ⟨(some 21), none, .mv (.t 20)⟩,
           ⟨(some 22), (some (21, false)), .faddr 0 (.t 7)⟩,
           ⟨(some 23), (some (21, false)), .load 1 false (.t 22)⟩,
           ⟨(some 24), (some (21, false)), .faddr 1 (.t 7)⟩,
           ⟨(some 25), (some (21, false)), .load 1 false (.t 24)⟩,
           ⟨(some 26), (some (21, false)), .bin .gtr (.t 23) (.t 25)⟩,
           ⟨(some 27), none, .pick (.t 21) (.c (.bool true)) (.t 26)⟩,
           ⟨(some 28), none, .mv (.t 27)⟩,
           ⟨(some 29), (some (28, false)), .faddr 1 (.t 7)⟩,
           ⟨(some 30), (some (28, false)), .load 1 false (.t 29)⟩,
           ⟨(some 31), (some (28, false)), .mv (.t 1)⟩,
           ⟨(some 32), (some (28, false)), .bin .gtr (.t 30) (.t 31)⟩,
           ⟨(some 33), none, .pick (.t 28) (.c (.bool true)) (.t 32)⟩,
           ⟨(some 17), none, .mv (.t 33)⟩] false)
         (.cond (.t 17) (.seq (.ops [
            ⟨(some 4), none, .mv (.c (.int .i64 6))⟩] false)
          (.ret))
         (.seq (.ops [
            ⟨(some 35), none, .faddr 0 (.t 7)⟩,
            ⟨(some 36), none, .load 1 false (.t 35)⟩,
            ⟨(some 37), none, .faddr 1 (.t 7)⟩,
            ⟨(some 38), none, .load 1 false (.t 37)⟩,
            ⟨(some 39), none, .bin .eql (.t 36) (.t 38)⟩,
            ⟨(some 40), none, .mv (.t 39)⟩,
            ⟨(some 41), (some (40, true)), .faddr 2 (.t 7)⟩,
            ⟨(some 42), (some (40, true)), .load 1 false (.t 41)⟩,
            ⟨(some 43), (some (40, true)), .bin .eql (.t 42) (.c (.str []))⟩,
            ⟨(some 44), none, .pick (.t 40) (.t 43) (.c (.bool false))⟩,
            ⟨(some 34), none, .mv (.t 44)⟩] false)
          (.cond (.t 34) (.seq (.ops [
             ⟨(some 4), none, .mv (.c (.int .i64 1))⟩] false)
           (.ret))
          (.seq (.ops [
             ⟨(some 46), none, .faddr 0 (.t 7)⟩,
             ⟨(some 47), none, .load 1 false (.t 46)⟩,
             ⟨(some 48), none, .mv (.t 5)⟩,
             ⟨(some 49), none, .bin .leq (.t 47) (.t 48)⟩,
             ⟨(some 45), none, .mv (.t 49)⟩] false)
           (.cond (.t 45) (.seq (.ops [
              ⟨(some 4), none, .mv (.c (.int .i64 7))⟩] false)
            (.ret))
           (.skip))))))))
       (.ops [
        ⟨(some 50), none, .faddr 1 (.t 7)⟩,
        ⟨(some 51), none, .load 1 false (.t 50)⟩,
        ⟨(some 5), none, .mv (.t 51)⟩] false))))
     (.ops [
      ⟨(some 52), none, .bin .add (.t 13) (.c (.int .i64 1))⟩,
      ⟨(some 13), none, .mv (.t 52)⟩] false)))))))
  (.seq (.ops [
    ⟨(some 4), none, .mv (.c (.int .i64 0))⟩] false)
  (.ret)))))) }

def irWrite (cc : Nat) : IFn :=
 { nt := 19, res := [.t 4, .t 5], body := (
  .seq (.ops [
    ⟨(some 4), none, .mv (.c (.int .i64 0))⟩,
    ⟨(some 5), none, .mv (.c .nili)⟩] false)
  (.seq (.ops [
    ⟨(some 6), none, .mv (.t 0)⟩,
    ⟨(some 7), none, .call cc [(.t 6)]⟩] false)
  (.seq (.ops [
    ⟨(some 8), none, .mv (.t 0)⟩,
    ⟨(some 9), none, .mv (.t 0)⟩,
    ⟨(some 10), none, .nilCheck (.t 9)⟩,
    ⟨(some 11), none, .faddr 1 (.t 10)⟩,
    ⟨(some 12), none, .load 1 false (.t 11)⟩,
    ⟨(some 13), none, .mv (.t 1)⟩,
    ⟨(some 14), none, .appS 5 (.t 12) (.t 13)⟩,
    ⟨(some 15), none, .nilCheck (.t 8)⟩,
    ⟨(some 16), none, .faddr 1 (.t 15)⟩,
    ⟨none, none, .store 1 (.t 16) (.t 14)⟩] false)
  (.seq (.ops [
    ⟨(some 17), none, .mv (.t 1)⟩,
    ⟨(some 18), none, .lenS (.t 17)⟩,
    ⟨(some 4), none, .mv (.t 18)⟩,
    ⟨(some 5), none, .mv (.c .nili)⟩] false)
  (.ret))))) }

def irApply (et bt snd wr str : Nat) : IFn :=
 { nt := 41, res := [.t 4, .t 5], body := (
  .seq (.ops [
    ⟨(some 4), none, .mv (.c (.str []))⟩,
    ⟨(some 5), none, .mv (.c (.int .i64 0))⟩] false)
  (.seq (.seq (.ops [
     ⟨(some 11), none, .mv (.t 1)⟩,
     ⟨(some 12), none, .mv (.t 0)⟩,
     ⟨(some 13), none, .lenS (.t 12)⟩,
     ⟨(some 14), none, .call snd [(.t 11), (.t 13)]⟩,
     ⟨(some 6), none, .mv (.t 14)⟩] false)
   (.seq (.ops [
     ⟨(some 15), none, .mv (.t 6)⟩,
     ⟨(some 16), none, .bin .neq (.t 15) (.c (.int .i64 0))⟩] false)
   (.cond (.t 16) (.seq (.ops [
      ⟨(some 17), none, .mv (.t 6)⟩,
      ⟨(some 4), none, .mv (.c (.str []))⟩,
      ⟨(some 5), none, .mv (.t 17)⟩] false)
    (.ret))
   (.skip))))
  (.seq (.ops [
    ⟨(some 7), none, .allocT bt [.nilp, (.sl true 1 [])] 1 1 5⟩] false)
  (.seq (.ops [
    ⟨(some 8), none, .mv (.c (.int .i64 0))⟩] false)
  (.seq (.seq (.ops [
     ⟨(some 18), none, .mv (.t 1)⟩,
     ⟨(some 19), none, .lenL (.t 18)⟩,
     ⟨(some 20), none, .mv (.c (.int .i64 0))⟩] false)
   (.blk 0 (.loop (.seq (.ops [
       ⟨(some 21), none, .bin .lss (.t 20) (.t 19)⟩] false)
     (.seq (.cond (.t 21) (.skip)
      (.exit 0))
     (.seq (.blk 1 (.seq (.ops [
         ⟨(some 22), none, .iaddr 3 (.t 18) (.t 20)⟩,
         ⟨(some 23), none, .load 3 true (.t 22)⟩,
         ⟨(some 10), none, .alloc et [(.int .i64 0), (.int .i64 0), (.str [])]⟩,
         ⟨none, none, .store 3 (.t 10) (.t 23)⟩] false)
       (.seq (.ops [
         ⟨(some 24), none, .mv (.t 0)⟩,
         ⟨(some 25), none, .mv (.t 8)⟩,
         ⟨(some 26), none, .faddr 0 (.t 10)⟩,
         ⟨(some 27), none, .load 1 false (.t 26)⟩,
         ⟨(some 28), none, .sslice (.t 24) (some (.t 25)) (some (.t 27))⟩,
         ⟨(some 29), none, .call wr [(.t 7), (.t 28)]⟩] false)
       (.seq (.ops [
         ⟨(some 30), none, .faddr 2 (.t 10)⟩,
         ⟨(some 31), none, .load 1 false (.t 30)⟩,
         ⟨(some 32), none, .call wr [(.t 7), (.t 31)]⟩] false)
       (.ops [
        ⟨(some 33), none, .faddr 1 (.t 10)⟩,
        ⟨(some 34), none, .load 1 false (.t 33)⟩,
        ⟨(some 8), none, .mv (.t 34)⟩] false)))))
     (.ops [
      ⟨(some 35), none, .bin .add (.t 20) (.c (.int .i64 1))⟩,
      ⟨(some 20), none, .mv (.t 35)⟩] false)))))))
  (.seq (.ops [
    ⟨(some 36), none, .mv (.t 0)⟩,
    ⟨(some 37), none, .mv (.t 8)⟩,
    ⟨(some 38), none, .sslice (.t 36) (some (.t 37)) none⟩,
    ⟨(some 39), none, .call wr [(.t 7), (.t 38)]⟩] false)
  (.seq (.ops [
    ⟨(some 40), none, .call str [(.t 7)]⟩,
    ⟨(some 4), none, .mv (.t 40)⟩,
    ⟨(some 5), none, .mv (.c (.int .i64 0))⟩] false)
  (.ret)))))))) }

def irInvert (et snd : Nat) : IFn :=
 { nt := 58, res := [.t 4, .t 5], body := (
  .seq (.ops [
    ⟨(some 4), none, .mv (.c (.sl true 3 []))⟩,
    ⟨(some 5), none, .mv (.c (.int .i64 0))⟩] false)
  (.seq (.seq (.ops [
     ⟨(some 12), none, .mv (.t 1)⟩,
     ⟨(some 13), none, .mv (.t 0)⟩,
     ⟨(some 14), none, .lenS (.t 13)⟩,
     ⟨(some 15), none, .call snd [(.t 12), (.t 14)]⟩,
     ⟨(some 6), none, .mv (.t 15)⟩] false)
   (.seq (.ops [
     ⟨(some 16), none, .mv (.t 6)⟩,
     ⟨(some 17), none, .bin .neq (.t 16) (.c (.int .i64 0))⟩] false)
   (.cond (.t 17) (.seq (.ops [
      ⟨(some 18), none, .mv (.t 6)⟩,
      ⟨(some 4), none, .mv (.c (.sl true 3 []))⟩,
      ⟨(some 5), none, .mv (.t 18)⟩] false)
    (.ret))
   (.skip))))
  (.seq (.ops [
    ⟨(some 7), none, .nilT 3 et⟩] false)
  (.seq (.ops [
    ⟨(some 8), none, .mv (.c (.int .i64 0))⟩] false)
  (.seq (.seq (.ops [
     ⟨(some 19), none, .mv (.t 1)⟩,
     ⟨(some 20), none, .lenL (.t 19)⟩,
     ⟨(some 21), none, .mv (.c (.int .i64 0))⟩] false)
   (.blk 0 (.loop (.seq (.ops [
       ⟨(some 22), none, .bin .lss (.t 21) (.t 20)⟩] false)
     (.seq (.cond (.t 22) (.skip)
      (.exit 0))
     (.seq (.blk 1 (.seq (.ops [
         ⟨(some 23), none, .iaddr 3 (.t 19) (.t 21)⟩,
         ⟨(some 24), none, .load 3 true (.t 23)⟩,
         ⟨(some 10), none, .alloc et [(.int .i64 0), (.int .i64 0), (.str [])]⟩,
         ⟨none, none, .store 3 (.t 10) (.t 24)⟩] false)
       (.seq (.ops [
         ⟨(some 25), none, .faddr 0 (.t 10)⟩,
         ⟨(some 26), none, .load 1 false (.t 25)⟩,
         ⟨(some 27), none, .mv (.t 8)⟩,
         ⟨(some 28), none, .bin .add (.t 26) (.t 27)⟩,
         ⟨(some 11), none, .mv (.t 28)⟩] false)
       (.seq (.ops [
         ⟨(some 29), none, .mv (.t 7)⟩,
         ⟨(some 30), none, .mv (.t 11)⟩,
         ⟨(some 31), none, .mv (.t 11)⟩,
         ⟨(some 32), none, .faddr 2 (.t 10)⟩,
         ⟨(some 33), none, .load 1 false (.t 32)⟩,
         ⟨(some 34), none, .lenS (.t 33)⟩,
         ⟨(some 35), none, .bin .add (.t 31) (.t 34)⟩,
         ⟨(some 36), none, .mv (.t 0)⟩,
         ⟨(some 37), none, .faddr 0 (.t 10)⟩,
         ⟨(some 38), none, .load 1 false (.t 37)⟩,
         ⟨(some 39), none, .faddr 1 (.t 10)⟩,
         ⟨(some 40), none, .load 1 false (.t 39)⟩,
         ⟨(some 41), none, .sslice (.t 36) (some (.t 38)) (some (.t 40))⟩,
         ⟨(some 42), none, .build [(.int .i64 0), (.int .i64 0), (.str [])] [(0, 1, (.t 30)), (1, 1, (.t 35)), (2, 1, (.t 41))]⟩,
         ⟨(some 43), none, .bslice 3 [(.t 42)]⟩,
         ⟨(some 44), none, .app 3 32 et (.t 29) (.t 43)⟩,
         ⟨(some 7), none, .mv (.t 44)⟩] true)
       (.ops [
        ⟨(some 45), none, .mv (.t 8)⟩,
        ⟨(some 46), none, .faddr 2 (.t 10)⟩,
        ⟨(some 47), none, .load 1 false (.t 46)⟩,
        ⟨(some 48), none, .lenS (.t 47)⟩,
        ⟨(some 49), none, .faddr 1 (.t 10)⟩,
        ⟨(some 50), none, .load 1 false (.t 49)⟩,
        ⟨(some 51), none, .faddr 0 (.t 10)⟩,
        ⟨(some 52), none, .load 1 false (.t 51)⟩,
        ⟨(some 53), none, .bin .sub (.t 50) (.t 52)⟩,
        ⟨(some 54), none, .bin .sub (.t 48) (.t 53)⟩,
        ⟨(some 55), none, .bin .add (.t 45) (.t 54)⟩,
        ⟨(some 8), none, .mv (.t 55)⟩] false)))))
     (.ops [
      ⟨(some 56), none, .bin .add (.t 21) (.c (.int .i64 1))⟩,
      ⟨(some 21), none, .mv (.t 56)⟩] false)))))))
  (.seq (.ops [
    ⟨(some 57), none, .mv (.t 7)⟩,
    ⟨(some 4), none, .mv (.t 57)⟩,
    ⟨(some 5), none, .mv (.c (.int .i64 0))⟩] false)
  (.ret))))))) }

def irGrows (et : Nat) : IFn :=
 { nt := 25, res := [.t 2], body := (
  .seq (.ops [
    ⟨(some 2), none, .mv (.c (.int .i64 0))⟩] false)
  (.seq (.ops [
    ⟨(some 3), none, .mv (.c (.int .i64 0))⟩] false)
  (.seq (.seq (.ops [
     ⟨(some 6), none, .mv (.t 0)⟩,
     ⟨(some 7), none, .lenL (.t 6)⟩,
     ⟨(some 8), none, .mv (.c (.int .i64 0))⟩] false)
   (.blk 0 (.loop (.seq (.ops [
       ⟨(some 9), none, .bin .lss (.t 8) (.t 7)⟩] false)
     (.seq (.cond (.t 9) (.skip)
      (.exit 0))
     (.seq (.blk 1 (.seq (.ops [
         ⟨(some 10), none, .iaddr 3 (.t 6) (.t 8)⟩,
         ⟨(some 11), none, .load 3 true (.t 10)⟩,
         ⟨(some 5), none, .alloc et [(.int .i64 0), (.int .i64 0), (.str [])]⟩,
         ⟨none, none, .store 3 (.t 5) (.t 11)⟩] false)
       (.ops [
        ⟨(some 12), none, .mv (.t 3)⟩,
        ⟨(some 13), none, .faddr 2 (.t 5)⟩,
        ⟨(some 14), none, .load 1 false (.t 13)⟩,
        ⟨(some 15), none, .lenS (.t 14)⟩,
        ⟨(some 16), none, .faddr 1 (.t 5)⟩,
        ⟨(some 17), none, .load 1 false (.t 16)⟩,
        ⟨(some 18), none, .faddr 0 (.t 5)⟩,
        ⟨(some 19), none, .load 1 false (.t 18)⟩,
        ⟨(some 20), none, .bin .sub (.t 17) (.t 19)⟩,
        ⟨(some 21), none, .bin .sub (.t 15) (.t 20)⟩,
        ⟨(some 22), none, .bin .add (.t 12) (.t 21)⟩,
        ⟨(some 3), none, .mv (.t 22)⟩] false)))
     (.ops [
      ⟨(some 23), none, .bin .add (.t 8) (.c (.int .i64 1))⟩,
      ⟨(some 8), none, .mv (.t 23)⟩] false)))))))
  (.seq (.ops [
    ⟨(some 24), none, .mv (.t 3)⟩,
    ⟨(some 2), none, .mv (.t 24)⟩] false)
  (.ret))))) }

structure Ed where
  f : Int
  t : Int
  s : List UInt8

def encE (e : Ed) : List D := [.int .i64 e.f, .int .i64 e.t, .str e.s]

def soundFrom (n : Int) : Int → List Ed → Int
  | _, [] => 0
  | last, e :: r => if e.f < 0 ∨ e.t < e.f ∨ n < e.t then 6 else if e.f = e.t ∧ e.s = [] then 1 else if e.f ≤ last then 7 else soundFrom n e.t r

def sound (l : List Ed) (n : Int) : Int := if 512 < l.length then 5 else soundFrom n (-1) l

def total : List Ed → Nat
  | [] => 0
  | e :: r => e.s.length + total r


theorem appA_osl {H : Hp} {t sz b e : Nat} {z : Bool} {rows new : List (List D)} (ht : H[t]? = some (.tok rows.length sz e)) (hf : (rows.length + new.length) * b ≤ 140737488355328) :
    appA H sz b e new (.osl z sz rows t) = some (.osl z sz (rows ++ new) t, H.set t (.tok (rows.length + new.length) sz e)) := by
  simp [appA, ht, hf]

@[simp] theorem byteRows_length (s : List UInt8) : (byteRows s).length = s.length := by simp [byteRows]
theorem byteRows_append (a b : List UInt8) : byteRows (a ++ b) = byteRows a ++ byteRows b := by simp [byteRows]


def applied (s : List UInt8) : Int → List Ed → List UInt8
  | k, [] => s.drop k.toNat
  | k, e :: r => (s.drop k.toNat).take (e.f.toNat - k.toNat) ++ (e.s ++ applied s e.t r)

def applyS (s : List UInt8) (l : List Ed) : List UInt8 := if sound l s.length = 0 then applied s 0 l else []

theorem soundFrom_cons {n last : Int} {e : Ed} {r : List Ed} (h : soundFrom n last (e :: r) = 0) : 0 ≤ e.f ∧ e.f ≤ e.t ∧ e.t ≤ n ∧ last < e.f ∧ soundFrom n e.t r = 0 := by
  rw [soundFrom] at h
  split at h
  · cases h
  · split at h
    · cases h
    · split at h
      · cases h
      · refine ⟨by omega, by omega, by omega, by omega, h⟩

theorem sound_zero {l : List Ed} {n : Int} (h : sound l n = 0) : l.length ≤ 512 ∧ soundFrom n (-1) l = 0 := by
  unfold sound at h
  split at h
  · cases h
  · exact ⟨by omega, h⟩

theorem subL_ok {α : Type} {s : List α} {a b : Int} (h : 0 ≤ a ∧ a ≤ b ∧ b ≤ s.length) : subL s a b = some ((s.drop a.toNat).take (b.toNat - a.toNat)) := by
  simp [subL, h]


def inv (s : List UInt8) : Int → List Ed → List Ed
  | _, [] => []
  | d, e :: r => ⟨e.f + d, e.f + d + e.s.length, (s.drop e.f.toNat).take (e.t.toNat - e.f.toNat)⟩ :: inv s (d + (e.s.length - (e.t - e.f))) r

def grows : List Ed → Int
  | [] => 0
  | e :: r => (e.s.length - (e.t - e.f)) + grows r

theorem inv_length (s : List UInt8) : ∀ (d : Int) (l : List Ed), (inv s d l).length = l.length
  | _, [] => rfl
  | d, e :: r => by simp [inv, inv_length s _ r]

theorem soundFrom_cons2 {n last : Int} {e : Ed} {r : List Ed} (h : soundFrom n last (e :: r) = 0) : ¬ (e.f = e.t ∧ e.s = []) := by
  rw [soundFrom] at h
  split at h
  · cases h
  · split at h
    · cases h
    · assumption

theorem applied_len (s : List UInt8) : ∀ (l : List Ed) (p last : Int), soundFrom s.length last l = 0 → 0 ≤ p → p ≤ last + 1 → p ≤ s.length → ((applied s p l).length : Int) = s.length - p + grows l
  | [], p, last, _, h0, _, h1 => by simp [applied, grows]; omega
  | e :: r, p, last, h, h0, hp, h1 => by
    obtain ⟨e1, e2, e3, e4, e5⟩ := soundFrom_cons h
    have := applied_len s r e.t e.t e5 (by omega) (by omega) e3
    simp only [applied, grows, List.length_append, List.length_take, List.length_drop, Int.natCast_add, this]
    omega

theorem inv_sound (s : List UInt8) (N : Int) : ∀ (l : List Ed) (d p last : Int), soundFrom s.length last l = 0 → 0 ≤ p → p ≤ last + 1 → p ≤ s.length → 0 ≤ p + d → N = s.length + d + grows l → soundFrom N (last + d) (inv s d l) = 0
  | [], _, _, _, _, _, _, _, _, _ => rfl
  | e :: r, d, p, last, h, h0, hp, h1, hd, hN => by
    obtain ⟨e1, e2, e3, e4, e5⟩ := soundFrom_cons h
    have hne := soundFrom_cons2 h
    have hl := applied_len s r e.t e.t e5 (by omega) (by omega) e3
    simp only [grows] at hN
    have := inv_sound s N r (d + (e.s.length - (e.t - e.f))) e.t e.t e5 (by omega) (by omega) e3 (by omega) (by omega)
    rw [inv, soundFrom, if_neg (by simp only; omega), if_neg, if_neg (by simp only; omega)]
    · have h2 : e.f + d + e.s.length = e.t + (d + (e.s.length - (e.t - e.f))) := by omega
      simp only [h2]; exact this
    · rintro ⟨a, b⟩
      simp only at a b
      apply hne
      have h3 := congrArg List.length b
      simp only [List.length_take, List.length_drop, List.length_nil] at h3
      exact ⟨by omega, List.eq_nil_of_length_eq_zero (by omega)⟩

theorem inv_applied (s X : List UInt8) : ∀ (l : List Ed) (d p last : Int), soundFrom s.length last l = 0 → 0 ≤ p → p ≤ last + 1 → p ≤ s.length → 0 ≤ p + d → X.drop (p + d).toNat = applied s p l → applied X (p + d) (inv s d l) = s.drop p.toNat
  | [], d, p, _, _, _, _, _, _, hX => by simp [inv, applied, hX]
  | e :: r, d, p, last, h, h0, hp, h1, hd, hX => by
    obtain ⟨e1, e2, e3, e4, e5⟩ := soundFrom_cons h
    have h2 : e.f + d + e.s.length = e.t + (d + (e.s.length - (e.t - e.f))) := by omega
    have hA : ((s.drop p.toNat).take (e.f.toNat - p.toNat)).length = e.f.toNat - p.toNat := by simp; omega
    have hX' : X.drop (e.t + (d + (e.s.length - (e.t - e.f)))).toNat = applied s e.t r := by
      have : (e.t + (d + ((e.s.length : Int) - (e.t - e.f)))).toNat = (p + d).toNat + ((e.f.toNat - p.toNat) + e.s.length) := by omega
      rw [this, ← List.drop_drop, hX, applied, ← List.append_assoc]
      apply List.drop_left'
      rw [List.length_append, hA]
    have := inv_applied s X r (d + (e.s.length - (e.t - e.f))) e.t e.t e5 (by omega) (by omega) e3 (by omega) hX'
    rw [inv, applied]
    simp only [h2, this]
    have h4 : (e.f + d).toNat - (p + d).toNat = e.f.toNat - p.toNat := by omega
    rw [hX, h4, applied, List.take_left' hA]
    have h5 : (s.drop p.toNat).drop (e.f.toNat - p.toNat) = s.drop e.f.toNat := by rw [List.drop_drop]; congr 1; omega
    have h6 : (s.drop e.f.toNat).drop (e.t.toNat - e.f.toNat) = s.drop e.t.toNat := by rw [List.drop_drop]; congr 1; omega
    rw [← List.take_append_drop (e.f.toNat - p.toNat) (s.drop p.toNat), h5, ← h6, List.take_append_drop]
    congr 1
    rw [List.take_left' hA]

theorem inv_law {s : List UInt8} {l : List Ed} (h : sound l s.length = 0) :
    sound (inv s 0 l) (applied s 0 l).length = 0 ∧ applied (applied s 0 l) 0 (inv s 0 l) = s ∧ ((applied s 0 l).length : Int) = s.length + grows l := by
  obtain ⟨hl, h0⟩ := sound_zero h
  have hlen := applied_len s l 0 (-1) h0 (by omega) (by omega) (by omega)
  refine ⟨?_, ?_, by omega⟩
  · rw [sound, inv_length, if_neg (by omega)]
    have := inv_sound s (applied s 0 l).length l 0 0 (-1) h0 (by omega) (by omega) (by omega) (by omega) (by omega)
    simpa using this
  · have := inv_applied s (applied s 0 l) l 0 0 (-1) h0 (by omega) (by omega) (by omega) (by omega) (by simp)
    simpa using this


def invS (s : List UInt8) (l : List Ed) : List Ed := if sound l s.length = 0 then inv s 0 l else []


end Go.Zam
