/-
  Texts of one proof, one behind the other: An abstract machine over the model, two hundred and sixth part: the document's answer of chapter 02 (Sound, Apply), over any program. No condition but bounds. An abstract machine over the model, forty-sixth part: the scanner goes through what means nothing, and through signs, over any program that has these functions. The lengths are bounded. An abstract machine over the model, forty-seventh part: keys, names, signs, strings of the language, over any program that has these functions. The lengths are bounded. An abstract machine over the model, forty-eighth part: what a string of the language stands for, over any program that has the function. The lengths are bounded. An abstract machine over the model, forty-ninth part: one token of a text, over any program that has the functions. The lengths are bounded. An abstract machine over the model, fiftieth part: the next token of a text, over any program that has the functions. The lengths are bounded. An abstract machine over the model, fifty-first part: a text that is UTF-8, and its tokens, over any program that has the functions. The lengths are bounded. An abstract machine over the model, fifty-second part: tokens joined, tokens compared, over any program that has the functions. The lengths are bounded. An abstract machine over the model, sixty-third part: trees of the language, and how they stand in tokens, in plain Lean. No program in sight. No condition. An abstract machine over the model, sixty-fourth part: the form of the functions of the layer of trees, over any program that has them. (Printed by gen.py.) An abstract machine over the model, sixty-fifth part: the small functions of the layer of trees, over any program that has them. The lengths are bounded. An abstract machine over the model, hundred and ninetieth part: a row that was appended to, and stands in a variable, handed to a function that writes its cells; given back as a plain slice. No program in sight. No condition. An abstract machine over the model, hundred and ninety-eighth part: a row that was appended to, handed to a function that writes its cells, and used on; given back as a plain slice. No program in sight. No condition. An abstract machine over the model, two hundred and seventh part: the document's answer of chapter 17 (Find, Sort), over any program. No condition but bounds. An abstract machine over the model, two hundred and eighth part: the document's answer of chapter 17 (Sort), over any program. No condition but bounds. An abstract machine over the model, two hundred and ninth part: the document's answer of chapter 17 (Apply), over any program. No condition but bounds. strings.Builder's copyCheck and String on the abstract machine, at this program. No condition.  The library's functions and the edits' that the statements on histories reach, as code of the abstract machine, and that they are that code.  Modules and changes at this program: sorting, finding, changing, the program's and the document's. The lengths are bounded. history.twin on the abstract machine: changes in new memory. The lengths are bounded.
-/
import Derived.Test.YtjpdjaglggcbkaaM4
import Derived.Lib.Bytealg
import Derived.Lib.ParseIntB
import Derived.Lib.DecodeN
import Derived.Test.YtjpdjaglggcbkaaM3
import Derived.Test.YtjpdjaglggcbkaaProg
import Derived.KernelRfl
namespace Go.Zam
open Go.Proofs
set_option maxRecDepth 100000
set_option linter.all false
set_option maxHeartbeats 1000000

def irR2Sound (et : Nat) : IFn :=
 { nt := 60, res := [.t 4], body := (
  .seq (.ops [
    ⟨(some 4), none, .mv (.c (.int .i64 0))⟩] false)
  (.seq (.seq (.ops [
     ⟨(some 7), none, .mv (.t 0)⟩,
     ⟨(some 8), none, .lenL (.t 7)⟩,
     ⟨(some 9), none, .bin .gtr (.t 8) (.c (.int .i64 512))⟩] false)
   (.cond (.t 9) (.seq (.ops [
      ⟨(some 4), none, .mv (.c (.int .i64 5))⟩] false)
    (.ret))
   (.skip)))
  (.seq (.seq (.ops [
     ⟨(some 5), none, .mv (.c (.int .i64 0))⟩] false)
   (.blk 0 (.loop (.seq (.seq (.ops [
        ⟨(some 10), none, .mv (.t 5)⟩,
        ⟨(some 11), none, .mv (.t 0)⟩,
        ⟨(some 12), none, .lenL (.t 11)⟩,
        ⟨(some 13), none, .bin .lss (.t 10) (.t 12)⟩] false)
      (.cond (.t 13) (.skip)
      (.exit 0)))
     (.seq (.blk 1 (.seq (.ops [
         ⟨(some 16), none, .mv (.t 0)⟩,
         ⟨(some 17), none, .mv (.t 5)⟩,
         ⟨(some 18), none, .iaddr 3 (.t 16) (.t 17)⟩,
         ⟨(some 19), none, .load 3 true (.t 18)⟩,
         ⟨(some 6), none, .alloc et [(.int .i64 0), (.int .i64 0), (.str [])]⟩,
         ⟨none, none, .store 3 (.t 6) (.t 19)⟩] false)
       (.seq (.seq (.ops [
          ⟨(some 20), none, .faddr 0 (.t 6)⟩,
          ⟨(some 21), none, .load 1 false (.t 20)⟩,
          ⟨(some 22), none, .bin .lss (.t 21) (.c (.int .i64 0))⟩,
          ⟨(some 23), none, .mv (.t 22)⟩,
          ⟨(some 24), (some (23, false)), .faddr 1 (.t 6)⟩,
          ⟨(some 25), (some (23, false)), .load 1 false (.t 24)⟩,
          ⟨(some 26), (some (23, false)), .faddr 0 (.t 6)⟩,
          ⟨(some 27), (some (23, false)), .load 1 false (.t 26)⟩,
          ⟨(some 28), (some (23, false)), .bin .lss (.t 25) (.t 27)⟩,
          ⟨(some 29), none, .pick (.t 23) (.c (.bool true)) (.t 28)⟩,
          ⟨(some 30), none, .mv (.t 29)⟩,
          ⟨(some 31), (some (30, false)), .faddr 1 (.t 6)⟩,
          ⟨(some 32), (some (30, false)), .load 1 false (.t 31)⟩,
          ⟨(some 33), (some (30, false)), .mv (.t 1)⟩,
          ⟨(some 34), (some (30, false)), .bin .gtr (.t 32) (.t 33)⟩,
          ⟨(some 35), none, .pick (.t 30) (.c (.bool true)) (.t 34)⟩] false)
        (.cond (.t 35) (.seq (.ops [
           ⟨(some 4), none, .mv (.c (.int .i64 6))⟩] false)
         (.ret))
        (.skip)))
       (.seq (.seq (.ops [
          ⟨(some 36), none, .faddr 0 (.t 6)⟩,
          ⟨(some 37), none, .load 1 false (.t 36)⟩,
          ⟨(some 38), none, .faddr 1 (.t 6)⟩,
          ⟨(some 39), none, .load 1 false (.t 38)⟩,
          ⟨(some 40), none, .bin .eql (.t 37) (.t 39)⟩,
          ⟨(some 41), none, .mv (.t 40)⟩,
          ⟨(some 42), (some (41, true)), .faddr 2 (.t 6)⟩,
          ⟨(some 43), (some (41, true)), .load 1 false (.t 42)⟩,
          ⟨(some 44), (some (41, true)), .lenS (.t 43)⟩,
          ⟨(some 45), (some (41, true)), .bin .eql (.t 44) (.c (.int .i64 0))⟩,
          ⟨(some 46), none, .pick (.t 41) (.t 45) (.c (.bool false))⟩] false)
        (.cond (.t 46) (.seq (.ops [
           ⟨(some 4), none, .mv (.c (.int .i64 1))⟩] false)
         (.ret))
        (.skip)))
       (.seq (.ops [
         ⟨(some 47), none, .mv (.t 5)⟩,
         ⟨(some 48), none, .bin .gtr (.t 47) (.c (.int .i64 0))⟩,
         ⟨(some 49), none, .mv (.t 48)⟩,
         ⟨(some 50), (some (49, true)), .mv (.t 0)⟩,
         ⟨(some 51), (some (49, true)), .mv (.t 5)⟩,
         ⟨(some 52), (some (49, true)), .bin .sub (.t 51) (.c (.int .i64 1))⟩,
         ⟨(some 53), (some (49, true)), .iaddr 3 (.t 50) (.t 52)⟩,
         ⟨(some 54), (some (49, true)), .faddr 1 (.t 53)⟩,
         ⟨(some 55), (some (49, true)), .load 1 false (.t 54)⟩,
         ⟨(some 56), (some (49, true)), .faddr 0 (.t 6)⟩,
         ⟨(some 57), (some (49, true)), .load 1 false (.t 56)⟩,
         ⟨(some 58), (some (49, true)), .bin .geq (.t 55) (.t 57)⟩,
         ⟨(some 59), none, .pick (.t 49) (.t 58) (.c (.bool false))⟩] true)
       (.cond (.t 59) (.seq (.ops [
          ⟨(some 4), none, .mv (.c (.int .i64 7))⟩] false)
        (.ret))
       (.skip)))))))
     (.ops [
      ⟨(some 14), none, .mv (.t 5)⟩,
      ⟨(some 15), none, .bin .add (.t 14) (.c (.int .i64 1))⟩,
      ⟨(some 5), none, .mv (.t 15)⟩] false))))))
  (.seq (.ops [
    ⟨(some 4), none, .mv (.c (.int .i64 0))⟩] false)
  (.ret))))) }
def irR2Apply (snd : Nat) : IFn :=
 { nt := 97, res := [.t 4, .t 5], body := (
  .seq (.ops [
    ⟨(some 4), none, .mv (.c (.str []))⟩,
    ⟨(some 5), none, .mv (.c (.int .i64 0))⟩] false)
  (.seq (.ops [
    ⟨(some 11), none, .mv (.t 1)⟩,
    ⟨(some 12), none, .mv (.t 0)⟩,
    ⟨(some 13), none, .lenS (.t 12)⟩,
    ⟨(some 14), none, .call snd [(.t 11), (.t 13)]⟩,
    ⟨(some 6), none, .mv (.t 14)⟩] false)
  (.seq (.seq (.ops [
     ⟨(some 15), none, .mv (.t 6)⟩,
     ⟨(some 16), none, .bin .neq (.t 15) (.c (.int .i64 0))⟩] false)
   (.cond (.t 16) (.seq (.ops [
      ⟨(some 17), none, .mv (.t 6)⟩,
      ⟨(some 4), none, .mv (.c (.str []))⟩,
      ⟨(some 5), none, .mv (.t 17)⟩] false)
    (.ret))
   (.skip)))
  (.seq (.ops [
    ⟨(some 7), none, .mv (.c (.str []))⟩] false)
  (.seq (.ops [
    ⟨(some 8), none, .mv (.c (.int .i64 0))⟩] false)
  (.seq (.seq (.ops [
     ⟨(some 9), none, .mv (.c (.int .i64 0))⟩] false)
   (.blk 0 (.loop (.seq (.seq (.ops [
        ⟨(some 18), none, .mv (.t 9)⟩,
        ⟨(some 19), none, .mv (.t 0)⟩,
        ⟨(some 20), none, .lenS (.t 19)⟩,
        ⟨(some 21), none, .bin .leq (.t 18) (.t 20)⟩] false)
      (.cond (.t 21) (.skip)
      (.exit 0)))
     (.seq (.blk 1 (.seq (.seq (.ops [
          ⟨(some 24), none, .mv (.t 8)⟩,
          ⟨(some 25), none, .mv (.t 1)⟩,
          ⟨(some 26), none, .lenL (.t 25)⟩,
          ⟨(some 27), none, .bin .lss (.t 24) (.t 26)⟩,
          ⟨(some 28), none, .mv (.t 27)⟩,
          ⟨(some 29), (some (28, true)), .mv (.t 1)⟩,
          ⟨(some 30), (some (28, true)), .mv (.t 8)⟩,
          ⟨(some 31), (some (28, true)), .iaddr 3 (.t 29) (.t 30)⟩,
          ⟨(some 32), (some (28, true)), .faddr 0 (.t 31)⟩,
          ⟨(some 33), (some (28, true)), .load 1 false (.t 32)⟩,
          ⟨(some 34), (some (28, true)), .mv (.t 9)⟩,
          ⟨(some 35), (some (28, true)), .bin .eql (.t 33) (.t 34)⟩,
          ⟨(some 36), none, .pick (.t 28) (.t 35) (.c (.bool false))⟩] false)
        (.cond (.t 36) (.ops [
          ⟨(some 37), none, .mv (.t 7)⟩,
          ⟨(some 38), none, .mv (.t 1)⟩,
          ⟨(some 39), none, .mv (.t 8)⟩,
          ⟨(some 40), none, .iaddr 3 (.t 38) (.t 39)⟩,
          ⟨(some 41), none, .faddr 2 (.t 40)⟩,
          ⟨(some 42), none, .load 1 false (.t 41)⟩,
          ⟨(some 43), none, .bin .add (.t 37) (.t 42)⟩,
          ⟨(some 7), none, .mv (.t 43)⟩] false)
        (.skip)))
       (.seq (.seq (.ops [
          ⟨(some 44), none, .mv (.t 8)⟩,
          ⟨(some 45), none, .mv (.t 1)⟩,
          ⟨(some 46), none, .lenL (.t 45)⟩,
          ⟨(some 47), none, .bin .lss (.t 44) (.t 46)⟩,
          ⟨(some 48), none, .mv (.t 47)⟩,
          ⟨(some 49), (some (48, true)), .mv (.t 1)⟩,
          ⟨(some 50), (some (48, true)), .mv (.t 8)⟩,
          ⟨(some 51), (some (48, true)), .iaddr 3 (.t 49) (.t 50)⟩,
          ⟨(some 52), (some (48, true)), .faddr 1 (.t 51)⟩,
          ⟨(some 53), (some (48, true)), .load 1 false (.t 52)⟩,
          ⟨(some 54), (some (48, true)), .mv (.t 9)⟩,
          ⟨(some 55), (some (48, true)), .bin .eql (.t 53) (.t 54)⟩,
          ⟨(some 56), none, .pick (.t 48) (.t 55) (.c (.bool false))⟩] false)
        (.cond (.t 56) (.ops [
          ⟨(some 57), none, .mv (.t 8)⟩,
          ⟨(some 58), none, .bin .add (.t 57) (.c (.int .i64 1))⟩,
          ⟨(some 8), none, .mv (.t 58)⟩] false)
        (.skip)))
       (.seq (.ops [
         ⟨(some 59), none, .mv (.t 8)⟩,
         ⟨(some 60), none, .mv (.t 1)⟩,
         ⟨(some 61), none, .lenL (.t 60)⟩,
         ⟨(some 62), none, .bin .lss (.t 59) (.t 61)⟩,
         ⟨(some 63), none, .mv (.t 62)⟩,
         ⟨(some 64), (some (63, true)), .mv (.t 1)⟩,
         ⟨(some 65), (some (63, true)), .mv (.t 8)⟩,
         ⟨(some 66), (some (63, true)), .iaddr 3 (.t 64) (.t 65)⟩,
         ⟨(some 67), (some (63, true)), .faddr 0 (.t 66)⟩,
         ⟨(some 68), (some (63, true)), .load 1 false (.t 67)⟩,
         ⟨(some 69), (some (63, true)), .mv (.t 9)⟩,
         ⟨(some 70), (some (63, true)), .bin .leq (.t 68) (.t 69)⟩,
         ⟨(some 71), none, .pick (.t 63) (.t 70) (.c (.bool false))⟩,
         ⟨(some 72), none, .mv (.t 71)⟩,
         ⟨(some 73), (some (72, true)), .mv (.t 9)⟩,
         ⟨(some 74), (some (72, true)), .mv (.t 1)⟩,
         ⟨(some 75), (some (72, true)), .mv (.t 8)⟩,
         ⟨(some 76), (some (72, true)), .iaddr 3 (.t 74) (.t 75)⟩,
         ⟨(some 77), (some (72, true)), .faddr 1 (.t 76)⟩,
         ⟨(some 78), (some (72, true)), .load 1 false (.t 77)⟩,
         ⟨(some 79), (some (72, true)), .bin .lss (.t 73) (.t 78)⟩,
         ⟨(some 80), none, .pick (.t 72) (.t 79) (.c (.bool false))⟩,
         ⟨(some 10), none, .mv (.t 80)⟩] false)
       (.seq (.ops [
         ⟨(some 81), none, .mv (.t 9)⟩,
         ⟨(some 82), none, .mv (.t 0)⟩,
         ⟨(some 83), none, .lenS (.t 82)⟩,
         ⟨(some 84), none, .bin .lss (.t 81) (.t 83)⟩,
         ⟨(some 85), none, .mv (.t 84)⟩,
         ⟨(some 86), (some (85, true)), .mv (.t 10)⟩,
         ⟨(some 87), (some (85, true)), .un .not (.t 86)⟩,
         ⟨(some 88), none, .pick (.t 85) (.t 87) (.c (.bool false))⟩] false)
       (.cond (.t 88) (.ops [
         ⟨(some 89), none, .mv (.t 7)⟩,
         ⟨(some 90), none, .mv (.t 0)⟩,
         ⟨(some 91), none, .mv (.t 9)⟩,
         ⟨(some 92), none, .mv (.t 9)⟩,
         ⟨(some 93), none, .bin .add (.t 92) (.c (.int .i64 1))⟩,
         ⟨(some 94), none, .sslice (.t 90) (some (.t 91)) (some (.t 93))⟩,
         ⟨(some 95), none, .bin .add (.t 89) (.t 94)⟩,
         ⟨(some 7), none, .mv (.t 95)⟩] false)
       (.skip)))))))
     (.ops [
      ⟨(some 22), none, .mv (.t 9)⟩,
      ⟨(some 23), none, .bin .add (.t 22) (.c (.int .i64 1))⟩,
      ⟨(some 9), none, .mv (.t 23)⟩] false))))))
  (.seq (.ops [
    ⟨(some 96), none, .mv (.t 7)⟩,
    ⟨(some 4), none, .mv (.t 96)⟩,
    ⟨(some 5), none, .mv (.c (.int .i64 0))⟩] false)
  (.ret)))))))) }

namespace R2
section
variable {P : Program}

theorem refSoundOk {fs et : Nat} (hs_ : Has P fs (irR2Sound et)) (H : Hp) (z : Bool) (l : List Ed) (n : Int) : ACall P fs [.d (.sl z 3 (l.map encE)), .d (.int .i64 n)] H (fun r H' => r = .d (.int .i64 (sound l n)) ∧ H' = H) := by
  obtain ⟨fn, hf1, hf2⟩ := hs_
  refine acall_fin hf1 hf2 (by simp [irR2Sound]) fun hcl _ => ?_
  simp [irR2Sound]
  refine BrK_split (fun h => ?_) (fun h => ?_)
  · simp [RetK, cut_self hcl, sound] at h ⊢
    omega
  simp
  refine LoopK_of H.length (fun fr H' => ∃ pre rest last, l = pre ++ rest ∧ sound l n = soundFrom n last rest ∧ (pre = [] ∧ last = -1 ∨ ∃ q y, pre = q ++ [y] ∧ last = y.t) ∧ fr 0 = .d (.sl z 3 (l.map encE)) ∧ fr 1 = .d (.int .i64 n) ∧ fr 5 = .d (.int .i64 (pre.length : Int)) ∧ H' = H)
    (fun fr H' => match fr 5 with | .d (.int _ k) => (l.length - k).toNat | _ => 0) (by simp) ?_ ?_
  · refine ⟨[], l, -1, ?_⟩
    simp [cut_self hcl, sound]
    simp at h; omega
  rintro fr H' ⟨pre, rest, last, hl, hs, hp, f0, f1, f5, rfl⟩
  simp [f0, f1, f5]
  refine BrK_split (fun h => ?_) (fun h => ?_)
  · obtain ⟨e, r, rfl⟩ : ∃ e r, rest = e :: r := by
      cases rest with
      | nil => simp_all
      | cons e r => exact ⟨e, r, rfl⟩
    have hr : Zam.rowAt (l.map encE) pre.length = some (encE e) := by rw [hl]; exact rowAt_mid _ _ _ _
    have hw : IntKind.i64.wrap (pre.length + 1) = pre.length + 1 := wrap_i64 (by omega) (by simp at *; omega)
    rcases hp with ⟨rfl, rfl⟩ | ⟨q, y, rfl, rfl⟩
    · simp at hl hr f5
      simp [f0, f1, f5, hr, encE]
      repeat' (first
        | refine GdK_split (by simp) (fun h => ?_) (fun h => ?_)
        | refine BrK_split (fun h => ?_) (fun h => ?_)
        | simp [f0, f1, f5])
      all_goals simp only [decide_eq_true_eq, decide_eq_false_iff_not, Bool.not_true, Bool.not_false] at *
      all_goals first
        | (clear hl hr; simp_all [RetK, cut_app hcl, soundFrom]; done)
        | (have hs' : sound l n = soundFrom n e.t r := by
             clear hl hr
             rw [hs, soundFrom]
             (repeat' split) <;> first | rfl | omega | (simp_all; done) | (simp_all; omega)
           have hw : IntKind.i64.wrap 1 = 1 := rfl
           refine AgainK_of (m := H'.length) (by simp) ⟨[e], r, e.t, hl, hs', .inr ⟨[], e, rfl, rfl⟩, ?_⟩ ?_
           · simp [cut_app hcl, f0, f1, f5, hw]
           · simp [hw]; simp at *; omega)
    · have hr2 : Zam.rowAt (l.map encE) q.length = some (encE y) := by
        rw [hl, List.append_assoc]; exact rowAt_mid encE q ([] ++ e :: r) y
      simp only [List.length_append, List.length_cons, List.length_nil, Nat.zero_add, Int.natCast_add, Int.cast_ofNat_Int] at f5 hr hw h
      have hw2 : IntKind.i64.wrap (q.length : Int) = q.length := wrap_i64 (by omega) (by simp at *; omega)
      have hq : decide ((0 : Int) < q.length + 1) = true := by simp only [decide_eq_true_eq]; omega
      simp [f0, f1, f5, hr, encE]
      repeat' (first
        | refine GdK_split (by simp) (fun h => ?_) (fun h => ?_)
        | refine BrK_split (fun h => ?_) (fun h => ?_)
        | simp [f0, f1, f5, hr2, hw2, hq, encE])
      all_goals simp only [decide_eq_true_eq, decide_eq_false_iff_not, Bool.not_true, Bool.not_false] at *
      all_goals first
        | (clear hl hr hr2; simp_all [RetK, cut_app hcl, soundFrom]; done)
        | skip
      all_goals
        have hs' : sound l n = soundFrom n e.t r := by
          clear hl hr hr2
          rw [hs, soundFrom]
          (repeat' split) <;> first | rfl | omega | (simp_all; done) | (simp_all; omega)
        refine AgainK_of (m := H'.length) (by simp) ⟨q ++ [y] ++ [e], r, e.t, by simpa using hl, hs', .inr ⟨_, e, rfl, rfl⟩, ?_⟩ ?_
        · simp [cut_app hcl, f0, f1, f5, hw]
          omega
        · simp [hw]
          omega
  · obtain rfl : rest = [] := by
      cases rest with
      | nil => rfl
      | cons e r => simp_all
    simp [RetK, hs, soundFrom, cut_self hcl]


def remn (s : List UInt8) (k : Nat) : List Ed → List UInt8
  | [] => s.drop k
  | e :: r => if e.f < k then applied s e.t r else applied s k (e :: r)

theorem take_one {s : List UInt8} {k m : Nat} (h : 1 ≤ m) : (s.drop k).take m = (s.drop k).take 1 ++ (s.drop (k + 1)).take (m - 1) := by
  obtain ⟨m, rfl⟩ : ∃ j, m = j + 1 := ⟨m - 1, by omega⟩
  rw [show m + 1 = 1 + m by omega, List.take_add, List.drop_drop, Nat.add_sub_cancel_left]

theorem drop_one (s : List UInt8) (k : Nat) : s.drop k = (s.drop k).take 1 ++ s.drop (k + 1) := by
  rw [← List.drop_drop, List.take_append_drop]

theorem applied_one {s : List UInt8} {k : Nat} {e : Ed} {r : List Ed} (h : (k : Int) < e.f) : applied s k (e :: r) = (s.drop k).take 1 ++ applied s ((k + 1 : Nat) : Int) (e :: r) := by
  simp only [applied, Int.toNat_natCast]
  rw [take_one (m := e.f.toNat - k) (by omega), show e.f.toNat - (k + 1) = e.f.toNat - k - 1 by omega]
  simp

theorem applied_length (s : List UInt8) : ∀ (k : Int) (l : List Ed), (applied s k l).length ≤ (l.length + 1) * s.length + total l
  | k, [] => by simp [applied, total]
  | k, e :: r => by
    have := applied_length s e.t r
    simp only [applied, List.length_append, List.length_take, List.length_drop, total, List.length_cons]
    rw [Nat.add_mul (r.length + 1) 1]
    omega

def J11 (H : Hp) (s : List UInt8) (z : Bool) (l : List Ed) (fr : Fr) (H' : Hp) : Prop :=
  ∃ pre rest, ∃ (k : Nat) (last : Int) (o : List UInt8), l = pre ++ rest ∧ o ++ remn s k rest = applied s 0 l ∧ k ≤ s.length + 1 ∧ soundFrom s.length last rest = 0 ∧ (∀ e r, rest = e :: r → (k : Int) ≤ e.t) ∧
      fr 0 = .d (.str s) ∧ fr 1 = .d (.sl z 3 (l.map encE)) ∧ fr 7 = .d (.str o) ∧ fr 8 = .d (.int .i64 (pre.length : Int)) ∧ fr 9 = .d (.int .i64 (k : Int)) ∧ H' = H

def M11 (s : List UInt8) (fr : Fr) (_ : Hp) : Nat := match fr 9 with | .d (.int _ k) => (s.length + 1 - k).toNat | _ => 0

theorem again11 {H : Hp} (hcl : H.Closed) {s : List UInt8} {z : Bool} {l pre rest : List Ed} {k : Nat} {last : Int} {o : List UInt8} {fr fr0 : Fr} {t : Tag (J11 H s z l, M11 s)} (h9 : fr0 9 = .d (.int .i64 (k : Int))) (hk : k ≤ s.length)
    (h1 : l = pre ++ rest) (h2 : o ++ remn s (k + 1) rest = applied s 0 l) (h3 : soundFrom s.length last rest = 0) (h4 : ∀ e r, rest = e :: r → ((k + 1 : Nat) : Int) ≤ e.t)
    (g0 : fr 0 = .d (.str s)) (g1 : fr 1 = .d (.sl z 3 (l.map encE))) (g7 : fr 7 = .d (.str o)) (g8 : fr 8 = .d (.int .i64 (pre.length : Int))) (g9 : fr 9 = .d (.int .i64 ((k : Int) + 1))) :
    AgainK (J11 H s z l) (M11 s) t H.length (M11 s fr0 H) fr H := by
  refine AgainK_of (Nat.le_refl _) ⟨pre, rest, k + 1, last, o, h1, h2, by omega, h3, h4, ?_⟩ ?_
  · simp [g0, g1, g7, g8, g9, cut_self hcl]
  · simp [M11, h9, g9]
    omega

theorem strOp_add {a b : List UInt8} (h : a.length + b.length ≤ 9223372036854775807) : strOp .add a b = some (.str (a ++ b)) := by simp [strOp, h]

theorem refApplyOk {fs et fa : Nat} (hs_ : Has P fs (irR2Sound et)) (ha_ : Has P fa (irR2Apply fs)) (H : Hp) (z : Bool) (s : List UInt8) (l : List Ed) (hb : s.length + total l ≤ 70368744177664) :
    ACall P fa [.d (.str s), .d (.sl z 3 (l.map encE))] H (fun r H' => r = .tup [.d (.str (applyS s l)), .d (.int .i64 (sound l s.length))] ∧ H' = H) := by
  obtain ⟨fn, hf1, hf2⟩ := ha_
  refine acall_fin hf1 hf2 (by simp [irR2Apply]) fun hcl _ => ?_
  simp [irR2Apply]
  refine CallK_of' (refSoundOk hs_ H z l s.length) ?_
  simp
  refine BrK_split (fun h => ?_) (fun h => ?_)
  · simp [RetK, cut_self hcl]
    simp at h
    simp [applyS, h]
  have h0 : sound l s.length = 0 := by simpa using h
  obtain ⟨hl512, hs0⟩ := sound_zero h0
  have hal : (applied s 0 l).length ≤ 72057594037927936 := by
    have := applied_length s 0 l
    have h5 : (l.length + 1) * s.length ≤ 513 * s.length := Nat.mul_le_mul_right _ (by omega)
    omega
  simp
  refine LoopK_of H.length (J11 H s z l) (M11 s) (by simp) ?_ ?_
  · refine ⟨[], l, 0, -1, [], rfl, ?_, Nat.zero_le _, hs0, fun e r hl => ?_, ?_⟩
    · cases l with
      | nil => simp [remn, applied]
      | cons e r =>
        have := soundFrom_cons hs0
        simp only [remn]; rw [if_neg (by omega)]; rfl
    · subst hl; have := soundFrom_cons hs0; simp; omega
    · simp [cut_self hcl]
  rintro fr H' ⟨pre, rest, k, last, o, hl, hap, hk, hsf, hkt, f0, f1, f7, f8, f9, rfl⟩
  simp [f0, f9]
  refine BrK_split (fun h => ?_) (fun h => ?_)
  · have hk2 : k ≤ s.length := by simpa using h
    have hw : IntKind.i64.wrap ((k : Int) + 1) = k + 1 := wrap_i64 (by omega) (by omega)
    have hsub : k < s.length → subL s (k : Int) ((k : Int) + 1) = some ((s.drop k).take 1) := fun hlt => by
      rw [subL_ok ⟨by omega, by omega, by omega⟩]; simp
    rcases rest with _ | ⟨e, r⟩
    · have hln : l.length = pre.length := by simp [hl]
      by_cases hlt : k < s.length
      · have hx : remn s k [] = (s.drop k).take 1 ++ remn s (k + 1) [] := drop_one s k
        rw [hx] at hap
        have hle := congrArg List.length hap
        rw [List.length_append, List.length_append] at hle
        have hst := strOp_add (a := o) (b := (s.drop k).take 1) (by omega)
        simp [-strOp, f0, f1, f7, f8, f9, hln, hlt, hsub hlt, hw, hst]
        exact again11 hcl f9 hk2 hl (o := o ++ (s.drop k).take 1) (by rw [List.append_assoc]; exact hap) hsf (by simp) (by simp [f0]) (by simp [f1]) (by simp) (by simp [f8]) (by simp)
      · have hx : remn s k [] = remn s (k + 1) [] := by simp only [remn]; rw [List.drop_eq_nil_of_le (by omega), List.drop_eq_nil_of_le (by omega)]
        rw [hx] at hap
        simp [-strOp, f0, f1, f7, f8, f9, hln, hlt, hw]
        exact again11 hcl f9 hk2 hl hap hsf (by simp) (by simp [f0]) (by simp [f1]) (by simp [f7]) (by simp [f8]) (by simp)
    · obtain ⟨e1, e2, e3, e4, e5⟩ := soundFrom_cons hsf
      have kt := hkt e r rfl
      have hr : Zam.rowAt (l.map encE) pre.length = some (encE e) := by rw [hl]; exact rowAt_mid _ _ _ _
      have hln : l.length = pre.length + (r.length + 1) := by simp [hl]
      have hp : pre.length < l.length := by omega
      have hw8 : IntKind.i64.wrap ((pre.length : Int) + 1) = pre.length + 1 := wrap_i64 (by omega) (by omega)
      by_cases hA : e.t = k
      · have hl' : l = (pre ++ [e]) ++ r := by simp [hl]
        have hB' : e.f = k ∨ e.f < k := by omega
        have hBle : e.f ≤ k := by omega
        have hrem : remn s k (e :: r) = (if e.f = k then e.s else []) ++ applied s k r := by
          rcases hB' with hB | hB
          · simp only [remn, applied]; rw [if_neg (by omega), if_pos hB, hB, hA]; simp
          · simp only [remn]; rw [if_pos hB, if_neg (by omega), hA]; rfl
        rcases r with _ | ⟨e', r'⟩
        · have hln1 : l.length = pre.length + 1 := by simpa using hln
          have hq1 : (pre.length : Int) < pre.length + 1 := by omega
          by_cases hlt : k < s.length
          · have hx : remn s k [e] = (if e.f = k then e.s else []) ++ ((s.drop k).take 1 ++ remn s (k + 1) []) := by
              rw [hrem]; simp only [applied, remn, Int.toNat_natCast]; rw [← drop_one]
            rw [hx] at hap
            have hle := congrArg List.length hap
            rw [List.length_append, List.length_append, List.length_append] at hle
            by_cases hB : e.f = k
            · rw [if_pos hB] at hap hle
              have hst0 := strOp_add (a := o) (b := e.s) (by omega)
              have hst := strOp_add (a := o ++ e.s) (b := (s.drop k).take 1) (by rw [List.length_append]; omega)
              simp [-strOp, -List.append_assoc, f0, f1, f7, f8, f9, hln1, hq1, hr, encE, hA, hB, hlt, hsub hlt, hw, hw8, hst0, hst]
              exact again11 hcl f9 hk2 hl' (o := o ++ e.s ++ (s.drop k).take 1) (by rw [List.append_assoc, List.append_assoc]; exact hap) e5 (by simp) (by simp [f0]) (by simp [f1]) (by simp) (by simp) (by simp)
            · rw [if_neg hB] at hap hle
              have hst := strOp_add (a := o) (b := (s.drop k).take 1) (by omega)
              simp [-strOp, -List.append_assoc, f0, f1, f7, f8, f9, hln1, hq1, hr, encE, hA, hB, hBle, hlt, hsub hlt, hw, hw8, hst]
              exact again11 hcl f9 hk2 hl' (o := o ++ (s.drop k).take 1) (by rw [List.append_assoc]; exact hap) e5 (by simp) (by simp [f0]) (by simp [f1]) (by simp) (by simp) (by simp)
          · have hx : remn s k [e] = (if e.f = k then e.s else []) ++ remn s (k + 1) [] := by
              rw [hrem]; simp only [applied, remn, Int.toNat_natCast]; rw [List.drop_eq_nil_of_le (by omega), List.drop_eq_nil_of_le (by omega)]
            rw [hx] at hap
            have hle := congrArg List.length hap
            rw [List.length_append, List.length_append] at hle
            by_cases hB : e.f = k
            · rw [if_pos hB] at hap hle
              have hst0 := strOp_add (a := o) (b := e.s) (by omega)
              simp [-strOp, -List.append_assoc, f0, f1, f7, f8, f9, hln1, hq1, hr, encE, hA, hB, hlt, hw, hw8, hst0]
              exact again11 hcl f9 hk2 hl' (o := o ++ e.s) (by rw [List.append_assoc]; exact hap) e5 (by simp) (by simp [f0]) (by simp [f1]) (by simp) (by simp) (by simp)
            · rw [if_neg hB] at hap hle
              simp [-strOp, -List.append_assoc, f0, f1, f7, f8, f9, hln1, hq1, hr, encE, hA, hB, hBle, hlt, hw, hw8]
              exact again11 hcl f9 hk2 hl' (o := o) hap e5 (by simp) (by simp [f0]) (by simp [f1]) (by simp [f7]) (by simp) (by simp)
        · obtain ⟨d1, d2, d3, d4, d5⟩ := soundFrom_cons e5
          have hlt : k < s.length := by omega
          have hr2 : Zam.rowAt (l.map encE) ((pre.length : Int) + 1) = some (encE e') := by
            have := rowAt_mid encE (pre ++ [e]) r' e'
            rw [← hl'] at this; simpa using this
          have hp2 : pre.length + 1 < l.length := by simp at hln; omega
          have hN : ¬ e'.f ≤ k := by omega
          have hq2 : (pre.length : Int) + 1 < l.length := by omega
          have hx : remn s k (e :: e' :: r') = (if e.f = k then e.s else []) ++ ((s.drop k).take 1 ++ remn s (k + 1) (e' :: r')) := by
            rw [hrem, applied_one (by omega)]; simp only [remn]; rw [if_neg (c := e'.f < ((k + 1 : Nat) : Int)) (by omega)]
          rw [hx] at hap
          have hle := congrArg List.length hap
          rw [List.length_append, List.length_append, List.length_append] at hle
          have h4 : ∀ y q, e' :: r' = y :: q → ((k + 1 : Nat) : Int) ≤ y.t := fun y q hy => by cases hy; omega
          by_cases hB : e.f = k
          · rw [if_pos hB] at hap hle
            have hst0 := strOp_add (a := o) (b := e.s) (by omega)
            have hst := strOp_add (a := o ++ e.s) (b := (s.drop k).take 1) (by rw [List.length_append]; omega)
            simp [-strOp, -List.append_assoc, f0, f1, f7, f8, f9, hp, hp2, hq2, hr, hr2, hN, encE, hA, hB, hlt, hsub hlt, hw, hw8, hst0, hst]
            exact again11 hcl f9 hk2 hl' (o := o ++ e.s ++ (s.drop k).take 1) (by rw [List.append_assoc, List.append_assoc]; exact hap) e5 h4 (by simp [f0]) (by simp [f1]) (by simp) (by simp) (by simp)
          · rw [if_neg hB] at hap hle
            have hst := strOp_add (a := o) (b := (s.drop k).take 1) (by omega)
            simp [-strOp, -List.append_assoc, f0, f1, f7, f8, f9, hp, hp2, hq2, hr, hr2, hN, encE, hA, hB, hlt, hsub hlt, hw, hw8, hst]
            exact again11 hcl f9 hk2 hl' (o := o ++ (s.drop k).take 1) (by rw [List.append_assoc]; exact hap) e5 h4 (by simp [f0]) (by simp [f1]) (by simp) (by simp) (by simp)
      · have hkt' : (k : Int) < e.t := by omega
        have hlt : k < s.length := by omega
        have h4 : ∀ y q, e :: r = y :: q → ((k + 1 : Nat) : Int) ≤ y.t := fun y q hy => by cases hy; omega
        rcases Int.lt_trichotomy e.f k with hB | hB | hB
        · have hB1 : ¬ e.f = k := by omega
          have hB2 : e.f ≤ k := by omega
          have hx : remn s k (e :: r) = remn s (k + 1) (e :: r) := by simp only [remn]; rw [if_pos hB, if_pos (by omega)]
          rw [hx] at hap
          simp [-strOp, -List.append_assoc, f0, f1, f7, f8, f9, hp, hr, encE, hA, hB1, hB2, hkt', hlt, hw, hw8]
          exact again11 hcl f9 hk2 hl (o := o) hap hsf h4 (by simp [f0]) (by simp [f1]) (by simp [f7]) (by simp [f8]) (by simp)
        · have hx : remn s k (e :: r) = e.s ++ remn s (k + 1) (e :: r) := by
            simp only [remn]; rw [if_neg (by omega), if_pos (by omega), applied, hB]; simp
          rw [hx] at hap
          have hle := congrArg List.length hap
          rw [List.length_append, List.length_append] at hle
          have hst0 := strOp_add (a := o) (b := e.s) (by omega)
          simp [-strOp, -List.append_assoc, f0, f1, f7, f8, f9, hp, hr, encE, hA, hB, hkt', hlt, hw, hw8, hst0]
          exact again11 hcl f9 hk2 hl (o := o ++ e.s) (by rw [List.append_assoc]; exact hap) hsf h4 (by simp [f0]) (by simp [f1]) (by simp) (by simp [f8]) (by simp)
        · have hB1 : ¬ e.f = k := by omega
          have hB2 : ¬ e.f ≤ k := by omega
          have hx : remn s k (e :: r) = (s.drop k).take 1 ++ remn s (k + 1) (e :: r) := by
            simp only [remn]; rw [if_neg (by omega), if_neg (by omega), applied_one hB]
          rw [hx] at hap
          have hle := congrArg List.length hap
          rw [List.length_append, List.length_append] at hle
          have hst := strOp_add (a := o) (b := (s.drop k).take 1) (by omega)
          simp [-strOp, -List.append_assoc, f0, f1, f7, f8, f9, hp, hr, encE, hA, hB1, hB2, hlt, hsub hlt, hw, hw8, hst]
          exact again11 hcl f9 hk2 hl (o := o ++ (s.drop k).take 1) (by rw [List.append_assoc]; exact hap) hsf h4 (by simp [f0]) (by simp [f1]) (by simp) (by simp [f8]) (by simp)
  · obtain ⟨rfl⟩ : rest = [] := by
      cases rest with
      | nil => rfl
      | cons e r =>
        have h1 := soundFrom_cons hsf
        have h2 := hkt e r rfl
        simp at h; omega
    simp at h
    simp [RetK, cut_self hcl, f7, h0, applyS, ← hap, remn]
    omega

end
end R2
end Go.Zam

namespace Go.Zam
set_option linter.all false
set_option maxRecDepth 100000
set_option maxHeartbeats 1000000

section
variable {P : Program}

end
end Go.Zam

namespace Go.Zam
set_option linter.all false
set_option maxRecDepth 100000
set_option maxHeartbeats 1000000

def keysT : List Bs := [[100, 101, 102], [100, 121, 110], [101, 108, 115, 101], [102, 110], [105, 102], [105, 110, 112, 117, 116], [105, 110, 116], [108, 101, 116], [112, 114, 105, 110, 116], [114, 101, 116, 117, 114, 110], [115, 116, 114], [117, 115, 101], [119, 104, 105, 108, 101]]
def signsT : List Bs := [[61, 61], [40], [41], [123], [125], [44], [59], [58], [46], [61], [43], [45], [42], [60]]
/-- the sign that a text begins with; none: nothing -/
def signV (s : Bs) : Bs := (signsT.find? fun x => x.isPrefixOf s).getD []

/-- a function that says whether a text begins with another one -/
def PrefixOk (P : Program) (f : FuncId) : Prop := ∀ (s p : Bs) H, ACall P f [.d (.str s), .d (.str p)] H (fun r H' => r = .d (.bool (p.isPrefixOf s)) ∧ H' = H)

section
variable {P : Program}

theorem Has.idx {f} (h : Has P f irSlIdx) (z : Bool) (ns : List Bs) (x : Bs) (hn : ns.length ≤ 1048576) (H : Hp) : ACall P f [.d (.sl z 1 (ns.map encStr)), .d (.str x)] H (fun r H' => (∃ q : Int, r = .d (.int .i64 q) ∧ (0 ≤ q ↔ x ∈ ns)) ∧ H' = H) := by
  obtain ⟨fn, hf, hcf⟩ := h
  refine acall_fin hf hcf (by simp [irSlIdx]) fun hcl _ => ?_
  simp [irSlIdx]
  refine LoopK_outR 0 (fun fr H' => x ∉ ns ∧ H' = H) (fun fr H' => (∃ q : Int, fr 4 = .d (.int .i64 q) ∧ 0 ≤ q) ∧ x ∈ ns ∧ H' = H) ?_ ?_ ?_
  · refine RangeK_of H.length ns.length (fun i fr H' => fr 0 = .d (.sl z 1 (ns.map encStr)) ∧ fr 1 = .d (.str x) ∧ x ∉ ns.take i ∧ H' = H) (by omega) (by decide) (by simp) (by simp) ?_ ?_ ?_
    · simp [cut_self hcl]
    · rintro i fr H' hi f8 f7 ⟨f0, f1, hx, rfl⟩
      have hr := rowAt_map encStr hi
      have ht : ns.take (i + 1) = ns.take i ++ [ns[i]] := List.take_succ_eq_append_getElem hi
      have hm := List.getElem_mem hi
      simp only [encStr] at hr
      generalize ns[i] = w at hr ht hm
      simp [f8, f0, f1, hr]
      refine BrK_split (fun h => ?_) (fun h => ?_)
      · have e : x = w := by simpa using h
        simp
        exact e ▸ hm
      · have e : ¬ x = w := by simpa using h
        simp
        refine NextK_of H'.length (Nat.le_refl _) (by simp [f8, f7]) ?_
        simp [f0, f1, cut_self hcl, ht, hx, e]
    · rintro fr H' f8 f7 ⟨f0, f1, hx, rfl⟩
      rw [List.take_of_length_le (Nat.le_refl _)] at hx
      simp [hx]
  · rintro fr H' ⟨⟨q, f4, hq⟩, hx, rfl⟩
    simp
    simp [RetK, cut_self hcl, f4, hx]
    exact hq
  · rintro fr H' ⟨hx, rfl⟩
    simp
    simp [RetK, cut_self hcl, hx]

theorem Has.has {f fi} (h : Has P f (irSlHas fi)) (hi : Has P fi irSlIdx) (z : Bool) (ns : List Bs) (x : Bs) (hn : ns.length ≤ 1048576) (H : Hp) : ACall P f [.d (.sl z 1 (ns.map encStr)), .d (.str x)] H (fun r H' => r = .d (.bool (decide (x ∈ ns))) ∧ H' = H) := by
  obtain ⟨fn, hf, hcf⟩ := h
  refine acall_fin hf hcf (by simp [irSlHas]) fun hcl _ => ?_
  simp [irSlHas]
  refine CallK_of (hi.idx z ns x hn _) ?_
  rintro r H' ⟨⟨q, rfl, hq⟩, rfl⟩
  simp
  simp [RetK, cut_self hcl, hq]

theorem Has.keys {f} (h : Has P f irTkKeys) (H : Hp) : ACall P f [] H (fun r H' => r = .d (.sl false 1 (keysT.map encStr)) ∧ H' = H) := by
  obtain ⟨fn, hf, hcf⟩ := h
  refine acall_fin hf hcf (by simp [irTkKeys]) fun hcl _ => ?_
  simp [irTkKeys]
  simp [RetK, cut_self hcl, keysT, encStr]

theorem Has.signs {f} (h : Has P f irTkSigns) (H : Hp) : ACall P f [] H (fun r H' => r = .d (.sl false 1 (signsT.map encStr)) ∧ H' = H) := by
  obtain ⟨fn, hf, hcf⟩ := h
  refine acall_fin hf hcf (by simp [irTkSigns]) fun hcl _ => ?_
  simp [irTkSigns]
  simp [RetK, cut_self hcl, signsT, encStr]

theorem sub_end {s : Bs} {n : Nat} (h : n ≤ s.length) : subL s (n : Int) (s.length : Int) = some (s.drop n) := by
  rw [subL_ok ⟨by omega, by omega, by omega⟩]
  congr 1
  rw [List.take_of_length_le (by simp)]
  simp

theorem Has.sign {f fs fp} (h : Has P f (irScSign fs fp)) (hs : Has P fs irTkSigns) (hp : PrefixOk P fp) {H : Hp} {i : Nat} {ts : TypeId} {text : Bs} {n : Nat} (hi : H[i]? = some (scan ts text n)) (hn : n ≤ text.length) (hl : text.length ≤ 4611686018427387904) :
    ACall P f [.ptr i 0] H (fun r H' => r = .d (.str (signV (text.drop n))) ∧ H' = H.set i (scan ts text (n + (signV (text.drop n)).length))) := by
  obtain ⟨fn, hf, hcf⟩ := h
  have hil := scan_len hi
  refine acall_fin hf hcf (by simp [irScSign]) fun hcl _ => ?_
  have hi' := hi
  unfold scan at hi'
  simp [irScSign]
  refine CallK_of' (hs.signs _) ?_
  simp
  refine LoopK_outR 0 (fun fr H' => signV (text.drop n) = [] ∧ H' = H) (fun fr H' => fr 2 = .d (.str (signV (text.drop n))) ∧ H' = H.set i (scan ts text (n + (signV (text.drop n)).length))) ?_ ?_ ?_
  · refine RangeK_of H.length signsT.length (fun j fr H' => fr 0 = .ptr i 0 ∧ fr 5 = .d (.sl false 1 (signsT.map encStr)) ∧ (∀ x ∈ signsT.take j, x.isPrefixOf (text.drop n) = false) ∧ H' = H) (by decide) (by decide) (by simp) (by simp) ?_ ?_ ?_
    · simp [cut_self hcl, hil]
    · rintro j fr H' hj f7 f6 ⟨f0, f5, ha, rfl⟩
      have hr := rowAt_map encStr hj
      have ht : signsT.take (j + 1) = signsT.take j ++ [signsT[j]] := List.take_succ_eq_append_getElem hj
      have hfind : signsT[j].isPrefixOf (text.drop n) = true → signV (text.drop n) = signsT[j] := fun h => by
        have : signsT.find? (fun x => x.isPrefixOf (text.drop n)) = some signsT[j] := by
          rw [List.find?_eq_some_iff_getElem]
          refine ⟨h, j, hj, rfl, fun k hk => ?_⟩
          rw [ha signsT[k] (by rw [List.mem_take_iff_getElem]; exact ⟨k, by omega, rfl⟩)]
          rfl
        rw [signV, this]; rfl
      have hlen : signsT[j].length ≤ 2 := by
        have : ∀ x ∈ signsT, x.length ≤ 2 := by decide
        exact this _ (List.getElem_mem hj)
      simp only [encStr] at hr
      generalize signsT[j] = x at hr ht hfind hlen
      simp [f7, f5, f0, hr, hi', sub_end hn]
      refine CallD_of (hp _ x _) ?_
      cases hx : x.isPrefixOf (text.drop n) with
      | true =>
        have hv := hfind hx
        have hwr : IntKind.i64.wrap ((n : Int) + x.length) = n + x.length := wrap_i64 (by omega) (by omega)
        have hg : H'[i] = Ob.box ts [.d (.str text), .d (.int .i64 (n : Int))] := (List.getElem?_eq_some_iff.1 hi').2
        simp [f0, hil, hg, hwr]
        simp [hv, scan]
      | false =>
        simp
        refine NextK_of H'.length (Nat.le_refl _) (by simp [f7, f6]) ?_
        simp [f0, f5, cut_self hcl, ht]
        refine ⟨hil, ?_⟩
        intro q hq
        rcases hq with hq | rfl
        · simpa using ha q hq
        · simpa using hx
    · rintro fr H' f7 f6 ⟨f0, f5, ha, rfl⟩
      rw [List.take_of_length_le (Nat.le_refl _)] at ha
      have : signsT.find? (fun x => x.isPrefixOf (text.drop n)) = none := by
        rw [List.find?_eq_none]
        intro x hx
        rw [ha x hx]; simp
      simp [signV, this]
  · rintro fr H' ⟨f2, rfl⟩
    simp
    simp [RetK, Hp.cut_set, cut_self hcl, hil, scan, f2]
  · rintro fr H' ⟨hv, rfl⟩
    simp
    simp [RetK, cut_self hcl, hv]
    exact (Hp.set_self hi).symm

end
end Go.Zam

namespace Go.Zam
set_option linter.all false
set_option maxRecDepth 100000
set_option maxHeartbeats 1000000

def unesc (c : UInt8) : Option UInt8 := if c = 110 then some 10 else if c = 116 then some 9 else if c = 34 then some 34 else if c = 92 then some 92 else none

def unqI : Bs → Option Bs
  | [] => some []
  | [b] => if b = 92 then none else if b.toNat < 32 ∨ b = 34 then none else some [b]
  | b :: c :: r => if b = 92 then (unesc c).bind fun x => (unqI r).map (x :: ·) else if b.toNat < 32 ∨ b = 34 then none else (unqI (c :: r)).map (b :: ·)

/-- what a string of the language stands for -/
def unqV (s : Bs) : Option Bs := if s.length < 2 ∨ s.head? ≠ some 34 ∨ s.getLast? ≠ some 34 then none else unqI ((s.drop 1).take (s.length - 2))
def unqR : Option Bs → A
  | some x => .tup [.d (.str x), .d (.int .i64 0)]
  | none => .tup [.d (.str []), .d (.int .i64 22)]

theorem byteAt_nat (s : Bs) (n : Nat) : byteAt s (n : Int) = s[n]? := by
  have : ¬ ((n : Int) < 0) := by omega
  simp [byteAt]
theorem byte_eq (b c : UInt8) : ((b.toNat : Int) = (c.toNat : Int)) ↔ b = c := by
  constructor
  · intro e; exact UInt8.toNat_inj.1 (by omega)
  · rintro rfl; rfl

section
variable {P : Program}

end
end Go.Zam

namespace Go.Zam
set_option linter.all false
set_option maxRecDepth 100000
set_option maxHeartbeats 1000000

/-- a heap that begins as another one -/
def Pre0 (H0 H : Hp) : Prop := ∃ X, H = H0 ++ X
theorem Pre0.app {H0 H : Hp} (h : Pre0 H0 H) (X : Hp) : Pre0 H0 (H ++ X) := by obtain ⟨Y, rfl⟩ := h; exact ⟨Y ++ X, by simp⟩
/-- how far a string goes behind its first quote -/
def strS : Bs → Option Nat
  | [] => none
  | [b] => if b = 34 then some 1 else none
  | b :: c :: r => if b = 34 then some 1 else if b = 92 then (strS r).map (· + 2) else if b = 10 then none else (strS (c :: r)).map (· + 1)

/-- a string that a text begins with, what is wrong with it -/
def strV (s : Bs) : Bs × Int := match strS (s.drop 1) with
  | none => ([], 22)
  | some k => (s.take (k + 1), if (unqV (s.take (k + 1))).isSome then 0 else 22)

theorem strS_le : ∀ {s : Bs} {k : Nat}, strS s = some k → 1 ≤ k ∧ k ≤ s.length
  | [], k, h => by simp [strS] at h
  | [b], k, h => by
    simp only [strS] at h
    split at h
    · simp at h ⊢; omega
    · cases h
  | b :: c :: r, k, h => by
    simp only [strS] at h
    split at h
    · simp at h ⊢; omega
    split at h
    · cases e : strS r with
      | none => simp [e] at h
      | some q => have := strS_le e; simp [e] at h; simp; omega
    split at h
    · cases h
    · cases e : strS (c :: r) with
      | none => simp [e] at h
      | some q => have := strS_le e; simp [e] at h; simp at this ⊢; omega

section
variable {P : Program}

theorem Has.str {f fu} (h : Has P f (irScStr fu)) (hu : ∀ (s : Bs) H, s.length ≤ 1048576 → ACall P fu [.d (.str s)] H (fun r H' => r = unqR (unqV s) ∧ H' = H)) {H : Hp} {i : Nat} {ts : TypeId} {text : Bs} {n : Nat} (hi : H[i]? = some (scan ts text n)) (hn : n < text.length) (hl : text.length ≤ 1048576) :
    ACall P f [.ptr i 0] H (fun r H' => (∃ k : Nat, r = .tup [.d (.str (strV (text.drop n)).1), .d (.int .i64 (strV (text.drop n)).2)] ∧ H' = H.set i (scan ts text k) ∧ ((strV (text.drop n)).2 = 0 → k = n + (strV (text.drop n)).1.length))) := by
  obtain ⟨fn, hf, hcf⟩ := h
  have hil := scan_len hi
  refine acall_fin hf hcf (by simp [irScStr]) fun hcl _ => ?_
  have hg : H[i] = Ob.box ts [.d (.str text), .d (.int .i64 (n : Int))] := (List.getElem?_eq_some_iff.1 hi).2
  have hw0 : IntKind.i64.wrap ((n : Int) + 1) = n + 1 := wrap_i64 (by omega) (by omega)
  simp [irScStr, hil, hg, hw0]
  have hrest : (text.drop n).drop 1 = text.drop (n + 1) := by rw [List.drop_drop]
  have hSV : strV (text.drop n) = match strS (text.drop (n + 1)) with
    | none => ([], 22)
    | some k => ((text.drop n).take (k + 1), if (unqV ((text.drop n).take (k + 1))).isSome then 0 else 22) := by rw [strV, hrest]
  refine LoopK_outR 0 (fun fr H' => strS (text.drop (n + 1)) = none ∧ ∃ k : Nat, H' = H.set i (scan ts text k)) (fun fr H' => ∃ k : Nat, fr 2 = .d (.str (strV (text.drop n)).1) ∧ fr 3 = .d (.int .i64 (strV (text.drop n)).2) ∧ H' = H.set i (scan ts text k) ∧ ((strV (text.drop n)).2 = 0 → k = n + (strV (text.drop n)).1.length)) ?_ ?_ ?_
  · refine LoopM_of H.length (fun d fr H' => ∃ j : Nat, d = text.length + 1 - (n + 1 + j) ∧ n + 1 + j ≤ text.length + 1 ∧ strS (text.drop (n + 1)) = (strS (text.drop (n + 1 + j))).map (· + j) ∧ fr 0 = .ptr i 0 ∧ fr 4 = .d (.int .i64 (n : Int)) ∧ H' = H.set i (scan ts text (n + 1 + j))) (text.length + 1 - (n + 1 + 0)) (by simp) ⟨0, rfl, by omega, ?_, ?_⟩ ?_
    · simp
    · simp [cut_self hcl, Hp.cut_set, hil, scan]
    rintro d fr H' ⟨j, rfl, hj, hq, f0, f4, rfl⟩
    simp [f0, hil, scan]
    refine BrK_split (fun hlt => ?_) (fun hlt => ?_)
    · have hlt' : n + 1 + j < text.length := by have : (n : Int) + 1 + j < text.length := by simpa using hlt
                                                omega
      have hdr : text.drop (n + 1 + j) = text[n + 1 + j] :: text.drop (n + 1 + j + 1) := List.drop_eq_getElem_cons hlt'
      have hb : byteAt text ((n : Int) + 1 + j) = some text[n + 1 + j] := by
        have e : ((n : Int) + 1 + j) = ((n + 1 + j : Nat) : Int) := by omega
        rw [e, byteAt_nat, List.getElem?_eq_getElem hlt']
      generalize text[n + 1 + j] = b at hdr hb
      have hw1 : IntKind.i64.wrap ((n : Int) + 1 + j + 1) = (n : Int) + 1 + (j + 1) := by rw [wrap_i64 (by omega) (by omega)]; omega
      have hw2 : IntKind.i64.wrap ((n : Int) + 1 + (j + 1) + 1) = (n : Int) + 1 + (j + 1 + 1) := by rw [wrap_i64 (by omega) (by omega)]; omega
      simp [f0, hil, hb]
      refine BrK_split (fun h34 => ?_) (fun h34 => ?_)
      · have h34 : b = 34 := (byte_eq b 34).1 (by simpa using h34)
        subst h34
        have hS : strS (text.drop (n + 1)) = some (j + 1) := by
          rw [hq, hdr]
          cases text.drop (n + 1 + j + 1) <;> simp [strS] <;> omega
        have hsub : subL text (n : Int) ((n : Int) + 1 + (j + 1)) = some ((text.drop n).take (j + 1 + 1)) := by
          have := sub_ok (s := text) (n := n) (w := j + 1 + 1) (by omega)
          rw [← this]; congr 1; omega
        simp only [hS] at hSV
        have hU := hu ((text.drop n).take (j + 1 + 1)) (H.set i (scan ts text (n + 1 + (j + 1)))) (by simp; omega)
        have hlen : ((text.drop n).take (j + 1 + 1)).length = j + 1 + 1 := by simp; omega
        generalize (text.drop n).take (j + 1 + 1) = T at hSV hsub hU hlen
        simp [f0, f4, hil, hw1, hsub]
        simp [scan] at hU
        refine CallK_of' hU ?_
        cases hv : unqV T with
        | none =>
          simp [unqR]
          exact ⟨by simp [hSV], by simp [hSV, hv], n + 1 + (j + 1), by simp [scan], fun h => by simp [hSV, hv] at h⟩
        | some x =>
          simp [unqR]
          exact ⟨by simp [hSV], by simp [hSV, hv], n + 1 + (j + 1), by simp [scan], fun h => by simp [hSV, hlen]; omega⟩
      · have h34 : ¬ b = 34 := fun e => by simp [e] at h34
        simp
        refine BrK_split (fun h92 => ?_) (fun h92 => ?_)
        · have h92 : b = 92 := (byte_eq b 92).1 (by simpa using h92)
          subst h92
          simp [f0, hil, hw1, hw2]
          refine NextM_of H.length (text.length + 1 - (n + 1 + (j + 2))) (Nat.le_refl _) (by simp) (by omega) ⟨j + 2, rfl, by omega, ?_, ?_⟩
          · rw [hq, hdr]
            have e2 : n + 1 + (j + 2) = n + 1 + j + 1 + 1 := by omega
            rw [e2]
            cases hd2 : text.drop (n + 1 + j + 1) with
            | nil =>
              have : text.drop (n + 1 + j + 1 + 1) = [] := by
                rw [← List.drop_drop, hd2]; rfl
              rw [this]; simp [strS]
            | cons c r =>
              have : text.drop (n + 1 + j + 1 + 1) = r := by
                rw [← List.drop_drop, hd2]; rfl
              rw [this]
              simp only [strS]
              simp
              cases strS r <;> simp <;> omega
          · simp [f0, f4, Hp.cut_set, cut_self hcl, hil, scan, hw2]
            have e3 : (n : Int) + 1 + ((j : Int) + 1 + 1) = n + 1 + (j + 2) := by omega
            rw [e3]
        · have h92 : ¬ b = 92 := fun e => by simp [e] at h92
          simp
          refine BrK_split (fun h10 => ?_) (fun h10 => ?_)
          · have h10 : b = 10 := (byte_eq b 10).1 (by simpa using h10)
            subst h10
            have hS : strS (text.drop (n + 1)) = none := by
              rw [hq, hdr]
              cases text.drop (n + 1 + j + 1) <;> simp [strS]
            simp only [hS] at hSV
            simp [hSV]
            exact ⟨n + 1 + j, by simp [scan]⟩
          · have h10 : ¬ b = 10 := fun e => by simp [e] at h10
            simp [f0, hil, hw1]
            refine NextM_of H.length (text.length + 1 - (n + 1 + (j + 1))) (Nat.le_refl _) (by simp) (by omega) ⟨j + 1, rfl, by omega, ?_, ?_⟩
            · rw [hq, hdr]
              have e2 : n + 1 + (j + 1) = n + 1 + j + 1 := by omega
              rw [e2]
              cases hd2 : text.drop (n + 1 + j + 1) with
              | nil => simp [strS, h34]
              | cons c r =>
                simp only [strS, h34, h92, h10]
                simp
                cases strS (c :: r) <;> simp <;> omega
            · simp [f0, f4, Hp.cut_set, cut_self hcl, hil, scan]
    · have hge : text.length ≤ n + 1 + j := by have : ¬ ((n : Int) + 1 + j < text.length) := by simpa using hlt
                                               omega
      have hS : strS (text.drop (n + 1)) = none := by
        rw [hq, List.drop_eq_nil_of_le hge]; rfl
      simp [hS]
      exact ⟨n + 1 + j, by simp [scan]⟩
  · rintro fr H' ⟨k, f2, f3, rfl, hk⟩
    simp
    simp [RetK, Hp.cut_set, cut_self hcl, hil, scan, f2, f3]
    exact ⟨k, rfl, hk⟩
  · rintro fr H' ⟨hS, k, rfl⟩
    simp only [hS] at hSV
    simp
    simp [RetK, Hp.cut_set, cut_self hcl, hil, scan, hSV]
    exact ⟨k, rfl⟩

end
end Go.Zam

namespace Go.Zam
set_option linter.all false
set_option maxRecDepth 100000
set_option maxHeartbeats 1000000

/-- digits that are a number -/
def numOk (s : Bs) : Bool := match Lib.parseUintB 63 s with
  | .ok _ => true
  | _ => false

/-- what is wrong with the token that a text begins with, its kind, how long it is -/
def tokN : Bs → Int × Int × Nat
  | [] => (0, 0, 0)
  | b :: r =>
    if letterB b then
      if (b :: r).take (runN wordB (b :: r)) ∈ keysL then (0, 2, runN wordB (b :: r)) else if 40 < runN wordB (b :: r) then (26, 0, 0) else (0, 1, runN wordB (b :: r))
    else if digitB b then
      if numOk ((b :: r).take (runN wordB (b :: r))) then (0, 3, runN wordB (b :: r)) else (23, 0, 0)
    else if b = 34 then
      if (strV (b :: r)).2 = 0 then (0, 4, (strV (b :: r)).1.length) else (22, 0, 0)
    else if signV (b :: r) = [] then (21, 0, 0) else (0, 5, (signV (b :: r)).length)

theorem strV_err (s : Bs) : (strV s).2 = 0 ∨ (strV s).2 = 22 := by
  unfold strV
  split
  · exact .inr rfl
  · simp only
    split <;> simp

theorem strV_take (s : Bs) : (strV s).2 = 0 → s.take (strV s).1.length = (strV s).1 := by
  unfold strV
  split
  · simp
  · rename_i k hk
    have := strS_le hk
    intro _
    simp only [List.length_take]
    simp only [List.length_drop] at this
    rw [Nat.min_eq_left (by omega)]

theorem signV_take (s : Bs) : s.take (signV s).length = signV s := by
  unfold signV
  cases h : signsT.find? (fun x => x.isPrefixOf s) with
  | none => simp
  | some x =>
    have := List.find?_some h
    have hp : x <+: s := List.isPrefixOf_iff_prefix.1 (by simpa using this)
    simp only [Option.getD_some]
    exact (List.prefix_iff_eq_take.1 hp).symm

def NumOk (P : Program) (H0 : Hp) (f : FuncId) : Prop := ∀ (s : Bs) H, Pre0 H0 H → s.length ≤ 1048576 → ACall P f [.d (.str s)] H (fun r H' => r = .d (.int .i64 (if numOk s then 0 else 23)) ∧ H' = H)

/-- what the next token comes to -/
def NextQ (H : Hp) (i : Nat) (ts : TypeId) (text : Bs) (n : Nat) (S : Bs) (T : Int × Int × Nat) : A → Hp → Prop := fun r H' => ∃ (k : Int) (x : Bs) (m : Nat), r = .tup [.agg [.d (.int .i64 k), .d (.int .i64 (n : Int)), .d (.str []), .d (.str x)], .d (.int .i64 T.1)] ∧ H' = H.set i (scan ts text m) ∧ (T.1 = 0 → k = T.2.1 ∧ x = S.take T.2.2 ∧ m = n + T.2.2)

section
variable {P : Program}

theorem Has.next {H0 : Hp} {f fm fl fw fk fd fn fs fg tt} (h : Has P f (irScNext fm fl fw fk fd fn fs fg tt)) (hm : Has P fm irScMore) (kl : callOk P fl = true) (hl : ByteOk P fl letterB) (kd : callOk P fd = true) (hd' : ByteOk P fd digitB)
    (hw : ∀ {H : Hp} {i : Nat} {ts : TypeId} {text : Bs} {n : Nat}, H[i]? = some (scan ts text n) → n ≤ text.length → text.length ≤ 1048576 → ACall P fw [.ptr i 0] H (fun r H' => r = .d (.str ((text.drop n).take (runN Zam.wordB (text.drop n)))) ∧ H' = H.set i (scan ts text (n + runN Zam.wordB (text.drop n)))))
    (hk : ∀ s H, ACall P fk [.d (.str s)] H (fun r H' => r = .d (.bool (decide (s ∈ keysL))) ∧ H' = H)) (hn : NumOk P H0 fn)
    (hs : ∀ {H : Hp} {i : Nat} {ts : TypeId} {text : Bs} {n : Nat}, H[i]? = some (scan ts text n) → n < text.length → text.length ≤ 1048576 → ACall P fs [.ptr i 0] H (fun r H' => (∃ k : Nat, r = .tup [.d (.str (strV (text.drop n)).1), .d (.int .i64 (strV (text.drop n)).2)] ∧ H' = H.set i (scan ts text k) ∧ ((strV (text.drop n)).2 = 0 → k = n + (strV (text.drop n)).1.length))))
    (hg : ∀ {H : Hp} {i : Nat} {ts : TypeId} {text : Bs} {n : Nat}, H[i]? = some (scan ts text n) → n ≤ text.length → text.length ≤ 1048576 → ACall P fg [.ptr i 0] H (fun r H' => r = .d (.str (signV (text.drop n))) ∧ H' = H.set i (scan ts text (n + (signV (text.drop n)).length))))
    {H : Hp} {i : Nat} {ts : TypeId} {text : Bs} {n : Nat} (hH : Pre0 H0 H) (h0i : H0.length ≤ i) (hi : H[i]? = some (scan ts text n)) (hnl : n ≤ text.length) (htl : text.length ≤ 1048576) :
    ACall P f [.ptr i 0] H (NextQ H i ts text n (text.drop n) (tokN (text.drop n))) := by
  obtain ⟨fnn, hf, hcf⟩ := h
  have hil := scan_len hi
  have hpre : ∀ o X, Pre0 H0 (H.set i o ++ X) := fun o X => by
    obtain ⟨Y, rfl⟩ := hH
    rw [List.set_append_right _ _ h0i, List.append_assoc]
    exact ⟨_, rfl⟩
  refine acall_fin hf hcf (by simp [irScNext]) fun hcl _ => ?_
  have hgi : H[i] = Ob.box ts [.d (.str text), .d (.int .i64 (n : Int))] := (List.getElem?_eq_some_iff.1 hi).2
  have hil' : i < H.length + 1 := by omega
  have hset : ∀ (o o' : Ob) , (H.set i o ++ [o']).length = H.length + 1 := fun o o' => by simp
  have hhi : ∀ o', (H ++ [o'])[i]? = some (scan ts text n) := fun o' => by rw [List.getElem?_append_left hil]; exact hi
  have hset2 : ∀ o o', (H ++ [o']).set i o = H.set i o ++ [o'] := fun o o' => by rw [List.set_append_left _ _ hil]
  have hfin : ∀ (S : Bs) (T : Int × Int × Nat) (x : Bs) (k e : Int) (m : Nat) (HB : Hp), HB = H.set i (scan ts text m) ++ [Ob.box tt [.d (.int .i64 k), .d (.int .i64 (n : Int)), .d (.str []), .d (.str x)]] → e = T.1 → (T.1 = 0 → k = T.2.1 ∧ x = S.take T.2.2 ∧ m = n + T.2.2) →
      RetK (NextQ H i ts text n S T) .mk H.length (some (.tup [.agg [.d (.int .i64 k), .d (.int .i64 (n : Int)), .d (.str []), .d (.str x)], .d (.int .i64 e)])) HB := by
    intro S T x k e m HB hHB he hp
    subst he
    have hc : Hp.cut H.length HB = H.set i (scan ts text m) := by
      rw [hHB, ← hset2, Hp.cut_set, cut_app hcl]; simp [scan]
    have hq : NextQ H i ts text n S T (.tup [.agg [.d (.int .i64 k), .d (.int .i64 (n : Int)), .d (.str []), .d (.str x)], .d (.int .i64 T.1)]) (H.set i (scan ts text m)) := ⟨k, x, m, rfl, rfl, hp⟩
    have hl : H.length ≤ HB.length := by rw [hHB]; simp
    generalize NextQ H i ts text n S T = Q at hq ⊢
    simp [RetK, hc, hl]
    exact hq
  simp [irScNext, hil, hgi, hil', List.getElem_append_left]
  cases hd : text.drop n with
  | nil =>
    have hn0 : n = text.length := by
      have := List.drop_eq_nil_iff.1 hd
      omega
    have hn1 : decide ((n : Int) = text.length) = true := decide_eq_true (by omega)
    rw [hn1]
    simp
    exact hfin _ _ _ _ _ n _ (by rw [Hp.set_self hi]) rfl (by simp [tokN])
  | cons b r =>
  obtain ⟨hb, hlt⟩ := byteAt_drop hd
  have hn1 : ¬ ((n : Int) = text.length) := by omega
  have hT : tokN (b :: r) = if letterB b then
      if (b :: r).take (runN Zam.wordB (b :: r)) ∈ keysL then (0, 2, runN Zam.wordB (b :: r)) else if 40 < runN Zam.wordB (b :: r) then (26, 0, 0) else (0, 1, runN Zam.wordB (b :: r))
    else if digitB b then
      if numOk ((b :: r).take (runN Zam.wordB (b :: r))) then (0, 3, runN Zam.wordB (b :: r)) else (23, 0, 0)
    else if b = 34 then
      if (strV (b :: r)).2 = 0 then (0, 4, (strV (b :: r)).1.length) else (22, 0, 0)
    else if signV (b :: r) = [] then (21, 0, 0) else (0, 5, (signV (b :: r)).length) := rfl
  generalize tokN (b :: r) = T at hT
  have g1 := fun o' => hm.more kl hl (hhi o')
  have g2 := fun o' => hm.more kd hd' (hhi o')
  have g3 := fun o' => hw (hhi o') hnl htl
  have g4 := fun o' => hs (hhi o') hlt htl
  have g5 := fun o' => hg (hhi o') hnl htl
  rw [hd] at g1 g2
  simp only [hd, hset2] at g3 g4 g5
  have hrl := runN_le Zam.wordB (b :: r)
  have hbl : (b :: r).length = text.length - n := by rw [← hd]; simp
  have hrw : ((b :: r).take (runN Zam.wordB (b :: r))).length = runN Zam.wordB (b :: r) := by simp only [List.length_take]; omega
  simp only [moreB] at g1 g2
  simp [hn1]
  refine CallK_of' (g1 _) ?_
  cases hlb : letterB b with
  | true =>
    rw [hlb, if_pos rfl] at hT
    simp
    refine CallK_of' (g3 _) ?_
    generalize hWd : (b :: r).take (runN Zam.wordB (b :: r)) = W at hT hrw
    generalize runN Zam.wordB (b :: r) = w at hT hrw hWd
    simp
    refine CallK_of' (hk W _) ?_
    by_cases hkW : W ∈ keysL
    · rw [if_pos hkW] at hT
      simp [hkW]
      exact hfin _ _ _ _ _ (n + w) _ rfl (by rw [hT]) (by simp [hT, hWd])
    · rw [if_neg hkW] at hT
      by_cases h40 : 40 < w
      · rw [if_pos h40] at hT
        have h40' : (40 : Int) < w := by omega
        simp [hkW, hrw, h40']
        exact hfin _ _ _ _ _ (n + w) _ rfl (by rw [hT]) (by simp [hT])
      · rw [if_neg h40] at hT
        have h40' : ¬ (40 : Int) < w := by omega
        simp [hkW, hrw, h40']
        exact hfin _ _ _ _ _ (n + w) _ rfl (by rw [hT]) (by simp [hT, hWd])
  | false =>
    rw [hlb] at hT
    simp only [Bool.false_eq_true, if_false] at hT
    simp
    refine CallK_of' (g2 _) ?_
    cases hdb : digitB b with
    | true =>
      rw [hdb, if_pos rfl] at hT
      simp
      refine CallK_of' (g3 _) ?_
      generalize hWd : (b :: r).take (runN Zam.wordB (b :: r)) = W at hT hrw
      generalize runN Zam.wordB (b :: r) = w at hT hrw hWd hrl
      simp
      refine CallD_of (hn W _ (hpre _ _) (by omega)) ?_
      cases hnu : numOk W with
      | true =>
        rw [hnu, if_pos rfl] at hT
        simp
        exact hfin _ _ _ _ _ (n + w) _ rfl (by rw [hT]) (by simp [hT, hWd])
      | false =>
        rw [hnu] at hT
        simp only [Bool.false_eq_true, if_false] at hT
        simp
        exact hfin _ _ _ _ _ (n + w) _ rfl (by rw [hT]) (by simp [hT])
    | false =>
      rw [hdb] at hT
      simp only [Bool.false_eq_true, if_false] at hT
      simp [hil, hil', hgi, hb, List.getElem_append_left]
      by_cases h34 : b = 34
      · rw [if_pos h34] at hT
        have h34' : (b.toNat : Int) = 34 := (byte_eq b 34).2 h34
        simp [h34']
        refine CallK_of (g4 _) ?_
        rintro x H1 ⟨k, rfl, rfl, hk2⟩
        have hst := strV_take (b :: r)
        have hse := strV_err (b :: r)
        generalize strV (b :: r) = SV at hT hk2 hst hse
        obtain ⟨S, e⟩ := SV
        simp only at hT hk2 hst hse
        simp
        rcases hse with rfl | rfl
        · simp only [if_true] at hT
          exact hfin _ _ _ _ _ k _ rfl (by rw [hT]) (by simp [hT, hst rfl, hk2 rfl])
        · simp at hT
          exact hfin _ _ _ _ _ k _ rfl (by rw [hT]) (by simp [hT])
      · rw [if_neg h34] at hT
        have h34' : ¬ (b.toNat : Int) = 34 := fun e => h34 ((byte_eq b 34).1 e)
        simp [h34']
        refine CallK_of' (g5 _) ?_
        have hgt := signV_take (b :: r)
        generalize signV (b :: r) = G at hT hgt
        by_cases hG : G = []
        · rw [if_pos hG] at hT
          simp [hG]
          exact hfin _ _ _ _ _ n _ rfl (by rw [hT]) (by simp [hT])
        · rw [if_neg hG] at hT
          simp [hG]
          exact hfin _ _ _ _ _ (n + G.length) _ rfl (by rw [hT]) (by simp [hT, hgt])

end
end Go.Zam

namespace Go.Zam
set_option linter.all false
set_option maxRecDepth 100000
set_option maxHeartbeats 1000000

/-- the character that a text begins with, how many bytes it has -/
def decU (s : Bs) : Nat × Nat := if s = [] then (65533, 0) else Lib.decodeN s.length (s.getD 0 0).toNat (s.getD 1 0).toNat (s.getD 2 0).toNat (s.getD 3 0).toNat

theorem decU_len {s : Bs} (h : s ≠ []) : 1 ≤ (decU s).2 ∧ (decU s).2 ≤ s.length := by
  have hl : 1 ≤ s.length := by cases s with
    | nil => exact absurd rfl h
    | cons a r => simp
  unfold decU
  rw [if_neg h]
  generalize (s.getD 0 0).toNat = b0
  generalize (s.getD 1 0).toNat = b1
  generalize (s.getD 2 0).toNat = b2
  generalize (s.getD 3 0).toNat = b3
  unfold Lib.decodeN
  (repeat' split) <;> simp only <;> omega

def badF : Nat → Bs → Nat → Int
  | 0, _, _ => -1
  | f + 1, s, n => if s = [] then -1 else if decU s = (65533, 1) then n else badF f (s.drop (decU s).2) (n + (decU s).2)
/-- where a text isn't UTF-8; -1: nowhere -/
def badS (s : Bs) : Int := badF s.length s 0

theorem badF_fuel : ∀ (f g : Nat) (s : Bs) (n : Nat), s.length ≤ f → s.length ≤ g → badF f s n = badF g s n
  | 0, 0, s, n, _, _ => rfl
  | 0, g + 1, s, n, h, _ => by
    have : s = [] := List.eq_nil_of_length_eq_zero (by omega)
    simp [badF, this]
  | f + 1, 0, s, n, _, h => by
    have : s = [] := List.eq_nil_of_length_eq_zero (by omega)
    simp [badF, this]
  | f + 1, g + 1, s, n, h1, h2 => by
    by_cases hs : s = []
    · simp [badF, hs]
    · simp only [badF, hs, if_false]
      split
      · rfl
      · have := decU_len hs
        exact badF_fuel f g _ _ (by simp; omega) (by simp; omega)

def DecodeOk (P : Program) (H0 : Hp) (f : FuncId) : Prop := ∀ (s : Bs) H, Pre0 H0 H → ACall P f [.d (.str s)] H (fun r H' => r = .tup [.d (.int .i32 ((decU s).1 : Int)), .d (.int .i64 ((decU s).2 : Int))] ∧ H' = H)

section
variable {P : Program}

theorem Has.bad {H0 : Hp} {f fd} (h : Has P f (irRnBad fd)) (hd : DecodeOk P H0 fd) (s : Bs) (hl : s.length ≤ 1048576) (H : Hp) (hH : Pre0 H0 H) : ACall P f [.d (.str s)] H (fun r H' => r = .d (.int .i64 (badS s)) ∧ H' = H) := by
  obtain ⟨fn, hf, hcf⟩ := h
  refine acall_fin hf hcf (by simp [irRnBad]) fun hcl _ => ?_
  simp [irRnBad]
  refine LoopK_outR 0 (fun fr H' => badS s = -1 ∧ H' = H) (fun fr H' => fr 2 = .d (.int .i64 (badS s)) ∧ H' = H) ?_ ?_ ?_
  · refine LoopM_of H.length (fun d fr H' => ∃ n : Nat, d = s.length - n ∧ n ≤ s.length ∧ badS s = badF (s.length - n) (s.drop n) n ∧ fr 0 = .d (.str s) ∧ fr 3 = .d (.int .i64 (n : Int)) ∧ H' = H) (s.length - 0) (by simp) ⟨0, rfl, by omega, rfl, ?_⟩ ?_
    · simp [cut_self hcl]
    rintro d fr H' ⟨n, rfl, hn, hb, f0, f3, rfl⟩
    simp [f0, f3]
    refine BrK_split (fun hlt => ?_) (fun hlt => ?_)
    · have hlt : n < s.length := by simpa using hlt
      have hne : s.drop n ≠ [] := fun e => by have := List.drop_eq_nil_iff.1 e; omega
      have hds := hd (s.drop n) H' hH
      have hdl := decU_len hne
      have hdr : ∀ k, (s.drop n).drop k = s.drop (n + k) := fun k => List.drop_drop ..
      have hfl : s.length - n = (s.length - n - 1) + 1 := by omega
      rw [hfl, badF, if_neg hne] at hb
      simp only [List.length_drop] at hdl
      simp [f0, f3, sub_end hn]
      refine CallK_of' hds ?_
      simp only [hdr] at hb
      generalize decU (s.drop n) = D at hb hdl
      obtain ⟨R, W⟩ := D
      simp only at hb hdl
      have hwr : IntKind.i64.wrap ((n : Int) + W) = ((n + W : Nat) : Int) := by rw [wrap_i64 (by omega) (by omega)]; omega
      simp
      by_cases hR : R = 65533
      · have hR' : (R : Int) = 65533 := by omega
        by_cases hW : W = 1
        · have hW' : (W : Int) = 1 := by omega
          rw [if_pos (by rw [hR, hW])] at hb
          simp [hR', hW', f3, hb]
        · have hW' : ¬ (W : Int) = 1 := by omega
          rw [if_neg (by simp [hW])] at hb
          simp [hR', hW', f3, hwr]
          refine NextM_of H'.length (s.length - (n + W)) (Nat.le_refl _) (by simp) (by omega) ⟨n + W, rfl, by omega, ?_, ?_⟩
          · rw [hb]; exact badF_fuel _ _ _ _ (by simp; omega) (by simp)
          · simp [f0, cut_self hcl]
      · have hR' : ¬ (R : Int) = 65533 := by omega
        rw [if_neg (by simp [hR])] at hb
        simp [hR', f3, hwr]
        refine NextM_of H'.length (s.length - (n + W)) (Nat.le_refl _) (by simp) (by omega) ⟨n + W, rfl, by omega, ?_, ?_⟩
        · rw [hb]; exact badF_fuel _ _ _ _ (by simp; omega) (by simp)
        · simp [f0, cut_self hcl]
    · have hge : n = s.length := by have : ¬ (n < s.length) := by simpa using hlt
                                    omega
      have : badS s = -1 := by rw [hb, hge]; simp [badF]
      simp [this]
  · rintro fr H' ⟨f2, rfl⟩
    simp
    simp [RetK, cut_self hcl, f2]
  · rintro fr H' ⟨hb, rfl⟩
    simp
    simp [RetK, cut_self hcl, hb]

end

/-- a token -/
structure Tk where
  k : Int
  a : Nat
  l : Bs
  x : Bs
def encTk (t : Tk) : List D := [.int .i64 t.k, .int .i64 (t.a : Int), .str t.l, .str t.x]

section
variable {P : Program}

end
end Go.Zam

namespace Go.Zam
set_option linter.all false
set_option maxRecDepth 100000
set_option maxHeartbeats 1000000

section
variable {P : Program}

end
end Go.Zam

namespace Go.Zam
set_option linter.all false
set_option maxRecDepth 100000
set_option maxHeartbeats 1000000

/-- a node: its kind, where it begins and ends, its word and where that stands, what is below (and whether that is nil, if it is nothing) -/
inductive N where
  | mk (k f t : Int) (w : Bs) (a : Int) (z : Bool) (ks : List N)

namespace N
def k : N → Int | .mk k .. => k
def f : N → Int | .mk _ f .. => f
def t : N → Int | .mk _ _ t .. => t
def w : N → Bs | .mk _ _ _ w .. => w
def at_ : N → Int | .mk _ _ _ _ a _ _ => a
def ks : N → List N | .mk _ _ _ _ _ _ ks => ks
def new (k f t : Int) (w : Bs) (a : Int) (ks : List N) : N := .mk k f t w a ks.isEmpty ks

mutual
def enc : N → List D
  | .mk k f t w a z ks => [.int .i64 k, .int .i64 f, .int .i64 t, .str w, .int .i64 a, .sl z 6 (encs ks)]
def encs : List N → List (List D)
  | [] => []
  | p :: r => enc p :: encs r
end
def v (n : N) : A := .agg (n.enc.map .d)
mutual
theorem ind {Q : N → Prop} (h : ∀ k f t w a z ks, (∀ p ∈ ks, Q p) → Q (.mk k f t w a z ks)) : ∀ n, Q n
  | .mk k f t w a z ks => h k f t w a z ks (inds h ks)
theorem inds {Q : N → Prop} (h : ∀ k f t w a z ks, (∀ p ∈ ks, Q p) → Q (.mk k f t w a z ks)) : ∀ l : List N, ∀ p ∈ l, Q p
  | [] => fun p hp => by simp at hp
  | x :: r => fun p hp => (List.mem_cons.1 hp).elim (fun e => e ▸ ind h x) (fun hp => inds h r p hp)
end
def none : N := new 0 0 0 [] 0 []
def bag (ks : List N) : N := new 0 0 0 [] 0 ks
end N

/-- what going through tokens comes to: there wasn't time; the token at which it can't go on; a tree, and what is next -/
inductive PR where
  | out
  | bad (i : Nat)
  | ok (n : N) (i : Nat)

def PR.then : PR → (N → Nat → PR) → PR
  | .out, _ => .out
  | .bad i, _ => .bad i
  | .ok n i, h => h n i

/-- what may be wanted -/
inductive G where
  | file (ks : List N) | use | defn | params | param | typed | kind | tfield | block | stmts (ks : List N) | stmt
  | expr | sum | sumL (a : N) | term | termL (a : N) | post | postL (a : N) | atom | entry
  | list (one : G) (e : Bs) | listL (one : G) (e : Bs) (ks : List N)

/-- a key or a sign stands there -/
def isT (L : List Tk) (i : Nat) (x : Bs) : Bool := match L[i]? with
  | some t => (decide (t.k = 2) || decide (t.k = 5)) && decide (t.x = x)
  | none => false
/-- the kind of the token there -/
def kdT (L : List Tk) (i : Nat) : Int := match L[i]? with
  | some t => t.k
  | none => 0
def txT (L : List Tk) (i : Nat) : Bs := match L[i]? with
  | some t => t.x
  | none => []

def kUse : Bs := [117, 115, 101]
def kDef : Bs := [100, 101, 102]
def kInt : Bs := [105, 110, 116]
def kStr : Bs := [115, 116, 114]
def kDyn : Bs := [100, 121, 110]
def kFn : Bs := [102, 110]
def kIf : Bs := [105, 102]
def kElse : Bs := [101, 108, 115, 101]
def kWhile : Bs := [119, 104, 105, 108, 101]
def kLet : Bs := [108, 101, 116]
def kPrint : Bs := [112, 114, 105, 110, 116]
def kReturn : Bs := [114, 101, 116, 117, 114, 110]
def kInput : Bs := [105, 110, 112, 117, 116]

def wantR (L : List Tk) (i : Nat) (x : Bs) (h : Nat → PR) : PR := if isT L i x then h (i + 1) else .bad i
def wordR (L : List Tk) (i : Nat) (h : Bs → Nat → PR) : PR := if kdT L i = 1 then h (txT L i) (i + 1) else .bad i

/-- a tree out of tokens -/
def pp (L : List Tk) : Nat → G → Nat → PR
  | 0, _, _ => .out
  | n + 1, g, i => match g with
    | .file ks => if kdT L i = 0 then .ok (N.new 1 0 i [] 0 ks) i
        else if isT L i kUse then (pp L n .use i).then fun m j => pp L n (.file (ks ++ [m])) j else (pp L n .defn i).then fun m j => pp L n (.file (ks ++ [m])) j
    | .use => wantR L i kUse fun _ => wordR L (i + 1) fun m _ => wantR L (i + 2) [46] fun _ => wordR L (i + 3) fun w _ => wantR L (i + 4) [59] fun _ =>
        .ok (N.new 2 i (i + 5) w (i + 3) [N.new 23 (i + 1) (i + 2) m (i + 1) []]) (i + 5)
    | .defn => wantR L i kDef fun _ => wordR L (i + 1) fun w _ => (pp L n .params (i + 2)).then fun p j => (pp L n .typed j).then fun t j => (pp L n .block j).then fun b j => .ok (N.new 3 i j w (i + 1) [p, t, b]) j
    | .params => wantR L i [40] fun _ => (pp L n (.list .param [41]) (i + 1)).then fun m j => .ok (N.new 4 i j [] 0 m.ks) j
    | .param => wordR L i fun w _ => (pp L n .typed (i + 1)).then fun t j => .ok (N.new 5 i j w i [t]) j
    | .typed => if isT L i [58] then pp L n .kind (i + 1) else .ok N.none i
    | .kind => if isT L i kInt then .ok (N.new 29 i (i + 1) [] 0 []) (i + 1) else if isT L i kStr then .ok (N.new 30 i (i + 1) [] 0 []) (i + 1) else if isT L i kDyn then .ok (N.new 31 i (i + 1) [] 0 []) (i + 1)
        else if isT L i [123] then (pp L n (.list .tfield [125]) (i + 1)).then fun m j => .ok (N.new 32 i j [] 0 m.ks) j
        else wantR L i kFn fun _ => wantR L (i + 1) [40] fun _ => (pp L n (.list .kind [41]) (i + 2)).then fun m j => wantR L j [58] fun _ => (pp L n .kind (j + 1)).then fun t j => .ok (N.new 34 i j [] 0 (m.ks ++ [t])) j
    | .tfield => wordR L i fun w _ => wantR L (i + 1) [58] fun _ => (pp L n .kind (i + 2)).then fun t j => .ok (N.new 33 i j w i [t]) j
    | .block => wantR L i [123] fun _ => (pp L n (.stmts []) (i + 1)).then fun m j => .ok (N.new 6 i j [] 0 m.ks) j
    | .stmts ks => if isT L i [125] then .ok (N.bag ks) (i + 1) else (pp L n .stmt i).then fun m j => pp L n (.stmts (ks ++ [m])) j
    | .stmt => if isT L i kLet then wordR L (i + 1) fun w _ => (pp L n .typed (i + 2)).then fun t j => wantR L j [61] fun _ => (pp L n .expr (j + 1)).then fun x j => wantR L j [59] fun _ => .ok (N.new 7 i (j + 1) w (i + 1) [t, x]) (j + 1)
        else if isT L i kIf then (pp L n .expr (i + 1)).then fun c j => (pp L n .block j).then fun b j =>
          if isT L j kElse then (pp L n .block (j + 1)).then fun o j => .ok (N.new 9 i j [] 0 [c, b, o]) j else .ok (N.new 9 i j [] 0 [c, b, N.none]) j
        else if isT L i kWhile then (pp L n .expr (i + 1)).then fun c j => (pp L n .block j).then fun b j => .ok (N.new 10 i j [] 0 [c, b]) j
        else if isT L i kPrint then (pp L n .expr (i + 1)).then fun x j => wantR L j [59] fun _ => .ok (N.new 11 i (j + 1) [] 0 [x]) (j + 1)
        else if isT L i kReturn then (pp L n .expr (i + 1)).then fun x j => wantR L j [59] fun _ => .ok (N.new 12 i (j + 1) [] 0 [x]) (j + 1)
        else if kdT L i = 1 ∧ isT L (i + 1) [61] = true then (pp L n .expr (i + 2)).then fun x j => wantR L j [59] fun _ => .ok (N.new 8 i (j + 1) (txT L i) i [x]) (j + 1)
        else (pp L n .expr i).then fun x j => wantR L j [59] fun _ => .ok (N.new 13 i (j + 1) [] 0 [x]) (j + 1)
    | .expr => (pp L n .sum i).then fun a j => if isT L j [60] then (pp L n .sum (j + 1)).then fun b j => .ok (N.new 14 a.f j [] 0 [a, b]) j
        else if isT L j [61, 61] then (pp L n .sum (j + 1)).then fun b j => .ok (N.new 15 a.f j [] 0 [a, b]) j else .ok a j
    | .sum => (pp L n .term i).then fun a j => pp L n (.sumL a) j
    | .sumL a => if isT L i [43] then (pp L n .term (i + 1)).then fun b j => pp L n (.sumL (N.new 16 a.f j [] 0 [a, b])) j
        else if isT L i [45] then (pp L n .term (i + 1)).then fun b j => pp L n (.sumL (N.new 17 a.f j [] 0 [a, b])) j else .ok a i
    | .term => (pp L n .post i).then fun a j => pp L n (.termL a) j
    | .termL a => if isT L i [42] then (pp L n .post (i + 1)).then fun b j => pp L n (.termL (N.new 18 a.f j [] 0 [a, b])) j else .ok a i
    | .post => (pp L n .atom i).then fun a j => pp L n (.postL a) j
    | .postL a => if isT L i [46] then wordR L (i + 1) fun w j => pp L n (.postL (N.new 19 a.f j w (i + 1) [a])) j
        else if isT L i [40] then (pp L n (.list .expr [41]) (i + 1)).then fun m j => pp L n (.postL (N.new 20 a.f j [] 0 (a :: m.ks))) j else .ok a i
    | .atom => if kdT L i = 3 then .ok (N.new 21 i (i + 1) (txT L i) i []) (i + 1) else if kdT L i = 4 then .ok (N.new 22 i (i + 1) (txT L i) i []) (i + 1) else if kdT L i = 1 then .ok (N.new 23 i (i + 1) (txT L i) i []) (i + 1)
        else if isT L i kInput then .ok (N.new 24 i (i + 1) [] 0 []) (i + 1)
        else if isT L i [40] then (pp L n .expr (i + 1)).then fun x j => wantR L j [41] fun _ => .ok (N.new 25 i (j + 1) [] 0 [x]) (j + 1)
        else if isT L i [123] then (pp L n (.list .entry [125]) (i + 1)).then fun m j => .ok (N.new 26 i j [] 0 m.ks) j
        else wantR L i kFn fun _ => (pp L n .params (i + 1)).then fun p j => (pp L n .typed j).then fun t j => (pp L n .block j).then fun b j => .ok (N.new 28 i j [] 0 [p, t, b]) j
    | .entry => wordR L i fun w _ => wantR L (i + 1) [58] fun _ => (pp L n .expr (i + 2)).then fun x j => .ok (N.new 27 i j w i [x]) j
    | .list one e => if isT L i e then .ok (N.bag []) (i + 1) else pp L n (.listL one e []) i
    | .listL one e ks => (pp L n one i).then fun x j => if isT L j e then .ok (N.bag (ks ++ [x])) (j + 1) else wantR L j [44] fun j => pp L n (.listL one e (ks ++ [x])) j

/-! it goes on, and there is time -/

def G.strict : G → Bool
  | .file _ | .typed | .sumL _ | .termL _ | .postL _ => false
  | _ => true

theorem isT_lt {L : List Tk} {i : Nat} {x : Bs} (h : isT L i x = true) : i < L.length := by
  unfold isT at h
  split at h
  · rename_i t e; exact (List.getElem?_eq_some_iff.1 e).1
  · cases h
theorem kdT_lt {L : List Tk} {i : Nat} (h : kdT L i ≠ 0) : i < L.length := by
  unfold kdT at h
  split at h
  · rename_i t e; exact (List.getElem?_eq_some_iff.1 e).1
  · exact absurd rfl h

/-- what comes behind a place -/
def Adv (L : List Tk) (i : Nat) (s : Bool) : PR → Prop
  | .ok _ j => i ≤ j ∧ (s = true → i < j) ∧ (i < j → j ≤ L.length)
  | _ => True

section
variable {L : List Tk}

theorem Adv.ok {i j : Nat} {s : Bool} {m : N} (h1 : i ≤ j) (h2 : s = true → i < j) (h3 : i < j → j ≤ L.length) : Adv L i s (.ok m j) := ⟨h1, h2, h3⟩
theorem Adv.bad {i j : Nat} {s : Bool} : Adv L i s (.bad j) := trivial
theorem Adv.want {i k : Nat} {s : Bool} {x : Bs} {h : Nat → PR} (hh : k + 1 ≤ L.length → Adv L i s (h (k + 1))) : Adv L i s (wantR L k x h) := by
  unfold wantR
  split
  · rename_i e; exact hh (isT_lt e)
  · trivial
theorem Adv.word {i k : Nat} {s : Bool} {h : Bs → Nat → PR} (hh : k + 1 ≤ L.length → Adv L i s (h (txT L k) (k + 1))) : Adv L i s (wordR L k h) := by
  unfold wordR
  split
  · rename_i e; exact hh (kdT_lt (by omega))
  · trivial
theorem Adv.last {n : Nat} (ih : ∀ g i, Adv L i g.strict (pp L n g i)) {g : G} {k i : Nat} {s : Bool} (h1 : i ≤ k) (h2 : i < k → k ≤ L.length) (h3 : s = true → g.strict = true ∨ i < k) : Adv L i s (pp L n g k) := by
  have := ih g k
  generalize pp L n g k = r at this
  cases r with
  | out => trivial
  | bad j => trivial
  | ok m j =>
    obtain ⟨a1, a2, a3⟩ := this
    refine ⟨by omega, fun h => ?_, fun h => by omega⟩
    rcases h3 h with h | h
    · have := a2 h; omega
    · omega
/-! there is time -/

def G.c : G → Nat
  | .file _ => 7 | .use => 1 | .defn => 6 | .params => 5 | .param => 2 | .typed => 1 | .kind => 1 | .tfield => 2 | .block => 1 | .stmts _ => 7 | .stmt => 6
  | .expr => 5 | .sum => 4 | .sumL _ => 1 | .term => 3 | .termL _ => 1 | .post => 2 | .postL _ => 1 | .atom => 1 | .entry => 6
  | .list o _ => o.c + 2 | .listL o _ _ => o.c + 1
theorem In.want {k : Nat} {x : Bs} {h : Nat → PR} (hh : k + 1 ≤ L.length → h (k + 1) ≠ .out) : wantR L k x h ≠ .out := by
  unfold wantR
  split
  · rename_i e; exact hh (isT_lt e)
  · intro h; cases h
theorem In.word {k : Nat} {h : Bs → Nat → PR} (hh : k + 1 ≤ L.length → h (txT L k) (k + 1) ≠ .out) : wordR L k h ≠ .out := by
  unfold wordR
  split
  · rename_i e; exact hh (kdT_lt (by omega))
  · intro h; cases h
end
end Go.Zam

namespace Go.Zam
set_option linter.all false
set_option maxRecDepth 100000

def irPNow (t1 : Nat) : IFn :=
 { nt := 24, res := [.cell 2 4 true], body := (
  .seq (.ops [
    ⟨(some 2), none, .alloc t1 [(.int .i64 0), (.int .i64 0), (.str []), (.str [])]⟩] false)
  (.seq (.seq (.ops [
     ⟨(some 3), none, .mv (.t 0)⟩,
     ⟨(some 4), none, .nilCheck (.t 3)⟩,
     ⟨(some 5), none, .faddr 1 (.t 4)⟩,
     ⟨(some 6), none, .load 1 false (.t 5)⟩,
     ⟨(some 7), none, .mv (.t 0)⟩,
     ⟨(some 8), none, .nilCheck (.t 7)⟩,
     ⟨(some 9), none, .faddr 0 (.t 8)⟩,
     ⟨(some 10), none, .load 1 false (.t 9)⟩,
     ⟨(some 11), none, .lenL (.t 10)⟩,
     ⟨(some 12), none, .bin .lss (.t 6) (.t 11)⟩] true)
   (.cond (.t 12) (.seq (.ops [
      ⟨(some 13), none, .mv (.t 0)⟩,
      ⟨(some 14), none, .nilCheck (.t 13)⟩,
      ⟨(some 15), none, .faddr 0 (.t 14)⟩,
      ⟨(some 16), none, .load 1 false (.t 15)⟩,
      ⟨(some 17), none, .mv (.t 0)⟩,
      ⟨(some 18), none, .nilCheck (.t 17)⟩,
      ⟨(some 19), none, .faddr 1 (.t 18)⟩,
      ⟨(some 20), none, .load 1 false (.t 19)⟩,
      ⟨(some 21), none, .iaddr 4 (.t 16) (.t 20)⟩,
      ⟨(some 22), none, .load 4 true (.t 21)⟩,
      ⟨none, none, .store 4 (.t 2) (.t 22)⟩] true)
    (.ret))
   (.skip)))
  (.seq (.ops [
    ⟨(some 23), none, .build [(.int .i64 0), (.int .i64 0), (.str []), (.str [])] []⟩,
    ⟨none, none, .store 4 (.t 2) (.t 23)⟩] false)
  (.ret)))) }

def irPFail : IFn :=
 { nt := 20, res := [], body := (
  .seq (.ops [
    ⟨(some 4), none, .mv (.t 0)⟩,
    ⟨(some 5), none, .nilCheck (.t 4)⟩,
    ⟨(some 6), none, .faddr 2 (.t 5)⟩,
    ⟨(some 7), none, .load 1 false (.t 6)⟩,
    ⟨(some 8), none, .bin .eql (.t 7) (.c (.int .i64 0))⟩] false)
  (.cond (.t 8) (.ops [
    ⟨(some 9), none, .mv (.t 0)⟩,
    ⟨(some 10), none, .mv (.t 0)⟩,
    ⟨(some 11), none, .mv (.t 1)⟩,
    ⟨(some 12), none, .mv (.t 0)⟩,
    ⟨(some 13), none, .nilCheck (.t 12)⟩,
    ⟨(some 14), none, .faddr 1 (.t 13)⟩,
    ⟨(some 15), none, .load 1 false (.t 14)⟩,
    ⟨(some 16), none, .nilCheck (.t 9)⟩,
    ⟨(some 17), none, .faddr 2 (.t 16)⟩,
    ⟨none, none, .store 1 (.t 17) (.t 11)⟩,
    ⟨(some 18), none, .nilCheck (.t 10)⟩,
    ⟨(some 19), none, .faddr 3 (.t 18)⟩,
    ⟨none, none, .store 1 (.t 19) (.t 15)⟩] false)
  (.skip))) }

def irPIs (c1 t1 : Nat) : IFn :=
 { nt := 22, res := [.t 4], body := (
  .seq (.ops [
    ⟨(some 4), none, .mv (.c (.bool false))⟩] false)
  (.seq (.ops [
    ⟨(some 6), none, .mv (.t 0)⟩,
    ⟨(some 7), none, .call c1 [(.t 6)]⟩,
    ⟨(some 5), none, .alloc t1 [(.int .i64 0), (.int .i64 0), (.str []), (.str [])]⟩,
    ⟨none, none, .store 4 (.t 5) (.t 7)⟩] false)
  (.seq (.ops [
    ⟨(some 8), none, .faddr 0 (.t 5)⟩,
    ⟨(some 9), none, .load 1 false (.t 8)⟩,
    ⟨(some 10), none, .bin .eql (.t 9) (.c (.int .i64 2))⟩,
    ⟨(some 11), none, .mv (.t 10)⟩,
    ⟨(some 12), (some (11, false)), .faddr 0 (.t 5)⟩,
    ⟨(some 13), (some (11, false)), .load 1 false (.t 12)⟩,
    ⟨(some 14), (some (11, false)), .bin .eql (.t 13) (.c (.int .i64 5))⟩,
    ⟨(some 15), none, .pick (.t 11) (.c (.bool true)) (.t 14)⟩,
    ⟨(some 16), none, .mv (.t 15)⟩,
    ⟨(some 17), (some (16, true)), .faddr 3 (.t 5)⟩,
    ⟨(some 18), (some (16, true)), .load 1 false (.t 17)⟩,
    ⟨(some 19), (some (16, true)), .mv (.t 1)⟩,
    ⟨(some 20), (some (16, true)), .bin .eql (.t 18) (.t 19)⟩,
    ⟨(some 21), none, .pick (.t 16) (.t 20) (.c (.bool false))⟩,
    ⟨(some 4), none, .mv (.t 21)⟩] false)
  (.ret)))) }

def irPTook (c1 : Nat) : IFn :=
 { nt := 23, res := [.t 4], body := (
  .seq (.ops [
    ⟨(some 4), none, .mv (.c (.bool false))⟩] false)
  (.seq (.seq (.ops [
     ⟨(some 5), none, .mv (.t 0)⟩,
     ⟨(some 6), none, .nilCheck (.t 5)⟩,
     ⟨(some 7), none, .faddr 2 (.t 6)⟩,
     ⟨(some 8), none, .load 1 false (.t 7)⟩,
     ⟨(some 9), none, .bin .neq (.t 8) (.c (.int .i64 0))⟩,
     ⟨(some 10), none, .mv (.t 9)⟩,
     ⟨(some 11), (some (10, false)), .mv (.t 0)⟩,
     ⟨(some 12), (some (10, false)), .mv (.t 1)⟩,
     ⟨(some 13), (some (10, false)), .call c1 [(.t 11), (.t 12)]⟩,
     ⟨(some 14), (some (10, false)), .un .not (.t 13)⟩,
     ⟨(some 15), none, .pick (.t 10) (.c (.bool true)) (.t 14)⟩] false)
   (.cond (.t 15) (.seq (.ops [
      ⟨(some 4), none, .mv (.c (.bool false))⟩] false)
    (.ret))
   (.skip)))
  (.seq (.ops [
    ⟨(some 16), none, .mv (.t 0)⟩,
    ⟨(some 17), none, .nilCheck (.t 16)⟩,
    ⟨(some 18), none, .faddr 1 (.t 17)⟩,
    ⟨(some 19), none, .load 1 false (.t 18)⟩,
    ⟨(some 20), none, .bin .add (.t 19) (.c (.int .i64 1))⟩,
    ⟨(some 21), none, .nilCheck (.t 16)⟩,
    ⟨(some 22), none, .faddr 1 (.t 21)⟩,
    ⟨none, none, .store 1 (.t 22) (.t 20)⟩] false)
  (.seq (.ops [
    ⟨(some 4), none, .mv (.c (.bool true))⟩] false)
  (.ret))))) }

def irPWant (c1 c2 : Nat) : IFn :=
 { nt := 10, res := [], body := (
  .seq (.ops [
    ⟨(some 4), none, .mv (.t 0)⟩,
    ⟨(some 5), none, .mv (.t 1)⟩,
    ⟨(some 6), none, .call c1 [(.t 4), (.t 5)]⟩,
    ⟨(some 7), none, .un .not (.t 6)⟩] false)
  (.cond (.t 7) (.ops [
    ⟨(some 8), none, .mv (.t 0)⟩,
    ⟨(some 9), none, .call c2 [(.t 8), (.c (.int .i64 24))]⟩] false)
  (.skip))) }

def irPWord (c1 c2 t1 : Nat) : IFn :=
 { nt := 36, res := [], body := (
  .seq (.ops [
    ⟨(some 5), none, .mv (.t 0)⟩,
    ⟨(some 6), none, .call c1 [(.t 5)]⟩,
    ⟨(some 4), none, .alloc t1 [(.int .i64 0), (.int .i64 0), (.str []), (.str [])]⟩,
    ⟨none, none, .store 4 (.t 4) (.t 6)⟩] false)
  (.seq (.seq (.ops [
     ⟨(some 7), none, .faddr 0 (.t 4)⟩,
     ⟨(some 8), none, .load 1 false (.t 7)⟩,
     ⟨(some 9), none, .bin .neq (.t 8) (.c (.int .i64 1))⟩] false)
   (.cond (.t 9) (.ops [
     ⟨(some 10), none, .mv (.t 0)⟩,
     ⟨(some 11), none, .call c2 [(.t 10), (.c (.int .i64 24))]⟩] false)
   (.skip)))
  (.seq (.ops [
    ⟨(some 12), none, .mv (.t 0)⟩,
    ⟨(some 13), none, .nilCheck (.t 12)⟩,
    ⟨(some 14), none, .faddr 2 (.t 13)⟩,
    ⟨(some 15), none, .load 1 false (.t 14)⟩,
    ⟨(some 16), none, .bin .eql (.t 15) (.c (.int .i64 0))⟩] false)
  (.cond (.t 16) (.seq (.ops [
     ⟨(some 17), none, .mv (.t 1)⟩,
     ⟨(some 18), none, .mv (.t 1)⟩,
     ⟨(some 19), none, .faddr 3 (.t 4)⟩,
     ⟨(some 20), none, .load 1 false (.t 19)⟩,
     ⟨(some 21), none, .mv (.t 0)⟩,
     ⟨(some 22), none, .nilCheck (.t 21)⟩,
     ⟨(some 23), none, .faddr 1 (.t 22)⟩,
     ⟨(some 24), none, .load 1 false (.t 23)⟩,
     ⟨(some 25), none, .nilCheck (.t 17)⟩,
     ⟨(some 26), none, .faddr 3 (.t 25)⟩,
     ⟨none, none, .store 1 (.t 26) (.t 20)⟩,
     ⟨(some 27), none, .nilCheck (.t 18)⟩,
     ⟨(some 28), none, .faddr 4 (.t 27)⟩,
     ⟨none, none, .store 1 (.t 28) (.t 24)⟩] true)
   (.ops [
    ⟨(some 29), none, .mv (.t 0)⟩,
    ⟨(some 30), none, .nilCheck (.t 29)⟩,
    ⟨(some 31), none, .faddr 1 (.t 30)⟩,
    ⟨(some 32), none, .load 1 false (.t 31)⟩,
    ⟨(some 33), none, .bin .add (.t 32) (.c (.int .i64 1))⟩,
    ⟨(some 34), none, .nilCheck (.t 29)⟩,
    ⟨(some 35), none, .faddr 1 (.t 34)⟩,
    ⟨none, none, .store 1 (.t 35) (.t 33)⟩] false))
  (.skip))))) }

def irPNode (t1 : Nat) : IFn :=
 { nt := 11, res := [.cell 4 6 true], body := (
  .seq (.ops [
    ⟨(some 4), none, .alloc t1 [(.int .i64 0), (.int .i64 0), (.int .i64 0), (.str []), (.int .i64 0), (.sl true 6 [])]⟩] false)
  (.seq (.ops [
    ⟨(some 5), none, .mv (.t 1)⟩,
    ⟨(some 6), none, .mv (.t 0)⟩,
    ⟨(some 7), none, .nilCheck (.t 6)⟩,
    ⟨(some 8), none, .faddr 1 (.t 7)⟩,
    ⟨(some 9), none, .load 1 false (.t 8)⟩,
    ⟨(some 10), none, .buildT [(5, 6, t1)] [(.int .i64 0), (.int .i64 0), (.int .i64 0), (.str []), (.int .i64 0), (.sl true 6 [])] [(0, 1, (.t 5)), (1, 1, (.t 9))]⟩,
    ⟨none, none, .store 6 (.t 4) (.t 10)⟩] false)
  (.ret))) }

def irPDone (t1 : Nat) : IFn :=
 { nt := 11, res := [.cell 4 6 true], body := (
  .seq (.ops [
    ⟨(some 3), none, .box t1 6 (.t 1)⟩,
    ⟨(some 4), none, .alloc t1 [(.int .i64 0), (.int .i64 0), (.int .i64 0), (.str []), (.int .i64 0), (.sl true 6 [])]⟩] false)
  (.seq (.ops [
    ⟨(some 5), none, .mv (.t 0)⟩,
    ⟨(some 6), none, .nilCheck (.t 5)⟩,
    ⟨(some 7), none, .faddr 1 (.t 6)⟩,
    ⟨(some 8), none, .load 1 false (.t 7)⟩,
    ⟨(some 9), none, .faddr 2 (.t 3)⟩,
    ⟨none, none, .store 1 (.t 9) (.t 8)⟩] false)
  (.seq (.ops [
    ⟨(some 10), none, .load 6 true (.t 3)⟩,
    ⟨none, none, .store 6 (.t 4) (.t 10)⟩] false)
  (.ret)))) }

def irPPut (t1 : Nat) : IFn :=
 { nt := 13, res := [], body := (
  .ops [
   ⟨(some 4), none, .mv (.t 0)⟩,
   ⟨(some 5), none, .mv (.t 0)⟩,
   ⟨(some 6), none, .nilCheck (.t 5)⟩,
   ⟨(some 7), none, .faddr 5 (.t 6)⟩,
   ⟨(some 8), none, .load 1 false (.t 7)⟩,
   ⟨(some 9), none, .mv (.t 1)⟩,
   ⟨(some 10), none, .app 6 72 t1 (.t 8) (.t 9)⟩,
   ⟨(some 11), none, .nilCheck (.t 4)⟩,
   ⟨(some 12), none, .faddr 5 (.t 11)⟩,
   ⟨none, none, .store 1 (.t 12) (.t 10)⟩] false) }

def irPList (c1 c2 c3 : Nat) : IFn :=
 { nt := 26, res := [], body := (
  .seq (.seq (.ops [
     ⟨(some 8), none, .mv (.t 0)⟩,
     ⟨(some 9), none, .mv (.t 2)⟩,
     ⟨(some 10), none, .call c1 [(.t 8), (.t 9)]⟩] false)
   (.cond (.t 10) (.ret)
   (.skip)))
  (.blk 0 (.loop (.seq (.seq (.ops [
       ⟨(some 11), none, .mv (.t 0)⟩,
       ⟨(some 12), none, .nilCheck (.t 11)⟩,
       ⟨(some 13), none, .faddr 2 (.t 12)⟩,
       ⟨(some 14), none, .load 1 false (.t 13)⟩,
       ⟨(some 15), none, .bin .eql (.t 14) (.c (.int .i64 0))⟩] false)
     (.cond (.t 15) (.skip)
     (.exit 0)))
    (.blk 1 (.seq (.ops [
       ⟨(some 16), none, .mv (.t 1)⟩,
       ⟨(some 17), none, .mv (.t 3)⟩,
       ⟨(some 18), none, .callv (.t 17) []⟩,
       ⟨(some 19), none, .bslice 6 [(.t 18)]⟩,
       ⟨(some 20), none, .call c2 [(.t 16), (.t 19)]⟩] false)
     (.seq (.seq (.ops [
        ⟨(some 21), none, .mv (.t 0)⟩,
        ⟨(some 22), none, .mv (.t 2)⟩,
        ⟨(some 23), none, .call c1 [(.t 21), (.t 22)]⟩] false)
      (.cond (.t 23) (.ret)
      (.skip)))
     (.ops [
      ⟨(some 24), none, .mv (.t 0)⟩,
      ⟨(some 25), none, .call c3 [(.t 24), (.c (.str [44]))]⟩] false)))))))) }

def irPFile (c1 c2 c3 c4 c5 c6 c7 c8 t1 : Nat) : IFn :=
 { nt := 36, res := [.cell 2 6 true], body := (
  .seq (.ops [
    ⟨(some 2), none, .alloc t1 [(.int .i64 0), (.int .i64 0), (.int .i64 0), (.str []), (.int .i64 0), (.sl true 6 [])]⟩] false)
  (.seq (.ops [
    ⟨(some 4), none, .mv (.t 0)⟩,
    ⟨(some 5), none, .call c1 [(.t 4), (.c (.int .i64 1))]⟩,
    ⟨(some 3), none, .alloc t1 [(.int .i64 0), (.int .i64 0), (.int .i64 0), (.str []), (.int .i64 0), (.sl true 6 [])]⟩,
    ⟨none, none, .store 6 (.t 3) (.t 5)⟩] false)
  (.seq (.blk 0 (.loop (.seq (.seq (.ops [
        ⟨(some 6), none, .mv (.t 0)⟩,
        ⟨(some 7), none, .nilCheck (.t 6)⟩,
        ⟨(some 8), none, .faddr 2 (.t 7)⟩,
        ⟨(some 9), none, .load 1 false (.t 8)⟩,
        ⟨(some 10), none, .bin .eql (.t 9) (.c (.int .i64 0))⟩,
        ⟨(some 11), none, .mv (.t 10)⟩,
        ⟨(some 12), (some (11, true)), .mv (.t 0)⟩,
        ⟨(some 13), (some (11, true)), .call c2 [(.t 12)]⟩,
        ⟨(some 14), (some (11, true)), .fld 0 1 false (.t 13)⟩,
        ⟨(some 15), (some (11, true)), .bin .neq (.t 14) (.c (.int .i64 0))⟩,
        ⟨(some 16), none, .pick (.t 11) (.t 15) (.c (.bool false))⟩] false)
      (.cond (.t 16) (.skip)
      (.exit 0)))
     (.blk 1 (.blk 2 (.seq (.ops [
         ⟨(some 20), none, .mv (.t 0)⟩,
         ⟨(some 21), none, .call c3 [(.t 20), (.c (.str [117, 115, 101]))]⟩,
         ⟨(some 19), none, .mv (.t 21)⟩] false)
       (.cond (.t 19) (.ops [
         ⟨(some 22), none, .mv (.t 0)⟩,
         ⟨(some 23), none, .call c4 [(.t 22)]⟩,
         ⟨(some 24), none, .bslice 6 [(.t 23)]⟩,
         ⟨(some 25), none, .call c5 [(.t 3), (.t 24)]⟩] false)
       (.seq (.ops [
          ⟨(some 27), none, .mv (.t 0)⟩,
          ⟨(some 28), none, .call c3 [(.t 27), (.c (.str [100, 101, 102]))]⟩,
          ⟨(some 26), none, .mv (.t 28)⟩] false)
        (.cond (.t 26) (.ops [
          ⟨(some 29), none, .mv (.t 0)⟩,
          ⟨(some 30), none, .call c6 [(.t 29)]⟩,
          ⟨(some 31), none, .bslice 6 [(.t 30)]⟩,
          ⟨(some 32), none, .call c5 [(.t 3), (.t 31)]⟩] false)
        (.ops [
          ⟨(some 17), none, .mv (.t 0)⟩,
          ⟨(some 18), none, .call c7 [(.t 17), (.c (.int .i64 24))]⟩] false))))))))))
  (.seq (.ops [
    ⟨(some 33), none, .mv (.t 0)⟩,
    ⟨(some 34), none, .load 6 true (.t 3)⟩,
    ⟨(some 35), none, .call c8 [(.t 33), (.t 34)]⟩,
    ⟨none, none, .store 6 (.t 2) (.t 35)⟩] false)
  (.ret))))) }

def irPUse (c1 c2 c3 c4 c5 t1 : Nat) : IFn :=
 { nt := 27, res := [.cell 2 6 true], body := (
  .seq (.ops [
    ⟨(some 2), none, .alloc t1 [(.int .i64 0), (.int .i64 0), (.int .i64 0), (.str []), (.int .i64 0), (.sl true 6 [])]⟩] false)
  (.seq (.ops [
    ⟨(some 5), none, .mv (.t 0)⟩,
    ⟨(some 6), none, .call c1 [(.t 5), (.c (.int .i64 2))]⟩,
    ⟨(some 3), none, .alloc t1 [(.int .i64 0), (.int .i64 0), (.int .i64 0), (.str []), (.int .i64 0), (.sl true 6 [])]⟩,
    ⟨none, none, .store 6 (.t 3) (.t 6)⟩] false)
  (.seq (.ops [
    ⟨(some 7), none, .mv (.t 0)⟩,
    ⟨(some 8), none, .call c2 [(.t 7), (.c (.str [117, 115, 101]))]⟩] false)
  (.seq (.ops [
    ⟨(some 9), none, .mv (.t 0)⟩,
    ⟨(some 10), none, .call c1 [(.t 9), (.c (.int .i64 23))]⟩,
    ⟨(some 4), none, .alloc t1 [(.int .i64 0), (.int .i64 0), (.int .i64 0), (.str []), (.int .i64 0), (.sl true 6 [])]⟩,
    ⟨none, none, .store 6 (.t 4) (.t 10)⟩] false)
  (.seq (.ops [
    ⟨(some 11), none, .mv (.t 0)⟩,
    ⟨(some 12), none, .call c3 [(.t 11), (.t 4)]⟩] false)
  (.seq (.ops [
    ⟨(some 13), none, .mv (.t 0)⟩,
    ⟨(some 14), none, .load 6 true (.t 4)⟩,
    ⟨(some 15), none, .call c4 [(.t 13), (.t 14)]⟩,
    ⟨(some 16), none, .bslice 6 [(.t 15)]⟩,
    ⟨(some 17), none, .call c5 [(.t 3), (.t 16)]⟩] false)
  (.seq (.ops [
    ⟨(some 18), none, .mv (.t 0)⟩,
    ⟨(some 19), none, .call c2 [(.t 18), (.c (.str [46]))]⟩] false)
  (.seq (.ops [
    ⟨(some 20), none, .mv (.t 0)⟩,
    ⟨(some 21), none, .call c3 [(.t 20), (.t 3)]⟩] false)
  (.seq (.ops [
    ⟨(some 22), none, .mv (.t 0)⟩,
    ⟨(some 23), none, .call c2 [(.t 22), (.c (.str [59]))]⟩] false)
  (.seq (.ops [
    ⟨(some 24), none, .mv (.t 0)⟩,
    ⟨(some 25), none, .load 6 true (.t 3)⟩,
    ⟨(some 26), none, .call c4 [(.t 24), (.t 25)]⟩,
    ⟨none, none, .store 6 (.t 2) (.t 26)⟩] false)
  (.ret))))))))))) }

def irPDef (c1 c2 c3 c4 c5 c6 c7 c8 t1 : Nat) : IFn :=
 { nt := 21, res := [.cell 2 6 true], body := (
  .seq (.ops [
    ⟨(some 2), none, .alloc t1 [(.int .i64 0), (.int .i64 0), (.int .i64 0), (.str []), (.int .i64 0), (.sl true 6 [])]⟩] false)
  (.seq (.ops [
    ⟨(some 4), none, .mv (.t 0)⟩,
    ⟨(some 5), none, .call c1 [(.t 4), (.c (.int .i64 3))]⟩,
    ⟨(some 3), none, .alloc t1 [(.int .i64 0), (.int .i64 0), (.int .i64 0), (.str []), (.int .i64 0), (.sl true 6 [])]⟩,
    ⟨none, none, .store 6 (.t 3) (.t 5)⟩] false)
  (.seq (.ops [
    ⟨(some 6), none, .mv (.t 0)⟩,
    ⟨(some 7), none, .call c2 [(.t 6), (.c (.str [100, 101, 102]))]⟩] false)
  (.seq (.ops [
    ⟨(some 8), none, .mv (.t 0)⟩,
    ⟨(some 9), none, .call c3 [(.t 8), (.t 3)]⟩] false)
  (.seq (.ops [
    ⟨(some 10), none, .mv (.t 0)⟩,
    ⟨(some 11), none, .call c4 [(.t 10)]⟩,
    ⟨(some 12), none, .mv (.t 0)⟩,
    ⟨(some 13), none, .call c5 [(.t 12)]⟩,
    ⟨(some 14), none, .mv (.t 0)⟩,
    ⟨(some 15), none, .call c6 [(.t 14)]⟩,
    ⟨(some 16), none, .bslice 6 [(.t 11), (.t 13), (.t 15)]⟩,
    ⟨(some 17), none, .call c7 [(.t 3), (.t 16)]⟩] false)
  (.seq (.ops [
    ⟨(some 18), none, .mv (.t 0)⟩,
    ⟨(some 19), none, .load 6 true (.t 3)⟩,
    ⟨(some 20), none, .call c8 [(.t 18), (.t 19)]⟩,
    ⟨none, none, .store 6 (.t 2) (.t 20)⟩] false)
  (.ret))))))) }

def irPParams (c1 c2 c3 c4 c5 t1 t2 : Nat) : IFn :=
 { nt := 14, res := [.cell 2 6 true], body := (
  .seq (.ops [
    ⟨(some 1), none, .box t1 1 (.t 0)⟩,
    ⟨(some 2), none, .alloc t2 [(.int .i64 0), (.int .i64 0), (.int .i64 0), (.str []), (.int .i64 0), (.sl true 6 [])]⟩] false)
  (.seq (.ops [
    ⟨(some 4), none, .load 1 false (.t 1)⟩,
    ⟨(some 5), none, .call c1 [(.t 4), (.c (.int .i64 4))]⟩,
    ⟨(some 3), none, .alloc t2 [(.int .i64 0), (.int .i64 0), (.int .i64 0), (.str []), (.int .i64 0), (.sl true 6 [])]⟩,
    ⟨none, none, .store 6 (.t 3) (.t 5)⟩] false)
  (.seq (.ops [
    ⟨(some 6), none, .load 1 false (.t 1)⟩,
    ⟨(some 7), none, .call c2 [(.t 6), (.c (.str [40]))]⟩] false)
  (.seq (.ops [
    ⟨(some 8), none, .load 1 false (.t 1)⟩,
    ⟨(some 9), none, .mkfn (.func c3) [] [(.t 1)]⟩,
    ⟨(some 10), none, .call c4 [(.t 8), (.t 3), (.c (.str [41])), (.t 9)]⟩] false)
  (.seq (.ops [
    ⟨(some 11), none, .load 1 false (.t 1)⟩,
    ⟨(some 12), none, .load 6 true (.t 3)⟩,
    ⟨(some 13), none, .call c5 [(.t 11), (.t 12)]⟩,
    ⟨none, none, .store 6 (.t 2) (.t 13)⟩] false)
  (.ret)))))) }

def irPParam (c1 c2 c3 c4 c5 t1 : Nat) : IFn :=
 { nt := 14, res := [.cell 1 6 true], body := (
  .seq (.ops [
    ⟨(some 1), none, .alloc t1 [(.int .i64 0), (.int .i64 0), (.int .i64 0), (.str []), (.int .i64 0), (.sl true 6 [])]⟩] false)
  (.seq (.ops [
    ⟨(some 3), none, .load 1 false (.t 0)⟩,
    ⟨(some 4), none, .call c1 [(.t 3), (.c (.int .i64 5))]⟩,
    ⟨(some 2), none, .alloc t1 [(.int .i64 0), (.int .i64 0), (.int .i64 0), (.str []), (.int .i64 0), (.sl true 6 [])]⟩,
    ⟨none, none, .store 6 (.t 2) (.t 4)⟩] false)
  (.seq (.ops [
    ⟨(some 5), none, .load 1 false (.t 0)⟩,
    ⟨(some 6), none, .call c2 [(.t 5), (.t 2)]⟩] false)
  (.seq (.ops [
    ⟨(some 7), none, .load 1 false (.t 0)⟩,
    ⟨(some 8), none, .call c3 [(.t 7)]⟩,
    ⟨(some 9), none, .bslice 6 [(.t 8)]⟩,
    ⟨(some 10), none, .call c4 [(.t 2), (.t 9)]⟩] false)
  (.seq (.ops [
    ⟨(some 11), none, .load 1 false (.t 0)⟩,
    ⟨(some 12), none, .load 6 true (.t 2)⟩,
    ⟨(some 13), none, .call c5 [(.t 11), (.t 12)]⟩,
    ⟨none, none, .store 6 (.t 1) (.t 13)⟩] false)
  (.ret)))))) }

def irPTyped (c1 c2 t1 : Nat) : IFn :=
 { nt := 9, res := [.cell 2 6 true], body := (
  .seq (.ops [
    ⟨(some 2), none, .alloc t1 [(.int .i64 0), (.int .i64 0), (.int .i64 0), (.str []), (.int .i64 0), (.sl true 6 [])]⟩] false)
  (.seq (.seq (.ops [
     ⟨(some 3), none, .mv (.t 0)⟩,
     ⟨(some 4), none, .call c1 [(.t 3), (.c (.str [58]))]⟩,
     ⟨(some 5), none, .un .not (.t 4)⟩] false)
   (.cond (.t 5) (.seq (.ops [
      ⟨(some 6), none, .build [(.int .i64 0), (.int .i64 0), (.int .i64 0), (.str []), (.int .i64 0), (.sl true 6 [])] []⟩,
      ⟨none, none, .store 6 (.t 2) (.t 6)⟩] false)
    (.ret))
   (.skip)))
  (.seq (.ops [
    ⟨(some 7), none, .mv (.t 0)⟩,
    ⟨(some 8), none, .call c2 [(.t 7)]⟩,
    ⟨none, none, .store 6 (.t 2) (.t 8)⟩] false)
  (.ret)))) }

def irPKind (c1 c2 c3 c4 c5 c6 c7 c8 c9 t1 t2 : Nat) : IFn :=
 { nt := 45, res := [.cell 2 6 true], body := (
  .seq (.ops [
    ⟨(some 1), none, .box t1 1 (.t 0)⟩,
    ⟨(some 2), none, .alloc t2 [(.int .i64 0), (.int .i64 0), (.int .i64 0), (.str []), (.int .i64 0), (.sl true 6 [])]⟩] false)
  (.seq (.ops [
    ⟨(some 4), none, .load 1 false (.t 1)⟩,
    ⟨(some 5), none, .call c1 [(.t 4), (.c (.int .i64 29))]⟩,
    ⟨(some 3), none, .alloc t2 [(.int .i64 0), (.int .i64 0), (.int .i64 0), (.str []), (.int .i64 0), (.sl true 6 [])]⟩,
    ⟨none, none, .store 6 (.t 3) (.t 5)⟩] false)
  (.seq (.blk 0 (.seq (.ops [
      ⟨(some 9), none, .load 1 false (.t 1)⟩,
      ⟨(some 10), none, .call c2 [(.t 9), (.c (.str [105, 110, 116]))]⟩,
      ⟨(some 8), none, .mv (.t 10)⟩] false)
    (.cond (.t 8) (.skip)
    (.seq (.ops [
       ⟨(some 12), none, .load 1 false (.t 1)⟩,
       ⟨(some 13), none, .call c2 [(.t 12), (.c (.str [115, 116, 114]))]⟩,
       ⟨(some 11), none, .mv (.t 13)⟩] false)
     (.cond (.t 11) (.ops [
       ⟨(some 14), none, .faddr 0 (.t 3)⟩,
       ⟨none, none, .store 1 (.t 14) (.c (.int .i64 30))⟩] false)
     (.seq (.ops [
        ⟨(some 16), none, .load 1 false (.t 1)⟩,
        ⟨(some 17), none, .call c2 [(.t 16), (.c (.str [100, 121, 110]))]⟩,
        ⟨(some 15), none, .mv (.t 17)⟩] false)
      (.cond (.t 15) (.ops [
        ⟨(some 18), none, .faddr 0 (.t 3)⟩,
        ⟨none, none, .store 1 (.t 18) (.c (.int .i64 31))⟩] false)
      (.seq (.ops [
         ⟨(some 20), none, .load 1 false (.t 1)⟩,
         ⟨(some 21), none, .call c2 [(.t 20), (.c (.str [123]))]⟩,
         ⟨(some 19), none, .mv (.t 21)⟩] false)
       (.cond (.t 19) (.seq (.ops [
          ⟨(some 22), none, .faddr 0 (.t 3)⟩,
          ⟨none, none, .store 1 (.t 22) (.c (.int .i64 32))⟩] false)
        (.ops [
         ⟨(some 23), none, .load 1 false (.t 1)⟩,
         ⟨(some 24), none, .mkfn (.func c3) [] [(.t 1)]⟩,
         ⟨(some 25), none, .call c4 [(.t 23), (.t 3), (.c (.str [125])), (.t 24)]⟩] false))
       (.seq (.ops [
          ⟨(some 27), none, .load 1 false (.t 1)⟩,
          ⟨(some 28), none, .call c2 [(.t 27), (.c (.str [102, 110]))]⟩,
          ⟨(some 26), none, .mv (.t 28)⟩] false)
        (.cond (.t 26) (.seq (.ops [
           ⟨(some 29), none, .faddr 0 (.t 3)⟩,
           ⟨none, none, .store 1 (.t 29) (.c (.int .i64 34))⟩] false)
         (.seq (.ops [
           ⟨(some 30), none, .load 1 false (.t 1)⟩,
           ⟨(some 31), none, .call c5 [(.t 30), (.c (.str [40]))]⟩] false)
         (.seq (.ops [
           ⟨(some 32), none, .load 1 false (.t 1)⟩,
           ⟨(some 33), none, .load 1 false (.t 1)⟩,
           ⟨(some 34), none, .mkfn (.func c6) [(.t 33)] []⟩,
           ⟨(some 35), none, .call c4 [(.t 32), (.t 3), (.c (.str [41])), (.t 34)]⟩] false)
         (.seq (.ops [
           ⟨(some 36), none, .load 1 false (.t 1)⟩,
           ⟨(some 37), none, .call c5 [(.t 36), (.c (.str [58]))]⟩] false)
         (.ops [
          ⟨(some 38), none, .load 1 false (.t 1)⟩,
          ⟨(some 39), none, .call c6 [(.t 38)]⟩,
          ⟨(some 40), none, .bslice 6 [(.t 39)]⟩,
          ⟨(some 41), none, .call c7 [(.t 3), (.t 40)]⟩] false)))))
        (.ops [
          ⟨(some 6), none, .load 1 false (.t 1)⟩,
          ⟨(some 7), none, .call c8 [(.t 6), (.c (.int .i64 24))]⟩] false))))))))))))
  (.seq (.ops [
    ⟨(some 42), none, .load 1 false (.t 1)⟩,
    ⟨(some 43), none, .load 6 true (.t 3)⟩,
    ⟨(some 44), none, .call c9 [(.t 42), (.t 43)]⟩,
    ⟨none, none, .store 6 (.t 2) (.t 44)⟩] false)
  (.ret))))) }

def irPTField (c1 c2 c3 c4 c5 c6 t1 : Nat) : IFn :=
 { nt := 16, res := [.cell 1 6 true], body := (
  .seq (.ops [
    ⟨(some 1), none, .alloc t1 [(.int .i64 0), (.int .i64 0), (.int .i64 0), (.str []), (.int .i64 0), (.sl true 6 [])]⟩] false)
  (.seq (.ops [
    ⟨(some 3), none, .load 1 false (.t 0)⟩,
    ⟨(some 4), none, .call c1 [(.t 3), (.c (.int .i64 33))]⟩,
    ⟨(some 2), none, .alloc t1 [(.int .i64 0), (.int .i64 0), (.int .i64 0), (.str []), (.int .i64 0), (.sl true 6 [])]⟩,
    ⟨none, none, .store 6 (.t 2) (.t 4)⟩] false)
  (.seq (.ops [
    ⟨(some 5), none, .load 1 false (.t 0)⟩,
    ⟨(some 6), none, .call c2 [(.t 5), (.t 2)]⟩] false)
  (.seq (.ops [
    ⟨(some 7), none, .load 1 false (.t 0)⟩,
    ⟨(some 8), none, .call c3 [(.t 7), (.c (.str [58]))]⟩] false)
  (.seq (.ops [
    ⟨(some 9), none, .load 1 false (.t 0)⟩,
    ⟨(some 10), none, .call c4 [(.t 9)]⟩,
    ⟨(some 11), none, .bslice 6 [(.t 10)]⟩,
    ⟨(some 12), none, .call c5 [(.t 2), (.t 11)]⟩] false)
  (.seq (.ops [
    ⟨(some 13), none, .load 1 false (.t 0)⟩,
    ⟨(some 14), none, .load 6 true (.t 2)⟩,
    ⟨(some 15), none, .call c6 [(.t 13), (.t 14)]⟩,
    ⟨none, none, .store 6 (.t 1) (.t 15)⟩] false)
  (.ret))))))) }

def irPBlock (c1 c2 c3 c4 c5 c6 t1 : Nat) : IFn :=
 { nt := 25, res := [.cell 2 6 true], body := (
  .seq (.ops [
    ⟨(some 2), none, .alloc t1 [(.int .i64 0), (.int .i64 0), (.int .i64 0), (.str []), (.int .i64 0), (.sl true 6 [])]⟩] false)
  (.seq (.ops [
    ⟨(some 4), none, .mv (.t 0)⟩,
    ⟨(some 5), none, .call c1 [(.t 4), (.c (.int .i64 6))]⟩,
    ⟨(some 3), none, .alloc t1 [(.int .i64 0), (.int .i64 0), (.int .i64 0), (.str []), (.int .i64 0), (.sl true 6 [])]⟩,
    ⟨none, none, .store 6 (.t 3) (.t 5)⟩] false)
  (.seq (.ops [
    ⟨(some 6), none, .mv (.t 0)⟩,
    ⟨(some 7), none, .call c2 [(.t 6), (.c (.str [123]))]⟩] false)
  (.seq (.blk 0 (.loop (.seq (.seq (.ops [
        ⟨(some 8), none, .mv (.t 0)⟩,
        ⟨(some 9), none, .nilCheck (.t 8)⟩,
        ⟨(some 10), none, .faddr 2 (.t 9)⟩,
        ⟨(some 11), none, .load 1 false (.t 10)⟩,
        ⟨(some 12), none, .bin .eql (.t 11) (.c (.int .i64 0))⟩,
        ⟨(some 13), none, .mv (.t 12)⟩,
        ⟨(some 14), (some (13, true)), .mv (.t 0)⟩,
        ⟨(some 15), (some (13, true)), .call c3 [(.t 14), (.c (.str [125]))]⟩,
        ⟨(some 16), (some (13, true)), .un .not (.t 15)⟩,
        ⟨(some 17), none, .pick (.t 13) (.t 16) (.c (.bool false))⟩] false)
      (.cond (.t 17) (.skip)
      (.exit 0)))
     (.blk 1 (.ops [
       ⟨(some 18), none, .mv (.t 0)⟩,
       ⟨(some 19), none, .call c4 [(.t 18)]⟩,
       ⟨(some 20), none, .bslice 6 [(.t 19)]⟩,
       ⟨(some 21), none, .call c5 [(.t 3), (.t 20)]⟩] false)))))
  (.seq (.ops [
    ⟨(some 22), none, .mv (.t 0)⟩,
    ⟨(some 23), none, .load 6 true (.t 3)⟩,
    ⟨(some 24), none, .call c6 [(.t 22), (.t 23)]⟩,
    ⟨none, none, .store 6 (.t 2) (.t 24)⟩] false)
  (.ret)))))) }

def irPStmt (c1 c2 c3 c4 c5 c6 c7 c8 c9 c10 t1 : Nat) : IFn :=
 { nt := 94, res := [.cell 2 6 true], body := (
  .seq (.ops [
    ⟨(some 2), none, .alloc t1 [(.int .i64 0), (.int .i64 0), (.int .i64 0), (.str []), (.int .i64 0), (.sl true 6 [])]⟩] false)
  (.seq (.ops [
    ⟨(some 4), none, .mv (.t 0)⟩,
    ⟨(some 5), none, .call c1 [(.t 4), (.c (.int .i64 13))]⟩,
    ⟨(some 3), none, .alloc t1 [(.int .i64 0), (.int .i64 0), (.int .i64 0), (.str []), (.int .i64 0), (.sl true 6 [])]⟩,
    ⟨none, none, .store 6 (.t 3) (.t 5)⟩] false)
  (.seq (.blk 0 (.seq (.ops [
      ⟨(some 11), none, .mv (.t 0)⟩,
      ⟨(some 12), none, .call c2 [(.t 11), (.c (.str [108, 101, 116]))]⟩,
      ⟨(some 10), none, .mv (.t 12)⟩] false)
    (.cond (.t 10) (.seq (.ops [
       ⟨(some 13), none, .faddr 0 (.t 3)⟩,
       ⟨none, none, .store 1 (.t 13) (.c (.int .i64 7))⟩] false)
     (.seq (.ops [
       ⟨(some 14), none, .mv (.t 0)⟩,
       ⟨(some 15), none, .call c3 [(.t 14), (.t 3)]⟩] false)
     (.seq (.ops [
       ⟨(some 16), none, .mv (.t 0)⟩,
       ⟨(some 17), none, .call c4 [(.t 16)]⟩,
       ⟨(some 18), none, .bslice 6 [(.t 17)]⟩,
       ⟨(some 19), none, .call c5 [(.t 3), (.t 18)]⟩] false)
     (.seq (.ops [
       ⟨(some 20), none, .mv (.t 0)⟩,
       ⟨(some 21), none, .call c6 [(.t 20), (.c (.str [61]))]⟩] false)
     (.ops [
      ⟨(some 22), none, .mv (.t 0)⟩,
      ⟨(some 23), none, .call c7 [(.t 22)]⟩,
      ⟨(some 24), none, .bslice 6 [(.t 23)]⟩,
      ⟨(some 25), none, .call c5 [(.t 3), (.t 24)]⟩] false)))))
    (.seq (.ops [
       ⟨(some 27), none, .mv (.t 0)⟩,
       ⟨(some 28), none, .call c2 [(.t 27), (.c (.str [105, 102]))]⟩,
       ⟨(some 26), none, .mv (.t 28)⟩] false)
     (.cond (.t 26) (.seq (.ops [
        ⟨(some 29), none, .faddr 0 (.t 3)⟩,
        ⟨none, none, .store 1 (.t 29) (.c (.int .i64 9))⟩] false)
      (.seq (.ops [
        ⟨(some 30), none, .mv (.t 0)⟩,
        ⟨(some 31), none, .call c7 [(.t 30)]⟩,
        ⟨(some 32), none, .mv (.t 0)⟩,
        ⟨(some 33), none, .call c8 [(.t 32)]⟩,
        ⟨(some 34), none, .bslice 6 [(.t 31), (.t 33)]⟩,
        ⟨(some 35), none, .call c5 [(.t 3), (.t 34)]⟩] false)
      (.seq (.seq (.ops [
         ⟨(some 36), none, .mv (.t 0)⟩,
         ⟨(some 37), none, .call c2 [(.t 36), (.c (.str [101, 108, 115, 101]))]⟩] false)
       (.cond (.t 37) (.ops [
         ⟨(some 38), none, .mv (.t 0)⟩,
         ⟨(some 39), none, .call c8 [(.t 38)]⟩,
         ⟨(some 40), none, .bslice 6 [(.t 39)]⟩,
         ⟨(some 41), none, .call c5 [(.t 3), (.t 40)]⟩] false)
       (.ops [
         ⟨(some 42), none, .build [(.int .i64 0), (.int .i64 0), (.int .i64 0), (.str []), (.int .i64 0), (.sl true 6 [])] []⟩,
         ⟨(some 43), none, .bslice 6 [(.t 42)]⟩,
         ⟨(some 44), none, .call c5 [(.t 3), (.t 43)]⟩] false)))
      (.seq (.ops [
        ⟨(some 45), none, .mv (.t 0)⟩,
        ⟨(some 46), none, .load 6 true (.t 3)⟩,
        ⟨(some 47), none, .call c9 [(.t 45), (.t 46)]⟩,
        ⟨none, none, .store 6 (.t 2) (.t 47)⟩] false)
      (.ret)))))
     (.seq (.ops [
        ⟨(some 49), none, .mv (.t 0)⟩,
        ⟨(some 50), none, .call c2 [(.t 49), (.c (.str [119, 104, 105, 108, 101]))]⟩,
        ⟨(some 48), none, .mv (.t 50)⟩] false)
      (.cond (.t 48) (.seq (.ops [
         ⟨(some 51), none, .faddr 0 (.t 3)⟩,
         ⟨none, none, .store 1 (.t 51) (.c (.int .i64 10))⟩] false)
       (.seq (.ops [
         ⟨(some 52), none, .mv (.t 0)⟩,
         ⟨(some 53), none, .call c7 [(.t 52)]⟩,
         ⟨(some 54), none, .mv (.t 0)⟩,
         ⟨(some 55), none, .call c8 [(.t 54)]⟩,
         ⟨(some 56), none, .bslice 6 [(.t 53), (.t 55)]⟩,
         ⟨(some 57), none, .call c5 [(.t 3), (.t 56)]⟩] false)
       (.seq (.ops [
         ⟨(some 58), none, .mv (.t 0)⟩,
         ⟨(some 59), none, .load 6 true (.t 3)⟩,
         ⟨(some 60), none, .call c9 [(.t 58), (.t 59)]⟩,
         ⟨none, none, .store 6 (.t 2) (.t 60)⟩] false)
       (.ret))))
      (.seq (.ops [
         ⟨(some 62), none, .mv (.t 0)⟩,
         ⟨(some 63), none, .call c2 [(.t 62), (.c (.str [112, 114, 105, 110, 116]))]⟩,
         ⟨(some 61), none, .mv (.t 63)⟩] false)
       (.cond (.t 61) (.seq (.ops [
          ⟨(some 64), none, .faddr 0 (.t 3)⟩,
          ⟨none, none, .store 1 (.t 64) (.c (.int .i64 11))⟩] false)
        (.ops [
         ⟨(some 65), none, .mv (.t 0)⟩,
         ⟨(some 66), none, .call c7 [(.t 65)]⟩,
         ⟨(some 67), none, .bslice 6 [(.t 66)]⟩,
         ⟨(some 68), none, .call c5 [(.t 3), (.t 67)]⟩] false))
       (.seq (.ops [
          ⟨(some 70), none, .mv (.t 0)⟩,
          ⟨(some 71), none, .call c2 [(.t 70), (.c (.str [114, 101, 116, 117, 114, 110]))]⟩,
          ⟨(some 69), none, .mv (.t 71)⟩] false)
        (.cond (.t 69) (.seq (.ops [
           ⟨(some 72), none, .faddr 0 (.t 3)⟩,
           ⟨none, none, .store 1 (.t 72) (.c (.int .i64 12))⟩] false)
         (.ops [
          ⟨(some 73), none, .mv (.t 0)⟩,
          ⟨(some 74), none, .call c7 [(.t 73)]⟩,
          ⟨(some 75), none, .bslice 6 [(.t 74)]⟩,
          ⟨(some 76), none, .call c5 [(.t 3), (.t 75)]⟩] false))
        (.seq (.ops [
           ⟨(some 78), none, .mv (.t 0)⟩,
           ⟨(some 79), none, .call c10 [(.t 78)]⟩,
           ⟨(some 77), none, .mv (.t 79)⟩] false)
         (.cond (.t 77) (.seq (.ops [
            ⟨(some 80), none, .faddr 0 (.t 3)⟩,
            ⟨none, none, .store 1 (.t 80) (.c (.int .i64 8))⟩] false)
          (.seq (.ops [
            ⟨(some 81), none, .mv (.t 0)⟩,
            ⟨(some 82), none, .call c3 [(.t 81), (.t 3)]⟩] false)
          (.seq (.ops [
            ⟨(some 83), none, .mv (.t 0)⟩,
            ⟨(some 84), none, .call c6 [(.t 83), (.c (.str [61]))]⟩] false)
          (.ops [
           ⟨(some 85), none, .mv (.t 0)⟩,
           ⟨(some 86), none, .call c7 [(.t 85)]⟩,
           ⟨(some 87), none, .bslice 6 [(.t 86)]⟩,
           ⟨(some 88), none, .call c5 [(.t 3), (.t 87)]⟩] false))))
         (.ops [
           ⟨(some 6), none, .mv (.t 0)⟩,
           ⟨(some 7), none, .call c7 [(.t 6)]⟩,
           ⟨(some 8), none, .bslice 6 [(.t 7)]⟩,
           ⟨(some 9), none, .call c5 [(.t 3), (.t 8)]⟩] false))))))))))))))
  (.seq (.ops [
    ⟨(some 89), none, .mv (.t 0)⟩,
    ⟨(some 90), none, .call c6 [(.t 89), (.c (.str [59]))]⟩] false)
  (.seq (.ops [
    ⟨(some 91), none, .mv (.t 0)⟩,
    ⟨(some 92), none, .load 6 true (.t 3)⟩,
    ⟨(some 93), none, .call c9 [(.t 91), (.t 92)]⟩,
    ⟨none, none, .store 6 (.t 2) (.t 93)⟩] false)
  (.ret)))))) }

def irPSets (c1 t1 : Nat) : IFn :=
 { nt := 40, res := [.t 2], body := (
  .seq (.ops [
    ⟨(some 2), none, .mv (.c (.bool false))⟩] false)
  (.seq (.seq (.ops [
     ⟨(some 4), none, .mv (.t 0)⟩,
     ⟨(some 5), none, .call c1 [(.t 4)]⟩,
     ⟨(some 6), none, .fld 0 1 false (.t 5)⟩,
     ⟨(some 7), none, .bin .neq (.t 6) (.c (.int .i64 1))⟩,
     ⟨(some 8), none, .mv (.t 7)⟩,
     ⟨(some 9), (some (8, false)), .mv (.t 0)⟩,
     ⟨(some 10), (some (8, false)), .nilCheck (.t 9)⟩,
     ⟨(some 11), (some (8, false)), .faddr 1 (.t 10)⟩,
     ⟨(some 12), (some (8, false)), .load 1 false (.t 11)⟩,
     ⟨(some 13), (some (8, false)), .bin .add (.t 12) (.c (.int .i64 1))⟩,
     ⟨(some 14), (some (8, false)), .mv (.t 0)⟩,
     ⟨(some 15), (some (8, false)), .nilCheck (.t 14)⟩,
     ⟨(some 16), (some (8, false)), .faddr 0 (.t 15)⟩,
     ⟨(some 17), (some (8, false)), .load 1 false (.t 16)⟩,
     ⟨(some 18), (some (8, false)), .lenL (.t 17)⟩,
     ⟨(some 19), (some (8, false)), .bin .geq (.t 13) (.t 18)⟩,
     ⟨(some 20), none, .pick (.t 8) (.c (.bool true)) (.t 19)⟩] true)
   (.cond (.t 20) (.seq (.ops [
      ⟨(some 2), none, .mv (.c (.bool false))⟩] false)
    (.ret))
   (.skip)))
  (.seq (.ops [
    ⟨(some 21), none, .mv (.t 0)⟩,
    ⟨(some 22), none, .nilCheck (.t 21)⟩,
    ⟨(some 23), none, .faddr 0 (.t 22)⟩,
    ⟨(some 24), none, .load 1 false (.t 23)⟩,
    ⟨(some 25), none, .mv (.t 0)⟩,
    ⟨(some 26), none, .nilCheck (.t 25)⟩,
    ⟨(some 27), none, .faddr 1 (.t 26)⟩,
    ⟨(some 28), none, .load 1 false (.t 27)⟩,
    ⟨(some 29), none, .bin .add (.t 28) (.c (.int .i64 1))⟩,
    ⟨(some 30), none, .iaddr 4 (.t 24) (.t 29)⟩,
    ⟨(some 31), none, .load 4 true (.t 30)⟩,
    ⟨(some 3), none, .alloc t1 [(.int .i64 0), (.int .i64 0), (.str []), (.str [])]⟩,
    ⟨none, none, .store 4 (.t 3) (.t 31)⟩] true)
  (.seq (.ops [
    ⟨(some 32), none, .faddr 0 (.t 3)⟩,
    ⟨(some 33), none, .load 1 false (.t 32)⟩,
    ⟨(some 34), none, .bin .eql (.t 33) (.c (.int .i64 5))⟩,
    ⟨(some 35), none, .mv (.t 34)⟩,
    ⟨(some 36), (some (35, true)), .faddr 3 (.t 3)⟩,
    ⟨(some 37), (some (35, true)), .load 1 false (.t 36)⟩,
    ⟨(some 38), (some (35, true)), .bin .eql (.t 37) (.c (.str [61]))⟩,
    ⟨(some 39), none, .pick (.t 35) (.t 38) (.c (.bool false))⟩,
    ⟨(some 2), none, .mv (.t 39)⟩] false)
  (.ret))))) }

def irPExpr (c1 c2 c3 t1 : Nat) : IFn :=
 { nt := 23, res := [.cell 2 6 true], body := (
  .seq (.ops [
    ⟨(some 2), none, .alloc t1 [(.int .i64 0), (.int .i64 0), (.int .i64 0), (.str []), (.int .i64 0), (.sl true 6 [])]⟩] false)
  (.seq (.ops [
    ⟨(some 4), none, .mv (.t 0)⟩,
    ⟨(some 5), none, .call c1 [(.t 4)]⟩,
    ⟨(some 3), none, .alloc t1 [(.int .i64 0), (.int .i64 0), (.int .i64 0), (.str []), (.int .i64 0), (.sl true 6 [])]⟩,
    ⟨none, none, .store 6 (.t 3) (.t 5)⟩] false)
  (.seq (.blk 0 (.seq (.ops [
      ⟨(some 7), none, .mv (.t 0)⟩,
      ⟨(some 8), none, .call c2 [(.t 7), (.c (.str [60]))]⟩,
      ⟨(some 6), none, .mv (.t 8)⟩] false)
    (.cond (.t 6) (.seq (.ops [
       ⟨(some 9), none, .mv (.t 0)⟩,
       ⟨(some 10), none, .load 6 true (.t 3)⟩,
       ⟨(some 11), none, .mv (.t 0)⟩,
       ⟨(some 12), none, .mkfn (.func c1) [(.t 11)] []⟩,
       ⟨(some 13), none, .call c3 [(.t 9), (.c (.int .i64 14)), (.t 10), (.t 12)]⟩,
       ⟨none, none, .store 6 (.t 2) (.t 13)⟩] false)
     (.ret))
    (.seq (.ops [
       ⟨(some 15), none, .mv (.t 0)⟩,
       ⟨(some 16), none, .call c2 [(.t 15), (.c (.str [61, 61]))]⟩,
       ⟨(some 14), none, .mv (.t 16)⟩] false)
     (.cond (.t 14) (.seq (.ops [
        ⟨(some 17), none, .mv (.t 0)⟩,
        ⟨(some 18), none, .load 6 true (.t 3)⟩,
        ⟨(some 19), none, .mv (.t 0)⟩,
        ⟨(some 20), none, .mkfn (.func c1) [(.t 19)] []⟩,
        ⟨(some 21), none, .call c3 [(.t 17), (.c (.int .i64 15)), (.t 18), (.t 20)]⟩,
        ⟨none, none, .store 6 (.t 2) (.t 21)⟩] false)
      (.ret))
     (.skip))))))
  (.seq (.ops [
    ⟨(some 22), none, .load 6 true (.t 3)⟩,
    ⟨none, none, .store 6 (.t 2) (.t 22)⟩] false)
  (.ret))))) }

def irPWith (t1 : Nat) : IFn :=
 { nt := 23, res := [.cell 8 6 true], body := (
  .seq (.ops [
    ⟨(some 6), none, .box t1 6 (.t 2)⟩,
    ⟨(some 8), none, .alloc t1 [(.int .i64 0), (.int .i64 0), (.int .i64 0), (.str []), (.int .i64 0), (.sl true 6 [])]⟩] false)
  (.seq (.ops [
    ⟨(some 10), none, .mv (.t 3)⟩,
    ⟨(some 11), none, .callv (.t 10) []⟩,
    ⟨(some 9), none, .alloc t1 [(.int .i64 0), (.int .i64 0), (.int .i64 0), (.str []), (.int .i64 0), (.sl true 6 [])]⟩,
    ⟨none, none, .store 6 (.t 9) (.t 11)⟩] false)
  (.seq (.ops [
    ⟨(some 12), none, .mv (.t 1)⟩,
    ⟨(some 13), none, .faddr 1 (.t 6)⟩,
    ⟨(some 14), none, .load 1 false (.t 13)⟩,
    ⟨(some 15), none, .mv (.t 0)⟩,
    ⟨(some 16), none, .nilCheck (.t 15)⟩,
    ⟨(some 17), none, .faddr 1 (.t 16)⟩,
    ⟨(some 18), none, .load 1 false (.t 17)⟩,
    ⟨(some 19), none, .load 6 true (.t 6)⟩,
    ⟨(some 20), none, .load 6 true (.t 9)⟩,
    ⟨(some 21), none, .bslice 6 [(.t 19), (.t 20)]⟩,
    ⟨(some 22), none, .build [(.int .i64 0), (.int .i64 0), (.int .i64 0), (.str []), (.int .i64 0), (.sl true 6 [])] [(0, 1, (.t 12)), (1, 1, (.t 14)), (2, 1, (.t 18)), (5, 1, (.t 21))]⟩,
    ⟨none, none, .store 6 (.t 8) (.t 22)⟩] true)
  (.ret)))) }

def irPSum (c1 c2 c3 t1 : Nat) : IFn :=
 { nt := 29, res := [.cell 2 6 true], body := (
  .seq (.ops [
    ⟨(some 2), none, .alloc t1 [(.int .i64 0), (.int .i64 0), (.int .i64 0), (.str []), (.int .i64 0), (.sl true 6 [])]⟩] false)
  (.seq (.ops [
    ⟨(some 4), none, .mv (.t 0)⟩,
    ⟨(some 5), none, .call c1 [(.t 4)]⟩,
    ⟨(some 3), none, .alloc t1 [(.int .i64 0), (.int .i64 0), (.int .i64 0), (.str []), (.int .i64 0), (.sl true 6 [])]⟩,
    ⟨none, none, .store 6 (.t 3) (.t 5)⟩] false)
  (.seq (.blk 0 (.loop (.seq (.seq (.ops [
        ⟨(some 6), none, .mv (.t 0)⟩,
        ⟨(some 7), none, .nilCheck (.t 6)⟩,
        ⟨(some 8), none, .faddr 2 (.t 7)⟩,
        ⟨(some 9), none, .load 1 false (.t 8)⟩,
        ⟨(some 10), none, .bin .eql (.t 9) (.c (.int .i64 0))⟩] false)
      (.cond (.t 10) (.skip)
      (.exit 0)))
     (.blk 1 (.blk 2 (.seq (.ops [
         ⟨(some 13), none, .mv (.t 0)⟩,
         ⟨(some 14), none, .call c2 [(.t 13), (.c (.str [43]))]⟩,
         ⟨(some 12), none, .mv (.t 14)⟩] false)
       (.cond (.t 12) (.ops [
         ⟨(some 15), none, .mv (.t 0)⟩,
         ⟨(some 16), none, .load 6 true (.t 3)⟩,
         ⟨(some 17), none, .mv (.t 0)⟩,
         ⟨(some 18), none, .mkfn (.func c1) [(.t 17)] []⟩,
         ⟨(some 19), none, .call c3 [(.t 15), (.c (.int .i64 16)), (.t 16), (.t 18)]⟩,
         ⟨none, none, .store 6 (.t 3) (.t 19)⟩] false)
       (.seq (.ops [
          ⟨(some 21), none, .mv (.t 0)⟩,
          ⟨(some 22), none, .call c2 [(.t 21), (.c (.str [45]))]⟩,
          ⟨(some 20), none, .mv (.t 22)⟩] false)
        (.cond (.t 20) (.ops [
          ⟨(some 23), none, .mv (.t 0)⟩,
          ⟨(some 24), none, .load 6 true (.t 3)⟩,
          ⟨(some 25), none, .mv (.t 0)⟩,
          ⟨(some 26), none, .mkfn (.func c1) [(.t 25)] []⟩,
          ⟨(some 27), none, .call c3 [(.t 23), (.c (.int .i64 17)), (.t 24), (.t 26)]⟩,
          ⟨none, none, .store 6 (.t 3) (.t 27)⟩] false)
        (.seq (.ops [
           ⟨(some 11), none, .load 6 true (.t 3)⟩,
           ⟨none, none, .store 6 (.t 2) (.t 11)⟩] false)
         (.ret)))))))))))
  (.seq (.ops [
    ⟨(some 28), none, .load 6 true (.t 3)⟩,
    ⟨none, none, .store 6 (.t 2) (.t 28)⟩] false)
  (.ret))))) }

def irPTerm (c1 c2 c3 t1 : Nat) : IFn :=
 { nt := 14, res := [.cell 2 6 true], body := (
  .seq (.ops [
    ⟨(some 2), none, .alloc t1 [(.int .i64 0), (.int .i64 0), (.int .i64 0), (.str []), (.int .i64 0), (.sl true 6 [])]⟩] false)
  (.seq (.ops [
    ⟨(some 4), none, .mv (.t 0)⟩,
    ⟨(some 5), none, .call c1 [(.t 4)]⟩,
    ⟨(some 3), none, .alloc t1 [(.int .i64 0), (.int .i64 0), (.int .i64 0), (.str []), (.int .i64 0), (.sl true 6 [])]⟩,
    ⟨none, none, .store 6 (.t 3) (.t 5)⟩] false)
  (.seq (.blk 0 (.loop (.seq (.seq (.ops [
        ⟨(some 6), none, .mv (.t 0)⟩,
        ⟨(some 7), none, .call c2 [(.t 6), (.c (.str [42]))]⟩] false)
      (.cond (.t 7) (.skip)
      (.exit 0)))
     (.blk 1 (.ops [
       ⟨(some 8), none, .mv (.t 0)⟩,
       ⟨(some 9), none, .load 6 true (.t 3)⟩,
       ⟨(some 10), none, .mv (.t 0)⟩,
       ⟨(some 11), none, .mkfn (.func c1) [(.t 10)] []⟩,
       ⟨(some 12), none, .call c3 [(.t 8), (.c (.int .i64 18)), (.t 9), (.t 11)]⟩,
       ⟨none, none, .store 6 (.t 3) (.t 12)⟩] false)))))
  (.seq (.ops [
    ⟨(some 13), none, .load 6 true (.t 3)⟩,
    ⟨none, none, .store 6 (.t 2) (.t 13)⟩] false)
  (.ret))))) }

def irPPost (c1 c2 c3 c4 c5 c6 t1 : Nat) : IFn :=
 { nt := 36, res := [.cell 2 6 true], body := (
  .seq (.ops [
    ⟨(some 2), none, .alloc t1 [(.int .i64 0), (.int .i64 0), (.int .i64 0), (.str []), (.int .i64 0), (.sl true 6 [])]⟩] false)
  (.seq (.ops [
    ⟨(some 5), none, .mv (.t 0)⟩,
    ⟨(some 6), none, .call c1 [(.t 5)]⟩,
    ⟨(some 3), none, .alloc t1 [(.int .i64 0), (.int .i64 0), (.int .i64 0), (.str []), (.int .i64 0), (.sl true 6 [])]⟩,
    ⟨none, none, .store 6 (.t 3) (.t 6)⟩] false)
  (.seq (.blk 0 (.loop (.seq (.seq (.ops [
        ⟨(some 7), none, .mv (.t 0)⟩,
        ⟨(some 8), none, .nilCheck (.t 7)⟩,
        ⟨(some 9), none, .faddr 2 (.t 8)⟩,
        ⟨(some 10), none, .load 1 false (.t 9)⟩,
        ⟨(some 11), none, .bin .eql (.t 10) (.c (.int .i64 0))⟩] false)
      (.cond (.t 11) (.skip)
      (.exit 0)))
     (.blk 1 (.seq (.ops [
        ⟨(some 12), none, .faddr 1 (.t 3)⟩,
        ⟨(some 13), none, .load 1 false (.t 12)⟩,
        ⟨(some 14), none, .load 6 true (.t 3)⟩,
        ⟨(some 15), none, .bsliceT 6 t1 [(.t 14)]⟩,
        ⟨(some 16), none, .build [(.int .i64 0), (.int .i64 0), (.int .i64 0), (.str []), (.int .i64 0), (.sl true 6 [])] [(1, 1, (.t 13)), (5, 1, (.t 15))]⟩,
        ⟨(some 4), none, .alloc t1 [(.int .i64 0), (.int .i64 0), (.int .i64 0), (.str []), (.int .i64 0), (.sl true 6 [])]⟩,
        ⟨none, none, .store 6 (.t 4) (.t 16)⟩] false)
      (.seq (.blk 2 (.seq (.ops [
          ⟨(some 19), none, .mv (.t 0)⟩,
          ⟨(some 20), none, .call c2 [(.t 19), (.c (.str [46]))]⟩,
          ⟨(some 18), none, .mv (.t 20)⟩] false)
        (.cond (.t 18) (.seq (.ops [
           ⟨(some 21), none, .faddr 0 (.t 4)⟩,
           ⟨none, none, .store 1 (.t 21) (.c (.int .i64 19))⟩] false)
         (.ops [
          ⟨(some 22), none, .mv (.t 0)⟩,
          ⟨(some 23), none, .call c3 [(.t 22), (.t 4)]⟩] false))
        (.seq (.ops [
           ⟨(some 25), none, .mv (.t 0)⟩,
           ⟨(some 26), none, .call c2 [(.t 25), (.c (.str [40]))]⟩,
           ⟨(some 24), none, .mv (.t 26)⟩] false)
         (.cond (.t 24) (.seq (.ops [
            ⟨(some 27), none, .faddr 0 (.t 4)⟩,
            ⟨none, none, .store 1 (.t 27) (.c (.int .i64 20))⟩] false)
          (.ops [
           ⟨(some 28), none, .mv (.t 0)⟩,
           ⟨(some 29), none, .mv (.t 0)⟩,
           ⟨(some 30), none, .mkfn (.func c4) [(.t 29)] []⟩,
           ⟨(some 31), none, .call c5 [(.t 28), (.t 4), (.c (.str [41])), (.t 30)]⟩] false))
         (.seq (.ops [
            ⟨(some 17), none, .load 6 true (.t 3)⟩,
            ⟨none, none, .store 6 (.t 2) (.t 17)⟩] false)
          (.ret)))))))
      (.ops [
       ⟨(some 32), none, .mv (.t 0)⟩,
       ⟨(some 33), none, .load 6 true (.t 4)⟩,
       ⟨(some 34), none, .call c6 [(.t 32), (.t 33)]⟩,
       ⟨none, none, .store 6 (.t 3) (.t 34)⟩] false)))))))
  (.seq (.ops [
    ⟨(some 35), none, .load 6 true (.t 3)⟩,
    ⟨none, none, .store 6 (.t 2) (.t 35)⟩] false)
  (.ret))))) }

def irPAtom (c1 c2 c3 c4 c5 c6 c7 c8 c9 c10 c11 c12 c13 c14 t1 t2 t3 : Nat) : IFn :=
 { nt := 93, res := [.cell 2 6 true], body := (
  .seq (.ops [
    ⟨(some 1), none, .box t1 1 (.t 0)⟩,
    ⟨(some 2), none, .alloc t2 [(.int .i64 0), (.int .i64 0), (.int .i64 0), (.str []), (.int .i64 0), (.sl true 6 [])]⟩] false)
  (.seq (.ops [
    ⟨(some 5), none, .load 1 false (.t 1)⟩,
    ⟨(some 6), none, .call c1 [(.t 5), (.c (.int .i64 21))]⟩,
    ⟨(some 3), none, .alloc t2 [(.int .i64 0), (.int .i64 0), (.int .i64 0), (.str []), (.int .i64 0), (.sl true 6 [])]⟩,
    ⟨none, none, .store 6 (.t 3) (.t 6)⟩] false)
  (.seq (.ops [
    ⟨(some 7), none, .load 1 false (.t 1)⟩,
    ⟨(some 8), none, .call c2 [(.t 7)]⟩,
    ⟨(some 4), none, .alloc t3 [(.int .i64 0), (.int .i64 0), (.str []), (.str [])]⟩,
    ⟨none, none, .store 4 (.t 4) (.t 8)⟩] false)
  (.seq (.blk 0 (.seq (.ops [
      ⟨(some 12), none, .faddr 0 (.t 4)⟩,
      ⟨(some 13), none, .load 1 false (.t 12)⟩,
      ⟨(some 14), none, .bin .eql (.t 13) (.c (.int .i64 3))⟩,
      ⟨(some 11), none, .mv (.t 14)⟩] false)
    (.cond (.t 11) (.seq (.seq (.ops [
        ⟨(some 15), none, .faddr 3 (.t 4)⟩] false)
      (.both (.seq (.ops [
         ⟨(some 16), none, .load 1 false (.t 15)⟩] false)
       (.seq (.ops [
         ⟨(some 17), none, .load 1 false (.t 1)⟩] false)
       (.seq (.ops [
         ⟨(some 18), none, .nilCheck (.t 17)⟩] false)
       (.seq (.ops [
         ⟨(some 19), none, .faddr 1 (.t 18)⟩] false)
       (.seq (.ops [
         ⟨(some 20), none, .load 1 false (.t 19)⟩] false)
       (.seq (.ops [
         ⟨(some 21), none, .faddr 3 (.t 3)⟩] false)
       (.seq (.ops [
         ⟨none, none, .store 1 (.t 21) (.t 16)⟩] false)
       (.seq (.ops [
         ⟨(some 22), none, .faddr 4 (.t 3)⟩] false)
       (.seq (.ops [
         ⟨none, none, .store 1 (.t 22) (.t 20)⟩] false)
       (.skip))))))))))
      (.seq (.ops [
        ⟨(some 17), none, .load 1 false (.t 1)⟩] false)
      (.seq (.ops [
        ⟨(some 18), none, .nilCheck (.t 17)⟩] false)
      (.seq (.ops [
        ⟨(some 19), none, .faddr 1 (.t 18)⟩] false)
      (.both (.seq (.ops [
         ⟨(some 16), none, .load 1 false (.t 15)⟩] false)
       (.seq (.ops [
         ⟨(some 20), none, .load 1 false (.t 19)⟩] false)
       (.seq (.ops [
         ⟨(some 21), none, .faddr 3 (.t 3)⟩] false)
       (.seq (.ops [
         ⟨none, none, .store 1 (.t 21) (.t 16)⟩] false)
       (.seq (.ops [
         ⟨(some 22), none, .faddr 4 (.t 3)⟩] false)
       (.seq (.ops [
         ⟨none, none, .store 1 (.t 22) (.t 20)⟩] false)
       (.skip)))))))
      (.seq (.ops [
        ⟨(some 20), none, .load 1 false (.t 19)⟩] false)
      (.seq (.ops [
        ⟨(some 16), none, .load 1 false (.t 15)⟩] false)
      (.seq (.ops [
        ⟨(some 21), none, .faddr 3 (.t 3)⟩] false)
      (.seq (.ops [
        ⟨none, none, .store 1 (.t 21) (.t 16)⟩] false)
      (.seq (.ops [
        ⟨(some 22), none, .faddr 4 (.t 3)⟩] false)
      (.seq (.ops [
        ⟨none, none, .store 1 (.t 22) (.t 20)⟩] false)
      (.skip)))))))))))))
     (.ops [
      ⟨(some 23), none, .load 1 false (.t 1)⟩,
      ⟨(some 24), none, .nilCheck (.t 23)⟩,
      ⟨(some 25), none, .faddr 1 (.t 24)⟩,
      ⟨(some 26), none, .load 1 false (.t 25)⟩,
      ⟨(some 27), none, .bin .add (.t 26) (.c (.int .i64 1))⟩,
      ⟨(some 28), none, .nilCheck (.t 23)⟩,
      ⟨(some 29), none, .faddr 1 (.t 28)⟩,
      ⟨none, none, .store 1 (.t 29) (.t 27)⟩] false))
    (.seq (.ops [
       ⟨(some 31), none, .faddr 0 (.t 4)⟩,
       ⟨(some 32), none, .load 1 false (.t 31)⟩,
       ⟨(some 33), none, .bin .eql (.t 32) (.c (.int .i64 4))⟩,
       ⟨(some 30), none, .mv (.t 33)⟩] false)
     (.cond (.t 30) (.seq (.seq (.ops [
         ⟨(some 34), none, .faddr 3 (.t 4)⟩] false)
       (.both (.seq (.ops [
          ⟨(some 35), none, .load 1 false (.t 34)⟩] false)
        (.seq (.ops [
          ⟨(some 36), none, .load 1 false (.t 1)⟩] false)
        (.seq (.ops [
          ⟨(some 37), none, .nilCheck (.t 36)⟩] false)
        (.seq (.ops [
          ⟨(some 38), none, .faddr 1 (.t 37)⟩] false)
        (.seq (.ops [
          ⟨(some 39), none, .load 1 false (.t 38)⟩] false)
        (.seq (.ops [
          ⟨(some 40), none, .faddr 0 (.t 3)⟩] false)
        (.seq (.ops [
          ⟨none, none, .store 1 (.t 40) (.c (.int .i64 22))⟩] false)
        (.seq (.ops [
          ⟨(some 41), none, .faddr 3 (.t 3)⟩] false)
        (.seq (.ops [
          ⟨none, none, .store 1 (.t 41) (.t 35)⟩] false)
        (.seq (.ops [
          ⟨(some 42), none, .faddr 4 (.t 3)⟩] false)
        (.seq (.ops [
          ⟨none, none, .store 1 (.t 42) (.t 39)⟩] false)
        (.skip))))))))))))
       (.seq (.ops [
         ⟨(some 36), none, .load 1 false (.t 1)⟩] false)
       (.seq (.ops [
         ⟨(some 37), none, .nilCheck (.t 36)⟩] false)
       (.seq (.ops [
         ⟨(some 38), none, .faddr 1 (.t 37)⟩] false)
       (.both (.seq (.ops [
          ⟨(some 35), none, .load 1 false (.t 34)⟩] false)
        (.seq (.ops [
          ⟨(some 39), none, .load 1 false (.t 38)⟩] false)
        (.seq (.ops [
          ⟨(some 40), none, .faddr 0 (.t 3)⟩] false)
        (.seq (.ops [
          ⟨none, none, .store 1 (.t 40) (.c (.int .i64 22))⟩] false)
        (.seq (.ops [
          ⟨(some 41), none, .faddr 3 (.t 3)⟩] false)
        (.seq (.ops [
          ⟨none, none, .store 1 (.t 41) (.t 35)⟩] false)
        (.seq (.ops [
          ⟨(some 42), none, .faddr 4 (.t 3)⟩] false)
        (.seq (.ops [
          ⟨none, none, .store 1 (.t 42) (.t 39)⟩] false)
        (.skip)))))))))
       (.seq (.ops [
         ⟨(some 39), none, .load 1 false (.t 38)⟩] false)
       (.seq (.ops [
         ⟨(some 40), none, .faddr 0 (.t 3)⟩] false)
       (.both (.seq (.ops [
          ⟨(some 35), none, .load 1 false (.t 34)⟩] false)
        (.seq (.ops [
          ⟨none, none, .store 1 (.t 40) (.c (.int .i64 22))⟩] false)
        (.seq (.ops [
          ⟨(some 41), none, .faddr 3 (.t 3)⟩] false)
        (.seq (.ops [
          ⟨none, none, .store 1 (.t 41) (.t 35)⟩] false)
        (.seq (.ops [
          ⟨(some 42), none, .faddr 4 (.t 3)⟩] false)
        (.seq (.ops [
          ⟨none, none, .store 1 (.t 42) (.t 39)⟩] false)
        (.skip)))))))
       (.seq (.ops [
         ⟨none, none, .store 1 (.t 40) (.c (.int .i64 22))⟩] false)
       (.seq (.ops [
         ⟨(some 35), none, .load 1 false (.t 34)⟩] false)
       (.seq (.ops [
         ⟨(some 41), none, .faddr 3 (.t 3)⟩] false)
       (.seq (.ops [
         ⟨none, none, .store 1 (.t 41) (.t 35)⟩] false)
       (.seq (.ops [
         ⟨(some 42), none, .faddr 4 (.t 3)⟩] false)
       (.seq (.ops [
         ⟨none, none, .store 1 (.t 42) (.t 39)⟩] false)
       (.skip))))))))))))))))
      (.ops [
       ⟨(some 43), none, .load 1 false (.t 1)⟩,
       ⟨(some 44), none, .nilCheck (.t 43)⟩,
       ⟨(some 45), none, .faddr 1 (.t 44)⟩,
       ⟨(some 46), none, .load 1 false (.t 45)⟩,
       ⟨(some 47), none, .bin .add (.t 46) (.c (.int .i64 1))⟩,
       ⟨(some 48), none, .nilCheck (.t 43)⟩,
       ⟨(some 49), none, .faddr 1 (.t 48)⟩,
       ⟨none, none, .store 1 (.t 49) (.t 47)⟩] false))
     (.seq (.ops [
        ⟨(some 51), none, .faddr 0 (.t 4)⟩,
        ⟨(some 52), none, .load 1 false (.t 51)⟩,
        ⟨(some 53), none, .bin .eql (.t 52) (.c (.int .i64 1))⟩,
        ⟨(some 50), none, .mv (.t 53)⟩] false)
      (.cond (.t 50) (.seq (.ops [
         ⟨(some 54), none, .faddr 0 (.t 3)⟩,
         ⟨none, none, .store 1 (.t 54) (.c (.int .i64 23))⟩] false)
       (.ops [
        ⟨(some 55), none, .load 1 false (.t 1)⟩,
        ⟨(some 56), none, .call c3 [(.t 55), (.t 3)]⟩] false))
      (.seq (.ops [
         ⟨(some 58), none, .load 1 false (.t 1)⟩,
         ⟨(some 59), none, .call c4 [(.t 58), (.c (.str [105, 110, 112, 117, 116]))]⟩,
         ⟨(some 57), none, .mv (.t 59)⟩] false)
       (.cond (.t 57) (.ops [
         ⟨(some 60), none, .faddr 0 (.t 3)⟩,
         ⟨none, none, .store 1 (.t 60) (.c (.int .i64 24))⟩] false)
       (.seq (.ops [
          ⟨(some 62), none, .load 1 false (.t 1)⟩,
          ⟨(some 63), none, .call c4 [(.t 62), (.c (.str [40]))]⟩,
          ⟨(some 61), none, .mv (.t 63)⟩] false)
        (.cond (.t 61) (.seq (.ops [
           ⟨(some 64), none, .faddr 0 (.t 3)⟩,
           ⟨none, none, .store 1 (.t 64) (.c (.int .i64 25))⟩] false)
         (.seq (.ops [
           ⟨(some 65), none, .load 1 false (.t 1)⟩,
           ⟨(some 66), none, .call c5 [(.t 65)]⟩,
           ⟨(some 67), none, .bslice 6 [(.t 66)]⟩,
           ⟨(some 68), none, .call c6 [(.t 3), (.t 67)]⟩] false)
         (.ops [
          ⟨(some 69), none, .load 1 false (.t 1)⟩,
          ⟨(some 70), none, .call c7 [(.t 69), (.c (.str [41]))]⟩] false)))
        (.seq (.ops [
           ⟨(some 72), none, .load 1 false (.t 1)⟩,
           ⟨(some 73), none, .call c4 [(.t 72), (.c (.str [123]))]⟩,
           ⟨(some 71), none, .mv (.t 73)⟩] false)
         (.cond (.t 71) (.seq (.ops [
            ⟨(some 74), none, .faddr 0 (.t 3)⟩,
            ⟨none, none, .store 1 (.t 74) (.c (.int .i64 26))⟩] false)
          (.ops [
           ⟨(some 75), none, .load 1 false (.t 1)⟩,
           ⟨(some 76), none, .mkfn (.func c8) [] [(.t 1)]⟩,
           ⟨(some 77), none, .call c9 [(.t 75), (.t 3), (.c (.str [125])), (.t 76)]⟩] false))
         (.seq (.ops [
            ⟨(some 79), none, .load 1 false (.t 1)⟩,
            ⟨(some 80), none, .call c4 [(.t 79), (.c (.str [102, 110]))]⟩,
            ⟨(some 78), none, .mv (.t 80)⟩] false)
          (.cond (.t 78) (.seq (.ops [
             ⟨(some 81), none, .faddr 0 (.t 3)⟩,
             ⟨none, none, .store 1 (.t 81) (.c (.int .i64 28))⟩] false)
           (.both (.seq (.ops [
              ⟨(some 82), none, .load 1 false (.t 1)⟩] false)
            (.both (.seq (.ops [
               ⟨(some 83), none, .call c10 [(.t 82)]⟩] false)
             (.both (.seq (.ops [
                ⟨(some 84), none, .load 1 false (.t 1)⟩] false)
              (.both (.seq (.ops [
                 ⟨(some 85), none, .call c11 [(.t 84)]⟩] false)
               (.seq (.ops [
                 ⟨(some 86), none, .load 1 false (.t 1)⟩] false)
               (.seq (.ops [
                 ⟨(some 87), none, .call c12 [(.t 86)]⟩] false)
               (.seq (.ops [
                 ⟨(some 88), none, .bslice 6 [(.t 83), (.t 85), (.t 87)]⟩] false)
               (.seq (.ops [
                 ⟨(some 89), none, .call c6 [(.t 3), (.t 88)]⟩] false)
               (.skip))))))
              (.seq (.ops [
                ⟨(some 86), none, .load 1 false (.t 1)⟩] false)
              (.seq (.ops [
                ⟨(some 85), none, .call c11 [(.t 84)]⟩] false)
              (.seq (.ops [
                ⟨(some 87), none, .call c12 [(.t 86)]⟩] false)
              (.seq (.ops [
                ⟨(some 88), none, .bslice 6 [(.t 83), (.t 85), (.t 87)]⟩] false)
              (.seq (.ops [
                ⟨(some 89), none, .call c6 [(.t 3), (.t 88)]⟩] false)
              (.skip))))))))
             (.seq (.ops [
               ⟨(some 86), none, .load 1 false (.t 1)⟩] false)
             (.seq (.ops [
               ⟨(some 84), none, .load 1 false (.t 1)⟩] false)
             (.seq (.ops [
               ⟨(some 85), none, .call c11 [(.t 84)]⟩] false)
             (.seq (.ops [
               ⟨(some 87), none, .call c12 [(.t 86)]⟩] false)
             (.seq (.ops [
               ⟨(some 88), none, .bslice 6 [(.t 83), (.t 85), (.t 87)]⟩] false)
             (.seq (.ops [
               ⟨(some 89), none, .call c6 [(.t 3), (.t 88)]⟩] false)
             (.skip)))))))))
            (.both (.seq (.ops [
               ⟨(some 84), none, .load 1 false (.t 1)⟩] false)
             (.both (.seq (.ops [
                ⟨(some 83), none, .call c10 [(.t 82)]⟩] false)
              (.both (.seq (.ops [
                 ⟨(some 85), none, .call c11 [(.t 84)]⟩] false)
               (.seq (.ops [
                 ⟨(some 86), none, .load 1 false (.t 1)⟩] false)
               (.seq (.ops [
                 ⟨(some 87), none, .call c12 [(.t 86)]⟩] false)
               (.seq (.ops [
                 ⟨(some 88), none, .bslice 6 [(.t 83), (.t 85), (.t 87)]⟩] false)
               (.seq (.ops [
                 ⟨(some 89), none, .call c6 [(.t 3), (.t 88)]⟩] false)
               (.skip))))))
              (.seq (.ops [
                ⟨(some 86), none, .load 1 false (.t 1)⟩] false)
              (.seq (.ops [
                ⟨(some 85), none, .call c11 [(.t 84)]⟩] false)
              (.seq (.ops [
                ⟨(some 87), none, .call c12 [(.t 86)]⟩] false)
              (.seq (.ops [
                ⟨(some 88), none, .bslice 6 [(.t 83), (.t 85), (.t 87)]⟩] false)
              (.seq (.ops [
                ⟨(some 89), none, .call c6 [(.t 3), (.t 88)]⟩] false)
              (.skip))))))))
             (.seq (.ops [
               ⟨(some 86), none, .load 1 false (.t 1)⟩] false)
             (.seq (.ops [
               ⟨(some 83), none, .call c10 [(.t 82)]⟩] false)
             (.seq (.ops [
               ⟨(some 85), none, .call c11 [(.t 84)]⟩] false)
             (.seq (.ops [
               ⟨(some 87), none, .call c12 [(.t 86)]⟩] false)
             (.seq (.ops [
               ⟨(some 88), none, .bslice 6 [(.t 83), (.t 85), (.t 87)]⟩] false)
             (.seq (.ops [
               ⟨(some 89), none, .call c6 [(.t 3), (.t 88)]⟩] false)
             (.skip)))))))))
            (.seq (.ops [
              ⟨(some 86), none, .load 1 false (.t 1)⟩] false)
            (.both (.seq (.ops [
               ⟨(some 83), none, .call c10 [(.t 82)]⟩] false)
             (.seq (.ops [
               ⟨(some 84), none, .load 1 false (.t 1)⟩] false)
             (.seq (.ops [
               ⟨(some 85), none, .call c11 [(.t 84)]⟩] false)
             (.seq (.ops [
               ⟨(some 87), none, .call c12 [(.t 86)]⟩] false)
             (.seq (.ops [
               ⟨(some 88), none, .bslice 6 [(.t 83), (.t 85), (.t 87)]⟩] false)
             (.seq (.ops [
               ⟨(some 89), none, .call c6 [(.t 3), (.t 88)]⟩] false)
             (.skip)))))))
            (.seq (.ops [
              ⟨(some 84), none, .load 1 false (.t 1)⟩] false)
            (.seq (.ops [
              ⟨(some 83), none, .call c10 [(.t 82)]⟩] false)
            (.seq (.ops [
              ⟨(some 85), none, .call c11 [(.t 84)]⟩] false)
            (.seq (.ops [
              ⟨(some 87), none, .call c12 [(.t 86)]⟩] false)
            (.seq (.ops [
              ⟨(some 88), none, .bslice 6 [(.t 83), (.t 85), (.t 87)]⟩] false)
            (.seq (.ops [
              ⟨(some 89), none, .call c6 [(.t 3), (.t 88)]⟩] false)
            (.skip))))))))))))
           (.both (.seq (.ops [
              ⟨(some 84), none, .load 1 false (.t 1)⟩] false)
            (.both (.seq (.ops [
               ⟨(some 82), none, .load 1 false (.t 1)⟩] false)
             (.both (.seq (.ops [
                ⟨(some 83), none, .call c10 [(.t 82)]⟩] false)
              (.both (.seq (.ops [
                 ⟨(some 85), none, .call c11 [(.t 84)]⟩] false)
               (.seq (.ops [
                 ⟨(some 86), none, .load 1 false (.t 1)⟩] false)
               (.seq (.ops [
                 ⟨(some 87), none, .call c12 [(.t 86)]⟩] false)
               (.seq (.ops [
                 ⟨(some 88), none, .bslice 6 [(.t 83), (.t 85), (.t 87)]⟩] false)
               (.seq (.ops [
                 ⟨(some 89), none, .call c6 [(.t 3), (.t 88)]⟩] false)
               (.skip))))))
              (.seq (.ops [
                ⟨(some 86), none, .load 1 false (.t 1)⟩] false)
              (.seq (.ops [
                ⟨(some 85), none, .call c11 [(.t 84)]⟩] false)
              (.seq (.ops [
                ⟨(some 87), none, .call c12 [(.t 86)]⟩] false)
              (.seq (.ops [
                ⟨(some 88), none, .bslice 6 [(.t 83), (.t 85), (.t 87)]⟩] false)
              (.seq (.ops [
                ⟨(some 89), none, .call c6 [(.t 3), (.t 88)]⟩] false)
              (.skip))))))))
             (.seq (.ops [
               ⟨(some 86), none, .load 1 false (.t 1)⟩] false)
             (.seq (.ops [
               ⟨(some 83), none, .call c10 [(.t 82)]⟩] false)
             (.seq (.ops [
               ⟨(some 85), none, .call c11 [(.t 84)]⟩] false)
             (.seq (.ops [
               ⟨(some 87), none, .call c12 [(.t 86)]⟩] false)
             (.seq (.ops [
               ⟨(some 88), none, .bslice 6 [(.t 83), (.t 85), (.t 87)]⟩] false)
             (.seq (.ops [
               ⟨(some 89), none, .call c6 [(.t 3), (.t 88)]⟩] false)
             (.skip)))))))))
            (.seq (.ops [
              ⟨(some 86), none, .load 1 false (.t 1)⟩] false)
            (.seq (.ops [
              ⟨(some 82), none, .load 1 false (.t 1)⟩] false)
            (.seq (.ops [
              ⟨(some 83), none, .call c10 [(.t 82)]⟩] false)
            (.seq (.ops [
              ⟨(some 85), none, .call c11 [(.t 84)]⟩] false)
            (.seq (.ops [
              ⟨(some 87), none, .call c12 [(.t 86)]⟩] false)
            (.seq (.ops [
              ⟨(some 88), none, .bslice 6 [(.t 83), (.t 85), (.t 87)]⟩] false)
            (.seq (.ops [
              ⟨(some 89), none, .call c6 [(.t 3), (.t 88)]⟩] false)
            (.skip))))))))))
           (.seq (.ops [
             ⟨(some 86), none, .load 1 false (.t 1)⟩] false)
           (.both (.seq (.ops [
              ⟨(some 82), none, .load 1 false (.t 1)⟩] false)
            (.both (.seq (.ops [
               ⟨(some 83), none, .call c10 [(.t 82)]⟩] false)
             (.seq (.ops [
               ⟨(some 84), none, .load 1 false (.t 1)⟩] false)
             (.seq (.ops [
               ⟨(some 85), none, .call c11 [(.t 84)]⟩] false)
             (.seq (.ops [
               ⟨(some 87), none, .call c12 [(.t 86)]⟩] false)
             (.seq (.ops [
               ⟨(some 88), none, .bslice 6 [(.t 83), (.t 85), (.t 87)]⟩] false)
             (.seq (.ops [
               ⟨(some 89), none, .call c6 [(.t 3), (.t 88)]⟩] false)
             (.skip)))))))
            (.seq (.ops [
              ⟨(some 84), none, .load 1 false (.t 1)⟩] false)
            (.seq (.ops [
              ⟨(some 83), none, .call c10 [(.t 82)]⟩] false)
            (.seq (.ops [
              ⟨(some 85), none, .call c11 [(.t 84)]⟩] false)
            (.seq (.ops [
              ⟨(some 87), none, .call c12 [(.t 86)]⟩] false)
            (.seq (.ops [
              ⟨(some 88), none, .bslice 6 [(.t 83), (.t 85), (.t 87)]⟩] false)
            (.seq (.ops [
              ⟨(some 89), none, .call c6 [(.t 3), (.t 88)]⟩] false)
            (.skip)))))))))
           (.seq (.ops [
             ⟨(some 84), none, .load 1 false (.t 1)⟩] false)
           (.seq (.ops [
             ⟨(some 82), none, .load 1 false (.t 1)⟩] false)
           (.seq (.ops [
             ⟨(some 83), none, .call c10 [(.t 82)]⟩] false)
           (.seq (.ops [
             ⟨(some 85), none, .call c11 [(.t 84)]⟩] false)
           (.seq (.ops [
             ⟨(some 87), none, .call c12 [(.t 86)]⟩] false)
           (.seq (.ops [
             ⟨(some 88), none, .bslice 6 [(.t 83), (.t 85), (.t 87)]⟩] false)
           (.seq (.ops [
             ⟨(some 89), none, .call c6 [(.t 3), (.t 88)]⟩] false)
           (.skip)))))))))))))
          (.ops [
            ⟨(some 9), none, .load 1 false (.t 1)⟩,
            ⟨(some 10), none, .call c13 [(.t 9), (.c (.int .i64 24))]⟩] false))))))))))))))))
  (.seq (.ops [
    ⟨(some 90), none, .load 1 false (.t 1)⟩,
    ⟨(some 91), none, .load 6 true (.t 3)⟩,
    ⟨(some 92), none, .call c14 [(.t 90), (.t 91)]⟩,
    ⟨none, none, .store 6 (.t 2) (.t 92)⟩] false)
  (.ret)))))) }

def irPEntry (c1 c2 c3 c4 c5 c6 t1 : Nat) : IFn :=
 { nt := 16, res := [.cell 1 6 true], body := (
  .seq (.ops [
    ⟨(some 1), none, .alloc t1 [(.int .i64 0), (.int .i64 0), (.int .i64 0), (.str []), (.int .i64 0), (.sl true 6 [])]⟩] false)
  (.seq (.ops [
    ⟨(some 3), none, .load 1 false (.t 0)⟩,
    ⟨(some 4), none, .call c1 [(.t 3), (.c (.int .i64 27))]⟩,
    ⟨(some 2), none, .alloc t1 [(.int .i64 0), (.int .i64 0), (.int .i64 0), (.str []), (.int .i64 0), (.sl true 6 [])]⟩,
    ⟨none, none, .store 6 (.t 2) (.t 4)⟩] false)
  (.seq (.ops [
    ⟨(some 5), none, .load 1 false (.t 0)⟩,
    ⟨(some 6), none, .call c2 [(.t 5), (.t 2)]⟩] false)
  (.seq (.ops [
    ⟨(some 7), none, .load 1 false (.t 0)⟩,
    ⟨(some 8), none, .call c3 [(.t 7), (.c (.str [58]))]⟩] false)
  (.seq (.ops [
    ⟨(some 9), none, .load 1 false (.t 0)⟩,
    ⟨(some 10), none, .call c4 [(.t 9)]⟩,
    ⟨(some 11), none, .bslice 6 [(.t 10)]⟩,
    ⟨(some 12), none, .call c5 [(.t 2), (.t 11)]⟩] false)
  (.seq (.ops [
    ⟨(some 13), none, .load 1 false (.t 0)⟩,
    ⟨(some 14), none, .load 6 true (.t 2)⟩,
    ⟨(some 15), none, .call c6 [(.t 13), (.t 14)]⟩,
    ⟨none, none, .store 6 (.t 1) (.t 15)⟩] false)
  (.ret))))))) }

end Go.Zam

namespace Go.Zam
set_option linter.all false
set_option maxRecDepth 100000
set_option maxHeartbeats 1000000

/-- what is of one is of the other, whatever it is -/
def Nrm (x x' : A) : Prop := ∀ κ v, VR κ v x → VR κ v x'
theorem Nrm.refl (x : A) : Nrm x x := fun _ _ h => h

/-- the functions' numbers -/
structure PF where
  (now fail is took want word node done put list file use_ def_ params param typed kind tfield block stmt sets expr with_ sum term post atom entry : FuncId)
  (tn tt tp tb : TypeId)

/-- the functions that types are parsed by -/
structure KHas (P : Program) (F : PF) : Prop where
  now : Has P F.now (irPNow F.tt)
  fail : Has P F.fail irPFail
  is : Has P F.is (irPIs F.now F.tt)
  took : Has P F.took (irPTook F.is)
  want : Has P F.want (irPWant F.took F.fail)
  word : Has P F.word (irPWord F.now F.fail F.tt)
  node : HasT P [10] F.node (irPNode F.tn)
  done : Has P F.done (irPDone F.tn)
  put : Has P F.put (irPPut F.tn)
  list : Has P F.list (irPList F.took F.put F.want)
  kind : Has P F.kind (irPKind F.node F.took F.tfield F.list F.want F.kind F.put F.fail F.done F.tb F.tn)
  tfield : Has P F.tfield (irPTField F.node F.word F.want F.kind F.put F.done F.tn)
  kTField : callOk P F.tfield = true
  kKind : callOk P F.kind = true

structure PHas (P : Program) (F : PF) : Prop extends KHas P F where
  file : Has P F.file (irPFile F.node F.now F.is F.use_ F.put F.def_ F.fail F.done F.tn)
  use_ : Has P F.use_ (irPUse F.node F.want F.word F.done F.put F.tn)
  def_ : Has P F.def_ (irPDef F.node F.want F.word F.params F.typed F.block F.put F.done F.tn)
  params : Has P F.params (irPParams F.node F.want F.param F.list F.done F.tb F.tn)
  param : Has P F.param (irPParam F.node F.word F.typed F.put F.done F.tn)
  typed : Has P F.typed (irPTyped F.took F.kind F.tn)
  block : Has P F.block (irPBlock F.node F.want F.took F.stmt F.put F.done F.tn)
  stmt : Has P F.stmt (irPStmt F.node F.took F.word F.typed F.put F.want F.expr F.block F.done F.sets F.tn)
  sets : Has P F.sets (irPSets F.now F.tt)
  expr : Has P F.expr (irPExpr F.sum F.took F.with_ F.tn)
  with_ : Has P F.with_ (irPWith F.tn)
  sum : Has P F.sum (irPSum F.term F.took F.with_ F.tn)
  term : Has P F.term (irPTerm F.post F.took F.with_ F.tn)
  post : HasT P [15] F.post (irPPost F.atom F.took F.word F.expr F.list F.done F.tn)
  atom : HasT P [4000000] F.atom (irPAtom F.node F.now F.word F.took F.expr F.put F.want F.entry F.list F.params F.typed F.block F.fail F.done F.tb F.tn F.tt)
  entry : Has P F.entry (irPEntry F.node F.word F.want F.expr F.put F.done F.tn)
  kParam : callOk P F.param = true
  kExpr : callOk P F.expr = true
  kSum : callOk P F.sum = true
  kTerm : callOk P F.term = true
  kPost : callOk P F.post = true
  kEntry : callOk P F.entry = true

/-- where it is; the token at which it couldn't go on -/
abbrev PSt := Nat × Option Nat

def pst (tp : TypeId) (z : Bool) (L : List Tk) (s : PSt) : Ob := .box tp [.d (.sl z 4 (L.map encTk)), .d (.int .i64 (s.1 : Int)), .d (.int .i64 (if s.2.isSome then 24 else 0)), .d (.int .i64 ((s.2.getD 0 : Nat) : Int))]

theorem get_app {H : Hp} {i : Nat} {o : Ob} (h : H[i]? = some o) (X : Hp) : (H ++ X)[i]? = some o := by
  rw [List.getElem?_append_left (List.getElem?_eq_some_iff.1 h).1]; exact h

theorem up {H X : Hp} {i : Nat} {o o' : Ob} (hi : i < H.length) : (H.set i o ++ X).set i o' = H.set i o' ++ X := by
  rw [List.set_append_left _ _ (by simpa using hi)]; simp
section
variable {P : Program} {F : PF} {z : Bool} {L : List Tk} {H : Hp} {i : Nat} {s : PSt}

def nag (k f t : Int) (w : Bs) (a : Int) (z : Bool) (rows : List (List D)) (q : Nat) : A := .agg [.d (.int .i64 k), .d (.int .i64 f), .d (.int .i64 t), .d (.str w), .d (.int .i64 a), .osl z 6 rows q]

theorem KHas.done' (hF : KHas P F) (hi : H[i]? = some (pst F.tp z L s)) {k f t : Int} {w : Bs} {a : Int} {zz : Bool} {rows : List (List D)} {q : Nat} (hq : q < H.length) :
    ACall P F.done [.ptr i 0, nag k f t w a zz rows q] H (fun r H' => r = nag k f s.1 w a zz rows q ∧ H' = H) := by
  obtain ⟨fn, hf, hcf⟩ := hF.done
  refine acall_fin hf hcf (by simp [irPDone]) fun hcl _ => ?_
  have hA := get_app hi
  unfold pst at hA
  simp [irPDone, nag, hA]
  simp [RetK, nag, cut_app hcl, hq]

end
end Go.Zam

namespace Go.Zam
set_option linter.all false
set_option maxRecDepth 100000
set_option maxHeartbeats 1000000

theorem HR.vecNil {κ : K} {H : Hp} {w : World} (hr : HR κ H w) {i sz e : Nat} (hi : H[i]? = some (.vec sz e 0 [])) {v : Value} (hv : VR κ v (.vsl i 0 0)) : VR κ v (.d (.sl true sz [])) := by
  rcases hr.ob i _ hi with ⟨hβ, -, -⟩ | ⟨b, c, cur, hβ, hk, -⟩
  · cases hv with
    | vsl _ _ _ ad cap hlc hf =>
    rw [hβ] at hf
    obtain ⟨-, -, hf⟩ := hf
    rw [hf]
    exact .d (.nilsl sz)
  · exact absurd rfl (hk rfl)

/-- nothing was appended -/
theorem ACall.vecNil {P : Program} {f : FuncId} {H : Hp} {i sz e : Nat} {args : List A} {Q : A → Hp → Prop} (hi : H[i]? = some (.vec sz e 0 [])) (h : ACall P f (.d (.sl true sz []) :: args) H Q) : ACall P f (.vsl i 0 0 :: args) H Q := by
  intro κ w vs hr hl hv
  refine h κ w vs hr (by simpa using hl) fun m v a hm ha => ?_
  cases m with
  | zero => simp at ha; subst ha; exact hr.vecNil hi (hv 0 v _ hm rfl)
  | succ m => exact hv (m + 1) v a hm (by simpa using ha)

end Go.Zam

namespace Go.Zam
set_option linter.all false
set_option maxRecDepth 100000
set_option maxHeartbeats 1000000

/-- the other view of a row, and how it stands -/
theorem HR.vecArr2 {κ : K} {H : Hp} {w : World} (hr : HR κ H w) {i k sz e : Nat} {rows : List (List D)} (hi : H[i]? = some (.vec sz e k rows)) (hne : rows ≠ []) :
    ∃ κs, κ.le κs ∧ HR κs (H.set i .dead ++ [.arr sz (rows.map (List.map .d))]) w ∧ (∀ v, VR κ v (.vsl i k rows.length) → VR κs v (.msl H.length 0 rows.length)) ∧ (∀ m, m ≠ i → m ≠ H.length → κs.β m = κ.β m) ∧ ∃ b c n, κ.β i = .vec b c rows.length k sz 0 ∧ κs.β H.length = .arr b sz (some (e, n)) ∧ (k = 0 → rows ≠ []) ∧ rows.length ≤ c ∧ c * sz ≤ n := by
  have hil : i < H.length := (List.getElem?_eq_some_iff.1 hi).1
  rcases hr.ob i _ hi with ⟨-, -, h0⟩ | ⟨b, c, cur, hβ, hk0, hheap, hle0, hsz, hcells⟩
  · exact absurd h0 hne
  have hpos : 0 < rows.length := List.length_pos_iff.2 hne
  have hbx := hr.ex i b (by rw [hβ]; rfl)
  have hn : κ.β H.length = .none := hr.dom _ (Nat.le_refl _)
  let κs : K := { κ with β := upd (upd κ.β i .deadT) H.length (.arr b sz (some (e, cur.size))) }
  have hsβ : ∀ m, m ≠ i → m ≠ H.length → κs.β m = κ.β m := fun m h1 h2 => by
    show upd (upd κ.β i _) H.length _ m = _
    rw [upd_ne _ _ h2, upd_ne _ _ h1]
  have hsi : κs.β i = .deadT := by
    show upd (upd κ.β i _) H.length _ i = _
    rw [upd_ne _ _ (by omega), upd_same]
  have hsn : κs.β H.length = .arr b sz (some (e, cur.size)) := upd_same _ _ _
  have hks : κ.le κs := ⟨rfl, fun _ _ _ h => h, fun m => by
    by_cases h1 : m = i
    · subst h1; rw [hsi, hβ]; exact .inr (.inl rfl)
    · by_cases h2 : m = H.length
      · subst h2; rw [hn]; trivial
      · rw [hsβ m h1 h2]; exact Bind.le_refl _⟩
  have hblk : ∀ m b', (κs.β m).block = some b' → (m = H.length ∧ b' = b) ∨ (m ≠ H.length ∧ m ≠ i ∧ (κ.β m).block = some b') := fun m b' hm => by
    by_cases h2 : m = H.length
    · subst h2; rw [hsn] at hm; cases hm; exact .inl ⟨rfl, rfl⟩
    · by_cases h1 : m = i
      · subst h1; rw [hsi] at hm; cases hm
      · rw [hsβ m h1 h2] at hm; exact .inr ⟨h2, h1, hm⟩
  refine ⟨κs, hks, ⟨hr.below, hr.st, fun m x hx => ?_, fun m hm => ?_, fun m b' hb' => ?_, fun m b' o ho => ?_, fun m q b' h1 h2 => ?_, fun m x hx => ?_⟩, fun v hv => ?_, hsβ, b, c, cur.size, hβ, hsn, hk0, hle0, hsz⟩
  · by_cases h2 : m = H.length
    · subst h2
      rw [show H.length = (H.set i Ob.dead).length by simp, getElem?_app0] at hx
      cases hx
      refine ⟨b, _, hsn, fun ty n he => by cases he; exact ⟨cur, hheap, rfl⟩, fun q r hq => ?_⟩
      simp only [List.getElem?_map, Option.map_eq_some_iff] at hq
      obtain ⟨r0, hr0, rfl⟩ := hq
      refine ⟨by simpa using (hcells q r0 hr0).1, fun y a ha => ?_⟩
      simp only [List.getElem?_map, Option.map_eq_some_iff] at ha
      obtain ⟨x0, hx0, rfl⟩ := ha
      obtain ⟨u, u1, u2⟩ := (hcells q r0 hr0).2 y x0 hx0
      exact ⟨u, by rw [cell_cells hheap]; exact u1, by simp [World.frozen?, hheap], .d u2⟩
    · have hm : m < (H.set i Ob.dead).length := by
        have := (List.getElem?_eq_some_iff.1 hx).1
        simp at this ⊢; omega
      rw [List.getElem?_append_left hm] at hx
      by_cases h1 : i = m
      · subst h1
        rw [List.getElem?_set_self hil] at hx
        cases hx; trivial
      · rw [List.getElem?_set_ne h1] at hx
        exact (hr.ob m x hx).mono hks (hsβ m (Ne.symm h1) h2) fun _ _ => rfl
  · have : H.length + 1 ≤ m := by simpa using hm
    rw [hsβ m (by omega) (by omega)]; exact hr.dom m (by omega)
  · rcases hblk m b' hb' with ⟨-, rfl⟩ | ⟨-, -, h3⟩
    · exact hbx
    · exact hr.ex m b' h3
  · rcases hblk m b' (Bind.block_of_owns ho) with ⟨rfl, rfl⟩ | ⟨h1, h2, h3⟩
    · exact hr.exσ i b' o (by rw [hβ]; rfl)
    · rw [hsβ m h2 h1] at ho; exact hr.exσ m b' o ho
  · rcases hblk m b' h1 with ⟨rfl, rfl⟩ | ⟨a1, a2, a3⟩
    · rcases hblk q b' h2 with ⟨rfl, -⟩ | ⟨c1, c2, c3⟩
      · rfl
      · exact absurd (hr.exd q i b' c3 (by rw [hβ]; rfl)) c2
    · rcases hblk q b' h2 with ⟨rfl, rfl⟩ | ⟨c1, c2, c3⟩
      · exact absurd (hr.exd m i b' a3 (by rw [hβ]; rfl)) a2
      · exact hr.exd m q b' a3 c3
  · by_cases h2 : m = H.length
    · subst h2
      rw [show H.length = (H.set i Ob.dead).length by simp, getElem?_app0] at hx
      cases hx
      simp [Ob.flat, A.flat]
    · have hm : m < (H.set i Ob.dead).length := by
        have := (List.getElem?_eq_some_iff.1 hx).1
        simp at this ⊢; omega
      rw [List.getElem?_append_left hm] at hx
      by_cases h1 : i = m
      · subst h1
        rw [List.getElem?_set_self hil] at hx
        cases hx; rfl
      · rw [List.getElem?_set_ne h1] at hx
        exact hr.fl m x hx
  · cases hv with
    | vsl _ _ _ ad cap hlc hf =>
    rw [hβ] at hf
    have := (hf.2 rfl).2
    cases this
    exact .msl _ _ _ b sz 0 c (.inl ⟨_, hsn⟩) hlc (fun _ => by simp) (fun h0 => by omega)


end Go.Zam

namespace Go.Zam
open Go.Proofs
set_option maxRecDepth 100000
set_option linter.all false
set_option maxHeartbeats 1000000

theorem findM_at {pre rest : List Mod} {m : Mod} {s : Bs} (h : ∀ x ∈ pre, x.n ≠ s) (hm : m.n = s) : findM (pre ++ m :: rest) s = pre.length := by
  have : indexP (fun m : Mod => decide (m.n = s)) (pre ++ m :: rest) = some pre.length := by
    induction pre with
    | nil => simp [indexP, hm]
    | cons x pre ih =>
      have h1 := h x (by simp)
      simp only [List.cons_append, indexP, decide_eq_true_eq, if_neg h1]
      rw [ih fun y hy => h y (by simp [hy])]
      rfl
  simp [findM, indexI, this]

theorem findM_none {l : List Mod} {s : Bs} (h : ∀ x ∈ l, x.n ≠ s) : findM l s = -1 := by
  have : indexP (fun m : Mod => decide (m.n = s)) l = none := by
    induction l with
    | nil => rfl
    | cons x l ih =>
      have h1 := h x (by simp)
      simp only [indexP, decide_eq_true_eq, if_neg h1]
      rw [ih fun y hy => h y (by simp [hy])]
      rfl
  simp [findM, indexI, this]

theorem findM_take {l : List Mod} {s : Bs} {i : Nat} (hi : i < l.length) (h : ∀ x ∈ l.take i, x.n ≠ s) (hm : l[i].n = s) : findM l s = i := by
  have e : l = l.take i ++ l[i] :: l.drop (i + 1) := by
    rw [← List.drop_eq_getElem_cons hi, List.take_append_drop]
  rw [e, findM_at h hm]
  simp; omega

section
variable {P : Program}

theorem Has.rcFind {f} (h : Has P f irRcFind) (z : Bool) (l : List Mod) (s : Bs) (hl : l.length ≤ 1099511627776) (H : Hp) :
    ACall P f [.d (.sl z 2 (l.map encM)), .d (.str s)] H (fun r H' => r = .d (.int .i64 (findM l s)) ∧ H' = H) := by
  obtain ⟨fn, hf, hcf⟩ := h
  refine acall_fin hf hcf (by simp [irRcFind]) fun hcl _ => ?_
  simp [irRcFind]
  refine LoopK_outR 0 (fun fr H' => findM l s = -1 ∧ H' = H) (fun fr H' => fr 4 = .d (.int .i64 (findM l s)) ∧ H' = H) ?_ ?_ ?_
  · refine ForK_of H.length l.length (fun i fr H' => fr 0 = .d (.sl z 2 (l.map encM)) ∧ fr 1 = .d (.str s) ∧ (∀ x ∈ l.take i, x.n ≠ s) ∧ H' = H) (by omega) (by decide) (by simp) (by simp) ?_ ?_
    · simp [cut_self hcl]
    rintro i fr H' hi f5 ⟨f0, f1, hno, rfl⟩
    simp [f5, f0]
    refine BrK_split (fun h => ?_) (fun h => ?_)
    · have hia : i < l.length := by simpa using h
      have hr := rowAt_map encM hia
      simp only [encM] at hr
      simp [f0, f1, f5, hr]
      refine BrK_split (fun h2 => ?_) (fun h2 => ?_)
      · have h2 : l[i].n = s := by simpa using h2
        simp [f5, findM_take hia hno h2]
      · have h2 : ¬ l[i].n = s := by simpa using h2
        simp
        refine NextF_of H'.length (Nat.le_refl _) hia (by simp [f5]) ?_
        simp only [List.take_succ_eq_append_getElem hia, List.mem_append, List.mem_singleton]
        refine ⟨by simp [f0], by simp [f1], ?_, cut_self hcl⟩
        rintro x (hx | rfl)
        · exact hno x hx
        · exact h2
    · have hia : l.length ≤ i := by simpa using h
      rw [List.take_of_length_le hia] at hno
      simp [findM_none hno]
  · rintro fr H' ⟨f4, rfl⟩
    simp [RetK, f4, cut_self hcl]
  · rintro fr H' ⟨hn, rfl⟩
    simp [RetK, hn, cut_self hcl]

theorem HasT.rcFindV {f} (h : HasT P [3000014, 3000016] f irRcFindV) {H : Hp} {i0 k e : Nat} (l : List Mod) (s : Bs) (hl : l.length ≤ 1099511627776) (hi0 : H[i0]? = some (.vec 2 e k (l.map encM))) :
    ACall P f [.vsl i0 k l.length, .d (.str s)] H (fun r H' => r = .d (.int .i64 (findM l s)) ∧ H' = H) := by
  obtain ⟨fn, hf, hcf⟩ := h
  have hil : i0 < H.length := (List.getElem?_eq_some_iff.1 hi0).1
  refine acall_fin hf hcf (by simp [irRcFindV]) fun hcl _ => ?_
  simp [irRcFindV]
  refine LoopK_outR 0 (fun fr H' => findM l s = -1 ∧ H' = H) (fun fr H' => fr 4 = .d (.int .i64 (findM l s)) ∧ H' = H) ?_ ?_ ?_
  · refine ForK_of H.length l.length (fun i fr H' => fr 0 = .vsl i0 k l.length ∧ fr 1 = .d (.str s) ∧ (∀ x ∈ l.take i, x.n ≠ s) ∧ H' = H) (by omega) (by decide) (by simp) (by simp) ?_ ?_
    · simp [cut_self hcl, hil]
    rintro i fr H' hi f5 ⟨f0, f1, hno, rfl⟩
    simp [f5, f0]
    refine BrK_split (fun h => ?_) (fun h => ?_)
    · have hia : i < l.length := by simpa using h
      have hr : (l.map encM)[i]? = some (encM l[i]) := by simp [hia]
      simp only [encM] at hr
      simp [f0, f1, f5, hr, hi0, hia, encM]
      refine BrK_split (fun h2 => ?_) (fun h2 => ?_)
      · have h2 : l[i].n = s := by simpa using h2
        simp [f5, findM_take hia hno h2]
      · have h2 : ¬ l[i].n = s := by simpa using h2
        simp
        refine NextF_of H'.length (Nat.le_refl _) hia (by simp [f5]) ?_
        simp only [List.take_succ_eq_append_getElem hia, List.mem_append, List.mem_singleton]
        refine ⟨by simp [f0, hil], by simp [f1], ?_, cut_self hcl⟩
        rintro x (hx | rfl)
        · exact hno x hx
        · exact h2
    · have hia : l.length ≤ i := by simpa using h
      rw [List.take_of_length_le hia] at hno
      simp [findM_none hno]
  · rintro fr H' ⟨f4, rfl⟩
    simp [RetK, f4, cut_self hcl]
  · rintro fr H' ⟨hn, rfl⟩
    simp [RetK, hn, cut_self hcl]
end
end Go.Zam

namespace Go.Zam
open Go.Proofs
set_option maxRecDepth 100000
set_option linter.all false
set_option maxHeartbeats 1000000

theorem gtS (x y : Mod) : strOp .gtr y.n x.n = some (.bool (decide (cM x y < 0))) := by
  have e : (!(Op.bytesLess y.n x.n || decide (y.n = x.n))) = decide (cM x y < 0) := by
    unfold cM
    by_cases h : cmpStr x.n y.n < 0
    · have h1 := cmpStr_lt.1 h
      have h2 := bl_asymm h1
      have h3 : y.n ≠ x.n := fun e => by rw [e, bl_irrefl] at h1; cases h1
      simp [h, h2, h3]
    · have h1 : Op.bytesLess x.n y.n = false := by
        cases hb : Op.bytesLess x.n y.n with
        | false => rfl
        | true => exact absurd (cmpStr_lt.2 hb) h
      by_cases h3 : y.n = x.n
      · have := cmpStr_cmp.refl x.n
        simp [h3, this]
      · have h2 : Op.bytesLess y.n x.n = true := by
          cases hb : Op.bytesLess y.n x.n with
          | true => rfl
          | false => exact absurd (bl_total _ _ hb h1) h3
        simp [h, h2]
  simp only [strOp, e]

section
variable {P : Program}

theorem HasT.rcSort {f tM} (h : HasT P [6, 3] f (irRcSort tM)) (z : Bool) (l : List Mod) (hl : l.length ≤ 1048576) (H : Hp) :
    ACall P f [.d (.sl z 2 (l.map encM))] H (fun r H' => r = .d (.sl true 2 ((ssort cM l).map encM)) ∧ H' = H) := by
  obtain ⟨fn, hf, hcf⟩ := h
  refine acall_fin hf hcf (by simp [irRcSort]) fun hcl _ => ?_
  simp [irRcSort]
  refine LoopK_out 0 (fun fr H' => fr 3 = .d (.sl true 2 ((ssort cM l).map encM)) ∧ ∃ X, H' = H ++ X) ?_ ?_
  · refine ForK_of H.length l.length (fun i fr H' => fr 0 = .d (.sl z 2 (l.map encM)) ∧ fr 3 = .d (.sl true 2 ((ssort cM (l.take i)).map encM)) ∧ H' = H) (by omega) (by decide) (by simp) (by simp) ?_ ?_
    · simp [cut_app hcl, ssort]
    rintro i fr H' hi f4 ⟨f0, f3, rfl⟩
    simp [f4, f0]
    refine BrK_split (fun h => ?_) (fun h => ?_)
    · have hia : i < l.length := by simpa using h
      have hr := rowAt_map encM hia
      have ht : l.take (i + 1) = l.take i ++ [l[i]] := List.take_succ_eq_append_getElem hia
      have hsl := ssort_length cM_cmp (l.take i)
      have hso := (ssort_spec cM_cmp (l.take i)).1
      have hsn : ∀ a b, ssort cM (l.take i) = a ++ b → (∀ y ∈ a, cM y l[i] ≤ 0) → (∀ y ∈ b, cM l[i] y < 0) → ssort cM (l.take (i + 1)) = a ++ l[i] :: b := fun a b e ha hb => by
        rw [ht, ← ssort_snoc cM_cmp (by rw [← e]; exact hso) ha hb]
        refine ssort_alk cM_cmp ?_
        refine Alk.append ?_ (Alk.refl _)
        rw [← e]
        exact ((ssort_spec cM_cmp (l.take i)).2).symm
      have hlt : (l.take i).length = i := by simp; omega
      rw [hlt] at hsl
      generalize ssort cM (l.take i) = S at f3 hsl hso hsn
      generalize l[i] = x at hr hsn
      have hg := gtS x
      simp only [encM] at hr
      simp [f3]
      refine LoopK_out 2 (fun fr H2 => ∃ a : Nat, a ≤ S.length ∧ (∀ y ∈ S.drop a, cM x y < 0) ∧ (∀ y ∈ S.take a, cM y x ≤ 0) ∧ fr 0 = .d (.sl z 2 (l.map encM)) ∧ fr 3 = .d (.sl true 2 (S.map encM)) ∧ fr 4 = .d (.int .i64 (i : Int)) ∧ fr 5 = .d (.int .i64 (a : Int)) ∧ H2 = H') ?_ ?_
      · refine LoopM_of H'.length (fun d fr H2 => ∃ a : Nat, a < d ∧ a ≤ S.length ∧ (∀ y ∈ S.drop a, cM x y < 0) ∧ fr 0 = .d (.sl z 2 (l.map encM)) ∧ fr 3 = .d (.sl true 2 (S.map encM)) ∧ fr 4 = .d (.int .i64 (i : Int)) ∧ fr 5 = .d (.int .i64 (a : Int)) ∧ H2 = H') (S.length + 1) (by simp) ⟨S.length, by omega, Nat.le_refl _, by simp, ?_⟩ ?_
        · simp [f0, f3, f4, cut_self hcl, hsl]
        rintro d fr H2 ⟨a, hd, ha, hb, f0, f3, f4, f5, rfl⟩
        simp [f5]
        rcases Nat.eq_zero_or_pos a with rfl | hpos
        · simp [f5]
          exact ⟨0, by omega, by simpa using hb, by simp, by simp [f0], by simp [f3], by simp [f4], by simp [f5]⟩
        · obtain ⟨b, rfl⟩ : ∃ b, a = b + 1 := ⟨a - 1, by omega⟩
          have hbs : b < S.length := by omega
          have hrb := rowAt_map encM hbs
          have hw : IntKind.i64.wrap ((b : Int) + 1 - 1) = b := by rw [wrap_i64 (by omega) (by omega)]; omega
          have hw' : IntKind.i64.wrap (b : Int) = b := wrap_i64 (by omega) (by omega)
          have hp : (0 : Int) < (b : Int) + 1 := by omega
          have hgb := hg S[b]
          have hsp : ∀ y ∈ S.take b, cM y S[b] ≤ 0 := by
            have h1 := hso
            rw [← List.take_append_drop b S, List.drop_eq_getElem_cons hbs] at h1
            have := (Sorted.append (c := cM)).1 h1
            exact fun y hy => this.2.2 y hy _ (List.mem_cons_self ..)
          have hdr : S.drop b = S[b] :: S.drop (b + 1) := List.drop_eq_getElem_cons hbs
          have htk : S.take (b + 1) = S.take b ++ [S[b]] := List.take_succ_eq_append_getElem hbs
          generalize S[b] = y at hrb hgb hsp hdr htk
          simp only [encM] at hrb
          simp [f0, f3, f4, f5, hp, hw, hw', hr, hrb, hgb, -strOp]
          refine BrK_split (fun h2 => ?_) (fun h2 => ?_)
          · have h2 : cM x y < 0 := by simpa using h2
            simp [f5, hw, hw']
            obtain ⟨d', rfl⟩ : ∃ d', d = d' + 1 := ⟨d - 1, by omega⟩
            refine NextM_of H2.length d' (Nat.le_refl _) (by simp) (by omega) ⟨b, by omega, by omega, ?_, ?_⟩
            · rw [hdr]
              intro v hv
              rcases List.mem_cons.1 hv with rfl | hv
              · exact h2
              · exact hb v hv
            · simp [f0, f3, f4, cut_self hcl]
          · have h2 : ¬ cM x y < 0 := by simpa using h2
            simp
            refine ⟨b + 1, ha, hb, ?_, by simp [f0], by simp [f3], by simp [f4], by simp [f5]⟩
            rw [htk]
            have hyx := (cM_cmp.not_lt).1 h2
            intro v hv
            rcases List.mem_append.1 hv with hv | hv
            · exact cM_cmp.trans _ _ _ (hsp v hv) hyx
            · rw [List.mem_singleton.1 hv]; exact hyx
      · rintro fr H2 ⟨a, ha, hb, htk, f0, f3, f4, f5, rfl⟩
        have hS' := hsn (S.take a) (S.drop a) (List.take_append_drop a S).symm htk hb
        have s1 : subL (S.map encM) 0 (a : Int) = some ((S.take a).map encM) := by
          simp [subL, ha, List.map_take]
        have s2 : subL (S.map encM) (a : Int) (S.length : Int) = some ((S.drop a).map encM) := by
          have : (S.length - a) = (S.drop a).length := by simp
          simp [subL, ha, List.map_drop]
          rw [List.take_of_length_le (by simp)]
        have la : (S.take a).length = a := by simp; omega
        have lb : (S.drop a).length = S.length - a := by simp
        simp [f0, f3, f4, f5, s1, s2, hr, appA]
        rw [if_pos (by omega)]
        simp [f0, f3, f4, f5, s1, s2, hr, appA]
        rw [if_pos (by omega)]
        simp [f0, f3, f4, f5, s1, s2, hr, appA]
        rw [if_pos (by omega)]
        simp
        refine NextF_of H2.length (Nat.le_refl _) hia (by simp [f4]) ?_
        rw [hS']
        refine ⟨by simp [f0], ?_, cut_app hcl _⟩
        simp [encM, List.map_take, List.map_drop]
    · have hia : l.length ≤ i := by simpa using h
      rw [List.take_of_length_le hia] at f3
      simp [f3]
  · rintro fr H' ⟨f3, X, rfl⟩
    simp [RetK, f3, cut_app hcl]
end
end Go.Zam

namespace Go.Zam
open Go.Proofs
set_option maxRecDepth 100000
set_option linter.all false
set_option maxHeartbeats 1000000

/-- a row that was appended to is given back beside something, as a plain slice -/
theorem ACall.freezeVec2 {P : Program} {f : FuncId} {args : List A} {H : Hp} {j k sz e : Nat} {rows : List (List D)} {y : D} (hne : rows ≠ [])
    (h : ACall P f args H (fun r H' => ∃ X : Hp, X[j]? = some (.vec sz e k rows) ∧ r = .tup [.vsl (H.length + j) k rows.length, .d y] ∧ H' = H ++ X)) : ACall P f args H (fun r H' => r = .tup [.d (.sl false sz rows), .d y] ∧ H' = H) := by
  intro κ w vs hr hl hv
  refine (h κ w vs hr hl hv).mono ?_
  rintro ev w' ⟨v, κ', r, H', h1, h2, h3, h4, X, hX, rfl, rfl⟩
  cases h4 with
  | tup us _ hul hu =>
  match us, hul with
  | [u0, u1], _ =>
  have v0 := hu 0 u0 _ rfl rfl
  have v1 := hu 1 u1 _ rfl rfl
  obtain ⟨κs, k1, k2, k3, -⟩ := h3.vecArr2 (i := H.length + j) (by rw [getElem?_appk]; exact hX) hne
  have a3 := k3 u0 v0
  obtain ⟨κ2, g1, g2, g3⟩ := k2.freezeArr (i := (H ++ X).length) (sz := sz) (rows := rows) (by simp) a3
  have hHX : ∃ Y, ((H ++ X).set (H.length + j) Ob.dead ++ [Ob.arr sz (rows.map (List.map A.d))]).set (H ++ X).length Ob.dead = H ++ Y := by
    rw [set_appk, List.append_assoc, List.length_append, set_appk]; exact ⟨_, rfl⟩
  obtain ⟨Y, hY⟩ := hHX
  rw [hY] at g2
  refine ⟨_, κ2.cut H.length, .tup [.d (.sl false sz rows), .d y], Hp.cut H.length (H ++ Y), h1, K.le_cut (h2.trans (k1.trans g1)) hr.dom, g2.cut _ (by simp), ?_, rfl, cut_app hr.closed _⟩
  refine .tup [u0, u1] _ rfl fun i v a hv ha => ?_
  match i with
  | 0 => simp at hv ha; subst hv; subst ha; exact VR.clr H.length g3
  | 1 => simp at hv ha; subst hv; subst ha; exact VR.clr H.length (v1.mono (k1.trans g1))
  | i + 2 => simp at hv

def ApplyE (P : Program) (f : Nat) : Prop := ∀ (H : Hp) (z : Bool) (s : List UInt8) (l : List Ed), s.length + total l ≤ 70368744177664 →
  ACall P f [.d (.str s), .d (.sl z 3 (l.map encE))] H (fun r H' => r = .tup [.d (.str (applyS s l)), .d (.int .i64 (sound l s.length))] ∧ H' = H)

def rErr (e : Int) (H : Hp) (fr : Fr) (H' : Hp) : Prop := e ≠ 0 ∧ fr 4 = .d (.sl true 2 []) ∧ fr 5 = .d (.int .i64 e) ∧ ∃ X, H' = H ++ X
def rDup (n : Bs) (ns : List Bs) (B : Hp) (fr : Fr) (H' : Hp) : Prop := n ∈ ns ∧ fr 4 = .d (.sl true 2 []) ∧ fr 5 = .d (.int .i64 4) ∧ H' = B

section
variable {P : Program}

theorem rapp_walk {f rf ra tM} (h : HasT P [2000014, 3000049, 3000051, 3000066] f (irRcApply rf ra tM)) (hF : HasT P [3000014, 3000016] rf irRcFindV) (hA : ApplyE P ra)
    {H : Hp} {z zc : Bool} {l : List Mod} {cs : List Chg} (hl : l ≠ []) (hb : l.length ≤ 1048576) (hc : cs.length ≤ 1048576) (hf : fitM l cs) (k : Nat) (K : A → Hp → Prop)
    (hok : (applyC l [] cs).1 = 0 → RetK K .mk (H.length + k) (some (.tup [.vsl H.length 0 l.length, .d (.int .i64 0)])) (H ++ [.vec 2 tM 0 ((applyC l [] cs).2.map encM)]))
    (herr : ∀ e X, (applyC l [] cs).1 = e → e ≠ 0 → RetK K .mk (H.length + k) (some (.tup [.d (.sl true 2 []), .d (.int .i64 e)])) (H ++ X)) :
    ACall P f [.d (.sl z 2 (l.map encM)), .d (.sl zc 2 (cs.map encC))] H K := by
  obtain ⟨fn, hfn, hcf⟩ := h
  refine acall_fink k hfn hcf (by simp [irRcApply]) fun hcl _ => ?_
  obtain ⟨m0, l0, rfl⟩ : ∃ m0 l0, l = m0 :: l0 := by
    cases l with
    | nil => exact absurd rfl hl
    | cons a b => exact ⟨a, b, rfl⟩
  have hbd : (l0.length + 1) * 32 ≤ 140737488355328 := by simp at hb; omega
  simp [irRcApply, hbd]
  refine LoopK_outR 0 (fun fr H' => (applyC (m0 :: l0) [] cs).1 = 0 ∧ fr 6 = .vsl H.length 0 (l0.length + 1) ∧ H' = H ++ [.vec 2 tM 0 ((applyC (m0 :: l0) [] cs).2.map encM)])
    (rErr (applyC (m0 :: l0) [] cs).1 H) ?_ ?_ ?_
  · refine ForK_of (H.length + 1) cs.length (fun i fr H' => ∃ l' : List Mod, fitM l' (cs.drop i) ∧ l'.length = l0.length + 1 ∧ applyC (m0 :: l0) [] cs = applyC l' ((cs.take i).map Chg.n) (cs.drop i) ∧
      fr 1 = .d (.sl zc 2 (cs.map encC)) ∧ fr 6 = .vsl H.length 0 (l0.length + 1) ∧ H' = H ++ [.vec 2 tM 0 (l'.map encM)]) (by omega) (by decide) (by simp) (by simp) ?_ ?_
    · exact ⟨m0 :: l0, by simpa using hf, by simp, by simp, by simp, by simp, by simp [cut_appk hcl]⟩
    rintro i fr H' hi f7 ⟨l', hf', hl', happ, f1, f6, rfl⟩
    simp [f7, f1]
    refine BrK_split (fun h => ?_) (fun h => ?_)
    · have hia : i < cs.length := by simpa using h
      have hr := rowAt_map encC hia
      have hdr : cs.drop i = cs[i] :: cs.drop (i + 1) := List.drop_eq_getElem_cons hia
      have htk : (cs.take (i + 1)).map Chg.n = (cs.take i).map Chg.n ++ [cs[i].n] := by rw [List.take_succ_eq_append_getElem hia, List.map_append]; rfl
      rw [hdr] at happ hf'
      have hin : ∀ j (hj : j < cs.length), rowAt (cs.map encC) (j : Int) = some (encC cs[j]) := fun j hj => rowAt_map encC hj
      generalize hC : cs[i] = c at hr happ hf' htk
      have hfind := hF.rcFindV (H := H ++ [.vec 2 tM 0 (l'.map encM)]) (i0 := H.length) (k := 0) (e := tM) l' c.n (by simp at hb; omega) (by simp)
      rw [hl'] at hfind
      simp only [encC] at hr
      simp [f7, f1, f6, hr]
      refine CallK_of' hfind ?_
      simp
      refine BrK_split (fun h1 => ?_) (fun h1 => ?_)
      · simp at h1
        simp
        have e1 : (applyC (m0 :: l0) [] cs).1 = 32 := by rw [happ]; simp [applyC, h1]
        rw [e1]
        exact ⟨by decide, by simp, by simp, _, rfl⟩
      simp at h1
      obtain ⟨kk, m, hk, hm, hmn⟩ := findM_some h1
      rw [hk]
      have hap : ¬ findM l' c.n < 0 := by omega
      have hkl : kk < l0.length + 1 := by rw [← hl']; exact (List.getElem?_eq_some_iff.1 hm).1
      simp
      refine LoopK_outR 2 (fun fr H' => c.n ∉ (cs.take i).map Chg.n ∧ fr 1 = .d (.sl zc 2 (cs.map encC)) ∧ fr 6 = .vsl H.length 0 (l0.length + 1) ∧ fr 7 = .d (.int .i64 (i : Int)) ∧ fr 8 = .d (.int .i64 (kk : Int)) ∧ H' = H ++ [.vec 2 tM 0 (l'.map encM)])
        (rDup c.n ((cs.take i).map Chg.n) (H ++ [.vec 2 tM 0 (l'.map encM)])) ?_ ?_ ?_
      · refine ForK_of (H.length + 1) i (fun j fr H' => c.n ∉ (cs.take j).map Chg.n ∧ fr 1 = .d (.sl zc 2 (cs.map encC)) ∧ fr 6 = .vsl H.length 0 (l0.length + 1) ∧ fr 7 = .d (.int .i64 (i : Int)) ∧ fr 8 = .d (.int .i64 (kk : Int)) ∧ H' = H ++ [.vec 2 tM 0 (l'.map encM)]) (by omega) (by decide) (by simp) (by simp) ?_ ?_
        · simp [f1, f6, f7, cut_appk hcl]
        rintro j fr H' hj f9 ⟨hno, f1, f6, f7, f8, rfl⟩
        simp [f9, f7]
        refine BrK_split (fun h2 => ?_) (fun h2 => ?_)
        · have hji : j < i := by simpa using h2
          have hrj := hin j (by omega)
          have htj : (cs.take (j + 1)).map Chg.n = (cs.take j).map Chg.n ++ [(cs[j]'(by omega)).n] := by rw [List.take_succ_eq_append_getElem (by omega), List.map_append]; rfl
          have hmem : (cs[j]'(by omega)).n ∈ (cs.take i).map Chg.n := by
            refine List.mem_map_of_mem (f := Chg.n) ?_
            rw [List.mem_take_iff_getElem]
            exact ⟨j, by omega, rfl⟩
          generalize (cs[j]'(by omega)) = cj at hrj htj hmem
          simp only [encC] at hrj
          simp [f9, f7, f1, hrj, hr]
          refine BrK_split (fun h3 => ?_) (fun h3 => ?_)
          · have h3 : cj.n = c.n := by simpa using h3
            rw [h3] at hmem
            simp [-List.mem_map, -List.map_take]
            exact ⟨hmem, by simp, by simp, rfl⟩
          · have h3 : ¬ cj.n = c.n := by simpa using h3
            simp
            refine NextF_of (H.length + 1) (Nat.le_refl _) hji (by simp [f9]) ?_
            rw [htj]
            refine ⟨?_, by simp [f1], by simp [f6], by simp [f7], by simp [f8], by simp [cut_appk hcl]⟩
            simp only [List.mem_append, List.mem_singleton, not_or]
            exact ⟨hno, fun e => h3 e.symm⟩
        · have hji : j = i := by simp at h2; omega
          subst hji
          simp [-List.mem_map, -List.map_take]
          exact ⟨hno, f1, f6, f7, f8⟩
      · rintro fr H' ⟨hin', f4, f5, rfl⟩
        simp
        have e1 : (applyC (m0 :: l0) [] cs).1 = 4 := by rw [happ]; simp only [applyC, if_neg hap, if_pos hin']
        rw [e1]
        exact ⟨by decide, f4, f5, _, rfl⟩
      · rintro fr H' ⟨hno, f1, f6, f7, f8, rfl⟩
        have hrow : (l'.map encM)[kk]? = some (encM m) := by simp [hm]
        have hfit : m.t.length + total c.l ≤ 70368744177664 := by
          have := hf' m (List.mem_of_getElem? hm)
          simp only [totC] at this; omega
        have hset : ∀ t, (l'.map encM).set kk [.str m.n, .str t] = (l'.set kk ⟨m.n, t⟩).map encM := fun t => by
          rw [List.map_set]; rfl
        simp only [encM] at hrow
        have hkl' : (kk : Int) < (l0.length : Int) + 1 := by omega
        simp [f1, f6, f7, f8, hr, hrow, hkl', encM]
        refine CallD_of (hA _ c.z m.t c.l hfit) ?_
        simp
        refine BrK_split (fun h3 => ?_) (fun h3 => ?_)
        · simp at h3
          simp
          have e1 : (applyC (m0 :: l0) [] cs).1 = sound c.l m.t.length := by rw [happ, applyC_step hk hm hno, if_neg h3]
          rw [e1]
          exact ⟨h3, by simp, by simp, _, rfl⟩
        simp at h3
        simp [f1, f6, f7, f8, hrow, hkl', hset]
        refine NextF_of (H.length + 1) (Nat.le_refl _) hia (by simp [f7]) ?_
        refine ⟨l'.set kk ⟨m.n, applyS m.t c.l⟩, fitM_next hf' hm, by simp [hl'], ?_, by simp [f1], by simp [f6], by simp [cut_appk hcl]⟩
        rw [htk, happ, applyC_step hk hm hno, if_pos h3]
    · have hia : cs.length ≤ i := by simpa using h
      rw [List.drop_of_length_le hia] at happ
      have h0 : applyC (m0 :: l0) [] cs = (0, l') := by rw [happ]; rfl
      simp [h0, f6]
  · rintro fr H' ⟨h2, f4, f5, X, rfl⟩
    simp [f4, f5]
    exact herr _ X rfl h2
  · rintro fr H' ⟨h0, f6, rfl⟩
    simp [f6]
    have := hok h0
    simpa using this

theorem rapp0 {f rf ra tM} (h : HasT P [6] f (irRcApply0 rf ra tM)) (hF : Has P rf irRcFind) {H : Hp} {z zc : Bool} {cs : List Chg} (hc : cs.length ≤ 1048576) :
    ACall P f [.d (.sl z 2 []), .d (.sl zc 2 (cs.map encC))] H (fun r H' => r = .tup [.d (.sl true 2 []), .d (.int .i64 (applyC [] [] cs).1)] ∧ H' = H) := by
  have hz0 : (applyC [] [] cs).1 = if cs = [] then 0 else 32 := by
    cases cs with
    | nil => rfl
    | cons c r => simp [applyC, findM, indexI, indexP]
  rw [hz0]
  obtain ⟨fn, hfn, hcf⟩ := h
  refine acall_fin hfn hcf (by simp [irRcApply0]) fun hcl _ => ?_
  simp [irRcApply0, appA]
  refine LoopK_of (H.length + 1) (fun fr H' => fr 1 = .d (.sl zc 2 (cs.map encC)) ∧ fr 6 = .osl true 2 [] H.length ∧ fr 7 = .d (.int .i64 0) ∧ H' = H ++ [.tok 0 2 tM]) (fun _ _ => 0) (by simp) (by simp [cut_appk hcl]) ?_
  rintro fr H' ⟨f1, f6, f7, rfl⟩
  simp [f1, f7]
  cases cs with
  | nil =>
    simp [f6, RetK, cut_app hcl]
  | cons c r =>
    have hfind := fun X => hF.rcFind true [] c.n (by simp) (H ++ X)
    have hm1 : findM [] c.n = -1 := rfl
    rw [hm1] at hfind
    simp [f1, f6, f7, Zam.rowAt, encC]
    refine CallK_of' (ACall.osl1 (hfind _)) ?_
    simp [RetK, cut_app hcl]

/-- what the document's Apply answers -/
def outR (l : List Mod) (cs : List Chg) : A := .tup [.d (.sl (applyC l [] cs).2.isEmpty 2 ((applyC l [] cs).2.map encM)), .d (.int .i64 (applyC l [] cs).1)]

theorem rappOk {f rf ra tM} (h : HasT P [2000014, 3000049, 3000051, 3000066] f (irRcApply rf ra tM)) (h0 : HasT P [6] f (irRcApply0 rf ra tM)) (hF : HasT P [3000014, 3000016] rf irRcFindV) (hF0 : Has P rf irRcFind) (hA : ApplyE P ra)
    (H : Hp) (z zc : Bool) (l : List Mod) (cs : List Chg) (hb : l.length ≤ 1048576) (hc : cs.length ≤ 1048576) (hf : fitM l cs) :
    ACall P f [.d (.sl z 2 (l.map encM)), .d (.sl zc 2 (cs.map encC))] H (fun r H' => r = outR l cs ∧ H' = H) := by
  intro κ w vs hr
  have hcl : H.Closed := hr.closed
  revert κ w vs hr
  show ACall P f [.d (.sl z 2 (l.map encM)), .d (.sl zc 2 (cs.map encC))] H (fun r H' => r = outR l cs ∧ H' = H)
  by_cases hl : l = []
  · subst hl
    have : (applyC [] [] cs).2 = [] := by
      cases cs with
      | nil => rfl
      | cons c r => simp [applyC, findM, indexI, indexP]
    rw [outR, this]
    exact rapp0 h0 hF0 hc
  · by_cases he : (applyC l [] cs).1 = 0
    · have hlen := applyC_len he
      have hne : (applyC l [] cs).2 ≠ [] := fun e => hl (by rw [e] at hlen; exact List.eq_nil_of_length_eq_zero hlen.symm)
      have hie : (applyC l [] cs).2.isEmpty = false := by
        generalize (applyC l [] cs).2 = X at hne
        cases X <;> simp_all
      rw [outR, hie, he]
      refine ACall.freezeVec2 (j := 0) (k := 0) (e := tM) (by simpa using hne) ?_
      refine rapp_walk h hF hA hl hb hc hf 1 _ (fun _ => ?_) (fun e X h1 h2 => absurd (h1.symm.trans he) h2)
      simp [RetK, cut_appk hcl, hlen]
    · have h2 := applyC_err he
      rw [outR, h2]
      refine rapp_walk h hF hA hl hb hc hf 0 _ (fun h => absurd h he) (fun e X h1 h2 => ?_)
      simp [RetK, h1, cut_app hcl]
end
end Go.Zam

namespace Go.Proofs.Zh
open Go Go.Zam Go.Proofs Go.Shelf
set_option maxRecDepth 100000
def bldRen : Ren := ⟨fun n => match n with | 240 => 62 | 276 => 64 | 169 => 55 | n => n, fun t => match t with | 0 => 0 | 3 => 3 | 4 => 4 | 5 => 5 | 9 => 9 | 20 => 20 | 37 => 109 | 70 => 108 | 72 => 111 | 127 => 123 | 164 => 125 | n => n, fun g => g⟩

theorem lay240 : Lays.n240 Try.prog bldRen where
  mixed := by kernel_rfl
  f240 := Try.func62.trans (congrArg some (by kernel_rfl))
  f276 := Try.func64.trans (congrArg some (by kernel_rfl))
  t0 := by kernel_rfl
  a0 := Try.isAgg0
  z0 := fun _ => by kernel_rfl
  v0 := Try.zeroValue0
  t4 := by kernel_rfl
  a4 := Try.isAgg4
  z4 := fun _ => by kernel_rfl
  v4 := Try.zeroValue4
  t9 := by kernel_rfl
  a9 := Try.isAgg9
  z9 := fun _ => by kernel_rfl
  v9 := Try.zeroValue9
  t20 := by kernel_rfl
  a20 := Try.isAgg20
  z20 := fun _ => by kernel_rfl
  v20 := Try.zeroValue20
  t70 := by kernel_rfl
  a70 := Try.isAgg108
  z70 := fun _ => by kernel_rfl
  v70 := Try.zeroValue108
  t72 := by kernel_rfl
  a72 := Try.isAgg111
  z72 := fun _ => by kernel_rfl
  v72 := Try.zeroValue111
  t164 := by kernel_rfl
  a164 := Try.isAgg125
  z164 := fun _ => by kernel_rfl
  v164 := Try.zeroValue125
theorem lay169 : Lays.n169 Try.prog bldRen where
  mixed := by kernel_rfl
  f169 := Try.func55.trans (congrArg some (by kernel_rfl))
  t0 := by kernel_rfl
  a0 := Try.isAgg0
  z0 := fun _ => by kernel_rfl
  v0 := Try.zeroValue0
  t3 := by kernel_rfl
  a3 := Try.isAgg3
  z3 := fun _ => by kernel_rfl
  v3 := Try.zeroValue3
  t9 := by kernel_rfl
  a9 := Try.isAgg9
  z9 := fun _ => by kernel_rfl
  v9 := Try.zeroValue9
  t37 := by kernel_rfl
  a37 := Try.isAgg109
  z37 := fun _ => by kernel_rfl
  v37 := Try.zeroValue109
  t70 := by kernel_rfl
  a70 := Try.isAgg108
  z70 := fun _ => by kernel_rfl
  v70 := Try.zeroValue108
  t72 := by kernel_rfl
  a72 := Try.isAgg111
  z72 := fun _ => by kernel_rfl
  v72 := Try.zeroValue111
  t127 := by kernel_rfl
  a127 := Try.isAgg123
  z127 := fun _ => by kernel_rfl
  v127 := Try.zeroValue123
theorem bldExtra : Builder.Extra Try.prog bldRen where
  sizeBuilder := by kernel_rfl
  liesBuilder := by kernel_rfl
  t5 := by kernel_rfl
  a5 := Try.isAgg5
  z5 := fun _ => by kernel_rfl
  v5 := Try.zeroValue5
  infoByte := by kernel_rfl
  cellsByte := by kernel_rfl
  sizeByte := by kernel_rfl
  neB5 := by decide

theorem copyCheckOk {H : Hp} {i : Nat} {x a : A} (hi : H[i]? = some (.box 111 [a, x])) (ha : a = .d .nilp ∨ a = .ptr i 0) :
    ACall Try.prog 62 [.ptr i 0] H (fun r H' => r = .tup [] ∧ H' = H.set i (.box 111 [.ptr i 0, x])) := copyCheck_acall lay240 bldExtra.toX72 hi ha

theorem stringOk {H : Hp} {i t : Nat} {a : A} {s : List UInt8} (hi : H[i]? = some (.box 111 [a, .osl true 1 (byteRows s) t])) (ht : H[t]? = some (.tok s.length 1 5)) (hlen : s.length ≤ 4611686018427387904) :
    ACall Try.prog 55 [.ptr i 0] H (fun r H' => r = .d (.str s) ∧ H' = H) := string_acall lay169 bldExtra hi ht hlen
end Go.Proofs.Zh

namespace Go.Proofs.Zh
open Go Go.Zam Go.Proofs
set_option maxRecDepth 100000
/- whetstone/whetstonelaw31.HistoryBack -/
/- whetstone/whetstonelaw31.HistoryNil -/
/- whetstone/whetstonelaw13.Light -/
/- whetstone/whetstonelaw31.awake -/
def ir7 : IFn :=
 { nt := 67, res := [.t 0], body := (
  .seq (.ops [
    ⟨(some 0), none, .mv (.c (.bool false))⟩] false)
  (.seq (.ops [
    ⟨(some 9), none, .build [(.str []), (.str [])] [(0, 1, (.c (.str [109, 97, 105, 110]))), (1, 1, (.c (.str [97, 98])))]⟩,
    ⟨(some 10), none, .bslice 2 [(.t 9)]⟩,
    ⟨(some 11), none, .call 8 [(.t 10)]⟩,
    ⟨(some 8), none, .mv (.t 11)⟩,
    ⟨(some 12), none, .ext (.t 8) 0⟩,
    ⟨(some 13), none, .ext (.t 8) 1⟩,
    ⟨(some 1), none, .mv (.t 12)⟩,
    ⟨(some 2), none, .mv (.t 13)⟩] false)
  (.seq (.ops [
    ⟨(some 14), none, .mv (.t 1)⟩,
    ⟨(some 15), none, .build [(.int .i64 0), (.int .i64 0), (.str [])] [(0, 1, (.c (.int .i64 1))), (1, 1, (.c (.int .i64 2))), (2, 1, (.c (.str [120])))]⟩,
    ⟨(some 16), none, .bslice 3 [(.t 15)]⟩,
    ⟨(some 17), none, .build [(.str []), (.sl true 3 [])] [(0, 1, (.c (.str [109, 97, 105, 110]))), (1, 1, (.t 16))]⟩,
    ⟨(some 18), none, .bslice 2 [(.t 17)]⟩,
    ⟨(some 19), none, .call 11 [(.t 14), (.c (.str [120])), (.t 18)]⟩,
    ⟨(some 3), none, .mv (.t 19)⟩] false)
  (.seq (.ops [
    ⟨(some 20), none, .mv (.t 1)⟩,
    ⟨(some 21), none, .call 9 [(.t 20)]⟩,
    ⟨(some 4), none, .mv (.t 21)⟩] false)
  (.seq (.ops [
    ⟨(some 23), none, .mv (.t 1)⟩,
    ⟨(some 24), none, .call 12 [(.t 23)]⟩,
    ⟨(some 22), none, .mv (.t 24)⟩,
    ⟨(some 25), none, .ext (.t 22) 0⟩,
    ⟨(some 26), none, .ext (.t 22) 1⟩,
    ⟨(some 5), none, .mv (.t 25)⟩,
    ⟨(some 6), none, .mv (.t 26)⟩] false)
  (.seq (.ops [
    ⟨(some 27), none, .mv (.t 1)⟩,
    ⟨(some 28), none, .call 9 [(.t 27)]⟩,
    ⟨(some 7), none, .mv (.t 28)⟩] false)
  (.seq (.ops [
    ⟨(some 29), none, .mv (.t 2)⟩,
    ⟨(some 30), none, .bin .eql (.t 29) (.c (.int .i64 0))⟩,
    ⟨(some 31), none, .mv (.t 30)⟩,
    ⟨(some 32), (some (31, true)), .mv (.t 3)⟩,
    ⟨(some 33), (some (31, true)), .bin .eql (.t 32) (.c (.int .i64 0))⟩,
    ⟨(some 34), none, .pick (.t 31) (.t 33) (.c (.bool false))⟩,
    ⟨(some 35), none, .mv (.t 34)⟩,
    ⟨(some 36), (some (35, true)), .mv (.t 6)⟩,
    ⟨(some 37), (some (35, true)), .bin .eql (.t 36) (.c (.int .i64 0))⟩,
    ⟨(some 38), none, .pick (.t 35) (.t 37) (.c (.bool false))⟩,
    ⟨(some 39), none, .mv (.t 38)⟩,
    ⟨(some 40), (some (39, true)), .mv (.t 5)⟩,
    ⟨(some 41), (some (39, true)), .bin .eql (.t 40) (.c (.str [120]))⟩,
    ⟨(some 42), none, .pick (.t 39) (.t 41) (.c (.bool false))⟩,
    ⟨(some 43), none, .mv (.t 42)⟩,
    ⟨(some 44), (some (43, true)), .mv (.t 4)⟩,
    ⟨(some 45), (some (43, true)), .lenL (.t 44)⟩,
    ⟨(some 46), (some (43, true)), .bin .eql (.t 45) (.c (.int .i64 1))⟩,
    ⟨(some 47), none, .pick (.t 43) (.t 46) (.c (.bool false))⟩,
    ⟨(some 48), none, .mv (.t 47)⟩,
    ⟨(some 49), (some (48, true)), .mv (.t 4)⟩,
    ⟨(some 50), (some (48, true)), .iaddr 2 (.t 49) (.c (.int .i64 0))⟩,
    ⟨(some 51), (some (48, true)), .faddr 1 (.t 50)⟩,
    ⟨(some 52), (some (48, true)), .load 1 false (.t 51)⟩,
    ⟨(some 53), (some (48, true)), .bin .eql (.t 52) (.c (.str [97, 120]))⟩,
    ⟨(some 54), none, .pick (.t 48) (.t 53) (.c (.bool false))⟩,
    ⟨(some 55), none, .mv (.t 54)⟩,
    ⟨(some 56), (some (55, true)), .mv (.t 7)⟩,
    ⟨(some 57), (some (55, true)), .lenL (.t 56)⟩,
    ⟨(some 58), (some (55, true)), .bin .eql (.t 57) (.c (.int .i64 1))⟩,
    ⟨(some 59), none, .pick (.t 55) (.t 58) (.c (.bool false))⟩,
    ⟨(some 60), none, .mv (.t 59)⟩,
    ⟨(some 61), (some (60, true)), .mv (.t 7)⟩,
    ⟨(some 62), (some (60, true)), .iaddr 2 (.t 61) (.c (.int .i64 0))⟩,
    ⟨(some 63), (some (60, true)), .faddr 1 (.t 62)⟩,
    ⟨(some 64), (some (60, true)), .load 1 false (.t 63)⟩,
    ⟨(some 65), (some (60, true)), .bin .eql (.t 64) (.c (.str [97, 98]))⟩,
    ⟨(some 66), none, .pick (.t 60) (.t 65) (.c (.bool false))⟩,
    ⟨(some 0), none, .mv (.t 66)⟩] false)
  (.ret)))))))) }
theorem cf7 : compF Try.prog [] Try.f7 = some ir7 := by kernel_rfl
/- whetstone/history.New -/
def ir8 : IFn :=
 { nt := 28, res := [.t 2, .t 3], body := (
  .seq (.ops [
    ⟨(some 2), none, .mv (.c .nilp)⟩,
    ⟨(some 3), none, .mv (.c (.int .i64 0))⟩] false)
  (.seq (.ops [
    ⟨(some 5), none, .mv (.t 0)⟩,
    ⟨(some 6), none, .call 24 [(.t 5)]⟩,
    ⟨(some 0), none, .mv (.t 6)⟩] false)
  (.seq (.seq (.ops [
     ⟨(some 4), none, .mv (.c (.int .i64 1))⟩] false)
   (.blk 0 (.loop (.seq (.seq (.ops [
        ⟨(some 7), none, .mv (.t 4)⟩,
        ⟨(some 8), none, .mv (.t 0)⟩,
        ⟨(some 9), none, .lenL (.t 8)⟩,
        ⟨(some 10), none, .bin .lss (.t 7) (.t 9)⟩] false)
      (.cond (.t 10) (.skip)
      (.exit 0)))
     (.seq (.blk 1 (.seq (.ops [
         ⟨(some 13), none, .mv (.t 0)⟩,
         ⟨(some 14), none, .mv (.t 4)⟩,
         ⟨(some 15), none, .bin .sub (.t 14) (.c (.int .i64 1))⟩,
         ⟨(some 16), none, .iaddr 2 (.t 13) (.t 15)⟩,
         ⟨(some 17), none, .faddr 0 (.t 16)⟩,
         ⟨(some 18), none, .load 1 false (.t 17)⟩,
         ⟨(some 19), none, .mv (.t 0)⟩,
         ⟨(some 20), none, .mv (.t 4)⟩,
         ⟨(some 21), none, .iaddr 2 (.t 19) (.t 20)⟩,
         ⟨(some 22), none, .faddr 0 (.t 21)⟩,
         ⟨(some 23), none, .load 1 false (.t 22)⟩,
         ⟨(some 24), none, .bin .eql (.t 18) (.t 23)⟩] true)
       (.cond (.t 24) (.seq (.ops [
          ⟨(some 2), none, .mv (.c .nilp)⟩,
          ⟨(some 3), none, .mv (.c (.int .i64 4))⟩] false)
        (.ret))
       (.skip))))
     (.ops [
      ⟨(some 11), none, .mv (.t 4)⟩,
      ⟨(some 12), none, .bin .add (.t 11) (.c (.int .i64 1))⟩,
      ⟨(some 4), none, .mv (.t 12)⟩] false))))))
  (.seq (.ops [
    ⟨(some 25), none, .mv (.t 0)⟩,
    ⟨(some 26), none, .build [(.sl true 2 []), (.sl true 3 []), (.sl true 3 [])] [(0, 1, (.t 25))]⟩,
    ⟨(some 27), none, .box 67 3 (.t 26)⟩,
    ⟨(some 2), none, .mv (.t 27)⟩,
    ⟨(some 3), none, .mv (.c (.int .i64 0))⟩] false)
  (.ret))))) }
theorem cf8 : compF Try.prog [] Try.f8 = some ir8 := by kernel_rfl
/- (*whetstone/history.History).Modules -/
def ir9 : IFn :=
 { nt := 10, res := [.t 2], body := (
  .seq (.ops [
    ⟨(some 2), none, .mv (.c (.sl true 2 []))⟩] false)
  (.seq (.seq (.ops [
     ⟨(some 3), none, .mv (.t 0)⟩,
     ⟨(some 4), none, .isNilP false (.t 3)⟩] false)
   (.cond (.t 4) (.seq (.ops [
      ⟨(some 2), none, .mv (.c (.sl true 2 []))⟩] false)
    (.ret))
   (.skip)))
  (.seq (.ops [
    ⟨(some 5), none, .mv (.t 0)⟩,
    ⟨(some 6), none, .nilCheck (.t 5)⟩,
    ⟨(some 7), none, .faddr 0 (.t 6)⟩,
    ⟨(some 8), none, .load 1 false (.t 7)⟩,
    ⟨(some 9), none, .call 25 [(.t 8)]⟩,
    ⟨(some 2), none, .mv (.t 9)⟩] false)
  (.ret)))) }
theorem cf9 : compF Try.prog [] Try.f9 = some ir9 := by kernel_rfl
/- whetstone/whetstonelaw31.fits -/
def ir10 : IFn :=
 { nt := 46, res := [.t 2], body := (
  .seq (.ops [
    ⟨(some 1), none, .box 33 4 (.t 0)⟩,
    ⟨(some 2), none, .mv (.c (.bool false))⟩] false)
  (.seq (.ops [
    ⟨(some 8), none, .faddr 2 (.t 1)⟩,
    ⟨(some 9), none, .load 1 false (.t 8)⟩,
    ⟨(some 10), none, .lenS (.t 9)⟩,
    ⟨(some 3), none, .mv (.t 10)⟩] false)
  (.seq (.seq (.ops [
     ⟨(some 11), none, .faddr 3 (.t 1)⟩,
     ⟨(some 12), none, .load 1 false (.t 11)⟩,
     ⟨(some 13), none, .lenL (.t 12)⟩,
     ⟨(some 14), none, .mv (.c (.int .i64 0))⟩] false)
   (.blk 0 (.loop (.seq (.ops [
       ⟨(some 15), none, .bin .lss (.t 14) (.t 13)⟩] false)
     (.seq (.cond (.t 15) (.skip)
      (.exit 0))
     (.seq (.blk 1 (.seq (.ops [
         ⟨(some 16), none, .iaddr 2 (.t 12) (.t 14)⟩,
         ⟨(some 17), none, .load 2 true (.t 16)⟩,
         ⟨(some 5), none, .alloc 63 [(.str []), (.sl true 3 [])]⟩,
         ⟨none, none, .store 2 (.t 5) (.t 17)⟩] false)
       (.seq (.seq (.ops [
          ⟨(some 18), none, .faddr 1 (.t 5)⟩,
          ⟨(some 19), none, .load 1 false (.t 18)⟩,
          ⟨(some 20), none, .lenL (.t 19)⟩,
          ⟨(some 21), none, .mv (.c (.int .i64 0))⟩] false)
        (.blk 2 (.loop (.seq (.ops [
            ⟨(some 22), none, .bin .lss (.t 21) (.t 20)⟩] false)
          (.seq (.cond (.t 22) (.skip)
           (.exit 2))
          (.seq (.blk 3 (.seq (.ops [
              ⟨(some 23), none, .iaddr 3 (.t 19) (.t 21)⟩,
              ⟨(some 24), none, .load 3 true (.t 23)⟩,
              ⟨(some 7), none, .alloc 60 [(.int .i64 0), (.int .i64 0), (.str [])]⟩,
              ⟨none, none, .store 3 (.t 7) (.t 24)⟩] false)
            (.seq (.ops [
              ⟨(some 25), none, .mv (.t 3)⟩,
              ⟨(some 26), none, .faddr 2 (.t 7)⟩,
              ⟨(some 27), none, .load 1 false (.t 26)⟩,
              ⟨(some 28), none, .lenS (.t 27)⟩,
              ⟨(some 29), none, .bin .add (.t 25) (.t 28)⟩,
              ⟨(some 3), none, .mv (.t 29)⟩] false)
            (.seq (.ops [
              ⟨(some 30), none, .mv (.t 3)⟩,
              ⟨(some 31), none, .bin .gtr (.t 30) (.c (.int .i64 200))⟩] false)
            (.cond (.t 31) (.seq (.ops [
               ⟨(some 2), none, .mv (.c (.bool false))⟩] false)
             (.ret))
            (.skip))))))
          (.ops [
           ⟨(some 32), none, .bin .add (.t 21) (.c (.int .i64 1))⟩,
           ⟨(some 21), none, .mv (.t 32)⟩] false)))))))
       (.seq (.ops [
         ⟨(some 33), none, .faddr 1 (.t 5)⟩,
         ⟨(some 34), none, .load 1 false (.t 33)⟩,
         ⟨(some 35), none, .lenL (.t 34)⟩,
         ⟨(some 36), none, .bin .gtr (.t 35) (.c (.int .i64 20))⟩] false)
       (.cond (.t 36) (.seq (.ops [
          ⟨(some 2), none, .mv (.c (.bool false))⟩] false)
        (.ret))
       (.skip))))))
     (.ops [
      ⟨(some 37), none, .bin .add (.t 14) (.c (.int .i64 1))⟩,
      ⟨(some 14), none, .mv (.t 37)⟩] false)))))))
  (.seq (.ops [
    ⟨(some 38), none, .mv (.t 3)⟩,
    ⟨(some 39), none, .bin .leq (.t 38) (.c (.int .i64 200))⟩,
    ⟨(some 40), none, .mv (.t 39)⟩,
    ⟨(some 41), (some (40, true)), .faddr 3 (.t 1)⟩,
    ⟨(some 42), (some (40, true)), .load 1 false (.t 41)⟩,
    ⟨(some 43), (some (40, true)), .lenL (.t 42)⟩,
    ⟨(some 44), (some (40, true)), .bin .leq (.t 43) (.c (.int .i64 8))⟩,
    ⟨(some 45), none, .pick (.t 40) (.t 44) (.c (.bool false))⟩,
    ⟨(some 2), none, .mv (.t 45)⟩] false)
  (.ret))))) }
theorem cf10 : compF Try.prog [] Try.f10 = some ir10 := by kernel_rfl
/- (*whetstone/history.History).Do -/
def ir11 : IFn :=
 { nt := 100, res := [.t 6], body := (
  .seq (.ops [
    ⟨(some 6), none, .mv (.c (.int .i64 0))⟩] false)
  (.seq (.seq (.ops [
     ⟨(some 14), none, .mv (.t 0)⟩,
     ⟨(some 15), none, .isNilP false (.t 14)⟩] false)
   (.cond (.t 15) (.seq (.ops [
      ⟨(some 6), none, .mv (.c (.int .i64 2))⟩] false)
    (.ret))
   (.skip)))
  (.seq (.ops [
    ⟨(some 17), none, .mv (.t 0)⟩,
    ⟨(some 18), none, .nilCheck (.t 17)⟩,
    ⟨(some 19), none, .faddr 0 (.t 18)⟩,
    ⟨(some 20), none, .load 1 false (.t 19)⟩,
    ⟨(some 21), none, .mv (.t 2)⟩,
    ⟨(some 22), none, .call 26 [(.t 20), (.t 21)]⟩,
    ⟨(some 16), none, .mv (.t 22)⟩,
    ⟨(some 23), none, .ext (.t 16) 0⟩,
    ⟨(some 24), none, .ext (.t 16) 1⟩,
    ⟨(some 7), none, .mv (.t 23)⟩,
    ⟨(some 8), none, .mv (.t 24)⟩] false)
  (.seq (.seq (.ops [
     ⟨(some 25), none, .mv (.t 8)⟩,
     ⟨(some 26), none, .bin .neq (.t 25) (.c (.int .i64 0))⟩] false)
   (.cond (.t 26) (.seq (.ops [
      ⟨(some 27), none, .mv (.t 8)⟩,
      ⟨(some 6), none, .mv (.t 27)⟩] false)
    (.ret))
   (.skip)))
  (.seq (.ops [
    ⟨(some 9), none, .nilT 2 63⟩] false)
  (.seq (.seq (.ops [
     ⟨(some 28), none, .mv (.t 2)⟩,
     ⟨(some 29), none, .lenL (.t 28)⟩,
     ⟨(some 30), none, .mv (.c (.int .i64 0))⟩] false)
   (.blk 0 (.loop (.seq (.ops [
       ⟨(some 31), none, .bin .lss (.t 30) (.t 29)⟩] false)
     (.seq (.cond (.t 31) (.skip)
      (.exit 0))
     (.seq (.blk 1 (.seq (.ops [
         ⟨(some 32), none, .iaddr 2 (.t 28) (.t 30)⟩,
         ⟨(some 33), none, .load 2 true (.t 32)⟩,
         ⟨(some 11), none, .alloc 63 [(.str []), (.sl true 3 [])]⟩,
         ⟨none, none, .store 2 (.t 11) (.t 33)⟩] false)
       (.seq (.ops [
         ⟨(some 35), none, .mv (.t 0)⟩,
         ⟨(some 36), none, .nilCheck (.t 35)⟩,
         ⟨(some 37), none, .faddr 0 (.t 36)⟩,
         ⟨(some 38), none, .load 1 false (.t 37)⟩,
         ⟨(some 39), none, .mv (.t 0)⟩,
         ⟨(some 40), none, .nilCheck (.t 39)⟩,
         ⟨(some 41), none, .faddr 0 (.t 40)⟩,
         ⟨(some 42), none, .load 1 false (.t 41)⟩,
         ⟨(some 43), none, .faddr 0 (.t 11)⟩,
         ⟨(some 44), none, .load 1 false (.t 43)⟩,
         ⟨(some 45), none, .call 28 [(.t 42), (.t 44)]⟩,
         ⟨(some 46), none, .iaddr 2 (.t 38) (.t 45)⟩,
         ⟨(some 47), none, .faddr 1 (.t 46)⟩,
         ⟨(some 48), none, .load 1 false (.t 47)⟩,
         ⟨(some 49), none, .faddr 1 (.t 11)⟩,
         ⟨(some 50), none, .load 1 false (.t 49)⟩,
         ⟨(some 51), none, .call 27 [(.t 48), (.t 50)]⟩,
         ⟨(some 34), none, .mv (.t 51)⟩,
         ⟨(some 52), none, .ext (.t 34) 0⟩,
         ⟨(some 53), none, .ext (.t 34) 1⟩,
         ⟨(some 12), none, .mv (.t 52)⟩,
         ⟨(some 13), none, .mv (.t 53)⟩] true)
       (.seq (.seq (.ops [
          ⟨(some 54), none, .mv (.t 13)⟩,
          ⟨(some 55), none, .bin .neq (.t 54) (.c (.int .i64 0))⟩] false)
        (.cond (.t 55) (.seq (.ops [
           ⟨(some 56), none, .mv (.t 13)⟩,
           ⟨(some 6), none, .mv (.t 56)⟩] false)
         (.ret))
        (.skip)))
       (.ops [
        ⟨(some 57), none, .mv (.t 9)⟩,
        ⟨(some 58), none, .faddr 0 (.t 11)⟩,
        ⟨(some 59), none, .load 1 false (.t 58)⟩,
        ⟨(some 60), none, .mv (.t 12)⟩,
        ⟨(some 61), none, .build [(.str []), (.sl true 3 [])] [(0, 1, (.t 59)), (1, 1, (.t 60))]⟩,
        ⟨(some 62), none, .bslice 2 [(.t 61)]⟩,
        ⟨(some 63), none, .app 2 40 63 (.t 57) (.t 62)⟩,
        ⟨(some 9), none, .mv (.t 63)⟩] false)))))
     (.ops [
      ⟨(some 64), none, .bin .add (.t 30) (.c (.int .i64 1))⟩,
      ⟨(some 30), none, .mv (.t 64)⟩] false)))))))
  (.seq (.ops [
    ⟨(some 65), none, .mv (.t 0)⟩,
    ⟨(some 66), none, .mv (.t 0)⟩,
    ⟨(some 67), none, .mv (.t 7)⟩,
    ⟨(some 68), none, .nilCheck (.t 65)⟩,
    ⟨(some 69), none, .faddr 0 (.t 68)⟩,
    ⟨none, none, .store 1 (.t 69) (.t 67)⟩,
    ⟨(some 70), none, .nilCheck (.t 66)⟩,
    ⟨(some 71), none, .faddr 2 (.t 70)⟩,
    ⟨none, none, .store 1 (.t 71) (.c (.sl true 3 []))⟩] false)
  (.seq (.ops [
    ⟨(some 72), none, .mv (.t 0)⟩,
    ⟨(some 73), none, .mv (.t 0)⟩,
    ⟨(some 74), none, .nilCheck (.t 73)⟩,
    ⟨(some 75), none, .faddr 1 (.t 74)⟩,
    ⟨(some 76), none, .load 1 false (.t 75)⟩,
    ⟨(some 77), none, .mv (.t 1)⟩,
    ⟨(some 78), none, .mv (.t 2)⟩,
    ⟨(some 79), none, .call 29 [(.t 78)]⟩,
    ⟨(some 80), none, .mv (.t 9)⟩,
    ⟨(some 81), none, .build [(.str []), (.sl true 2 []), (.sl true 2 [])] [(0, 1, (.t 77)), (1, 1, (.t 79)), (2, 1, (.t 80))]⟩,
    ⟨(some 82), none, .bslice 3 [(.t 81)]⟩,
    ⟨(some 83), none, .appV 3 64 75 (.t 76) (.t 82)⟩,
    ⟨(some 84), none, .nilCheck (.t 72)⟩,
    ⟨(some 85), none, .faddr 1 (.t 84)⟩,
    ⟨none, none, .store 1 (.t 85) (.t 83)⟩] true)
  (.seq (.seq (.ops [
     ⟨(some 86), none, .mv (.t 0)⟩,
     ⟨(some 87), none, .nilCheck (.t 86)⟩,
     ⟨(some 88), none, .faddr 1 (.t 87)⟩,
     ⟨(some 89), none, .load 1 false (.t 88)⟩,
     ⟨(some 90), none, .lenL (.t 89)⟩,
     ⟨(some 91), none, .bin .gtr (.t 90) (.c (.int .i64 100))⟩] false)
   (.cond (.t 91) (.ops [
     ⟨(some 92), none, .mv (.t 0)⟩,
     ⟨(some 93), none, .mv (.t 0)⟩,
     ⟨(some 94), none, .nilCheck (.t 93)⟩,
     ⟨(some 95), none, .faddr 1 (.t 94)⟩,
     ⟨(some 96), none, .load 1 false (.t 95)⟩,
     ⟨(some 97), none, .call 30 [(.t 96), (.c (.int .i64 0)), (.c (.int .i64 1))]⟩,
     ⟨(some 98), none, .nilCheck (.t 92)⟩,
     ⟨(some 99), none, .faddr 1 (.t 98)⟩,
     ⟨none, none, .store 1 (.t 99) (.t 97)⟩] false)
   (.skip)))
  (.seq (.ops [
    ⟨(some 6), none, .mv (.c (.int .i64 0))⟩] false)
  (.ret))))))))))) }
theorem cf11 : compF Try.prog [9, 2000083] Try.f11 = some ir11 := by kernel_rfl
/- (*whetstone/history.History).Undo -/
def ir12 : IFn :=
 { nt := 72, res := [.t 2, .t 3], body := (
  .seq (.ops [
    ⟨(some 2), none, .mv (.c (.str []))⟩,
    ⟨(some 3), none, .mv (.c (.int .i64 0))⟩] false)
  (.seq (.blk 0 (.seq (.ops [
      ⟨(some 8), none, .mv (.t 0)⟩,
      ⟨(some 9), none, .isNilP false (.t 8)⟩,
      ⟨(some 7), none, .mv (.t 9)⟩] false)
    (.cond (.t 7) (.seq (.ops [
       ⟨(some 2), none, .mv (.c (.str []))⟩,
       ⟨(some 3), none, .mv (.c (.int .i64 2))⟩] false)
     (.ret))
    (.seq (.ops [
       ⟨(some 11), none, .mv (.t 0)⟩,
       ⟨(some 12), none, .nilCheck (.t 11)⟩,
       ⟨(some 13), none, .faddr 1 (.t 12)⟩,
       ⟨(some 14), none, .load 1 false (.t 13)⟩,
       ⟨(some 15), none, .lenL (.t 14)⟩,
       ⟨(some 16), none, .bin .eql (.t 15) (.c (.int .i64 0))⟩,
       ⟨(some 10), none, .mv (.t 16)⟩] false)
     (.cond (.t 10) (.seq (.ops [
        ⟨(some 2), none, .mv (.c (.str []))⟩,
        ⟨(some 3), none, .mv (.c (.int .i64 3))⟩] false)
      (.ret))
     (.skip))))))
  (.seq (.ops [
    ⟨(some 17), none, .mv (.t 0)⟩,
    ⟨(some 18), none, .nilCheck (.t 17)⟩,
    ⟨(some 19), none, .faddr 1 (.t 18)⟩,
    ⟨(some 20), none, .load 1 false (.t 19)⟩,
    ⟨(some 21), none, .mv (.t 0)⟩,
    ⟨(some 22), none, .nilCheck (.t 21)⟩,
    ⟨(some 23), none, .faddr 1 (.t 22)⟩,
    ⟨(some 24), none, .load 1 false (.t 23)⟩,
    ⟨(some 25), none, .lenL (.t 24)⟩,
    ⟨(some 26), none, .bin .sub (.t 25) (.c (.int .i64 1))⟩,
    ⟨(some 27), none, .iaddrV 3 (.t 20) (.t 26)⟩,
    ⟨(some 28), none, .loadV 3 true (.t 27)⟩,
    ⟨(some 4), none, .alloc 75 [(.str []), (.sl true 2 []), (.sl true 2 [])]⟩,
    ⟨none, none, .store 3 (.t 4) (.t 28)⟩] true)
  (.seq (.ops [
    ⟨(some 30), none, .mv (.t 0)⟩,
    ⟨(some 31), none, .nilCheck (.t 30)⟩,
    ⟨(some 32), none, .faddr 0 (.t 31)⟩,
    ⟨(some 33), none, .load 1 false (.t 32)⟩,
    ⟨(some 34), none, .faddr 2 (.t 4)⟩,
    ⟨(some 35), none, .load 1 false (.t 34)⟩,
    ⟨(some 36), none, .call 26 [(.t 33), (.t 35)]⟩,
    ⟨(some 29), none, .mv (.t 36)⟩,
    ⟨(some 37), none, .ext (.t 29) 0⟩,
    ⟨(some 38), none, .ext (.t 29) 1⟩,
    ⟨(some 5), none, .mv (.t 37)⟩,
    ⟨(some 6), none, .mv (.t 38)⟩] true)
  (.seq (.seq (.ops [
     ⟨(some 39), none, .mv (.t 6)⟩,
     ⟨(some 40), none, .bin .neq (.t 39) (.c (.int .i64 0))⟩] false)
   (.cond (.t 40) (.seq (.ops [
      ⟨(some 41), none, .mv (.t 6)⟩,
      ⟨(some 2), none, .mv (.c (.str []))⟩,
      ⟨(some 3), none, .mv (.t 41)⟩] false)
    (.ret))
   (.skip)))
  (.seq (.ops [
    ⟨(some 42), none, .mv (.t 0)⟩,
    ⟨(some 43), none, .mv (.t 0)⟩,
    ⟨(some 44), none, .mv (.t 0)⟩,
    ⟨(some 45), none, .mv (.t 5)⟩,
    ⟨(some 46), none, .mv (.t 0)⟩,
    ⟨(some 47), none, .nilCheck (.t 46)⟩,
    ⟨(some 48), none, .faddr 1 (.t 47)⟩,
    ⟨(some 49), none, .load 1 false (.t 48)⟩,
    ⟨(some 50), none, .mv (.t 0)⟩,
    ⟨(some 51), none, .nilCheck (.t 50)⟩,
    ⟨(some 52), none, .faddr 1 (.t 51)⟩,
    ⟨(some 53), none, .load 1 false (.t 52)⟩,
    ⟨(some 54), none, .lenL (.t 53)⟩,
    ⟨(some 55), none, .bin .sub (.t 54) (.c (.int .i64 1))⟩,
    ⟨(some 56), none, .cutV 3 (.t 49) (.t 55)⟩,
    ⟨(some 57), none, .mv (.t 0)⟩,
    ⟨(some 58), none, .nilCheck (.t 57)⟩,
    ⟨(some 59), none, .faddr 2 (.t 58)⟩,
    ⟨(some 60), none, .load 1 false (.t 59)⟩,
    ⟨(some 61), none, .load 3 true (.t 4)⟩,
    ⟨(some 62), none, .bslice 3 [(.t 61)]⟩,
    ⟨(some 63), none, .appV 3 64 75 (.t 60) (.t 62)⟩,
    ⟨(some 64), none, .nilCheck (.t 42)⟩,
    ⟨(some 65), none, .faddr 0 (.t 64)⟩,
    ⟨none, none, .store 1 (.t 65) (.t 45)⟩,
    ⟨(some 66), none, .nilCheck (.t 43)⟩,
    ⟨(some 67), none, .faddr 1 (.t 66)⟩,
    ⟨none, none, .store 1 (.t 67) (.t 56)⟩,
    ⟨(some 68), none, .nilCheck (.t 44)⟩,
    ⟨(some 69), none, .faddr 2 (.t 68)⟩,
    ⟨none, none, .store 1 (.t 69) (.t 63)⟩] true)
  (.seq (.ops [
    ⟨(some 70), none, .faddr 0 (.t 4)⟩,
    ⟨(some 71), none, .load 1 false (.t 70)⟩,
    ⟨(some 2), none, .mv (.t 71)⟩,
    ⟨(some 3), none, .mv (.c (.int .i64 0))⟩] false)
  (.ret)))))))) }
theorem cf12 : compF Try.prog [3000027, 3000028, 2000056, 2000063] Try.f12 = some ir12 := by kernel_rfl
/- (*whetstone/history.History).Redo -/
def ir13 : IFn :=
 { nt := 72, res := [.t 2, .t 3], body := (
  .seq (.ops [
    ⟨(some 2), none, .mv (.c (.str []))⟩,
    ⟨(some 3), none, .mv (.c (.int .i64 0))⟩] false)
  (.seq (.blk 0 (.seq (.ops [
      ⟨(some 8), none, .mv (.t 0)⟩,
      ⟨(some 9), none, .isNilP false (.t 8)⟩,
      ⟨(some 7), none, .mv (.t 9)⟩] false)
    (.cond (.t 7) (.seq (.ops [
       ⟨(some 2), none, .mv (.c (.str []))⟩,
       ⟨(some 3), none, .mv (.c (.int .i64 2))⟩] false)
     (.ret))
    (.seq (.ops [
       ⟨(some 11), none, .mv (.t 0)⟩,
       ⟨(some 12), none, .nilCheck (.t 11)⟩,
       ⟨(some 13), none, .faddr 2 (.t 12)⟩,
       ⟨(some 14), none, .load 1 false (.t 13)⟩,
       ⟨(some 15), none, .lenL (.t 14)⟩,
       ⟨(some 16), none, .bin .eql (.t 15) (.c (.int .i64 0))⟩,
       ⟨(some 10), none, .mv (.t 16)⟩] false)
     (.cond (.t 10) (.seq (.ops [
        ⟨(some 2), none, .mv (.c (.str []))⟩,
        ⟨(some 3), none, .mv (.c (.int .i64 3))⟩] false)
      (.ret))
     (.skip))))))
  (.seq (.ops [
    ⟨(some 17), none, .mv (.t 0)⟩,
    ⟨(some 18), none, .nilCheck (.t 17)⟩,
    ⟨(some 19), none, .faddr 2 (.t 18)⟩,
    ⟨(some 20), none, .load 1 false (.t 19)⟩,
    ⟨(some 21), none, .mv (.t 0)⟩,
    ⟨(some 22), none, .nilCheck (.t 21)⟩,
    ⟨(some 23), none, .faddr 2 (.t 22)⟩,
    ⟨(some 24), none, .load 1 false (.t 23)⟩,
    ⟨(some 25), none, .lenL (.t 24)⟩,
    ⟨(some 26), none, .bin .sub (.t 25) (.c (.int .i64 1))⟩,
    ⟨(some 27), none, .iaddrV 3 (.t 20) (.t 26)⟩,
    ⟨(some 28), none, .loadV 3 true (.t 27)⟩,
    ⟨(some 4), none, .alloc 75 [(.str []), (.sl true 2 []), (.sl true 2 [])]⟩,
    ⟨none, none, .store 3 (.t 4) (.t 28)⟩] true)
  (.seq (.ops [
    ⟨(some 30), none, .mv (.t 0)⟩,
    ⟨(some 31), none, .nilCheck (.t 30)⟩,
    ⟨(some 32), none, .faddr 0 (.t 31)⟩,
    ⟨(some 33), none, .load 1 false (.t 32)⟩,
    ⟨(some 34), none, .faddr 1 (.t 4)⟩,
    ⟨(some 35), none, .load 1 false (.t 34)⟩,
    ⟨(some 36), none, .call 26 [(.t 33), (.t 35)]⟩,
    ⟨(some 29), none, .mv (.t 36)⟩,
    ⟨(some 37), none, .ext (.t 29) 0⟩,
    ⟨(some 38), none, .ext (.t 29) 1⟩,
    ⟨(some 5), none, .mv (.t 37)⟩,
    ⟨(some 6), none, .mv (.t 38)⟩] true)
  (.seq (.seq (.ops [
     ⟨(some 39), none, .mv (.t 6)⟩,
     ⟨(some 40), none, .bin .neq (.t 39) (.c (.int .i64 0))⟩] false)
   (.cond (.t 40) (.seq (.ops [
      ⟨(some 41), none, .mv (.t 6)⟩,
      ⟨(some 2), none, .mv (.c (.str []))⟩,
      ⟨(some 3), none, .mv (.t 41)⟩] false)
    (.ret))
   (.skip)))
  (.seq (.ops [
    ⟨(some 42), none, .mv (.t 0)⟩,
    ⟨(some 43), none, .mv (.t 0)⟩,
    ⟨(some 44), none, .mv (.t 0)⟩,
    ⟨(some 45), none, .mv (.t 5)⟩,
    ⟨(some 46), none, .mv (.t 0)⟩,
    ⟨(some 47), none, .nilCheck (.t 46)⟩,
    ⟨(some 48), none, .faddr 2 (.t 47)⟩,
    ⟨(some 49), none, .load 1 false (.t 48)⟩,
    ⟨(some 50), none, .mv (.t 0)⟩,
    ⟨(some 51), none, .nilCheck (.t 50)⟩,
    ⟨(some 52), none, .faddr 2 (.t 51)⟩,
    ⟨(some 53), none, .load 1 false (.t 52)⟩,
    ⟨(some 54), none, .lenL (.t 53)⟩,
    ⟨(some 55), none, .bin .sub (.t 54) (.c (.int .i64 1))⟩,
    ⟨(some 56), none, .cutV 3 (.t 49) (.t 55)⟩,
    ⟨(some 57), none, .mv (.t 0)⟩,
    ⟨(some 58), none, .nilCheck (.t 57)⟩,
    ⟨(some 59), none, .faddr 1 (.t 58)⟩,
    ⟨(some 60), none, .load 1 false (.t 59)⟩,
    ⟨(some 61), none, .load 3 true (.t 4)⟩,
    ⟨(some 62), none, .bslice 3 [(.t 61)]⟩,
    ⟨(some 63), none, .appV 3 64 75 (.t 60) (.t 62)⟩,
    ⟨(some 64), none, .nilCheck (.t 42)⟩,
    ⟨(some 65), none, .faddr 0 (.t 64)⟩,
    ⟨none, none, .store 1 (.t 65) (.t 45)⟩,
    ⟨(some 66), none, .nilCheck (.t 43)⟩,
    ⟨(some 67), none, .faddr 2 (.t 66)⟩,
    ⟨none, none, .store 1 (.t 67) (.t 56)⟩,
    ⟨(some 68), none, .nilCheck (.t 44)⟩,
    ⟨(some 69), none, .faddr 1 (.t 68)⟩,
    ⟨none, none, .store 1 (.t 69) (.t 63)⟩] true)
  (.seq (.ops [
    ⟨(some 70), none, .faddr 0 (.t 4)⟩,
    ⟨(some 71), none, .load 1 false (.t 70)⟩,
    ⟨(some 2), none, .mv (.t 71)⟩,
    ⟨(some 3), none, .mv (.c (.int .i64 0))⟩] false)
  (.ret)))))))) }
theorem cf13 : compF Try.prog [3000027, 3000028, 2000056, 2000063] Try.f13 = some ir13 := by kernel_rfl
/- (*whetstone/history.History).Since -/
/- whetstone/change.Sort -/
/- whetstone/change.Apply -/
/- whetstone/change.Find -/
/- whetstone/history.twin -/
def ir29 : IFn :=
 { nt := 24, res := [.t 2], body := (
  .seq (.ops [
    ⟨(some 2), none, .mv (.c (.sl true 2 []))⟩] false)
  (.seq (.ops [
    ⟨(some 5), none, .mv (.t 0)⟩,
    ⟨(some 6), none, .call 43 [(.t 5)]⟩,
    ⟨(some 3), none, .mv (.t 6)⟩] false)
  (.seq (.seq (.ops [
     ⟨(some 7), none, .mv (.t 3)⟩,
     ⟨(some 8), none, .lenL (.t 7)⟩,
     ⟨(some 9), none, .mv (.c (.int .i64 0))⟩] false)
   (.blk 0 (.loop (.seq (.ops [
       ⟨(some 10), none, .bin .lss (.t 9) (.t 8)⟩] false)
     (.seq (.cond (.t 10) (.skip)
      (.exit 0))
     (.seq (.blk 1 (.seq (.ops [
         ⟨(some 11), none, .mv (.t 9)⟩,
         ⟨(some 4), none, .mv (.t 11)⟩] false)
       (.ops [
        ⟨(some 12), none, .mv (.t 3)⟩,
        ⟨(some 13), none, .mv (.t 4)⟩,
        ⟨(some 14), none, .mv (.t 3)⟩,
        ⟨(some 15), none, .mv (.t 4)⟩,
        ⟨(some 16), none, .iaddr 2 (.t 14) (.t 15)⟩,
        ⟨(some 17), none, .faddr 1 (.t 16)⟩,
        ⟨(some 18), none, .load 1 false (.t 17)⟩,
        ⟨(some 19), none, .call 44 [(.t 18)]⟩,
        ⟨(some 20), none, .iaddr 2 (.t 12) (.t 13)⟩,
        ⟨(some 21), none, .faddr 1 (.t 20)⟩,
        ⟨none, none, .store 1 (.t 21) (.t 19)⟩] false)))
     (.ops [
      ⟨(some 22), none, .bin .add (.t 9) (.c (.int .i64 1))⟩,
      ⟨(some 9), none, .mv (.t 22)⟩] false)))))))
  (.seq (.ops [
    ⟨(some 23), none, .mv (.t 3)⟩,
    ⟨(some 2), none, .mv (.t 23)⟩] false)
  (.ret))))) }
theorem cf29 : compF Try.prog [] Try.f29 = some ir29 := by kernel_rfl
/- whetstone/change.Sort$1 -/
/- whetstone/change.Find$1 -/
end Go.Proofs.Zh

namespace Go.Proofs.Zh
open Go Go.Zam Go.Proofs
set_option maxRecDepth 100000
set_option linter.all false
theorem cf25 : compF Try.prog [1000005] Try.f25 = some (irCloneM 2 32 58) := by kernel_rfl
theorem cf43 : compF Try.prog [1000005] Try.f43 = some (irCloneM 2 40 63) := by kernel_rfl
theorem cf44 : compF Try.prog [1000005] Try.f44 = some (irCloneM 3 32 60) := by kernel_rfl
theorem cf40 : compF Try.prog [] Try.f40 = some (irSound 60) := by kernel_rfl
theorem cf54 : compF Try.prog [] Try.f54 = some (irWrite 62) := by kernel_rfl
theorem cf39 : compF Try.prog [7] Try.f39 = some (irApply 60 111 40 54 55) := by kernel_rfl
theorem cf27 : compF Try.prog [7] Try.f27 = some (irInvert 60 40) := by kernel_rfl
theorem copyOk : CopyOk Try.prog 62 111 := fun H i x a hi ha => copyCheckOk hi ha
theorem strOk : StringOk Try.prog 55 111 := fun H i t a s hi ht hs => stringOk hi ht (by omega)

theorem applyEOk (H : Hp) (z : Bool) (s : List UInt8) (l : List Ed) (hb : s.length + total l ≤ 70368744177664) :
    ACall Try.prog 39 [.d (.str s), .d (.sl z 3 (l.map encE))] H (fun r H' => r = .tup [.d (.str (applyS s l)), .d (.int .i64 (sound l s.length))] ∧ H' = H) :=
  apply_acall Try.func39 cf39 Try.func40 cf40 Try.func54 cf54 copyOk strOk H z s l hb

theorem invertEOk (H : Hp) (z : Bool) (s : List UInt8) (l : List Ed) (hb : s.length + total l ≤ 70368744177664) :
    ACall Try.prog 27 [.d (.str s), .d (.sl z 3 (l.map encE))] H (fun r H' => r = .tup [.d (.sl true 3 ((invS s l).map encE)), .d (.int .i64 (sound l s.length))] ∧ H' = H) :=
  invert_acall Try.func27 cf27 Try.func40 cf40 H z s l hb
end Go.Proofs.Zh

namespace Go.Proofs.Zh
open Go Go.Zam Go.Proofs
set_option maxRecDepth 100000
/- whetstone/whetstoneref17.Same -/
/- whetstone/whetstoneref31.New -/
/- (*whetstone/whetstoneref31.History).Do -/
/- (*whetstone/history.History).Notes -/
/- (*whetstone/whetstoneref31.History).Now -/
/- whetstone/whetstonelaw31.strings -/
/- whetstone/whetstonelaw31.notes -/
end Go.Proofs.Zh

namespace Go.Proofs.Zh
open Go Go.Zam Go.Proofs
set_option maxRecDepth 100000
set_option linter.all false
set_option maxHeartbeats 1000000

def Cg : CF := { clone := 25, srt := 36, stb := 52, ins := 60, sym := 61, rot := 63, swp := 65, cmpM := 37, cmpS := 38, nan := 53, idxF := 41, find1 := 42, find := 28, sort := 24, apply := 26, applyE := 39, tM := 58, tC := 63, ts := 9 }
theorem cHas : ChHas Try.prog Cg where
  clone := ⟨_, Try.func25, by kernel_rfl⟩
  srt := ⟨_, Try.func36, by kernel_rfl⟩
  stb := ⟨_, Try.func52, by kernel_rfl⟩
  ins := ⟨_, Try.func60, by kernel_rfl⟩
  sym := ⟨_, Try.func61, by kernel_rfl⟩
  rot := ⟨_, Try.func63, by kernel_rfl⟩
  swp := ⟨_, Try.func65, by kernel_rfl⟩
  cmpM := ⟨_, Try.func37, by kernel_rfl⟩
  kCmpM := by kernel_rfl
  cmpS := ⟨_, Try.func38, by kernel_rfl⟩
  nan := ⟨_, Try.func53, by kernel_rfl⟩
  idxF := ⟨_, Try.func41, by kernel_rfl⟩
  find1 := ⟨_, Try.func42, by kernel_rfl⟩
  kFind1 := by kernel_rfl
  find := ⟨_, Try.func28, by kernel_rfl⟩
  sort := ⟨_, Try.func24, by kernel_rfl⟩
  apply := ⟨_, Try.func26, by kernel_rfl⟩
  applyE := applyEOk

theorem sortMOk (H : Hp) (z : Bool) (l : List Mod) (hl : l.length ≤ 1048576) :
    ACall Try.prog 24 [.d (.sl z 2 (l.map encM))] H (fun r H' => r = .d (.sl (z && l.isEmpty) 2 ((ssort cM l).map encM)) ∧ H' = H) := Go.Zam.sortMOk cHas H z l hl
theorem findDOk (H : Hp) (z : Bool) (l : List Mod) (s : List UInt8) (hb : l.length ≤ 1099511627776) :
    ACall Try.prog 28 [.d (.sl z 2 (l.map encM)), .d (.str s)] H (fun r H' => r = .d (.int .i64 (findM l s)) ∧ H' = H) := Go.Zam.findDOk cHas H z l s hb
theorem applyCOk (H : Hp) (z zc : Bool) (l : List Mod) (cs : List Chg) (hb : l.length ≤ 1048576) (hc : cs.length ≤ 1048576) (hf : fitM l cs) :
    ACall Try.prog 26 [.d (.sl z 2 (l.map encM)), .d (.sl zc 2 (cs.map encC))] H (fun r H' => r = outC z l cs ∧ H' = H) := Go.Zam.applyCOk cHas H z zc l cs hb hc hf
theorem lightOk (H : Hp) (z : Bool) (l : List Mod) (most : Int) (hm : 0 ≤ most ∧ most ≤ 1048576) (hl : l.length ≤ 1048576) (hs : ∀ m ∈ l, m.n.length ≤ 1048576 ∧ m.t.length ≤ 1048576) :
    ACall Try.prog 6 [.d (.sl z 2 (l.map encM)), .d (.int .i64 most)] H (fun r H' => r = .d (.bool (light l most)) ∧ H' = H) := Go.Zam.lightOk (tM := 58) ⟨_, Try.func6, by kernel_rfl⟩ H z l most hm hl hs
theorem sameOk (H : Hp) (z z' : Bool) (a b : List Mod) (ha : a.length ≤ 1048576) :
    ACall Try.prog 14 [.d (.sl z 2 (a.map encM)), .d (.sl z' 2 (b.map encM))] H (fun r H' => r = .d (.bool (decide (a = b))) ∧ H' = H) := Go.Zam.sameMOk ⟨_, Try.func14, by kernel_rfl⟩ H z z' a b ha

theorem rapplyEOk : ApplyE Try.prog 46 := fun H z s l hb => R2.refApplyOk (fs := 56) (et := 60) ⟨_, Try.func56, by kernel_rfl⟩ ⟨_, Try.func46, by kernel_rfl⟩ H z s l hb
theorem rsortOk (z : Bool) (l : List Mod) (hl : l.length ≤ 1048576) (H : Hp) :
    ACall Try.prog 31 [.d (.sl z 2 (l.map encM))] H (fun r H' => r = .d (.sl true 2 ((ssort cM l).map encM)) ∧ H' = H) := HasT.rcSort (tM := 58) ⟨_, Try.func31, by kernel_rfl⟩ z l hl H
theorem rapplyOk (H : Hp) (z zc : Bool) (l : List Mod) (cs : List Chg) (hb : l.length ≤ 1048576) (hc : cs.length ≤ 1048576) (hf : fitM l cs) :
    ACall Try.prog 32 [.d (.sl z 2 (l.map encM)), .d (.sl zc 2 (cs.map encC))] H (fun r H' => r = outR l cs ∧ H' = H) :=
  rappOk (rf := 45) (ra := 46) (tM := 58) ⟨_, Try.func32, by kernel_rfl⟩ ⟨_, Try.func32, by kernel_rfl⟩ ⟨_, Try.func45, by kernel_rfl⟩ ⟨_, Try.func45, by kernel_rfl⟩ rapplyEOk H z zc l cs hb hc hf

end Go.Proofs.Zh

namespace Go.Proofs.Zh
open Go Go.Zam Go.Proofs
set_option maxRecDepth 100000
set_option linter.all false
set_option maxHeartbeats 1000000

def twinC (c : Chg) : Chg := ⟨c.n, c.z && c.l.isEmpty, c.l⟩

theorem cloneEOk (H : Hp) (c : Chg) (hb : c.l.length ≤ 1048576) : ACall Try.prog 44 [.d (.sl c.z 3 (c.l.map encE))] H (fun r H' => r = .d (.sl (c.z && c.l.isEmpty) 3 (c.l.map encE)) ∧ H' = H) := by
  have := cloneD_acall (P := Try.prog) (sz := 3) Try.func44 cf44 (H := H) (z := c.z) (rows := c.l.map encE) (by simp; omega)
  simpa using this

theorem twinOk (H : Hp) (z : Bool) (l : List Chg) (hl : l.length ≤ 1048576) (he : ∀ c ∈ l, c.l.length ≤ 1048576) :
    ACall Try.prog 29 [.d (.sl z 2 (l.map encC))] H (fun r H' => r = .d (.sl (z && l.isEmpty) 2 ((l.map twinC).map encC)) ∧ H' = H) := by
  by_cases h0 : l = []
  · subst h0
    cases z with
    | true =>
      refine acall_fin Try.func29 cf29 (by simp [ir29]) fun hcl _ => ?_
      simp [ir29]
      refine CallK_of' (clone0_acall Try.func43 cf43) ?_
      simp
      refine LoopK_of H.length (fun fr H' => fr 3 = .d (.sl true 2 []) ∧ fr 8 = .d (.int .i64 0) ∧ fr 9 = .d (.int .i64 0) ∧ H' = H) (fun _ _ => 0) (by simp) (by simp [cut_self hcl]) ?_
      rintro fr H' ⟨f3, f8, f9, hH⟩
      rw [hH]
      simp [f3, f8, f9]
      simp [RetK, cut_self hcl]
    | false =>
      refine ACall.freeze (k := 0) (X := [.arr 2 []]) (by simp) ?_
      refine acall_fink 1 Try.func29 cf29 (by simp [ir29]) fun hcl _ => ?_
      simp [ir29]
      refine CallK_of' (cloneM0_acall Try.func43 cf43) ?_
      simp
      refine LoopK_of (H.length + 1) (fun fr H' => fr 3 = .msl H.length 0 0 ∧ fr 8 = .d (.int .i64 0) ∧ fr 9 = .d (.int .i64 0) ∧ H' = H ++ [.arr 2 []]) (fun _ _ => 0) (by simp) (by simp [cut_appk hcl]) ?_
      rintro fr H' ⟨f3, f8, f9, hH⟩
      rw [hH]
      simp [f3, f8, f9]
      simp [RetK, cut_appk hcl]
  · have hrows : l.map encC ≠ [] := by simpa using h0
    have hem : l.isEmpty = false := by cases l <;> simp_all
    rw [hem, Bool.and_false]
    refine ACall.freeze (k := 1) (X := [.arr 2 [], arrE encC 2 (l.map twinC)]) (by simp [arrE, rowE]) ?_
    refine acall_fink 2 Try.func29 cf29 (by simp [ir29]) fun hcl _ => ?_
    simp [ir29]
    refine CallK_of' (cloneM_acall Try.func43 cf43 hrows (by simp; omega)) ?_
    simp
    refine LoopK_of (H.length + 2) (fun fr H' => ∃ pre rest, l = pre ++ rest ∧ fr 3 = .msl (H.length + 1) 0 l.length ∧ fr 8 = .d (.int .i64 l.length) ∧ fr 9 = .d (.int .i64 (pre.length : Int)) ∧ H' = H ++ [.arr 2 [], arrE encC 2 (pre.map twinC ++ rest)])
      (fun fr H' => match fr 9 with | .d (.int _ k) => (l.length - k).toNat | _ => 0) (by simp) ?_ ?_
    · refine ⟨[], l, ?_⟩
      simp [cut_appk hcl, arrE, rowE]
    rintro fr H' ⟨pre, rest, hl', f3, f8, f9, hH⟩
    rw [hH]
    simp [f8, f9]
    refine BrK_split (fun h => ?_) (fun h => ?_)
    · obtain ⟨c, rest, rfl⟩ : ∃ e r, rest = e :: r := by
        cases rest with
        | nil => rw [hl'] at h; simp at h
        | cons e r => exact ⟨e, r, rfl⟩
      have hpl : pre.length < l.length := by rw [hl']; simp
      have hw : IntKind.i64.wrap ((pre.length : Int) + 1) = pre.length + 1 := wrap_i64 (by omega) (by omega)
      have hi : (H ++ [.arr 2 [], arrE encC 2 (pre.map twinC ++ c :: rest)])[H.length + 1]? = some (arrE encC 2 (pre.map twinC ++ c :: rest)) := by simp
      have hk : (pre.map twinC ++ c :: rest)[pre.length]? = some c := get_mid rfl (by simp)
      have hset : (pre.map twinC ++ c :: rest).set pre.length (twinC c) = (pre ++ [c]).map twinC ++ rest := by rw [set_mid rfl (by simp)]; simp
      simp [f3, f8, f9, arr_iaddr hi rfl hpl, arr_ldc hi hk (j := 1) rfl, -iaddrA, -ldA, -stA]
      refine CallK_of' (cloneEOk _ c (he c (by rw [hl']; simp))) ?_
      simp [f3, f8, f9, hw, arr_iaddr hi rfl hpl, arr_stc hi hk (j := 1) (by simp [encC]) (show (encC c).set 1 (.sl (c.z && c.l.isEmpty) 3 (c.l.map encE)) = encC (twinC c) from rfl), -iaddrA, -ldA, -stA]
      refine AgainK_of (m := H.length + 2) (by simp) ⟨pre ++ [c], rest, ?_⟩ ?_
      · rw [← hset]
        simp [f3, f8, f9, cut_appk hcl, hl', arrE_clr, -Ob.clr, hset]
        simp
      · simp; omega
    · obtain rfl : rest = [] := by
        cases rest with
        | nil => rfl
        | cons e r => exfalso; rw [hl'] at h; simp at h
      rw [List.append_nil] at hl'
      subst hl'
      simp [f3, RetK, cut_appk hcl, arrE_clr, -Ob.clr]
      simp

end Go.Proofs.Zh
