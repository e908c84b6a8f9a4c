/-
  Texts of one proof, one behind the other: An abstract machine over the model, thirtieth part: edits of texts: what they are, and the plain laws of undoing them; the code of the functions on them. No condition. An abstract machine over the model, thirty-first part: the functions on edits: what they compute, over any program that has them. The lengths are bounded where a theorem says so. An abstract machine over the model, thirty-second part: IndexFunc; an array handed back in a pair; maps from names. No condition. An abstract machine over the model, thirty-third part: comparing texts. No condition. An abstract machine over the model, thirty-fourth part: heaps that are closed; cells of boxes and of rows; Clone's answer as a plain slice. No condition. An abstract machine over the model, thirty-sixth part: a slice that was appended to, handed to a function that writes its cells. No program in sight. No condition. An abstract machine over the model, thirty-seventh part: loops over the rows of a slice, by their number. No program in sight. No condition. An abstract machine over the model, thirty-eighth part: a slice that was appended to, sorted in place. No program in sight. No condition. An abstract machine over the model, thirty-ninth part: functions of the library that turn pure data into pure data. No program in sight. No condition. An abstract machine over the model, forty-second part: what a name is, in the document's words: digit, Letter, IsKey, IsName, over any program that has them. No condition but on lengths. An abstract machine over the model, forty-third part: types of the language: how great one is, whether one may be, over any program that asks. The lengths are bounded. An abstract machine over the model, forty-fourth part: the form of the functions of the layers of runes and tokens, over any program that has them. (Printed by gen.py.) An abstract machine over the model, forty-fifth part: a scanner over a text: bytes, blanks, words, signs, over any program that has these functions. The lengths are bounded. An abstract machine over the model, forty-sixth part: the scanner goes through what means nothing, and through signs, over any program that has these functions. The lengths are bounded. An abstract machine over the model, forty-seventh part: keys, names, signs, strings of the language, over any program that has these functions. The lengths are bounded. An abstract machine over the model, forty-eighth part: what a string of the language stands for, over any program that has the function. The lengths are bounded. An abstract machine over the model, forty-ninth part: one token of a text, over any program that has the functions. The lengths are bounded. An abstract machine over the model, fiftieth part: the next token of a text, over any program that has the functions. The lengths are bounded. An abstract machine over the model, fifty-first part: a text that is UTF-8, and its tokens, over any program that has the functions. The lengths are bounded. An abstract machine over the model, fifty-second part: tokens joined, tokens compared, over any program that has the functions. The lengths are bounded. An abstract machine over the model, fifty-fourth part: variables of the library that stay as they are laid: the tables of UTF-8, two errors; and functions that read them. No condition. An abstract machine over the model, fifty-ninth part: a world whose variables are laid, as the machine has them. No program in sight. No condition. An abstract machine over the model, sixty-third part: trees of the language, and how they stand in tokens, in plain Lean. No program in sight. No condition. An abstract machine over the model, sixty-fourth part: the form of the functions of the layer of trees, over any program that has them. (Printed by gen.py.) An abstract machine over the model, sixty-fifth part: the small functions of the layer of trees, over any program that has them. The lengths are bounded. An abstract machine over the model, sixty-sixth part: what the parser's functions have in common: what they come to, and where. No program in sight. The lengths are bounded. An abstract machine over the model, sixty-seventh part: the parser's functions, over any program that has them. The lengths are bounded. An abstract machine over the model, sixty-eighth part: the parser's lists, over any program that has them. The lengths are bounded. An abstract machine over the model, sixty-ninth part: the parser's parameters, types, blocks, over any program that has them. The lengths are bounded. An abstract machine over the model, seventieth part: the parser's sums and products, over any program that has them. The lengths are bounded. An abstract machine over the model, seventy-first part: the parser's fields and calls, over any program that has them. The lengths are bounded. An abstract machine over the model, seventy-second part: the parser's atoms, statements, files, over any program that has them. The lengths are bounded. An abstract machine over the model, seventy-third part: the parser's statements and files, over any program that has them. The lengths are bounded. An abstract machine over the model, seventy-fourth part: the parser's files, over any program that has them; all its functions together. The lengths are bounded. An abstract machine over the model, seventy-seventh part: how great trees are; what the parser answers, over any program that has it. The lengths are bounded. An abstract machine over the model, seventy-eighth part: how deep a tree is; the tree of a file's tokens, of a text, over any program that has the functions. The lengths are bounded. An abstract machine over the model, eightieth part: a tree as one line, over any program that has the functions. The lengths are bounded. The variable of the kinds' names, as a row lists it: a heap that holds it; what a row's cell tells of it. Contracts of the library's functions at this program, out of the kit's shelf. No condition. What the rows of these statements share: how much they hold, the world that the witness starts in, the variables as they are laid. An abstract machine over the model, seventy-fifth part: the form of the functions of the document's answers for the layers of runes, tokens, trees, over any program that has them. (Printed by gen.py.) An abstract machine over the model, fifty-fifth part: plain facts on texts that are UTF-8. No program in sight. No condition. An abstract machine over the model, fifty-sixth part: plain facts on a text's tokens. No program in sight. No condition. An abstract machine over the model, hundred and forty-ninth part: the document's Next and Bad (of characters), over any program that has them. The lengths are bounded. An abstract machine over the model, hundred and fiftieth part: the document's Unquote, and Lead, over any program that has them. The lengths are bounded. An abstract machine over the model, fifty-seventh part: plain facts on tokens of texts put together. No program in sight. No condition. An abstract machine over the model, fifty-eighth part: tokens up to one of them, tokens of one text behind another one. No program in sight. No condition. An abstract machine over the model, hundred and fifty-first part: the document's next token, over any program that has it. The lengths are bounded. An abstract machine over the model, hundred and fifty-second part: the document's tokens of a text are the program's, over any program that has them. The lengths are bounded. An abstract machine over the model, sixtieth part: plain facts on how much two lists have in common. No program in sight. No condition. An abstract machine over the model, sixty-first part: what differs between two lists, run by run. No program in sight. No condition. An abstract machine over the model, sixty-second part: edits out of what differs between two lists of texts. No program in sight. No condition.
-/
import Derived.Test.YtffdeeooocookaaDoorM3
import Derived.Lib.Bytealg
import Derived.Lib.ParseIntB
import Derived.Lib.DecodeN
import Derived.Shelf.Unicode.DecodeSlow
import Derived.Lib.LaidU8
import Derived.Shelf.Strings.Builder1
import Derived.Shelf.Small.Strs
import Derived.Shelf.Strings.BuilderF
import Derived.Shelf.Strings.BuilderK
import Derived.Shelf.Strconv.Itoa0
import Derived.Shelf.Strconv.Itoa1
import Derived.Shelf.LaysM
import Derived.Shelf.Strconv.Itoa2
import Derived.Shelf.Strconv.Itoa3
import Derived.Shelf.Strconv.Clone
import Derived.Shelf.Strconv.SyntaxError
import Derived.Shelf.Strconv.Lower
import Derived.Shelf.Strconv.ParseUint10
import Derived.Shelf.Strconv.ParseUint10Empty
import Derived.Shelf.Strconv.RangeError
import Derived.Shelf.Strconv.ParseUintEmpty
import Derived.Shelf.Strconv.ParseUint10b64
import Derived.Shelf.Strconv.ParseUint10b32
import Derived.Shelf.Strconv.ParseUint10b16
import Derived.Shelf.Strconv.ParseUint10b8
import Derived.Ground.MpProg
import Derived.Shelf.Pu.ParseUintPublic10
import Derived.Shelf.Pu.ErrVarParseUint
import Derived.Shelf.Strings.Search1
import Derived.Shelf.Strings.Prefix
import Derived.Shelf.Unicode.Decode
import Derived.Shelf.Unicode.DecodeAny
import Derived.Shelf.Slices.Turned
import Derived.Test.YtffdeeooocookaaDoorProg
import Derived.Test.YtffdeeooocookaaDoorRows
import Derived.Test.YtffdeeooocookaaDoorCards
import Derived.Test.YtffdeeooocookaaDoorTie
import Derived.ProofKit
import Derived.OpenShut
import Derived.Deep.DeepHandedRow
import Derived.Lib.LaidTab
import Derived.Stop.LaidErr
import Derived.SevenTiedAt
namespace Go.Zam
set_option linter.all false
set_option maxRecDepth 100000

def irSound (et : Nat) : IFn :=
 { nt := 53, res := [.t 4], body := (
  .seq (.ops [
    ⟨(some 4), none, .mv (.c (.int .i64 0))⟩] false)
  (.seq (.seq (.ops [
     ⟨(some 8), none, .mv (.t 0)⟩,
     ⟨(some 9), none, .lenL (.t 8)⟩,
     ⟨(some 10), none, .bin .gtr (.t 9) (.c (.int .i64 512))⟩] false)
   (.cond (.t 10) (.seq (.ops [
      ⟨(some 4), none, .mv (.c (.int .i64 5))⟩] false)
    (.ret))
   (.skip)))
  (.seq (.ops [
    ⟨(some 5), none, .mv (.c (.int .i64 (-1)))⟩] false)
  (.seq (.seq (.ops [
     ⟨(some 11), none, .mv (.t 0)⟩,
     ⟨(some 12), none, .lenL (.t 11)⟩,
     ⟨(some 13), none, .mv (.c (.int .i64 0))⟩] false)
   (.blk 0 (.loop (.seq (.ops [
       ⟨(some 14), none, .bin .lss (.t 13) (.t 12)⟩] false)
     (.seq (.cond (.t 14) (.skip)
      (.exit 0))
     (.seq (.blk 1 (.seq (.ops [
         ⟨(some 15), none, .iaddr 3 (.t 11) (.t 13)⟩,
         ⟨(some 16), none, .load 3 true (.t 15)⟩,
         ⟨(some 7), none, .alloc et [(.int .i64 0), (.int .i64 0), (.str [])]⟩,
         ⟨none, none, .store 3 (.t 7) (.t 16)⟩] false)
       (.seq (.blk 2 (.seq (.ops [
           ⟨(some 18), none, .faddr 0 (.t 7)⟩,
           ⟨(some 19), none, .load 1 false (.t 18)⟩,
           ⟨(some 20), none, .bin .lss (.t 19) (.c (.int .i64 0))⟩,
           ⟨(some 21), none, .mv (.t 20)⟩,
           ⟨(some 22), (some (21, false)), .faddr 0 (.t 7)⟩,
           ⟨(some 23), (some (21, false)), .load 1 false (.t 22)⟩,
           ⟨(some 24), (some (21, false)), .faddr 1 (.t 7)⟩,
           ⟨(some 25), (some (21, false)), .load 1 false (.t 24)⟩,
           ⟨(some 26), (some (21, false)), .bin .gtr (.t 23) (.t 25)⟩,
           ⟨(some 27), none, .pick (.t 21) (.c (.bool true)) (.t 26)⟩,
           ⟨(some 28), none, .mv (.t 27)⟩,
           ⟨(some 29), (some (28, false)), .faddr 1 (.t 7)⟩,
           ⟨(some 30), (some (28, false)), .load 1 false (.t 29)⟩,
           ⟨(some 31), (some (28, false)), .mv (.t 1)⟩,
           ⟨(some 32), (some (28, false)), .bin .gtr (.t 30) (.t 31)⟩,
           ⟨(some 33), none, .pick (.t 28) (.c (.bool true)) (.t 32)⟩,
           ⟨(some 17), none, .mv (.t 33)⟩] false)
         (.cond (.t 17) (.seq (.ops [
            ⟨(some 4), none, .mv (.c (.int .i64 6))⟩] false)
          (.ret))
         (.seq (.ops [
            ⟨(some 35), none, .faddr 0 (.t 7)⟩,
            ⟨(some 36), none, .load 1 false (.t 35)⟩,
            ⟨(some 37), none, .faddr 1 (.t 7)⟩,
            ⟨(some 38), none, .load 1 false (.t 37)⟩,
            ⟨(some 39), none, .bin .eql (.t 36) (.t 38)⟩,
            ⟨(some 40), none, .mv (.t 39)⟩,
            ⟨(some 41), (some (40, true)), .faddr 2 (.t 7)⟩,
            ⟨(some 42), (some (40, true)), .load 1 false (.t 41)⟩,
            ⟨(some 43), (some (40, true)), .bin .eql (.t 42) (.c (.str []))⟩,
            ⟨(some 44), none, .pick (.t 40) (.t 43) (.c (.bool false))⟩,
            ⟨(some 34), none, .mv (.t 44)⟩] false)
          (.cond (.t 34) (.seq (.ops [
             ⟨(some 4), none, .mv (.c (.int .i64 1))⟩] false)
           (.ret))
          (.seq (.ops [
             ⟨(some 46), none, .faddr 0 (.t 7)⟩,
             ⟨(some 47), none, .load 1 false (.t 46)⟩,
             ⟨(some 48), none, .mv (.t 5)⟩,
             ⟨(some 49), none, .bin .leq (.t 47) (.t 48)⟩,
             ⟨(some 45), none, .mv (.t 49)⟩] false)
           (.cond (.t 45) (.seq (.ops [
              ⟨(some 4), none, .mv (.c (.int .i64 7))⟩] false)
            (.ret))
           (.skip))))))))
       (.ops [
        ⟨(some 50), none, .faddr 1 (.t 7)⟩,
        ⟨(some 51), none, .load 1 false (.t 50)⟩,
        ⟨(some 5), none, .mv (.t 51)⟩] false))))
     (.ops [
      ⟨(some 52), none, .bin .add (.t 13) (.c (.int .i64 1))⟩,
      ⟨(some 13), none, .mv (.t 52)⟩] false)))))))
  (.seq (.ops [
    ⟨(some 4), none, .mv (.c (.int .i64 0))⟩] false)
  (.ret)))))) }

def irWrite (cc : Nat) : IFn :=
 { nt := 19, res := [.t 4, .t 5], body := (
  .seq (.ops [
    ⟨(some 4), none, .mv (.c (.int .i64 0))⟩,
    ⟨(some 5), none, .mv (.c .nili)⟩] false)
  (.seq (.ops [
    ⟨(some 6), none, .mv (.t 0)⟩,
    ⟨(some 7), none, .call cc [(.t 6)]⟩] false)
  (.seq (.ops [
    ⟨(some 8), none, .mv (.t 0)⟩,
    ⟨(some 9), none, .mv (.t 0)⟩,
    ⟨(some 10), none, .nilCheck (.t 9)⟩,
    ⟨(some 11), none, .faddr 1 (.t 10)⟩,
    ⟨(some 12), none, .load 1 false (.t 11)⟩,
    ⟨(some 13), none, .mv (.t 1)⟩,
    ⟨(some 14), none, .appS 5 (.t 12) (.t 13)⟩,
    ⟨(some 15), none, .nilCheck (.t 8)⟩,
    ⟨(some 16), none, .faddr 1 (.t 15)⟩,
    ⟨none, none, .store 1 (.t 16) (.t 14)⟩] false)
  (.seq (.ops [
    ⟨(some 17), none, .mv (.t 1)⟩,
    ⟨(some 18), none, .lenS (.t 17)⟩,
    ⟨(some 4), none, .mv (.t 18)⟩,
    ⟨(some 5), none, .mv (.c .nili)⟩] false)
  (.ret))))) }

def irApply (et bt snd wr str : Nat) : IFn :=
 { nt := 41, res := [.t 4, .t 5], body := (
  .seq (.ops [
    ⟨(some 4), none, .mv (.c (.str []))⟩,
    ⟨(some 5), none, .mv (.c (.int .i64 0))⟩] false)
  (.seq (.seq (.ops [
     ⟨(some 11), none, .mv (.t 1)⟩,
     ⟨(some 12), none, .mv (.t 0)⟩,
     ⟨(some 13), none, .lenS (.t 12)⟩,
     ⟨(some 14), none, .call snd [(.t 11), (.t 13)]⟩,
     ⟨(some 6), none, .mv (.t 14)⟩] false)
   (.seq (.ops [
     ⟨(some 15), none, .mv (.t 6)⟩,
     ⟨(some 16), none, .bin .neq (.t 15) (.c (.int .i64 0))⟩] false)
   (.cond (.t 16) (.seq (.ops [
      ⟨(some 17), none, .mv (.t 6)⟩,
      ⟨(some 4), none, .mv (.c (.str []))⟩,
      ⟨(some 5), none, .mv (.t 17)⟩] false)
    (.ret))
   (.skip))))
  (.seq (.ops [
    ⟨(some 7), none, .allocT bt [.nilp, (.sl true 1 [])] 1 1 5⟩] false)
  (.seq (.ops [
    ⟨(some 8), none, .mv (.c (.int .i64 0))⟩] false)
  (.seq (.seq (.ops [
     ⟨(some 18), none, .mv (.t 1)⟩,
     ⟨(some 19), none, .lenL (.t 18)⟩,
     ⟨(some 20), none, .mv (.c (.int .i64 0))⟩] false)
   (.blk 0 (.loop (.seq (.ops [
       ⟨(some 21), none, .bin .lss (.t 20) (.t 19)⟩] false)
     (.seq (.cond (.t 21) (.skip)
      (.exit 0))
     (.seq (.blk 1 (.seq (.ops [
         ⟨(some 22), none, .iaddr 3 (.t 18) (.t 20)⟩,
         ⟨(some 23), none, .load 3 true (.t 22)⟩,
         ⟨(some 10), none, .alloc et [(.int .i64 0), (.int .i64 0), (.str [])]⟩,
         ⟨none, none, .store 3 (.t 10) (.t 23)⟩] false)
       (.seq (.ops [
         ⟨(some 24), none, .mv (.t 0)⟩,
         ⟨(some 25), none, .mv (.t 8)⟩,
         ⟨(some 26), none, .faddr 0 (.t 10)⟩,
         ⟨(some 27), none, .load 1 false (.t 26)⟩,
         ⟨(some 28), none, .sslice (.t 24) (some (.t 25)) (some (.t 27))⟩,
         ⟨(some 29), none, .call wr [(.t 7), (.t 28)]⟩] false)
       (.seq (.ops [
         ⟨(some 30), none, .faddr 2 (.t 10)⟩,
         ⟨(some 31), none, .load 1 false (.t 30)⟩,
         ⟨(some 32), none, .call wr [(.t 7), (.t 31)]⟩] false)
       (.ops [
        ⟨(some 33), none, .faddr 1 (.t 10)⟩,
        ⟨(some 34), none, .load 1 false (.t 33)⟩,
        ⟨(some 8), none, .mv (.t 34)⟩] false)))))
     (.ops [
      ⟨(some 35), none, .bin .add (.t 20) (.c (.int .i64 1))⟩,
      ⟨(some 20), none, .mv (.t 35)⟩] false)))))))
  (.seq (.ops [
    ⟨(some 36), none, .mv (.t 0)⟩,
    ⟨(some 37), none, .mv (.t 8)⟩,
    ⟨(some 38), none, .sslice (.t 36) (some (.t 37)) none⟩,
    ⟨(some 39), none, .call wr [(.t 7), (.t 38)]⟩] false)
  (.seq (.ops [
    ⟨(some 40), none, .call str [(.t 7)]⟩,
    ⟨(some 4), none, .mv (.t 40)⟩,
    ⟨(some 5), none, .mv (.c (.int .i64 0))⟩] false)
  (.ret)))))))) }

structure Ed where
  f : Int
  t : Int
  s : List UInt8

def encE (e : Ed) : List D := [.int .i64 e.f, .int .i64 e.t, .str e.s]

def soundFrom (n : Int) : Int → List Ed → Int
  | _, [] => 0
  | last, e :: r => if e.f < 0 ∨ e.t < e.f ∨ n < e.t then 6 else if e.f = e.t ∧ e.s = [] then 1 else if e.f ≤ last then 7 else soundFrom n e.t r

def sound (l : List Ed) (n : Int) : Int := if 512 < l.length then 5 else soundFrom n (-1) l

def total : List Ed → Nat
  | [] => 0
  | e :: r => e.s.length + total r


theorem appA_osl {H : Hp} {t sz b e : Nat} {z : Bool} {rows new : List (List D)} (ht : H[t]? = some (.tok rows.length sz e)) (hf : (rows.length + new.length) * b ≤ 140737488355328) :
    appA H sz b e new (.osl z sz rows t) = some (.osl z sz (rows ++ new) t, H.set t (.tok (rows.length + new.length) sz e)) := by
  simp [appA, ht, hf]

@[simp] theorem byteRows_length (s : List UInt8) : (byteRows s).length = s.length := by simp [byteRows]
theorem byteRows_append (a b : List UInt8) : byteRows (a ++ b) = byteRows a ++ byteRows b := by simp [byteRows]


def applied (s : List UInt8) : Int → List Ed → List UInt8
  | k, [] => s.drop k.toNat
  | k, e :: r => (s.drop k.toNat).take (e.f.toNat - k.toNat) ++ (e.s ++ applied s e.t r)

def applyS (s : List UInt8) (l : List Ed) : List UInt8 := if sound l s.length = 0 then applied s 0 l else []

theorem soundFrom_cons {n last : Int} {e : Ed} {r : List Ed} (h : soundFrom n last (e :: r) = 0) : 0 ≤ e.f ∧ e.f ≤ e.t ∧ e.t ≤ n ∧ last < e.f ∧ soundFrom n e.t r = 0 := by
  rw [soundFrom] at h
  split at h
  · cases h
  · split at h
    · cases h
    · split at h
      · cases h
      · refine ⟨by omega, by omega, by omega, by omega, h⟩

theorem sound_zero {l : List Ed} {n : Int} (h : sound l n = 0) : l.length ≤ 512 ∧ soundFrom n (-1) l = 0 := by
  unfold sound at h
  split at h
  · cases h
  · exact ⟨by omega, h⟩

theorem subL_ok {α : Type} {s : List α} {a b : Int} (h : 0 ≤ a ∧ a ≤ b ∧ b ≤ s.length) : subL s a b = some ((s.drop a.toNat).take (b.toNat - a.toNat)) := by
  simp [subL, h]


def grows : List Ed → Int
  | [] => 0
  | e :: r => (e.s.length - (e.t - e.f)) + grows r

theorem applied_len (s : List UInt8) : ∀ (l : List Ed) (p last : Int), soundFrom s.length last l = 0 → 0 ≤ p → p ≤ last + 1 → p ≤ s.length → ((applied s p l).length : Int) = s.length - p + grows l
  | [], p, last, _, h0, _, h1 => by simp [applied, grows]; omega
  | e :: r, p, last, h, h0, hp, h1 => by
    obtain ⟨e1, e2, e3, e4, e5⟩ := soundFrom_cons h
    have := applied_len s r e.t e.t e5 (by omega) (by omega) e3
    simp only [applied, grows, List.length_append, List.length_take, List.length_drop, Int.natCast_add, this]
    omega

end Go.Zam

namespace Go.Zam
set_option linter.all false
set_option maxRecDepth 100000
set_option maxHeartbeats 1000000

/-- strings.Builder's copyCheck, at a program -/
def CopyOk (P : Program) (cc : FuncId) (bt : TypeId) : Prop := ∀ (H : Hp) (i : Nat) (x a : A), H[i]? = some (.box bt [a, x]) → (a = .d .nilp ∨ a = .ptr i 0) → ACall P cc [.ptr i 0] H (fun r H' => r = .tup [] ∧ H' = H.set i (.box bt [.ptr i 0, x]))
/-- strings.Builder's String, at a program -/
def StringOk (P : Program) (st : FuncId) (bt : TypeId) : Prop := ∀ (H : Hp) (i t : Nat) (a : A) (s : List UInt8), H[i]? = some (.box bt [a, .osl true 1 (byteRows s) t]) → H[t]? = some (.tok s.length 1 5) → s.length ≤ 140737488355328 → ACall P st [.ptr i 0] H (fun r H' => r = .d (.str s) ∧ H' = H)

section
variable {P : Program} {et bt : Nat}

theorem sound_acall {f : FuncId} {fn : Func} (hf : P.funcs[f]? = some fn) (hcf : compF P [] fn = some (irSound et)) (H : Hp) (z : Bool) (l : List Ed) (n : Int) : ACall P f [.d (.sl z 3 (l.map encE)), .d (.int .i64 n)] H (fun r H' => r = .d (.int .i64 (sound l n)) ∧ H' = H) := by
  refine acall_fin hf hcf (by simp [irSound]) fun hcl _ => ?_
  simp [irSound]
  refine BrK_split (fun h => ?_) (fun h => ?_)
  · simp [RetK, cut_self hcl, sound] at h ⊢
    omega
  simp
  refine LoopK_of H.length (fun fr H' => ∃ pre rest last, l = pre ++ rest ∧ sound l n = soundFrom n last rest ∧ fr 1 = .d (.int .i64 n) ∧ fr 5 = .d (.int .i64 last) ∧ fr 11 = .d (.sl z 3 (l.map encE)) ∧ fr 12 = .d (.int .i64 l.length) ∧ fr 13 = .d (.int .i64 (pre.length : Int)) ∧ H' = H)
    (fun fr H' => match fr 13 with | .d (.int _ k) => (l.length - k).toNat | _ => 0) (by simp) ?_ ?_
  · refine ⟨[], l, -1, ?_⟩
    simp [cut_self hcl, sound]
    simp at h; omega
  rintro fr H' ⟨pre, rest, last, hl, hs, f1, f5, f11, f12, f13, rfl⟩
  simp [f1, f5, f11, f12, f13]
  refine BrK_split (fun h => ?_) (fun h => ?_)
  · obtain ⟨e, r, rfl⟩ : ∃ e r, rest = e :: r := by
      cases rest with
      | nil => simp_all
      | cons e r => exact ⟨e, r, rfl⟩
    have hr : Zam.rowAt (l.map encE) pre.length = some (encE e) := by rw [hl]; exact rowAt_mid _ _ _ _
    simp [f1, f5, f11, f12, f13, hr, encE]
    repeat' (first
      | refine GdK_split (by simp) (fun h => ?_) (fun h => ?_)
      | refine BrK_split (fun h => ?_) (fun h => ?_)
      | simp [f1, f5, f11, f12, f13])
    all_goals simp only [decide_eq_true_eq, decide_eq_false_iff_not, Bool.not_true, Bool.not_false] at *
    all_goals first
      | (clear hl hr; simp_all [RetK, cut_app hcl, soundFrom]; done)
      | (refine AgainK_of (m := H'.length) (by simp) ⟨pre ++ [e], r, e.t, ?_⟩ ?_
         · have hw : IntKind.i64.wrap (pre.length + 1) = pre.length + 1 := wrap_i64 (by omega) (by omega)
           simp [cut_app hcl, f1, f5, f11, f12, f13, hw]
           refine ⟨hl, ?_⟩
           clear hl hr
           rw [hs, soundFrom]
           (repeat' split) <;> first | rfl | omega | (simp_all; done) | (simp_all; omega)
         · have hw : IntKind.i64.wrap (pre.length + 1) = pre.length + 1 := wrap_i64 (by omega) (by omega)
           simp [hw]; omega)
  · obtain rfl : rest = [] := by
      cases rest with
      | nil => rfl
      | cons e r => simp_all
    simp [RetK, hs, soundFrom, cut_self hcl]


theorem write_acall {f cc : FuncId} {fn : Func} (hf : P.funcs[f]? = some fn) (hcf : compF P [] fn = some (irWrite cc)) (hcc : CopyOk P cc bt) (H : Hp) (i t : Nat) (a : A) (bs s : List UInt8) (hi : H[i]? = some (.box bt [a, .osl true 1 (byteRows bs) t])) (ha : a = .d .nilp ∨ a = .ptr i 0) (ht : H[t]? = some (.tok bs.length 1 5)) (hb : bs.length + s.length ≤ 140737488355328) :
    ACall P f [.ptr i 0, .d (.str s)] H (fun r H' => r = .tup [.d (.int .i64 s.length), .d .nili] ∧ H' = (H.set i (.box bt [.ptr i 0, .osl true 1 (byteRows (bs ++ s)) t])).set t (.tok (bs ++ s).length 1 5)) := by
  have hit : i ≠ t := fun e => by subst e; rw [hi] at ht; cases ht
  have hil : i < H.length := (List.getElem?_eq_some_iff.1 hi).1
  have htl : t < H.length := (List.getElem?_eq_some_iff.1 ht).1
  refine acall_fin hf hcf (by simp [irWrite]) fun hcl hlo => ?_
  simp [irWrite]
  refine CallK_of' (hcc _ _ _ _ hi ha) ?_
  have ht' : (H.set i (.box bt [.ptr i 0, .osl true 1 (byteRows bs) t]))[t]? = some (.tok (byteRows bs).length 1 5) := by
    rw [List.getElem?_set_ne hit, ht, byteRows_length]
  have happ := appA_osl (z := true) (b := 1) (new := byteRows s) ht' (by simp; omega)
  simp [hil, htl, hit, ht, happ, Ne.symm hit]
  simp [RetK, Hp.cut_set, cut_self hcl, hil, htl, byteRows_append]
  rw [List.set_comm _ _ hit, List.set_comm _ _ hit, List.set_set]


theorem apply_acall {f f1 f2 f3 cc : FuncId} {fn fn1 fn2 : Func} (hf : P.funcs[f]? = some fn) (hcf : compF P [7] fn = some (irApply et bt f1 f2 f3)) (hf1 : P.funcs[f1]? = some fn1) (hcf1 : compF P [] fn1 = some (irSound et)) (hf2 : P.funcs[f2]? = some fn2) (hcf2 : compF P [] fn2 = some (irWrite cc)) (hcc : CopyOk P cc bt) (hst : StringOk P f3 bt) (H : Hp) (z : Bool) (s : List UInt8) (l : List Ed) (hb : s.length + total l ≤ 70368744177664) :
    ACall P f [.d (.str s), .d (.sl z 3 (l.map encE))] H (fun r H' => r = .tup [.d (.str (applyS s l)), .d (.int .i64 (sound l s.length))] ∧ H' = H) := by
  refine acall_fin hf hcf (by simp [irApply]) fun hcl _ => ?_
  simp [irApply]
  refine CallK_of' (sound_acall hf1 hcf1 H z l s.length) ?_
  simp
  refine BrK_split (fun h => ?_) (fun h => ?_)
  · simp [RetK, cut_self hcl]
    simp at h
    simp [applyS, h]
  have h0 : sound l s.length = 0 := by simpa using h
  obtain ⟨hl512, hs0⟩ := sound_zero h0
  simp
  refine LoopK_of (H.length + 2) (fun fr H' => ∃ pre rest, ∃ (p last : Int) (bs : List UInt8) (a : A), l = pre ++ rest ∧ bs ++ applied s p rest = applied s 0 l ∧ 0 ≤ p ∧ p ≤ s.length ∧ p ≤ last + 1 ∧ soundFrom s.length last rest = 0 ∧
      bs.length + (s.length - p.toNat) + total rest ≤ s.length + total l ∧ (a = .d .nilp ∨ a = .ptr (H.length + 1) 0) ∧
      fr 0 = .d (.str s) ∧ fr 7 = .ptr (H.length + 1) 0 ∧ fr 8 = .d (.int .i64 p) ∧ fr 18 = .d (.sl z 3 (l.map encE)) ∧ fr 19 = .d (.int .i64 l.length) ∧ fr 20 = .d (.int .i64 (pre.length : Int)) ∧ H' = H ++ [.tok bs.length 1 5, .box bt [a, .osl true 1 (byteRows bs) H.length]])
    (fun fr H' => match fr 20 with | .d (.int _ k) => (l.length - k).toNat | _ => 0) (by simp) ?_ ?_
  · refine ⟨[], l, 0, -1, [], .d .nilp, ?_⟩
    simp [cut_appk hcl, hs0, byteRows]
  rintro fr H' ⟨pre, rest, p, last, bs, a, hl, hap, hp0, hp1, hp2, hsf, hsz, ha, f0, f7, f8, f18, f19, f20, rfl⟩
  simp [f18, f19, f20]
  refine BrK_split (fun h => ?_) (fun h => ?_)
  · obtain ⟨e, r, rfl⟩ : ∃ e r, rest = e :: r := by
      cases rest with
      | nil => simp_all
      | cons e r => exact ⟨e, r, rfl⟩
    have hr : Zam.rowAt (l.map encE) pre.length = some (encE e) := by rw [hl]; exact rowAt_mid _ _ _ _
    obtain ⟨e1, e2, e3, e4, e5⟩ := soundFrom_cons hsf
    simp only [total] at hsz
    have hsub := subL_ok (s := s) (a := p) (b := e.f) ⟨hp0, by omega, by omega⟩
    have hlen : ((s.drop p.toNat).take (e.f.toNat - p.toNat)).length = e.f.toNat - p.toNat := by simp; omega
    simp [f0, f7, f8, f18, f19, f20, hr, encE, hsub]
    refine CallK_of' (write_acall hf2 hcf2 hcc _ (H.length + 1) H.length a bs ((s.drop p.toNat).take (e.f.toNat - p.toNat)) (by simp) ha (by simp) (by omega)) ?_
    simp [f0, f7, f8, f18, f19, f20]
    refine CallK_of' (write_acall hf2 hcf2 hcc _ (H.length + 1) H.length (.ptr (H.length + 1) 0) (bs ++ (s.drop p.toNat).take (e.f.toNat - p.toNat)) e.s (by simp) (.inr rfl) (by simp) (by rw [List.length_append]; omega)) ?_
    have hw : IntKind.i64.wrap (pre.length + 1) = pre.length + 1 := wrap_i64 (by omega) (by simp at h; omega)
    simp [f0, f7, f8, f18, f19, f20, hw]
    refine AgainK_of (m := H.length + 2) (by simp) ⟨pre ++ [e], r, e.t, e.t, bs ++ ((s.drop p.toNat).take (e.f.toNat - p.toNat) ++ e.s), .ptr (H.length + 1) 0, ?_⟩ ?_
    · simp [cut_appk hcl, f0, f7, f8, f18, f19, f20]
      refine ⟨hl, ?_, by omega, e3, by omega, e5, ?_⟩
      · rw [← hap, applied]
      · omega
    · simp; simp at h; omega
  · obtain rfl : rest = [] := by
      cases rest with
      | nil => rfl
      | cons e r => simp_all
    have hsub := subL_ok (s := s) (a := p) (b := s.length) ⟨hp0, hp1, by omega⟩
    have htk : (s.drop p.toNat).take ((s.length : Int).toNat - p.toNat) = s.drop p.toNat := List.take_of_length_le (by simp)
    rw [htk] at hsub
    simp [total] at hsz
    simp [f0, f7, f8, hsub]
    refine CallK_of' (write_acall hf2 hcf2 hcc _ (H.length + 1) H.length a bs (s.drop p.toNat) (by simp) ha (by simp) (by simp; omega)) ?_
    simp [f0, f7, f8]
    refine CallK_of' (hst _ (H.length + 1) H.length (.ptr (H.length + 1) 0) (bs ++ s.drop p.toNat) (by simp) (by simp) (by simp; omega)) ?_
    simp [RetK, cut_app hcl, h0, applyS]
    simpa [applied] using hap


end
end Go.Zam

namespace Go.Zam
set_option linter.all false
set_option maxRecDepth 100000
set_option maxHeartbeats 1000000

/-- a call that yields an array that it made, in a pair -/
theorem ACall.freeze2 {P : Program} {f : FuncId} {args : List A} {H X : Hp} {k sz : Nat} {rows : List (List D)} {y : D} (hX : X[k]? = some (.arr sz (rows.map (List.map .d)))) (h : ACall P f args H (fun r H' => r = .tup [.msl (H.length + k) 0 rows.length, .d y] ∧ H' = H ++ X)) :
    ACall P f args H (fun r H' => r = .tup [.d (.sl false sz rows), .d y] ∧ H' = H) := by
  intro κ w vs hr hl hv
  refine (h κ w vs hr hl hv).mono ?_
  rintro e w' ⟨v, κ', x, H', h1, h2, h3, h4, rfl, rfl⟩
  cases h4 with
  | tup us _ hul hu =>
  match us, hul with
  | [u0, u1], _ =>
  have v0 := hu 0 u0 _ rfl rfl
  have v1 := hu 1 u1 _ rfl rfl
  obtain ⟨κ2, k1, k2, k3⟩ := h3.freezeArr (i := H.length + k) (sz := sz) (rows := rows) (by rw [getElem?_appk]; exact hX) v0
  rw [set_appk] at k2
  refine ⟨_, κ2.cut H.length, .tup [.d (.sl false sz rows), .d y], Hp.cut H.length (H ++ X.set k .dead), h1, K.le_cut (h2.trans k1) hr.dom, k2.cut _ (by simp), ?_, rfl, cut_app hr.closed _⟩
  refine .tup [u0, u1] _ rfl fun i v a hv ha => ?_
  match i with
  | 0 => simp at hv ha; subst hv; subst ha; exact VR.clr H.length k3
  | 1 => simp at hv ha; subst hv; subst ha; exact VR.clr H.length (v1.mono k1)
  | i + 2 => simp at hv

def indexP {α : Type} (p : α → Bool) : List α → Option Nat
  | [] => none
  | x :: r => if p x then some 0 else (indexP p r).map (· + 1)

def indexI {α : Type} (p : α → Bool) (l : List α) : Int := match indexP p l with | some k => k | none => -1

theorem indexP_append {α : Type} (p : α → Bool) : ∀ (a b : List α), (∀ x ∈ a, p x = false) → indexP p (a ++ b) = (indexP p b).map (· + a.length)
  | [], b, _ => by simp
  | x :: a, b, h => by
    simp only [List.cons_append, indexP, h x (by simp), Bool.false_eq_true, if_false, indexP_append p a b fun y hy => h y (by simp [hy]), Option.map_map, List.length_cons]
    congr 1

def irIndexFunc (sz : Nat) : IFn :=
 { nt := 19, res := [.t 4], body := (
  .seq (.ops [
    ⟨(some 4), none, .mv (.c (.int .i64 0))⟩] false)
  (.seq (.seq (.ops [
     ⟨(some 6), none, .mv (.t 0)⟩,
     ⟨(some 7), none, .lenL (.t 6)⟩,
     ⟨(some 8), none, .mv (.c (.int .i64 0))⟩] false)
   (.blk 0 (.loop (.seq (.ops [
       ⟨(some 9), none, .bin .lss (.t 8) (.t 7)⟩] false)
     (.seq (.cond (.t 9) (.skip)
      (.exit 0))
     (.seq (.blk 1 (.seq (.ops [
         ⟨(some 10), none, .mv (.t 8)⟩,
         ⟨(some 5), none, .mv (.t 10)⟩] false)
       (.seq (.ops [
         ⟨(some 11), none, .mv (.t 1)⟩,
         ⟨(some 12), none, .mv (.t 0)⟩,
         ⟨(some 13), none, .mv (.t 5)⟩,
         ⟨(some 14), none, .iaddr sz (.t 12) (.t 13)⟩,
         ⟨(some 15), none, .load sz true (.t 14)⟩,
         ⟨(some 16), none, .callv (.t 11) [(.t 15)]⟩] false)
       (.cond (.t 16) (.seq (.ops [
          ⟨(some 17), none, .mv (.t 5)⟩,
          ⟨(some 4), none, .mv (.t 17)⟩] false)
        (.ret))
       (.skip)))))
     (.ops [
      ⟨(some 18), none, .bin .add (.t 8) (.c (.int .i64 1))⟩,
      ⟨(some 8), none, .mv (.t 18)⟩] false)))))))
  (.seq (.ops [
    ⟨(some 4), none, .mv (.c (.int .i64 (-1)))⟩] false)
  (.ret)))) }

section
variable {P : Program} {α : Type} {enc : α → List D} {sz : Nat}

/-- IndexFunc over whatever holds a list -/
theorem indexFunc_acall {f : FuncId} {fn : Func} (hf : P.funcs[f]? = some fn) (hcf : compF P [] fn = some (irIndexFunc sz)) {H : Hp} {l : List α} {p : α → Bool} {g x : A} (hlen : lenA x = some l.length)
    (hx : ∀ m, H.length ≤ m → x.clr m = x) (hg : ∀ m, H.length ≤ m → g.clr m = g)
    (hld : ∀ (k : Nat) (e : α), l[k]? = some e → ∃ q, iaddrA H sz x (.d (.int .i64 (k : Int))) = some q ∧ ldA H sz q = some (rowE enc e))
    (hp : ∀ (e : α) (Q : A → Hp → Prop) (t : Tag Q), Q (.d (.bool (p e))) H → ValK Q t P [.agg (rowE enc e)] H g) (hb : l.length ≤ 1099511627776) :
    ACall P f [x, g] H (fun r H' => r = .d (.int .i64 (indexI p l)) ∧ H' = H) := by
  refine acall_fin hf hcf (by simp [irIndexFunc]) fun hcl _ => ?_
  simp [irIndexFunc, hlen, -lenA]
  refine LoopK_of H.length (fun fr H' => ∃ pre rest, l = pre ++ rest ∧ (∀ e ∈ pre, p e = false) ∧ fr 0 = x ∧ fr 1 = g ∧ fr 7 = .d (.int .i64 l.length) ∧ fr 8 = .d (.int .i64 (pre.length : Int)) ∧ H' = H)
    (fun fr H' => match fr 8 with | .d (.int _ k) => (l.length - k).toNat | _ => 0) (by simp) ?_ ?_
  · refine ⟨[], l, ?_⟩
    simp [cut_self hcl, hx, hg, clr_d, -A.clr]
  rintro fr H' ⟨pre, rest, hl, hpre, f0, f1, f7, f8, hH⟩
  rw [hH]
  simp [f7, f8]
  refine BrK_split (fun h => ?_) (fun h => ?_)
  · obtain ⟨e, r, rfl⟩ : ∃ e r, rest = e :: r := by
      cases rest with
      | nil => rw [hl] at h; simp at h
      | cons e r => exact ⟨e, r, rfl⟩
    obtain ⟨q, q1, q2⟩ := hld pre.length e (by rw [hl]; simp)
    have hpl : pre.length < l.length := by rw [hl]; simp
    have hw : IntKind.i64.wrap ((pre.length : Int) + 1) = pre.length + 1 := wrap_i64 (by omega) (by omega)
    simp [f0, f1, f7, f8, q1, q2, -iaddrA, -ldA]
    refine hp e _ _ ?_
    simp [f0, f1, f7, f8]
    refine BrK_split (fun h2 => ?_) (fun h2 => ?_)
    · have : indexI p l = pre.length := by rw [hl, indexI, indexP_append p _ _ hpre]; simp [indexP, h2]
      simp [RetK, cut_self hcl, this]
    · simp [f8, hw]
      refine AgainK_of (m := H.length) (by simp) ⟨pre ++ [e], r, ?_⟩ ?_
      · simp [f0, f1, f7, f8, cut_self hcl, hx, hg, clr_d, -A.clr]
        refine ⟨hl, fun a ha => ?_⟩
        rcases ha with h3 | h3
        · exact hpre a h3
        · subst h3; exact h2
      · simp; omega
  · obtain rfl : rest = [] := by
      cases rest with
      | nil => rfl
      | cons e r => exfalso; rw [hl] at h; simp at h
    rw [List.append_nil] at hl
    subst hl
    have : indexI p l = -1 := by
      have := indexP_append p l [] hpre
      simp [indexP] at this
      simp [indexI, this]
    simp [RetK, cut_self hcl, this]

end

/-- the names met, as a map -/
def setMp (l : List (List UInt8)) : List (D × A) := l.map fun s => (.str s, .d (.bool true))

theorem setMp_ok (l : List (List UInt8)) (s : List UInt8) : mpOk (.str []) (.str s) (setMp l) = true := by simp [setMp]
theorem setMp_get (s : List UInt8) : ∀ l : List (List UInt8), mpGet (.str s) (setMp l) = if s ∈ l then some (.d (.bool true)) else none
  | [] => rfl
  | x :: l => by
    have := setMp_get s l
    simp only [setMp, List.map_cons, mpGet, sameK, List.mem_cons] at this ⊢
    by_cases h : s = x
    · simp [h]
    · simp only [h, decide_false, Bool.false_eq_true, if_false, false_or]; exact this
theorem setMp_put (s : List UInt8) : ∀ l : List (List UInt8), s ∉ l → mpPut (.str s) (.d (.bool true)) (setMp l) = setMp (l ++ [s])
  | [], _ => rfl
  | x :: l, h => by
    simp only [List.mem_cons, not_or] at h
    have := setMp_put s l h.2
    simp only [setMp, List.map_cons, mpPut, sameK, List.cons_append] at this ⊢
    simp only [h.1, decide_false, Bool.false_eq_true, if_false]
    rw [this]

end Go.Zam

namespace Go.Zam
set_option linter.all false
set_option maxRecDepth 100000
set_option maxHeartbeats 1000000

theorem bl_irrefl : ∀ a : List UInt8, Op.bytesLess a a = false
  | [] => rfl
  | x :: a => by simp [Op.bytesLess, bl_irrefl a]

theorem bl_total : ∀ a b : List UInt8, Op.bytesLess a b = false → Op.bytesLess b a = false → a = b
  | [], [], _, _ => rfl
  | [], y :: b, h, _ => by simp [Op.bytesLess] at h
  | x :: a, [], _, h => by simp [Op.bytesLess] at h
  | x :: a, y :: b, h, h' => by
    simp only [Op.bytesLess, Bool.or_eq_false_iff, decide_eq_false_iff_not, Bool.and_eq_false_iff, beq_eq_false_iff_ne, UInt8.lt_iff_toNat_lt] at h h'
    have hxy : x = y := by
      apply UInt8.toNat_inj.1
      omega
    subst hxy
    have h1 := h.2.resolve_left (fun e => e rfl)
    have h2 := h'.2.resolve_left (fun e => e rfl)
    rw [bl_total a b h1 h2]

theorem bl_trans : ∀ a b c : List UInt8, Op.bytesLess a b = true → Op.bytesLess b c = true → Op.bytesLess a c = true
  | _, [], _, h, _ => by cases ‹List UInt8› <;> simp [Op.bytesLess] at h
  | _, _ :: _, [], _, h => by simp [Op.bytesLess] at h
  | [], _ :: _, _ :: _, _, _ => rfl
  | x :: a, y :: b, z :: c, h, h' => by
    simp only [Op.bytesLess, Bool.or_eq_true, decide_eq_true_eq, Bool.and_eq_true, beq_iff_eq, UInt8.lt_iff_toNat_lt] at h h' ⊢
    rcases h with h | ⟨rfl, h⟩ <;> rcases h' with h' | ⟨rfl, h'⟩
    · left; omega
    · left; exact h
    · left; exact h'
    · right; exact ⟨rfl, bl_trans a b c h h'⟩

theorem bl_asymm {a b : List UInt8} (h : Op.bytesLess a b = true) : Op.bytesLess b a = false := by
  cases h2 : Op.bytesLess b a with
  | false => rfl
  | true => have := bl_trans a b a h h2; rw [bl_irrefl] at this; cases this

theorem cmpStr_lt {a b : List UInt8} : cmpStr a b < 0 ↔ Op.bytesLess a b = true := by
  unfold cmpStr
  split
  · simp_all
  · split <;> simp_all
theorem cmpStr_gt {a b : List UInt8} : 0 < cmpStr a b ↔ Op.bytesLess b a = true := by
  unfold cmpStr
  split
  · rename_i h; simp [bl_asymm h]
  · rename_i h
    split
    · rename_i h2
      simp [h] at h2
      subst h2
      simp [bl_irrefl]
    · rename_i h2
      simp [h] at h2
      cases h3 : Op.bytesLess b a with
      | true => simp
      | false => exact absurd (bl_total a b (by simpa using h) h3) h2
theorem cmpStr_zero {a b : List UInt8} : cmpStr a b = 0 ↔ a = b := by
  constructor
  · intro h
    have h1 : ¬ cmpStr a b < 0 := by omega
    have h2 : ¬ 0 < cmpStr a b := by omega
    rw [cmpStr_lt] at h1
    rw [cmpStr_gt] at h2
    exact bl_total a b (by simpa using h1) (by simpa using h2)
  · rintro rfl
    have h1 : ¬ cmpStr a a < 0 := by rw [cmpStr_lt, bl_irrefl]; simp
    have h2 : ¬ 0 < cmpStr a a := by rw [cmpStr_gt, bl_irrefl]; simp
    omega

theorem cmpStr_cmp : Cmp cmpStr where
  refl := fun x => cmpStr_zero.2 rfl
  anti := fun x y => by rw [cmpStr_lt, cmpStr_gt]
  trans := fun x y z h1 h2 => by
    have e1 : x = y ∨ Op.bytesLess x y = true := by
      by_cases h : cmpStr x y = 0
      · exact .inl (cmpStr_zero.1 h)
      · exact .inr (cmpStr_lt.1 (by omega))
    have e2 : y = z ∨ Op.bytesLess y z = true := by
      by_cases h : cmpStr y z = 0
      · exact .inl (cmpStr_zero.1 h)
      · exact .inr (cmpStr_lt.1 (by omega))
    rcases e1 with rfl | e1 <;> rcases e2 with rfl | e2
    · exact h1
    · exact h2
    · exact h1
    · have := cmpStr_lt.2 (bl_trans x y z e1 e2); omega

theorem Cmp.on {α β : Type} {c : β → β → Int} (h : Cmp c) (f : α → β) : Cmp fun x y => c (f x) (f y) :=
  ⟨fun x => h.refl _, fun x y => h.anti _ _, fun x y z => h.trans _ _ _⟩

theorem compareStr_acall {P : Program} {f f1 : FuncId} {fn fn1 : Func} (hf : P.funcs[f]? = some fn) (hcf : compF P [] fn = some (irCompare f1)) (hf1 : P.funcs[f1]? = some fn1) (hcf1 : compF P [] fn1 = some irIsNaN) {H : Hp} (a b : List UInt8) :
    ACall P f [.d (.str a), .d (.str b)] H (fun r H' => r = .d (.int .i64 (cmpStr a b)) ∧ H' = H) := by
  have hn : ∀ x, ACall P f1 [.d (.str x)] H (fun r H' => r = .d (.bool false) ∧ H' = H) := fun x => by
    refine acall_fin hf1 hcf1 (by simp [irIsNaN]) fun hcl _ => ?_
    simp [irIsNaN]
    simp [RetK, cut_self hcl]
  refine acall_fin hf hcf (by simp [irCompare]) fun hcl _ => ?_
  simp [irCompare]
  refine CallK_of' (hn a) ?_
  simp
  refine CallK_of' (hn b) ?_
  cases h : Op.bytesLess a b with
  | true =>
    simp [h]
    simp [RetK, cut_self hcl, cmpStr, h]
  | false =>
    by_cases he : a = b
    · subst he
      simp [h]
      simp [RetK, cut_self hcl, cmpStr, h]
    · simp [h, he]
      simp [RetK, cut_self hcl, cmpStr, h, he]

end Go.Zam

namespace Go.Zam
set_option linter.all false
set_option maxRecDepth 100000
set_option maxHeartbeats 1000000

theorem ld_ptr (H : Hp) (i off n : Nat) : ldA H n (.ptr i off) = (match H[i]? with | some (.box _ cs) => cutL cs off n | _ => none) := rfl
theorem st_ptr (H : Hp) (i off : Nat) (cs : List A) : stA H cs (.ptr i off) = (match H[i]? with | some (.box ty old) => if off + cs.length ≤ old.length then some (H.set i (.box ty (setL old off cs))) else none | _ => none) := rfl

section
variable {P : Program} {α : Type} {enc : α → List D} {sz : Nat}

end
end Go.Zam

namespace Go.Zam
set_option linter.all false
set_option maxRecDepth 100000
set_option maxHeartbeats 1000000

section
variable {κ κ' : K} {i j : Nat}

end

end Go.Zam

namespace Go.Zam
set_option linter.all false
set_option maxRecDepth 100000

theorem rowAt_map {α : Type} (f : α → List D) {l : List α} {i : Nat} (h : i < l.length) : Zam.rowAt (l.map f) (i : Int) = some (f l[i]) := by
  simp [Zam.rowAt, h]

theorem rowAt_get {α : Type} {f : α → List D} {l : List α} {i : Nat} {x : α} (h : l[i]? = some x) : Zam.rowAt (l.map f) (i : Int) = some (f x) := by
  simp [Zam.rowAt, h]

/-- what a round of a range hands on -/
def NextK (J : Nat → Fr → Hp → Prop) (_ : Tag J) (m n si sn st : Nat) (i : Nat) (fr : Fr) (H : Hp) : Prop :=
  fr si = .d (.int .i64 (i : Int)) ∧ fr sn = .d (.int .i64 (n : Int)) ∧ ∃ k, m ≤ k ∧ k ≤ H.length ∧ J (i + 1) (Fr.clr k ((fr.set st (.d (.int .i64 ((i : Int) + 1)))).set si (.d (.int .i64 ((i : Int) + 1))))) (Hp.cut k H)

@[congr] theorem NextK_congr {J : Nat → Fr → Hp → Prop} {t : Tag J} {m n si sn st i : Nat} {fr fr' : Fr} {H H' : Hp} (h : fr = fr') (h2 : H = H') : NextK J t m n si sn st i fr H = NextK J t m n si sn st i fr' H' := by rw [h, h2]

theorem NextK_of {J : Nat → Fr → Hp → Prop} {t : Tag J} {m n si sn st i : Nat} {fr : Fr} {H : Hp} (k : Nat) (hk : m ≤ k) (h : k ≤ H.length ∧ fr si = .d (.int .i64 (i : Int)) ∧ fr sn = .d (.int .i64 (n : Int)))
    (hj : J (i + 1) (Fr.clr k ((fr.set st (.d (.int .i64 ((i : Int) + 1)))).set si (.d (.int .i64 ((i : Int) + 1))))) (Hp.cut k H)) : NextK J t m n si sn st i fr H :=
  ⟨h.2.1, h.2.2, k, hk, h.1, hj⟩

def rangeC (si sn sb st b c : Nat) (body : C) : C :=
  .seq (.ops [⟨some sb, none, .bin .lss (.t si) (.t sn)⟩] false) (.seq (.cond (.t sb) .skip (.exit b)) (.seq (.blk c body) (.ops [⟨some st, none, .bin .add (.t si) (.c (.int .i64 1))⟩, ⟨some si, none, .mv (.t st)⟩] false)))

/-- A LOOP OVER THE ROWS OF A SLICE -/
theorem RangeK_of {P : Program} {n0 : Nat} {Q : Ex → Fr → Hp → Prop} {fr : Fr} {H : Hp} {si sn sb st b c : Nat} {body : C} {t : Tag (Q, rangeC si sn sb st b c body)} (m n : Nat) (J : Nat → Fr → Hp → Prop) (hn : n ≤ 4611686018427387904)
    (hne : (si ≠ sn ∧ si ≠ sb ∧ sn ≠ sb) ∧ (sb ≠ st ∧ sn ≠ st)) (h1 : n0 ≤ m ∧ m ≤ H.length) (h2 : fr si = .d (.int .i64 0) ∧ fr sn = .d (.int .i64 (n : Int))) (h3 : J 0 (fr.clr m) (Hp.cut m H))
    (h4 : ∀ i fr H, i < n → fr si = .d (.int .i64 (i : Int)) → fr sn = .d (.int .i64 (n : Int)) → J i fr H →
      AWp P n0 body (Ex.blk c (Ex.then (NextK J .mk m n si sn st i) Q)) (fr.set sb (.d (.bool true))) H)
    (h5 : ∀ fr H, fr si = .d (.int .i64 (n : Int)) → fr sn = .d (.int .i64 (n : Int)) → J n fr H → Q (.exit b) (fr.set sb (.d (.bool false))) H) :
    LoopK Q (rangeC si sn sb st b c body) t P n0 fr H := by
  obtain ⟨⟨n1, n2, n3⟩, n4, n5⟩ := hne
  refine LoopK_of m (fun fr H => ∃ i : Nat, i ≤ n ∧ fr si = .d (.int .i64 (i : Int)) ∧ fr sn = .d (.int .i64 (n : Int)) ∧ J i fr H) (fun fr H => match fr si with | .d (.int _ k) => (n - k).toNat | _ => 0) h1
    ⟨0, Nat.zero_le _, by simp [h2.1], by simp [h2.2], h3⟩ ?_
  rintro fr H ⟨i, hi, f1, f2, hj⟩
  simp [rangeC, f1, f2]
  refine BrK_split (fun h => ?_) (fun h => ?_)
  · have hlt : i < n := by simpa using h
    have hw : IntKind.i64.wrap ((i : Int) + 1) = i + 1 := wrap_i64 (by omega) (by omega)
    have hd : decide (i < n) = true := by simpa using hlt
    rw [hd]
    simp only [AWp_skip, then_normal, AWp_seq, AWp_blk]
    refine AWp.mono _ ?_ _ _ (h4 i fr H hlt f1 f2 hj)
    intro e fr' H' h
    have fin : NextK J .mk m n si sn st i fr' H' → Ex.then (AWp P n0 (.ops [⟨some st, none, .bin .add (.t si) (.c (.int .i64 1))⟩, ⟨some si, none, .mv (.t st)⟩] false) (Ex.then (Again m (fun fr H => ∃ i : Nat, i ≤ n ∧ fr si = .d (.int .i64 (i : Int)) ∧ fr sn = .d (.int .i64 (n : Int)) ∧ J i fr H) (fun fr H => match fr si with | .d (.int _ k) => (n - k).toNat | _ => 0) (n - i)) Q)) (Ex.then (Again m (fun fr H => ∃ i : Nat, i ≤ n ∧ fr si = .d (.int .i64 (i : Int)) ∧ fr sn = .d (.int .i64 (n : Int)) ∧ J i fr H) (fun fr H => match fr si with | .d (.int _ k) => (n - k).toNat | _ => 0) (n - i)) Q) Ex.normal fr' H' := by
      rintro ⟨g1, g2, k, k1, k2, k3⟩
      simp [g1, hw]
      refine AgainK_ofk k k1 k2 ⟨i + 1, by omega, by simp, by simp [n1.symm, n5, g2], ?_⟩ ?_
      · exact k3
      · simp; omega
    cases e with
    | normal => exact fin h
    | exit j =>
      simp only [blk_exit] at h ⊢
      by_cases hj : j = c
      · rw [if_pos hj] at h ⊢; exact fin h
      · rw [if_neg hj] at h ⊢; exact h
    | ret => exact h
  · have : i = n := by have : ¬ i < n := by simpa using h
                       omega
    subst this
    simp
    exact h5 fr H f1 f2 hj

/-- what a round of a counted loop hands on -/
def NextF (J : Nat → Fr → Hp → Prop) (_ : Tag J) (m n si su sv : Nat) (i : Nat) (fr : Fr) (H : Hp) : Prop :=
  fr si = .d (.int .i64 (i : Int)) ∧ i < n ∧ ∃ k, m ≤ k ∧ k ≤ H.length ∧ J (i + 1) (Fr.clr k (((fr.set su (.d (.int .i64 (i : Int)))).set sv (.d (.int .i64 ((i : Int) + 1)))).set si (.d (.int .i64 ((i : Int) + 1))))) (Hp.cut k H)

@[congr] theorem NextF_congr {J : Nat → Fr → Hp → Prop} {t : Tag J} {m n si su sv i : Nat} {fr fr' : Fr} {H H' : Hp} (h : fr = fr') (h2 : H = H') : NextF J t m n si su sv i fr H = NextF J t m n si su sv i fr' H' := by rw [h, h2]

theorem NextF_of {J : Nat → Fr → Hp → Prop} {t : Tag J} {m n si su sv i : Nat} {fr : Fr} {H : Hp} (k : Nat) (hk : m ≤ k) (hi : i < n) (h : k ≤ H.length ∧ fr si = .d (.int .i64 (i : Int)))
    (hj : J (i + 1) (Fr.clr k (((fr.set su (.d (.int .i64 (i : Int)))).set sv (.d (.int .i64 ((i : Int) + 1)))).set si (.d (.int .i64 ((i : Int) + 1))))) (Hp.cut k H)) : NextF J t m n si su sv i fr H :=
  ⟨h.2, hi, k, hk, h.1, hj⟩

def forC (si su sv c : Nat) (cnd body : C) : C :=
  .seq cnd (.seq (.blk c body) (.ops [⟨some su, none, .mv (.t si)⟩, ⟨some sv, none, .bin .add (.t su) (.c (.int .i64 1))⟩, ⟨some si, none, .mv (.t sv)⟩] false))

/-- A LOOP THAT COUNTS -/
theorem ForK_of {P : Program} {n0 : Nat} {Q : Ex → Fr → Hp → Prop} {fr : Fr} {H : Hp} {si su sv c : Nat} {cnd body : C} {t : Tag (Q, forC si su sv c cnd body)} (m n : Nat) (J : Nat → Fr → Hp → Prop) (hn : n ≤ 4611686018427387904)
    (hne : si ≠ su ∧ si ≠ sv ∧ su ≠ sv) (h1 : n0 ≤ m ∧ m ≤ H.length) (h2 : fr si = .d (.int .i64 0)) (h3 : J 0 (fr.clr m) (Hp.cut m H))
    (h4 : ∀ i fr H, i ≤ n → fr si = .d (.int .i64 (i : Int)) → J i fr H →
      AWp P n0 cnd (Ex.then (AWp P n0 body (Ex.blk c (Ex.then (NextF J .mk m n si su sv i) Q))) Q) fr H) :
    LoopK Q (forC si su sv c cnd body) t P n0 fr H := by
  obtain ⟨n1, n2, n3⟩ := hne
  refine LoopK_of m (fun fr H => ∃ i : Nat, i ≤ n ∧ fr si = .d (.int .i64 (i : Int)) ∧ J i fr H) (fun fr H => match fr si with | .d (.int _ k) => (n - k).toNat | _ => 0) h1
    ⟨0, Nat.zero_le _, by simp [h2], h3⟩ ?_
  rintro fr H ⟨i, hi, f1, hj⟩
  simp only [forC, AWp_seq]
  refine AWp.mono _ ?_ _ _ (h4 i fr H hi f1 hj)
  intro e fr' H' h
  cases e with
  | normal =>
    simp only [then_normal, AWp_seq, AWp_blk] at h ⊢
    refine AWp.mono _ ?_ _ _ h
    intro e fr' H' h
    have fin : NextF J .mk m n si su sv i fr' H' → AWp P n0 (.ops [⟨some su, none, .mv (.t si)⟩, ⟨some sv, none, .bin .add (.t su) (.c (.int .i64 1))⟩, ⟨some si, none, .mv (.t sv)⟩] false) (Ex.then (Again m (fun fr H => ∃ i : Nat, i ≤ n ∧ fr si = .d (.int .i64 (i : Int)) ∧ J i fr H) (fun fr H => match fr si with | .d (.int _ k) => (n - k).toNat | _ => 0) (match fr si with | .d (.int _ k) => (n - k).toNat | _ => 0)) Q) fr' H' := by
      rintro ⟨g1, g0, k, k1, k2, k3⟩
      have hw : IntKind.i64.wrap ((i : Int) + 1) = i + 1 := wrap_i64 (by omega) (by omega)
      simp [g1, hw, f1]
      refine AgainK_ofk k k1 k2 ⟨i + 1, by omega, by simp, ?_⟩ ?_
      · exact k3
      · simp; omega
    cases e with
    | normal => simp only [blk_normal, then_normal] at h ⊢; exact fin h
    | exit j =>
      simp only [blk_exit] at h ⊢
      by_cases hj : j = c
      · rw [if_pos hj] at h ⊢; exact fin h
      · rw [if_neg hj] at h ⊢; exact h
    | ret => exact h
  | exit j => exact h
  | ret => exact h

/-- where a loop is left by one exit, what holds there -/
def Ex.outE (b : Nat) (E : Fr → Hp → Prop) (Q : Ex → Fr → Hp → Prop) : Ex → Fr → Hp → Prop
  | .exit j, fr, H => if j = b then E fr H else Q (.exit j) fr H
  | e, fr, H => Q e fr H

@[simp ↓] theorem outE_exit (b j : Nat) {E : Fr → Hp → Prop} {Q : Ex → Fr → Hp → Prop} {fr : Fr} {H : Hp} : Ex.outE b E Q (.exit j) fr H = if j = b then E fr H else Q (.exit j) fr H := propext Iff.rfl
@[simp ↓] theorem outE_ret (b : Nat) {E : Fr → Hp → Prop} {Q : Ex → Fr → Hp → Prop} {fr : Fr} {H : Hp} : Ex.outE b E Q .ret fr H = Q .ret fr H := propext Iff.rfl
@[simp ↓] theorem outE_normal (b : Nat) {E : Fr → Hp → Prop} {Q : Ex → Fr → Hp → Prop} {fr : Fr} {H : Hp} : Ex.outE b E Q .normal fr H = Q .normal fr H := propext Iff.rfl

/-- a loop that is left by one exit, or returns -/
def Ex.outR (b : Nat) (E R : Fr → Hp → Prop) : Ex → Fr → Hp → Prop
  | .exit j, fr, H => if j = b then E fr H else False
  | .ret, fr, H => R fr H
  | .normal, _, _ => False

@[simp ↓] theorem outR_exit (b j : Nat) {E R : Fr → Hp → Prop} {fr : Fr} {H : Hp} : Ex.outR b E R (.exit j) fr H = if j = b then E fr H else False := propext Iff.rfl
@[simp ↓] theorem outR_ret (b : Nat) {E R : Fr → Hp → Prop} {fr : Fr} {H : Hp} : Ex.outR b E R .ret fr H = R fr H := propext Iff.rfl

theorem LoopK_outR {P : Program} {n0 : Nat} {Q : Ex → Fr → Hp → Prop} {fr : Fr} {H : Hp} {c : C} {t : Tag (Q, c)} (b : Nat) (E R : Fr → Hp → Prop) (h : LoopK (Ex.outR b E R) c .mk P n0 fr H) (hret : ∀ fr H, R fr H → Q .ret fr H) (hout : ∀ fr H, E fr H → Q (.exit b) fr H) : LoopK Q c t P n0 fr H :=
  AWp.mono (.loop c) (fun e fr H h => by
    cases e with
    | normal => exact h.elim
    | ret => exact hret fr H h
    | exit j =>
      simp only [outR_exit] at h
      by_cases hj : j = b
      · rw [if_pos hj] at h; rw [hj]; exact hout fr H h
      · rw [if_neg hj] at h; exact h.elim) fr H h

/-- a step that ends, or returns -/
def Ex.outN (E R : Fr → Hp → Prop) : Ex → Fr → Hp → Prop
  | .exit _, _, _ => False
  | .ret, fr, H => R fr H
  | .normal, fr, H => E fr H

@[simp ↓] theorem outN_normal {E R : Fr → Hp → Prop} {fr : Fr} {H : Hp} : Ex.outN E R .normal fr H = E fr H := propext Iff.rfl
@[simp ↓] theorem outN_ret {E R : Fr → Hp → Prop} {fr : Fr} {H : Hp} : Ex.outN E R .ret fr H = R fr H := propext Iff.rfl

theorem LoopK_out {P : Program} {n0 : Nat} {Q : Ex → Fr → Hp → Prop} {fr : Fr} {H : Hp} {c : C} {t : Tag (Q, c)} (b : Nat) (E : Fr → Hp → Prop) (h : LoopK (Ex.outE b E Q) c .mk P n0 fr H) (hout : ∀ fr H, E fr H → Q (.exit b) fr H) : LoopK Q c t P n0 fr H :=
  AWp.mono (.loop c) (fun e fr H h => by
    cases e with
    | normal => exact h
    | ret => exact h
    | exit j =>
      simp only [outE_exit] at h
      by_cases hj : j = b
      · rw [if_pos hj] at h; rw [hj]; exact hout fr H h
      · rw [if_neg hj] at h; exact h) fr H h

end Go.Zam

namespace Go.Zam
set_option linter.all false
set_option maxRecDepth 100000

end Go.Zam

namespace Go.Zam
open Go.RowKit (Below)
set_option linter.all false
set_option maxRecDepth 100000

/-- what comes after a world that is the same below its end -/
theorem HR.later {κ : K} {H : Hp} {w w' : World} (h : HR κ H w) (hb : Below w.heap.size w w') : HR κ H w' := by
  have hst : ∀ b o v, κ.σ b o = some v → b < w.heap.size := fun b o v hv => World.block_lt_of_cell? w ⟨b, o, none⟩ (h.st b o v hv)
  refine ⟨h.below.trans (hb.mono h.below.size), fun b o v hv => ?_, fun i x hx => ?_, h.dom, fun i b hi => ?_, h.exσ, h.exd, h.fl⟩
  · rw [(cell_of_block (hb.block b (hst b o v hv)) o).1]; exact h.st b o v hv
  · exact (h.ob i x hx).mono (K.le_refl κ) rfl fun b hb' => hb.block b (h.ex i b hb').2
  · have := h.ex i b hi
    have := hb.size
    omega

/-- A LEAF: a function of the library, of pure data -/
theorem leaf {P : Program} {f : FuncId} {args : List D} {x : D}
    (h : ∀ (w : World) (σ : St) (vs : List Value), (∀ b o v, σ b o = some v → w.cell? ⟨b, o, none⟩ = some v) → vs.length = args.length → (∀ (i : Nat) (v : Value) (d : D), vs[i]? = some v → args[i]? = some d → DR σ v d) →
      Calls P f vs.toArray w fun e w' => ∃ v, e = .returned v ∧ Below w.heap.size w w' ∧ ∀ σ, DR σ v x) (H : Hp) : ACall P f (args.map .d) H (fun r H' => r = .d x ∧ H' = H) := by
  intro κ w vs hr hl hv
  refine (h w κ.σ vs hr.st (by simpa using hl) (fun i v d hi hd => (hv i v (.d d) hi (by simp [hd])).d_inv)).mono ?_
  rintro e w' ⟨v, rfl, hb, hd⟩
  exact ⟨v, κ, _, H, rfl, K.le_refl κ, hr.later hb, .d (hd _), rfl, rfl⟩

theorem DR.str_inv {σ : St} {v : Value} {s : List UInt8} (h : DR σ v (.str s)) : v = .string ⟨s.toArray⟩ := by
  cases h with
  | str u => simp
theorem DR.int_inv {σ : St} {v : Value} {k : IntKind} {n : Int} (h : DR σ v (.int k n)) : v = .int k n := by cases h; rfl

/-- a slice that may be appended to, where a plain one is asked for -/
theorem ACall.oslAt {P : Program} {f : FuncId} {H : Hp} {Q : A → Hp → Prop} {pre l : List A} {z : Bool} {s t : Nat} {rows : List (List D)} (h : ACall P f (pre ++ .d (.sl z s rows) :: l) H Q) : ACall P f (pre ++ .osl z s rows t :: l) H Q := by
  intro κ w vs hr hl hv
  refine h κ w vs hr (by simpa using hl) fun i v a hi ha => ?_
  by_cases e : i = pre.length
  · subst e
    have h1 := hv pre.length v (.osl z s rows t) hi (by simp)
    rw [List.getElem?_append_right (Nat.le_refl _), Nat.sub_self] at ha
    cases ha
    cases h1 with
    | osl hd _ => exact .d hd
  · refine hv i v a hi ?_
    by_cases hlt : i < pre.length
    · rw [List.getElem?_append_left hlt] at ha ⊢; exact ha
    · rw [List.getElem?_append_right (by omega)] at ha ⊢
      obtain ⟨k, hk⟩ : ∃ k, i - pre.length = k + 1 := ⟨i - pre.length - 1, by omega⟩
      rw [hk] at ha ⊢
      exact ha

theorem ACall.osl1 {P : Program} {f : FuncId} {H : Hp} {Q : A → Hp → Prop} {l : List A} {z : Bool} {s t : Nat} {rows : List (List D)} (h : ACall P f (.d (.sl z s rows) :: l) H Q) : ACall P f (.osl z s rows t :: l) H Q := ACall.oslAt (pre := []) h
theorem ACall.osl2 {P : Program} {f : FuncId} {H : Hp} {Q : A → Hp → Prop} {a : A} {l : List A} {z : Bool} {s t : Nat} {rows : List (List D)} (h : ACall P f (a :: .d (.sl z s rows) :: l) H Q) : ACall P f (a :: .osl z s rows t :: l) H Q := ACall.oslAt (pre := [a]) h

def irWriteByte (cc et : Nat) : IFn :=
 { nt := 17, res := [.t 4], body := (
  .seq (.ops [
    ⟨(some 4), none, .mv (.c .nili)⟩] false)
  (.seq (.ops [
    ⟨(some 5), none, .mv (.t 0)⟩,
    ⟨(some 6), none, .call cc [(.t 5)]⟩] false)
  (.seq (.ops [
    ⟨(some 7), none, .mv (.t 0)⟩,
    ⟨(some 8), none, .mv (.t 0)⟩,
    ⟨(some 9), none, .nilCheck (.t 8)⟩,
    ⟨(some 10), none, .faddr 1 (.t 9)⟩,
    ⟨(some 11), none, .load 1 false (.t 10)⟩,
    ⟨(some 12), none, .mv (.t 1)⟩,
    ⟨(some 13), none, .bslice 1 [(.t 12)]⟩,
    ⟨(some 14), none, .app 1 1 et (.t 11) (.t 13)⟩,
    ⟨(some 15), none, .nilCheck (.t 7)⟩,
    ⟨(some 16), none, .faddr 1 (.t 15)⟩,
    ⟨none, none, .store 1 (.t 16) (.t 14)⟩] false)
  (.seq (.ops [
    ⟨(some 4), none, .mv (.c .nili)⟩] false)
  (.ret))))) }

theorem writeByte_acall {P : Program} {f cc bt et : Nat} {fn : Func} (hf : P.funcs[f]? = some fn) (hcf : compF P [] fn = some (irWriteByte cc et)) (hcc : CopyOk P cc bt) (H : Hp) (i t : Nat) (a : A) (bs : List UInt8) (c : UInt8)
    (hi : H[i]? = some (.box bt [a, .osl true 1 (byteRows bs) t])) (ha : a = .d .nilp ∨ a = .ptr i 0) (ht : H[t]? = some (.tok bs.length 1 et)) (hb : bs.length + 1 ≤ 140737488355328) :
    ACall P f [.ptr i 0, .d (.int .u8 c.toNat)] H (fun r H' => r = .d .nili ∧ H' = (H.set i (.box bt [.ptr i 0, .osl true 1 (byteRows (bs ++ [c])) t])).set t (.tok (bs ++ [c]).length 1 et)) := by
  have hit : i ≠ t := fun e => by subst e; rw [hi] at ht; cases ht
  have hil : i < H.length := (List.getElem?_eq_some_iff.1 hi).1
  have htl : t < H.length := (List.getElem?_eq_some_iff.1 ht).1
  refine acall_fin hf hcf (by simp [irWriteByte]) fun hcl hlo => ?_
  simp [irWriteByte]
  refine CallK_of' (hcc _ _ _ _ hi ha) ?_
  have hbl : (byteRows bs).length = bs.length := by simp [byteRows]
  have ht' : (H.set i (.box bt [.ptr i 0, .osl true 1 (byteRows bs) t]))[t]? = some (.tok (byteRows bs).length 1 et) := by
    rw [List.getElem?_set_ne hit, ht, hbl]
  have htv : H[t] = Ob.tok bs.length 1 et := (List.getElem?_eq_some_iff.1 ht).2
  have hb' : bs.length ≤ 140737488355327 := by omega
  simp [hil, htl, hit, htv, hb', appA, hbl, Ne.symm hit]
  simp [RetK, Hp.cut_set, cut_self hcl, hil, htl, byteRows]
  rw [List.set_comm _ _ hit, List.set_comm _ _ hit, List.set_set]

end Go.Zam

namespace Go.Zam
set_option linter.all false
set_option maxRecDepth 100000
set_option maxHeartbeats 1000000

def irDigit : IFn :=
 { nt := 9, res := [.t 2], body := (
  .seq (.ops [
    ⟨(some 2), none, .mv (.c (.bool false))⟩] false)
  (.seq (.ops [
    ⟨(some 3), none, .mv (.t 0)⟩,
    ⟨(some 4), none, .bin .geq (.t 3) (.c (.int .u8 48))⟩,
    ⟨(some 5), none, .mv (.t 4)⟩,
    ⟨(some 6), (some (5, true)), .mv (.t 0)⟩,
    ⟨(some 7), (some (5, true)), .bin .leq (.t 6) (.c (.int .u8 57))⟩,
    ⟨(some 8), none, .pick (.t 5) (.t 7) (.c (.bool false))⟩,
    ⟨(some 2), none, .mv (.t 8)⟩] false)
  (.ret))) }

def irLetter : IFn :=
 { nt := 21, res := [.t 2], body := (
  .seq (.ops [
    ⟨(some 2), none, .mv (.c (.bool false))⟩] false)
  (.seq (.ops [
    ⟨(some 3), none, .mv (.t 0)⟩,
    ⟨(some 4), none, .bin .geq (.t 3) (.c (.int .u8 97))⟩,
    ⟨(some 5), none, .mv (.t 4)⟩,
    ⟨(some 6), (some (5, true)), .mv (.t 0)⟩,
    ⟨(some 7), (some (5, true)), .bin .leq (.t 6) (.c (.int .u8 122))⟩,
    ⟨(some 8), none, .pick (.t 5) (.t 7) (.c (.bool false))⟩,
    ⟨(some 9), none, .mv (.t 8)⟩,
    ⟨(some 10), (some (9, false)), .mv (.t 0)⟩,
    ⟨(some 11), (some (9, false)), .bin .geq (.t 10) (.c (.int .u8 65))⟩,
    ⟨(some 12), (some (9, false)), .mv (.t 11)⟩,
    ⟨(some 13), (some (12, true)), .mv (.t 0)⟩,
    ⟨(some 14), (some (12, true)), .bin .leq (.t 13) (.c (.int .u8 90))⟩,
    ⟨(some 15), (some (9, false)), .pick (.t 12) (.t 14) (.c (.bool false))⟩,
    ⟨(some 16), none, .pick (.t 9) (.c (.bool true)) (.t 15)⟩,
    ⟨(some 17), none, .mv (.t 16)⟩,
    ⟨(some 18), (some (17, false)), .mv (.t 0)⟩,
    ⟨(some 19), (some (17, false)), .bin .eql (.t 18) (.c (.int .u8 95))⟩,
    ⟨(some 20), none, .pick (.t 17) (.c (.bool true)) (.t 19)⟩,
    ⟨(some 2), none, .mv (.t 20)⟩] false)
  (.ret))) }

def digitB (b : UInt8) : Bool := decide ((48 : Int) ≤ b.toNat) && decide ((b.toNat : Int) ≤ 57)
def letterB (b : UInt8) : Bool := (decide ((97 : Int) ≤ b.toNat) && decide ((b.toNat : Int) ≤ 122)) || (decide ((65 : Int) ≤ b.toNat) && decide ((b.toNat : Int) ≤ 90)) || decide ((b.toNat : Int) = 95)
def keysL : List (List UInt8) := [[117, 115, 101], [100, 101, 102], [108, 101, 116], [105, 102], [101, 108, 115, 101], [119, 104, 105, 108, 101], [112, 114, 105, 110, 116], [114, 101, 116, 117, 114, 110], [102, 110], [105, 110, 112, 117, 116], [105, 110, 116], [115, 116, 114], [100, 121, 110]]
section
variable {P : Program}

theorem digit_acall {f : FuncId} {fn : Func} (hf : P.funcs[f]? = some fn) (hcf : compF P [] fn = some irDigit) (b : UInt8) (H : Hp) : ACall P f [.d (.int .u8 b.toNat)] H (fun r H' => r = .d (.bool (digitB b)) ∧ H' = H) := by
  refine acall_fin hf hcf (by simp [irDigit]) fun hcl _ => ?_
  simp [irDigit]
  refine GdK_split (by simp) (fun h => ?_) (fun h => ?_)
  · simp
    simp at h
    simp [RetK, cut_self hcl, digitB, h]
  · simp
    simp at h
    simp [RetK, cut_self hcl, digitB]
    omega

theorem letter_acall {f : FuncId} {fn : Func} (hf : P.funcs[f]? = some fn) (hcf : compF P [] fn = some irLetter) (b : UInt8) (H : Hp) : ACall P f [.d (.int .u8 b.toNat)] H (fun r H' => r = .d (.bool (letterB b)) ∧ H' = H) := by
  refine acall_fin hf hcf (by simp [irLetter]) fun hcl _ => ?_
  simp [irLetter]
  generalize ha : decide ((97 : Int) ≤ b.toNat) = a
  generalize hb : decide ((b.toNat : Int) ≤ 122) = c
  generalize hd : decide ((65 : Int) ≤ b.toNat) = d
  generalize he : decide ((b.toNat : Int) ≤ 90) = e
  have hl : letterB b = (a && c || d && e || decide ((b.toNat : Int) = 95)) := by simp only [letterB, ha, hb, hd, he]
  cases a <;> cases c <;> cases d <;> cases e <;> simp [ha, hb, hd, he] <;> simp [RetK, cut_self hcl, hl]

end
end Go.Zam

namespace Go.Zam
set_option linter.all false
set_option maxRecDepth 100000
set_option maxHeartbeats 1000000

def encStr (x : List UInt8) : List D := [.str x]

section
variable {P : Program} {bt : Nat}

end
end Go.Zam

namespace Go.Zam
set_option linter.all false
set_option maxRecDepth 100000

def irTkLex (c1 c2 c3 t1 t2 : Nat) : IFn :=
 { nt := 52, res := [.t 2, .t 3, .t 4], body := (
  .seq (.ops [
    ⟨(some 2), none, .mv (.c (.sl true 4 []))⟩,
    ⟨(some 3), none, .mv (.c (.int .i64 0))⟩,
    ⟨(some 4), none, .mv (.c (.int .i64 0))⟩] false)
  (.seq (.seq (.ops [
     ⟨(some 12), none, .mv (.t 0)⟩,
     ⟨(some 13), none, .lenS (.t 12)⟩,
     ⟨(some 14), none, .bin .gtr (.t 13) (.c (.int .i64 16384))⟩] false)
   (.cond (.t 14) (.seq (.ops [
      ⟨(some 2), none, .mv (.c (.sl true 4 []))⟩,
      ⟨(some 3), none, .mv (.c (.int .i64 5))⟩,
      ⟨(some 4), none, .mv (.c (.int .i64 16384))⟩] false)
    (.ret))
   (.skip)))
  (.seq (.seq (.ops [
     ⟨(some 15), none, .mv (.t 0)⟩,
     ⟨(some 16), none, .call c1 [(.t 15)]⟩,
     ⟨(some 5), none, .mv (.t 16)⟩] false)
   (.seq (.ops [
     ⟨(some 17), none, .mv (.t 5)⟩,
     ⟨(some 18), none, .bin .geq (.t 17) (.c (.int .i64 0))⟩] false)
   (.cond (.t 18) (.seq (.ops [
      ⟨(some 19), none, .mv (.t 5)⟩,
      ⟨(some 2), none, .mv (.c (.sl true 4 []))⟩,
      ⟨(some 3), none, .mv (.c (.int .i64 20))⟩,
      ⟨(some 4), none, .mv (.t 19)⟩] false)
    (.ret))
   (.skip))))
  (.seq (.ops [
    ⟨(some 20), none, .mv (.t 0)⟩,
    ⟨(some 21), none, .build [(.str []), (.int .i64 0)] [(0, 1, (.t 20))]⟩,
    ⟨(some 22), none, .box t1 2 (.t 21)⟩,
    ⟨(some 6), none, .mv (.t 22)⟩] false)
  (.seq (.ops [
    ⟨(some 7), none, .nilT 4 t2⟩] false)
  (.blk 0 (.loop (.blk 1 (.seq (.ops [
       ⟨(some 23), none, .mv (.t 6)⟩,
       ⟨(some 24), none, .call c2 [(.t 23)]⟩,
       ⟨(some 8), none, .mv (.t 24)⟩] false)
     (.seq (.ops [
       ⟨(some 25), none, .mv (.t 6)⟩,
       ⟨(some 26), none, .nilCheck (.t 25)⟩,
       ⟨(some 27), none, .faddr 1 (.t 26)⟩,
       ⟨(some 28), none, .load 1 false (.t 27)⟩,
       ⟨(some 9), none, .mv (.t 28)⟩] false)
     (.seq (.ops [
       ⟨(some 30), none, .mv (.t 6)⟩,
       ⟨(some 31), none, .call c3 [(.t 30)]⟩,
       ⟨(some 29), none, .mv (.t 31)⟩,
       ⟨(some 32), none, .ext (.t 29) 0⟩,
       ⟨(some 33), none, .ext (.t 29) 1⟩,
       ⟨(some 10), none, .alloc t2 [(.int .i64 0), (.int .i64 0), (.str []), (.str [])]⟩,
       ⟨none, none, .store 4 (.t 10) (.t 32)⟩,
       ⟨(some 11), none, .mv (.t 33)⟩] false)
     (.seq (.seq (.ops [
        ⟨(some 34), none, .mv (.t 11)⟩,
        ⟨(some 35), none, .bin .neq (.t 34) (.c (.int .i64 0))⟩] false)
      (.cond (.t 35) (.seq (.ops [
         ⟨(some 36), none, .mv (.t 11)⟩,
         ⟨(some 37), none, .mv (.t 9)⟩,
         ⟨(some 2), none, .mv (.c (.sl true 4 []))⟩,
         ⟨(some 3), none, .mv (.t 36)⟩,
         ⟨(some 4), none, .mv (.t 37)⟩] false)
       (.ret))
      (.skip)))
     (.seq (.seq (.ops [
        ⟨(some 38), none, .mv (.t 7)⟩,
        ⟨(some 39), none, .lenL (.t 38)⟩,
        ⟨(some 40), none, .bin .geq (.t 39) (.c (.int .i64 4000))⟩] false)
      (.cond (.t 40) (.seq (.ops [
         ⟨(some 41), none, .mv (.t 9)⟩,
         ⟨(some 2), none, .mv (.c (.sl true 4 []))⟩,
         ⟨(some 3), none, .mv (.c (.int .i64 5))⟩,
         ⟨(some 4), none, .mv (.t 41)⟩] false)
       (.ret))
      (.skip)))
     (.seq (.ops [
       ⟨(some 42), none, .mv (.t 8)⟩,
       ⟨(some 43), none, .faddr 2 (.t 10)⟩,
       ⟨none, none, .store 1 (.t 43) (.t 42)⟩] false)
     (.seq (.ops [
       ⟨(some 44), none, .mv (.t 7)⟩,
       ⟨(some 45), none, .load 4 true (.t 10)⟩,
       ⟨(some 46), none, .bslice 4 [(.t 45)]⟩,
       ⟨(some 47), none, .app 4 48 t2 (.t 44) (.t 46)⟩,
       ⟨(some 7), none, .mv (.t 47)⟩] false)
     (.seq (.ops [
       ⟨(some 48), none, .faddr 0 (.t 10)⟩,
       ⟨(some 49), none, .load 1 false (.t 48)⟩,
       ⟨(some 50), none, .bin .eql (.t 49) (.c (.int .i64 0))⟩] false)
     (.cond (.t 50) (.seq (.ops [
        ⟨(some 51), none, .mv (.t 7)⟩,
        ⟨(some 2), none, .mv (.t 51)⟩,
        ⟨(some 3), none, .mv (.c (.int .i64 0))⟩,
        ⟨(some 4), none, .mv (.c (.int .i64 0))⟩] false)
      (.ret))
     (.skip)))))))))))))))))) }

def irTkIsKey (c1 c2 : Nat) : IFn :=
 { nt := 6, res := [.t 2], body := (
  .seq (.ops [
    ⟨(some 2), none, .mv (.c (.bool false))⟩] false)
  (.seq (.ops [
    ⟨(some 3), none, .call c1 []⟩,
    ⟨(some 4), none, .mv (.t 0)⟩,
    ⟨(some 5), none, .call c2 [(.t 3), (.t 4)]⟩,
    ⟨(some 2), none, .mv (.t 5)⟩] false)
  (.ret))) }

def irRnBad (c1 : Nat) : IFn :=
 { nt := 27, res := [.t 2], body := (
  .seq (.ops [
    ⟨(some 2), none, .mv (.c (.int .i64 0))⟩] false)
  (.seq (.seq (.ops [
     ⟨(some 3), none, .mv (.c (.int .i64 0))⟩] false)
   (.blk 0 (.loop (.seq (.seq (.ops [
        ⟨(some 6), none, .mv (.t 3)⟩,
        ⟨(some 7), none, .mv (.t 0)⟩,
        ⟨(some 8), none, .lenS (.t 7)⟩,
        ⟨(some 9), none, .bin .lss (.t 6) (.t 8)⟩] false)
      (.cond (.t 9) (.skip)
      (.exit 0)))
     (.blk 1 (.seq (.ops [
        ⟨(some 11), none, .mv (.t 0)⟩,
        ⟨(some 12), none, .mv (.t 3)⟩,
        ⟨(some 13), none, .sslice (.t 11) (some (.t 12)) none⟩,
        ⟨(some 14), none, .call c1 [(.t 13)]⟩,
        ⟨(some 10), none, .mv (.t 14)⟩,
        ⟨(some 15), none, .ext (.t 10) 0⟩,
        ⟨(some 16), none, .ext (.t 10) 1⟩,
        ⟨(some 4), none, .mv (.t 15)⟩,
        ⟨(some 5), none, .mv (.t 16)⟩] false)
      (.seq (.seq (.ops [
         ⟨(some 17), none, .mv (.t 4)⟩,
         ⟨(some 18), none, .bin .eql (.t 17) (.c (.int .i32 65533))⟩,
         ⟨(some 19), none, .mv (.t 18)⟩,
         ⟨(some 20), (some (19, true)), .mv (.t 5)⟩,
         ⟨(some 21), (some (19, true)), .bin .eql (.t 20) (.c (.int .i64 1))⟩,
         ⟨(some 22), none, .pick (.t 19) (.t 21) (.c (.bool false))⟩] false)
       (.cond (.t 22) (.seq (.ops [
          ⟨(some 23), none, .mv (.t 3)⟩,
          ⟨(some 2), none, .mv (.t 23)⟩] false)
        (.ret))
       (.skip)))
      (.ops [
       ⟨(some 24), none, .mv (.t 3)⟩,
       ⟨(some 25), none, .mv (.t 5)⟩,
       ⟨(some 26), none, .bin .add (.t 24) (.t 25)⟩,
       ⟨(some 3), none, .mv (.t 26)⟩] false))))))))
  (.seq (.ops [
    ⟨(some 2), none, .mv (.c (.int .i64 (-1)))⟩] false)
  (.ret)))) }

def irScLead (c1 c2 c3 c4 : Nat) : IFn :=
 { nt := 39, res := [.t 2], body := (
  .seq (.ops [
    ⟨(some 2), none, .mv (.c (.str []))⟩] false)
  (.seq (.ops [
    ⟨(some 4), none, .mv (.t 0)⟩,
    ⟨(some 5), none, .nilCheck (.t 4)⟩,
    ⟨(some 6), none, .faddr 1 (.t 5)⟩,
    ⟨(some 7), none, .load 1 false (.t 6)⟩,
    ⟨(some 3), none, .mv (.t 7)⟩] false)
  (.blk 0 (.loop (.blk 1 (.seq (.blk 2 (.loop (.seq (.seq (.ops [
           ⟨(some 8), none, .mv (.t 0)⟩,
           ⟨(some 9), none, .call c1 [(.t 8), (.c (.fn c2))]⟩] false)
         (.cond (.t 9) (.skip)
         (.exit 2)))
        (.blk 3 (.ops [
          ⟨(some 10), none, .mv (.t 0)⟩,
          ⟨(some 11), none, .nilCheck (.t 10)⟩,
          ⟨(some 12), none, .faddr 1 (.t 11)⟩,
          ⟨(some 13), none, .load 1 false (.t 12)⟩,
          ⟨(some 14), none, .bin .add (.t 13) (.c (.int .i64 1))⟩,
          ⟨(some 15), none, .nilCheck (.t 10)⟩,
          ⟨(some 16), none, .faddr 1 (.t 15)⟩,
          ⟨none, none, .store 1 (.t 16) (.t 14)⟩] false)))))
     (.seq (.seq (.ops [
        ⟨(some 17), none, .mv (.t 0)⟩,
        ⟨(some 18), none, .call c1 [(.t 17), (.c (.fn c3))]⟩,
        ⟨(some 19), none, .un .not (.t 18)⟩] false)
      (.cond (.t 19) (.seq (.ops [
         ⟨(some 20), none, .mv (.t 0)⟩,
         ⟨(some 21), none, .nilCheck (.t 20)⟩,
         ⟨(some 22), none, .faddr 0 (.t 21)⟩,
         ⟨(some 23), none, .load 1 false (.t 22)⟩,
         ⟨(some 24), none, .mv (.t 3)⟩,
         ⟨(some 25), none, .mv (.t 0)⟩,
         ⟨(some 26), none, .nilCheck (.t 25)⟩,
         ⟨(some 27), none, .faddr 1 (.t 26)⟩,
         ⟨(some 28), none, .load 1 false (.t 27)⟩,
         ⟨(some 29), none, .sslice (.t 23) (some (.t 24)) (some (.t 28))⟩,
         ⟨(some 2), none, .mv (.t 29)⟩] true)
       (.ret))
      (.skip)))
     (.blk 4 (.loop (.seq (.seq (.ops [
          ⟨(some 30), none, .mv (.t 0)⟩,
          ⟨(some 31), none, .call c1 [(.t 30), (.c (.fn c4))]⟩] false)
        (.cond (.t 31) (.skip)
        (.exit 4)))
       (.blk 5 (.ops [
         ⟨(some 32), none, .mv (.t 0)⟩,
         ⟨(some 33), none, .nilCheck (.t 32)⟩,
         ⟨(some 34), none, .faddr 1 (.t 33)⟩,
         ⟨(some 35), none, .load 1 false (.t 34)⟩,
         ⟨(some 36), none, .bin .add (.t 35) (.c (.int .i64 1))⟩,
         ⟨(some 37), none, .nilCheck (.t 32)⟩,
         ⟨(some 38), none, .faddr 1 (.t 37)⟩,
         ⟨none, none, .store 1 (.t 38) (.t 36)⟩] false)))))))))))) }

def irScNext (c1 c2 c3 c4 c5 c6 c7 c8 t1 : Nat) : IFn :=
 { nt := 77, res := [.cell 2 4 true, .t 3], body := (
  .seq (.ops [
    ⟨(some 2), none, .alloc t1 [(.int .i64 0), (.int .i64 0), (.str []), (.str [])]⟩,
    ⟨(some 3), none, .mv (.c (.int .i64 0))⟩] false)
  (.seq (.ops [
    ⟨(some 4), none, .mv (.t 0)⟩,
    ⟨(some 5), none, .nilCheck (.t 4)⟩,
    ⟨(some 6), none, .faddr 1 (.t 5)⟩,
    ⟨(some 7), none, .load 1 false (.t 6)⟩,
    ⟨(some 8), none, .faddr 1 (.t 2)⟩,
    ⟨none, none, .store 1 (.t 8) (.t 7)⟩] false)
  (.seq (.blk 0 (.seq (.ops [
      ⟨(some 18), none, .mv (.t 0)⟩,
      ⟨(some 19), none, .nilCheck (.t 18)⟩,
      ⟨(some 20), none, .faddr 1 (.t 19)⟩,
      ⟨(some 21), none, .load 1 false (.t 20)⟩,
      ⟨(some 22), none, .mv (.t 0)⟩,
      ⟨(some 23), none, .nilCheck (.t 22)⟩,
      ⟨(some 24), none, .faddr 0 (.t 23)⟩,
      ⟨(some 25), none, .load 1 false (.t 24)⟩,
      ⟨(some 26), none, .lenS (.t 25)⟩,
      ⟨(some 27), none, .bin .eql (.t 21) (.t 26)⟩,
      ⟨(some 17), none, .mv (.t 27)⟩] true)
    (.cond (.t 17) (.seq (.ops [
       ⟨(some 28), none, .load 4 true (.t 2)⟩,
       ⟨none, none, .store 4 (.t 2) (.t 28)⟩,
       ⟨(some 3), none, .mv (.c (.int .i64 0))⟩] false)
     (.ret))
    (.seq (.ops [
       ⟨(some 30), none, .mv (.t 0)⟩,
       ⟨(some 31), none, .call c1 [(.t 30), (.c (.fn c2))]⟩,
       ⟨(some 29), none, .mv (.t 31)⟩] false)
     (.cond (.t 29) (.seq (.ops [
        ⟨(some 32), none, .mv (.t 0)⟩,
        ⟨(some 33), none, .call c3 [(.t 32)]⟩,
        ⟨(some 34), none, .faddr 0 (.t 2)⟩,
        ⟨none, none, .store 1 (.t 34) (.c (.int .i64 1))⟩,
        ⟨(some 35), none, .faddr 3 (.t 2)⟩,
        ⟨none, none, .store 1 (.t 35) (.t 33)⟩] false)
      (.seq (.ops [
        ⟨(some 36), none, .faddr 3 (.t 2)⟩,
        ⟨(some 37), none, .load 1 false (.t 36)⟩,
        ⟨(some 38), none, .call c4 [(.t 37)]⟩] false)
      (.cond (.t 38) (.ops [
        ⟨(some 39), none, .faddr 0 (.t 2)⟩,
        ⟨none, none, .store 1 (.t 39) (.c (.int .i64 2))⟩] false)
      (.seq (.ops [
         ⟨(some 40), none, .faddr 3 (.t 2)⟩,
         ⟨(some 41), none, .load 1 false (.t 40)⟩,
         ⟨(some 42), none, .lenS (.t 41)⟩,
         ⟨(some 43), none, .bin .gtr (.t 42) (.c (.int .i64 40))⟩] false)
       (.cond (.t 43) (.seq (.ops [
          ⟨(some 44), none, .load 4 true (.t 2)⟩,
          ⟨none, none, .store 4 (.t 2) (.t 44)⟩,
          ⟨(some 3), none, .mv (.c (.int .i64 26))⟩] false)
        (.ret))
       (.skip))))))
     (.seq (.ops [
        ⟨(some 46), none, .mv (.t 0)⟩,
        ⟨(some 47), none, .call c1 [(.t 46), (.c (.fn c5))]⟩,
        ⟨(some 45), none, .mv (.t 47)⟩] false)
      (.cond (.t 45) (.seq (.ops [
         ⟨(some 48), none, .mv (.t 0)⟩,
         ⟨(some 49), none, .call c3 [(.t 48)]⟩,
         ⟨(some 50), none, .faddr 0 (.t 2)⟩,
         ⟨none, none, .store 1 (.t 50) (.c (.int .i64 3))⟩,
         ⟨(some 51), none, .faddr 3 (.t 2)⟩,
         ⟨none, none, .store 1 (.t 51) (.t 49)⟩] false)
       (.seq (.ops [
         ⟨(some 52), none, .load 4 true (.t 2)⟩,
         ⟨(some 53), none, .faddr 3 (.t 2)⟩,
         ⟨(some 54), none, .load 1 false (.t 53)⟩,
         ⟨(some 55), none, .call c6 [(.t 54)]⟩,
         ⟨none, none, .store 4 (.t 2) (.t 52)⟩,
         ⟨(some 3), none, .mv (.t 55)⟩] true)
       (.ret)))
      (.seq (.ops [
         ⟨(some 57), none, .mv (.t 0)⟩,
         ⟨(some 58), none, .nilCheck (.t 57)⟩,
         ⟨(some 59), none, .faddr 0 (.t 58)⟩,
         ⟨(some 60), none, .load 1 false (.t 59)⟩,
         ⟨(some 61), none, .mv (.t 0)⟩,
         ⟨(some 62), none, .nilCheck (.t 61)⟩,
         ⟨(some 63), none, .faddr 1 (.t 62)⟩,
         ⟨(some 64), none, .load 1 false (.t 63)⟩,
         ⟨(some 65), none, .sidx (.t 60) (.t 64)⟩,
         ⟨(some 66), none, .bin .eql (.t 65) (.c (.int .u8 34))⟩,
         ⟨(some 56), none, .mv (.t 66)⟩] true)
       (.cond (.t 56) (.seq (.ops [
          ⟨(some 67), none, .faddr 0 (.t 2)⟩,
          ⟨none, none, .store 1 (.t 67) (.c (.int .i64 4))⟩] false)
        (.seq (.ops [
          ⟨(some 69), none, .mv (.t 0)⟩,
          ⟨(some 70), none, .call c7 [(.t 69)]⟩,
          ⟨(some 68), none, .mv (.t 70)⟩,
          ⟨(some 71), none, .ext (.t 68) 0⟩,
          ⟨(some 72), none, .ext (.t 68) 1⟩,
          ⟨(some 73), none, .faddr 3 (.t 2)⟩,
          ⟨none, none, .store 1 (.t 73) (.t 71)⟩,
          ⟨(some 3), none, .mv (.t 72)⟩] false)
        (.seq (.ops [
          ⟨(some 74), none, .load 4 true (.t 2)⟩,
          ⟨(some 75), none, .mv (.t 3)⟩,
          ⟨none, none, .store 4 (.t 2) (.t 74)⟩,
          ⟨(some 3), none, .mv (.t 75)⟩] false)
        (.ret))))
       (.seq (.ops [
          ⟨(some 9), none, .mv (.t 0)⟩,
          ⟨(some 10), none, .call c8 [(.t 9)]⟩,
          ⟨(some 11), none, .faddr 0 (.t 2)⟩,
          ⟨none, none, .store 1 (.t 11) (.c (.int .i64 5))⟩,
          ⟨(some 12), none, .faddr 3 (.t 2)⟩,
          ⟨none, none, .store 1 (.t 12) (.t 10)⟩] false)
        (.seq (.ops [
          ⟨(some 13), none, .faddr 3 (.t 2)⟩,
          ⟨(some 14), none, .load 1 false (.t 13)⟩,
          ⟨(some 15), none, .bin .eql (.t 14) (.c (.str []))⟩] false)
        (.cond (.t 15) (.seq (.ops [
           ⟨(some 16), none, .load 4 true (.t 2)⟩,
           ⟨none, none, .store 4 (.t 2) (.t 16)⟩,
           ⟨(some 3), none, .mv (.c (.int .i64 21))⟩] false)
         (.ret))
        (.skip)))))))))))))
  (.seq (.ops [
    ⟨(some 76), none, .load 4 true (.t 2)⟩,
    ⟨none, none, .store 4 (.t 2) (.t 76)⟩,
    ⟨(some 3), none, .mv (.c (.int .i64 0))⟩] false)
  (.ret))))) }

def irSlHas (c1 : Nat) : IFn :=
 { nt := 9, res := [.t 4], body := (
  .seq (.ops [
    ⟨(some 4), none, .mv (.c (.bool false))⟩] false)
  (.seq (.ops [
    ⟨(some 5), none, .mv (.t 0)⟩,
    ⟨(some 6), none, .mv (.t 1)⟩,
    ⟨(some 7), none, .call c1 [(.t 5), (.t 6)]⟩,
    ⟨(some 8), none, .bin .geq (.t 7) (.c (.int .i64 0))⟩,
    ⟨(some 4), none, .mv (.t 8)⟩] false)
  (.ret))) }

def irSlIdx : IFn :=
 { nt := 19, res := [.t 4], body := (
  .seq (.ops [
    ⟨(some 4), none, .mv (.c (.int .i64 0))⟩] false)
  (.seq (.seq (.ops [
     ⟨(some 6), none, .mv (.t 0)⟩,
     ⟨(some 7), none, .lenL (.t 6)⟩,
     ⟨(some 8), none, .mv (.c (.int .i64 0))⟩] false)
   (.blk 0 (.loop (.seq (.ops [
       ⟨(some 9), none, .bin .lss (.t 8) (.t 7)⟩] false)
     (.seq (.cond (.t 9) (.skip)
      (.exit 0))
     (.seq (.blk 1 (.seq (.ops [
         ⟨(some 10), none, .mv (.t 8)⟩,
         ⟨(some 5), none, .mv (.t 10)⟩] false)
       (.seq (.ops [
         ⟨(some 11), none, .mv (.t 1)⟩,
         ⟨(some 12), none, .mv (.t 0)⟩,
         ⟨(some 13), none, .mv (.t 5)⟩,
         ⟨(some 14), none, .iaddr 1 (.t 12) (.t 13)⟩,
         ⟨(some 15), none, .load 1 false (.t 14)⟩,
         ⟨(some 16), none, .bin .eql (.t 11) (.t 15)⟩] false)
       (.cond (.t 16) (.seq (.ops [
          ⟨(some 17), none, .mv (.t 5)⟩,
          ⟨(some 4), none, .mv (.t 17)⟩] false)
        (.ret))
       (.skip)))))
     (.ops [
      ⟨(some 18), none, .bin .add (.t 8) (.c (.int .i64 1))⟩,
      ⟨(some 8), none, .mv (.t 18)⟩] false)))))))
  (.seq (.ops [
    ⟨(some 4), none, .mv (.c (.int .i64 (-1)))⟩] false)
  (.ret)))) }

def irTkKeys : IFn :=
 { nt := 2, res := [.t 0], body := (
  .seq (.ops [
    ⟨(some 0), none, .mv (.c (.sl true 1 []))⟩] false)
  (.seq (.ops [
    ⟨(some 1), none, .bslice 1 [(.c (.str [100, 101, 102])), (.c (.str [100, 121, 110])), (.c (.str [101, 108, 115, 101])), (.c (.str [102, 110])), (.c (.str [105, 102])), (.c (.str [105, 110, 112, 117, 116])), (.c (.str [105, 110, 116])), (.c (.str [108, 101, 116])), (.c (.str [112, 114, 105, 110, 116])), (.c (.str [114, 101, 116, 117, 114, 110])), (.c (.str [115, 116, 114])), (.c (.str [117, 115, 101])), (.c (.str [119, 104, 105, 108, 101]))]⟩,
    ⟨(some 0), none, .mv (.t 1)⟩] false)
  (.ret))) }

def irScMore : IFn :=
 { nt := 28, res := [.t 4], body := (
  .seq (.ops [
    ⟨(some 4), none, .mv (.c (.bool false))⟩] false)
  (.seq (.ops [
    ⟨(some 5), none, .mv (.t 0)⟩,
    ⟨(some 6), none, .nilCheck (.t 5)⟩,
    ⟨(some 7), none, .faddr 1 (.t 6)⟩,
    ⟨(some 8), none, .load 1 false (.t 7)⟩,
    ⟨(some 9), none, .mv (.t 0)⟩,
    ⟨(some 10), none, .nilCheck (.t 9)⟩,
    ⟨(some 11), none, .faddr 0 (.t 10)⟩,
    ⟨(some 12), none, .load 1 false (.t 11)⟩,
    ⟨(some 13), none, .lenS (.t 12)⟩,
    ⟨(some 14), none, .bin .lss (.t 8) (.t 13)⟩,
    ⟨(some 15), none, .mv (.t 14)⟩,
    ⟨(some 16), (some (15, true)), .mv (.t 1)⟩,
    ⟨(some 17), (some (15, true)), .mv (.t 0)⟩,
    ⟨(some 18), (some (15, true)), .nilCheck (.t 17)⟩,
    ⟨(some 19), (some (15, true)), .faddr 0 (.t 18)⟩,
    ⟨(some 20), (some (15, true)), .load 1 false (.t 19)⟩,
    ⟨(some 21), (some (15, true)), .mv (.t 0)⟩,
    ⟨(some 22), (some (15, true)), .nilCheck (.t 21)⟩,
    ⟨(some 23), (some (15, true)), .faddr 1 (.t 22)⟩,
    ⟨(some 24), (some (15, true)), .load 1 false (.t 23)⟩,
    ⟨(some 25), (some (15, true)), .sidx (.t 20) (.t 24)⟩,
    ⟨(some 26), (some (15, true)), .callv (.t 16) [(.t 25)]⟩,
    ⟨(some 27), none, .pick (.t 15) (.t 26) (.c (.bool false))⟩,
    ⟨(some 4), none, .mv (.t 27)⟩] true)
  (.ret))) }

def irTkBlank : IFn :=
 { nt := 17, res := [.t 2], body := (
  .seq (.ops [
    ⟨(some 2), none, .mv (.c (.bool false))⟩] false)
  (.seq (.ops [
    ⟨(some 3), none, .mv (.t 0)⟩,
    ⟨(some 4), none, .bin .eql (.t 3) (.c (.int .u8 32))⟩,
    ⟨(some 5), none, .mv (.t 4)⟩,
    ⟨(some 6), (some (5, false)), .mv (.t 0)⟩,
    ⟨(some 7), (some (5, false)), .bin .eql (.t 6) (.c (.int .u8 9))⟩,
    ⟨(some 8), none, .pick (.t 5) (.c (.bool true)) (.t 7)⟩,
    ⟨(some 9), none, .mv (.t 8)⟩,
    ⟨(some 10), (some (9, false)), .mv (.t 0)⟩,
    ⟨(some 11), (some (9, false)), .bin .eql (.t 10) (.c (.int .u8 10))⟩,
    ⟨(some 12), none, .pick (.t 9) (.c (.bool true)) (.t 11)⟩,
    ⟨(some 13), none, .mv (.t 12)⟩,
    ⟨(some 14), (some (13, false)), .mv (.t 0)⟩,
    ⟨(some 15), (some (13, false)), .bin .eql (.t 14) (.c (.int .u8 13))⟩,
    ⟨(some 16), none, .pick (.t 13) (.c (.bool true)) (.t 15)⟩,
    ⟨(some 2), none, .mv (.t 16)⟩] false)
  (.ret))) }

def irScHash : IFn :=
 { nt := 5, res := [.t 2], body := (
  .seq (.ops [
    ⟨(some 2), none, .mv (.c (.bool false))⟩] false)
  (.seq (.ops [
    ⟨(some 3), none, .mv (.t 0)⟩,
    ⟨(some 4), none, .bin .eql (.t 3) (.c (.int .u8 35))⟩,
    ⟨(some 2), none, .mv (.t 4)⟩] false)
  (.ret))) }

def irScNoNl : IFn :=
 { nt := 5, res := [.t 2], body := (
  .seq (.ops [
    ⟨(some 2), none, .mv (.c (.bool false))⟩] false)
  (.seq (.ops [
    ⟨(some 3), none, .mv (.t 0)⟩,
    ⟨(some 4), none, .bin .neq (.t 3) (.c (.int .u8 10))⟩,
    ⟨(some 2), none, .mv (.t 4)⟩] false)
  (.ret))) }

def irScWord (c1 c2 : Nat) : IFn :=
 { nt := 27, res := [.t 2], body := (
  .seq (.ops [
    ⟨(some 2), none, .mv (.c (.str []))⟩] false)
  (.seq (.ops [
    ⟨(some 4), none, .mv (.t 0)⟩,
    ⟨(some 5), none, .nilCheck (.t 4)⟩,
    ⟨(some 6), none, .faddr 1 (.t 5)⟩,
    ⟨(some 7), none, .load 1 false (.t 6)⟩,
    ⟨(some 3), none, .mv (.t 7)⟩] false)
  (.seq (.blk 0 (.loop (.seq (.seq (.ops [
        ⟨(some 8), none, .mv (.t 0)⟩,
        ⟨(some 9), none, .call c1 [(.t 8), (.c (.fn c2))]⟩] false)
      (.cond (.t 9) (.skip)
      (.exit 0)))
     (.blk 1 (.ops [
       ⟨(some 10), none, .mv (.t 0)⟩,
       ⟨(some 11), none, .nilCheck (.t 10)⟩,
       ⟨(some 12), none, .faddr 1 (.t 11)⟩,
       ⟨(some 13), none, .load 1 false (.t 12)⟩,
       ⟨(some 14), none, .bin .add (.t 13) (.c (.int .i64 1))⟩,
       ⟨(some 15), none, .nilCheck (.t 10)⟩,
       ⟨(some 16), none, .faddr 1 (.t 15)⟩,
       ⟨none, none, .store 1 (.t 16) (.t 14)⟩] false)))))
  (.seq (.ops [
    ⟨(some 17), none, .mv (.t 0)⟩,
    ⟨(some 18), none, .nilCheck (.t 17)⟩,
    ⟨(some 19), none, .faddr 0 (.t 18)⟩,
    ⟨(some 20), none, .load 1 false (.t 19)⟩,
    ⟨(some 21), none, .mv (.t 3)⟩,
    ⟨(some 22), none, .mv (.t 0)⟩,
    ⟨(some 23), none, .nilCheck (.t 22)⟩,
    ⟨(some 24), none, .faddr 1 (.t 23)⟩,
    ⟨(some 25), none, .load 1 false (.t 24)⟩,
    ⟨(some 26), none, .sslice (.t 20) (some (.t 21)) (some (.t 25))⟩,
    ⟨(some 2), none, .mv (.t 26)⟩] true)
  (.ret))))) }

def irScWordB (c1 c2 : Nat) : IFn :=
 { nt := 9, res := [.t 2], body := (
  .seq (.ops [
    ⟨(some 2), none, .mv (.c (.bool false))⟩] false)
  (.seq (.ops [
    ⟨(some 3), none, .mv (.t 0)⟩,
    ⟨(some 4), none, .call c1 [(.t 3)]⟩,
    ⟨(some 5), none, .mv (.t 4)⟩,
    ⟨(some 6), (some (5, false)), .mv (.t 0)⟩,
    ⟨(some 7), (some (5, false)), .call c2 [(.t 6)]⟩,
    ⟨(some 8), none, .pick (.t 5) (.c (.bool true)) (.t 7)⟩,
    ⟨(some 2), none, .mv (.t 8)⟩] false)
  (.ret))) }

def irScStr (c1 : Nat) : IFn :=
 { nt := 86, res := [.t 2, .t 3], body := (
  .seq (.ops [
    ⟨(some 2), none, .mv (.c (.str []))⟩,
    ⟨(some 3), none, .mv (.c (.int .i64 0))⟩] false)
  (.seq (.ops [
    ⟨(some 9), none, .mv (.t 0)⟩,
    ⟨(some 10), none, .nilCheck (.t 9)⟩,
    ⟨(some 11), none, .faddr 1 (.t 10)⟩,
    ⟨(some 12), none, .load 1 false (.t 11)⟩,
    ⟨(some 4), none, .mv (.t 12)⟩] false)
  (.seq (.seq (.ops [
     ⟨(some 13), none, .mv (.t 0)⟩,
     ⟨(some 14), none, .nilCheck (.t 13)⟩,
     ⟨(some 15), none, .faddr 1 (.t 14)⟩,
     ⟨(some 16), none, .load 1 false (.t 15)⟩,
     ⟨(some 17), none, .bin .add (.t 16) (.c (.int .i64 1))⟩,
     ⟨(some 18), none, .nilCheck (.t 13)⟩,
     ⟨(some 19), none, .faddr 1 (.t 18)⟩,
     ⟨none, none, .store 1 (.t 19) (.t 17)⟩] false)
   (.blk 0 (.loop (.seq (.seq (.ops [
        ⟨(some 20), none, .mv (.t 0)⟩,
        ⟨(some 21), none, .nilCheck (.t 20)⟩,
        ⟨(some 22), none, .faddr 1 (.t 21)⟩,
        ⟨(some 23), none, .load 1 false (.t 22)⟩,
        ⟨(some 24), none, .mv (.t 0)⟩,
        ⟨(some 25), none, .nilCheck (.t 24)⟩,
        ⟨(some 26), none, .faddr 0 (.t 25)⟩,
        ⟨(some 27), none, .load 1 false (.t 26)⟩,
        ⟨(some 28), none, .lenS (.t 27)⟩,
        ⟨(some 29), none, .bin .lss (.t 23) (.t 28)⟩] true)
      (.cond (.t 29) (.skip)
      (.exit 0)))
     (.seq (.blk 1 (.seq (.ops [
         ⟨(some 37), none, .mv (.t 0)⟩,
         ⟨(some 38), none, .nilCheck (.t 37)⟩,
         ⟨(some 39), none, .faddr 0 (.t 38)⟩,
         ⟨(some 40), none, .load 1 false (.t 39)⟩,
         ⟨(some 41), none, .mv (.t 0)⟩,
         ⟨(some 42), none, .nilCheck (.t 41)⟩,
         ⟨(some 43), none, .faddr 1 (.t 42)⟩,
         ⟨(some 44), none, .load 1 false (.t 43)⟩,
         ⟨(some 45), none, .sidx (.t 40) (.t 44)⟩,
         ⟨(some 5), none, .mv (.t 45)⟩] true)
       (.blk 2 (.seq (.ops [
          ⟨(some 47), none, .mv (.t 5)⟩,
          ⟨(some 48), none, .bin .eql (.t 47) (.c (.int .u8 34))⟩,
          ⟨(some 46), none, .mv (.t 48)⟩] false)
        (.cond (.t 46) (.seq (.ops [
           ⟨(some 49), none, .mv (.t 0)⟩,
           ⟨(some 50), none, .nilCheck (.t 49)⟩,
           ⟨(some 51), none, .faddr 1 (.t 50)⟩,
           ⟨(some 52), none, .load 1 false (.t 51)⟩,
           ⟨(some 53), none, .bin .add (.t 52) (.c (.int .i64 1))⟩,
           ⟨(some 54), none, .nilCheck (.t 49)⟩,
           ⟨(some 55), none, .faddr 1 (.t 54)⟩,
           ⟨none, none, .store 1 (.t 55) (.t 53)⟩] false)
         (.seq (.ops [
           ⟨(some 56), none, .mv (.t 0)⟩,
           ⟨(some 57), none, .nilCheck (.t 56)⟩,
           ⟨(some 58), none, .faddr 0 (.t 57)⟩,
           ⟨(some 59), none, .load 1 false (.t 58)⟩,
           ⟨(some 60), none, .mv (.t 4)⟩,
           ⟨(some 61), none, .mv (.t 0)⟩,
           ⟨(some 62), none, .nilCheck (.t 61)⟩,
           ⟨(some 63), none, .faddr 1 (.t 62)⟩,
           ⟨(some 64), none, .load 1 false (.t 63)⟩,
           ⟨(some 65), none, .sslice (.t 59) (some (.t 60)) (some (.t 64))⟩,
           ⟨(some 6), none, .mv (.t 65)⟩] true)
         (.seq (.ops [
           ⟨(some 67), none, .mv (.t 6)⟩,
           ⟨(some 68), none, .call c1 [(.t 67)]⟩,
           ⟨(some 66), none, .mv (.t 68)⟩,
           ⟨(some 69), none, .ext (.t 66) 0⟩,
           ⟨(some 70), none, .ext (.t 66) 1⟩,
           ⟨(some 7), none, .mv (.t 69)⟩,
           ⟨(some 8), none, .mv (.t 70)⟩] false)
         (.seq (.ops [
           ⟨(some 71), none, .mv (.t 6)⟩,
           ⟨(some 72), none, .mv (.t 8)⟩,
           ⟨(some 2), none, .mv (.t 71)⟩,
           ⟨(some 3), none, .mv (.t 72)⟩] false)
         (.ret)))))
        (.seq (.ops [
           ⟨(some 74), none, .mv (.t 5)⟩,
           ⟨(some 75), none, .bin .eql (.t 74) (.c (.int .u8 92))⟩,
           ⟨(some 73), none, .mv (.t 75)⟩] false)
         (.cond (.t 73) (.ops [
           ⟨(some 76), none, .mv (.t 0)⟩,
           ⟨(some 77), none, .nilCheck (.t 76)⟩,
           ⟨(some 78), none, .faddr 1 (.t 77)⟩,
           ⟨(some 79), none, .load 1 false (.t 78)⟩,
           ⟨(some 80), none, .bin .add (.t 79) (.c (.int .i64 1))⟩,
           ⟨(some 81), none, .nilCheck (.t 76)⟩,
           ⟨(some 82), none, .faddr 1 (.t 81)⟩,
           ⟨none, none, .store 1 (.t 82) (.t 80)⟩] false)
         (.seq (.ops [
            ⟨(some 84), none, .mv (.t 5)⟩,
            ⟨(some 85), none, .bin .eql (.t 84) (.c (.int .u8 10))⟩,
            ⟨(some 83), none, .mv (.t 85)⟩] false)
          (.cond (.t 83) (.seq (.ops [
             ⟨(some 2), none, .mv (.c (.str []))⟩,
             ⟨(some 3), none, .mv (.c (.int .i64 22))⟩] false)
           (.ret))
          (.skip))))))))))
     (.ops [
      ⟨(some 30), none, .mv (.t 0)⟩,
      ⟨(some 31), none, .nilCheck (.t 30)⟩,
      ⟨(some 32), none, .faddr 1 (.t 31)⟩,
      ⟨(some 33), none, .load 1 false (.t 32)⟩,
      ⟨(some 34), none, .bin .add (.t 33) (.c (.int .i64 1))⟩,
      ⟨(some 35), none, .nilCheck (.t 30)⟩,
      ⟨(some 36), none, .faddr 1 (.t 35)⟩,
      ⟨none, none, .store 1 (.t 36) (.t 34)⟩] false))))))
  (.seq (.ops [
    ⟨(some 2), none, .mv (.c (.str []))⟩,
    ⟨(some 3), none, .mv (.c (.int .i64 22))⟩] false)
  (.ret))))) }

def irScSign (c1 c2 : Nat) : IFn :=
 { nt := 33, res := [.t 2], body := (
  .seq (.ops [
    ⟨(some 2), none, .mv (.c (.str []))⟩] false)
  (.seq (.seq (.ops [
     ⟨(some 5), none, .call c1 []⟩,
     ⟨(some 6), none, .lenL (.t 5)⟩,
     ⟨(some 7), none, .mv (.c (.int .i64 0))⟩] false)
   (.blk 0 (.loop (.seq (.ops [
       ⟨(some 8), none, .bin .lss (.t 7) (.t 6)⟩] false)
     (.seq (.cond (.t 8) (.skip)
      (.exit 0))
     (.seq (.blk 1 (.seq (.ops [
         ⟨(some 9), none, .iaddr 1 (.t 5) (.t 7)⟩,
         ⟨(some 10), none, .load 1 false (.t 9)⟩,
         ⟨(some 4), none, .mv (.t 10)⟩] false)
       (.seq (.ops [
         ⟨(some 11), none, .mv (.t 0)⟩,
         ⟨(some 12), none, .nilCheck (.t 11)⟩,
         ⟨(some 13), none, .faddr 0 (.t 12)⟩,
         ⟨(some 14), none, .load 1 false (.t 13)⟩,
         ⟨(some 15), none, .mv (.t 0)⟩,
         ⟨(some 16), none, .nilCheck (.t 15)⟩,
         ⟨(some 17), none, .faddr 1 (.t 16)⟩,
         ⟨(some 18), none, .load 1 false (.t 17)⟩,
         ⟨(some 19), none, .sslice (.t 14) (some (.t 18)) none⟩,
         ⟨(some 20), none, .mv (.t 4)⟩,
         ⟨(some 21), none, .call c2 [(.t 19), (.t 20)]⟩] true)
       (.cond (.t 21) (.seq (.ops [
          ⟨(some 22), none, .mv (.t 0)⟩,
          ⟨(some 23), none, .nilCheck (.t 22)⟩,
          ⟨(some 24), none, .faddr 1 (.t 23)⟩,
          ⟨(some 25), none, .load 1 false (.t 24)⟩,
          ⟨(some 26), none, .mv (.t 4)⟩,
          ⟨(some 27), none, .lenS (.t 26)⟩,
          ⟨(some 28), none, .bin .add (.t 25) (.t 27)⟩,
          ⟨(some 29), none, .nilCheck (.t 22)⟩,
          ⟨(some 30), none, .faddr 1 (.t 29)⟩,
          ⟨none, none, .store 1 (.t 30) (.t 28)⟩] false)
        (.seq (.ops [
          ⟨(some 31), none, .mv (.t 4)⟩,
          ⟨(some 2), none, .mv (.t 31)⟩] false)
        (.ret)))
       (.skip)))))
     (.ops [
      ⟨(some 32), none, .bin .add (.t 7) (.c (.int .i64 1))⟩,
      ⟨(some 7), none, .mv (.t 32)⟩] false)))))))
  (.seq (.ops [
    ⟨(some 2), none, .mv (.c (.str []))⟩] false)
  (.ret)))) }

def irRnUnquote (c1 c2 c3 t1 t2 : Nat) : IFn :=
 { nt := 69, res := [.t 2, .t 3], body := (
  .seq (.ops [
    ⟨(some 2), none, .mv (.c (.str []))⟩,
    ⟨(some 3), none, .mv (.c (.int .i64 0))⟩] false)
  (.seq (.seq (.ops [
     ⟨(some 7), none, .mv (.t 0)⟩,
     ⟨(some 8), none, .lenS (.t 7)⟩,
     ⟨(some 9), none, .bin .lss (.t 8) (.c (.int .i64 2))⟩,
     ⟨(some 10), none, .mv (.t 9)⟩,
     ⟨(some 11), (some (10, false)), .mv (.t 0)⟩,
     ⟨(some 12), (some (10, false)), .sidx (.t 11) (.c (.int .i64 0))⟩,
     ⟨(some 13), (some (10, false)), .bin .neq (.t 12) (.c (.int .u8 34))⟩,
     ⟨(some 14), none, .pick (.t 10) (.c (.bool true)) (.t 13)⟩,
     ⟨(some 15), none, .mv (.t 14)⟩,
     ⟨(some 16), (some (15, false)), .mv (.t 0)⟩,
     ⟨(some 17), (some (15, false)), .mv (.t 0)⟩,
     ⟨(some 18), (some (15, false)), .lenS (.t 17)⟩,
     ⟨(some 19), (some (15, false)), .bin .sub (.t 18) (.c (.int .i64 1))⟩,
     ⟨(some 20), (some (15, false)), .sidx (.t 16) (.t 19)⟩,
     ⟨(some 21), (some (15, false)), .bin .neq (.t 20) (.c (.int .u8 34))⟩,
     ⟨(some 22), none, .pick (.t 15) (.c (.bool true)) (.t 21)⟩] false)
   (.cond (.t 22) (.seq (.ops [
      ⟨(some 2), none, .mv (.c (.str []))⟩,
      ⟨(some 3), none, .mv (.c (.int .i64 22))⟩] false)
    (.ret))
   (.skip)))
  (.seq (.ops [
    ⟨(some 4), none, .allocT t1 [.nilp, (.sl true 1 [])] 1 1 t2⟩] false)
  (.seq (.seq (.ops [
     ⟨(some 5), none, .mv (.c (.int .i64 1))⟩] false)
   (.blk 0 (.loop (.seq (.seq (.ops [
        ⟨(some 23), none, .mv (.t 5)⟩,
        ⟨(some 24), none, .mv (.t 0)⟩,
        ⟨(some 25), none, .lenS (.t 24)⟩,
        ⟨(some 26), none, .bin .sub (.t 25) (.c (.int .i64 1))⟩,
        ⟨(some 27), none, .bin .lss (.t 23) (.t 26)⟩] false)
      (.cond (.t 27) (.skip)
      (.exit 0)))
     (.seq (.blk 1 (.blk 2 (.seq (.ops [
          ⟨(some 35), none, .mv (.t 0)⟩,
          ⟨(some 36), none, .mv (.t 5)⟩,
          ⟨(some 37), none, .sidx (.t 35) (.t 36)⟩,
          ⟨(some 38), none, .bin .eql (.t 37) (.c (.int .u8 92))⟩,
          ⟨(some 34), none, .mv (.t 38)⟩] false)
        (.cond (.t 34) (.seq (.ops [
           ⟨(some 39), none, .mv (.t 5)⟩,
           ⟨(some 40), none, .bin .add (.t 39) (.c (.int .i64 1))⟩,
           ⟨(some 5), none, .mv (.t 40)⟩] false)
         (.seq (.ops [
           ⟨(some 41), none, .mv (.t 0)⟩,
           ⟨(some 42), none, .mv (.t 5)⟩,
           ⟨(some 43), none, .sidx (.t 41) (.t 42)⟩,
           ⟨(some 44), none, .call c1 [(.c (.str [110, 116, 34, 92])), (.t 43)]⟩,
           ⟨(some 6), none, .mv (.t 44)⟩] false)
         (.seq (.seq (.ops [
            ⟨(some 45), none, .mv (.t 6)⟩,
            ⟨(some 46), none, .bin .lss (.t 45) (.c (.int .i64 0))⟩,
            ⟨(some 47), none, .mv (.t 46)⟩,
            ⟨(some 48), (some (47, false)), .mv (.t 5)⟩,
            ⟨(some 49), (some (47, false)), .mv (.t 0)⟩,
            ⟨(some 50), (some (47, false)), .lenS (.t 49)⟩,
            ⟨(some 51), (some (47, false)), .bin .sub (.t 50) (.c (.int .i64 1))⟩,
            ⟨(some 52), (some (47, false)), .bin .eql (.t 48) (.t 51)⟩,
            ⟨(some 53), none, .pick (.t 47) (.c (.bool true)) (.t 52)⟩] false)
          (.cond (.t 53) (.seq (.ops [
             ⟨(some 2), none, .mv (.c (.str []))⟩,
             ⟨(some 3), none, .mv (.c (.int .i64 22))⟩] false)
           (.ret))
          (.skip)))
         (.ops [
          ⟨(some 54), none, .mv (.t 6)⟩,
          ⟨(some 55), none, .sidx (.c (.str [10, 9, 34, 92])) (.t 54)⟩,
          ⟨(some 56), none, .call c2 [(.t 4), (.t 55)]⟩] false))))
        (.seq (.ops [
           ⟨(some 58), none, .mv (.t 0)⟩,
           ⟨(some 59), none, .mv (.t 5)⟩,
           ⟨(some 60), none, .sidx (.t 58) (.t 59)⟩,
           ⟨(some 61), none, .bin .lss (.t 60) (.c (.int .u8 32))⟩,
           ⟨(some 62), none, .mv (.t 61)⟩,
           ⟨(some 63), (some (62, false)), .mv (.t 0)⟩,
           ⟨(some 64), (some (62, false)), .mv (.t 5)⟩,
           ⟨(some 65), (some (62, false)), .sidx (.t 63) (.t 64)⟩,
           ⟨(some 66), (some (62, false)), .bin .eql (.t 65) (.c (.int .u8 34))⟩,
           ⟨(some 67), none, .pick (.t 62) (.c (.bool true)) (.t 66)⟩,
           ⟨(some 57), none, .mv (.t 67)⟩] false)
         (.cond (.t 57) (.seq (.ops [
            ⟨(some 2), none, .mv (.c (.str []))⟩,
            ⟨(some 3), none, .mv (.c (.int .i64 22))⟩] false)
          (.ret))
         (.ops [
           ⟨(some 30), none, .mv (.t 0)⟩,
           ⟨(some 31), none, .mv (.t 5)⟩,
           ⟨(some 32), none, .sidx (.t 30) (.t 31)⟩,
           ⟨(some 33), none, .call c2 [(.t 4), (.t 32)]⟩] false)))))))
     (.ops [
      ⟨(some 28), none, .mv (.t 5)⟩,
      ⟨(some 29), none, .bin .add (.t 28) (.c (.int .i64 1))⟩,
      ⟨(some 5), none, .mv (.t 29)⟩] false))))))
  (.seq (.ops [
    ⟨(some 68), none, .call c3 [(.t 4)]⟩,
    ⟨(some 2), none, .mv (.t 68)⟩,
    ⟨(some 3), none, .mv (.c (.int .i64 0))⟩] false)
  (.ret)))))) }

def irTkSigns : IFn :=
 { nt := 2, res := [.t 0], body := (
  .seq (.ops [
    ⟨(some 0), none, .mv (.c (.sl true 1 []))⟩] false)
  (.seq (.ops [
    ⟨(some 1), none, .bslice 1 [(.c (.str [61, 61])), (.c (.str [40])), (.c (.str [41])), (.c (.str [123])), (.c (.str [125])), (.c (.str [44])), (.c (.str [59])), (.c (.str [58])), (.c (.str [46])), (.c (.str [61])), (.c (.str [43])), (.c (.str [45])), (.c (.str [42])), (.c (.str [60]))]⟩,
    ⟨(some 0), none, .mv (.t 1)⟩] false)
  (.ret))) }

end Go.Zam

namespace Go.Zam
set_option linter.all false
set_option maxRecDepth 100000
set_option maxHeartbeats 1000000

abbrev Bs := List UInt8
/-- the program's function has this form -/
def Has (P : Program) (f : FuncId) (i : IFn) : Prop := ∃ fn, P.funcs[f]? = some fn ∧ compF P [] fn = some i
/-- the same, with tokens -/
def HasT (P : Program) (tk : List Nat) (f : FuncId) (i : IFn) : Prop := ∃ fn, P.funcs[f]? = some fn ∧ compF P tk fn = some i
/-- a function that asks a byte -/
def ByteOk (P : Program) (f : FuncId) (p : UInt8 → Bool) : Prop := ∀ (b : UInt8) H, ACall P f [.d (.int .u8 b.toNat)] H (fun r H' => r = .d (.bool (p b)) ∧ H' = H)

theorem least_of {p : Nat → Prop} : ∀ n, p n → ∃ d, p d ∧ ∀ e, p e → d ≤ e := by
  intro n
  induction n using Nat.strongRecOn with
  | ind n ih =>
  intro h
  by_cases hm : ∃ m, m < n ∧ p m
  · obtain ⟨m, hm, hp⟩ := hm
    exact ih m hm hp
  · exact ⟨n, h, fun e he => Nat.le_of_not_lt fun hl => hm ⟨e, hl, he⟩⟩

/-- what a round hands on, where something falls -/
def NextM (J : Nat → Fr → Hp → Prop) (_ : Tag J) (m d : Nat) (fr : Fr) (H : Hp) : Prop := ∃ k d', m ≤ k ∧ k ≤ H.length ∧ d' < d ∧ J d' (fr.clr k) (Hp.cut k H)

@[congr] theorem NextM_congr {J : Nat → Fr → Hp → Prop} {t : Tag J} {m d : Nat} {fr fr' : Fr} {H H' : Hp} (h : fr = fr') (h2 : H = H') : NextM J t m d fr H = NextM J t m d fr' H' := by rw [h, h2]

theorem NextM_of {J : Nat → Fr → Hp → Prop} {t : Tag J} {m d : Nat} {fr : Fr} {H : Hp} (k d' : Nat) (hk : m ≤ k) (h : k ≤ H.length) (hd : d' < d) (hj : J d' (fr.clr k) (Hp.cut k H)) : NextM J t m d fr H := ⟨k, d', hk, h, hd, hj⟩

/-- A LOOP IN WHICH SOMETHING FALLS -/
theorem LoopM_of {P : Program} {n0 : Nat} {Q : Ex → Fr → Hp → Prop} {fr : Fr} {H : Hp} {c : C} {t : Tag (Q, c)} (m : Nat) (J : Nat → Fr → Hp → Prop) (start : Nat) (h1 : n0 ≤ m ∧ m ≤ H.length) (h2 : J start (fr.clr m) (Hp.cut m H))
    (h3 : ∀ d fr H, J d fr H → AWp P n0 c (Ex.then (NextM J .mk m d) Q) fr H) : LoopK Q c t P n0 fr H := by
  have key : ∀ fr H, (∃ d, J d fr H) → ∃ d, J d fr H ∧ ∀ e, J e fr H → d ≤ e := fun fr H ⟨d, h⟩ => least_of (p := fun d => J d fr H) d h
  let mu : Fr → Hp → Nat := fun fr H => @dite _ (∃ d, J d fr H) (Classical.propDecidable _) (fun h => (key fr H h).choose) (fun _ => 0)
  have hmu : ∀ fr H (h : ∃ d, J d fr H), J (mu fr H) fr H ∧ ∀ e, J e fr H → mu fr H ≤ e := fun fr H h => by
    have : mu fr H = (key fr H h).choose := dif_pos h
    rw [this]
    exact (key fr H h).choose_spec
  refine LoopK_of m (fun fr H => ∃ d, J d fr H) mu h1 ⟨start, h2⟩ ?_
  rintro fr H h
  obtain ⟨g1, g2⟩ := hmu fr H h
  refine AWp.mono _ ?_ _ _ (h3 _ _ _ g1)
  intro e fr' H' hn
  cases e with
  | normal =>
    obtain ⟨k, d', k1, k2, k3, k4⟩ := hn
    refine AgainK_ofk (t := .mk) k k1 k2 ⟨d', k4⟩ ?_
    exact Nat.lt_of_le_of_lt ((hmu _ _ ⟨d', k4⟩).2 d' k4) k3
  | exit j => exact hn
  | ret => exact hn

section
variable {P : Program}

def blankB (b : UInt8) : Bool := decide ((b.toNat : Int) = 32) || decide ((b.toNat : Int) = 9) || decide ((b.toNat : Int) = 10) || decide ((b.toNat : Int) = 13)
def hashB (b : UInt8) : Bool := decide ((b.toNat : Int) = 35)
def noNlB (b : UInt8) : Bool := !decide ((b.toNat : Int) = 10)
def wordB (b : UInt8) : Bool := letterB b || digitB b

theorem Has.letter {f} (h : Has P f irLetter) : ByteOk P f letterB := fun b H => letter_acall h.choose_spec.1 h.choose_spec.2 b H
theorem Has.digit {f} (h : Has P f irDigit) : ByteOk P f digitB := fun b H => digit_acall h.choose_spec.1 h.choose_spec.2 b H

theorem Has.blank {f} (h : Has P f irTkBlank) : ByteOk P f blankB := fun b H => by
  obtain ⟨fn, hf, hcf⟩ := h
  refine acall_fin hf hcf (by simp [irTkBlank]) fun hcl _ => ?_
  simp [irTkBlank]
  generalize ha : decide ((b.toNat : Int) = 32) = a
  generalize hb : decide ((b.toNat : Int) = 9) = c
  generalize hd : decide ((b.toNat : Int) = 10) = d
  generalize he : decide ((b.toNat : Int) = 13) = e
  have hl : blankB b = (a || c || d || e) := by simp only [blankB, ha, hb, hd, he]
  cases a <;> cases c <;> cases d <;> cases e <;> simp [ha, hb, hd, he] <;> simp [RetK, cut_self hcl, hl]

theorem Has.hash {f} (h : Has P f irScHash) : ByteOk P f hashB := fun b H => by
  obtain ⟨fn, hf, hcf⟩ := h
  refine acall_fin hf hcf (by simp [irScHash]) fun hcl _ => ?_
  simp [irScHash]
  simp [RetK, cut_self hcl, hashB]

theorem Has.noNl {f} (h : Has P f irScNoNl) : ByteOk P f noNlB := fun b H => by
  obtain ⟨fn, hf, hcf⟩ := h
  refine acall_fin hf hcf (by simp [irScNoNl]) fun hcl _ => ?_
  simp [irScNoNl]
  simp [RetK, cut_self hcl, noNlB]

theorem Has.wordB {f fl fd} (h : Has P f (irScWordB fl fd)) (hl : ByteOk P fl letterB) (hd : ByteOk P fd digitB) : ByteOk P f Zam.wordB := fun b H => by
  obtain ⟨fn, hf, hcf⟩ := h
  refine acall_fin hf hcf (by simp [irScWordB]) fun hcl _ => ?_
  simp [irScWordB]
  refine CallK_of' (hl b _) ?_
  cases e : letterB b with
  | true =>
    simp
    simp [RetK, cut_self hcl, Zam.wordB, e]
  | false =>
    simp
    refine CallK_of' (hd b _) ?_
    simp
    simp [RetK, cut_self hcl, Zam.wordB, e]

/-- whether there is another byte, and of that kind -/
def moreB (p : UInt8 → Bool) : Bs → Bool
  | [] => false
  | b :: _ => p b

def scan (ts : TypeId) (text : Bs) (at_ : Nat) : Ob := .box ts [.d (.str text), .d (.int .i64 (at_ : Int))]

theorem byteAt_drop {s : Bs} {n : Nat} {b : UInt8} {r : Bs} (h : s.drop n = b :: r) : byteAt s (n : Int) = some b ∧ n < s.length := by
  have hn : n < s.length := by
    rcases Nat.lt_or_ge n s.length with h' | h'
    · exact h'
    · rw [List.drop_eq_nil_of_le h'] at h; cases h
  refine ⟨?_, hn⟩
  have : s[n] = b := by
    have e := List.drop_eq_getElem_cons hn
    rw [h] at e
    exact (List.cons.inj e).1.symm
  simp [byteAt, hn, this]

theorem Has.more {f} (h : Has P f irScMore) {k : FuncId} {p : UInt8 → Bool} (hk : callOk P k = true) (hp : ByteOk P k p) {H : Hp} {i : Nat} {ts : TypeId} {text : Bs} {n : Nat} (hi : H[i]? = some (scan ts text n)) :
    ACall P f [.ptr i 0, .d (.fn k)] H (fun r H' => r = .d (.bool (moreB p (text.drop n))) ∧ H' = H) := by
  obtain ⟨fn, hf, hcf⟩ := h
  refine acall_fin hf hcf (by simp [irScMore]) fun hcl _ => ?_
  unfold scan at hi
  simp [irScMore, hi]
  cases hd : text.drop n with
  | nil =>
    have hn : ¬ n < text.length := by
      have := List.drop_eq_nil_iff.1 hd
      omega
    simp [hn]
    simp [RetK, cut_self hcl, moreB]
  | cons b r =>
    obtain ⟨hb, hn⟩ := byteAt_drop hd
    simp [hn, hi, hb]
    refine ⟨hk, ?_⟩
    refine CallD_of (hp b _) ?_
    simp
    simp [RetK, cut_self hcl, moreB]

theorem Hp.set_self {H : Hp} {i : Nat} {o : Ob} (h : H[i]? = some o) : H.set i o = H := by
  obtain ⟨hi, e⟩ := List.getElem?_eq_some_iff.1 h
  rw [← e]; exact List.set_getElem_self hi

/-- how many bytes of a kind stand first -/
def runN (p : UInt8 → Bool) (s : Bs) : Nat := (s.takeWhile p).length

theorem runN_le (p : UInt8 → Bool) (s : Bs) : runN p s ≤ s.length := by
  unfold runN
  exact List.Sublist.length_le (List.takeWhile_sublist p)

theorem runN_step (p : UInt8 → Bool) : ∀ (s : Bs) (j : Nat), j ≤ runN p s → moreB p (s.drop j) = decide (j < runN p s)
  | [], j, h => by simp [runN] at h ⊢; subst h; rfl
  | b :: r, 0, h => by
    cases e : p b <;> simp [runN, moreB, e]
  | b :: r, j + 1, h => by
    cases e : p b with
    | false => simp [runN, e] at h
    | true =>
      have hr : runN p (b :: r) = runN p r + 1 := by simp [runN, e]
      rw [hr] at h ⊢
      have := runN_step p r j (by omega)
      simpa using this

theorem scan_len {H : Hp} {i : Nat} {o : Ob} (h : H[i]? = some o) : i < H.length := (List.getElem?_eq_some_iff.1 h).1

/-- the text behind a place is behind a further one -/
theorem drop_add' (s : Bs) (n j : Nat) : (s.drop n).drop j = s.drop (n + j) := by rw [List.drop_drop]

theorem sub_ok {s : Bs} {n w : Nat} (h : n + w ≤ s.length) : subL s (n : Int) ((n : Int) + w) = some ((s.drop n).take w) := by
  rw [subL_ok ⟨by omega, by omega, by omega⟩]
  congr 2 <;> omega

theorem Has.word {f fm fw} (h : Has P f (irScWord fm fw)) (hm : Has P fm irScMore) (hk : callOk P fw = true) (hw : ByteOk P fw Zam.wordB) {H : Hp} {i : Nat} {ts : TypeId} {text : Bs} {n : Nat} (hi : H[i]? = some (scan ts text n)) (hn : n ≤ text.length) (hl : text.length ≤ 4611686018427387904) :
    ACall P f [.ptr i 0] H (fun r H' => r = .d (.str ((text.drop n).take (runN Zam.wordB (text.drop n)))) ∧ H' = H.set i (scan ts text (n + runN Zam.wordB (text.drop n)))) := by
  obtain ⟨fn, hf, hcf⟩ := h
  have hil := scan_len hi
  refine acall_fin hf hcf (by simp [irScWord]) fun hcl _ => ?_
  have hi' := hi
  unfold scan at hi'
  simp [irScWord, hi']
  have hW := runN_le Zam.wordB (text.drop n)
  have hstep := runN_step Zam.wordB (text.drop n)
  simp only [drop_add', List.length_drop] at hW hstep
  generalize runN Zam.wordB (text.drop n) = W at hW hstep
  refine LoopK_outR 0 (fun fr H' => fr 0 = .ptr i 0 ∧ fr 3 = .d (.int .i64 (n : Int)) ∧ H' = H.set i (scan ts text (n + W))) (fun _ _ => False) ?_ (fun _ _ h => h.elim) ?_
  · refine LoopM_of H.length (fun d fr H' => ∃ j, d = W - j ∧ j ≤ W ∧ fr 0 = .ptr i 0 ∧ fr 3 = .d (.int .i64 (n : Int)) ∧ H' = H.set i (scan ts text (n + j))) W (by simp) ⟨0, ?_⟩ ?_
    · simp [cut_self hcl, hil]
      exact (Hp.set_self hi).symm
    rintro d fr H' ⟨j, rfl, hj, f0, f3, rfl⟩
    have hij : (H.set i (scan ts text (n + j)))[i]? = some (scan ts text (n + j)) := by simp [hil]
    have hm' := hm.more hk hw hij
    rw [hstep j hj] at hm'
    simp [f0]
    refine CallK_of' hm' ?_
    simp
    refine BrK_split (fun h => ?_) (fun h => ?_)
    · have hlt : j < W := by simpa using h
      have hwr : IntKind.i64.wrap ((n : Int) + j + 1) = n + (j + 1) := by rw [wrap_i64 (by omega) (by omega)]; omega
      simp [f0, hil, scan, hwr]
      refine NextM_of H.length (W - (j + 1)) (Nat.le_refl _) (by simp) (by omega) ⟨j + 1, rfl, by omega, ?_⟩
      simp [f0, f3, Hp.cut_set, cut_self hcl, hil, scan]
    · have hjj : j = W := by have : ¬ j < W := by simpa using h
                             omega
      subst hjj
      simp [f0, f3]
  rintro fr H' ⟨f0, f3, rfl⟩
  have hs := sub_ok (s := text) (n := n) (w := W) (by omega)
  simp [f0, f3, hil, scan, hs]
  simp [RetK, Hp.cut_set, cut_self hcl, hil, scan]

end
end Go.Zam

namespace Go.Zam
set_option linter.all false
set_option maxRecDepth 100000
set_option maxHeartbeats 1000000

/-- how many bytes mean nothing; true: in a comment -/
def leadS : Bool → Bs → Nat
  | _, [] => 0
  | false, b :: r => if blankB b then leadS false r + 1 else if hashB b then leadS true r + 1 else 0
  | true, b :: r => if noNlB b then leadS true r + 1 else leadS false r + 1

theorem lead_le : ∀ (c : Bool) (s : Bs), leadS c s ≤ s.length
  | _, [] => by simp [leadS]
  | false, b :: r => by
    have h1 := lead_le false r
    have h2 := lead_le true r
    simp only [leadS, List.length_cons]
    split
    · omega
    · split <;> omega
  | true, b :: r => by
    have h1 := lead_le false r
    have h2 := lead_le true r
    simp only [leadS, List.length_cons]
    split <;> omega

theorem lead_blank : ∀ (s : Bs), leadS false s = runN blankB s + leadS false (s.drop (runN blankB s))
  | [] => by simp [leadS, runN]
  | b :: r => by
    cases e : blankB b with
    | false => simp [runN, e]
    | true =>
      have := lead_blank r
      have hr : runN blankB (b :: r) = runN blankB r + 1 := by simp [runN, e]
      rw [hr, List.drop_succ_cons, leadS, if_pos e]
      omega

theorem lead_cmt : ∀ (s : Bs), leadS true s = runN noNlB s + leadS false (s.drop (runN noNlB s))
  | [] => by simp [leadS, runN]
  | b :: r => by
    cases e : noNlB b with
    | false =>
      have hb : blankB b = true := by
        have : (b.toNat : Int) = 10 := by simpa [noNlB] using e
        simp [blankB, this]
      simp [runN, e, leadS, hb]
    | true =>
      have := lead_cmt r
      have hr : runN noNlB (b :: r) = runN noNlB r + 1 := by simp [runN, e]
      rw [hr, List.drop_succ_cons, leadS, if_pos e]
      omega

theorem lead_hash {s : Bs} (h : moreB hashB s = true) : leadS false s = runN noNlB s + leadS false (s.drop (runN noNlB s)) ∧ 1 ≤ runN noNlB s := by
  cases s with
  | nil => simp [moreB] at h
  | cons b r =>
    have hb : (b.toNat : Int) = 35 := by simpa [moreB, hashB] using h
    have h1 : blankB b = false := by simp [blankB, hb]
    have h2 : hashB b = true := by simp [hashB, hb]
    have h3 : noNlB b = true := by simp [noNlB, hb]
    have hr : runN noNlB (b :: r) = runN noNlB r + 1 := by simp [runN, h3]
    have := lead_cmt r
    rw [hr, List.drop_succ_cons, leadS, h1, if_neg (by simp), if_pos h2]
    exact ⟨by omega, by omega⟩

theorem lead_none {s : Bs} (h1 : moreB blankB s = false) (h2 : moreB hashB s = false) : leadS false s = 0 := by
  cases s with
  | nil => rfl
  | cons b r =>
    have h1 : blankB b = false := h1
    have h2 : hashB b = false := h2
    simp [leadS, h1, h2]

section
variable {P : Program}

theorem Has.lead {f fm fb fh fl} (h : Has P f (irScLead fm fb fh fl)) (hm : Has P fm irScMore) (k1 : callOk P fb = true) (p1 : ByteOk P fb blankB) (k2 : callOk P fh = true) (p2 : ByteOk P fh hashB) (k3 : callOk P fl = true) (p3 : ByteOk P fl noNlB)
    {H : Hp} {i : Nat} {ts : TypeId} {text : Bs} {n : Nat} (hi : H[i]? = some (scan ts text n)) (hn : n ≤ text.length) (hl : text.length ≤ 4611686018427387904) :
    ACall P f [.ptr i 0] H (fun r H' => r = .d (.str ((text.drop n).take (leadS false (text.drop n)))) ∧ H' = H.set i (scan ts text (n + leadS false (text.drop n)))) := by
  obtain ⟨fn, hf, hcf⟩ := h
  have hil := scan_len hi
  refine acall_fin hf hcf (by simp [irScLead]) fun hcl _ => ?_
  have hi' := hi
  unfold scan at hi'
  simp [irScLead, hi']
  have hL := lead_le false (text.drop n)
  simp only [List.length_drop] at hL
  refine LoopM_of H.length (fun d fr H' => ∃ j, d = leadS false (text.drop n) - j ∧ j + leadS false (text.drop (n + j)) = leadS false (text.drop n) ∧ fr 0 = .ptr i 0 ∧ fr 3 = .d (.int .i64 (n : Int)) ∧ H' = H.set i (scan ts text (n + j))) (leadS false (text.drop n)) (by simp) ⟨0, ?_⟩ ?_
  · simp [cut_self hcl, hil]
    exact (Hp.set_self hi).symm
  generalize leadS false (text.drop n) = L at hL
  rintro d fr H' ⟨j, rfl, hj, f0, f3, rfl⟩
  simp
  have hb := lead_blank (text.drop (n + j))
  have hstep := runN_step blankB (text.drop (n + j))
  have hW := runN_le blankB (text.drop (n + j))
  simp only [drop_add', List.length_drop] at hW hstep hb
  generalize runN blankB (text.drop (n + j)) = wa at hb hstep hW
  refine LoopK_out 2 (fun fr H' => fr 0 = .ptr i 0 ∧ fr 3 = .d (.int .i64 (n : Int)) ∧ H' = H.set i (scan ts text (n + j + wa))) ?_ ?_
  · refine LoopM_of H.length (fun d fr H' => ∃ q, d = wa - q ∧ q ≤ wa ∧ fr 0 = .ptr i 0 ∧ fr 3 = .d (.int .i64 (n : Int)) ∧ H' = H.set i (scan ts text (n + j + q))) wa (by simp) ⟨0, ?_⟩ ?_
    · simp [f0, f3, Hp.cut_set, cut_self hcl, hil, scan]
    rintro d fr H' ⟨q, rfl, hq, f0, f3, rfl⟩
    have hij : (H.set i (scan ts text (n + j + q)))[i]? = some (scan ts text (n + j + q)) := by simp [hil]
    have hm' := hm.more k1 p1 hij
    rw [hstep q hq] at hm'
    simp [f0]
    refine CallK_of' hm' ?_
    simp
    refine BrK_split (fun h => ?_) (fun h => ?_)
    · have hlt : q < wa := by simpa using h
      have hwr : IntKind.i64.wrap (((n : Int) + j) + q + 1) = ((n : Int) + j) + (q + 1) := by rw [wrap_i64 (by omega) (by omega)]; omega
      simp [f0, hil, scan, hwr]
      refine NextM_of H.length (wa - (q + 1)) (Nat.le_refl _) (by simp) (by omega) ⟨q + 1, rfl, by omega, ?_⟩
      simp [f0, f3, Hp.cut_set, cut_self hcl, hil, scan]
    · have hqq : q = wa := by
        have : ¬ q < wa := by simpa using h
        omega
      subst hqq
      simp [f0, f3]
  rintro fr H' ⟨f0, f3, rfl⟩
  have hij : (H.set i (scan ts text (n + j + wa)))[i]? = some (scan ts text (n + j + wa)) := by simp [hil]
  have hm' := hm.more k2 p2 hij
  simp [f0]
  refine CallK_of' hm' ?_
  cases hh : moreB hashB (text.drop (n + j + wa)) with
  | false =>
    have hnb : moreB blankB (text.drop (n + j + wa)) = false := by rw [hstep wa (Nat.le_refl _)]; simp
    have h0 := lead_none hnb hh
    have hLL : L = j + wa := by omega
    have hs := sub_ok (s := text) (n := n) (w := j + wa) (by omega)
    simp [f0, f3, hil, scan, Int.add_assoc]
    simp at hs
    simp [hs]
    simp [RetK, Hp.cut_set, cut_self hcl, hil, scan, hLL, Int.add_assoc]
  | true =>
    simp
    obtain ⟨hc, hc1⟩ := lead_hash hh
    have hstep := runN_step noNlB (text.drop (n + j + wa))
    have hW := runN_le noNlB (text.drop (n + j + wa))
    simp only [drop_add', List.length_drop] at hW hstep hc
    generalize runN noNlB (text.drop (n + j + wa)) = wc at hc hc1 hstep hW
    refine LoopK_out 4 (fun fr H' => fr 0 = .ptr i 0 ∧ fr 3 = .d (.int .i64 (n : Int)) ∧ H' = H.set i (scan ts text (n + j + wa + wc))) ?_ ?_
    · refine LoopM_of H.length (fun d fr H' => ∃ q, d = wc - q ∧ q ≤ wc ∧ fr 0 = .ptr i 0 ∧ fr 3 = .d (.int .i64 (n : Int)) ∧ H' = H.set i (scan ts text (n + j + wa + q))) wc (by simp) ⟨0, ?_⟩ ?_
      · simp [f0, f3, Hp.cut_set, cut_self hcl, hil, scan]
      rintro d fr H' ⟨q, rfl, hq, f0, f3, rfl⟩
      have hij : (H.set i (scan ts text (n + j + wa + q)))[i]? = some (scan ts text (n + j + wa + q)) := by simp [hil]
      have hm' := hm.more k3 p3 hij
      rw [hstep q hq] at hm'
      simp [f0]
      refine CallK_of' hm' ?_
      simp
      refine BrK_split (fun h => ?_) (fun h => ?_)
      · have hlt : q < wc := by simpa using h
        have hwr : IntKind.i64.wrap (((n : Int) + j + wa) + q + 1) = ((n : Int) + j + wa) + (q + 1) := by rw [wrap_i64 (by omega) (by omega)]; omega
        simp [f0, hil, scan, hwr]
        refine NextM_of H.length (wc - (q + 1)) (Nat.le_refl _) (by simp) (by omega) ⟨q + 1, rfl, by omega, ?_⟩
        simp [f0, f3, Hp.cut_set, cut_self hcl, hil, scan]
      · have hqq : q = wc := by
          have : ¬ q < wc := by simpa using h
          omega
        subst hqq
        simp [f0, f3]
    rintro fr H' ⟨f0, f3, rfl⟩
    simp
    refine NextM_of H.length (L - (j + wa + wc)) (Nat.le_refl _) (by simp) (by omega) ⟨j + wa + wc, rfl, ?_, ?_⟩
    · have e : n + (j + wa + wc) = n + j + wa + wc := by omega
      rw [e]; omega
    · simp [f0, f3, Hp.cut_set, cut_self hcl, hil, scan, Int.add_assoc]

end
end Go.Zam

namespace Go.Zam
set_option linter.all false
set_option maxRecDepth 100000
set_option maxHeartbeats 1000000

def keysT : List Bs := [[100, 101, 102], [100, 121, 110], [101, 108, 115, 101], [102, 110], [105, 102], [105, 110, 112, 117, 116], [105, 110, 116], [108, 101, 116], [112, 114, 105, 110, 116], [114, 101, 116, 117, 114, 110], [115, 116, 114], [117, 115, 101], [119, 104, 105, 108, 101]]
theorem keysT_mem (s : Bs) : s ∈ keysT ↔ s ∈ keysL := by
  constructor
  · intro h
    simp only [keysT, List.mem_cons, List.not_mem_nil, or_false] at h
    rcases h with rfl | rfl | rfl | rfl | rfl | rfl | rfl | rfl | rfl | rfl | rfl | rfl | rfl <;> decide
  · intro h
    simp only [keysL, List.mem_cons, List.not_mem_nil, or_false] at h
    rcases h with rfl | rfl | rfl | rfl | rfl | rfl | rfl | rfl | rfl | rfl | rfl | rfl | rfl <;> decide

def signsT : List Bs := [[61, 61], [40], [41], [123], [125], [44], [59], [58], [46], [61], [43], [45], [42], [60]]
/-- the sign that a text begins with; none: nothing -/
def signV (s : Bs) : Bs := (signsT.find? fun x => x.isPrefixOf s).getD []

/-- a function that says whether a text begins with another one -/
def PrefixOk (P : Program) (f : FuncId) : Prop := ∀ (s p : Bs) H, ACall P f [.d (.str s), .d (.str p)] H (fun r H' => r = .d (.bool (p.isPrefixOf s)) ∧ H' = H)

section
variable {P : Program}

theorem Has.idx {f} (h : Has P f irSlIdx) (z : Bool) (ns : List Bs) (x : Bs) (hn : ns.length ≤ 1048576) (H : Hp) : ACall P f [.d (.sl z 1 (ns.map encStr)), .d (.str x)] H (fun r H' => (∃ q : Int, r = .d (.int .i64 q) ∧ (0 ≤ q ↔ x ∈ ns)) ∧ H' = H) := by
  obtain ⟨fn, hf, hcf⟩ := h
  refine acall_fin hf hcf (by simp [irSlIdx]) fun hcl _ => ?_
  simp [irSlIdx]
  refine LoopK_outR 0 (fun fr H' => x ∉ ns ∧ H' = H) (fun fr H' => (∃ q : Int, fr 4 = .d (.int .i64 q) ∧ 0 ≤ q) ∧ x ∈ ns ∧ H' = H) ?_ ?_ ?_
  · refine RangeK_of H.length ns.length (fun i fr H' => fr 0 = .d (.sl z 1 (ns.map encStr)) ∧ fr 1 = .d (.str x) ∧ x ∉ ns.take i ∧ H' = H) (by omega) (by decide) (by simp) (by simp) ?_ ?_ ?_
    · simp [cut_self hcl]
    · rintro i fr H' hi f8 f7 ⟨f0, f1, hx, rfl⟩
      have hr := rowAt_map encStr hi
      have ht : ns.take (i + 1) = ns.take i ++ [ns[i]] := List.take_succ_eq_append_getElem hi
      have hm := List.getElem_mem hi
      simp only [encStr] at hr
      generalize ns[i] = w at hr ht hm
      simp [f8, f0, f1, hr]
      refine BrK_split (fun h => ?_) (fun h => ?_)
      · have e : x = w := by simpa using h
        simp
        exact e ▸ hm
      · have e : ¬ x = w := by simpa using h
        simp
        refine NextK_of H'.length (Nat.le_refl _) (by simp [f8, f7]) ?_
        simp [f0, f1, cut_self hcl, ht, hx, e]
    · rintro fr H' f8 f7 ⟨f0, f1, hx, rfl⟩
      rw [List.take_of_length_le (Nat.le_refl _)] at hx
      simp [hx]
  · rintro fr H' ⟨⟨q, f4, hq⟩, hx, rfl⟩
    simp
    simp [RetK, cut_self hcl, f4, hx]
    exact hq
  · rintro fr H' ⟨hx, rfl⟩
    simp
    simp [RetK, cut_self hcl, hx]

theorem Has.has {f fi} (h : Has P f (irSlHas fi)) (hi : Has P fi irSlIdx) (z : Bool) (ns : List Bs) (x : Bs) (hn : ns.length ≤ 1048576) (H : Hp) : ACall P f [.d (.sl z 1 (ns.map encStr)), .d (.str x)] H (fun r H' => r = .d (.bool (decide (x ∈ ns))) ∧ H' = H) := by
  obtain ⟨fn, hf, hcf⟩ := h
  refine acall_fin hf hcf (by simp [irSlHas]) fun hcl _ => ?_
  simp [irSlHas]
  refine CallK_of (hi.idx z ns x hn _) ?_
  rintro r H' ⟨⟨q, rfl, hq⟩, rfl⟩
  simp
  simp [RetK, cut_self hcl, hq]

theorem Has.keys {f} (h : Has P f irTkKeys) (H : Hp) : ACall P f [] H (fun r H' => r = .d (.sl false 1 (keysT.map encStr)) ∧ H' = H) := by
  obtain ⟨fn, hf, hcf⟩ := h
  refine acall_fin hf hcf (by simp [irTkKeys]) fun hcl _ => ?_
  simp [irTkKeys]
  simp [RetK, cut_self hcl, keysT, encStr]

theorem Has.signs {f} (h : Has P f irTkSigns) (H : Hp) : ACall P f [] H (fun r H' => r = .d (.sl false 1 (signsT.map encStr)) ∧ H' = H) := by
  obtain ⟨fn, hf, hcf⟩ := h
  refine acall_fin hf hcf (by simp [irTkSigns]) fun hcl _ => ?_
  simp [irTkSigns]
  simp [RetK, cut_self hcl, signsT, encStr]

theorem Has.isKey {f fk fh fi} (h : Has P f (irTkIsKey fk fh)) (hk : Has P fk irTkKeys) (hh : Has P fh (irSlHas fi)) (hi : Has P fi irSlIdx) (s : Bs) (H : Hp) : ACall P f [.d (.str s)] H (fun r H' => r = .d (.bool (decide (s ∈ keysL))) ∧ H' = H) := by
  obtain ⟨fn, hf, hcf⟩ := h
  refine acall_fin hf hcf (by simp [irTkIsKey]) fun hcl _ => ?_
  simp [irTkIsKey]
  refine CallK_of' (hk.keys _) ?_
  have := hh.has hi false keysT s (by decide) H
  simp only [keysT_mem] at this
  simp
  refine CallK_of' this ?_
  simp
  simp [RetK, cut_self hcl]

theorem sub_end {s : Bs} {n : Nat} (h : n ≤ s.length) : subL s (n : Int) (s.length : Int) = some (s.drop n) := by
  rw [subL_ok ⟨by omega, by omega, by omega⟩]
  congr 1
  rw [List.take_of_length_le (by simp)]
  simp

theorem Has.sign {f fs fp} (h : Has P f (irScSign fs fp)) (hs : Has P fs irTkSigns) (hp : PrefixOk P fp) {H : Hp} {i : Nat} {ts : TypeId} {text : Bs} {n : Nat} (hi : H[i]? = some (scan ts text n)) (hn : n ≤ text.length) (hl : text.length ≤ 4611686018427387904) :
    ACall P f [.ptr i 0] H (fun r H' => r = .d (.str (signV (text.drop n))) ∧ H' = H.set i (scan ts text (n + (signV (text.drop n)).length))) := by
  obtain ⟨fn, hf, hcf⟩ := h
  have hil := scan_len hi
  refine acall_fin hf hcf (by simp [irScSign]) fun hcl _ => ?_
  have hi' := hi
  unfold scan at hi'
  simp [irScSign]
  refine CallK_of' (hs.signs _) ?_
  simp
  refine LoopK_outR 0 (fun fr H' => signV (text.drop n) = [] ∧ H' = H) (fun fr H' => fr 2 = .d (.str (signV (text.drop n))) ∧ H' = H.set i (scan ts text (n + (signV (text.drop n)).length))) ?_ ?_ ?_
  · refine RangeK_of H.length signsT.length (fun j fr H' => fr 0 = .ptr i 0 ∧ fr 5 = .d (.sl false 1 (signsT.map encStr)) ∧ (∀ x ∈ signsT.take j, x.isPrefixOf (text.drop n) = false) ∧ H' = H) (by decide) (by decide) (by simp) (by simp) ?_ ?_ ?_
    · simp [cut_self hcl, hil]
    · rintro j fr H' hj f7 f6 ⟨f0, f5, ha, rfl⟩
      have hr := rowAt_map encStr hj
      have ht : signsT.take (j + 1) = signsT.take j ++ [signsT[j]] := List.take_succ_eq_append_getElem hj
      have hfind : signsT[j].isPrefixOf (text.drop n) = true → signV (text.drop n) = signsT[j] := fun h => by
        have : signsT.find? (fun x => x.isPrefixOf (text.drop n)) = some signsT[j] := by
          rw [List.find?_eq_some_iff_getElem]
          refine ⟨h, j, hj, rfl, fun k hk => ?_⟩
          rw [ha signsT[k] (by rw [List.mem_take_iff_getElem]; exact ⟨k, by omega, rfl⟩)]
          rfl
        rw [signV, this]; rfl
      have hlen : signsT[j].length ≤ 2 := by
        have : ∀ x ∈ signsT, x.length ≤ 2 := by decide
        exact this _ (List.getElem_mem hj)
      simp only [encStr] at hr
      generalize signsT[j] = x at hr ht hfind hlen
      simp [f7, f5, f0, hr, hi', sub_end hn]
      refine CallD_of (hp _ x _) ?_
      cases hx : x.isPrefixOf (text.drop n) with
      | true =>
        have hv := hfind hx
        have hwr : IntKind.i64.wrap ((n : Int) + x.length) = n + x.length := wrap_i64 (by omega) (by omega)
        have hg : H'[i] = Ob.box ts [.d (.str text), .d (.int .i64 (n : Int))] := (List.getElem?_eq_some_iff.1 hi').2
        simp [f0, hil, hg, hwr]
        simp [hv, scan]
      | false =>
        simp
        refine NextK_of H'.length (Nat.le_refl _) (by simp [f7, f6]) ?_
        simp [f0, f5, cut_self hcl, ht]
        refine ⟨hil, ?_⟩
        intro q hq
        rcases hq with hq | rfl
        · simpa using ha q hq
        · simpa using hx
    · rintro fr H' f7 f6 ⟨f0, f5, ha, rfl⟩
      rw [List.take_of_length_le (Nat.le_refl _)] at ha
      have : signsT.find? (fun x => x.isPrefixOf (text.drop n)) = none := by
        rw [List.find?_eq_none]
        intro x hx
        rw [ha x hx]; simp
      simp [signV, this]
  · rintro fr H' ⟨f2, rfl⟩
    simp
    simp [RetK, Hp.cut_set, cut_self hcl, hil, scan, f2]
  · rintro fr H' ⟨hv, rfl⟩
    simp
    simp [RetK, cut_self hcl, hv]
    exact (Hp.set_self hi).symm

end
end Go.Zam

namespace Go.Zam
set_option linter.all false
set_option maxRecDepth 100000
set_option maxHeartbeats 1000000

def unesc (c : UInt8) : Option UInt8 := if c = 110 then some 10 else if c = 116 then some 9 else if c = 34 then some 34 else if c = 92 then some 92 else none

def unqI : Bs → Option Bs
  | [] => some []
  | [b] => if b = 92 then none else if b.toNat < 32 ∨ b = 34 then none else some [b]
  | b :: c :: r => if b = 92 then (unesc c).bind fun x => (unqI r).map (x :: ·) else if b.toNat < 32 ∨ b = 34 then none else (unqI (c :: r)).map (b :: ·)

/-- what a string of the language stands for -/
def unqV (s : Bs) : Option Bs := if s.length < 2 ∨ s.head? ≠ some 34 ∨ s.getLast? ≠ some 34 then none else unqI ((s.drop 1).take (s.length - 2))
def unqR : Option Bs → A
  | some x => .tup [.d (.str x), .d (.int .i64 0)]
  | none => .tup [.d (.str []), .d (.int .i64 22)]

/-- a function that says where a byte stands first -/
def IndexOk (P : Program) (f : FuncId) : Prop := ∀ (s : Bs) (c : UInt8) H, ACall P f [.d (.str s), .d (.int .u8 c.toNat)] H (fun r H' => r = .d (.int .i64 (Lib.indexByte s c)) ∧ H' = H)
/-- strings.Builder's WriteByte, at a program -/
def WriteBOk (P : Program) (f : FuncId) (bt : TypeId) : Prop := ∀ (H : Hp) (i t : Nat) (a : A) (bs : List UInt8) (c : UInt8), H[i]? = some (.box bt [a, .osl true 1 (byteRows bs) t]) → (a = .d .nilp ∨ a = .ptr i 0) → H[t]? = some (.tok bs.length 1 5) → bs.length + 1 ≤ 140737488355328 →
    ACall P f [.ptr i 0, .d (.int .u8 c.toNat)] H (fun r H' => r = .d .nili ∧ H' = (H.set i (.box bt [.ptr i 0, .osl true 1 (byteRows (bs ++ [c])) t])).set t (.tok (bs ++ [c]).length 1 5))

theorem index_unesc (c : UInt8) : (∃ x, unesc c = some x ∧ 0 ≤ Lib.indexByte [110, 116, 34, 92] c ∧ byteAt [10, 9, 34, 92] (Lib.indexByte [110, 116, 34, 92] c) = some x) ∨ (unesc c = none ∧ Lib.indexByte [110, 116, 34, 92] c < 0) := by
  by_cases h1 : c = 110
  · subst h1; exact .inl ⟨10, by decide, by decide, by decide⟩
  by_cases h2 : c = 116
  · subst h2; exact .inl ⟨9, by decide, by decide, by decide⟩
  by_cases h3 : c = 34
  · subst h3; exact .inl ⟨34, by decide, by decide, by decide⟩
  by_cases h4 : c = 92
  · subst h4; exact .inl ⟨92, by decide, by decide, by decide⟩
  have e : Lib.indexByte [110, 116, 34, 92] c = -1 := by
    have g : ∀ x : UInt8, c ≠ x → (x == c) = false := fun x h => by simpa using Ne.symm h
    simp [Lib.indexByte, g _ h1, g _ h2, g _ h3, g _ h4]
  rw [e]
  exact .inr ⟨by simp [unesc, h1, h2, h3, h4], by decide⟩

theorem byteAt_nat (s : Bs) (n : Nat) : byteAt s (n : Int) = s[n]? := by
  have : ¬ ((n : Int) < 0) := by omega
  simp [byteAt]
theorem byte_eq (b c : UInt8) : ((b.toNat : Int) = (c.toNat : Int)) ↔ b = c := by
  constructor
  · intro e; exact UInt8.toNat_inj.1 (by omega)
  · rintro rfl; rfl

section
variable {P : Program}

theorem HasT.unquote {f fi fw fs bt} (h : HasT P [4] f (irRnUnquote fi fw fs bt 5)) (hi : IndexOk P fi) (hw : WriteBOk P fw bt) (hs : StringOk P fs bt) (s : Bs) (hl : s.length ≤ 1048576) (H : Hp) :
    ACall P f [.d (.str s)] H (fun r H' => r = unqR (unqV s) ∧ H' = H) := by
  obtain ⟨fn, hf, hcf⟩ := h
  refine acall_fin hf hcf (by simp [irRnUnquote]) fun hcl _ => ?_
  by_cases h1 : s.length < 2
  case pos =>
    have h1' : (s.length : Int) < 2 := by omega
    simp [irRnUnquote, h1']
    simp [RetK, cut_self hcl, unqV, unqR, h1]
  have h1' : ¬ (s.length : Int) < 2 := by omega
  obtain ⟨b0, hb0⟩ : ∃ b, byteAt s 0 = some b := ⟨s[0], by simp [byteAt]⟩
  obtain ⟨b1, hb1⟩ : ∃ b, byteAt s ((s.length : Int) - 1) = some b := by
    refine ⟨s[s.length - 1], ?_⟩
    have e : ((s.length : Int) - 1) = ((s.length - 1 : Nat) : Int) := by omega
    rw [e, byteAt_nat, List.getElem?_eq_getElem]
  have hh : s.head? = some b0 := by
    cases s with
    | nil => simp at h1
    | cons a r => simpa [byteAt] using hb0
  have hg : s.getLast? = some b1 := by
    have e : ((s.length : Int) - 1) = ((s.length - 1 : Nat) : Int) := by omega
    rw [List.getLast?_eq_getElem?, ← byteAt_nat, ← e]
    exact hb1
  have hwm : IntKind.i64.wrap ((s.length : Int) - 1) = s.length - 1 := wrap_i64 (by omega) (by omega)
  have byte34 : ∀ b : UInt8, ((b.toNat : Int) = 34) ↔ b = 34 := fun b => byte_eq b 34
  have byte92 : ∀ b : UInt8, ((b.toNat : Int) = 92) ↔ b = 92 := fun b => byte_eq b 92
  by_cases h2 : b0 = 34
  case neg =>
    have h2' : ¬ ((b0.toNat : Int) = 34) := fun e => h2 ((byte34 _).1 e)
    simp [irRnUnquote, h1', hb0, h2']
    simp [RetK, cut_self hcl, unqV, unqR, hh, h2]
  by_cases h3 : b1 = 34
  case neg =>
    have h3' : ¬ ((b1.toNat : Int) = 34) := fun e => h3 ((byte34 _).1 e)
    simp [irRnUnquote, h1', hb0, h2, hwm, hb1, h3']
    simp [RetK, cut_self hcl, unqV, unqR, hg, h3]
  subst h2; subst h3
  simp [irRnUnquote, h1', hb0, hwm, hb1]
  have hU : unqV s = unqI ((s.drop 1).take (s.length - 2)) := by simp [unqV, h1, hh, hg]
  rw [hU]
  have hb34 : ∀ b, byteAt s ((s.length : Int) - 1) = some b → b = 34 := fun b e => by rw [hb1] at e; exact (Option.some.inj e).symm
  obtain ⟨m, hm⟩ : ∃ m, s.length = m + 2 := ⟨s.length - 2, by omega⟩
  obtain ⟨I, hI⟩ : ∃ I, I = (s.drop 1).take (s.length - 2) := ⟨_, rfl⟩
  rw [← hI]
  have hmi : I.length = m := by rw [hI]; simp; omega
  have hbyte : ∀ j : Nat, j < m → byteAt s ((1 : Int) + j) = I[j]? := fun j hj => by
    have e : ((1 : Int) + j) = ((j + 1 : Nat) : Int) := by omega
    rw [e, byteAt_nat, hI, List.getElem?_take, if_pos (by omega), List.getElem?_drop]
    congr 1; omega
  have hbend : byteAt s ((1 : Int) + m) = some 34 := by
    have e : ((1 : Int) + m) = (s.length : Int) - 1 := by omega
    rw [e, hb1]
  clear hI hU
  refine LoopK_outR 0 (fun fr H' => ∃ x a, unqI I = some x ∧ x.length ≤ m ∧ fr 4 = .ptr (H.length + 1) 0 ∧ H' = H ++ [.tok x.length 1 5, .box bt [a, .osl true 1 (byteRows x) H.length]]) (fun fr H' => fr 2 = .d (.str []) ∧ fr 3 = .d (.int .i64 22) ∧ unqI I = none ∧ ∃ X, H' = H ++ X) ?_ ?_ ?_
  · refine LoopM_of (H.length + 2) (fun d fr H' => ∃ j x a, d = m - j ∧ j ≤ m ∧ unqI I = (unqI (I.drop j)).map (x ++ ·) ∧ x.length ≤ j ∧ (a = .d .nilp ∨ a = .ptr (H.length + 1) 0) ∧ fr 0 = .d (.str s) ∧ fr 4 = .ptr (H.length + 1) 0 ∧ fr 5 = .d (.int .i64 (1 + (j : Int))) ∧ H' = H ++ [.tok x.length 1 5, .box bt [a, .osl true 1 (byteRows x) H.length]]) m (by simp) ⟨0, [], .d .nilp, ?_⟩ ?_
    · simp [cut_appk hcl, byteRows]
    rintro d fr H' ⟨j, x, a, rfl, hj, hq, hxl, ha, f0, f4, f5, rfl⟩
    simp [f5, f0, hwm]
    refine BrK_split (fun hlt => ?_) (fun hlt => ?_)
    · have hjm : j < m := by have : 1 + (j : Int) < (s.length : Int) - 1 := by simpa using hlt
                             omega
      have hb := hbyte j hjm
      rw [List.getElem?_eq_getElem (by omega)] at hb
      have hdr : I.drop j = I[j]'(by omega) :: I.drop (j + 1) := List.drop_eq_getElem_cons (by omega)
      generalize I[j]'(by omega) = b at hb hdr
      rw [hdr] at hq
      have hw1 : IntKind.i64.wrap (1 + (j : Int) + 1) = 1 + ((j : Int) + 1) := by rw [wrap_i64 (by omega) (by omega)]; omega
      have hw2 : IntKind.i64.wrap (1 + ((j : Int) + 1) + 1) = 1 + ((j : Int) + 1 + 1) := by rw [wrap_i64 (by omega) (by omega)]; omega
      have put := fun (c : UInt8) => hw (H ++ [.tok x.length 1 5, .box bt [a, .osl true 1 (byteRows x) H.length]]) (H.length + 1) H.length a x c (by simp) ha (by simp) (by omega)
      simp at put
      simp [f5, f0, hb]
      refine BrK_split (fun h92 => ?_) (fun h92 => ?_)
      · have h92 : b = 92 := (byte92 b).1 (by simpa using h92)
        subst h92
        by_cases hj1 : j + 1 = m
        · have hnone : unqI I = none := by
            have : I.drop (j + 1) = [] := List.drop_eq_nil_of_le (by omega)
            rw [hq, this]; rfl
          have hbe : byteAt s (1 + ((j : Int) + 1)) = some 34 := by
            have e : (1 + ((j : Int) + 1)) = 1 + (m : Int) := by omega
            rw [e, hbend]
          have heq : 1 + ((j : Int) + 1) = (s.length : Int) - 1 := by omega
          simp [f5, f0, hw1, hbe]
          refine CallK_of' (hi [110, 116, 34, 92] 34 _) ?_
          have hk : Lib.indexByte [110, 116, 34, 92] 34 = 2 := by decide
          rw [hk]
          simp [hw1, f0, hwm, heq, hnone]
        · have hjl : j + 1 < m := by omega
          have hbc := hbyte (j + 1) hjl
          rw [List.getElem?_eq_getElem (by omega)] at hbc
          have hdc : I.drop (j + 1) = I[j + 1]'(by omega) :: I.drop (j + 1 + 1) := List.drop_eq_getElem_cons (by omega)
          generalize I[j + 1]'(by omega) = c at hbc hdc
          rw [hdc] at hq
          simp only [Int.natCast_add, Int.natCast_one] at hbc
          have hne : ¬ (1 + ((j : Int) + 1) = (s.length : Int) - 1) := by omega
          simp [f5, f0, hw1, hbc]
          refine CallK_of' (hi [110, 116, 34, 92] c _) ?_
          rcases index_unesc c with ⟨y, g1, g2, g3⟩ | ⟨g1, g2⟩
          · have hq' : unqI I = (unqI (I.drop (j + 1 + 1))).map ((x ++ [y]) ++ ·) := by
              rw [hq]
              simp only [unqI, g1]
              cases unqI (I.drop (j + 1 + 1)) <;> simp
            generalize Lib.indexByte [110, 116, 34, 92] c = k at g2 g3
            have hk : ¬ k < 0 := by omega
            simp [hw1, f0, f4, hwm, hne, hk, g3]
            refine CallK_of' (put y) ?_
            simp [hw2]
            refine NextM_of (H.length + 2) (m - (j + 2)) (Nat.le_refl _) (by simp) (by omega) ⟨j + 2, x ++ [y], .ptr (H.length + 1) 0, rfl, by omega, hq', by simp; omega, .inr rfl, ?_⟩
            simp [f0, f4, cut_appk hcl, hw2]
            omega
          · have hnone : unqI I = none := by
              rw [hq]
              simp [unqI, g1]
            generalize Lib.indexByte [110, 116, 34, 92] c = k at g2
            simp [hw1, f0, hwm, g2, hnone]
      · have h92 : ¬ b = 92 := fun e => by simp [e] at h92
        have hu : ∀ r, unqI (b :: r) = if b.toNat < 32 ∨ b = 34 then none else (unqI r).map (b :: ·) := fun r => by
          cases r with
          | nil => simp [unqI, h92]
          | cons c r => simp [unqI, h92]
        rw [hu] at hq
        by_cases hlo : b.toNat < 32
        · have hnone : unqI I = none := by rw [hq]; simp [hlo]
          have hlo' : (b.toNat : Int) < 32 := by omega
          simp [f5, f0, hb, hlo', hnone]
        · have hlo' : ¬ (b.toNat : Int) < 32 := by omega
          by_cases h34 : b = 34
          · have hnone : unqI I = none := by rw [hq]; simp [h34]
            subst h34
            simp [f5, f0, hb, hlo', hnone]
          · have h34' : ¬ (b.toNat : Int) = 34 := fun e => h34 ((byte34 _).1 e)
            have hq' : unqI I = (unqI (I.drop (j + 1))).map ((x ++ [b]) ++ ·) := by
              rw [hq, if_neg (by simp [hlo, h34])]
              cases unqI (I.drop (j + 1)) <;> simp
            simp [f5, f0, f4, hb, hlo', h34']
            refine CallK_of' (put b) ?_
            simp [f5, hw1]
            refine NextM_of (H.length + 2) (m - (j + 1)) (Nat.le_refl _) (by simp) (by omega) ⟨j + 1, x ++ [b], .ptr (H.length + 1) 0, rfl, by omega, hq', by simp; omega, .inr rfl, ?_⟩
            simp [f0, f4, cut_appk hcl, hw1]
    · have hjm : j = m := by have : ¬ (1 + (j : Int) < (s.length : Int) - 1) := by simpa using hlt
                             omega
      subst hjm
      rw [List.drop_eq_nil_of_le (by omega), unqI] at hq
      simp [f4]
      refine ⟨x, by simpa using hq, hxl, ?_⟩
      simp
  · rintro fr H' ⟨f2, f3, hn, X, rfl⟩
    simp
    simp [RetK, cut_app hcl, f2, f3, hn, unqR]
  · rintro fr H' ⟨x, a, hx, hxl, f4, rfl⟩
    simp [f4]
    have w3 := hs (H ++ [.tok x.length 1 5, .box bt [a, .osl true 1 (byteRows x) H.length]]) (H.length + 1) H.length a x (by simp) (by simp) (by omega)
    refine CallK_of' w3 ?_
    simp
    simp [RetK, cut_app hcl, hx, unqR]

end
end Go.Zam

namespace Go.Zam
set_option linter.all false
set_option maxRecDepth 100000
set_option maxHeartbeats 1000000

/-- a heap that begins as another one -/
def Pre0 (H0 H : Hp) : Prop := ∃ X, H = H0 ++ X
theorem Pre0.app {H0 H : Hp} (h : Pre0 H0 H) (X : Hp) : Pre0 H0 (H ++ X) := by obtain ⟨Y, rfl⟩ := h; exact ⟨Y ++ X, by simp⟩
theorem Pre0.self (H : Hp) : Pre0 H H := ⟨[], by simp⟩

/-- how far a string goes behind its first quote -/
def strS : Bs → Option Nat
  | [] => none
  | [b] => if b = 34 then some 1 else none
  | b :: c :: r => if b = 34 then some 1 else if b = 92 then (strS r).map (· + 2) else if b = 10 then none else (strS (c :: r)).map (· + 1)

/-- a string that a text begins with, what is wrong with it -/
def strV (s : Bs) : Bs × Int := match strS (s.drop 1) with
  | none => ([], 22)
  | some k => (s.take (k + 1), if (unqV (s.take (k + 1))).isSome then 0 else 22)

theorem strS_le : ∀ {s : Bs} {k : Nat}, strS s = some k → 1 ≤ k ∧ k ≤ s.length
  | [], k, h => by simp [strS] at h
  | [b], k, h => by
    simp only [strS] at h
    split at h
    · simp at h ⊢; omega
    · cases h
  | b :: c :: r, k, h => by
    simp only [strS] at h
    split at h
    · simp at h ⊢; omega
    split at h
    · cases e : strS r with
      | none => simp [e] at h
      | some q => have := strS_le e; simp [e] at h; simp; omega
    split at h
    · cases h
    · cases e : strS (c :: r) with
      | none => simp [e] at h
      | some q => have := strS_le e; simp [e] at h; simp at this ⊢; omega

section
variable {P : Program}

theorem Has.str {f fu} (h : Has P f (irScStr fu)) (hu : ∀ (s : Bs) H, s.length ≤ 1048576 → ACall P fu [.d (.str s)] H (fun r H' => r = unqR (unqV s) ∧ H' = H)) {H : Hp} {i : Nat} {ts : TypeId} {text : Bs} {n : Nat} (hi : H[i]? = some (scan ts text n)) (hn : n < text.length) (hl : text.length ≤ 1048576) :
    ACall P f [.ptr i 0] H (fun r H' => (∃ k : Nat, r = .tup [.d (.str (strV (text.drop n)).1), .d (.int .i64 (strV (text.drop n)).2)] ∧ H' = H.set i (scan ts text k) ∧ ((strV (text.drop n)).2 = 0 → k = n + (strV (text.drop n)).1.length))) := by
  obtain ⟨fn, hf, hcf⟩ := h
  have hil := scan_len hi
  refine acall_fin hf hcf (by simp [irScStr]) fun hcl _ => ?_
  have hg : H[i] = Ob.box ts [.d (.str text), .d (.int .i64 (n : Int))] := (List.getElem?_eq_some_iff.1 hi).2
  have hw0 : IntKind.i64.wrap ((n : Int) + 1) = n + 1 := wrap_i64 (by omega) (by omega)
  simp [irScStr, hil, hg, hw0]
  have hrest : (text.drop n).drop 1 = text.drop (n + 1) := by rw [List.drop_drop]
  have hSV : strV (text.drop n) = match strS (text.drop (n + 1)) with
    | none => ([], 22)
    | some k => ((text.drop n).take (k + 1), if (unqV ((text.drop n).take (k + 1))).isSome then 0 else 22) := by rw [strV, hrest]
  refine LoopK_outR 0 (fun fr H' => strS (text.drop (n + 1)) = none ∧ ∃ k : Nat, H' = H.set i (scan ts text k)) (fun fr H' => ∃ k : Nat, fr 2 = .d (.str (strV (text.drop n)).1) ∧ fr 3 = .d (.int .i64 (strV (text.drop n)).2) ∧ H' = H.set i (scan ts text k) ∧ ((strV (text.drop n)).2 = 0 → k = n + (strV (text.drop n)).1.length)) ?_ ?_ ?_
  · refine LoopM_of H.length (fun d fr H' => ∃ j : Nat, d = text.length + 1 - (n + 1 + j) ∧ n + 1 + j ≤ text.length + 1 ∧ strS (text.drop (n + 1)) = (strS (text.drop (n + 1 + j))).map (· + j) ∧ fr 0 = .ptr i 0 ∧ fr 4 = .d (.int .i64 (n : Int)) ∧ H' = H.set i (scan ts text (n + 1 + j))) (text.length + 1 - (n + 1 + 0)) (by simp) ⟨0, rfl, by omega, ?_, ?_⟩ ?_
    · simp
    · simp [cut_self hcl, Hp.cut_set, hil, scan]
    rintro d fr H' ⟨j, rfl, hj, hq, f0, f4, rfl⟩
    simp [f0, hil, scan]
    refine BrK_split (fun hlt => ?_) (fun hlt => ?_)
    · have hlt' : n + 1 + j < text.length := by have : (n : Int) + 1 + j < text.length := by simpa using hlt
                                                omega
      have hdr : text.drop (n + 1 + j) = text[n + 1 + j] :: text.drop (n + 1 + j + 1) := List.drop_eq_getElem_cons hlt'
      have hb : byteAt text ((n : Int) + 1 + j) = some text[n + 1 + j] := by
        have e : ((n : Int) + 1 + j) = ((n + 1 + j : Nat) : Int) := by omega
        rw [e, byteAt_nat, List.getElem?_eq_getElem hlt']
      generalize text[n + 1 + j] = b at hdr hb
      have hw1 : IntKind.i64.wrap ((n : Int) + 1 + j + 1) = (n : Int) + 1 + (j + 1) := by rw [wrap_i64 (by omega) (by omega)]; omega
      have hw2 : IntKind.i64.wrap ((n : Int) + 1 + (j + 1) + 1) = (n : Int) + 1 + (j + 1 + 1) := by rw [wrap_i64 (by omega) (by omega)]; omega
      simp [f0, hil, hb]
      refine BrK_split (fun h34 => ?_) (fun h34 => ?_)
      · have h34 : b = 34 := (byte_eq b 34).1 (by simpa using h34)
        subst h34
        have hS : strS (text.drop (n + 1)) = some (j + 1) := by
          rw [hq, hdr]
          cases text.drop (n + 1 + j + 1) <;> simp [strS] <;> omega
        have hsub : subL text (n : Int) ((n : Int) + 1 + (j + 1)) = some ((text.drop n).take (j + 1 + 1)) := by
          have := sub_ok (s := text) (n := n) (w := j + 1 + 1) (by omega)
          rw [← this]; congr 1; omega
        simp only [hS] at hSV
        have hU := hu ((text.drop n).take (j + 1 + 1)) (H.set i (scan ts text (n + 1 + (j + 1)))) (by simp; omega)
        have hlen : ((text.drop n).take (j + 1 + 1)).length = j + 1 + 1 := by simp; omega
        generalize (text.drop n).take (j + 1 + 1) = T at hSV hsub hU hlen
        simp [f0, f4, hil, hw1, hsub]
        simp [scan] at hU
        refine CallK_of' hU ?_
        cases hv : unqV T with
        | none =>
          simp [unqR]
          exact ⟨by simp [hSV], by simp [hSV, hv], n + 1 + (j + 1), by simp [scan], fun h => by simp [hSV, hv] at h⟩
        | some x =>
          simp [unqR]
          exact ⟨by simp [hSV], by simp [hSV, hv], n + 1 + (j + 1), by simp [scan], fun h => by simp [hSV, hlen]; omega⟩
      · have h34 : ¬ b = 34 := fun e => by simp [e] at h34
        simp
        refine BrK_split (fun h92 => ?_) (fun h92 => ?_)
        · have h92 : b = 92 := (byte_eq b 92).1 (by simpa using h92)
          subst h92
          simp [f0, hil, hw1, hw2]
          refine NextM_of H.length (text.length + 1 - (n + 1 + (j + 2))) (Nat.le_refl _) (by simp) (by omega) ⟨j + 2, rfl, by omega, ?_, ?_⟩
          · rw [hq, hdr]
            have e2 : n + 1 + (j + 2) = n + 1 + j + 1 + 1 := by omega
            rw [e2]
            cases hd2 : text.drop (n + 1 + j + 1) with
            | nil =>
              have : text.drop (n + 1 + j + 1 + 1) = [] := by
                rw [← List.drop_drop, hd2]; rfl
              rw [this]; simp [strS]
            | cons c r =>
              have : text.drop (n + 1 + j + 1 + 1) = r := by
                rw [← List.drop_drop, hd2]; rfl
              rw [this]
              simp only [strS]
              simp
              cases strS r <;> simp <;> omega
          · simp [f0, f4, Hp.cut_set, cut_self hcl, hil, scan, hw2]
            have e3 : (n : Int) + 1 + ((j : Int) + 1 + 1) = n + 1 + (j + 2) := by omega
            rw [e3]
        · have h92 : ¬ b = 92 := fun e => by simp [e] at h92
          simp
          refine BrK_split (fun h10 => ?_) (fun h10 => ?_)
          · have h10 : b = 10 := (byte_eq b 10).1 (by simpa using h10)
            subst h10
            have hS : strS (text.drop (n + 1)) = none := by
              rw [hq, hdr]
              cases text.drop (n + 1 + j + 1) <;> simp [strS]
            simp only [hS] at hSV
            simp [hSV]
            exact ⟨n + 1 + j, by simp [scan]⟩
          · have h10 : ¬ b = 10 := fun e => by simp [e] at h10
            simp [f0, hil, hw1]
            refine NextM_of H.length (text.length + 1 - (n + 1 + (j + 1))) (Nat.le_refl _) (by simp) (by omega) ⟨j + 1, rfl, by omega, ?_, ?_⟩
            · rw [hq, hdr]
              have e2 : n + 1 + (j + 1) = n + 1 + j + 1 := by omega
              rw [e2]
              cases hd2 : text.drop (n + 1 + j + 1) with
              | nil => simp [strS, h34]
              | cons c r =>
                simp only [strS, h34, h92, h10]
                simp
                cases strS (c :: r) <;> simp <;> omega
            · simp [f0, f4, Hp.cut_set, cut_self hcl, hil, scan]
    · have hge : text.length ≤ n + 1 + j := by have : ¬ ((n : Int) + 1 + j < text.length) := by simpa using hlt
                                               omega
      have hS : strS (text.drop (n + 1)) = none := by
        rw [hq, List.drop_eq_nil_of_le hge]; rfl
      simp [hS]
      exact ⟨n + 1 + j, by simp [scan]⟩
  · rintro fr H' ⟨k, f2, f3, rfl, hk⟩
    simp
    simp [RetK, Hp.cut_set, cut_self hcl, hil, scan, f2, f3]
    exact ⟨k, rfl, hk⟩
  · rintro fr H' ⟨hS, k, rfl⟩
    simp only [hS] at hSV
    simp
    simp [RetK, Hp.cut_set, cut_self hcl, hil, scan, hSV]
    exact ⟨k, rfl⟩

end
end Go.Zam

namespace Go.Zam
set_option linter.all false
set_option maxRecDepth 100000
set_option maxHeartbeats 1000000

/-- digits that are a number -/
def numOk (s : Bs) : Bool := match Lib.parseUintB 63 s with
  | .ok _ => true
  | _ => false

/-- what is wrong with the token that a text begins with, its kind, how long it is -/
def tokN : Bs → Int × Int × Nat
  | [] => (0, 0, 0)
  | b :: r =>
    if letterB b then
      if (b :: r).take (runN wordB (b :: r)) ∈ keysL then (0, 2, runN wordB (b :: r)) else if 40 < runN wordB (b :: r) then (26, 0, 0) else (0, 1, runN wordB (b :: r))
    else if digitB b then
      if numOk ((b :: r).take (runN wordB (b :: r))) then (0, 3, runN wordB (b :: r)) else (23, 0, 0)
    else if b = 34 then
      if (strV (b :: r)).2 = 0 then (0, 4, (strV (b :: r)).1.length) else (22, 0, 0)
    else if signV (b :: r) = [] then (21, 0, 0) else (0, 5, (signV (b :: r)).length)

theorem strV_err (s : Bs) : (strV s).2 = 0 ∨ (strV s).2 = 22 := by
  unfold strV
  split
  · exact .inr rfl
  · simp only
    split <;> simp

theorem strV_take (s : Bs) : (strV s).2 = 0 → s.take (strV s).1.length = (strV s).1 := by
  unfold strV
  split
  · simp
  · rename_i k hk
    have := strS_le hk
    intro _
    simp only [List.length_take]
    simp only [List.length_drop] at this
    rw [Nat.min_eq_left (by omega)]

theorem signV_take (s : Bs) : s.take (signV s).length = signV s := by
  unfold signV
  cases h : signsT.find? (fun x => x.isPrefixOf s) with
  | none => simp
  | some x =>
    have := List.find?_some h
    have hp : x <+: s := List.isPrefixOf_iff_prefix.1 (by simpa using this)
    simp only [Option.getD_some]
    exact (List.prefix_iff_eq_take.1 hp).symm

def NumOk (P : Program) (H0 : Hp) (f : FuncId) : Prop := ∀ (s : Bs) H, Pre0 H0 H → s.length ≤ 1048576 → ACall P f [.d (.str s)] H (fun r H' => r = .d (.int .i64 (if numOk s then 0 else 23)) ∧ H' = H)

/-- what the next token comes to -/
def NextQ (H : Hp) (i : Nat) (ts : TypeId) (text : Bs) (n : Nat) (S : Bs) (T : Int × Int × Nat) : A → Hp → Prop := fun r H' => ∃ (k : Int) (x : Bs) (m : Nat), r = .tup [.agg [.d (.int .i64 k), .d (.int .i64 (n : Int)), .d (.str []), .d (.str x)], .d (.int .i64 T.1)] ∧ H' = H.set i (scan ts text m) ∧ (T.1 = 0 → k = T.2.1 ∧ x = S.take T.2.2 ∧ m = n + T.2.2)

section
variable {P : Program}

theorem Has.next {H0 : Hp} {f fm fl fw fk fd fn fs fg tt} (h : Has P f (irScNext fm fl fw fk fd fn fs fg tt)) (hm : Has P fm irScMore) (kl : callOk P fl = true) (hl : ByteOk P fl letterB) (kd : callOk P fd = true) (hd' : ByteOk P fd digitB)
    (hw : ∀ {H : Hp} {i : Nat} {ts : TypeId} {text : Bs} {n : Nat}, H[i]? = some (scan ts text n) → n ≤ text.length → text.length ≤ 1048576 → ACall P fw [.ptr i 0] H (fun r H' => r = .d (.str ((text.drop n).take (runN Zam.wordB (text.drop n)))) ∧ H' = H.set i (scan ts text (n + runN Zam.wordB (text.drop n)))))
    (hk : ∀ s H, ACall P fk [.d (.str s)] H (fun r H' => r = .d (.bool (decide (s ∈ keysL))) ∧ H' = H)) (hn : NumOk P H0 fn)
    (hs : ∀ {H : Hp} {i : Nat} {ts : TypeId} {text : Bs} {n : Nat}, H[i]? = some (scan ts text n) → n < text.length → text.length ≤ 1048576 → ACall P fs [.ptr i 0] H (fun r H' => (∃ k : Nat, r = .tup [.d (.str (strV (text.drop n)).1), .d (.int .i64 (strV (text.drop n)).2)] ∧ H' = H.set i (scan ts text k) ∧ ((strV (text.drop n)).2 = 0 → k = n + (strV (text.drop n)).1.length))))
    (hg : ∀ {H : Hp} {i : Nat} {ts : TypeId} {text : Bs} {n : Nat}, H[i]? = some (scan ts text n) → n ≤ text.length → text.length ≤ 1048576 → ACall P fg [.ptr i 0] H (fun r H' => r = .d (.str (signV (text.drop n))) ∧ H' = H.set i (scan ts text (n + (signV (text.drop n)).length))))
    {H : Hp} {i : Nat} {ts : TypeId} {text : Bs} {n : Nat} (hH : Pre0 H0 H) (h0i : H0.length ≤ i) (hi : H[i]? = some (scan ts text n)) (hnl : n ≤ text.length) (htl : text.length ≤ 1048576) :
    ACall P f [.ptr i 0] H (NextQ H i ts text n (text.drop n) (tokN (text.drop n))) := by
  obtain ⟨fnn, hf, hcf⟩ := h
  have hil := scan_len hi
  have hpre : ∀ o X, Pre0 H0 (H.set i o ++ X) := fun o X => by
    obtain ⟨Y, rfl⟩ := hH
    rw [List.set_append_right _ _ h0i, List.append_assoc]
    exact ⟨_, rfl⟩
  refine acall_fin hf hcf (by simp [irScNext]) fun hcl _ => ?_
  have hgi : H[i] = Ob.box ts [.d (.str text), .d (.int .i64 (n : Int))] := (List.getElem?_eq_some_iff.1 hi).2
  have hil' : i < H.length + 1 := by omega
  have hset : ∀ (o o' : Ob) , (H.set i o ++ [o']).length = H.length + 1 := fun o o' => by simp
  have hhi : ∀ o', (H ++ [o'])[i]? = some (scan ts text n) := fun o' => by rw [List.getElem?_append_left hil]; exact hi
  have hset2 : ∀ o o', (H ++ [o']).set i o = H.set i o ++ [o'] := fun o o' => by rw [List.set_append_left _ _ hil]
  have hfin : ∀ (S : Bs) (T : Int × Int × Nat) (x : Bs) (k e : Int) (m : Nat) (HB : Hp), HB = H.set i (scan ts text m) ++ [Ob.box tt [.d (.int .i64 k), .d (.int .i64 (n : Int)), .d (.str []), .d (.str x)]] → e = T.1 → (T.1 = 0 → k = T.2.1 ∧ x = S.take T.2.2 ∧ m = n + T.2.2) →
      RetK (NextQ H i ts text n S T) .mk H.length (some (.tup [.agg [.d (.int .i64 k), .d (.int .i64 (n : Int)), .d (.str []), .d (.str x)], .d (.int .i64 e)])) HB := by
    intro S T x k e m HB hHB he hp
    subst he
    have hc : Hp.cut H.length HB = H.set i (scan ts text m) := by
      rw [hHB, ← hset2, Hp.cut_set, cut_app hcl]; simp [scan]
    have hq : NextQ H i ts text n S T (.tup [.agg [.d (.int .i64 k), .d (.int .i64 (n : Int)), .d (.str []), .d (.str x)], .d (.int .i64 T.1)]) (H.set i (scan ts text m)) := ⟨k, x, m, rfl, rfl, hp⟩
    have hl : H.length ≤ HB.length := by rw [hHB]; simp
    generalize NextQ H i ts text n S T = Q at hq ⊢
    simp [RetK, hc, hl]
    exact hq
  simp [irScNext, hil, hgi, hil', List.getElem_append_left]
  cases hd : text.drop n with
  | nil =>
    have hn0 : n = text.length := by
      have := List.drop_eq_nil_iff.1 hd
      omega
    have hn1 : decide ((n : Int) = text.length) = true := decide_eq_true (by omega)
    rw [hn1]
    simp
    exact hfin _ _ _ _ _ n _ (by rw [Hp.set_self hi]) rfl (by simp [tokN])
  | cons b r =>
  obtain ⟨hb, hlt⟩ := byteAt_drop hd
  have hn1 : ¬ ((n : Int) = text.length) := by omega
  have hT : tokN (b :: r) = if letterB b then
      if (b :: r).take (runN Zam.wordB (b :: r)) ∈ keysL then (0, 2, runN Zam.wordB (b :: r)) else if 40 < runN Zam.wordB (b :: r) then (26, 0, 0) else (0, 1, runN Zam.wordB (b :: r))
    else if digitB b then
      if numOk ((b :: r).take (runN Zam.wordB (b :: r))) then (0, 3, runN Zam.wordB (b :: r)) else (23, 0, 0)
    else if b = 34 then
      if (strV (b :: r)).2 = 0 then (0, 4, (strV (b :: r)).1.length) else (22, 0, 0)
    else if signV (b :: r) = [] then (21, 0, 0) else (0, 5, (signV (b :: r)).length) := rfl
  generalize tokN (b :: r) = T at hT
  have g1 := fun o' => hm.more kl hl (hhi o')
  have g2 := fun o' => hm.more kd hd' (hhi o')
  have g3 := fun o' => hw (hhi o') hnl htl
  have g4 := fun o' => hs (hhi o') hlt htl
  have g5 := fun o' => hg (hhi o') hnl htl
  rw [hd] at g1 g2
  simp only [hd, hset2] at g3 g4 g5
  have hrl := runN_le Zam.wordB (b :: r)
  have hbl : (b :: r).length = text.length - n := by rw [← hd]; simp
  have hrw : ((b :: r).take (runN Zam.wordB (b :: r))).length = runN Zam.wordB (b :: r) := by simp only [List.length_take]; omega
  simp only [moreB] at g1 g2
  simp [hn1]
  refine CallK_of' (g1 _) ?_
  cases hlb : letterB b with
  | true =>
    rw [hlb, if_pos rfl] at hT
    simp
    refine CallK_of' (g3 _) ?_
    generalize hWd : (b :: r).take (runN Zam.wordB (b :: r)) = W at hT hrw
    generalize runN Zam.wordB (b :: r) = w at hT hrw hWd
    simp
    refine CallK_of' (hk W _) ?_
    by_cases hkW : W ∈ keysL
    · rw [if_pos hkW] at hT
      simp [hkW]
      exact hfin _ _ _ _ _ (n + w) _ rfl (by rw [hT]) (by simp [hT, hWd])
    · rw [if_neg hkW] at hT
      by_cases h40 : 40 < w
      · rw [if_pos h40] at hT
        have h40' : (40 : Int) < w := by omega
        simp [hkW, hrw, h40']
        exact hfin _ _ _ _ _ (n + w) _ rfl (by rw [hT]) (by simp [hT])
      · rw [if_neg h40] at hT
        have h40' : ¬ (40 : Int) < w := by omega
        simp [hkW, hrw, h40']
        exact hfin _ _ _ _ _ (n + w) _ rfl (by rw [hT]) (by simp [hT, hWd])
  | false =>
    rw [hlb] at hT
    simp only [Bool.false_eq_true, if_false] at hT
    simp
    refine CallK_of' (g2 _) ?_
    cases hdb : digitB b with
    | true =>
      rw [hdb, if_pos rfl] at hT
      simp
      refine CallK_of' (g3 _) ?_
      generalize hWd : (b :: r).take (runN Zam.wordB (b :: r)) = W at hT hrw
      generalize runN Zam.wordB (b :: r) = w at hT hrw hWd hrl
      simp
      refine CallD_of (hn W _ (hpre _ _) (by omega)) ?_
      cases hnu : numOk W with
      | true =>
        rw [hnu, if_pos rfl] at hT
        simp
        exact hfin _ _ _ _ _ (n + w) _ rfl (by rw [hT]) (by simp [hT, hWd])
      | false =>
        rw [hnu] at hT
        simp only [Bool.false_eq_true, if_false] at hT
        simp
        exact hfin _ _ _ _ _ (n + w) _ rfl (by rw [hT]) (by simp [hT])
    | false =>
      rw [hdb] at hT
      simp only [Bool.false_eq_true, if_false] at hT
      simp [hil, hil', hgi, hb, List.getElem_append_left]
      by_cases h34 : b = 34
      · rw [if_pos h34] at hT
        have h34' : (b.toNat : Int) = 34 := (byte_eq b 34).2 h34
        simp [h34']
        refine CallK_of (g4 _) ?_
        rintro x H1 ⟨k, rfl, rfl, hk2⟩
        have hst := strV_take (b :: r)
        have hse := strV_err (b :: r)
        generalize strV (b :: r) = SV at hT hk2 hst hse
        obtain ⟨S, e⟩ := SV
        simp only at hT hk2 hst hse
        simp
        rcases hse with rfl | rfl
        · simp only [if_true] at hT
          exact hfin _ _ _ _ _ k _ rfl (by rw [hT]) (by simp [hT, hst rfl, hk2 rfl])
        · simp at hT
          exact hfin _ _ _ _ _ k _ rfl (by rw [hT]) (by simp [hT])
      · rw [if_neg h34] at hT
        have h34' : ¬ (b.toNat : Int) = 34 := fun e => h34 ((byte_eq b 34).1 e)
        simp [h34']
        refine CallK_of' (g5 _) ?_
        have hgt := signV_take (b :: r)
        generalize signV (b :: r) = G at hT hgt
        by_cases hG : G = []
        · rw [if_pos hG] at hT
          simp [hG]
          exact hfin _ _ _ _ _ n _ rfl (by rw [hT]) (by simp [hT])
        · rw [if_neg hG] at hT
          simp [hG]
          exact hfin _ _ _ _ _ (n + G.length) _ rfl (by rw [hT]) (by simp [hT, hgt])

end
end Go.Zam

namespace Go.Zam
set_option linter.all false
set_option maxRecDepth 100000
set_option maxHeartbeats 1000000

/-- the character that a text begins with, how many bytes it has -/
def decU (s : Bs) : Nat × Nat := if s = [] then (65533, 0) else Lib.decodeN s.length (s.getD 0 0).toNat (s.getD 1 0).toNat (s.getD 2 0).toNat (s.getD 3 0).toNat

theorem decU_len {s : Bs} (h : s ≠ []) : 1 ≤ (decU s).2 ∧ (decU s).2 ≤ s.length := by
  have hl : 1 ≤ s.length := by cases s with
    | nil => exact absurd rfl h
    | cons a r => simp
  unfold decU
  rw [if_neg h]
  generalize (s.getD 0 0).toNat = b0
  generalize (s.getD 1 0).toNat = b1
  generalize (s.getD 2 0).toNat = b2
  generalize (s.getD 3 0).toNat = b3
  unfold Lib.decodeN
  (repeat' split) <;> simp only <;> omega

def badF : Nat → Bs → Nat → Int
  | 0, _, _ => -1
  | f + 1, s, n => if s = [] then -1 else if decU s = (65533, 1) then n else badF f (s.drop (decU s).2) (n + (decU s).2)
/-- where a text isn't UTF-8; -1: nowhere -/
def badS (s : Bs) : Int := badF s.length s 0

theorem badF_fuel : ∀ (f g : Nat) (s : Bs) (n : Nat), s.length ≤ f → s.length ≤ g → badF f s n = badF g s n
  | 0, 0, s, n, _, _ => rfl
  | 0, g + 1, s, n, h, _ => by
    have : s = [] := List.eq_nil_of_length_eq_zero (by omega)
    simp [badF, this]
  | f + 1, 0, s, n, _, h => by
    have : s = [] := List.eq_nil_of_length_eq_zero (by omega)
    simp [badF, this]
  | f + 1, g + 1, s, n, h1, h2 => by
    by_cases hs : s = []
    · simp [badF, hs]
    · simp only [badF, hs, if_false]
      split
      · rfl
      · have := decU_len hs
        exact badF_fuel f g _ _ (by simp; omega) (by simp; omega)

def DecodeOk (P : Program) (H0 : Hp) (f : FuncId) : Prop := ∀ (s : Bs) H, Pre0 H0 H → ACall P f [.d (.str s)] H (fun r H' => r = .tup [.d (.int .i32 ((decU s).1 : Int)), .d (.int .i64 ((decU s).2 : Int))] ∧ H' = H)

section
variable {P : Program}

theorem Has.bad {H0 : Hp} {f fd} (h : Has P f (irRnBad fd)) (hd : DecodeOk P H0 fd) (s : Bs) (hl : s.length ≤ 1048576) (H : Hp) (hH : Pre0 H0 H) : ACall P f [.d (.str s)] H (fun r H' => r = .d (.int .i64 (badS s)) ∧ H' = H) := by
  obtain ⟨fn, hf, hcf⟩ := h
  refine acall_fin hf hcf (by simp [irRnBad]) fun hcl _ => ?_
  simp [irRnBad]
  refine LoopK_outR 0 (fun fr H' => badS s = -1 ∧ H' = H) (fun fr H' => fr 2 = .d (.int .i64 (badS s)) ∧ H' = H) ?_ ?_ ?_
  · refine LoopM_of H.length (fun d fr H' => ∃ n : Nat, d = s.length - n ∧ n ≤ s.length ∧ badS s = badF (s.length - n) (s.drop n) n ∧ fr 0 = .d (.str s) ∧ fr 3 = .d (.int .i64 (n : Int)) ∧ H' = H) (s.length - 0) (by simp) ⟨0, rfl, by omega, rfl, ?_⟩ ?_
    · simp [cut_self hcl]
    rintro d fr H' ⟨n, rfl, hn, hb, f0, f3, rfl⟩
    simp [f0, f3]
    refine BrK_split (fun hlt => ?_) (fun hlt => ?_)
    · have hlt : n < s.length := by simpa using hlt
      have hne : s.drop n ≠ [] := fun e => by have := List.drop_eq_nil_iff.1 e; omega
      have hds := hd (s.drop n) H' hH
      have hdl := decU_len hne
      have hdr : ∀ k, (s.drop n).drop k = s.drop (n + k) := fun k => List.drop_drop ..
      have hfl : s.length - n = (s.length - n - 1) + 1 := by omega
      rw [hfl, badF, if_neg hne] at hb
      simp only [List.length_drop] at hdl
      simp [f0, f3, sub_end hn]
      refine CallK_of' hds ?_
      simp only [hdr] at hb
      generalize decU (s.drop n) = D at hb hdl
      obtain ⟨R, W⟩ := D
      simp only at hb hdl
      have hwr : IntKind.i64.wrap ((n : Int) + W) = ((n + W : Nat) : Int) := by rw [wrap_i64 (by omega) (by omega)]; omega
      simp
      by_cases hR : R = 65533
      · have hR' : (R : Int) = 65533 := by omega
        by_cases hW : W = 1
        · have hW' : (W : Int) = 1 := by omega
          rw [if_pos (by rw [hR, hW])] at hb
          simp [hR', hW', f3, hb]
        · have hW' : ¬ (W : Int) = 1 := by omega
          rw [if_neg (by simp [hW])] at hb
          simp [hR', hW', f3, hwr]
          refine NextM_of H'.length (s.length - (n + W)) (Nat.le_refl _) (by simp) (by omega) ⟨n + W, rfl, by omega, ?_, ?_⟩
          · rw [hb]; exact badF_fuel _ _ _ _ (by simp; omega) (by simp)
          · simp [f0, cut_self hcl]
      · have hR' : ¬ (R : Int) = 65533 := by omega
        rw [if_neg (by simp [hR])] at hb
        simp [hR', f3, hwr]
        refine NextM_of H'.length (s.length - (n + W)) (Nat.le_refl _) (by simp) (by omega) ⟨n + W, rfl, by omega, ?_, ?_⟩
        · rw [hb]; exact badF_fuel _ _ _ _ (by simp; omega) (by simp)
        · simp [f0, cut_self hcl]
    · have hge : n = s.length := by have : ¬ (n < s.length) := by simpa using hlt
                                    omega
      have : badS s = -1 := by rw [hb, hge]; simp [badF]
      simp [this]
  · rintro fr H' ⟨f2, rfl⟩
    simp
    simp [RetK, cut_self hcl, f2]
  · rintro fr H' ⟨hb, rfl⟩
    simp
    simp [RetK, cut_self hcl, hb]

end

/-- a token -/
structure Tk where
  k : Int
  a : Nat
  l : Bs
  x : Bs
def encTk (t : Tk) : List D := [.int .i64 t.k, .int .i64 (t.a : Int), .str t.l, .str t.x]

def lexF : Nat → Bs → Nat → Nat → List Tk × Int × Int
  | 0, _, _, _ => ([], 0, 0)
  | f + 1, s, n, c =>
    if (tokN (s.drop (leadS false s))).1 ≠ 0 then ([], (tokN (s.drop (leadS false s))).1, ((n + leadS false s : Nat) : Int))
    else if 4000 ≤ c then ([], 5, ((n + leadS false s : Nat) : Int))
    else if (tokN (s.drop (leadS false s))).2.1 = 0 then ([⟨(tokN (s.drop (leadS false s))).2.1, n + leadS false s, s.take (leadS false s), (s.drop (leadS false s)).take (tokN (s.drop (leadS false s))).2.2⟩], 0, 0)
    else if (lexF f ((s.drop (leadS false s)).drop (tokN (s.drop (leadS false s))).2.2) (n + leadS false s + (tokN (s.drop (leadS false s))).2.2) (c + 1)).2.1 = 0 then
      (⟨(tokN (s.drop (leadS false s))).2.1, n + leadS false s, s.take (leadS false s), (s.drop (leadS false s)).take (tokN (s.drop (leadS false s))).2.2⟩ :: (lexF f ((s.drop (leadS false s)).drop (tokN (s.drop (leadS false s))).2.2) (n + leadS false s + (tokN (s.drop (leadS false s))).2.2) (c + 1)).1, 0, 0)
    else ([], (lexF f ((s.drop (leadS false s)).drop (tokN (s.drop (leadS false s))).2.2) (n + leadS false s + (tokN (s.drop (leadS false s))).2.2) (c + 1)).2)

/-- a text's tokens; or what is wrong, and where -/
def lexS (s : Bs) : List Tk × Int × Int := if 16384 < s.length then ([], 5, 16384) else if 0 ≤ badS s then ([], 20, badS s) else lexF (s.length + 1) s 0 0


theorem strV_len (s : Bs) : (strV s).2 = 0 → 2 ≤ (strV s).1.length := by
  unfold strV
  split
  · simp
  · rename_i k hk
    have := strS_le hk
    intro _
    simp only [List.length_take]
    simp only [List.length_drop] at this
    omega

theorem runN_pos {p : UInt8 → Bool} {b : UInt8} {r : Bs} (h : p b = true) : 1 ≤ runN p (b :: r) := by simp [runN, h]

theorem tokN_len : ∀ (s : Bs), (tokN s).2.2 ≤ s.length ∧ ((tokN s).1 = 0 → (tokN s).2.1 = 0 → s = []) ∧ ((tokN s).1 = 0 → s ≠ [] → 1 ≤ (tokN s).2.2) ∧ (s = [] → (tokN s).2.1 = 0)
  | [] => by simp [tokN]
  | b :: r => by
    have h1 := runN_le wordB (b :: r)
    have h2 := strV_take (b :: r)
    have h3 := signV_take (b :: r)
    have h4 := strV_len (b :: r)
    have h5 : letterB b = true → 1 ≤ runN wordB (b :: r) := fun h => runN_pos (by simp [wordB, h])
    have h6 : digitB b = true → 1 ≤ runN wordB (b :: r) := fun h => runN_pos (by simp [wordB, h])
    have h7 : (strV (b :: r)).2 = 0 → (strV (b :: r)).1.length ≤ (b :: r).length := fun h => by
      rw [← h2 h]; simp only [List.length_take]; omega
    have h8 : (signV (b :: r)).length ≤ (b :: r).length := by
      have := congrArg List.length h3
      simp only [List.length_take] at this
      omega
    have h9 : signV (b :: r) ≠ [] → 1 ≤ (signV (b :: r)).length := fun h => by
      cases hq : signV (b :: r) with
      | nil => exact absurd hq h
      | cons a t => simp
    rw [tokN]
    generalize runN wordB (b :: r) = w at *
    generalize strV (b :: r) = S at *
    generalize signV (b :: r) = G at *
    (repeat' split) <;> simp_all <;> omega

def combL (acc : List Tk) (r : List Tk × Int × Int) : List Tk × Int × Int := if r.2.1 = 0 then (acc ++ r.1, 0, 0) else ([], r.2)

theorem lexF_norm : ∀ (f : Nat) (s : Bs) (n c : Nat), ((lexF f s n c).2.1 = 0 → (lexF f s n c).2.2 = 0) ∧ ((lexF f s n c).2.1 ≠ 0 → (lexF f s n c).1 = [])
  | 0, s, n, c => by simp [lexF]
  | f + 1, s, n, c => by
    rw [lexF]
    split
    · rename_i h; exact ⟨fun e => absurd e h, fun _ => rfl⟩
    split
    · exact ⟨fun e => absurd e (by simp), fun _ => rfl⟩
    split
    · exact ⟨fun _ => rfl, fun e => absurd rfl e⟩
    split
    · exact ⟨fun _ => rfl, fun e => absurd rfl e⟩
    · rename_i h; exact ⟨fun e => absurd e h, fun _ => rfl⟩

theorem combL_nil (f : Nat) (s : Bs) (n c : Nat) : combL [] (lexF f s n c) = lexF f s n c := by
  obtain ⟨h1, h2⟩ := lexF_norm f s n c
  generalize lexF f s n c = R at h1 h2
  obtain ⟨l, e, a⟩ := R
  unfold combL
  split
  · rename_i h
    simp only at h h1
    simp [h, h1 h]
  · rename_i h
    simp only at h h2
    simp [h2 h]

theorem combL_snoc (acc : List Tk) (t : Tk) (R : List Tk × Int × Int) : combL (acc ++ [t]) R = combL acc (if R.2.1 = 0 then (t :: R.1, 0, 0) else ([], R.2)) := by
  unfold combL
  by_cases h : R.2.1 = 0 <;> simp [h]

section
variable {P : Program}

theorem HasT.lex {H0 : Hp} {f fb fl fn ts tt} (h : HasT P [7] f (irTkLex fb fl fn ts tt)) (hb : ∀ (s : Bs) H, s.length ≤ 1048576 → Pre0 H0 H → ACall P fb [.d (.str s)] H (fun r H' => r = .d (.int .i64 (badS s)) ∧ H' = H))
    (hl : ∀ {H : Hp} {i : Nat} {text : Bs} {n : Nat}, H[i]? = some (scan ts text n) → n ≤ text.length → text.length ≤ 1048576 → ACall P fl [.ptr i 0] H (fun r H' => r = .d (.str ((text.drop n).take (leadS false (text.drop n)))) ∧ H' = H.set i (scan ts text (n + leadS false (text.drop n)))))
    (hn : ∀ {H : Hp} {i : Nat} {text : Bs} {n : Nat}, Pre0 H0 H → H0.length ≤ i → H[i]? = some (scan ts text n) → n ≤ text.length → text.length ≤ 1048576 → ACall P fn [.ptr i 0] H (NextQ H i ts text n (text.drop n) (tokN (text.drop n))))
    (s : Bs) (hs : s.length ≤ 1048576) (H : Hp) (hH : Pre0 H0 H) :
    ACall P f [.d (.str s)] H (fun r H' => r = .tup [.d (.sl true 4 ((lexS s).1.map encTk)), .d (.int .i64 (lexS s).2.1), .d (.int .i64 (lexS s).2.2)] ∧ H' = H) := by
  obtain ⟨fnn, hf, hcf⟩ := h
  refine acall_fin hf hcf (by simp [irTkLex]) fun hcl _ => ?_
  by_cases h1 : 16384 < s.length
  case pos =>
    have h1' : (16384 : Int) < s.length := by omega
    simp [irTkLex, h1']
    simp [RetK, cut_self hcl, lexS, h1]
  have h1' : ¬ (16384 : Int) < s.length := by omega
  have hbs := hb s H hs hH
  have hL : lexS s = if 0 ≤ badS s then ([], 20, badS s) else lexF (s.length + 1) s 0 0 := by rw [lexS, if_neg h1]
  generalize lexS s = LS at hL
  generalize badS s = bs at hL hbs
  simp [irTkLex, h1']
  refine CallK_of' hbs ?_
  simp
  refine BrK_split (fun h2 => ?_) (fun h2 => ?_)
  · have h2 : 0 ≤ bs := by simpa using h2
    rw [if_pos h2] at hL
    subst hL
    simp
    simp [RetK, cut_self hcl]
  have h2 : ¬ 0 ≤ bs := by simpa using h2
  rw [if_neg h2] at hL
  simp
  have hH0 : H0.length ≤ H.length := by obtain ⟨X, rfl⟩ := hH; simp
  refine LoopM_of (H.length + 2) (fun d fr H' => ∃ (p : Nat) (acc : List Tk), p ≤ s.length ∧ s.length - p < d ∧ LS = combL acc (lexF d (s.drop p) p acc.length) ∧ acc.length ≤ 4000 ∧ fr 6 = .ptr H.length 0 ∧ fr 7 = .osl true 4 (acc.map encTk) (H.length + 1) ∧ H' = H ++ [scan ts s p, .tok acc.length 4 tt]) (s.length + 1) (by simp) ⟨0, [], by omega, by omega, ?_, by simp, ?_⟩ ?_
  · simp only [List.drop_zero, List.length_nil]
    rw [hL]
    exact (combL_nil _ _ _ _).symm
  · simp [cut_appk hcl, scan]
  rintro d fr H' ⟨p, acc, hp, hd, hLS, hacc, f6, f7, rfl⟩
  obtain ⟨d', rfl⟩ : ∃ d', d = d' + 1 := ⟨d - 1, by omega⟩
  have g1 := hl (H := H ++ [scan ts s p, .tok acc.length 4 tt]) (i := H.length) (text := s) (n := p) (by simp) hp hs
  simp at g1
  simp [f6]
  refine CallK_of' g1 ?_
  have hll := lead_le false (s.drop p)
  simp only [List.length_drop] at hll
  rw [lexF] at hLS
  simp only [drop_add'] at hLS
  have g2 := hn (H := H ++ [scan ts s (p + leadS false (s.drop p)), .tok acc.length 4 tt]) (i := H.length) (text := s) (n := p + leadS false (s.drop p)) (hH.app _) hH0 (by simp) (by omega) hs
  have htl := tokN_len (s.drop (p + leadS false (s.drop p)))
  have hdn : s.drop (p + leadS false (s.drop p)) ≠ [] → p + leadS false (s.drop p) < s.length := fun h => by
    rcases Nat.lt_or_ge (p + leadS false (s.drop p)) s.length with h' | h'
    · exact h'
    · exact absurd (List.drop_eq_nil_of_le h') h
  simp only [List.length_drop] at htl
  generalize leadS false (s.drop p) = n at hLS hll g2 htl hdn
  generalize tokN (s.drop (p + n)) = T at hLS g2 htl
  obtain ⟨e, k, m⟩ := T
  simp only at hLS htl
  obtain ⟨t1, t2, t3, t4⟩ := htl
  simp [f6, scan]
  simp [scan] at g2
  refine CallK_of g2 ?_
  rintro x H1 ⟨k', x', m', rfl, rfl, hx⟩
  simp only at hx
  simp
  by_cases he : e = 0
  case neg =>
    rw [if_pos he] at hLS
    simp [he]
    have : LS = ([], e, ((p + n : Nat) : Int)) := by rw [hLS]; simp [combL, he]
    simp [RetK, cut_app hcl, this]
  obtain ⟨rfl, rfl, rfl⟩ := hx he
  rw [if_neg (by simp [he])] at hLS
  subst he
  have hap : (acc.map encTk).length = acc.length := by simp
  simp [f7]
  by_cases h4 : 4000 ≤ acc.length
  case pos =>
    have h4' : (4000 : Int) ≤ acc.length := by omega
    rw [if_pos h4] at hLS
    have : LS = ([], 5, ((p + n : Nat) : Int)) := by rw [hLS]; simp [combL]
    simp [h4']
    simp [RetK, cut_app hcl, this]
  have h4' : ¬ (4000 : Int) ≤ acc.length := by omega
  rw [if_neg h4] at hLS
  simp [h4', f7, appA]
  rw [if_pos (by omega)]
  simp
  obtain ⟨t, ht⟩ : ∃ t : Tk, t = ⟨k', p + n, (s.drop p).take n, (s.drop (p + n)).take m⟩ := ⟨_, rfl⟩
  have hbt : acc.map encTk ++ [[.int .i64 k', .int .i64 ((p : Int) + n), .str ((s.drop p).take n), .str ((s.drop (p + n)).take m)]] = (acc ++ [t]).map encTk := by
    simp [encTk, ht]
  rw [← ht] at hLS
  by_cases hk : k' = 0
  · rw [if_pos hk] at hLS
    have hLS' : LS = (acc ++ [t], 0, 0) := by rw [hLS]; simp [combL]
    subst hk
    simp [hbt]
    simp [RetK, cut_app hcl, hLS']
  · rw [if_neg hk, ← combL_snoc] at hLS
    simp [hk, hbt]
    have hne : s.drop (p + n) ≠ [] := fun e => hk (t4 e)
    have hm1 := t3 rfl hne
    have hlt := hdn hne
    refine NextM_of (H.length + 2) d' (Nat.le_refl _) (by simp) (by omega) ⟨p + n + m, acc ++ [t], by omega, by omega, ?_, by simp; omega, ?_⟩
    · simpa using hLS
    · simp [f6, cut_appk hcl, scan]

end
end Go.Zam

namespace Go.Zam
set_option linter.all false
set_option maxRecDepth 100000
set_option maxHeartbeats 1000000

/-- the text of some tokens -/
def joinS (l : List Tk) : Bs := l.flatMap fun t => t.l ++ t.x

/-- strings.Builder's WriteString, at a program -/
def WriteSOk (P : Program) (f : FuncId) (bt : TypeId) : Prop := ∀ (H : Hp) (i t : Nat) (a : A) (bs s : List UInt8), H[i]? = some (.box bt [a, .osl true 1 (byteRows bs) t]) → (a = .d .nilp ∨ a = .ptr i 0) → H[t]? = some (.tok bs.length 1 5) → bs.length + s.length ≤ 140737488355328 →
    ACall P f [.ptr i 0, .d (.str s)] H (fun r H' => r = .tup [.d (.int .i64 s.length), .d .nili] ∧ H' = (H.set i (.box bt [.ptr i 0, .osl true 1 (byteRows (bs ++ s)) t])).set t (.tok (bs ++ s).length 1 5))

section
variable {P : Program}

theorem joinS_app (a b : List Tk) : joinS (a ++ b) = joinS a ++ joinS b := by simp [joinS]
theorem joinS_one (t : Tk) : joinS [t] = t.l ++ t.x := by simp [joinS]

theorem joinS_take (l : List Tk) (i : Nat) : (joinS (l.take i)).length ≤ (joinS l).length := by
  have : joinS l = joinS (l.take i) ++ joinS (l.drop i) := by
    rw [joinS, joinS, joinS, ← List.flatMap_append, List.take_append_drop]
  rw [this]; simp

end
end Go.Zam

namespace Go.Zam
open Go.RowKit (Below)
set_option linter.all false

/-- a heap whose first objects are the tables of UTF-8 and two errors -/
def TabsG (g3 g4 g0 g1 : Nat) (H0 : Hp) : Prop := ∀ w : World, (∀ (i : Nat) (g : Nat) (cs : List Value), H0[i]? = some (.glob g cs) → ∃ ty fr, w.heap[g]? = some (.cells cs.toArray ty fr)) →
  Lib.Utf8Tabs g3 g4 w ∧ (∃ te pe, w.cell? ⟨g0, 0, none⟩ = some (.iface te pe)) ∧ (∃ te pe, w.cell? ⟨g1, 0, none⟩ = some (.iface te pe))

theorem tabs_of {κ : K} {H H0 : Hp} {w : World} {g3 g4 g0 g1 : Nat} (hr : HR κ H w) (hp : Pre0 H0 H) (hG : TabsG g3 g4 g0 g1 H0) :
    Lib.Utf8Tabs g3 g4 w ∧ (∃ te pe, w.cell? ⟨g0, 0, none⟩ = some (.iface te pe)) ∧ (∃ te pe, w.cell? ⟨g1, 0, none⟩ = some (.iface te pe)) := by
  obtain ⟨X, rfl⟩ := hp
  refine hG w fun i g cs hi => ?_
  have hlt := (List.getElem?_eq_some_iff.1 hi).1
  obtain ⟨ty, fr, h⟩ := hr.ob i _ (by rw [List.getElem?_append_left hlt]; exact hi)
  exact ⟨ty, fr, by rw [hr.below.block g (Array.getElem?_eq_some_iff.1 h).1]; exact h⟩

/-- A LEAF that reads variables -/
theorem leafG {P : Program} {f : FuncId} {args : List D} {x : A} {H0 : Hp} {g3 g4 g0 g1 : Nat} (hG : TabsG g3 g4 g0 g1 H0)
    (h : ∀ (w : World) (σ : St) (vs : List Value), (Lib.Utf8Tabs g3 g4 w ∧ (∃ te pe, w.cell? ⟨g0, 0, none⟩ = some (.iface te pe)) ∧ (∃ te pe, w.cell? ⟨g1, 0, none⟩ = some (.iface te pe))) → vs.length = args.length → (∀ (i : Nat) (v : Value) (d : D), vs[i]? = some v → args[i]? = some d → DR σ v d) →
      Calls P f vs.toArray w fun e w' => ∃ v, e = .returned v ∧ Below w.heap.size w w' ∧ ∀ κ : K, VR κ v x) (H : Hp) (hp : Pre0 H0 H) : ACall P f (args.map .d) H (fun r H' => r = x ∧ H' = H) := by
  intro κ w vs hr hl hv
  refine (h w κ.σ vs (tabs_of hr hp hG) (by simpa using hl) (fun i v d hi hd => (hv i v (.d d) hi (by simp [hd])).d_inv)).mono ?_
  rintro e w' ⟨v, rfl, hb, hd⟩
  exact ⟨v, κ, _, H, rfl, K.le_refl κ, hr.later hb, hd κ, rfl, rfl⟩

/-- what Go's decoder hands back is what a text begins with -/
theorem decodeGo_eq (s : Bs) : Lib.decodeGo ⟨s.toArray⟩ = decU s := by
  unfold Lib.decodeGo decU
  have hsz : (⟨s.toArray⟩ : ByteArray).size = s.length := by simp [ByteArray.size]
  rw [hsz]
  by_cases h : s = []
  · simp [h]
  · have hl : ¬ s.length = 0 := fun e => h (List.eq_nil_of_length_eq_zero e)
    rw [if_neg hl, if_neg h, Lib.decode_at, hsz]
    have hg : ∀ i, (⟨s.toArray⟩ : ByteArray).get! i = s.getD i 0 := fun i => by
      show s.toArray[i]! = _
      by_cases hi : i < s.length
      · rw [getElem!_pos s.toArray i (by simpa using hi)]; simp [List.getD, hi]
      · rw [getElem!_neg s.toArray i (by simpa using hi)]; simp [List.getD, hi]; rfl
    simp only [hg, Nat.sub_zero, Nat.zero_add]

end Go.Zam

namespace Go.Zam
set_option linter.all false

theorem cells_of_cell {w : World} {g o : Nat} {v : Value} (h : w.cell? ⟨g, o, none⟩ = some v) : ∃ cs ty fr, w.heap[g]? = some (.cells cs ty fr) := by
  unfold World.cell? at h
  split at h
  · rename_i c t fr hb
    exact ⟨c, t, fr, hb⟩
  · cases h

theorem cell_same {w w' : World} {g o : Nat} {v : Value} {cs : Array Value} {ty ty' : TypeId} {fr fr' : Nat × Nat} (h : w.cell? ⟨g, o, none⟩ = some v) (h1 : w.heap[g]? = some (.cells cs ty fr)) (h2 : w'.heap[g]? = some (.cells cs ty' fr')) : w'.cell? ⟨g, o, none⟩ = some v := by
  unfold World.cell? at h ⊢
  rw [h1] at h
  rw [h2]
  exact h

theorem laid_heap {W : World} {g3 g4 g0 g1 : Nat} (hU : Lib.Utf8Tabs g3 g4 W) (h0 : ∃ te pe, W.cell? ⟨g0, 0, none⟩ = some (.iface te pe)) (h1 : ∃ te pe, W.cell? ⟨g1, 0, none⟩ = some (.iface te pe)) :
    ∃ H0, LaidOb W H0 ∧ TabsG g3 g4 g0 g1 H0 := by
  obtain ⟨u1, u2⟩ := hU
  obtain ⟨t0, p0, h0⟩ := h0
  obtain ⟨t1, p1, h1⟩ := h1
  obtain ⟨c3, y3, f3, b3⟩ := cells_of_cell (u1 0 (by omega))
  obtain ⟨c4, y4, f4, b4⟩ := cells_of_cell (u2 0 (by omega)).1
  obtain ⟨c0, y0, f0, b0⟩ := cells_of_cell h0
  obtain ⟨c1, y1, f1, b1⟩ := cells_of_cell h1
  refine ⟨[.glob g3 c3.toList, .glob g4 c4.toList, .glob g0 c0.toList, .glob g1 c1.toList], ?_, ?_⟩
  · intro i x hx
    match i with
    | 0 => simp at hx; subst hx; exact ⟨g3, _, y3, f3, rfl, by simpa using b3⟩
    | 1 => simp at hx; subst hx; exact ⟨g4, _, y4, f4, rfl, by simpa using b4⟩
    | 2 => simp at hx; subst hx; exact ⟨g0, _, y0, f0, rfl, by simpa using b0⟩
    | 3 => simp at hx; subst hx; exact ⟨g1, _, y1, f1, rfl, by simpa using b1⟩
    | i + 4 => simp at hx
  · intro w hw
    obtain ⟨y3', f3', b3'⟩ := hw 0 g3 _ rfl
    obtain ⟨y4', f4', b4'⟩ := hw 1 g4 _ rfl
    obtain ⟨y0', f0', b0'⟩ := hw 2 g0 _ rfl
    obtain ⟨y1', f1', b1'⟩ := hw 3 g1 _ rfl
    simp only [Array.toArray_toList] at b3' b4' b0' b1'
    refine ⟨⟨fun c hc => cell_same (u1 c hc) b3 b3', fun i hi => ⟨cell_same (u2 i hi).1 b4 b4', cell_same (u2 i hi).2 b4 b4'⟩⟩, ⟨t0, p0, cell_same h0 b0 b0'⟩, ⟨t1, p1, cell_same h1 b1 b1'⟩⟩

end Go.Zam

namespace Go.Zam
set_option linter.all false
set_option maxRecDepth 100000
set_option maxHeartbeats 1000000

namespace N
end N

/-- a key or a sign stands there -/
def isT (L : List Tk) (i : Nat) (x : Bs) : Bool := match L[i]? with
  | some t => (decide (t.k = 2) || decide (t.k = 5)) && decide (t.x = x)
  | none => false
/-- the kind of the token there -/
def kdT (L : List Tk) (i : Nat) : Int := match L[i]? with
  | some t => t.k
  | none => 0
/-! it goes on, and there is time -/

section
variable {L : List Tk}

/-! there is time -/

end
end Go.Zam

namespace Go.Zam
set_option linter.all false
set_option maxRecDepth 100000

end Go.Zam

namespace Go.Zam
set_option linter.all false
set_option maxRecDepth 100000
set_option maxHeartbeats 1000000

/-- the functions' numbers -/
structure PF where
  (now fail is took want word node done put list file use_ def_ params param typed kind tfield block stmt sets expr with_ sum term post atom entry : FuncId)
  (tn tt tp tb : TypeId)

/-- where it is; the token at which it couldn't go on -/
abbrev PSt := Nat × Option Nat

def tookB (L : List Tk) (x : Bs) (s : PSt) : Bool := s.2.isNone && isT L s.1 x
def tookS (L : List Tk) (x : Bs) (s : PSt) : PSt := if tookB L x s then (s.1 + 1, s.2) else s
def failS (s : PSt) : PSt := if s.2.isNone then (s.1, some s.1) else s
def wantS (L : List Tk) (x : Bs) (s : PSt) : PSt := if tookB L x s then (s.1 + 1, s.2) else failS s
def wordOkB (L : List Tk) (s : PSt) : Bool := s.2.isNone && decide (kdT L s.1 = 1)
def wordS (L : List Tk) (s : PSt) : PSt := if wordOkB L s then (s.1 + 1, s.2) else if kdT L s.1 = 1 then s else failS s

section
variable {P : Program} {F : PF} {z : Bool} {L : List Tk} {H : Hp} {i : Nat} {s : PSt}

end
end Go.Zam

namespace Go.Zam
set_option linter.all false
set_option maxRecDepth 100000
set_option maxHeartbeats 1000000

@[simp] theorem gS (H : Hp) (i : Nat) (o : Ob) (X : Hp) (k : Nat) : (List.set H i o ++ X)[H.length + k]? = X[k]? := by
  rw [List.getElem?_append_right (by simp)]; simp
@[simp] theorem gS0 (H : Hp) (i : Nat) (o : Ob) (X : Hp) : (List.set H i o ++ X)[H.length]? = X[0]? := gS H i o X 0
@[simp] theorem sS (H : Hp) (i : Nat) (o : Ob) (X : Hp) (k : Nat) (x : Ob) : (List.set H i o ++ X).set (H.length + k) x = List.set H i o ++ X.set k x := by
  rw [List.set_append_right _ _ (by simp)]; simp
@[simp] theorem sS0 (H : Hp) (i : Nat) (o : Ob) (X : Hp) (x : Ob) : (List.set H i o ++ X).set H.length x = List.set H i o ++ X.set 0 x := sS H i o X 0 x

section
variable {P : Program} {F : PF} {z : Bool} {L : List Tk} {H X : Hp} {i : Nat} {s : PSt}

end

/-! what a row of steps comes to -/

section
variable {L : List Tk} {x : Bs} {p q : Nat}
@[simp] theorem tookB_some : tookB L x (p, some q) = false := rfl
@[simp] theorem tookB_none : tookB L x (p, none) = isT L p x := by simp [tookB]
@[simp] theorem tookS_some : tookS L x (p, some q) = (p, some q) := rfl
@[simp] theorem tookS_none : tookS L x (p, none) = if isT L p x then (p + 1, none) else (p, none) := by simp [tookS]
@[simp] theorem failS_some : failS (p, some q) = (p, some q) := rfl
@[simp] theorem failS_none : failS (p, none) = (p, some p) := rfl
@[simp] theorem wantS_some : wantS L x (p, some q) = (p, some q) := rfl
@[simp] theorem wantS_none : wantS L x (p, none) = if isT L p x then (p + 1, none) else (p, some p) := by simp [wantS]
@[simp] theorem wordOkB_some : wordOkB L (p, some q) = false := rfl
@[simp] theorem wordOkB_none : wordOkB L (p, none) = decide (kdT L p = 1) := by simp [wordOkB]
@[simp] theorem wordS_some : wordS L (p, some q) = (p, some q) := by unfold wordS; simp
@[simp] theorem wordS_none : wordS L (p, none) = if kdT L p = 1 then (p + 1, none) else (p, some p) := by unfold wordS; by_cases h : kdT L p = 1 <;> simp [h]

end

end Go.Zam

namespace Go.Zam
set_option linter.all false
set_option maxRecDepth 100000
set_option maxHeartbeats 1000000

section
variable {P : Program} {F : PF} {z : Bool} {L : List Tk}

end
end Go.Zam

namespace Go.Zam
set_option linter.all false
set_option maxRecDepth 100000
set_option maxHeartbeats 1000000

section
variable {P : Program} {F : PF} {z : Bool} {L : List Tk}

end
end Go.Zam

namespace Go.Zam
set_option linter.all false
set_option maxRecDepth 100000
set_option maxHeartbeats 1000000

section
variable {P : Program} {F : PF} {z : Bool} {L : List Tk}

end
end Go.Zam

namespace Go.Zam
set_option linter.all false
set_option maxRecDepth 100000
set_option maxHeartbeats 1000000

section
variable {P : Program} {F : PF} {z : Bool} {L : List Tk}

end
end Go.Zam

namespace Go.Zam
set_option linter.all false
set_option maxRecDepth 100000
set_option maxHeartbeats 1000000

section
variable {P : Program} {F : PF} {z : Bool} {L : List Tk}

end
end Go.Zam

namespace Go.Zam
set_option linter.all false
set_option maxRecDepth 100000
set_option maxHeartbeats 1000000

section
variable {P : Program} {F : PF} {z : Bool} {L : List Tk}

end
end Go.Zam

namespace Go.Zam
set_option linter.all false
set_option maxRecDepth 100000
set_option maxHeartbeats 1000000

section
variable {P : Program} {F : PF} {z : Bool} {L : List Tk}

end
end Go.Zam

namespace Go.Zam
set_option linter.all false
set_option maxRecDepth 100000
set_option maxHeartbeats 1000000

section
variable {P : Program} {F : PF} {z : Bool} {L : List Tk}

end
end Go.Zam

namespace Go.Zam
set_option linter.all false
set_option maxRecDepth 100000
set_option maxHeartbeats 1000000

/-! how great a tree out of tokens is -/

section
variable {L : List Tk} {i A B : Nat}
end
end Go.Zam

namespace Go.Zam
set_option linter.all false
set_option maxRecDepth 100000
set_option maxHeartbeats 1000000

section
variable {P : Program}

end

section
variable {P : Program} {F : PF} {z : Bool} {L : List Tk}

end
end Go.Zam

namespace Go.Zam
set_option linter.all false
set_option maxRecDepth 100000
set_option maxHeartbeats 1000000

section
variable {bt : TypeId} {H X : Hp} {b t : Nat} {bs bs' : Bs}
end

section
variable {P : Program}

end
end Go.Zam

namespace Go.Zam
open Go Go.Proofs Go.Lib
open Go.RowKit (Below)
open Go.ChangeShapes Go.RowKit
set_option linter.all false
set_option maxRecDepth 100000

theorem arg_str_of {P : Program} {t : TypeId} (hu : P.underlying t = some .string) : ∀ {n : Nat} {ds : List D} {a : A} (h : Typed P n t ds) (ha : ArgOf P t ds a), ∃ s : List UInt8, a = .d (.str s) ∧ s.length ≤ D.bulkC ds ∧ s.length + 1 ≤ D.bulkC ds := by
  intro n ds a h ha
  obtain ⟨x, rfl⟩ := typed_str hu h
  exact ⟨x, argOf_one (by rw [hu]; simp) ha, by simp only [D.bulkC, D.bulk]; omega, by simp only [D.bulkC, D.bulk]; omega⟩

end Go.Zam

namespace Go.Proofs
open Go.Shelf
set_option maxRecDepth 100000
def Tryd.lays137_ren : Go.Shelf.Ren := ⟨fun | 137 => 72 | 217 => 81 | 266 => 85 | n => n, fun | 9 => 9 | 5 => 5 | 3 => 3 | n => n, fun | n => n⟩
theorem Tryd.lays137 : Go.Proofs.Lays.n137 Tryd.prog Tryd.lays137_ren := {
  mixed := by kernel_rfl
  f137 := Tryd.func72.trans (congrArg some (by kernel_rfl))
  f217 := Tryd.func81.trans (congrArg some (by kernel_rfl))
  f266 := Tryd.func85.trans (congrArg some (by kernel_rfl))
  t3 := Tryd.underlying3
  a3 := Tryd.isAgg3
  z3 := Tryd.sizeOf3
  v3 := Tryd.zeroValue3
  t5 := Tryd.underlying5
  a5 := Tryd.isAgg5
  z5 := Tryd.sizeOf5
  v5 := Tryd.zeroValue5
  t9 := Tryd.underlying9
  a9 := Tryd.isAgg9
  z9 := Tryd.sizeOf9
  v9 := Tryd.zeroValue9 }
open Go.RowKit in
theorem Tryd.strings_IndexByte (s : ByteArray) (c : Int) (w : World) :
    Calls Tryd.prog 72 #[.string s, .int .u8 c] w fun e w' => e = .returned (.int .i64 (Lib.indexByte s.data.toList c.toNat.toUInt8)) ∧ w' = w := Any.strings_IndexByte Tryd.lays137 s c w
def Tryd.laysPu14_ren : Go.Shelf.Ren := ⟨fun | 14 => 64 | 16 => 70 | 17 => 71 | 19 => 75 | 20 => 76 | 21 => 77 | 22 => 78 | 23 => 79 | 24 => 80 | 25 => 82 | 27 => 84 | 26 => 83 | 28 => 86 | 29 => 87 | 30 => 88 | 31 => 89 | 32 => 90 | 33 => 91 | 35 => 93 | 34 => 92 | 36 => 94 | 37 => 95 | 38 => 96 | 39 => 97 | 40 => 98 | n => n, fun | 9 => 9 | 3 => 3 | 22 => 113 | 24 => 65 | 25 => 114 | 4 => 4 | 34 => 126 | 5 => 5 | 36 => 109 | 37 => 61 | 0 => 0 | 39 => 128 | 21 => 21 | 44 => 133 | 47 => 92 | 50 => 138 | 48 => 136 | 2 => 2 | 52 => 140 | 55 => 143 | 59 => 146 | 60 => 147 | 20 => 20 | 61 => 148 | 65 => 152 | 66 => 153 | 67 => 68 | n => n, fun | 0 => 2 | 1 => 3 | 2 => 5 | 3 => 6 | 4 => 7 | n => n⟩
theorem Tryd.laysPu14 : Go.Proofs.LaysPu.n14 Tryd.prog Tryd.laysPu14_ren := {
  mixed := by kernel_rfl
  f14 := Tryd.func64.trans (congrArg some (by kernel_rfl))
  f16 := Tryd.func70.trans (congrArg some (by kernel_rfl))
  f17 := Tryd.func71.trans (congrArg some (by kernel_rfl))
  f19 := Tryd.func75.trans (congrArg some (by kernel_rfl))
  f20 := Tryd.func76.trans (congrArg some (by kernel_rfl))
  f21 := Tryd.func77.trans (congrArg some (by kernel_rfl))
  f22 := Tryd.func78.trans (congrArg some (by kernel_rfl))
  f23 := Tryd.func79.trans (congrArg some (by kernel_rfl))
  f24 := Tryd.func80.trans (congrArg some (by kernel_rfl))
  f25 := Tryd.func82.trans (congrArg some (by kernel_rfl))
  f26 := Tryd.func83.trans (congrArg some (by kernel_rfl))
  f27 := Tryd.func84.trans (congrArg some (by kernel_rfl))
  f28 := Tryd.func86.trans (congrArg some (by kernel_rfl))
  f29 := Tryd.func87.trans (congrArg some (by kernel_rfl))
  f30 := Tryd.func88.trans (congrArg some (by kernel_rfl))
  f31 := Tryd.func89.trans (congrArg some (by kernel_rfl))
  f32 := Tryd.func90.trans (congrArg some (by kernel_rfl))
  f33 := Tryd.func91.trans (congrArg some (by kernel_rfl))
  f34 := Tryd.func92.trans (congrArg some (by kernel_rfl))
  f35 := Tryd.func93.trans (congrArg some (by kernel_rfl))
  f36 := Tryd.func94.trans (congrArg some (by kernel_rfl))
  f37 := Tryd.func95.trans (congrArg some (by kernel_rfl))
  f38 := Tryd.func96.trans (congrArg some (by kernel_rfl))
  f39 := Tryd.func97.trans (congrArg some (by kernel_rfl))
  f40 := Tryd.func98.trans (congrArg some (by kernel_rfl))
  t0 := Tryd.underlying0
  a0 := Tryd.isAgg0
  z0 := Tryd.sizeOf0
  v0 := Tryd.zeroValue0
  i0 := by kernel_rfl
  t2 := Tryd.underlying2
  a2 := Tryd.isAgg2
  z2 := Tryd.sizeOf2
  v2 := Tryd.zeroValue2
  i2 := by kernel_rfl
  t3 := Tryd.underlying3
  a3 := Tryd.isAgg3
  z3 := Tryd.sizeOf3
  v3 := Tryd.zeroValue3
  i3 := by kernel_rfl
  t4 := Tryd.underlying4
  a4 := Tryd.isAgg4
  z4 := Tryd.sizeOf4
  v4 := Tryd.zeroValue4
  i4 := by kernel_rfl
  t5 := Tryd.underlying5
  a5 := Tryd.isAgg5
  z5 := Tryd.sizeOf5
  v5 := Tryd.zeroValue5
  i5 := by kernel_rfl
  t9 := Tryd.underlying9
  a9 := Tryd.isAgg9
  z9 := Tryd.sizeOf9
  v9 := Tryd.zeroValue9
  i9 := by kernel_rfl
  t20 := Tryd.underlying20
  a20 := Tryd.isAgg20
  z20 := Tryd.sizeOf20
  v20 := Tryd.zeroValue20
  i20 := by kernel_rfl
  t21 := Tryd.underlying21
  a21 := Tryd.isAgg21
  z21 := Tryd.sizeOf21
  v21 := Tryd.zeroValue21
  i21 := by kernel_rfl
  t22 := Tryd.underlying113
  a22 := Tryd.isAgg113
  z22 := Tryd.sizeOf113
  v22 := Tryd.zeroValue113
  i22 := by kernel_rfl
  t24 := Tryd.underlying65
  a24 := Tryd.isAgg65
  z24 := Tryd.sizeOf65
  v24 := Tryd.zeroValue65
  i24 := by kernel_rfl
  t25 := Tryd.underlying114
  a25 := Tryd.isAgg114
  z25 := Tryd.sizeOf114
  v25 := Tryd.zeroValue114
  i25 := by kernel_rfl
  t34 := Tryd.underlying126
  a34 := Tryd.isAgg126
  z34 := Tryd.sizeOf126
  v34 := Tryd.zeroValue126
  i34 := by kernel_rfl
  c34 := by kernel_rfl
  t36 := Tryd.underlying109
  a36 := Tryd.isAgg109
  z36 := Tryd.sizeOf109
  v36 := Tryd.zeroValue109
  i36 := by kernel_rfl
  t37 := Tryd.underlying61
  a37 := Tryd.isAgg61
  z37 := Tryd.sizeOf61
  v37 := Tryd.zeroValue61
  i37 := by kernel_rfl
  t39 := Tryd.underlying128
  a39 := Tryd.isAgg128
  z39 := Tryd.sizeOf128
  v39 := Tryd.zeroValue128
  i39 := by kernel_rfl
  t44 := Tryd.underlying133
  a44 := Tryd.isAgg133
  z44 := Tryd.sizeOf133
  v44 := Tryd.zeroValue133
  i44 := by kernel_rfl
  t47 := Tryd.underlying92
  a47 := Tryd.isAgg92
  z47 := Tryd.sizeOf92
  v47 := Tryd.zeroValue92
  i47 := by kernel_rfl
  t48 := Tryd.underlying136
  a48 := Tryd.isAgg136
  z48 := Tryd.sizeOf136
  v48 := Tryd.zeroValue136
  i48 := by kernel_rfl
  t50 := Tryd.underlying138
  a50 := Tryd.isAgg138
  z50 := Tryd.sizeOf138
  v50 := Tryd.zeroValue138
  i50 := by kernel_rfl
  t52 := Tryd.underlying140
  a52 := Tryd.isAgg140
  z52 := Tryd.sizeOf140
  v52 := Tryd.zeroValue140
  i52 := by kernel_rfl
  t55 := Tryd.underlying143
  a55 := Tryd.isAgg143
  z55 := Tryd.sizeOf143
  v55 := Tryd.zeroValue143
  i55 := by kernel_rfl
  t59 := Tryd.underlying146
  a59 := Tryd.isAgg146
  z59 := Tryd.sizeOf146
  v59 := Tryd.zeroValue146
  i59 := by kernel_rfl
  t60 := Tryd.underlying147
  a60 := Tryd.isAgg147
  z60 := Tryd.sizeOf147
  v60 := Tryd.zeroValue147
  i60 := by kernel_rfl
  t61 := Tryd.underlying148
  a61 := Tryd.isAgg148
  z61 := Tryd.sizeOf148
  t65 := Tryd.underlying152
  a65 := Tryd.isAgg152
  z65 := Tryd.sizeOf152
  v65 := Tryd.zeroValue152
  i65 := by kernel_rfl
  t66 := Tryd.underlying153
  a66 := Tryd.isAgg153
  z66 := Tryd.sizeOf153
  v66 := Tryd.zeroValue153
  i66 := by kernel_rfl
  t67 := Tryd.underlying68
  a67 := Tryd.isAgg68
  z67 := Tryd.sizeOf68
  v67 := Tryd.zeroValue68
  i67 := by kernel_rfl
  g0 := by kernel_rfl
  m0 := by kernel_rfl
  g1 := by kernel_rfl
  m1 := by kernel_rfl
  g2 := by kernel_rfl
  m2 := by kernel_rfl
  g3 := by kernel_rfl
  m3 := by kernel_rfl
  g4 := by kernel_rfl
  m4 := by kernel_rfl }
def Tryd.lays99_ren : Go.Shelf.Ren := ⟨fun | 99 => 67 | 206 => 74 | n => n, fun | 9 => 9 | 4 => 4 | 3 => 3 | n => n, fun | n => n⟩
theorem Tryd.lays99 : Go.Proofs.Lays.n99 Tryd.prog Tryd.lays99_ren := {
  mixed := by kernel_rfl
  f99 := Tryd.func67.trans (congrArg some (by kernel_rfl))
  f206 := Tryd.func74.trans (congrArg some (by kernel_rfl))
  t3 := Tryd.underlying3
  a3 := Tryd.isAgg3
  z3 := Tryd.sizeOf3
  v3 := Tryd.zeroValue3
  t4 := Tryd.underlying4
  a4 := Tryd.isAgg4
  z4 := Tryd.sizeOf4
  v4 := Tryd.zeroValue4
  t9 := Tryd.underlying9
  a9 := Tryd.isAgg9
  z9 := Tryd.sizeOf9
  v9 := Tryd.zeroValue9 }
open Go.RowKit Go.Lib in
theorem Tryd.strings_HasPrefix (s p : ByteArray) (w : World) :
    Calls Tryd.prog 67 #[.string s, .string p] w fun e w' => e = .returned (.bool (Lib.hasPrefix s.data.toList p.data.toList)) ∧ w' = w := Any.strings_HasPrefix Tryd.lays99 s p w
def Tryd.lays197_ren : Go.Shelf.Ren := ⟨fun | 197 => 43 | 260 => 60 | n => n, fun | 9 => 9 | 21 => 21 | 3 => 3 | 4 => 4 | 5 => 5 | 105 => 95 | 119 => 118 | 0 => 0 | 46 => 109 | 139 => 121 | 138 => 120 | n => n, fun | 3 => 0 | 4 => 1 | n => n⟩
theorem Tryd.lays197 : Go.Proofs.Lays.n197 Tryd.prog Tryd.lays197_ren := {
  mixed := by kernel_rfl
  f197 := Tryd.func43.trans (congrArg some (by kernel_rfl))
  f260 := Tryd.func60.trans (congrArg some (by kernel_rfl))
  t0 := Tryd.underlying0
  a0 := Tryd.isAgg0
  z0 := Tryd.sizeOf0
  v0 := Tryd.zeroValue0
  t3 := Tryd.underlying3
  a3 := Tryd.isAgg3
  z3 := Tryd.sizeOf3
  v3 := Tryd.zeroValue3
  t4 := Tryd.underlying4
  a4 := Tryd.isAgg4
  z4 := Tryd.sizeOf4
  v4 := Tryd.zeroValue4
  t5 := Tryd.underlying5
  a5 := Tryd.isAgg5
  z5 := Tryd.sizeOf5
  v5 := Tryd.zeroValue5
  t9 := Tryd.underlying9
  a9 := Tryd.isAgg9
  z9 := Tryd.sizeOf9
  v9 := Tryd.zeroValue9
  t21 := Tryd.underlying21
  a21 := Tryd.isAgg21
  z21 := Tryd.sizeOf21
  v21 := Tryd.zeroValue21
  t46 := Tryd.underlying109
  a46 := Tryd.isAgg109
  z46 := Tryd.sizeOf109
  v46 := Tryd.zeroValue109
  t105 := Tryd.underlying95
  a105 := Tryd.isAgg95
  z105 := Tryd.sizeOf95
  v105 := Tryd.zeroValue95
  t119 := Tryd.underlying118
  a119 := Tryd.isAgg118
  z119 := Tryd.sizeOf118
  t138 := Tryd.underlying120
  a138 := Tryd.isAgg120
  z138 := Tryd.sizeOf120
  v138 := Tryd.zeroValue120
  t139 := Tryd.underlying121
  a139 := Tryd.isAgg121
  z139 := Tryd.sizeOf121
  v139 := Tryd.zeroValue121
  g3 := by kernel_rfl
  g4 := by kernel_rfl }
def Tryd.lays260_ren : Go.Shelf.Ren := ⟨fun | 260 => 60 | n => n, fun | 9 => 9 | 21 => 21 | 3 => 3 | 4 => 4 | 5 => 5 | 119 => 118 | 0 => 0 | 46 => 109 | 139 => 121 | 138 => 120 | n => n, fun | 3 => 0 | 4 => 1 | n => n⟩
theorem Tryd.lays260 : Go.Proofs.Lays.n260 Tryd.prog Tryd.lays260_ren := {
  mixed := by kernel_rfl
  f260 := Tryd.func60.trans (congrArg some (by kernel_rfl))
  t0 := Tryd.underlying0
  a0 := Tryd.isAgg0
  z0 := Tryd.sizeOf0
  v0 := Tryd.zeroValue0
  t3 := Tryd.underlying3
  a3 := Tryd.isAgg3
  z3 := Tryd.sizeOf3
  v3 := Tryd.zeroValue3
  t4 := Tryd.underlying4
  a4 := Tryd.isAgg4
  z4 := Tryd.sizeOf4
  v4 := Tryd.zeroValue4
  t5 := Tryd.underlying5
  a5 := Tryd.isAgg5
  z5 := Tryd.sizeOf5
  v5 := Tryd.zeroValue5
  t9 := Tryd.underlying9
  a9 := Tryd.isAgg9
  z9 := Tryd.sizeOf9
  v9 := Tryd.zeroValue9
  t21 := Tryd.underlying21
  a21 := Tryd.isAgg21
  z21 := Tryd.sizeOf21
  v21 := Tryd.zeroValue21
  t46 := Tryd.underlying109
  a46 := Tryd.isAgg109
  z46 := Tryd.sizeOf109
  v46 := Tryd.zeroValue109
  t119 := Tryd.underlying118
  a119 := Tryd.isAgg118
  z119 := Tryd.sizeOf118
  t138 := Tryd.underlying120
  a138 := Tryd.isAgg120
  z138 := Tryd.sizeOf120
  v138 := Tryd.zeroValue120
  t139 := Tryd.underlying121
  a139 := Tryd.isAgg121
  z139 := Tryd.sizeOf121
  v139 := Tryd.zeroValue121
  g3 := by kernel_rfl
  g4 := by kernel_rfl }
open Go.RowKit Go.Lib in
theorem Tryd.utf8_DecodeRuneInString (s : ByteArray) (w : World) (hT : Lib.Utf8Tabs 0 1 w) :
    Calls Tryd.prog 43 #[.string s] w fun e w' => e = .returned (.tuple #[.int .i32 (Lib.decodeGo s).1, .int .i64 (Lib.decodeGo s).2]) ∧ Below w.heap.size w w' := Any.utf8_DecodeRuneInString Tryd.lays197 s w hT
end Go.Proofs

namespace Go.Proofs.YtffdeeooocookaaDoor
open Go Go.Zam
open Go.ChangeShapes Go.WideShapes Go.ChangeAt Go.RowKit
set_option linter.all false

theorem isBulk (H : Type) : IsBulk (X := H) Rows.uptoBulk Rows.uptoBulkAll where
  str := fun b => by simp [Rows.uptoBulk]
  bool := fun b => by simp [Rows.uptoBulk]
  int := fun k n => by simp [Rows.uptoBulk]
  nil := by simp [Rows.uptoBulk]
  slice := fun e s => by simp only [Rows.uptoBulk]; omega
  agg := fun p => by simp only [Rows.uptoBulk]; omega
  cons := fun d r => by simp only [Rows.uptoBulkAll]; omega

theorem own : ownKnob Tryd.prog.godebug = none := by kernel_rfl
theorem laidOut : laidOutB Tryd.prog = true := by kernel_rfl

/-- a datum's cells, where it is data -/
def litCell : DataW Unit → Value
  | .lit (.int k n) => .int k n
  | .lit (.string s) => .string ⟨s.toArray⟩
  | _ => .tuple #[]
def litCells : DataW Unit → List Value
  | .agg l => l.map litCell
  | x => [litCell x]
def tabCells : DataW Unit → Array Value
  | .agg l => (l.flatMap litCells).toArray
  | _ => #[]
def put (g : Nat) (cs : Array Value) (h : Array Obj) : Array Obj := h.modify g fun
  | .cells _ t frozen => .cells cs t frozen
  | o => o

/-- a world for the witness: the settled one, the variables as their initialisers lay them -/
noncomputable def laidWorld (os : Os) : World :=
  let w0 := World.holding Tryd.prog os ⟨#[.cells #[.string ⟨#[118, 97, 108, 117, 101, 32, 111, 117, 116, 32, 111, 102, 32, 114, 97, 110, 103, 101]⟩] 138, .cells #[.string ⟨#[105, 110, 118, 97, 108, 105, 100, 32, 115, 121, 110, 116, 97, 120]⟩] 138], #[], []⟩
  let N := (World.settled Tryd.prog os).heap.size
  { w0 with heap := put 3 #[.iface 136 (.pointer (some ⟨N, 0, none⟩))] (put 2 #[.iface 136 (.pointer (some ⟨N + 1, 0, none⟩))] (put 0 (tabCells Rows.laid_unicode_utf8_first) (put 1 (tabCells Rows.laid_unicode_utf8_acceptRanges) (put 5 (tabCells Rows.laid_internal_strconv_uint64pow10) (put 7 (tabCells Rows.laid_math_bits_deBruijn64tab) (put 6 (tabCells Rows.laid_math_bits_deBruijn32tab) w0.heap)))))) }

theorem star : "*" ++ "errors.errorString" = "*errors.errorString" := by decide
theorem rowErr (u : TypeId) (h : Tryd.prog.typeName? 3 u = some "*errors.errorString") : u = 136 :=
  typeName_ptr_named (nm := "errors.errorString") (by rw [star]; kernel_rfl) (by kernel_rfl) (by decide) u (by rw [star]; exact h)

set_option maxRecDepth 100000 in
theorem laidOb {W : World} (h : laidMetH Tryd.prog Rows.changeDoesUptoRow.laid W) : ∃ H0, LaidOb W H0 ∧ TabsG 0 1 2 3 H0 := by
  have h' : laidMet Tryd.prog Rows.changeDoesUptoRow.laid W := by
    rw [MakeChecks.laidMetH_plain _ _ _ (by kernel_rfl)] at h
    exact h
  have e1 : Rows.laid_unicode_utf8_first = Lib.firstData := by kernel_rfl
  have e2 : Rows.laid_unicode_utf8_acceptRanges = Lib.acceptData := by kernel_rfl
  have hU : Lib.Utf8Tabs 0 1 W :=
    utf8Tabs_of_reads (ρ := Tryd.lays260_ren) { Tryd.lays260 with } ⟨by kernel_rfl, by kernel_rfl, by kernel_rfl, by kernel_rfl, by kernel_rfl, by kernel_rfl, by kernel_rfl⟩
      (e1 ▸ Lib.laidMet.reads h' (.tail _ (.tail _ (.tail _ (.tail _ (.tail _ (.tail _ (.head _)))))))) (e2 ▸ Lib.laidMet.reads h' (.tail _ (.tail _ (.tail _ (.head _)))))
  obtain ⟨a1, t1, hv1, -⟩ := laid_sentinel (g := 3) h'.tail.tail.tail.tail (by kernel_rfl) (by kernel_rfl) Tryd.underlying65 rowErr Tryd.underlying136 Tryd.underlying138 rfl rfl Tryd.underlying9 (by kernel_rfl) (by kernel_rfl)
  obtain ⟨a0, t0, hv0, -⟩ := laid_sentinel (g := 2) h'.tail.tail.tail.tail.tail (by kernel_rfl) (by kernel_rfl) Tryd.underlying65 rowErr Tryd.underlying136 Tryd.underlying138 rfl rfl Tryd.underlying9 (by kernel_rfl) (by kernel_rfl)
  obtain ⟨H1, hL1, hG1⟩ := laid_heap hU ⟨_, _, by rw [World.var?_cell (show Tryd.prog.globalNamed "strconv.ErrSyntax" = some 2 by kernel_rfl) hv0 0]; rfl⟩ ⟨_, _, by rw [World.var?_cell (show Tryd.prog.globalNamed "strconv.ErrRange" = some 3 by kernel_rfl) hv1 0]; rfl⟩
  exact ⟨H1, hL1, hG1⟩

theorem met (os : Os) (args : Array Value) : laidMet Tryd.prog Rows.changeDoesUptoRow.laid ((laidWorld os).forCall (fun _ _ => 0) ⟨#[], args, []⟩).memory := laidMet_of_run' 8 (by kernel_rfl) (by kernel_rfl)

theorem arg_str : ∀ {n : Nat} {ds : List D} {a : A} (h : Typed Tryd.prog n 9 ds) (ha : ArgOf Tryd.prog 9 ds a), ∃ s : List UInt8, a = .d (.str s) ∧ s.length ≤ D.bulkC ds ∧ s.length + 1 ≤ D.bulkC ds :=
  @arg_str_of Tryd.prog 9 Tryd.underlying9

end Go.Proofs.YtffdeeooocookaaDoor

namespace Go.Zam
set_option linter.all false
set_option maxRecDepth 100000

end Go.Zam

namespace Go.Zam
set_option linter.all false
set_option maxRecDepth 100000
set_option maxHeartbeats 2000000

end Go.Zam

namespace Go.Zam
set_option linter.all false
set_option maxRecDepth 100000
set_option maxHeartbeats 2000000

end Go.Zam

namespace Go.Zam
set_option linter.all false
set_option maxRecDepth 100000
set_option maxHeartbeats 1000000

section
variable {P : Program}

end
end Go.Zam

namespace Go.Zam
set_option linter.all false
set_option maxRecDepth 100000
set_option maxHeartbeats 1000000

section
variable {P : Program}

end
end Go.Zam

namespace Go.Zam
set_option linter.all false
set_option maxRecDepth 100000
set_option maxHeartbeats 2000000

end Go.Zam

namespace Go.Zam
set_option linter.all false
set_option maxRecDepth 100000
set_option maxHeartbeats 2000000

end Go.Zam

namespace Go.Zam
set_option linter.all false
set_option maxRecDepth 100000
set_option maxHeartbeats 1000000

section
variable {P : Program}

end
end Go.Zam

namespace Go.Zam
set_option linter.all false
set_option maxRecDepth 100000
set_option maxHeartbeats 1000000

section
variable {P : Program}

end
end Go.Zam

namespace Go.Zam
set_option linter.all false
set_option maxRecDepth 100000

/-- how many members two lists can keep -/
def lcs : List Bs → List Bs → Nat
  | [], _ => 0
  | _ :: _, [] => 0
  | a :: A, b :: B => if a = b then lcs A B + 1 else max (lcs A (b :: B)) (lcs (a :: A) B)
termination_by A B => A.length + B.length

def IsLcs (A B : List Bs) (n : Nat) : Prop := (∃ C : List Bs, C.Sublist A ∧ C.Sublist B ∧ C.length = n) ∧ ∀ C : List Bs, C.Sublist A → C.Sublist B → C.length ≤ n

theorem isLcs_cons {a : Bs} {A B : List Bs} {n : Nat} (h : IsLcs A B n) : IsLcs (a :: A) (a :: B) (n + 1) := by
  obtain ⟨⟨C, c1, c2, c3⟩, h2⟩ := h
  refine ⟨⟨a :: C, c1.cons_cons a, c2.cons_cons a, by simp [c3]⟩, fun D d1 d2 => ?_⟩
  cases D with
  | nil => simp
  | cons d D =>
    have e1 : D.Sublist A := by
      cases d1 with
      | cons _ h => exact (List.sublist_cons_self d D).trans h
      | cons_cons _ h => exact h
    have e2 : D.Sublist B := by
      cases d2 with
      | cons _ h => exact (List.sublist_cons_self d D).trans h
      | cons_cons _ h => exact h
    have := h2 D e1 e2
    simp; omega

theorem isLcs_ne {a b : Bs} {A B : List Bs} {n m : Nat} (hab : a ≠ b) (h1 : IsLcs A (b :: B) n) (h2 : IsLcs (a :: A) B m) : IsLcs (a :: A) (b :: B) (max n m) := by
  obtain ⟨⟨C, c1, c2, c3⟩, g1⟩ := h1
  obtain ⟨⟨D, d1, d2, d3⟩, g2⟩ := h2
  refine ⟨?_, fun E e1 e2 => ?_⟩
  · rcases Nat.le_total n m with h | h
    · exact ⟨D, d1, d2.cons b, by rw [d3]; omega⟩
    · exact ⟨C, c1.cons a, c2, by rw [c3]; omega⟩
  · cases e1 with
    | cons _ h => have := g1 E h e2; omega
    | cons_cons _ h =>
      cases e2 with
      | cons _ h' => have := g2 _ (h.cons_cons a) h'; omega
      | cons_cons _ h' => exact absurd rfl hab

theorem lcs_is : ∀ (A B : List Bs), IsLcs A B (lcs A B)
  | [], B => by
    rw [lcs]
    exact ⟨⟨[], List.nil_sublist _, List.nil_sublist _, rfl⟩, fun C c _ => by rw [List.sublist_nil.1 c]; simp⟩
  | a :: A, [] => by
    rw [lcs]
    exact ⟨⟨[], List.nil_sublist _, List.nil_sublist _, rfl⟩, fun C _ c => by rw [List.sublist_nil.1 c]; simp⟩
  | a :: A, b :: B => by
    rw [lcs]
    by_cases h : a = b
    · subst h
      rw [if_pos rfl]
      exact isLcs_cons (lcs_is A B)
    · rw [if_neg h]
      exact isLcs_ne h (lcs_is A (b :: B)) (lcs_is (a :: A) B)
termination_by A B => A.length + B.length

theorem lcs_le (A B : List Bs) : lcs A B ≤ A.length ∧ lcs A B ≤ B.length := by
  obtain ⟨⟨C, c1, c2, c3⟩, -⟩ := lcs_is A B
  exact ⟨by rw [← c3]; exact c1.length_le, by rw [← c3]; exact c2.length_le⟩
end Go.Zam

namespace Go.Zam
set_option linter.all false
set_option maxRecDepth 100000

/-- how many of each list a run takes -/
def skipN : List Bs → List Bs → Nat × Nat
  | [], [] => (0, 0)
  | _ :: A, [] => ((skipN A []).1 + 1, (skipN A []).2)
  | [], _ :: B => ((skipN [] B).1, (skipN [] B).2 + 1)
  | a :: A, b :: B => if a = b then (0, 0) else if lcs (a :: A) B ≤ lcs A (b :: B) then ((skipN A (b :: B)).1 + 1, (skipN A (b :: B)).2) else ((skipN (a :: A) B).1, (skipN (a :: A) B).2 + 1)
termination_by A B => A.length + B.length

/-- both are at their ends, or go on alike -/
def Meet : List Bs → List Bs → Prop
  | [], [] => True
  | a :: _, b :: _ => a = b
  | _, _ => False

theorem lcs_nil (A : List Bs) : lcs A [] = 0 := by cases A <;> rw [lcs]
theorem nil_lcs (A : List Bs) : lcs [] A = 0 := by rw [lcs]

theorem skipN_spec : ∀ (A B : List Bs), (skipN A B).1 ≤ A.length ∧ (skipN A B).2 ≤ B.length ∧ lcs (A.drop (skipN A B).1) (B.drop (skipN A B).2) = lcs A B ∧ Meet (A.drop (skipN A B).1) (B.drop (skipN A B).2) ∧ (¬ Meet A B → 1 ≤ (skipN A B).1 + (skipN A B).2)
  | [], [] => by rw [skipN]; exact ⟨Nat.le_refl _, Nat.le_refl _, rfl, trivial, fun h => absurd trivial h⟩
  | a :: A, [] => by
    obtain ⟨h1, h2, h3, h4, -⟩ := skipN_spec A []
    rw [skipN]
    refine ⟨by simp; omega, h2, ?_, ?_, fun _ => by simp; omega⟩
    · rw [List.drop_succ_cons, h3, lcs_nil, lcs_nil]
    · rw [List.drop_succ_cons]; exact h4
  | [], b :: B => by
    obtain ⟨h1, h2, h3, h4, -⟩ := skipN_spec [] B
    rw [skipN]
    refine ⟨h1, by simp; omega, ?_, ?_, fun _ => by simp; omega⟩
    · rw [List.drop_succ_cons, h3, nil_lcs, nil_lcs]
    · rw [List.drop_succ_cons]; exact h4
  | a :: A, b :: B => by
    rw [skipN]
    by_cases h : a = b
    · rw [if_pos h]
      exact ⟨by simp, by simp, rfl, h, fun hn => absurd h hn⟩
    rw [if_neg h]
    have hl : lcs (a :: A) (b :: B) = max (lcs A (b :: B)) (lcs (a :: A) B) := by rw [lcs, if_neg h]
    by_cases hc : lcs (a :: A) B ≤ lcs A (b :: B)
    · rw [if_pos hc]
      obtain ⟨h1, h2, h3, h4, -⟩ := skipN_spec A (b :: B)
      refine ⟨by simp; omega, h2, ?_, ?_, fun _ => by simp; omega⟩
      · rw [List.drop_succ_cons, h3, hl]; omega
      · rw [List.drop_succ_cons]; exact h4
    · rw [if_neg hc]
      obtain ⟨h1, h2, h3, h4, -⟩ := skipN_spec (a :: A) B
      refine ⟨h1, by simp at h2 ⊢; omega, ?_, ?_, fun _ => by simp; omega⟩
      · rw [List.drop_succ_cons, h3, hl]; omega
      · rw [List.drop_succ_cons]; exact h4
termination_by A B => A.length + B.length

/-- units a up to b are taken out, c up to d are put in -/
structure Rn where
  a : Nat
  b : Nat
  c : Nat
  d : Nat

def headEq : List Bs → List Bs → Bool
  | a :: _, b :: _ => decide (a = b)
  | _, _ => false

def runsF : Nat → List Bs → List Bs → Nat → Nat → List Rn
  | 0, _, _, _, _ => []
  | f + 1, A, B, i, j => if A = [] ∧ B = [] then [] else if headEq A B = true then runsF f A.tail B.tail (i + 1) (j + 1) else
    ⟨i, i + (skipN A B).1, j, j + (skipN A B).2⟩ :: runsF f (A.drop (skipN A B).1) (B.drop (skipN A B).2) (i + (skipN A B).1) (j + (skipN A B).2)

def runsL (A B : List Bs) : List Rn := runsF (A.length + B.length + 1) A B 0 0

/-- runs that lead from one place to the ends -/
inductive Way (o : Prop) (A B : List Bs) : Nat → Nat → List Rn → Prop
  | fin {i j : Nat} (h1 : A.drop i = []) (h2 : B.drop j = []) : Way o A B i j []
  | keep {i j : Nat} {u : Bs} {A' B' : List Bs} {rs : List Rn} (h1 : A.drop i = u :: A') (h2 : B.drop j = u :: B') (h : Way o A B (i + 1) (j + 1) rs) : Way o A B i j rs
  | run {i j x y : Nat} {rs : List Rn} (h0 : ¬ Meet (A.drop i) (B.drop j)) (h1 : i + x ≤ A.length) (h2 : j + y ≤ B.length) (h3 : 1 ≤ x + y) (h4 : Meet (A.drop (i + x)) (B.drop (j + y))) (h5 : o → lcs (A.drop (i + x)) (B.drop (j + y)) = lcs (A.drop i) (B.drop j)) (h : Way o A B (i + x) (j + y) rs) : Way o A B i j (⟨i, i + x, j, j + y⟩ :: rs)

theorem runsF_way {o : Prop} (A B : List Bs) : ∀ (f i j : Nat), i ≤ A.length → j ≤ B.length → (A.drop i).length + (B.drop j).length < f → Way o A B i j (runsF f (A.drop i) (B.drop j) i j)
  | 0, i, j, _, _, h => by omega
  | f + 1, i, j, hi, hj, h => by
    have hsp := skipN_spec (A.drop i) (B.drop j)
    have run : ¬ Meet (A.drop i) (B.drop j) → Way o A B i j (⟨i, i + (skipN (A.drop i) (B.drop j)).1, j, j + (skipN (A.drop i) (B.drop j)).2⟩ :: runsF f ((A.drop i).drop (skipN (A.drop i) (B.drop j)).1) ((B.drop j).drop (skipN (A.drop i) (B.drop j)).2) (i + (skipN (A.drop i) (B.drop j)).1) (j + (skipN (A.drop i) (B.drop j)).2)) := fun hm => by
      obtain ⟨s1, s2, s3, s4, s5⟩ := hsp
      have s5 := s5 hm
      simp only [List.drop_drop, List.length_drop] at s1 s2 s3 s4 h ⊢
      exact .run hm (by omega) (by omega) s5 s4 (fun _ => s3) (runsF_way A B f _ _ (by omega) (by omega) (by simp only [List.length_drop]; omega))
    rw [runsF]
    by_cases hE : A.drop i = [] ∧ B.drop j = []
    · rw [if_pos hE]; exact .fin hE.1 hE.2
    rw [if_neg hE]
    by_cases hh : headEq (A.drop i) (B.drop j) = true
    · rw [if_pos hh]
      cases hA : A.drop i with
      | nil => rw [hA] at hh; simp [headEq] at hh
      | cons a A' =>
        cases hB : B.drop j with
        | nil => rw [hA, hB] at hh; simp [headEq] at hh
        | cons b B' =>
          rw [hA, hB] at hh
          have he : a = b := by simpa [headEq] using hh
          subst he
          have ha : A.drop (i + 1) = A' := by rw [← List.drop_drop, hA]; rfl
          have hb : B.drop (j + 1) = B' := by rw [← List.drop_drop, hB]; rfl
          have li : i < A.length := by
            rcases Nat.lt_or_ge i A.length with q | q
            · exact q
            · rw [List.drop_eq_nil_of_le q] at hA; cases hA
          have lj : j < B.length := by
            rcases Nat.lt_or_ge j B.length with q | q
            · exact q
            · rw [List.drop_eq_nil_of_le q] at hB; cases hB
          have := runsF_way (o := o) A B f (i + 1) (j + 1) (by omega) (by omega) (by simp only [List.length_drop] at h ⊢; omega)
          rw [ha, hb] at this
          exact .keep hA hB this
    · rw [if_neg hh]
      refine run fun hm => ?_
      cases hA : A.drop i with
      | nil =>
        cases hB : B.drop j with
        | nil => exact hE ⟨hA, hB⟩
        | cons b B' => rw [hA, hB] at hm; exact hm
      | cons a A' =>
        cases hB : B.drop j with
        | nil => rw [hA, hB] at hm; exact hm
        | cons b B' => rw [hA, hB] at hm hh; exact hh (by have e : a = b := hm; simp [headEq, e])

theorem runsL_way {o : Prop} (A B : List Bs) : Way o A B 0 0 (runsL A B) := by
  have := runsF_way (o := o) A B (A.length + B.length + 1) 0 0 (Nat.zero_le _) (Nat.zero_le _) (by simp)
  simpa [runsL] using this

end Go.Zam

namespace Go.Zam
set_option linter.all false
set_option maxRecDepth 100000

/-- where a unit begins -/
def posU (A : List Bs) (i : Nat) : Nat := (A.take i).flatten.length

theorem posU_succ {A : List Bs} {i : Nat} {u : Bs} {A' : List Bs} (h : A.drop i = u :: A') : posU A (i + 1) = posU A i + u.length := by
  have hi : i < A.length := by
    rcases Nat.lt_or_ge i A.length with q | q
    · exact q
    · rw [List.drop_eq_nil_of_le q] at h; cases h
  have hu : A[i] = u := by
    have := List.drop_eq_getElem_cons hi
    rw [h] at this
    exact (List.cons.inj this).1.symm
  unfold posU
  rw [List.take_succ_eq_append_getElem hi, List.flatten_append, List.length_append, hu]
  simp
theorem posU_all (A : List Bs) {i : Nat} (h : A.drop i = []) : posU A i = A.flatten.length := by
  unfold posU
  rw [List.take_of_length_le (List.drop_eq_nil_iff.1 h)]
/-- a run as an edit -/
def edR (base : Nat) (A B : List Bs) (r : Rn) : Ed := ⟨((base + posU A r.a : Nat) : Int), ((base + posU A r.b : Nat) : Int), ((B.drop r.c).take (r.d - r.c)).flatten⟩

end Go.Zam
