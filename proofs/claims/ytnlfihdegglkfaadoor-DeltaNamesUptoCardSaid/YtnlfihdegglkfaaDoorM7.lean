/-
  Texts of one proof, one behind the other:  The layers of texts, tokens and deltas at this program: what their functions answer. The lengths are bounded. The document's Sound on the abstract machine: what it computes. No condition. The document's Apply on the abstract machine: it computes what Apply does. The lengths are bounded where a theorem says so. The fifth chapter's laws at this program: the example, the tokens of two texts, DeltaMakes, DeltaTurns. The lengths are bounded. The law DeltaNames at this program. The lengths are bounded.
-/
import Derived.Test.YtnlfihdegglkfaaDoorM3
import Derived.Test.YtnlfihdegglkfaaDoorProg
import Derived.KernelRfl
import Derived.Test.YtnlfihdegglkfaaDoorM6
namespace Go.Proofs.Zd
open Go Go.Zam Go.Proofs
set_option maxRecDepth 100000
/- whetstone/whetstonelaw05.DeltaNames -/
def ir3 : IFn :=
 { nt := 104, res := [.t 6], body := (
  .seq (.ops [
    ⟨(some 6), none, .mv (.c (.bool false))⟩] false)
  (.seq (.ops [
    ⟨(some 18), none, .mv (.t 0)⟩,
    ⟨(some 19), none, .call 7 [(.t 18)]⟩,
    ⟨(some 17), none, .mv (.t 19)⟩,
    ⟨(some 20), none, .ext (.t 17) 0⟩,
    ⟨(some 21), none, .ext (.t 17) 1⟩,
    ⟨(some 22), none, .ext (.t 17) 2⟩,
    ⟨(some 7), none, .mv (.t 20)⟩,
    ⟨(some 8), none, .mv (.t 21)⟩,
    ⟨(some 9), none, .mv (.t 22)⟩] false)
  (.seq (.seq (.ops [
     ⟨(some 23), none, .mv (.t 8)⟩,
     ⟨(some 24), none, .bin .neq (.t 23) (.c (.int .i64 0))⟩,
     ⟨(some 25), none, .mv (.t 24)⟩,
     ⟨(some 26), (some (25, false)), .mv (.t 2)⟩,
     ⟨(some 27), (some (25, false)), .call 8 [(.t 26)]⟩,
     ⟨(some 28), (some (25, false)), .un .not (.t 27)⟩,
     ⟨(some 29), none, .pick (.t 25) (.c (.bool true)) (.t 28)⟩,
     ⟨(some 30), none, .mv (.t 29)⟩,
     ⟨(some 31), (some (30, false)), .mv (.t 7)⟩,
     ⟨(some 32), (some (30, false)), .lenL (.t 31)⟩,
     ⟨(some 33), (some (30, false)), .bin .gtr (.t 32) (.c (.int .i64 300))⟩,
     ⟨(some 34), none, .pick (.t 30) (.c (.bool true)) (.t 33)⟩] false)
   (.cond (.t 34) (.seq (.ops [
      ⟨(some 35), none, .call 9 []⟩,
      ⟨(some 6), none, .mv (.t 35)⟩] false)
    (.ret))
   (.skip)))
  (.seq (.ops [
    ⟨(some 10), none, .mv (.c (.str []))⟩] false)
  (.seq (.seq (.ops [
     ⟨(some 36), none, .mv (.t 7)⟩,
     ⟨(some 37), none, .lenL (.t 36)⟩,
     ⟨(some 38), none, .mv (.c (.int .i64 0))⟩] false)
   (.blk 0 (.loop (.seq (.ops [
       ⟨(some 39), none, .bin .lss (.t 38) (.t 37)⟩] false)
     (.seq (.cond (.t 39) (.skip)
      (.exit 0))
     (.seq (.blk 1 (.seq (.ops [
         ⟨(some 40), none, .mv (.t 38)⟩,
         ⟨(some 41), none, .iaddr 4 (.t 36) (.t 38)⟩,
         ⟨(some 42), none, .load 4 true (.t 41)⟩,
         ⟨(some 12), none, .alloc 28 [(.int .i64 0), (.int .i64 0), (.str []), (.str [])]⟩,
         ⟨(some 11), none, .mv (.t 40)⟩,
         ⟨none, none, .store 4 (.t 12) (.t 42)⟩] false)
       (.seq (.seq (.ops [
          ⟨(some 43), none, .faddr 3 (.t 12)⟩,
          ⟨(some 44), none, .load 1 false (.t 43)⟩,
          ⟨(some 45), none, .mv (.t 2)⟩,
          ⟨(some 46), none, .bin .eql (.t 44) (.t 45)⟩] false)
        (.cond (.t 46) (.seq (.ops [
           ⟨(some 47), none, .call 9 []⟩,
           ⟨(some 6), none, .mv (.t 47)⟩] false)
         (.ret))
        (.skip)))
       (.seq (.ops [
         ⟨(some 48), none, .faddr 0 (.t 12)⟩,
         ⟨(some 49), none, .load 1 false (.t 48)⟩,
         ⟨(some 50), none, .bin .eql (.t 49) (.c (.int .i64 1))⟩,
         ⟨(some 51), none, .mv (.t 50)⟩,
         ⟨(some 52), (some (51, true)), .mv (.t 10)⟩,
         ⟨(some 53), (some (51, true)), .bin .eql (.t 52) (.c (.str []))⟩,
         ⟨(some 54), (some (51, true)), .mv (.t 53)⟩,
         ⟨(some 55), (some (54, false)), .mv (.t 11)⟩,
         ⟨(some 56), (some (54, false)), .mv (.t 1)⟩,
         ⟨(some 57), (some (54, false)), .cvt .i64 (.t 56)⟩,
         ⟨(some 58), (some (54, false)), .bin .leq (.t 55) (.t 57)⟩,
         ⟨(some 59), (some (51, true)), .pick (.t 54) (.c (.bool true)) (.t 58)⟩,
         ⟨(some 60), none, .pick (.t 51) (.t 59) (.c (.bool false))⟩] false)
       (.cond (.t 60) (.ops [
         ⟨(some 61), none, .faddr 3 (.t 12)⟩,
         ⟨(some 62), none, .load 1 false (.t 61)⟩,
         ⟨(some 10), none, .mv (.t 62)⟩] false)
       (.skip))))))
     (.ops [
      ⟨(some 63), none, .bin .add (.t 38) (.c (.int .i64 1))⟩,
      ⟨(some 38), none, .mv (.t 63)⟩] false)))))))
  (.seq (.seq (.ops [
     ⟨(some 64), none, .mv (.t 10)⟩,
     ⟨(some 65), none, .bin .eql (.t 64) (.c (.str []))⟩] false)
   (.cond (.t 65) (.seq (.ops [
      ⟨(some 66), none, .call 9 []⟩,
      ⟨(some 6), none, .mv (.t 66)⟩] false)
    (.ret))
   (.skip)))
  (.seq (.ops [
    ⟨(some 13), none, .nilT 4 28⟩] false)
  (.seq (.ops [
    ⟨(some 14), none, .nilT 3 31⟩] false)
  (.seq (.seq (.ops [
     ⟨(some 67), none, .mv (.t 7)⟩,
     ⟨(some 68), none, .lenL (.t 67)⟩,
     ⟨(some 69), none, .mv (.c (.int .i64 0))⟩] false)
   (.blk 2 (.loop (.seq (.ops [
       ⟨(some 70), none, .bin .lss (.t 69) (.t 68)⟩] false)
     (.seq (.cond (.t 70) (.skip)
      (.exit 2))
     (.seq (.blk 3 (.seq (.ops [
         ⟨(some 71), none, .iaddr 4 (.t 67) (.t 69)⟩,
         ⟨(some 72), none, .load 4 true (.t 71)⟩,
         ⟨(some 16), none, .alloc 28 [(.int .i64 0), (.int .i64 0), (.str []), (.str [])]⟩,
         ⟨none, none, .store 4 (.t 16) (.t 72)⟩] false)
       (.seq (.seq (.ops [
          ⟨(some 73), none, .faddr 3 (.t 16)⟩,
          ⟨(some 74), none, .load 1 false (.t 73)⟩,
          ⟨(some 75), none, .mv (.t 10)⟩,
          ⟨(some 76), none, .bin .eql (.t 74) (.t 75)⟩] false)
        (.cond (.t 76) (.seq (.ops [
           ⟨(some 77), none, .mv (.t 14)⟩,
           ⟨(some 78), none, .faddr 1 (.t 16)⟩,
           ⟨(some 79), none, .load 1 false (.t 78)⟩,
           ⟨(some 80), none, .faddr 1 (.t 16)⟩,
           ⟨(some 81), none, .load 1 false (.t 80)⟩,
           ⟨(some 82), none, .mv (.t 10)⟩,
           ⟨(some 83), none, .lenS (.t 82)⟩,
           ⟨(some 84), none, .bin .add (.t 81) (.t 83)⟩,
           ⟨(some 85), none, .mv (.t 2)⟩,
           ⟨(some 86), none, .build [(.int .i64 0), (.int .i64 0), (.str [])] [(0, 1, (.t 79)), (1, 1, (.t 84)), (2, 1, (.t 85))]⟩,
           ⟨(some 87), none, .bslice 3 [(.t 86)]⟩,
           ⟨(some 88), none, .app 3 32 31 (.t 77) (.t 87)⟩,
           ⟨(some 14), none, .mv (.t 88)⟩] false)
         (.ops [
          ⟨(some 89), none, .mv (.t 2)⟩,
          ⟨(some 90), none, .faddr 3 (.t 16)⟩,
          ⟨none, none, .store 1 (.t 90) (.t 89)⟩] false))
        (.skip)))
       (.ops [
        ⟨(some 91), none, .mv (.t 13)⟩,
        ⟨(some 92), none, .load 4 true (.t 16)⟩,
        ⟨(some 93), none, .bslice 4 [(.t 92)]⟩,
        ⟨(some 94), none, .app 4 48 28 (.t 91) (.t 93)⟩,
        ⟨(some 13), none, .mv (.t 94)⟩] false))))
     (.ops [
      ⟨(some 95), none, .bin .add (.t 69) (.c (.int .i64 1))⟩,
      ⟨(some 69), none, .mv (.t 95)⟩] false)))))))
  (.seq (.ops [
    ⟨(some 96), none, .call 9 []⟩,
    ⟨(some 97), none, .mv (.t 96)⟩,
    ⟨(some 98), (some (97, true)), .mv (.t 7)⟩,
    ⟨(some 99), (some (97, true)), .mv (.t 13)⟩,
    ⟨(some 100), (some (97, true)), .call 11 [(.t 98), (.t 99)]⟩,
    ⟨(some 101), (some (97, true)), .mv (.t 14)⟩,
    ⟨(some 102), (some (97, true)), .call 10 [(.t 100), (.t 101)]⟩,
    ⟨(some 103), none, .pick (.t 97) (.t 102) (.c (.bool false))⟩,
    ⟨(some 6), none, .mv (.t 103)⟩] false)
  (.ret))))))))))) }
theorem cf3 : compF Tryd.prog [14, 13] Tryd.f3 = some ir3 := by kernel_rfl
/- whetstone/whetstonelaw05.DeltaLeast -/
/- whetstone/whetstonelaw05.DeltaTurns -/
/- whetstone/whetstonelaw05.DeltaMakes -/
/- whetstone/whetstonelaw05.awake -/
def ir9 : IFn :=
 { nt := 31, res := [.t 0], body := (
  .seq (.ops [
    ⟨(some 0), none, .mv (.c (.bool false))⟩] false)
  (.seq (.ops [
    ⟨(some 9), none, .call 26 [(.c (.str [97, 32, 98]))]⟩,
    ⟨(some 8), none, .mv (.t 9)⟩,
    ⟨(some 10), none, .ext (.t 8) 0⟩,
    ⟨(some 11), none, .ext (.t 8) 1⟩,
    ⟨(some 12), none, .ext (.t 8) 2⟩,
    ⟨(some 1), none, .mv (.t 10)⟩,
    ⟨(some 2), none, .mv (.t 11)⟩,
    ⟨(some 3), none, .mv (.t 12)⟩] false)
  (.seq (.ops [
    ⟨(some 14), none, .call 26 [(.c (.str [97, 32, 99]))]⟩,
    ⟨(some 13), none, .mv (.t 14)⟩,
    ⟨(some 15), none, .ext (.t 13) 0⟩,
    ⟨(some 16), none, .ext (.t 13) 1⟩,
    ⟨(some 17), none, .ext (.t 13) 2⟩,
    ⟨(some 4), none, .mv (.t 15)⟩,
    ⟨(some 5), none, .mv (.t 16)⟩,
    ⟨(some 6), none, .mv (.t 17)⟩] false)
  (.seq (.ops [
    ⟨(some 18), none, .mv (.t 1)⟩,
    ⟨(some 19), none, .mv (.t 4)⟩,
    ⟨(some 20), none, .call 11 [(.t 18), (.t 19)]⟩,
    ⟨(some 7), none, .mv (.t 20)⟩] false)
  (.seq (.ops [
    ⟨(some 21), none, .mv (.t 7)⟩,
    ⟨(some 22), none, .lenL (.t 21)⟩,
    ⟨(some 23), none, .bin .eql (.t 22) (.c (.int .i64 1))⟩,
    ⟨(some 24), none, .mv (.t 23)⟩,
    ⟨(some 25), (some (24, true)), .mv (.t 7)⟩,
    ⟨(some 26), (some (24, true)), .iaddr 3 (.t 25) (.c (.int .i64 0))⟩,
    ⟨(some 27), (some (24, true)), .load 3 true (.t 26)⟩,
    ⟨(some 28), (some (24, true)), .build [(.int .i64 0), (.int .i64 0), (.str [])] [(0, 1, (.c (.int .i64 2))), (1, 1, (.c (.int .i64 3))), (2, 1, (.c (.str [99])))]⟩,
    ⟨(some 29), (some (24, true)), .eqA false [(.int .i64 0), (.int .i64 0), (.str [])] (.t 27) (.t 28)⟩,
    ⟨(some 30), none, .pick (.t 24) (.t 29) (.c (.bool false))⟩,
    ⟨(some 0), none, .mv (.t 30)⟩] false)
  (.ret)))))) }
theorem cf9 : compF Tryd.prog [] Tryd.f9 = some ir9 := by kernel_rfl
/- whetstone/whetstoneref02.Same -/
def ir10 : IFn :=
 { nt := 26, res := [.t 4], body := (
  .seq (.ops [
    ⟨(some 4), none, .mv (.c (.bool false))⟩] false)
  (.seq (.seq (.ops [
     ⟨(some 6), none, .mv (.t 0)⟩,
     ⟨(some 7), none, .lenL (.t 6)⟩,
     ⟨(some 8), none, .mv (.t 1)⟩,
     ⟨(some 9), none, .lenL (.t 8)⟩,
     ⟨(some 10), none, .bin .neq (.t 7) (.t 9)⟩] false)
   (.cond (.t 10) (.seq (.ops [
      ⟨(some 4), none, .mv (.c (.bool false))⟩] false)
    (.ret))
   (.skip)))
  (.seq (.seq (.ops [
     ⟨(some 5), none, .mv (.c (.int .i64 0))⟩] false)
   (.blk 0 (.loop (.seq (.seq (.ops [
        ⟨(some 11), none, .mv (.t 5)⟩,
        ⟨(some 12), none, .mv (.t 0)⟩,
        ⟨(some 13), none, .lenL (.t 12)⟩,
        ⟨(some 14), none, .bin .lss (.t 11) (.t 13)⟩] false)
      (.cond (.t 14) (.skip)
      (.exit 0)))
     (.seq (.blk 1 (.seq (.ops [
         ⟨(some 17), none, .mv (.t 0)⟩,
         ⟨(some 18), none, .mv (.t 5)⟩,
         ⟨(some 19), none, .iaddr 3 (.t 17) (.t 18)⟩,
         ⟨(some 20), none, .load 3 true (.t 19)⟩,
         ⟨(some 21), none, .mv (.t 1)⟩,
         ⟨(some 22), none, .mv (.t 5)⟩,
         ⟨(some 23), none, .iaddr 3 (.t 21) (.t 22)⟩,
         ⟨(some 24), none, .load 3 true (.t 23)⟩,
         ⟨(some 25), none, .eqA true [(.int .i64 0), (.int .i64 0), (.str [])] (.t 20) (.t 24)⟩] true)
       (.cond (.t 25) (.seq (.ops [
          ⟨(some 4), none, .mv (.c (.bool false))⟩] false)
        (.ret))
       (.skip))))
     (.ops [
      ⟨(some 15), none, .mv (.t 5)⟩,
      ⟨(some 16), none, .bin .add (.t 15) (.c (.int .i64 1))⟩,
      ⟨(some 5), none, .mv (.t 16)⟩] false))))))
  (.seq (.ops [
    ⟨(some 4), none, .mv (.c (.bool true))⟩] false)
  (.ret))))) }
theorem cf10 : compF Tryd.prog [] Tryd.f10 = some ir10 := by kernel_rfl
/- whetstone/delta.Between -/
/- whetstone/whetstonelaw05.both -/
/- whetstone/whetstoneref05.Units -/
/- whetstone/whetstoneref05.Most -/
/- whetstone/whetstoneref05.Cut -/
/- whetstone/whetstoneref05.Ends -/
/- whetstone/delta.Kept -/
/- whetstone/whetstoneref02.Apply -/
/- whetstone/whetstoneref02.Sound -/
/- whetstone/edit.Apply -/
/- whetstone/edit.Sound -/
/- whetstone/delta.units -/
/- whetstone/delta.alike -/
/- whetstone/delta.tail -/
/- whetstone/delta.end -/
/- whetstone/delta.edits -/
/- whetstone/delta.runs -/
/- whetstone/delta.table -/
/- whetstone/delta.edits$1 -/
/- whetstone/delta.text -/
end Go.Proofs.Zd

namespace Go.Proofs.Zd
open Go Go.Zam Go.Proofs
set_option maxRecDepth 100000
set_option linter.all false
set_option maxHeartbeats 1000000

theorem dcf7 : compF Tryd.prog [6] Tryd.f7 = some (irR4Lex 20 21 22 28) := by kernel_rfl
theorem dcf20 : compF Tryd.prog [] Tryd.f20 = some (irR3Bad 38) := by kernel_rfl
theorem dcf21 : compF Tryd.prog [] Tryd.f21 = some (irR4Lead) := by kernel_rfl
theorem dcf22 : compF Tryd.prog [] Tryd.f22 = some (irR4One 25 24 23 39) := by kernel_rfl
theorem dcf38 : compF Tryd.prog [] Tryd.f38 = some (irR3Next 46) := by kernel_rfl
theorem dcf39 : compF Tryd.prog [] Tryd.f39 = some (irR3Unquote) := by kernel_rfl
theorem dcf46 : compF Tryd.prog [] Tryd.f46 = some (irR3More) := by kernel_rfl
theorem dcf11 : compF Tryd.prog [] Tryd.f11 = some (irDBetween 27 28 29 30 32 31) := by kernel_rfl
theorem dcf27 : compF Tryd.prog [3] Tryd.f27 = some (irDUnits 62 28) := by kernel_rfl
theorem dcf28 : compF Tryd.prog [] Tryd.f28 = some (irDAlike) := by kernel_rfl
theorem dcf29 : compF Tryd.prog [] Tryd.f29 = some (irDTail) := by kernel_rfl
theorem dcf30 : compF Tryd.prog [] Tryd.f30 = some (irDEnd 62) := by kernel_rfl
theorem dcf31 : compF Tryd.prog [9] Tryd.f31 = some (irDEdits 43 44 57 3 31 67) := by kernel_rfl
theorem dcf32 : compF Tryd.prog [6] Tryd.f32 = some (irDRuns 33 67) := by kernel_rfl
theorem dcf33 : compF Tryd.prog [] Tryd.f33 = some (irDTable) := by kernel_rfl
theorem dcf43 : compF Tryd.prog [] Tryd.f43 = some (irDPlace) := by kernel_rfl
theorem dcf44 : compF Tryd.prog [3] Tryd.f44 = some (irDText 36 37 77 5 62) := by kernel_rfl
theorem dcf36 : compF Tryd.prog [] Tryd.f36 = some (irWrite 45) := by kernel_rfl
theorem lex4Ok (s : Bs) (hs : s.length ≤ 1048576) (H : Hp) :
    ACall Tryd.prog 7 [.d (.str s)] H (fun r H' => r = .tup [.d (.sl true 4 ((lexS s).1.map encTk)), .d (.int .i64 (lexS s).2.1), .d (.int .i64 (lexS s).2.2)] ∧ H' = H) :=
  HasT.lex4 ⟨_, Tryd.func7, dcf7⟩
    (fun s H hs => Has.bad3 ⟨_, Tryd.func20, dcf20⟩ (fun s n hn hl H => Has.next3 ⟨_, Tryd.func38, dcf38⟩ (Has.more3 ⟨_, Tryd.func46, dcf46⟩) s n hn hl H) s hs H)
    (fun s n hn hl H => Has.lead4 ⟨_, Tryd.func21, dcf21⟩ s n hn hl H)
    (fun s n hn hl H => Has.one4 ⟨_, Tryd.func22, dcf22⟩ rletterOk rdigitOk risKeyOk (fun s H hs => Has.unquote3 ⟨_, Tryd.func39, dcf39⟩ s hs H) s n hn hl H) s hs H

theorem writeSOk : WriteSOk Tryd.prog 36 77 := fun H i t a bs s => write_acall Tryd.func36 dcf36 copyOk H i t a bs s
theorem tableH : Has Tryd.prog 33 irDTable := ⟨_, Tryd.func33, dcf33⟩
theorem dHas : DHas Tryd.prog 27 28 29 30 32 31 33 where
  units := fun z l h1 h2 H => HasT.units ⟨_, Tryd.func27, dcf27⟩ z l h1 h2 H
  alike := ⟨_, Tryd.func28, dcf28⟩
  tail := ⟨_, Tryd.func29, dcf29⟩
  end_ := fun z p A h1 h2 H => Has.endU ⟨_, Tryd.func30, dcf30⟩ z p A h1 h2 H
  runs := fun z y p q A B h1 h2 H => HasT.runs ⟨_, Tryd.func32, dcf32⟩ tableH z y p q A B h1 h2 H
  edits := fun z za zb p q A B rs h1 h2 h3 h4 h5 H => HasT.edits ⟨_, Tryd.func31, dcf31⟩ ⟨_, Tryd.func43, dcf43⟩ (by kernel_rfl) (fun z p A h1 h2 H => HasT.textU ⟨_, Tryd.func44, dcf44⟩ writeSOk stringOk' z p A h1 h2 H) z za zb p q A B rs h1 h2 h3 h4 h5 H
  table := tableH

theorem betweenOk (z y : Bool) (a b : List Tk) (ha : a.length ≤ 262144) (hb : b.length ≤ 262144) (hja : (joinS a).length ≤ 1048576) (hjb : (joinS b).length ≤ 1048576) (H : Hp) :
    ACall Tryd.prog 11 [.d (.sl z 4 (a.map encTk)), .d (.sl y 4 (b.map encTk))] H (fun r H' => r = .d (.sl true 3 ((betweenL (txU a) (txU b)).map encE)) ∧ H' = H) :=
  dHas.between ⟨_, Tryd.func11, dcf11⟩ z y a b ha hb hja hjb H
end Go.Proofs.Zd

namespace Go.Proofs.Zd
open Go Go.Zam Go.Proofs
set_option maxRecDepth 100000
set_option linter.all false
set_option maxHeartbeats 1000000

end Go.Proofs.Zd

namespace Go.Proofs.Zd
open Go Go.Zam Go.Proofs
set_option maxRecDepth 100000
set_option linter.all false
set_option maxHeartbeats 4000000

end Go.Proofs.Zd

namespace Go.Proofs.Zd
open Go Go.Zam Go.Proofs Classical
set_option maxRecDepth 100000
set_option linter.all false
set_option maxHeartbeats 1000000

theorem lex_ab : lexS [97, 32, 98] = ([⟨1, 0, [], [97]⟩, ⟨1, 2, [32], [98]⟩, ⟨0, 3, [], []⟩], 0, 0) := by kernel_rfl
theorem lex_ac : lexS [97, 32, 99] = ([⟨1, 0, [], [97]⟩, ⟨1, 2, [32], [99]⟩, ⟨0, 3, [], []⟩], 0, 0) := by kernel_rfl
theorem runs_bc : runsL [[98]] [[99]] = [⟨0, 1, 0, 1⟩] := by
  have h1 : skipN [] [[99]] = (0, 1) := by rw [skipN_nil_cons, skipN_nil_nil]
  have h2 : skipN [[98]] [[99]] = (1, 1) := by
    rw [skipN_cons, if_neg (by decide), lcs_nil, if_pos (Nat.zero_le _), h1]
  unfold runsL
  rw [show ([[98]] : List Bs).length + ([[99]] : List Bs).length + 1 = 2 + 1 from rfl, runsF_run (by simp) (by decide), h2]
  simp [runsF]
theorem eds_bc : betweenL [[97], [32], [98]] [[97], [32], [99]] = [⟨2, 3, [99]⟩] := by
  have e1 : alikeN [[97], [32], [98]] [[97], [32], [99]] = 2 := by decide
  have e2 : midA [[97], [32], [98]] [[97], [32], [99]] = [[98]] := by decide
  have e3 : midB [[97], [32], [98]] [[97], [32], [99]] = [[99]] := by decide
  unfold betweenL
  rw [e1, e2, e3, edsOf, runs_bc, if_neg (by simp), if_pos (by simp)]
  rfl

theorem awakeOk {H0 : Hp} (hG : TabsG 0 1 2 3 H0) (H : Hp) (hH : Pre0 H0 H) : ACall Tryd.prog 9 [] H (fun r H' => r = .d (.bool true) ∧ H' = H) := by
  refine acall_fin rfl cf9 (by simp [ir9]) fun hcl _ => ?_
  have g1 := lexOk hG [97, 32, 98] (by decide) H hH
  have g2 := lexOk hG [97, 32, 99] (by decide) H hH
  rw [lex_ab] at g1; rw [lex_ac] at g2
  have g3 := betweenOk true true [⟨1, 0, [], [97]⟩, ⟨1, 2, [32], [98]⟩, ⟨0, 3, [], []⟩] [⟨1, 0, [], [97]⟩, ⟨1, 2, [32], [99]⟩, ⟨0, 3, [], []⟩] (by decide) (by decide) (by decide) (by decide) H
  have e1 : txU [⟨1, 0, [], [97]⟩, ⟨1, 2, [32], [98]⟩, ⟨0, 3, [], []⟩] = [[97], [32], [98]] := by decide
  have e2 : txU [⟨1, 0, [], [97]⟩, ⟨1, 2, [32], [99]⟩, ⟨0, 3, [], []⟩] = [[97], [32], [99]] := by decide
  rw [e1, e2, eds_bc] at g3
  simp only [encTk, List.map_cons, List.map_nil, encE, Int.cast_ofNat_Int] at g1 g2 g3
  simp [ir9]
  refine CallK_of' g1 ?_
  simp
  refine CallK_of' g2 ?_
  simp
  refine CallK_of' g3 ?_
  simp [Zam.rowAt, eqDs, eqD]
  simp [RetK, cut_self hcl]

end Go.Proofs.Zd

namespace Go.Proofs.Zd
open Go Go.Zam Go.Proofs Classical
set_option maxRecDepth 100000
set_option linter.all false
set_option maxHeartbeats 1000000

theorem same2Ok (z y : Bool) (a : List Ed) (ha : a.length ≤ 1048576) (H : Hp) :
    ACall Tryd.prog 10 [.d (.sl z 3 (a.map encE)), .d (.sl y 3 (a.map encE))] H (fun r H' => r = .d (.bool true) ∧ H' = H) := by
  refine acall_fin rfl cf10 (by simp [ir10]) fun hcl _ => ?_
  simp [ir10]
  refine LoopK_out 0 (fun fr H' => H' = H) ?_ ?_
  · refine ForK_of H.length a.length (fun i fr H' => fr 0 = .d (.sl z 3 (a.map encE)) ∧ fr 1 = .d (.sl y 3 (a.map encE)) ∧ H' = H) (by omega) (by decide) (by simp) (by simp) ?_ ?_
    · simp [cut_self hcl]
    rintro i fr H' hi f5 ⟨f0, f1, rfl⟩
    simp [f5, f0]
    refine BrK_split (fun h => ?_) (fun h => ?_)
    · have hia : i < a.length := by simpa using h
      have ra := rowAt_map encE hia
      generalize a[i] = u at ra
      obtain ⟨uf, ut, us⟩ := u
      simp only [encE] at ra
      simp [f0, f1, f5, ra, eqDs, eqD]
      refine NextF_of H'.length (Nat.le_refl _) hia (by simp [f5]) ?_
      simp [f0, f1, cut_self hcl]
    · simp
  rintro fr H' rfl
  simp
  simp [RetK, cut_self hcl]

theorem tokN_word {S : Bs} (h : (tokN S).1 = 0) (hk : (tokN S).2.1 = 1) : ∃ b r, S = b :: r ∧ letterB b = true := by
  cases S with
  | nil => simp [tokN] at hk
  | cons b r =>
    refine ⟨b, r, rfl, ?_⟩
    have hT := tokN_cons b r
    by_cases hb : letterB b = true
    · exact hb
    · rw [if_neg hb] at hT
      rw [hT] at hk
      split at hk
      · split at hk <;> simp at hk
      · split at hk
        · split at hk <;> simp at hk
        · split at hk <;> simp at hk
theorem toks_word {s : Bs} {n : Nat} {l : List Tk} (h : Toks s n l) : ∀ t ∈ l, (t.k = 1 → ∃ c w', t.x = c :: w' ∧ letterB c = true) ∧ t.a ≤ n + s.length := by
  induction h with
  | @fin s n h1 h2 =>
    intro t ht
    simp only [List.mem_singleton] at ht
    subst ht
    have := lead_le false s
    exact ⟨(fun h => by cases h), by simp only; omega⟩
  | @tok s n l h1 h2 h3 ih =>
    intro t ht
    have h4 := lead_le false s
    have hm := (tokN_len (s.drop (leadS false s))).2.2.1 h1 h2
    have hml := (tokN_len (s.drop (leadS false s))).1
    rcases List.mem_cons.1 ht with rfl | ht
    · refine ⟨fun hk => ?_, by simp only; omega⟩
      simp only at hk ⊢
      obtain ⟨b, r, e, hb⟩ := tokN_word h1 hk
      obtain ⟨m', hm'⟩ : ∃ m', (tokN (s.drop (leadS false s))).2.2 = m' + 1 := ⟨(tokN (s.drop (leadS false s))).2.2 - 1, by omega⟩
      rw [hm', e, List.take_succ_cons]
      exact ⟨b, _, rfl, hb⟩
    · obtain ⟨q1, q2⟩ := ih t ht
      refine ⟨q1, ?_⟩
      simp only [List.length_drop] at q2 hml
      omega

theorem mem_join {l : List Tk} {t : Tk} (h : t ∈ l) : t.x.length ≤ (joinS l).length := by
  induction l with
  | nil => cases h
  | cons u r ih =>
    have e : joinS (u :: r) = (u.l ++ u.x) ++ joinS r := rfl
    rw [e]
    simp only [List.length_append]
    rcases List.mem_cons.1 h with rfl | h
    · omega
    · have := ih h; omega

theorem lNamesOk {H0 : Hp} (hG : TabsG 0 1 2 3 H0) (s nm : Bs) (k : Nat) (hs : s.length ≤ 1048576) (hn : nm.length ≤ 1048576) (hkk : k ≤ 255) (H : Hp) (hH : Pre0 H0 H) : ACall Tryd.prog 3 [.d (.str s), .d (.int .u8 (k : Int)), .d (.str nm)] H (fun r H' => r = .d (.bool true) ∧ H' = H) := by
  refine acall_fin rfl cf3 (by simp [ir3]) fun hcl _ => ?_
  have ga := fun H hH => awakeOk hG H hH
  have gl := lex4Ok s hs H
  have gn := risNameOk nm
  have hfac := (lexS_ok s).2
  have hfac2 := (lexS_ok s).1
  simp [ir3]
  refine CallK_of' gl ?_
  generalize lexS s = LS at hfac hfac2
  obtain ⟨a, e, pl⟩ := LS
  simp only at hfac hfac2
  by_cases he : e = 0
  case neg =>
    simp [he]
    refine CallK_of' (ga H hH) ?_
    simp
    simp [RetK, cut_self hcl]
  obtain ⟨ht, hal⟩ := hfac he
  have hj := ht.join.1
  simp [he]
  refine CallK_of' (gn H) ?_
  cases hnb : isNameB nm with
  | false =>
    simp
    refine CallK_of' (ga H hH) ?_
    simp
    simp [RetK, cut_self hcl]
  | true =>
  by_cases h300 : 300 < a.length
  · have h300' : (300 : Int) < a.length := by omega
    simp [h300, h300']
    refine CallK_of' (ga H hH) ?_
    simp
    simp [RetK, cut_self hcl]
  have h300' : ¬ (300 : Int) < a.length := by omega
  simp [h300, h300']
  have hwk : IntKind.i64.wrap (k : Int) = k := wrap_i64 (by omega) (by omega)
  refine LoopK_outR 0 (fun fr H' => fr 7 = .d (.sl true 4 (a.map encTk)) ∧ fr 2 = .d (.str nm) ∧ (∀ t ∈ a, t.x ≠ nm) ∧ H' = H ∧ ∃ w : Bs, fr 10 = .d (.str w) ∧ (w = [] ∨ ∃ t ∈ a, t.k = 1 ∧ t.x = w)) (fun fr H' => fr 6 = .d (.bool true) ∧ ∃ X, H' = H ++ X) ?_ ?_ ?_
  · refine RangeK_of H.length a.length (fun i fr H' => fr 7 = .d (.sl true 4 (a.map encTk)) ∧ fr 36 = .d (.sl true 4 (a.map encTk)) ∧ fr 1 = .d (.int .u8 (k : Int)) ∧ fr 2 = .d (.str nm) ∧ (∀ t ∈ a.take i, t.x ≠ nm) ∧ H' = H ∧ ∃ w : Bs, fr 10 = .d (.str w) ∧ (w = [] ∨ ∃ t ∈ a, t.k = 1 ∧ t.x = w)) (by omega) (by decide) (by simp) (by simp) ?_ ?_ ?_
    · simp [cut_self hcl]
    · rintro i fr H' hi f38 f37 ⟨f7, f36, f1, f2, hno, rfl, w, f10, hw⟩
      have hr := rowAt_map encTk hi
      have htk : a.take (i + 1) = a.take i ++ [a[i]] := List.take_succ_eq_append_getElem hi
      have hmem : a[i] ∈ a := List.getElem_mem hi
      generalize a[i] = t at hr htk hmem
      obtain ⟨tk, ta, tl, tx⟩ := t
      simp only [encTk] at hr
      have hno2 : tx ≠ nm → ∀ t ∈ a.take (i + 1), t.x ≠ nm := fun hx t ht => by
        rw [htk] at ht
        rcases List.mem_append.1 ht with ht | ht
        · exact hno t ht
        · simp only [List.mem_singleton] at ht; subst ht; exact hx
      simp [f38, f36, hr, f2]
      by_cases hx : tx = nm
      · simp [hx]
        refine CallK_of' (ga _ (hH.app _)) ?_
        simp
      · have next : ∀ w2 : Bs, (w2 = [] ∨ ∃ t ∈ a, t.k = 1 ∧ t.x = w2) → (∃ w3 : Bs, A.d (.str w2) = A.d (.str w3) ∧ (w3 = [] ∨ ∃ t ∈ a, t.k = 1 ∧ t.x = w3)) := fun w2 h => ⟨w2, rfl, h⟩
        have hown : tk = 1 → (tx = [] ∨ ∃ t ∈ a, t.k = 1 ∧ t.x = tx) := fun h => .inr ⟨_, hmem, h, rfl⟩
        simp [hx]
        by_cases hk1 : tk = 1
        · by_cases hw0 : w = []
          · simp [hk1, f10, hw0]
            refine NextK_of H'.length (by omega) (by simp [f38, f37]) ?_
            refine ⟨by simp [f7], by simp [f36], by simp [f1], by simp [f2], hno2 hx, cut_app hcl _, tx, by simp, hown hk1⟩
          · by_cases hik : i ≤ k
            · have hik' : (i : Int) ≤ k := by omega
              simp [hk1, f10, hw0, f1, hwk, hik, hik']
              refine NextK_of H'.length (by omega) (by simp [f38, f37]) ?_
              refine ⟨by simp [f7], by simp [f36], by simp [f1], by simp [f2], hno2 hx, cut_app hcl _, tx, by simp, hown hk1⟩
            · have hik' : ¬ (i : Int) ≤ k := by omega
              simp [hk1, f10, hw0, f1, hwk, hik, hik']
              refine NextK_of H'.length (by omega) (by simp [f38, f37]) ?_
              refine ⟨by simp [f7], by simp [f36], by simp [f1], by simp [f2], hno2 hx, cut_app hcl _, w, by simp [f10], hw⟩
        · simp [hk1]
          refine NextK_of H'.length (by omega) (by simp [f38, f37]) ?_
          refine ⟨by simp [f7], by simp [f36], by simp [f1], by simp [f2], hno2 hx, cut_app hcl _, w, by simp [f10], hw⟩
    · rintro fr H' f38 f37 ⟨f7, f36, f1, f2, hno, rfl, w, f10, hw⟩
      rw [List.take_of_length_le (Nat.le_refl _)] at hno
      simp
      exact ⟨f7, f2, hno, w, f10, hw⟩
  · rintro fr H' ⟨f6, X, rfl⟩
    simp
    simp [RetK, cut_app hcl, f6]
  rintro fr H' ⟨f7, f2, hno, rfl, w, f10, hw⟩
  simp [f10]
  by_cases hw0 : w = []
  · simp [hw0]
    refine CallK_of' (ga H' hH) ?_
    simp
    simp [RetK, cut_self hcl]
  obtain ⟨t1, ht1, hk1, hx1⟩ := hw.resolve_left hw0
  obtain ⟨⟨c, w', hcw, hc⟩, -⟩ : (∃ c w', t1.x = c :: w' ∧ letterB c = true) ∧ True := ⟨(toks_word ht t1 ht1).1 hk1, trivial⟩
  rw [hx1] at hcw
  have hwn : w ≠ nm := fun e => hno t1 ht1 (by rw [hx1, e])
  have hlaw := names_law ht hcw hc hnb hno hwn (by omega)
  have hsl := (hfac2.1 he).1
  have hwl : w.length ≤ 16384 := by
    have := mem_join ht1
    rw [hx1, hj] at this
    omega
  have hnl : nm.length ≤ 40 := by
    cases nm with
    | nil => simp
    | cons b r =>
      simp only [isNameB, Bool.and_eq_true, decide_eq_true_eq] at hnb
      exact hnb.1.1.1
  have hjr := join_ren (w := w) (nm := nm) a
  have hnm300 : nm.length * a.length ≤ 40 * 300 := Nat.mul_le_mul hnl (by omega)
  have g1 := fun H => betweenOk true true a (a.map (renTk w nm)) (by omega) (by simp; omega) (by rw [hj]; omega) (by rw [hj] at hjr; omega) H
  rw [hlaw] at g1
  have hwtl : (wantT w nm a).length ≤ a.length := by unfold wantT; rw [List.length_map]; exact List.length_filter_le ..
  have g2 := fun H => same2Ok true true (wantT w nm a) (by omega) H
  simp [hw0, f7]
  refine LoopK_out 2 (fun fr H'' => fr 2 = .d (.str nm) ∧ fr 7 = .d (.sl true 4 (a.map encTk)) ∧ fr 13 = .osl true 4 ((a.map (renTk w nm)).map encTk) H'.length ∧ fr 14 = .osl true 3 ((wantT w nm a).map encE) (H'.length + 1) ∧ ∃ X, H'' = H' ++ (.tok a.length 4 28 :: .tok (wantT w nm a).length 3 31 :: X)) ?_ ?_
  · refine RangeK_of (H'.length + 2) a.length (fun i fr H'' => fr 2 = .d (.str nm) ∧ fr 7 = .d (.sl true 4 (a.map encTk)) ∧ fr 67 = .d (.sl true 4 (a.map encTk)) ∧ fr 10 = .d (.str w) ∧ fr 13 = .osl true 4 (((a.take i).map (renTk w nm)).map encTk) H'.length ∧ fr 14 = .osl true 3 ((wantT w nm (a.take i)).map encE) (H'.length + 1) ∧ H'' = H' ++ [.tok i 4 28, .tok (wantT w nm (a.take i)).length 3 31]) (by omega) (by decide) (by simp) (by simp) ?_ ?_ ?_
    · simp [cut_appk hcl, f7, f2, f10, wantT]
    · rintro i fr H'' hi f69 f68 ⟨f2, f7, f67, f10, f13, f14, rfl⟩
      have hr := rowAt_map encTk hi
      have htk : a.take (i + 1) = a.take i ++ [a[i]] := List.take_succ_eq_append_getElem hi
      have hmem : a[i] ∈ a := List.getElem_mem hi
      have hta := (toks_word ht a[i] hmem).2
      have hil : (a.take i).length = i := by simp; omega
      have hwt : (wantT w nm (a.take i)).length ≤ i := by unfold wantT; rw [List.length_map]; exact Nat.le_trans (List.length_filter_le ..) (by omega)
      have h1 : ((a.take (i + 1)).map (renTk w nm)).map encTk = ((a.take i).map (renTk w nm)).map encTk ++ [encTk (renTk w nm a[i])] := by rw [htk, List.map_append, List.map_append]; rfl
      have h2 : wantT w nm (a.take (i + 1)) = wantT w nm (a.take i) ++ wantT w nm [a[i]] := by rw [htk]; unfold wantT; rw [List.filter_append, List.map_append]
      generalize a[i] = t at hr htk hmem hta h1 h2
      obtain ⟨tk, ta, tl, tx⟩ := t
      simp only [encTk] at hr
      simp only at hta
      have hwr : IntKind.i64.wrap ((ta : Int) + w.length) = ((ta + w.length : Nat) : Int) := by rw [wrap_i64 (by omega) (by omega)]; omega
      simp only [Int.natCast_add] at hwr
      generalize hTW : wantT w nm (a.take i) = TW at f14 hwt h2
      generalize hTM : ((a.take i).map (renTk w nm)).map encTk = TM at f13 h1
      have hTMl : TM.length = i := by rw [← hTM]; simp; omega
      simp [f69, f67, hr, f10]
      by_cases hx : tx = w
      · have h3 : wantT w nm [⟨tk, ta, tl, tx⟩] = [⟨(ta : Int), ((ta + w.length : Nat) : Int), nm⟩] := by simp [wantT, hx]
        have h4 : encTk (renTk w nm ⟨tk, ta, tl, tx⟩) = [.int .i64 tk, .int .i64 (ta : Int), .str tl, .str nm] := by simp [renTk, hx, encTk]
        simp [hx, f14, f2, f10, hwr, appA]
        rw [if_pos (by omega)]
        simp [f13, f2, appA]
        rw [if_pos (by omega)]
        simp
        refine NextK_of (H'.length + 2) (by omega) (by simp [f69, f68]) ?_
        rw [h1, h2, h3, h4]
        simp [f2, f7, f67, f10, cut_appk hcl, encE, hTMl]
      · have h3 : wantT w nm [⟨tk, ta, tl, tx⟩] = [] := by simp [wantT, hx]
        have h4 : encTk (renTk w nm ⟨tk, ta, tl, tx⟩) = [.int .i64 tk, .int .i64 (ta : Int), .str tl, .str tx] := by simp [renTk, hx, encTk]
        simp [hx, f13, appA]
        rw [if_pos (by omega)]
        simp
        refine NextK_of (H'.length + 2) (by omega) (by simp [f69, f68]) ?_
        rw [h1, h2, h3, h4]
        simp [f2, f7, f67, f10, f14, cut_appk hcl, hTMl]
    · rintro fr H'' f69 f68 ⟨f2, f7, f67, f10, f13, f14, rfl⟩
      rw [List.take_of_length_le (Nat.le_refl _)] at f13 f14
      rw [List.take_of_length_le (Nat.le_refl _)]
      simp [f2, f7, f13, f14]
  rintro fr H'' ⟨f2, f7, f13, f14, X, rfl⟩
  simp
  refine CallK_of' (ga _ (hH.app _)) ?_
  simp [f7, f13]
  refine CallK_of' (ACall.osl2 (by simpa using g1 _)) ?_
  simp [f14]
  refine CallK_of' (ACall.osl2 (g2 _)) ?_
  simp
  simp [RetK, cut_app hcl]

end Go.Proofs.Zd
