/-
  Texts of one proof, one behind the other: strings.Builder's copyCheck and String on the abstract machine, at this program. No condition. The layers of runes and tokens at this program: the library's functions, one by one, and what token.Lex answers. (Printed by mktok.py.) The lengths are bounded.  The layers of texts, tokens and deltas at this program: what their functions answer. The lengths are bounded. The document's Sound on the abstract machine: what it computes. No condition. The document's Apply on the abstract machine: it computes what Apply does. The lengths are bounded where a theorem says so. The fifth chapter's laws at this program: the example, the tokens of two texts, DeltaMakes, DeltaTurns. The lengths are bounded.
-/
import Derived.Test.YtnlfihdegglkfaaDoorM3
import Derived.Test.YtnlfihdegglkfaaDoorProg
import Derived.Test.YtnlfihdegglkfaaDoorM6
import Derived.Test.YtnlfihdegglkfaaDoorM5
import Derived.KernelRfl
namespace Go.Proofs.Zd
open Go Go.Zam Go.Proofs Go.Shelf
set_option maxRecDepth 100000
def bldRen : Ren := ⟨fun n => match n with | 240 => 45 | 276 => 59 | 169 => 37 | n => n, fun t => match t with | 0 => 0 | 3 => 3 | 4 => 4 | 5 => 5 | 9 => 9 | 20 => 20 | 37 => 75 | 70 => 74 | 72 => 77 | 127 => 95 | 164 => 101 | n => n, fun g => g⟩

theorem lay240 : Lays.n240 Tryd.prog bldRen where
  mixed := by kernel_rfl
  f240 := Tryd.func45.trans (congrArg some (by kernel_rfl))
  f276 := Tryd.func59.trans (congrArg some (by kernel_rfl))
  t0 := by kernel_rfl
  a0 := Tryd.isAgg0
  z0 := fun _ => by kernel_rfl
  v0 := Tryd.zeroValue0
  t4 := by kernel_rfl
  a4 := Tryd.isAgg4
  z4 := fun _ => by kernel_rfl
  v4 := Tryd.zeroValue4
  t9 := by kernel_rfl
  a9 := Tryd.isAgg9
  z9 := fun _ => by kernel_rfl
  v9 := Tryd.zeroValue9
  t20 := by kernel_rfl
  a20 := Tryd.isAgg20
  z20 := fun _ => by kernel_rfl
  v20 := Tryd.zeroValue20
  t70 := by kernel_rfl
  a70 := Tryd.isAgg74
  z70 := fun _ => by kernel_rfl
  v70 := Tryd.zeroValue74
  t72 := by kernel_rfl
  a72 := Tryd.isAgg77
  z72 := fun _ => by kernel_rfl
  v72 := Tryd.zeroValue77
  t164 := by kernel_rfl
  a164 := Tryd.isAgg101
  z164 := fun _ => by kernel_rfl
  v164 := Tryd.zeroValue101
theorem lay169 : Lays.n169 Tryd.prog bldRen where
  mixed := by kernel_rfl
  f169 := Tryd.func37.trans (congrArg some (by kernel_rfl))
  t0 := by kernel_rfl
  a0 := Tryd.isAgg0
  z0 := fun _ => by kernel_rfl
  v0 := Tryd.zeroValue0
  t3 := by kernel_rfl
  a3 := Tryd.isAgg3
  z3 := fun _ => by kernel_rfl
  v3 := Tryd.zeroValue3
  t9 := by kernel_rfl
  a9 := Tryd.isAgg9
  z9 := fun _ => by kernel_rfl
  v9 := Tryd.zeroValue9
  t37 := by kernel_rfl
  a37 := Tryd.isAgg75
  z37 := fun _ => by kernel_rfl
  v37 := Tryd.zeroValue75
  t70 := by kernel_rfl
  a70 := Tryd.isAgg74
  z70 := fun _ => by kernel_rfl
  v70 := Tryd.zeroValue74
  t72 := by kernel_rfl
  a72 := Tryd.isAgg77
  z72 := fun _ => by kernel_rfl
  v72 := Tryd.zeroValue77
  t127 := by kernel_rfl
  a127 := Tryd.isAgg95
  z127 := fun _ => by kernel_rfl
  v127 := Tryd.zeroValue95
theorem bldExtra : Builder.Extra Tryd.prog bldRen where
  sizeBuilder := by kernel_rfl
  liesBuilder := by kernel_rfl
  t5 := by kernel_rfl
  a5 := Tryd.isAgg5
  z5 := fun _ => by kernel_rfl
  v5 := Tryd.zeroValue5
  infoByte := by kernel_rfl
  cellsByte := by kernel_rfl
  sizeByte := by kernel_rfl
  neB5 := by decide

theorem copyCheckOk {H : Hp} {i : Nat} {x a : A} (hi : H[i]? = some (.box 77 [a, x])) (ha : a = .d .nilp ∨ a = .ptr i 0) :
    ACall Tryd.prog 45 [.ptr i 0] H (fun r H' => r = .tup [] ∧ H' = H.set i (.box 77 [.ptr i 0, x])) := copyCheck_acall lay240 bldExtra.toX72 hi ha

theorem stringOk {H : Hp} {i t : Nat} {a : A} {s : List UInt8} (hi : H[i]? = some (.box 77 [a, .osl true 1 (byteRows s) t])) (ht : H[t]? = some (.tok s.length 1 5)) (hlen : s.length ≤ 4611686018427387904) :
    ACall Tryd.prog 37 [.ptr i 0] H (fun r H' => r = .d (.str s) ∧ H' = H) := string_acall lay169 bldExtra hi ht hlen
end Go.Proofs.Zd

namespace Go.Proofs.Zd
open Go Go.Zam Go.Proofs
open Go.RowKit (Below)
set_option maxRecDepth 100000
set_option linter.all false
set_option maxHeartbeats 1000000

theorem indexOk : IndexOk Tryd.prog 71 := fun s c H => by
  refine leaf (args := [.str s, .int .u8 c.toNat]) (x := .int .i64 (Lib.indexByte s c)) (fun w σ vs _ hl hv => ?_) H
  match vs, hl with
  | [v0, v1], _ =>
  have e0 := (hv 0 v0 _ rfl rfl).str_inv
  have e1 := (hv 1 v1 _ rfl rfl).int_inv
  subst e0; subst e1
  refine (Tryd.strings_IndexByte ⟨s.toArray⟩ c.toNat w).mono ?_
  rintro e w' ⟨rfl, rfl⟩
  refine ⟨_, rfl, Below.refl _ _, fun σ => ?_⟩
  have : (Int.toNat (c.toNat : Int)).toUInt8 = c := by simp
  rw [this]
  exact .int _ _

theorem prefixOk : PrefixOk Tryd.prog 67 := fun s p H => by
  refine leaf (args := [.str s, .str p]) (x := .bool (p.isPrefixOf s)) (fun w σ vs _ hl hv => ?_) H
  match vs, hl with
  | [v0, v1], _ =>
  have e0 := (hv 0 v0 _ rfl rfl).str_inv
  have e1 := (hv 1 v1 _ rfl rfl).str_inv
  subst e0; subst e1
  refine (Tryd.strings_HasPrefix ⟨s.toArray⟩ ⟨p.toArray⟩ w).mono ?_
  rintro e w' ⟨rfl, rfl⟩
  exact ⟨_, rfl, Below.refl _ _, fun σ => .bool _⟩

theorem decodeOk {H0 : Hp} (hG : TabsG 0 1 2 3 H0) : DecodeOk Tryd.prog H0 47 := fun s H hp => by
  refine leafG (args := [.str s]) hG (fun w σ vs hT hl hv => ?_) H hp
  match vs, hl with
  | [v0], _ =>
  have e0 := (hv 0 v0 _ rfl rfl).str_inv
  subst e0
  refine (Tryd.utf8_DecodeRuneInString ⟨s.toArray⟩ w hT.1).mono ?_
  rintro e w' ⟨rfl, hb⟩
  refine ⟨_, rfl, hb, fun κ => ?_⟩
  rw [decodeGo_eq]
  refine VR.tup [_, _] [_, _] rfl fun i v a hi ha => ?_
  match i with
  | 0 => cases hi; cases ha; exact .d (.int _ _)
  | 1 => cases hi; cases ha; exact .d (.int _ _)
  | i + 2 => cases hi

theorem numberCalls (s : ByteArray) (hlim : s.size ≤ 1048576) (w : World) (h0 : ∃ te pe, w.cell? ⟨2, 0, none⟩ = some (.iface te pe)) (h1 : ∃ te pe, w.cell? ⟨3, 0, none⟩ = some (.iface te pe)) :
    Calls Tryd.prog 56 #[.string s] w fun e w' => e = .returned (.int .i64 (if numOk s.data.toList then 0 else 23)) ∧ Below w.heap.size w w' := by
  obtain ⟨t0, p0, h0⟩ := h0
  obtain ⟨t1, p1, h1⟩ := h1
  rcases h : Lib.parseUintB 63 s.data.toList with u | _ | _
  · have hr : numOk s.data.toList = true := by simp only [numOk, h]
    rw [hr]
    go_enter Tryd.func56, Tryd.ntmps56
    go_wp2_with (go_at_call 64; refine (Any.strconv_ParseUint_10_at63_ok Tryd.laysPu14 s (by omega) u h _).mono ?_; rintro e w' ⟨rfl, hw⟩)
    go_wp2
    go_ret
    refine ⟨by first | rfl | (congr 2; omega), ?_⟩
    rcases hw with rfl | rfl
    · exact Below.refl _ _
    · exact Lib.bytesWorld_below _ _ _
  · have hr : numOk s.data.toList = false := by simp only [numOk, h]
    rw [hr]
    go_enter Tryd.func56, Tryd.ntmps56
    go_wp2_with (go_at_call 64; refine (Any.strconv_ParseUint_10_at63_syntax Tryd.laysPu14 s (by omega) h (.iface t0 p0) _ ?_ (.inr ⟨_, _, rfl⟩)).mono ?_)
    · exact h0
    rintro e W1 ⟨N, rfl, -, -, hb⟩
    go_wp2
    go_ret
    exact ⟨rfl, hb⟩
  · have hr : numOk s.data.toList = false := by simp only [numOk, h]
    rw [hr]
    go_enter Tryd.func56, Tryd.ntmps56
    go_wp2_with (go_at_call 64; refine (Any.strconv_ParseUint_10_at63_range Tryd.laysPu14 s (by omega) h (.iface t1 p1) _ ?_ (.inr ⟨_, _, rfl⟩)).mono ?_)
    · exact h1
    rintro e W1 ⟨N, rfl, -, -, hb⟩
    go_wp2
    go_ret
    exact ⟨rfl, hb⟩

theorem numberOk {H0 : Hp} (hG : TabsG 0 1 2 3 H0) : NumOk Tryd.prog H0 56 := fun s H hp hl => by
  refine leafG (args := [.str s]) (x := .d _) hG (fun w σ vs hT hl' hv => ?_) H hp
  match vs, hl' with
  | [v0], _ =>
  have e0 := (hv 0 v0 _ rfl rfl).str_inv
  subst e0
  refine (numberCalls ⟨s.toArray⟩ (by simpa [ByteArray.size] using hl) w hT.2.1 hT.2.2).mono ?_
  rintro e w' ⟨rfl, hb⟩
  exact ⟨_, rfl, hb, fun κ => .d (.int _ _)⟩

theorem cfWB : compF Tryd.prog [] Tryd.f72 = some (irWriteByte 45 5) := by kernel_rfl
theorem copyOk : CopyOk Tryd.prog 45 77 := fun H i x a hi ha => copyCheckOk hi ha
theorem writeBOk : WriteBOk Tryd.prog 72 77 := fun H i t a bs c => writeByte_acall Tryd.func72 cfWB copyOk H i t a bs c
theorem stringOk' : StringOk Tryd.prog 37 77 := fun H i t a s hi ht hl => stringOk hi ht (by omega)
theorem unquoteOk (s : Bs) (H : Hp) (hs : s.length ≤ 1048576) : ACall Tryd.prog 65 [.d (.str s)] H (fun r H' => r = unqR (unqV s) ∧ H' = H) := h65.unquote indexOk writeBOk stringOk' s hs H

theorem letterOk : ByteOk Tryd.prog 52 letterB := h52.letter
theorem digitOk : ByteOk Tryd.prog 55 digitB := h55.digit
theorem isKeyOk (s : Bs) (H : Hp) : ACall Tryd.prog 54 [.d (.str s)] H (fun r H' => r = .d (.bool (decide (s ∈ keysL))) ∧ H' = H) := h54.isKey h63 h62 h68 s H
theorem wordOk {H : Hp} {i : Nat} {ts : TypeId} {text : Bs} {n : Nat} (hi : H[i]? = some (scan ts text n)) (hn : n ≤ text.length) (hl : text.length ≤ 1048576) :
    ACall Tryd.prog 53 [.ptr i 0] H (fun r H' => r = .d (.str ((text.drop n).take (Zam.runN Zam.wordB (text.drop n)))) ∧ H' = H.set i (scan ts text (n + Zam.runN Zam.wordB (text.drop n)))) :=
  h53.word h48 (by kernel_rfl) (h61.wordB letterOk digitOk) hi hn (by omega)
theorem leadOk {H : Hp} {i : Nat} {text : Bs} {n : Nat} (hi : H[i]? = some (scan 89 text n)) (hn : n ≤ text.length) (hl : text.length ≤ 1048576) :
    ACall Tryd.prog 41 [.ptr i 0] H (fun r H' => r = .d (.str ((text.drop n).take (leadS false (text.drop n)))) ∧ H' = H.set i (scan 89 text (n + leadS false (text.drop n)))) :=
  h41.lead h48 (by kernel_rfl) h49.blank (by kernel_rfl) h50.hash (by kernel_rfl) h51.noNl hi hn (by omega)
theorem nextOk {H0 : Hp} (hG : TabsG 0 1 2 3 H0) {H : Hp} {i : Nat} {text : Bs} {n : Nat} (hH : Pre0 H0 H) (h0i : H0.length ≤ i) (hi : H[i]? = some (scan 89 text n)) (hn : n ≤ text.length) (hl : text.length ≤ 1048576) :
    ACall Tryd.prog 42 [.ptr i 0] H (NextQ H i 89 text n (text.drop n) (tokN (text.drop n))) :=
  h42.next h48 (by kernel_rfl) letterOk (by kernel_rfl) digitOk wordOk isKeyOk (numberOk hG) (fun hi hn hl => h57.str unquoteOk hi hn hl) (fun hi hn hl => h58.sign h66 prefixOk hi hn (by omega)) hH h0i hi hn hl
theorem badOk {H0 : Hp} (hG : TabsG 0 1 2 3 H0) (s : Bs) (H : Hp) (hs : s.length ≤ 1048576) (hH : Pre0 H0 H) : ACall Tryd.prog 40 [.d (.str s)] H (fun r H' => r = .d (.int .i64 (badS s)) ∧ H' = H) := h40.bad (decodeOk hG) s hs H hH
theorem lexOk {H0 : Hp} (hG : TabsG 0 1 2 3 H0) (s : Bs) (hs : s.length ≤ 1048576) (H : Hp) (hH : Pre0 H0 H) :
    ACall Tryd.prog 26 [.d (.str s)] H (fun r H' => r = .tup [.d (.sl true 4 ((lexS s).1.map encTk)), .d (.int .i64 (lexS s).2.1), .d (.int .i64 (lexS s).2.2)] ∧ H' = H) :=
  h26.lex (badOk hG) leadOk (nextOk hG) s hs H hH
theorem rdigitOk : ByteOk Tryd.prog 24 digitB := h24.digit
theorem rletterOk : ByteOk Tryd.prog 25 letterB := h25.letter
theorem risKeyOk (s : Bs) (H : Hp) : ACall Tryd.prog 23 [.d (.str s)] H (fun r H' => r = .d (.bool (decide (s ∈ keysL))) ∧ H' = H) := isKey_acall Tryd.func23 tcf23 s H
end Go.Proofs.Zd

namespace Go.Proofs.Zd
open Go Go.Zam Go.Proofs
set_option maxRecDepth 100000
/- whetstone/whetstonelaw05.DeltaNames -/
/- whetstone/whetstonelaw05.DeltaLeast -/
/- whetstone/whetstonelaw05.DeltaTurns -/
def ir5 : IFn :=
 { nt := 74, res := [.t 4], body := (
  .seq (.ops [
    ⟨(some 4), none, .mv (.c (.bool false))⟩] false)
  (.seq (.ops [
    ⟨(some 13), none, .mv (.t 0)⟩,
    ⟨(some 14), none, .mv (.t 1)⟩,
    ⟨(some 15), none, .call 12 [(.t 13), (.t 14)]⟩,
    ⟨(some 12), none, .mv (.t 15)⟩,
    ⟨(some 16), none, .ext (.t 12) 0⟩,
    ⟨(some 17), none, .ext (.t 12) 1⟩,
    ⟨(some 18), none, .ext (.t 12) 2⟩,
    ⟨(some 5), none, .mv (.t 16)⟩,
    ⟨(some 6), none, .mv (.t 17)⟩,
    ⟨(some 7), none, .mv (.t 18)⟩] false)
  (.seq (.seq (.ops [
     ⟨(some 19), none, .mv (.t 7)⟩,
     ⟨(some 20), none, .un .not (.t 19)⟩,
     ⟨(some 21), none, .mv (.t 20)⟩,
     ⟨(some 22), (some (21, false)), .mv (.t 5)⟩,
     ⟨(some 23), (some (21, false)), .lenL (.t 22)⟩,
     ⟨(some 24), (some (21, false)), .mv (.t 6)⟩,
     ⟨(some 25), (some (21, false)), .lenL (.t 24)⟩,
     ⟨(some 26), (some (21, false)), .bin .add (.t 23) (.t 25)⟩,
     ⟨(some 27), (some (21, false)), .bin .gtr (.t 26) (.c (.int .i64 200))⟩,
     ⟨(some 28), none, .pick (.t 21) (.c (.bool true)) (.t 27)⟩] false)
   (.cond (.t 28) (.seq (.ops [
      ⟨(some 29), none, .call 9 []⟩,
      ⟨(some 4), none, .mv (.t 29)⟩] false)
    (.ret))
   (.skip)))
  (.seq (.ops [
    ⟨(some 31), none, .mv (.t 0)⟩,
    ⟨(some 32), none, .mv (.t 5)⟩,
    ⟨(some 33), none, .mv (.t 6)⟩,
    ⟨(some 34), none, .call 11 [(.t 32), (.t 33)]⟩,
    ⟨(some 35), none, .call 18 [(.t 31), (.t 34)]⟩,
    ⟨(some 30), none, .mv (.t 35)⟩,
    ⟨(some 36), none, .ext (.t 30) 0⟩,
    ⟨(some 37), none, .ext (.t 30) 1⟩,
    ⟨(some 8), none, .mv (.t 36)⟩,
    ⟨(some 9), none, .mv (.t 37)⟩] false)
  (.seq (.ops [
    ⟨(some 39), none, .mv (.t 8)⟩,
    ⟨(some 40), none, .mv (.t 6)⟩,
    ⟨(some 41), none, .mv (.t 5)⟩,
    ⟨(some 42), none, .call 11 [(.t 40), (.t 41)]⟩,
    ⟨(some 43), none, .call 18 [(.t 39), (.t 42)]⟩,
    ⟨(some 38), none, .mv (.t 43)⟩,
    ⟨(some 44), none, .ext (.t 38) 0⟩,
    ⟨(some 45), none, .ext (.t 38) 1⟩,
    ⟨(some 10), none, .mv (.t 44)⟩,
    ⟨(some 11), none, .mv (.t 45)⟩] false)
  (.seq (.ops [
    ⟨(some 46), none, .call 9 []⟩,
    ⟨(some 47), none, .mv (.t 46)⟩,
    ⟨(some 48), (some (47, true)), .mv (.t 9)⟩,
    ⟨(some 49), (some (47, true)), .bin .eql (.t 48) (.c (.int .i64 0))⟩,
    ⟨(some 50), none, .pick (.t 47) (.t 49) (.c (.bool false))⟩,
    ⟨(some 51), none, .mv (.t 50)⟩,
    ⟨(some 52), (some (51, true)), .mv (.t 11)⟩,
    ⟨(some 53), (some (51, true)), .bin .eql (.t 52) (.c (.int .i64 0))⟩,
    ⟨(some 54), none, .pick (.t 51) (.t 53) (.c (.bool false))⟩,
    ⟨(some 55), none, .mv (.t 54)⟩,
    ⟨(some 56), (some (55, true)), .mv (.t 8)⟩,
    ⟨(some 57), (some (55, true)), .mv (.t 1)⟩,
    ⟨(some 58), (some (55, true)), .bin .eql (.t 56) (.t 57)⟩,
    ⟨(some 59), none, .pick (.t 55) (.t 58) (.c (.bool false))⟩,
    ⟨(some 60), none, .mv (.t 59)⟩,
    ⟨(some 61), (some (60, true)), .mv (.t 10)⟩,
    ⟨(some 62), (some (60, true)), .mv (.t 0)⟩,
    ⟨(some 63), (some (60, true)), .bin .eql (.t 61) (.t 62)⟩,
    ⟨(some 64), none, .pick (.t 60) (.t 63) (.c (.bool false))⟩,
    ⟨(some 65), none, .mv (.t 64)⟩,
    ⟨(some 66), (some (65, true)), .mv (.t 5)⟩,
    ⟨(some 67), (some (65, true)), .mv (.t 6)⟩,
    ⟨(some 68), (some (65, true)), .call 17 [(.t 66), (.t 67)]⟩,
    ⟨(some 69), (some (65, true)), .mv (.t 6)⟩,
    ⟨(some 70), (some (65, true)), .mv (.t 5)⟩,
    ⟨(some 71), (some (65, true)), .call 17 [(.t 69), (.t 70)]⟩,
    ⟨(some 72), (some (65, true)), .bin .eql (.t 68) (.t 71)⟩,
    ⟨(some 73), none, .pick (.t 65) (.t 72) (.c (.bool false))⟩,
    ⟨(some 4), none, .mv (.t 73)⟩] false)
  (.ret))))))) }
theorem cf5 : compF Tryd.prog [] Tryd.f5 = some ir5 := by kernel_rfl
/- whetstone/whetstonelaw05.DeltaMakes -/
def ir6 : IFn :=
 { nt := 64, res := [.t 4], body := (
  .seq (.ops [
    ⟨(some 4), none, .mv (.c (.bool false))⟩] false)
  (.seq (.ops [
    ⟨(some 14), none, .mv (.t 0)⟩,
    ⟨(some 15), none, .mv (.t 1)⟩,
    ⟨(some 16), none, .call 12 [(.t 14), (.t 15)]⟩,
    ⟨(some 13), none, .mv (.t 16)⟩,
    ⟨(some 17), none, .ext (.t 13) 0⟩,
    ⟨(some 18), none, .ext (.t 13) 1⟩,
    ⟨(some 19), none, .ext (.t 13) 2⟩,
    ⟨(some 5), none, .mv (.t 17)⟩,
    ⟨(some 6), none, .mv (.t 18)⟩,
    ⟨(some 7), none, .mv (.t 19)⟩] false)
  (.seq (.seq (.ops [
     ⟨(some 20), none, .mv (.t 7)⟩,
     ⟨(some 21), none, .un .not (.t 20)⟩] false)
   (.cond (.t 21) (.seq (.ops [
      ⟨(some 22), none, .call 9 []⟩,
      ⟨(some 4), none, .mv (.t 22)⟩] false)
    (.ret))
   (.skip)))
  (.seq (.ops [
    ⟨(some 23), none, .mv (.t 5)⟩,
    ⟨(some 24), none, .mv (.t 6)⟩,
    ⟨(some 25), none, .call 11 [(.t 23), (.t 24)]⟩,
    ⟨(some 8), none, .mv (.t 25)⟩] false)
  (.seq (.ops [
    ⟨(some 27), none, .mv (.t 0)⟩,
    ⟨(some 28), none, .mv (.t 8)⟩,
    ⟨(some 29), none, .call 18 [(.t 27), (.t 28)]⟩,
    ⟨(some 26), none, .mv (.t 29)⟩,
    ⟨(some 30), none, .ext (.t 26) 0⟩,
    ⟨(some 31), none, .ext (.t 26) 1⟩,
    ⟨(some 9), none, .mv (.t 30)⟩,
    ⟨(some 10), none, .mv (.t 31)⟩] false)
  (.seq (.ops [
    ⟨(some 33), none, .mv (.t 0)⟩,
    ⟨(some 34), none, .mv (.t 8)⟩,
    ⟨(some 35), none, .call 19 [(.t 33), (.t 34)]⟩,
    ⟨(some 32), none, .mv (.t 35)⟩,
    ⟨(some 36), none, .ext (.t 32) 0⟩,
    ⟨(some 37), none, .ext (.t 32) 1⟩,
    ⟨(some 11), none, .mv (.t 36)⟩,
    ⟨(some 12), none, .mv (.t 37)⟩] false)
  (.seq (.ops [
    ⟨(some 38), none, .call 9 []⟩,
    ⟨(some 39), none, .mv (.t 38)⟩,
    ⟨(some 40), (some (39, true)), .mv (.t 10)⟩,
    ⟨(some 41), (some (39, true)), .bin .eql (.t 40) (.c (.int .i64 0))⟩,
    ⟨(some 42), none, .pick (.t 39) (.t 41) (.c (.bool false))⟩,
    ⟨(some 43), none, .mv (.t 42)⟩,
    ⟨(some 44), (some (43, true)), .mv (.t 12)⟩,
    ⟨(some 45), (some (43, true)), .bin .eql (.t 44) (.c (.int .i64 0))⟩,
    ⟨(some 46), none, .pick (.t 43) (.t 45) (.c (.bool false))⟩,
    ⟨(some 47), none, .mv (.t 46)⟩,
    ⟨(some 48), (some (47, true)), .mv (.t 9)⟩,
    ⟨(some 49), (some (47, true)), .mv (.t 1)⟩,
    ⟨(some 50), (some (47, true)), .bin .eql (.t 48) (.t 49)⟩,
    ⟨(some 51), none, .pick (.t 47) (.t 50) (.c (.bool false))⟩,
    ⟨(some 52), none, .mv (.t 51)⟩,
    ⟨(some 53), (some (52, true)), .mv (.t 11)⟩,
    ⟨(some 54), (some (52, true)), .mv (.t 1)⟩,
    ⟨(some 55), (some (52, true)), .bin .eql (.t 53) (.t 54)⟩,
    ⟨(some 56), none, .pick (.t 52) (.t 55) (.c (.bool false))⟩,
    ⟨(some 57), none, .mv (.t 56)⟩,
    ⟨(some 58), (some (57, true)), .mv (.t 5)⟩,
    ⟨(some 59), (some (57, true)), .mv (.t 5)⟩,
    ⟨(some 60), (some (57, true)), .call 11 [(.t 58), (.t 59)]⟩,
    ⟨(some 61), (some (57, true)), .lenL (.t 60)⟩,
    ⟨(some 62), (some (57, true)), .bin .eql (.t 61) (.c (.int .i64 0))⟩,
    ⟨(some 63), none, .pick (.t 57) (.t 62) (.c (.bool false))⟩,
    ⟨(some 4), none, .mv (.t 63)⟩] false)
  (.ret)))))))) }
theorem cf6 : compF Tryd.prog [] Tryd.f6 = some ir6 := by kernel_rfl
/- whetstone/whetstonelaw05.awake -/
def ir9 : IFn :=
 { nt := 31, res := [.t 0], body := (
  .seq (.ops [
    ⟨(some 0), none, .mv (.c (.bool false))⟩] false)
  (.seq (.ops [
    ⟨(some 9), none, .call 26 [(.c (.str [97, 32, 98]))]⟩,
    ⟨(some 8), none, .mv (.t 9)⟩,
    ⟨(some 10), none, .ext (.t 8) 0⟩,
    ⟨(some 11), none, .ext (.t 8) 1⟩,
    ⟨(some 12), none, .ext (.t 8) 2⟩,
    ⟨(some 1), none, .mv (.t 10)⟩,
    ⟨(some 2), none, .mv (.t 11)⟩,
    ⟨(some 3), none, .mv (.t 12)⟩] false)
  (.seq (.ops [
    ⟨(some 14), none, .call 26 [(.c (.str [97, 32, 99]))]⟩,
    ⟨(some 13), none, .mv (.t 14)⟩,
    ⟨(some 15), none, .ext (.t 13) 0⟩,
    ⟨(some 16), none, .ext (.t 13) 1⟩,
    ⟨(some 17), none, .ext (.t 13) 2⟩,
    ⟨(some 4), none, .mv (.t 15)⟩,
    ⟨(some 5), none, .mv (.t 16)⟩,
    ⟨(some 6), none, .mv (.t 17)⟩] false)
  (.seq (.ops [
    ⟨(some 18), none, .mv (.t 1)⟩,
    ⟨(some 19), none, .mv (.t 4)⟩,
    ⟨(some 20), none, .call 11 [(.t 18), (.t 19)]⟩,
    ⟨(some 7), none, .mv (.t 20)⟩] false)
  (.seq (.ops [
    ⟨(some 21), none, .mv (.t 7)⟩,
    ⟨(some 22), none, .lenL (.t 21)⟩,
    ⟨(some 23), none, .bin .eql (.t 22) (.c (.int .i64 1))⟩,
    ⟨(some 24), none, .mv (.t 23)⟩,
    ⟨(some 25), (some (24, true)), .mv (.t 7)⟩,
    ⟨(some 26), (some (24, true)), .iaddr 3 (.t 25) (.c (.int .i64 0))⟩,
    ⟨(some 27), (some (24, true)), .load 3 true (.t 26)⟩,
    ⟨(some 28), (some (24, true)), .build [(.int .i64 0), (.int .i64 0), (.str [])] [(0, 1, (.c (.int .i64 2))), (1, 1, (.c (.int .i64 3))), (2, 1, (.c (.str [99])))]⟩,
    ⟨(some 29), (some (24, true)), .eqA false [(.int .i64 0), (.int .i64 0), (.str [])] (.t 27) (.t 28)⟩,
    ⟨(some 30), none, .pick (.t 24) (.t 29) (.c (.bool false))⟩,
    ⟨(some 0), none, .mv (.t 30)⟩] false)
  (.ret)))))) }
theorem cf9 : compF Tryd.prog [] Tryd.f9 = some ir9 := by kernel_rfl
/- whetstone/whetstoneref02.Same -/
/- whetstone/delta.Between -/
/- whetstone/whetstonelaw05.both -/
def ir12 : IFn :=
 { nt := 41, res := [.t 4, .t 5, .t 6], body := (
  .seq (.ops [
    ⟨(some 4), none, .mv (.c (.sl true 4 []))⟩,
    ⟨(some 5), none, .mv (.c (.sl true 4 []))⟩,
    ⟨(some 6), none, .mv (.c (.bool false))⟩] false)
  (.seq (.ops [
    ⟨(some 14), none, .mv (.t 0)⟩,
    ⟨(some 15), none, .call 7 [(.t 14)]⟩,
    ⟨(some 13), none, .mv (.t 15)⟩,
    ⟨(some 16), none, .ext (.t 13) 0⟩,
    ⟨(some 17), none, .ext (.t 13) 1⟩,
    ⟨(some 18), none, .ext (.t 13) 2⟩,
    ⟨(some 7), none, .mv (.t 16)⟩,
    ⟨(some 8), none, .mv (.t 17)⟩,
    ⟨(some 9), none, .mv (.t 18)⟩] false)
  (.seq (.ops [
    ⟨(some 20), none, .mv (.t 1)⟩,
    ⟨(some 21), none, .call 7 [(.t 20)]⟩,
    ⟨(some 19), none, .mv (.t 21)⟩,
    ⟨(some 22), none, .ext (.t 19) 0⟩,
    ⟨(some 23), none, .ext (.t 19) 1⟩,
    ⟨(some 24), none, .ext (.t 19) 2⟩,
    ⟨(some 10), none, .mv (.t 22)⟩,
    ⟨(some 11), none, .mv (.t 23)⟩,
    ⟨(some 12), none, .mv (.t 24)⟩] false)
  (.seq (.ops [
    ⟨(some 25), none, .mv (.t 7)⟩,
    ⟨(some 26), none, .mv (.t 10)⟩,
    ⟨(some 27), none, .mv (.t 8)⟩,
    ⟨(some 28), none, .bin .eql (.t 27) (.c (.int .i64 0))⟩,
    ⟨(some 29), none, .mv (.t 28)⟩,
    ⟨(some 30), (some (29, true)), .mv (.t 11)⟩,
    ⟨(some 31), (some (29, true)), .bin .eql (.t 30) (.c (.int .i64 0))⟩,
    ⟨(some 32), none, .pick (.t 29) (.t 31) (.c (.bool false))⟩,
    ⟨(some 33), none, .mv (.t 32)⟩,
    ⟨(some 34), (some (33, true)), .mv (.t 0)⟩,
    ⟨(some 35), (some (33, true)), .lenS (.t 34)⟩,
    ⟨(some 36), (some (33, true)), .mv (.t 1)⟩,
    ⟨(some 37), (some (33, true)), .lenS (.t 36)⟩,
    ⟨(some 38), (some (33, true)), .bin .add (.t 35) (.t 37)⟩,
    ⟨(some 39), (some (33, true)), .bin .leq (.t 38) (.c (.int .i64 4000))⟩,
    ⟨(some 40), none, .pick (.t 33) (.t 39) (.c (.bool false))⟩,
    ⟨(some 4), none, .mv (.t 25)⟩,
    ⟨(some 5), none, .mv (.t 26)⟩,
    ⟨(some 6), none, .mv (.t 40)⟩] false)
  (.ret))))) }
theorem cf12 : compF Tryd.prog [] Tryd.f12 = some ir12 := by kernel_rfl
/- whetstone/whetstoneref05.Units -/
/- whetstone/whetstoneref05.Most -/
/- whetstone/whetstoneref05.Cut -/
/- whetstone/whetstoneref05.Ends -/
/- whetstone/delta.Kept -/
/- whetstone/whetstoneref02.Apply -/
def ir18 : IFn :=
 { nt := 97, res := [.t 4, .t 5], body := (
  .seq (.ops [
    ⟨(some 4), none, .mv (.c (.str []))⟩,
    ⟨(some 5), none, .mv (.c (.int .i64 0))⟩] false)
  (.seq (.ops [
    ⟨(some 11), none, .mv (.t 1)⟩,
    ⟨(some 12), none, .mv (.t 0)⟩,
    ⟨(some 13), none, .lenS (.t 12)⟩,
    ⟨(some 14), none, .call 34 [(.t 11), (.t 13)]⟩,
    ⟨(some 6), none, .mv (.t 14)⟩] false)
  (.seq (.seq (.ops [
     ⟨(some 15), none, .mv (.t 6)⟩,
     ⟨(some 16), none, .bin .neq (.t 15) (.c (.int .i64 0))⟩] false)
   (.cond (.t 16) (.seq (.ops [
      ⟨(some 17), none, .mv (.t 6)⟩,
      ⟨(some 4), none, .mv (.c (.str []))⟩,
      ⟨(some 5), none, .mv (.t 17)⟩] false)
    (.ret))
   (.skip)))
  (.seq (.ops [
    ⟨(some 7), none, .mv (.c (.str []))⟩] false)
  (.seq (.ops [
    ⟨(some 8), none, .mv (.c (.int .i64 0))⟩] false)
  (.seq (.seq (.ops [
     ⟨(some 9), none, .mv (.c (.int .i64 0))⟩] false)
   (.blk 0 (.loop (.seq (.seq (.ops [
        ⟨(some 18), none, .mv (.t 9)⟩,
        ⟨(some 19), none, .mv (.t 0)⟩,
        ⟨(some 20), none, .lenS (.t 19)⟩,
        ⟨(some 21), none, .bin .leq (.t 18) (.t 20)⟩] false)
      (.cond (.t 21) (.skip)
      (.exit 0)))
     (.seq (.blk 1 (.seq (.seq (.ops [
          ⟨(some 24), none, .mv (.t 8)⟩,
          ⟨(some 25), none, .mv (.t 1)⟩,
          ⟨(some 26), none, .lenL (.t 25)⟩,
          ⟨(some 27), none, .bin .lss (.t 24) (.t 26)⟩,
          ⟨(some 28), none, .mv (.t 27)⟩,
          ⟨(some 29), (some (28, true)), .mv (.t 1)⟩,
          ⟨(some 30), (some (28, true)), .mv (.t 8)⟩,
          ⟨(some 31), (some (28, true)), .iaddr 3 (.t 29) (.t 30)⟩,
          ⟨(some 32), (some (28, true)), .faddr 0 (.t 31)⟩,
          ⟨(some 33), (some (28, true)), .load 1 false (.t 32)⟩,
          ⟨(some 34), (some (28, true)), .mv (.t 9)⟩,
          ⟨(some 35), (some (28, true)), .bin .eql (.t 33) (.t 34)⟩,
          ⟨(some 36), none, .pick (.t 28) (.t 35) (.c (.bool false))⟩] false)
        (.cond (.t 36) (.ops [
          ⟨(some 37), none, .mv (.t 7)⟩,
          ⟨(some 38), none, .mv (.t 1)⟩,
          ⟨(some 39), none, .mv (.t 8)⟩,
          ⟨(some 40), none, .iaddr 3 (.t 38) (.t 39)⟩,
          ⟨(some 41), none, .faddr 2 (.t 40)⟩,
          ⟨(some 42), none, .load 1 false (.t 41)⟩,
          ⟨(some 43), none, .bin .add (.t 37) (.t 42)⟩,
          ⟨(some 7), none, .mv (.t 43)⟩] false)
        (.skip)))
       (.seq (.seq (.ops [
          ⟨(some 44), none, .mv (.t 8)⟩,
          ⟨(some 45), none, .mv (.t 1)⟩,
          ⟨(some 46), none, .lenL (.t 45)⟩,
          ⟨(some 47), none, .bin .lss (.t 44) (.t 46)⟩,
          ⟨(some 48), none, .mv (.t 47)⟩,
          ⟨(some 49), (some (48, true)), .mv (.t 1)⟩,
          ⟨(some 50), (some (48, true)), .mv (.t 8)⟩,
          ⟨(some 51), (some (48, true)), .iaddr 3 (.t 49) (.t 50)⟩,
          ⟨(some 52), (some (48, true)), .faddr 1 (.t 51)⟩,
          ⟨(some 53), (some (48, true)), .load 1 false (.t 52)⟩,
          ⟨(some 54), (some (48, true)), .mv (.t 9)⟩,
          ⟨(some 55), (some (48, true)), .bin .eql (.t 53) (.t 54)⟩,
          ⟨(some 56), none, .pick (.t 48) (.t 55) (.c (.bool false))⟩] false)
        (.cond (.t 56) (.ops [
          ⟨(some 57), none, .mv (.t 8)⟩,
          ⟨(some 58), none, .bin .add (.t 57) (.c (.int .i64 1))⟩,
          ⟨(some 8), none, .mv (.t 58)⟩] false)
        (.skip)))
       (.seq (.ops [
         ⟨(some 59), none, .mv (.t 8)⟩,
         ⟨(some 60), none, .mv (.t 1)⟩,
         ⟨(some 61), none, .lenL (.t 60)⟩,
         ⟨(some 62), none, .bin .lss (.t 59) (.t 61)⟩,
         ⟨(some 63), none, .mv (.t 62)⟩,
         ⟨(some 64), (some (63, true)), .mv (.t 1)⟩,
         ⟨(some 65), (some (63, true)), .mv (.t 8)⟩,
         ⟨(some 66), (some (63, true)), .iaddr 3 (.t 64) (.t 65)⟩,
         ⟨(some 67), (some (63, true)), .faddr 0 (.t 66)⟩,
         ⟨(some 68), (some (63, true)), .load 1 false (.t 67)⟩,
         ⟨(some 69), (some (63, true)), .mv (.t 9)⟩,
         ⟨(some 70), (some (63, true)), .bin .leq (.t 68) (.t 69)⟩,
         ⟨(some 71), none, .pick (.t 63) (.t 70) (.c (.bool false))⟩,
         ⟨(some 72), none, .mv (.t 71)⟩,
         ⟨(some 73), (some (72, true)), .mv (.t 9)⟩,
         ⟨(some 74), (some (72, true)), .mv (.t 1)⟩,
         ⟨(some 75), (some (72, true)), .mv (.t 8)⟩,
         ⟨(some 76), (some (72, true)), .iaddr 3 (.t 74) (.t 75)⟩,
         ⟨(some 77), (some (72, true)), .faddr 1 (.t 76)⟩,
         ⟨(some 78), (some (72, true)), .load 1 false (.t 77)⟩,
         ⟨(some 79), (some (72, true)), .bin .lss (.t 73) (.t 78)⟩,
         ⟨(some 80), none, .pick (.t 72) (.t 79) (.c (.bool false))⟩,
         ⟨(some 10), none, .mv (.t 80)⟩] false)
       (.seq (.ops [
         ⟨(some 81), none, .mv (.t 9)⟩,
         ⟨(some 82), none, .mv (.t 0)⟩,
         ⟨(some 83), none, .lenS (.t 82)⟩,
         ⟨(some 84), none, .bin .lss (.t 81) (.t 83)⟩,
         ⟨(some 85), none, .mv (.t 84)⟩,
         ⟨(some 86), (some (85, true)), .mv (.t 10)⟩,
         ⟨(some 87), (some (85, true)), .un .not (.t 86)⟩,
         ⟨(some 88), none, .pick (.t 85) (.t 87) (.c (.bool false))⟩] false)
       (.cond (.t 88) (.ops [
         ⟨(some 89), none, .mv (.t 7)⟩,
         ⟨(some 90), none, .mv (.t 0)⟩,
         ⟨(some 91), none, .mv (.t 9)⟩,
         ⟨(some 92), none, .mv (.t 9)⟩,
         ⟨(some 93), none, .bin .add (.t 92) (.c (.int .i64 1))⟩,
         ⟨(some 94), none, .sslice (.t 90) (some (.t 91)) (some (.t 93))⟩,
         ⟨(some 95), none, .bin .add (.t 89) (.t 94)⟩,
         ⟨(some 7), none, .mv (.t 95)⟩] false)
       (.skip)))))))
     (.ops [
      ⟨(some 22), none, .mv (.t 9)⟩,
      ⟨(some 23), none, .bin .add (.t 22) (.c (.int .i64 1))⟩,
      ⟨(some 9), none, .mv (.t 23)⟩] false))))))
  (.seq (.ops [
    ⟨(some 96), none, .mv (.t 7)⟩,
    ⟨(some 4), none, .mv (.t 96)⟩,
    ⟨(some 5), none, .mv (.c (.int .i64 0))⟩] false)
  (.ret)))))))) }
theorem cf18 : compF Tryd.prog [] Tryd.f18 = some ir18 := by kernel_rfl
/- whetstone/whetstoneref02.Sound -/
def ir34 : IFn :=
 { nt := 60, res := [.t 4], body := (
  .seq (.ops [
    ⟨(some 4), none, .mv (.c (.int .i64 0))⟩] false)
  (.seq (.seq (.ops [
     ⟨(some 7), none, .mv (.t 0)⟩,
     ⟨(some 8), none, .lenL (.t 7)⟩,
     ⟨(some 9), none, .bin .gtr (.t 8) (.c (.int .i64 512))⟩] false)
   (.cond (.t 9) (.seq (.ops [
      ⟨(some 4), none, .mv (.c (.int .i64 5))⟩] false)
    (.ret))
   (.skip)))
  (.seq (.seq (.ops [
     ⟨(some 5), none, .mv (.c (.int .i64 0))⟩] false)
   (.blk 0 (.loop (.seq (.seq (.ops [
        ⟨(some 10), none, .mv (.t 5)⟩,
        ⟨(some 11), none, .mv (.t 0)⟩,
        ⟨(some 12), none, .lenL (.t 11)⟩,
        ⟨(some 13), none, .bin .lss (.t 10) (.t 12)⟩] false)
      (.cond (.t 13) (.skip)
      (.exit 0)))
     (.seq (.blk 1 (.seq (.ops [
         ⟨(some 16), none, .mv (.t 0)⟩,
         ⟨(some 17), none, .mv (.t 5)⟩,
         ⟨(some 18), none, .iaddr 3 (.t 16) (.t 17)⟩,
         ⟨(some 19), none, .load 3 true (.t 18)⟩,
         ⟨(some 6), none, .alloc 31 [(.int .i64 0), (.int .i64 0), (.str [])]⟩,
         ⟨none, none, .store 3 (.t 6) (.t 19)⟩] false)
       (.seq (.seq (.ops [
          ⟨(some 20), none, .faddr 0 (.t 6)⟩,
          ⟨(some 21), none, .load 1 false (.t 20)⟩,
          ⟨(some 22), none, .bin .lss (.t 21) (.c (.int .i64 0))⟩,
          ⟨(some 23), none, .mv (.t 22)⟩,
          ⟨(some 24), (some (23, false)), .faddr 1 (.t 6)⟩,
          ⟨(some 25), (some (23, false)), .load 1 false (.t 24)⟩,
          ⟨(some 26), (some (23, false)), .faddr 0 (.t 6)⟩,
          ⟨(some 27), (some (23, false)), .load 1 false (.t 26)⟩,
          ⟨(some 28), (some (23, false)), .bin .lss (.t 25) (.t 27)⟩,
          ⟨(some 29), none, .pick (.t 23) (.c (.bool true)) (.t 28)⟩,
          ⟨(some 30), none, .mv (.t 29)⟩,
          ⟨(some 31), (some (30, false)), .faddr 1 (.t 6)⟩,
          ⟨(some 32), (some (30, false)), .load 1 false (.t 31)⟩,
          ⟨(some 33), (some (30, false)), .mv (.t 1)⟩,
          ⟨(some 34), (some (30, false)), .bin .gtr (.t 32) (.t 33)⟩,
          ⟨(some 35), none, .pick (.t 30) (.c (.bool true)) (.t 34)⟩] false)
        (.cond (.t 35) (.seq (.ops [
           ⟨(some 4), none, .mv (.c (.int .i64 6))⟩] false)
         (.ret))
        (.skip)))
       (.seq (.seq (.ops [
          ⟨(some 36), none, .faddr 0 (.t 6)⟩,
          ⟨(some 37), none, .load 1 false (.t 36)⟩,
          ⟨(some 38), none, .faddr 1 (.t 6)⟩,
          ⟨(some 39), none, .load 1 false (.t 38)⟩,
          ⟨(some 40), none, .bin .eql (.t 37) (.t 39)⟩,
          ⟨(some 41), none, .mv (.t 40)⟩,
          ⟨(some 42), (some (41, true)), .faddr 2 (.t 6)⟩,
          ⟨(some 43), (some (41, true)), .load 1 false (.t 42)⟩,
          ⟨(some 44), (some (41, true)), .lenS (.t 43)⟩,
          ⟨(some 45), (some (41, true)), .bin .eql (.t 44) (.c (.int .i64 0))⟩,
          ⟨(some 46), none, .pick (.t 41) (.t 45) (.c (.bool false))⟩] false)
        (.cond (.t 46) (.seq (.ops [
           ⟨(some 4), none, .mv (.c (.int .i64 1))⟩] false)
         (.ret))
        (.skip)))
       (.seq (.ops [
         ⟨(some 47), none, .mv (.t 5)⟩,
         ⟨(some 48), none, .bin .gtr (.t 47) (.c (.int .i64 0))⟩,
         ⟨(some 49), none, .mv (.t 48)⟩,
         ⟨(some 50), (some (49, true)), .mv (.t 0)⟩,
         ⟨(some 51), (some (49, true)), .mv (.t 5)⟩,
         ⟨(some 52), (some (49, true)), .bin .sub (.t 51) (.c (.int .i64 1))⟩,
         ⟨(some 53), (some (49, true)), .iaddr 3 (.t 50) (.t 52)⟩,
         ⟨(some 54), (some (49, true)), .faddr 1 (.t 53)⟩,
         ⟨(some 55), (some (49, true)), .load 1 false (.t 54)⟩,
         ⟨(some 56), (some (49, true)), .faddr 0 (.t 6)⟩,
         ⟨(some 57), (some (49, true)), .load 1 false (.t 56)⟩,
         ⟨(some 58), (some (49, true)), .bin .geq (.t 55) (.t 57)⟩,
         ⟨(some 59), none, .pick (.t 49) (.t 58) (.c (.bool false))⟩] true)
       (.cond (.t 59) (.seq (.ops [
          ⟨(some 4), none, .mv (.c (.int .i64 7))⟩] false)
        (.ret))
       (.skip)))))))
     (.ops [
      ⟨(some 14), none, .mv (.t 5)⟩,
      ⟨(some 15), none, .bin .add (.t 14) (.c (.int .i64 1))⟩,
      ⟨(some 5), none, .mv (.t 15)⟩] false))))))
  (.seq (.ops [
    ⟨(some 4), none, .mv (.c (.int .i64 0))⟩] false)
  (.ret))))) }
theorem cf34 : compF Tryd.prog [] Tryd.f34 = some ir34 := by kernel_rfl
/- whetstone/edit.Apply -/
/- whetstone/edit.Sound -/
/- whetstone/delta.units -/
/- whetstone/delta.alike -/
/- whetstone/delta.tail -/
/- whetstone/delta.end -/
/- whetstone/delta.edits -/
/- whetstone/delta.runs -/
/- whetstone/delta.table -/
/- whetstone/delta.edits$1 -/
/- whetstone/delta.text -/
end Go.Proofs.Zd

namespace Go.Proofs.Zd
open Go Go.Zam Go.Proofs
set_option maxRecDepth 100000
set_option linter.all false
set_option maxHeartbeats 1000000

theorem dcf7 : compF Tryd.prog [6] Tryd.f7 = some (irR4Lex 20 21 22 28) := by kernel_rfl
theorem dcf20 : compF Tryd.prog [] Tryd.f20 = some (irR3Bad 38) := by kernel_rfl
theorem dcf21 : compF Tryd.prog [] Tryd.f21 = some (irR4Lead) := by kernel_rfl
theorem dcf22 : compF Tryd.prog [] Tryd.f22 = some (irR4One 25 24 23 39) := by kernel_rfl
theorem dcf38 : compF Tryd.prog [] Tryd.f38 = some (irR3Next 46) := by kernel_rfl
theorem dcf39 : compF Tryd.prog [] Tryd.f39 = some (irR3Unquote) := by kernel_rfl
theorem dcf46 : compF Tryd.prog [] Tryd.f46 = some (irR3More) := by kernel_rfl
theorem dcf11 : compF Tryd.prog [] Tryd.f11 = some (irDBetween 27 28 29 30 32 31) := by kernel_rfl
theorem dcf17 : compF Tryd.prog [] Tryd.f17 = some (irDKept 27 28 29 33) := by kernel_rfl
theorem dcf27 : compF Tryd.prog [3] Tryd.f27 = some (irDUnits 62 28) := by kernel_rfl
theorem dcf28 : compF Tryd.prog [] Tryd.f28 = some (irDAlike) := by kernel_rfl
theorem dcf29 : compF Tryd.prog [] Tryd.f29 = some (irDTail) := by kernel_rfl
theorem dcf30 : compF Tryd.prog [] Tryd.f30 = some (irDEnd 62) := by kernel_rfl
theorem dcf31 : compF Tryd.prog [9] Tryd.f31 = some (irDEdits 43 44 57 3 31 67) := by kernel_rfl
theorem dcf32 : compF Tryd.prog [6] Tryd.f32 = some (irDRuns 33 67) := by kernel_rfl
theorem dcf33 : compF Tryd.prog [] Tryd.f33 = some (irDTable) := by kernel_rfl
theorem dcf43 : compF Tryd.prog [] Tryd.f43 = some (irDPlace) := by kernel_rfl
theorem dcf44 : compF Tryd.prog [3] Tryd.f44 = some (irDText 36 37 77 5 62) := by kernel_rfl
theorem dcf35 : compF Tryd.prog [] Tryd.f35 = some (irSound 31) := by kernel_rfl
theorem dcf36 : compF Tryd.prog [] Tryd.f36 = some (irWrite 45) := by kernel_rfl
theorem dcf19 : compF Tryd.prog [7] Tryd.f19 = some (irApply 31 77 35 36 37) := by kernel_rfl

theorem lex4Ok (s : Bs) (hs : s.length ≤ 1048576) (H : Hp) :
    ACall Tryd.prog 7 [.d (.str s)] H (fun r H' => r = .tup [.d (.sl true 4 ((lexS s).1.map encTk)), .d (.int .i64 (lexS s).2.1), .d (.int .i64 (lexS s).2.2)] ∧ H' = H) :=
  HasT.lex4 ⟨_, Tryd.func7, dcf7⟩
    (fun s H hs => Has.bad3 ⟨_, Tryd.func20, dcf20⟩ (fun s n hn hl H => Has.next3 ⟨_, Tryd.func38, dcf38⟩ (Has.more3 ⟨_, Tryd.func46, dcf46⟩) s n hn hl H) s hs H)
    (fun s n hn hl H => Has.lead4 ⟨_, Tryd.func21, dcf21⟩ s n hn hl H)
    (fun s n hn hl H => Has.one4 ⟨_, Tryd.func22, dcf22⟩ rletterOk rdigitOk risKeyOk (fun s H hs => Has.unquote3 ⟨_, Tryd.func39, dcf39⟩ s hs H) s n hn hl H) s hs H

theorem writeSOk : WriteSOk Tryd.prog 36 77 := fun H i t a bs s => write_acall Tryd.func36 dcf36 copyOk H i t a bs s
theorem tableH : Has Tryd.prog 33 irDTable := ⟨_, Tryd.func33, dcf33⟩
theorem dHas : DHas Tryd.prog 27 28 29 30 32 31 33 where
  units := fun z l h1 h2 H => HasT.units ⟨_, Tryd.func27, dcf27⟩ z l h1 h2 H
  alike := ⟨_, Tryd.func28, dcf28⟩
  tail := ⟨_, Tryd.func29, dcf29⟩
  end_ := fun z p A h1 h2 H => Has.endU ⟨_, Tryd.func30, dcf30⟩ z p A h1 h2 H
  runs := fun z y p q A B h1 h2 H => HasT.runs ⟨_, Tryd.func32, dcf32⟩ tableH z y p q A B h1 h2 H
  edits := fun z za zb p q A B rs h1 h2 h3 h4 h5 H => HasT.edits ⟨_, Tryd.func31, dcf31⟩ ⟨_, Tryd.func43, dcf43⟩ (by kernel_rfl) (fun z p A h1 h2 H => HasT.textU ⟨_, Tryd.func44, dcf44⟩ writeSOk stringOk' z p A h1 h2 H) z za zb p q A B rs h1 h2 h3 h4 h5 H
  table := tableH

theorem betweenOk (z y : Bool) (a b : List Tk) (ha : a.length ≤ 262144) (hb : b.length ≤ 262144) (hja : (joinS a).length ≤ 1048576) (hjb : (joinS b).length ≤ 1048576) (H : Hp) :
    ACall Tryd.prog 11 [.d (.sl z 4 (a.map encTk)), .d (.sl y 4 (b.map encTk))] H (fun r H' => r = .d (.sl true 3 ((betweenL (txU a) (txU b)).map encE)) ∧ H' = H) :=
  dHas.between ⟨_, Tryd.func11, dcf11⟩ z y a b ha hb hja hjb H
theorem keptOk (z y : Bool) (a b : List Tk) (ha : a.length ≤ 262144) (hb : b.length ≤ 262144) (hja : (joinS a).length ≤ 1048576) (hjb : (joinS b).length ≤ 1048576) (H : Hp) :
    ACall Tryd.prog 17 [.d (.sl z 4 (a.map encTk)), .d (.sl y 4 (b.map encTk))] H (fun r H' => r = .d (.int .i64 (keptN (txU a) (txU b) : Int)) ∧ H' = H) :=
  dHas.kept ⟨_, Tryd.func17, dcf17⟩ z y a b ha hb hja hjb H
theorem applyOk (z : Bool) (s : Bs) (l : List Ed) (hb : s.length + total l ≤ 70368744177664) (H : Hp) :
    ACall Tryd.prog 19 [.d (.str s), .d (.sl z 3 (l.map encE))] H (fun r H' => r = .tup [.d (.str (applyS s l)), .d (.int .i64 (sound l s.length))] ∧ H' = H) :=
  apply_acall Tryd.func19 dcf19 Tryd.func35 dcf35 Tryd.func36 dcf36 copyOk stringOk' H z s l hb

end Go.Proofs.Zd

namespace Go.Proofs.Zd
open Go Go.Zam Go.Proofs
set_option maxRecDepth 100000
set_option linter.all false
set_option maxHeartbeats 1000000

theorem refSoundOk (H : Hp) (z : Bool) (l : List Ed) (n : Int) : ACall Tryd.prog 34 [.d (.sl z 3 (l.map encE)), .d (.int .i64 n)] H (fun r H' => r = .d (.int .i64 (sound l n)) ∧ H' = H) := by
  refine acall_fin rfl cf34 (by simp [ir34]) fun hcl _ => ?_
  simp [ir34]
  refine BrK_split (fun h => ?_) (fun h => ?_)
  · simp [RetK, cut_self hcl, sound] at h ⊢
    omega
  simp
  refine LoopK_of H.length (fun fr H' => ∃ pre rest last, l = pre ++ rest ∧ sound l n = soundFrom n last rest ∧ (pre = [] ∧ last = -1 ∨ ∃ q y, pre = q ++ [y] ∧ last = y.t) ∧ fr 0 = .d (.sl z 3 (l.map encE)) ∧ fr 1 = .d (.int .i64 n) ∧ fr 5 = .d (.int .i64 (pre.length : Int)) ∧ H' = H)
    (fun fr H' => match fr 5 with | .d (.int _ k) => (l.length - k).toNat | _ => 0) (by simp) ?_ ?_
  · refine ⟨[], l, -1, ?_⟩
    simp [cut_self hcl, sound]
    simp at h; omega
  rintro fr H' ⟨pre, rest, last, hl, hs, hp, f0, f1, f5, rfl⟩
  simp [f0, f1, f5]
  refine BrK_split (fun h => ?_) (fun h => ?_)
  · obtain ⟨e, r, rfl⟩ : ∃ e r, rest = e :: r := by
      cases rest with
      | nil => simp_all
      | cons e r => exact ⟨e, r, rfl⟩
    have hr : Zam.rowAt (l.map encE) pre.length = some (encE e) := by rw [hl]; exact rowAt_mid _ _ _ _
    have hw : IntKind.i64.wrap (pre.length + 1) = pre.length + 1 := wrap_i64 (by omega) (by simp at *; omega)
    rcases hp with ⟨rfl, rfl⟩ | ⟨q, y, rfl, rfl⟩
    · simp at hl hr f5
      simp [f0, f1, f5, hr, encE]
      repeat' (first
        | refine GdK_split (by simp) (fun h => ?_) (fun h => ?_)
        | refine BrK_split (fun h => ?_) (fun h => ?_)
        | simp [f0, f1, f5])
      all_goals simp only [decide_eq_true_eq, decide_eq_false_iff_not, Bool.not_true, Bool.not_false] at *
      all_goals first
        | (clear hl hr; simp_all [RetK, cut_app hcl, soundFrom]; done)
        | (have hs' : sound l n = soundFrom n e.t r := by
             clear hl hr
             rw [hs, soundFrom]
             (repeat' split) <;> first | rfl | omega | (simp_all; done) | (simp_all; omega)
           have hw : IntKind.i64.wrap 1 = 1 := rfl
           refine AgainK_of (m := H'.length) (by simp) ⟨[e], r, e.t, hl, hs', .inr ⟨[], e, rfl, rfl⟩, ?_⟩ ?_
           · simp [cut_app hcl, f0, f1, f5, hw]
           · simp [hw]; simp at *; omega)
    · have hr2 : Zam.rowAt (l.map encE) q.length = some (encE y) := by
        rw [hl, List.append_assoc]; exact rowAt_mid encE q ([] ++ e :: r) y
      simp only [List.length_append, List.length_cons, List.length_nil, Nat.zero_add, Int.natCast_add, Int.cast_ofNat_Int] at f5 hr hw h
      have hw2 : IntKind.i64.wrap (q.length : Int) = q.length := wrap_i64 (by omega) (by simp at *; omega)
      have hq : decide ((0 : Int) < q.length + 1) = true := by simp only [decide_eq_true_eq]; omega
      simp [f0, f1, f5, hr, encE]
      repeat' (first
        | refine GdK_split (by simp) (fun h => ?_) (fun h => ?_)
        | refine BrK_split (fun h => ?_) (fun h => ?_)
        | simp [f0, f1, f5, hr2, hw2, hq, encE])
      all_goals simp only [decide_eq_true_eq, decide_eq_false_iff_not, Bool.not_true, Bool.not_false] at *
      all_goals first
        | (clear hl hr hr2; simp_all [RetK, cut_app hcl, soundFrom]; done)
        | skip
      all_goals
        have hs' : sound l n = soundFrom n e.t r := by
          clear hl hr hr2
          rw [hs, soundFrom]
          (repeat' split) <;> first | rfl | omega | (simp_all; done) | (simp_all; omega)
        refine AgainK_of (m := H'.length) (by simp) ⟨q ++ [y] ++ [e], r, e.t, by simpa using hl, hs', .inr ⟨_, e, rfl, rfl⟩, ?_⟩ ?_
        · simp [cut_app hcl, f0, f1, f5, hw]
          omega
        · simp [hw]
          omega
  · obtain rfl : rest = [] := by
      cases rest with
      | nil => rfl
      | cons e r => simp_all
    simp [RetK, hs, soundFrom, cut_self hcl]

end Go.Proofs.Zd

namespace Go.Proofs.Zd
open Go Go.Zam Go.Proofs
set_option maxRecDepth 100000
set_option linter.all false
set_option maxHeartbeats 4000000

def remn (s : List UInt8) (k : Nat) : List Ed → List UInt8
  | [] => s.drop k
  | e :: r => if e.f < k then applied s e.t r else applied s k (e :: r)

theorem take_one {s : List UInt8} {k m : Nat} (h : 1 ≤ m) : (s.drop k).take m = (s.drop k).take 1 ++ (s.drop (k + 1)).take (m - 1) := by
  obtain ⟨m, rfl⟩ : ∃ j, m = j + 1 := ⟨m - 1, by omega⟩
  rw [show m + 1 = 1 + m by omega, List.take_add, List.drop_drop, Nat.add_sub_cancel_left]

theorem drop_one (s : List UInt8) (k : Nat) : s.drop k = (s.drop k).take 1 ++ s.drop (k + 1) := by
  rw [← List.drop_drop, List.take_append_drop]

theorem applied_one {s : List UInt8} {k : Nat} {e : Ed} {r : List Ed} (h : (k : Int) < e.f) : applied s k (e :: r) = (s.drop k).take 1 ++ applied s ((k + 1 : Nat) : Int) (e :: r) := by
  simp only [applied, Int.toNat_natCast]
  rw [take_one (m := e.f.toNat - k) (by omega), show e.f.toNat - (k + 1) = e.f.toNat - k - 1 by omega]
  simp

theorem applied_length (s : List UInt8) : ∀ (k : Int) (l : List Ed), (applied s k l).length ≤ (l.length + 1) * s.length + total l
  | k, [] => by simp [applied, total]
  | k, e :: r => by
    have := applied_length s e.t r
    simp only [applied, List.length_append, List.length_take, List.length_drop, total, List.length_cons]
    rw [Nat.add_mul (r.length + 1) 1]
    omega

def J11 (H : Hp) (s : List UInt8) (z : Bool) (l : List Ed) (fr : Fr) (H' : Hp) : Prop :=
  ∃ pre rest, ∃ (k : Nat) (last : Int) (o : List UInt8), l = pre ++ rest ∧ o ++ remn s k rest = applied s 0 l ∧ k ≤ s.length + 1 ∧ soundFrom s.length last rest = 0 ∧ (∀ e r, rest = e :: r → (k : Int) ≤ e.t) ∧
      fr 0 = .d (.str s) ∧ fr 1 = .d (.sl z 3 (l.map encE)) ∧ fr 7 = .d (.str o) ∧ fr 8 = .d (.int .i64 (pre.length : Int)) ∧ fr 9 = .d (.int .i64 (k : Int)) ∧ H' = H

def M11 (s : List UInt8) (fr : Fr) (_ : Hp) : Nat := match fr 9 with | .d (.int _ k) => (s.length + 1 - k).toNat | _ => 0

theorem again11 {H : Hp} (hcl : H.Closed) {s : List UInt8} {z : Bool} {l pre rest : List Ed} {k : Nat} {last : Int} {o : List UInt8} {fr fr0 : Fr} {t : Tag (J11 H s z l, M11 s)} (h9 : fr0 9 = .d (.int .i64 (k : Int))) (hk : k ≤ s.length)
    (h1 : l = pre ++ rest) (h2 : o ++ remn s (k + 1) rest = applied s 0 l) (h3 : soundFrom s.length last rest = 0) (h4 : ∀ e r, rest = e :: r → ((k + 1 : Nat) : Int) ≤ e.t)
    (g0 : fr 0 = .d (.str s)) (g1 : fr 1 = .d (.sl z 3 (l.map encE))) (g7 : fr 7 = .d (.str o)) (g8 : fr 8 = .d (.int .i64 (pre.length : Int))) (g9 : fr 9 = .d (.int .i64 ((k : Int) + 1))) :
    AgainK (J11 H s z l) (M11 s) t H.length (M11 s fr0 H) fr H := by
  refine AgainK_of (Nat.le_refl _) ⟨pre, rest, k + 1, last, o, h1, h2, by omega, h3, h4, ?_⟩ ?_
  · simp [g0, g1, g7, g8, g9, cut_self hcl]
  · simp [M11, h9, g9]
    omega

theorem strOp_add {a b : List UInt8} (h : a.length + b.length ≤ 9223372036854775807) : strOp .add a b = some (.str (a ++ b)) := by simp [strOp, h]

theorem refApplyOk (H : Hp) (z : Bool) (s : List UInt8) (l : List Ed) (hb : s.length + total l ≤ 70368744177664) :
    ACall Tryd.prog 18 [.d (.str s), .d (.sl z 3 (l.map encE))] H (fun r H' => r = .tup [.d (.str (applyS s l)), .d (.int .i64 (sound l s.length))] ∧ H' = H) := by
  refine acall_fin rfl cf18 (by simp [ir18]) fun hcl _ => ?_
  simp [ir18]
  refine CallK_of' (refSoundOk H z l s.length) ?_
  simp
  refine BrK_split (fun h => ?_) (fun h => ?_)
  · simp [RetK, cut_self hcl]
    simp at h
    simp [applyS, h]
  have h0 : sound l s.length = 0 := by simpa using h
  obtain ⟨hl512, hs0⟩ := sound_zero h0
  have hal : (applied s 0 l).length ≤ 72057594037927936 := by
    have := applied_length s 0 l
    have h5 : (l.length + 1) * s.length ≤ 513 * s.length := Nat.mul_le_mul_right _ (by omega)
    omega
  simp
  refine LoopK_of H.length (J11 H s z l) (M11 s) (by simp) ?_ ?_
  · refine ⟨[], l, 0, -1, [], rfl, ?_, Nat.zero_le _, hs0, fun e r hl => ?_, ?_⟩
    · cases l with
      | nil => simp [remn, applied]
      | cons e r =>
        have := soundFrom_cons hs0
        simp only [remn]; rw [if_neg (by omega)]; rfl
    · subst hl; have := soundFrom_cons hs0; simp; omega
    · simp [cut_self hcl]
  rintro fr H' ⟨pre, rest, k, last, o, hl, hap, hk, hsf, hkt, f0, f1, f7, f8, f9, rfl⟩
  simp [f0, f9]
  refine BrK_split (fun h => ?_) (fun h => ?_)
  · have hk2 : k ≤ s.length := by simpa using h
    have hw : IntKind.i64.wrap ((k : Int) + 1) = k + 1 := wrap_i64 (by omega) (by omega)
    have hsub : k < s.length → subL s (k : Int) ((k : Int) + 1) = some ((s.drop k).take 1) := fun hlt => by
      rw [subL_ok ⟨by omega, by omega, by omega⟩]; simp
    rcases rest with _ | ⟨e, r⟩
    · have hln : l.length = pre.length := by simp [hl]
      by_cases hlt : k < s.length
      · have hx : remn s k [] = (s.drop k).take 1 ++ remn s (k + 1) [] := drop_one s k
        rw [hx] at hap
        have hle := congrArg List.length hap
        rw [List.length_append, List.length_append] at hle
        have hst := strOp_add (a := o) (b := (s.drop k).take 1) (by omega)
        simp [-strOp, f0, f1, f7, f8, f9, hln, hlt, hsub hlt, hw, hst]
        exact again11 hcl f9 hk2 hl (o := o ++ (s.drop k).take 1) (by rw [List.append_assoc]; exact hap) hsf (by simp) (by simp [f0]) (by simp [f1]) (by simp) (by simp [f8]) (by simp)
      · have hx : remn s k [] = remn s (k + 1) [] := by simp only [remn]; rw [List.drop_eq_nil_of_le (by omega), List.drop_eq_nil_of_le (by omega)]
        rw [hx] at hap
        simp [-strOp, f0, f1, f7, f8, f9, hln, hlt, hw]
        exact again11 hcl f9 hk2 hl hap hsf (by simp) (by simp [f0]) (by simp [f1]) (by simp [f7]) (by simp [f8]) (by simp)
    · obtain ⟨e1, e2, e3, e4, e5⟩ := soundFrom_cons hsf
      have kt := hkt e r rfl
      have hr : Zam.rowAt (l.map encE) pre.length = some (encE e) := by rw [hl]; exact rowAt_mid _ _ _ _
      have hln : l.length = pre.length + (r.length + 1) := by simp [hl]
      have hp : pre.length < l.length := by omega
      have hw8 : IntKind.i64.wrap ((pre.length : Int) + 1) = pre.length + 1 := wrap_i64 (by omega) (by omega)
      by_cases hA : e.t = k
      · have hl' : l = (pre ++ [e]) ++ r := by simp [hl]
        have hB' : e.f = k ∨ e.f < k := by omega
        have hBle : e.f ≤ k := by omega
        have hrem : remn s k (e :: r) = (if e.f = k then e.s else []) ++ applied s k r := by
          rcases hB' with hB | hB
          · simp only [remn, applied]; rw [if_neg (by omega), if_pos hB, hB, hA]; simp
          · simp only [remn]; rw [if_pos hB, if_neg (by omega), hA]; rfl
        rcases r with _ | ⟨e', r'⟩
        · have hln1 : l.length = pre.length + 1 := by simpa using hln
          have hq1 : (pre.length : Int) < pre.length + 1 := by omega
          by_cases hlt : k < s.length
          · have hx : remn s k [e] = (if e.f = k then e.s else []) ++ ((s.drop k).take 1 ++ remn s (k + 1) []) := by
              rw [hrem]; simp only [applied, remn, Int.toNat_natCast]; rw [← drop_one]
            rw [hx] at hap
            have hle := congrArg List.length hap
            rw [List.length_append, List.length_append, List.length_append] at hle
            by_cases hB : e.f = k
            · rw [if_pos hB] at hap hle
              have hst0 := strOp_add (a := o) (b := e.s) (by omega)
              have hst := strOp_add (a := o ++ e.s) (b := (s.drop k).take 1) (by rw [List.length_append]; omega)
              simp [-strOp, -List.append_assoc, f0, f1, f7, f8, f9, hln1, hq1, hr, encE, hA, hB, hlt, hsub hlt, hw, hw8, hst0, hst]
              exact again11 hcl f9 hk2 hl' (o := o ++ e.s ++ (s.drop k).take 1) (by rw [List.append_assoc, List.append_assoc]; exact hap) e5 (by simp) (by simp [f0]) (by simp [f1]) (by simp) (by simp) (by simp)
            · rw [if_neg hB] at hap hle
              have hst := strOp_add (a := o) (b := (s.drop k).take 1) (by omega)
              simp [-strOp, -List.append_assoc, f0, f1, f7, f8, f9, hln1, hq1, hr, encE, hA, hB, hBle, hlt, hsub hlt, hw, hw8, hst]
              exact again11 hcl f9 hk2 hl' (o := o ++ (s.drop k).take 1) (by rw [List.append_assoc]; exact hap) e5 (by simp) (by simp [f0]) (by simp [f1]) (by simp) (by simp) (by simp)
          · have hx : remn s k [e] = (if e.f = k then e.s else []) ++ remn s (k + 1) [] := by
              rw [hrem]; simp only [applied, remn, Int.toNat_natCast]; rw [List.drop_eq_nil_of_le (by omega), List.drop_eq_nil_of_le (by omega)]
            rw [hx] at hap
            have hle := congrArg List.length hap
            rw [List.length_append, List.length_append] at hle
            by_cases hB : e.f = k
            · rw [if_pos hB] at hap hle
              have hst0 := strOp_add (a := o) (b := e.s) (by omega)
              simp [-strOp, -List.append_assoc, f0, f1, f7, f8, f9, hln1, hq1, hr, encE, hA, hB, hlt, hw, hw8, hst0]
              exact again11 hcl f9 hk2 hl' (o := o ++ e.s) (by rw [List.append_assoc]; exact hap) e5 (by simp) (by simp [f0]) (by simp [f1]) (by simp) (by simp) (by simp)
            · rw [if_neg hB] at hap hle
              simp [-strOp, -List.append_assoc, f0, f1, f7, f8, f9, hln1, hq1, hr, encE, hA, hB, hBle, hlt, hw, hw8]
              exact again11 hcl f9 hk2 hl' (o := o) hap e5 (by simp) (by simp [f0]) (by simp [f1]) (by simp [f7]) (by simp) (by simp)
        · obtain ⟨d1, d2, d3, d4, d5⟩ := soundFrom_cons e5
          have hlt : k < s.length := by omega
          have hr2 : Zam.rowAt (l.map encE) ((pre.length : Int) + 1) = some (encE e') := by
            have := rowAt_mid encE (pre ++ [e]) r' e'
            rw [← hl'] at this; simpa using this
          have hp2 : pre.length + 1 < l.length := by simp at hln; omega
          have hN : ¬ e'.f ≤ k := by omega
          have hq2 : (pre.length : Int) + 1 < l.length := by omega
          have hx : remn s k (e :: e' :: r') = (if e.f = k then e.s else []) ++ ((s.drop k).take 1 ++ remn s (k + 1) (e' :: r')) := by
            rw [hrem, applied_one (by omega)]; simp only [remn]; rw [if_neg (c := e'.f < ((k + 1 : Nat) : Int)) (by omega)]
          rw [hx] at hap
          have hle := congrArg List.length hap
          rw [List.length_append, List.length_append, List.length_append] at hle
          have h4 : ∀ y q, e' :: r' = y :: q → ((k + 1 : Nat) : Int) ≤ y.t := fun y q hy => by cases hy; omega
          by_cases hB : e.f = k
          · rw [if_pos hB] at hap hle
            have hst0 := strOp_add (a := o) (b := e.s) (by omega)
            have hst := strOp_add (a := o ++ e.s) (b := (s.drop k).take 1) (by rw [List.length_append]; omega)
            simp [-strOp, -List.append_assoc, f0, f1, f7, f8, f9, hp, hp2, hq2, hr, hr2, hN, encE, hA, hB, hlt, hsub hlt, hw, hw8, hst0, hst]
            exact again11 hcl f9 hk2 hl' (o := o ++ e.s ++ (s.drop k).take 1) (by rw [List.append_assoc, List.append_assoc]; exact hap) e5 h4 (by simp [f0]) (by simp [f1]) (by simp) (by simp) (by simp)
          · rw [if_neg hB] at hap hle
            have hst := strOp_add (a := o) (b := (s.drop k).take 1) (by omega)
            simp [-strOp, -List.append_assoc, f0, f1, f7, f8, f9, hp, hp2, hq2, hr, hr2, hN, encE, hA, hB, hlt, hsub hlt, hw, hw8, hst]
            exact again11 hcl f9 hk2 hl' (o := o ++ (s.drop k).take 1) (by rw [List.append_assoc]; exact hap) e5 h4 (by simp [f0]) (by simp [f1]) (by simp) (by simp) (by simp)
      · have hkt' : (k : Int) < e.t := by omega
        have hlt : k < s.length := by omega
        have h4 : ∀ y q, e :: r = y :: q → ((k + 1 : Nat) : Int) ≤ y.t := fun y q hy => by cases hy; omega
        rcases Int.lt_trichotomy e.f k with hB | hB | hB
        · have hB1 : ¬ e.f = k := by omega
          have hB2 : e.f ≤ k := by omega
          have hx : remn s k (e :: r) = remn s (k + 1) (e :: r) := by simp only [remn]; rw [if_pos hB, if_pos (by omega)]
          rw [hx] at hap
          simp [-strOp, -List.append_assoc, f0, f1, f7, f8, f9, hp, hr, encE, hA, hB1, hB2, hkt', hlt, hw, hw8]
          exact again11 hcl f9 hk2 hl (o := o) hap hsf h4 (by simp [f0]) (by simp [f1]) (by simp [f7]) (by simp [f8]) (by simp)
        · have hx : remn s k (e :: r) = e.s ++ remn s (k + 1) (e :: r) := by
            simp only [remn]; rw [if_neg (by omega), if_pos (by omega), applied, hB]; simp
          rw [hx] at hap
          have hle := congrArg List.length hap
          rw [List.length_append, List.length_append] at hle
          have hst0 := strOp_add (a := o) (b := e.s) (by omega)
          simp [-strOp, -List.append_assoc, f0, f1, f7, f8, f9, hp, hr, encE, hA, hB, hkt', hlt, hw, hw8, hst0]
          exact again11 hcl f9 hk2 hl (o := o ++ e.s) (by rw [List.append_assoc]; exact hap) hsf h4 (by simp [f0]) (by simp [f1]) (by simp) (by simp [f8]) (by simp)
        · have hB1 : ¬ e.f = k := by omega
          have hB2 : ¬ e.f ≤ k := by omega
          have hx : remn s k (e :: r) = (s.drop k).take 1 ++ remn s (k + 1) (e :: r) := by
            simp only [remn]; rw [if_neg (by omega), if_neg (by omega), applied_one hB]
          rw [hx] at hap
          have hle := congrArg List.length hap
          rw [List.length_append, List.length_append] at hle
          have hst := strOp_add (a := o) (b := (s.drop k).take 1) (by omega)
          simp [-strOp, -List.append_assoc, f0, f1, f7, f8, f9, hp, hr, encE, hA, hB1, hB2, hlt, hsub hlt, hw, hw8, hst]
          exact again11 hcl f9 hk2 hl (o := o ++ (s.drop k).take 1) (by rw [List.append_assoc]; exact hap) hsf h4 (by simp [f0]) (by simp [f1]) (by simp) (by simp [f8]) (by simp)
  · obtain ⟨rfl⟩ : rest = [] := by
      cases rest with
      | nil => rfl
      | cons e r =>
        have h1 := soundFrom_cons hsf
        have h2 := hkt e r rfl
        simp at h; omega
    simp at h
    simp [RetK, cut_self hcl, f7, h0, applyS, ← hap, remn]
    omega

end Go.Proofs.Zd

namespace Go.Proofs.Zd
open Go Go.Zam Go.Proofs Classical
set_option maxRecDepth 100000
set_option linter.all false
set_option maxHeartbeats 1000000

theorem lex_ab : lexS [97, 32, 98] = ([⟨1, 0, [], [97]⟩, ⟨1, 2, [32], [98]⟩, ⟨0, 3, [], []⟩], 0, 0) := by kernel_rfl
theorem lex_ac : lexS [97, 32, 99] = ([⟨1, 0, [], [97]⟩, ⟨1, 2, [32], [99]⟩, ⟨0, 3, [], []⟩], 0, 0) := by kernel_rfl
theorem runs_bc : runsL [[98]] [[99]] = [⟨0, 1, 0, 1⟩] := by
  have h1 : skipN [] [[99]] = (0, 1) := by rw [skipN_nil_cons, skipN_nil_nil]
  have h2 : skipN [[98]] [[99]] = (1, 1) := by
    rw [skipN_cons, if_neg (by decide), lcs_nil, if_pos (Nat.zero_le _), h1]
  unfold runsL
  rw [show ([[98]] : List Bs).length + ([[99]] : List Bs).length + 1 = 2 + 1 from rfl, runsF_run (by simp) (by decide), h2]
  simp [runsF]
theorem eds_bc : betweenL [[97], [32], [98]] [[97], [32], [99]] = [⟨2, 3, [99]⟩] := by
  have e1 : alikeN [[97], [32], [98]] [[97], [32], [99]] = 2 := by decide
  have e2 : midA [[97], [32], [98]] [[97], [32], [99]] = [[98]] := by decide
  have e3 : midB [[97], [32], [98]] [[97], [32], [99]] = [[99]] := by decide
  unfold betweenL
  rw [e1, e2, e3, edsOf, runs_bc, if_neg (by simp), if_pos (by simp)]
  rfl

theorem awakeOk {H0 : Hp} (hG : TabsG 0 1 2 3 H0) (H : Hp) (hH : Pre0 H0 H) : ACall Tryd.prog 9 [] H (fun r H' => r = .d (.bool true) ∧ H' = H) := by
  refine acall_fin rfl cf9 (by simp [ir9]) fun hcl _ => ?_
  have g1 := lexOk hG [97, 32, 98] (by decide) H hH
  have g2 := lexOk hG [97, 32, 99] (by decide) H hH
  rw [lex_ab] at g1; rw [lex_ac] at g2
  have g3 := betweenOk true true [⟨1, 0, [], [97]⟩, ⟨1, 2, [32], [98]⟩, ⟨0, 3, [], []⟩] [⟨1, 0, [], [97]⟩, ⟨1, 2, [32], [99]⟩, ⟨0, 3, [], []⟩] (by decide) (by decide) (by decide) (by decide) H
  have e1 : txU [⟨1, 0, [], [97]⟩, ⟨1, 2, [32], [98]⟩, ⟨0, 3, [], []⟩] = [[97], [32], [98]] := by decide
  have e2 : txU [⟨1, 0, [], [97]⟩, ⟨1, 2, [32], [99]⟩, ⟨0, 3, [], []⟩] = [[97], [32], [99]] := by decide
  rw [e1, e2, eds_bc] at g3
  simp only [encTk, List.map_cons, List.map_nil, encE, Int.cast_ofNat_Int] at g1 g2 g3
  simp [ir9]
  refine CallK_of' g1 ?_
  simp
  refine CallK_of' g2 ?_
  simp
  refine CallK_of' g3 ?_
  simp [Zam.rowAt, eqDs, eqD]
  simp [RetK, cut_self hcl]

/-- the tokens of two texts, if both have them and they are not long -/
def bothOk (s t : Bs) : Bool := decide ((lexS s).2.1 = 0) && decide ((lexS t).2.1 = 0) && decide (s.length + t.length ≤ 4000)
theorem bothA (s t : Bs) (hs : s.length ≤ 1048576) (ht : t.length ≤ 1048576) (H : Hp) : ACall Tryd.prog 12 [.d (.str s), .d (.str t)] H (fun r H' => r = .tup [.d (.sl true 4 ((lexS s).1.map encTk)), .d (.sl true 4 ((lexS t).1.map encTk)), .d (.bool (bothOk s t))] ∧ H' = H) := by
  refine acall_fin rfl cf12 (by simp [ir12]) fun hcl _ => ?_
  have g1 := lex4Ok s hs H
  have g2 := lex4Ok t ht H
  have hw : IntKind.i64.wrap ((s.length : Int) + t.length) = ((s.length + t.length : Nat) : Int) := by rw [wrap_i64 (by omega) (by omega)]; omega
  unfold bothOk
  generalize lexS s = S at g1 ⊢
  generalize lexS t = T at g2 ⊢
  obtain ⟨sl, se, sp⟩ := S
  obtain ⟨tl, te, tp⟩ := T
  simp only at g1 g2 ⊢
  simp [ir12]
  refine CallK_of' g1 ?_
  simp
  refine CallK_of' g2 ?_
  by_cases h1 : se = 0
  · by_cases h2 : te = 0
    · simp only [Int.natCast_add] at hw
      simp [h1, h2, hw]
      simp [RetK, cut_self hcl, h1, h2]
      omega
    · simp [h1, h2]
      simp [RetK, cut_self hcl, h1, h2]
  · simp [h1]
    simp [RetK, cut_self hcl, h1]

theorem lex_facts {s : Bs} (h : (lexS s).2.1 = 0) : joinS (lexS s).1 = s ∧ (lexS s).1.length ≤ 4000 := by
  obtain ⟨h1, h2⟩ := (lexS_ok s).2 h
  exact ⟨h1.join.1, h2⟩

theorem total_between (A B : List Bs) : total (betweenL A B) ≤ 1024 * B.flatten.length + B.flatten.length := by
  have hed : ∀ (p : Nat) (A B : List Bs) (r : Rn), (edR p A B r).s.length ≤ B.flatten.length := fun p A B r => by
    have h1 := flat_take (B.drop r.c) (r.d - r.c)
    have h2 : (B.drop r.c).flatten.length ≤ B.flatten.length := by
      have : B.flatten = (B.take r.c).flatten ++ (B.drop r.c).flatten := by rw [← List.flatten_append, List.take_append_drop]
      rw [this]; simp
    show ((B.drop r.c).take (r.d - r.c)).flatten.length ≤ _
    omega
  have key : ∀ (p : Nat) (A B : List Bs) (rs : List Rn), total (rs.map (edR p A B)) ≤ rs.length * B.flatten.length := fun p A B rs => by
    induction rs with
    | nil => simp [total]
    | cons r rs ih =>
      have := hed p A B r
      simp only [List.map_cons, total, List.length_cons, Nat.add_mul, Nat.one_mul]
      omega
  have hmB : (midB A B).flatten.length ≤ B.flatten.length := by
    obtain ⟨C, S, hC, hS, eA, eB, hm⟩ := mid_split A B
    conv => rhs; rw [eB]
    simp only [List.flatten_append, List.length_append]; omega
  unfold betweenL edsOf
  split
  · simp [total]
  split
  · rename_i h1 h2
    have h3 := key (posU A (alikeN A B)) (midA A B) (midB A B) (runsL (midA A B) (midB A B))
    have h4 : (runsL (midA A B) (midB A B)).length * (midB A B).flatten.length ≤ 1024 * B.flatten.length := Nat.mul_le_mul (by omega) hmB
    omega
  · have h3 := key (posU A (alikeN A B)) (midA A B) (midB A B) [⟨0, (midA A B).length, 0, (midB A B).length⟩]
    simp only [List.map_cons, List.map_nil, List.length_cons, List.length_nil] at h3
    omega

theorem lMakesOk {H0 : Hp} (hG : TabsG 0 1 2 3 H0) (s t : Bs) (hs : s.length ≤ 1048576) (ht : t.length ≤ 1048576) (H : Hp) (hH : Pre0 H0 H) : ACall Tryd.prog 6 [.d (.str s), .d (.str t)] H (fun r H' => r = .d (.bool true) ∧ H' = H) := by
  refine acall_fin rfl cf6 (by simp [ir6]) fun hcl _ => ?_
  have ga := awakeOk hG H hH
  have gb := bothA s t hs ht H
  simp [ir6]
  refine CallK_of' gb ?_
  cases hbo : bothOk s t with
  | false =>
    simp
    refine CallK_of' ga ?_
    simp
    simp [RetK, cut_self hcl]
  | true =>
    simp only [bothOk, Bool.and_eq_true, decide_eq_true_eq] at hbo
    obtain ⟨⟨h1, h2⟩, h3⟩ := hbo
    obtain ⟨ja, la⟩ := lex_facts h1
    obtain ⟨jb, lb⟩ := lex_facts h2
    generalize (lexS s).1 = a at ja la
    generalize (lexS t).1 = b at jb lb
    have g1 := betweenOk true true a b (by omega) (by omega) (by rw [ja]; omega) (by rw [jb]; omega) H
    have g2 := betweenOk true true a a (by omega) (by omega) (by rw [ja]; omega) (by rw [ja]; omega) H
    rw [between_self] at g2
    have hb := between_ok (A := txU a) (B := txU b) txU_ne txU_ne
    have htot := total_between (txU a) (txU b)
    rw [txU_flat, txU_flat, ja, jb] at hb
    rw [txU_flat, jb] at htot
    generalize betweenL (txU a) (txU b) = L at g1 hb htot
    have g3 := refApplyOk H true s L (by omega)
    have g4 := applyOk true s L (by omega) H
    rw [hb.1, hb.2] at g3 g4
    simp
    refine CallK_of' g1 ?_
    simp
    refine CallK_of' g3 ?_
    simp
    refine CallK_of' g4 ?_
    simp
    refine CallK_of' ga ?_
    simp
    refine CallK_of' g2 ?_
    simp
    simp [RetK, cut_self hcl]

theorem lTurnsOk {H0 : Hp} (hG : TabsG 0 1 2 3 H0) (s t : Bs) (hs : s.length ≤ 1048576) (ht : t.length ≤ 1048576) (H : Hp) (hH : Pre0 H0 H) : ACall Tryd.prog 5 [.d (.str s), .d (.str t)] H (fun r H' => r = .d (.bool true) ∧ H' = H) := by
  refine acall_fin rfl cf5 (by simp [ir5]) fun hcl _ => ?_
  have ga := awakeOk hG H hH
  have gb := bothA s t hs ht H
  simp [ir5]
  refine CallK_of' gb ?_
  cases hbo : bothOk s t with
  | false =>
    simp
    refine CallK_of' ga ?_
    simp
    simp [RetK, cut_self hcl]
  | true =>
    simp only [bothOk, Bool.and_eq_true, decide_eq_true_eq] at hbo
    obtain ⟨⟨h1, h2⟩, h3⟩ := hbo
    obtain ⟨ja, la⟩ := lex_facts h1
    obtain ⟨jb, lb⟩ := lex_facts h2
    generalize (lexS s).1 = a at ja la
    generalize (lexS t).1 = b at jb lb
    have hw : IntKind.i64.wrap ((a.length : Int) + b.length) = ((a.length + b.length : Nat) : Int) := by rw [wrap_i64 (by omega) (by omega)]; omega
    by_cases h200 : 200 < a.length + b.length
    · have h200' : (200 : Int) < (a.length : Int) + b.length := by omega
      simp only [Int.natCast_add] at hw
      simp [hw, h200', h200]
      refine CallK_of' ga ?_
      simp
      simp [RetK, cut_self hcl]
    have h200' : ¬ (200 : Int) < (a.length : Int) + b.length := by omega
    have g1 := betweenOk true true a b (by omega) (by omega) (by rw [ja]; omega) (by rw [jb]; omega) H
    have g2 := betweenOk true true b a (by omega) (by omega) (by rw [jb]; omega) (by rw [ja]; omega) H
    have g5 := keptOk true true a b (by omega) (by omega) (by rw [ja]; omega) (by rw [jb]; omega) H
    have g6 := keptOk true true b a (by omega) (by omega) (by rw [jb]; omega) (by rw [ja]; omega) H
    rw [kept_comm] at g6
    have hb := between_ok (A := txU a) (B := txU b) txU_ne txU_ne
    have hb2 := between_ok (A := txU b) (B := txU a) txU_ne txU_ne
    have htot := total_between (txU a) (txU b)
    have htot2 := total_between (txU b) (txU a)
    rw [txU_flat, txU_flat, ja, jb] at hb hb2
    rw [txU_flat, jb] at htot
    rw [txU_flat, ja] at htot2
    generalize betweenL (txU a) (txU b) = L at g1 hb htot
    generalize betweenL (txU b) (txU a) = L2 at g2 hb2 htot2
    generalize keptN (txU a) (txU b) = K at g5 g6
    have g3 := refApplyOk H true s L (by omega)
    have g4 := refApplyOk H true t L2 (by omega)
    rw [hb.1, hb.2] at g3
    rw [hb2.1, hb2.2] at g4
    simp only [Int.natCast_add] at hw
    simp [hw, h200', h200]
    refine CallK_of' g1 ?_
    simp
    refine CallK_of' g3 ?_
    simp
    refine CallK_of' g2 ?_
    simp
    refine CallK_of' g4 ?_
    simp
    refine CallK_of' ga ?_
    simp
    refine CallK_of' g5 ?_
    simp
    refine CallK_of' g6 ?_
    simp
    simp [RetK, cut_self hcl]

end Go.Proofs.Zd
