/-
  Texts of one proof, one behind the other.
-/
import Derived.Test.YtffdeeooocookaaM4
import Derived.Test.YtffdeeooocookaaM5
import Derived.Test.YtffdeeooocookaaM6
import Derived.Test.YtffdeeooocookaaM7
import Derived.Test.YtffdeeooocookaaM3
import Derived.Test.YtffdeeooocookaaProg
import Derived.KernelRfl
import Derived.Shelf.Sort.Plain
import Derived.Shelf.Slices.In.SortNone
import Derived.Ground.NamesProg
import Derived.Lib.LaidU8
set_option linter.all false
set_option maxRecDepth 100000
set_option maxHeartbeats 4000000
namespace Go.Proofs.Zs
section
open Go Go.Zam Go.Proofs
theorem rcf7 : compF Try.prog [] Try.f7 = some (irR7Of 17 15 25) := by kernel_rfl
theorem rcf15 : compF Try.prog [] Try.f15 = some (irR7Parse 31 32 25 88) := by kernel_rfl
theorem rcf31 : compF Try.prog [4] Try.f31 = some (irR7File 49 50 51 52 25) := by kernel_rfl
theorem rcf32 : compF Try.prog [] Try.f32 = some (irR6Depth 32 25) := by kernel_rfl
theorem rcf49 : compF Try.prog [] Try.f49 = some (irR7Is 53) := by kernel_rfl
theorem rcf50 : compF Try.prog [] Try.f50 = some (irR7Use 75 76 52 25) := by kernel_rfl
theorem rcf51 : compF Try.prog [] Try.f51 = some (irR7Def 76 75 77 52 25) := by kernel_rfl
theorem rcf52 : compF Try.prog [] Try.f52 = some (irR7Ended 25) := by kernel_rfl
theorem rcf75 : compF Try.prog [] Try.f75 = some (irR7Word 25) := by kernel_rfl
theorem rcf76 : compF Try.prog [] Try.f76 = some (irR7Want 49) := by kernel_rfl
theorem rcf77 : compF Try.prog [] Try.f77 = some (irR7Lambda 86 87 88 25) := by kernel_rfl
theorem rcf86 : compF Try.prog [7] Try.f86 = some (irR7Params 76 49 75 87 52 25) := by kernel_rfl
theorem rcf87 : compF Try.prog [] Try.f87 = some (irR7Typed 49 91 25) := by kernel_rfl
theorem rcf88 : compF Try.prog [7] Try.f88 = some (irR7Block 76 49 92 52 25) := by kernel_rfl
theorem rcf91 : compF Try.prog [9] Try.f91 = some (irR7Kind 49 75 76 91 52 25) := by kernel_rfl
theorem rcf92 : compF Try.prog [8,47] Try.f92 = some (irR7Stmt 49 93 88 52 75 87 76 25) := by kernel_rfl
theorem rcf93 : compF Try.prog [] Try.f93 = some (irR7Expr 94 49 52 25) := by kernel_rfl
theorem rcf94 : compF Try.prog [] Try.f94 = some (irR7Sum 95 49 52 25) := by kernel_rfl
theorem rcf95 : compF Try.prog [] Try.f95 = some (irR7Term 96 49 52 25) := by kernel_rfl
theorem rcf96 : compF Try.prog [10,56] Try.f96 = some (irR7Post 97 49 75 52 93 76 25) := by kernel_rfl
theorem rcf97 : compF Try.prog [11] Try.f97 = some (irR7Atom 49 93 76 52 75 77 25 53) := by kernel_rfl
theorem rcf17 : compF Try.prog [6] Try.f17 = some (irR4Lex 34 35 36 53) := by kernel_rfl
theorem rcf35 : compF Try.prog [] Try.f35 = some (irR4Lead) := by kernel_rfl
theorem rcf36 : compF Try.prog [] Try.f36 = some (irR4One 29 28 27 55) := by kernel_rfl
theorem rcf34 : compF Try.prog [] Try.f34 = some (irR3Bad 54) := by kernel_rfl
theorem rcf54 : compF Try.prog [] Try.f54 = some (irR3Next 78) := by kernel_rfl
theorem rcf78 : compF Try.prog [] Try.f78 = some (irR3More) := by kernel_rfl
theorem rcf55 : compF Try.prog [] Try.f55 = some (irR3Unquote) := by kernel_rfl
theorem rcf27 : compF Try.prog [] Try.f27 = some (irIsKey) := by kernel_rfl
theorem rcf28 : compF Try.prog [] Try.f28 = some (irDigit) := by kernel_rfl
theorem rcf29 : compF Try.prog [] Try.f29 = some (irLetter) := by kernel_rfl
theorem rcf21 : compF Try.prog [] Try.f21 = some (irSortStable 43) := by kernel_rfl
theorem rcf43 : compF Try.prog [] Try.f43 = some (irStable 61 62) := by kernel_rfl
theorem rcf61 : compF Try.prog [] Try.f61 = some (irInsertion 2) := by kernel_rfl
theorem rcf62 : compF Try.prog [] Try.f62 = some (irSymMerge 2 80 62) := by kernel_rfl
theorem rcf80 : compF Try.prog [] Try.f80 = some (irRotate 89) := by kernel_rfl
theorem rcf89 : compF Try.prog [] Try.f89 = some (irSwapRange 2) := by kernel_rfl
theorem rcf23 : compF Try.prog [] Try.f23 = some (irCompare 44) := by kernel_rfl
theorem rcf44 : compF Try.prog [] Try.f44 = some (irIsNaN) := by kernel_rfl
theorem scf39 : compF Try.prog [2000021] Try.f39 = some (irScWrong 50) := by kernel_rfl
theorem scf19 : compF Try.prog [] Try.f19 = some (irScBind 39 25 45) := by kernel_rfl
theorem scf57 : compF Try.prog [] Try.f57 = some (irScRes) := by kernel_rfl
theorem scf42 : compF Try.prog [6000028] Try.f42 = some (irScNode 40 59 19 60 20 58 68 25) := by kernel_rfl
theorem scf58 : compF Try.prog [] Try.f58 = some (irScNodeC 59) := by kernel_rfl
theorem scf59 : compF Try.prog [] Try.f59 = some (irScKids 42 25) := by kernel_rfl
theorem scf60 : compF Try.prog [] Try.f60 = some (irScMention 79 39 25 47) := by kernel_rfl
theorem scf79 : compF Try.prog [] Try.f79 = some (irScFind) := by kernel_rfl
theorem scf20 : compF Try.prog [] Try.f20 = some (irScClosed 40 41 68 23) := by kernel_rfl
theorem scf41 : compF Try.prog [6000022,6000028] Try.f41 = some (irScClosedC 19 42 25) := by kernel_rfl
theorem scf10 : compF Try.prog [5000003,8200003,6000034,6000043] Try.f10 = some (irScOf 19 20 21 22 25 34 73 45 47 50) := by kernel_rfl
theorem scf22 : compF Try.prog [] Try.f22 = some (irScCmp 23 50) := by kernel_rfl
theorem scf18 : compF Try.prog [] Try.f18 = some (irScWritten 37 38 34 3) := by kernel_rfl
theorem scf38 : compF Try.prog [] Try.f38 = some (irScWrittenC 47) := by kernel_rfl
theorem scf37 : compF Try.prog [] Try.f37 = some (irScContF 56) := by kernel_rfl
theorem scf56 : compF Try.prog [] Try.f56 = some (irScIdxF) := by kernel_rfl
theorem scf11 : compF Try.prog [10,11] Try.f11 = some (irScROf 24 25 25 40 67 64 65) := by kernel_rfl
theorem scf24 : compF Try.prog [12] Try.f24 = some (irScRBind 25 106 67 64) := by kernel_rfl
theorem scf25 : compF Try.prog [] Try.f25 = some (irScRClosed 45 24 46) := by kernel_rfl
theorem scf45 : compF Try.prog [5] Try.f45 = some (irScRBegin 106) := by kernel_rfl
theorem scf46 : compF Try.prog [] Try.f46 = some (irScRNode 63 25 45 46 24 25) := by kernel_rfl
theorem scf63 : compF Try.prog [] Try.f63 = some (irScRMention 25 65 67) := by kernel_rfl
theorem scf14 : compF Try.prog [2000039,9000023] Try.f14 = some (irScUsesV 30 34 47 3) := by kernel_rfl
theorem rdigitOk : ByteOk Try.prog 28 digitB := Has.digit ⟨_,Try.func28,rcf28⟩
theorem rletterOk : ByteOk Try.prog 29 letterB := Has.letter ⟨_,Try.func29,rcf29⟩
theorem risKeyOk (s : Bs) (H : Hp) : ACall Try.prog 27 [.d (.str s)] H (fun r H' => r = .d (.bool (decide (s ∈ keysL))) ∧ H' = H) := isKey_acall Try.func27 rcf27 s H
theorem lex4Ok (s : Bs) (hs : s.length ≤ 1048576) (H : Hp) :
 ACall Try.prog 17 [.d (.str s)] H (fun r H' => r = .tup [.d (.sl true 4 ((lexS s).1.map encTk)),.d (.int .i64 (lexS s).2.1),.d (.int .i64 (lexS s).2.2)] ∧ H' = H) :=
 HasT.lex4 ⟨_,Try.func17,rcf17⟩
  (fun s H hs => Has.bad3 ⟨_,Try.func34,rcf34⟩ (fun s n hn hl H => Has.next3 ⟨_,Try.func54,rcf54⟩ (Has.more3 ⟨_,Try.func78,rcf78⟩) s n hn hl H) s hs H)
  (fun s n hn hl H => Has.lead4 ⟨_,Try.func35,rcf35⟩ s n hn hl H)
  (fun s n hn hl H => Has.one4 ⟨_,Try.func36,rcf36⟩ rletterOk rdigitOk risKeyOk (fun s H hs => Has.unquote3 ⟨_,Try.func55,rcf55⟩ s hs H) s n hn hl H) s hs H
def Rf : RF := { kind := 91,file := 31,is := 49,word := 75,want := 76,ended := 52,use_ := 50,def_ := 51,lambda := 77,params := 86,typed := 87,block := 88,stmt := 92,expr := 93,sum := 94,term := 95,post := 96,atom := 97,tn := 25,tt := 53,tr := 88 }
theorem rHas : RHasA Try.prog Rf where
 is := ⟨_,Try.func49,rcf49⟩
 word := ⟨_,Try.func75,rcf75⟩
 want := ⟨_,Try.func76,rcf76⟩
 ended := ⟨_,Try.func52,rcf52⟩
 use_ := ⟨_,Try.func50,rcf50⟩
 def_ := ⟨_,Try.func51,rcf51⟩
 lambda := ⟨_,Try.func77,rcf77⟩
 typed := ⟨_,Try.func87,rcf87⟩
 params := ⟨_,Try.func86,rcf86⟩
 kind := ⟨_,Try.func91,rcf91⟩
 block := ⟨_,Try.func88,rcf88⟩
 stmt := ⟨_,Try.func92,rcf92⟩
 expr := ⟨_,Try.func93,rcf93⟩
 sum := ⟨_,Try.func94,rcf94⟩
 term := ⟨_,Try.func95,rcf95⟩
 post := ⟨_,Try.func96,rcf96⟩
 atom := ⟨_,Try.func97,rcf97⟩
 file := ⟨_,Try.func31,rcf31⟩
theorem refOfOk (s : Bs) (hs : s.length ≤ 1048576) (H : Hp) :
 ACall Try.prog 7 [.d (.str s)] H (fun r H' => r = .tup [.d (.sl true 4 ((parseO s).1.map encTk)),(parseO s).2.1.v,.d (.int .i64 (parseO s).2.2.1),.d (.int .i64 (parseO s).2.2.2)] ∧ H' = H) :=
 Has.of7 ⟨_,Try.func7,rcf7⟩ (fun s hs H => lex4Ok s hs H) (fun z L hL H => Has.parse7 (R := Rf) ⟨_,Try.func15,rcf15⟩ rHas ⟨_,Try.func32,rcf32⟩ hL H) s hs H
end
section
open Go Go.Zam Go.Proofs
def ir3 : IFn := { nt := 25, res := [.t 2], body := ( .seq (.ops [ ⟨some 2,none,.mv (.c (.bool false))⟩] false) (.seq (.ops [ ⟨some 8,none,.mv (.t 0)⟩, ⟨some 9,none,.call 7 [(.t 8)]⟩, ⟨some 7,none,.mv (.t 9)⟩, ⟨some 10,none,.ext (.t 7) 0⟩, ⟨some 11,none,.ext (.t 7) 1⟩, ⟨some 12,none,.ext (.t 7) 2⟩, ⟨some 13,none,.ext (.t 7) 3⟩, ⟨some 4,none,.alloc 25 [(.int .i64 0),(.int .i64 0),(.int .i64 0),(.str []),(.int .i64 0),(.sl true 6 [])]⟩, ⟨some 3,none,.mv (.t 10)⟩, ⟨none,none,.store 6 (.t 4) (.t 11)⟩, ⟨some 5,none,.mv (.t 12)⟩, ⟨some 6,none,.mv (.t 13)⟩] false) (.seq (.seq (.ops [ ⟨some 14,none,.mv (.t 5)⟩, ⟨some 15,none,.bin .neq (.t 14) (.c (.int .i64 0))⟩] false) (.cond (.t 15) (.seq (.ops [ ⟨some 16,none,.call 8 []⟩, ⟨some 2,none,.mv (.t 16)⟩] false) (.ret)) (.skip))) (.seq (.ops [ ⟨some 17,none,.call 8 []⟩, ⟨some 18,none,.mv (.t 17)⟩, ⟨some 19, some (18, true),.load 6 true (.t 4)⟩, ⟨some 20, some (18, true),.call 10 [(.t 19)]⟩, ⟨some 21, some (18, true),.load 6 true (.t 4)⟩, ⟨some 22, some (18, true),.call 11 [(.t 21)]⟩, ⟨some 23, some (18, true),.call 9 [(.t 20),(.t 22)]⟩, ⟨some 24,none,.pick (.t 18) (.t 23) (.c (.bool false))⟩, ⟨some 2,none,.mv (.t 24)⟩] true) (.ret))))) }
theorem cf3 : compF Try.prog [] Try.f3 = some ir3 := by kernel_rfl
def ir8 : IFn := { nt := 39, res := [.t 0], body := ( .seq (.ops [ ⟨some 0,none,.mv (.c (.bool false))⟩] false) (.seq (.ops [ ⟨some 7,none,.call 7 [(.c (.str [100,101,102,32,102,40,97,41,32,123,32,108,101,116,32,98,32,61,32,97,59,32,98,32,61,32,98,32,43,32,97,59,32,125]))]⟩, ⟨some 6,none,.mv (.t 7)⟩, ⟨some 8,none,.ext (.t 6) 0⟩, ⟨some 9,none,.ext (.t 6) 1⟩, ⟨some 10,none,.ext (.t 6) 2⟩, ⟨some 11,none,.ext (.t 6) 3⟩, ⟨some 2,none,.alloc 25 [(.int .i64 0),(.int .i64 0),(.int .i64 0),(.str []),(.int .i64 0),(.sl true 6 [])]⟩, ⟨some 1,none,.mv (.t 8)⟩, ⟨none,none,.store 6 (.t 2) (.t 9)⟩, ⟨some 3,none,.mv (.t 10)⟩, ⟨some 4,none,.mv (.t 11)⟩] false) (.seq (.ops [ ⟨some 12,none,.load 6 true (.t 2)⟩, ⟨some 13,none,.call 10 [(.t 12)]⟩, ⟨some 5,none,.alloc 34 [(.sl true 4 []),(.sl true 4 []),(.sl true 2 [])]⟩, ⟨none,none,.store 3 (.t 5) (.t 13)⟩] false) (.seq (.ops [ ⟨some 14,none,.faddr 0 (.t 5)⟩, ⟨some 15,none,.load 1 false (.t 14)⟩, ⟨some 16,none,.lenL (.t 15)⟩, ⟨some 17,none,.bin .eql (.t 16) (.c (.int .i64 3))⟩, ⟨some 18,none,.mv (.t 17)⟩, ⟨some 19, some (18, true),.load 3 true (.t 5)⟩, ⟨some 20, some (18, true),.call 14 [(.t 19),(.c (.int .i64 2))]⟩, ⟨some 21, some (18, true),.lenL (.t 20)⟩, ⟨some 22, some (18, true),.bin .eql (.t 21) (.c (.int .i64 3))⟩, ⟨some 23,none,.pick (.t 18) (.t 22) (.c (.bool false))⟩, ⟨some 24,none,.mv (.t 23)⟩, ⟨some 25, some (24, true),.load 3 true (.t 5)⟩, ⟨some 26, some (24, true),.call 18 [(.t 25),(.c (.int .i64 2))]⟩, ⟨some 27,none,.pick (.t 24) (.t 26) (.c (.bool false))⟩, ⟨some 28,none,.mv (.t 27)⟩, ⟨some 29, some (28, true),.load 3 true (.t 5)⟩, ⟨some 30, some (28, true),.call 18 [(.t 29),(.c (.int .i64 1))]⟩, ⟨some 31, some (28, true),.un .not (.t 30)⟩, ⟨some 32,none,.pick (.t 28) (.t 31) (.c (.bool false))⟩, ⟨some 33,none,.mv (.t 32)⟩, ⟨some 34, some (33, true),.faddr 2 (.t 5)⟩, ⟨some 35, some (33, true),.load 1 false (.t 34)⟩, ⟨some 36, some (33, true),.lenL (.t 35)⟩, ⟨some 37, some (33, true),.bin .eql (.t 36) (.c (.int .i64 0))⟩, ⟨some 38,none,.pick (.t 33) (.t 37) (.c (.bool false))⟩, ⟨some 0,none,.mv (.t 38)⟩] false) (.ret))))) }
theorem cf8 : compF Try.prog [] Try.f8 = some ir8 := by kernel_rfl
def ir9 : IFn := { nt := 97, res := [.t 4], body := ( .seq (.ops [ ⟨some 2,none,.box 34 3 (.t 0)⟩, ⟨some 3,none,.box 40 3 (.t 1)⟩, ⟨some 4,none,.mv (.c (.bool false))⟩] false) (.seq (.seq (.ops [ ⟨some 11,none,.faddr 0 (.t 2)⟩, ⟨some 12,none,.load 1 false (.t 11)⟩, ⟨some 13,none,.lenL (.t 12)⟩, ⟨some 14,none,.faddr 0 (.t 3)⟩, ⟨some 15,none,.load 1 false (.t 14)⟩, ⟨some 16,none,.lenL (.t 15)⟩, ⟨some 17,none,.bin .neq (.t 13) (.t 16)⟩, ⟨some 18,none,.mv (.t 17)⟩, ⟨some 19, some (18, false),.faddr 1 (.t 2)⟩, ⟨some 20, some (18, false),.load 1 false (.t 19)⟩, ⟨some 21, some (18, false),.lenL (.t 20)⟩, ⟨some 22, some (18, false),.faddr 1 (.t 3)⟩, ⟨some 23, some (18, false),.load 1 false (.t 22)⟩, ⟨some 24, some (18, false),.lenL (.t 23)⟩, ⟨some 25, some (18, false),.bin .neq (.t 21) (.t 24)⟩, ⟨some 26,none,.pick (.t 18) (.c (.bool true)) (.t 25)⟩, ⟨some 27,none,.mv (.t 26)⟩, ⟨some 28, some (27, false),.faddr 2 (.t 2)⟩, ⟨some 29, some (27, false),.load 1 false (.t 28)⟩, ⟨some 30, some (27, false),.lenL (.t 29)⟩, ⟨some 31, some (27, false),.faddr 2 (.t 3)⟩, ⟨some 32, some (27, false),.load 1 false (.t 31)⟩, ⟨some 33, some (27, false),.lenL (.t 32)⟩, ⟨some 34, some (27, false),.bin .neq (.t 30) (.t 33)⟩, ⟨some 35,none,.pick (.t 27) (.c (.bool true)) (.t 34)⟩] false) (.cond (.t 35) (.seq (.ops [ ⟨some 4,none,.mv (.c (.bool false))⟩] false) (.ret)) (.skip))) (.seq (.seq (.ops [ ⟨some 36,none,.faddr 0 (.t 2)⟩, ⟨some 37,none,.load 1 false (.t 36)⟩, ⟨some 38,none,.lenL (.t 37)⟩, ⟨some 39,none,.mv (.c (.int .i64 0))⟩] false) (.blk 0 (.loop (.seq (.ops [ ⟨some 40,none,.bin .lss (.t 39) (.t 38)⟩] false) (.seq (.cond (.t 40) (.skip) (.exit 0)) (.seq (.blk 1 (.seq (.ops [ ⟨some 41,none,.mv (.t 39)⟩, ⟨some 42,none,.iaddr 4 (.t 37) (.t 39)⟩, ⟨some 43,none,.load 4 true (.t 42)⟩, ⟨some 6,none,.alloc 45 [(.int .i64 0),(.int .i64 0),(.str []),(.int .i64 0)]⟩, ⟨some 5,none,.mv (.t 41)⟩, ⟨none,none,.store 4 (.t 6) (.t 43)⟩] false) (.seq (.ops [ ⟨some 44,none,.load 4 true (.t 6)⟩, ⟨some 45,none,.faddr 0 (.t 3)⟩, ⟨some 46,none,.load 1 false (.t 45)⟩, ⟨some 47,none,.mv (.t 5)⟩, ⟨some 48,none,.iaddr 4 (.t 46) (.t 47)⟩, ⟨some 49,none,.load 4 true (.t 48)⟩, ⟨some 50,none,.eqA true [(.int .i64 0),(.int .i64 0),(.str []),(.int .i64 0)] (.t 44) (.t 49)⟩] true) (.cond (.t 50) (.seq (.ops [ ⟨some 4,none,.mv (.c (.bool false))⟩] false) (.ret)) (.skip))))) (.ops [ ⟨some 51,none,.bin .add (.t 39) (.c (.int .i64 1))⟩, ⟨some 39,none,.mv (.t 51)⟩] false))))))) (.seq (.seq (.ops [ ⟨some 52,none,.faddr 1 (.t 2)⟩, ⟨some 53,none,.load 1 false (.t 52)⟩, ⟨some 54,none,.lenL (.t 53)⟩, ⟨some 55,none,.mv (.c (.int .i64 0))⟩] false) (.blk 2 (.loop (.seq (.ops [ ⟨some 56,none,.bin .lss (.t 55) (.t 54)⟩] false) (.seq (.cond (.t 56) (.skip) (.exit 2)) (.seq (.blk 3 (.seq (.ops [ ⟨some 57,none,.mv (.t 55)⟩, ⟨some 58,none,.iaddr 4 (.t 53) (.t 55)⟩, ⟨some 59,none,.load 4 true (.t 58)⟩, ⟨some 8,none,.alloc 47 [(.int .i64 0),(.int .i64 0),(.bool false),(.int .i64 0)]⟩, ⟨some 7,none,.mv (.t 57)⟩, ⟨none,none,.store 4 (.t 8) (.t 59)⟩] false) (.seq (.ops [ ⟨some 60,none,.load 4 true (.t 8)⟩, ⟨some 61,none,.faddr 1 (.t 3)⟩, ⟨some 62,none,.load 1 false (.t 61)⟩, ⟨some 63,none,.mv (.t 7)⟩, ⟨some 64,none,.iaddr 4 (.t 62) (.t 63)⟩, ⟨some 65,none,.load 4 true (.t 64)⟩, ⟨some 66,none,.eqA true [(.int .i64 0),(.int .i64 0),(.bool false),(.int .i64 0)] (.t 60) (.t 65)⟩] true) (.cond (.t 66) (.seq (.ops [ ⟨some 4,none,.mv (.c (.bool false))⟩] false) (.ret)) (.skip))))) (.ops [ ⟨some 67,none,.bin .add (.t 55) (.c (.int .i64 1))⟩, ⟨some 55,none,.mv (.t 67)⟩] false))))))) (.seq (.seq (.ops [ ⟨some 68,none,.faddr 2 (.t 2)⟩, ⟨some 69,none,.load 1 false (.t 68)⟩, ⟨some 70,none,.lenL (.t 69)⟩, ⟨some 71,none,.mv (.c (.int .i64 0))⟩] false) (.blk 4 (.loop (.seq (.ops [ ⟨some 72,none,.bin .lss (.t 71) (.t 70)⟩] false) (.seq (.cond (.t 72) (.skip) (.exit 4)) (.seq (.blk 5 (.seq (.ops [ ⟨some 73,none,.mv (.t 71)⟩, ⟨some 74,none,.iaddr 2 (.t 69) (.t 71)⟩, ⟨some 75,none,.load 2 true (.t 74)⟩, ⟨some 10,none,.alloc 50 [(.int .i64 0),(.int .i64 0)]⟩, ⟨some 9,none,.mv (.t 73)⟩, ⟨none,none,.store 2 (.t 10) (.t 75)⟩] false) (.seq (.ops [ ⟨some 76,none,.faddr 0 (.t 10)⟩, ⟨some 77,none,.load 1 false (.t 76)⟩, ⟨some 78,none,.faddr 2 (.t 3)⟩, ⟨some 79,none,.load 1 false (.t 78)⟩, ⟨some 80,none,.mv (.t 9)⟩, ⟨some 81,none,.iaddr 2 (.t 79) (.t 80)⟩, ⟨some 82,none,.faddr 0 (.t 81)⟩, ⟨some 83,none,.load 1 false (.t 82)⟩, ⟨some 84,none,.bin .neq (.t 77) (.t 83)⟩, ⟨some 85,none,.mv (.t 84)⟩, ⟨some 86, some (85, false),.faddr 1 (.t 10)⟩, ⟨some 87, some (85, false),.load 1 false (.t 86)⟩, ⟨some 88, some (85, false),.faddr 2 (.t 3)⟩, ⟨some 89, some (85, false),.load 1 false (.t 88)⟩, ⟨some 90, some (85, false),.mv (.t 9)⟩, ⟨some 91, some (85, false),.iaddr 2 (.t 89) (.t 90)⟩, ⟨some 92, some (85, false),.faddr 1 (.t 91)⟩, ⟨some 93, some (85, false),.load 1 false (.t 92)⟩, ⟨some 94, some (85, false),.bin .neq (.t 87) (.t 93)⟩, ⟨some 95,none,.pick (.t 85) (.c (.bool true)) (.t 94)⟩] true) (.cond (.t 95) (.seq (.ops [ ⟨some 4,none,.mv (.c (.bool false))⟩] false) (.ret)) (.skip))))) (.ops [ ⟨some 96,none,.bin .add (.t 71) (.c (.int .i64 1))⟩, ⟨some 71,none,.mv (.t 96)⟩] false))))))) (.seq (.ops [ ⟨some 4,none,.mv (.c (.bool true))⟩] false) (.ret))))))) }
theorem cf9 : compF Try.prog [] Try.f9 = some ir9 := by kernel_rfl
end
end Go.Proofs.Zs
namespace Go.Proofs
section
open Go.Shelf
def Try.lays189_ren : Go.Shelf.Ren := ⟨fun | 189 => 30 | 125 => 48 | 257 => 47 | 128 => 73 | 129 => 74 | 294 => 64 | 295 => 65 | 296 => 66 | 297 => 67 | 298 => 68 | 299 => 69 | 216 => 70 | 300 => 71 | 301 => 72 | 328 => 81 | 329 => 82 | 330 => 83 | 331 => 84 | 332 => 85 | 215 => 44 | 343 => 90 | n => n,fun | 28 => 55 | 3 => 3 | 46 => 112 | 0 => 0 | 51 => 137 | 53 => 120 | 4 => 4 | 183 => 130 | 182 => 129 | 131 => 98 | 5 => 5 | 9 => 9 | 218 => 145 | 222 => 149 | 228 => 151 | 229 => 143 | n => n,fun | n => n⟩
theorem Try.lays189 : Go.Proofs.Lays.n189 Try.prog Try.lays189_ren := {
 mixed := by kernel_rfl
 f125 := Try.func48.trans (congrArg some (by kernel_rfl))
 f128 := Try.func73.trans (congrArg some (by kernel_rfl))
 f129 := Try.func74.trans (congrArg some (by kernel_rfl))
 f189 := Try.func30.trans (congrArg some (by kernel_rfl))
 f215 := Try.func44.trans (congrArg some (by kernel_rfl))
 f216 := Try.func70.trans (congrArg some (by kernel_rfl))
 f257 := Try.func47.trans (congrArg some (by kernel_rfl))
 f294 := Try.func64.trans (congrArg some (by kernel_rfl))
 f295 := Try.func65.trans (congrArg some (by kernel_rfl))
 f296 := Try.func66.trans (congrArg some (by kernel_rfl))
 f297 := Try.func67.trans (congrArg some (by kernel_rfl))
 f298 := Try.func68.trans (congrArg some (by kernel_rfl))
 f299 := Try.func69.trans (congrArg some (by kernel_rfl))
 f300 := Try.func71.trans (congrArg some (by kernel_rfl))
 f301 := Try.func72.trans (congrArg some (by kernel_rfl))
 f328 := Try.func81.trans (congrArg some (by kernel_rfl))
 f329 := Try.func82.trans (congrArg some (by kernel_rfl))
 f330 := Try.func83.trans (congrArg some (by kernel_rfl))
 f331 := Try.func84.trans (congrArg some (by kernel_rfl))
 f332 := Try.func85.trans (congrArg some (by kernel_rfl))
 f343 := Try.func90.trans (congrArg some (by kernel_rfl))
 t0 := Try.underlying0
 a0 := Try.isAgg0
 z0 := Try.sizeOf0
 v0 := Try.zeroValue0
 t3 := Try.underlying3
 a3 := Try.isAgg3
 z3 := Try.sizeOf3
 v3 := Try.zeroValue3
 t4 := Try.underlying4
 a4 := Try.isAgg4
 z4 := Try.sizeOf4
 v4 := Try.zeroValue4
 t5 := Try.underlying5
 a5 := Try.isAgg5
 z5 := Try.sizeOf5
 v5 := Try.zeroValue5
 t9 := Try.underlying9
 a9 := Try.isAgg9
 z9 := Try.sizeOf9
 v9 := Try.zeroValue9
 t28 := Try.underlying55
 a28 := Try.isAgg55
 z28 := Try.sizeOf55
 v28 := Try.zeroValue55
 t46 := Try.underlying112
 a46 := Try.isAgg112
 z46 := Try.sizeOf112
 v46 := Try.zeroValue112
 t51 := Try.underlying137
 a51 := Try.isAgg137
 z51 := Try.sizeOf137
 v51 := Try.zeroValue137
 t53 := Try.underlying120
 a53 := Try.isAgg120
 z53 := Try.sizeOf120
 v53 := Try.zeroValue120
 t131 := Try.underlying98
 a131 := Try.isAgg98
 z131 := Try.sizeOf98
 v131 := Try.zeroValue98
 t182 := Try.underlying129
 a182 := Try.isAgg129
 z182 := Try.sizeOf129
 v182 := Try.zeroValue129
 t183 := Try.underlying130
 a183 := Try.isAgg130
 z183 := Try.sizeOf130
 v183 := Try.zeroValue130
 t218 := Try.underlying145
 a218 := Try.isAgg145
 z218 := Try.sizeOf145
 v218 := Try.zeroValue145
 t222 := Try.underlying149
 a222 := Try.isAgg149
 z222 := Try.sizeOf149
 v222 := Try.zeroValue149
 t228 := Try.underlying151
 a228 := Try.isAgg151
 z228 := Try.sizeOf151
 v228 := Try.zeroValue151
 t229 := Try.underlying143
 a229 := Try.isAgg143
 z229 := Try.sizeOf143
 v229 := Try.zeroValue143 }
open Go Go.Zam in
theorem Zs.sortOk : SortInt Try.prog 30 := fun blk off cap ss w hH hblk hsz => Any.slices_Sort_int Try.lays189 blk off cap ss w hH hblk hsz
end
end Go.Proofs
namespace Go.Zam
section
section
variable {P : Program}
end
end
section
section
variable {L : List Tk}
end
section
variable {L L' : List Tk} {d b lo c : Nat}
end
end
section
section
variable {L L' : List Tk} {d b : Nat}
end
end
section
section
variable {L L' : List Tk} {d b : Nat}
end
end
theorem parseP_size (L : List Tk) : (parseP L).1.size ≤ 1 + 4 * L.length := by
 have hn : N.none.size = 1 := N.size_none
 unfold parseP
 split
 · simp only; omega
 · cases hF : parseF L with
   | out => simp only; omega
   | bad q => simp only; omega
   | ok m j =>
     simp only
     split
     · simp only; omega
     · have hsz := pp_size (L := L) (16 * L.length + 8) (.file []) 0 trivial
       rw [show pp L (16 * L.length + 8) (.file []) 0 = .ok m j from hF] at hsz
       simp only [Sz,G.k1,G.sz,N.sizes_nil] at hsz
       have hadv := pp_adv (L := L) (16 * L.length + 8) (.file []) 0
       rw [show pp L (16 * L.length + 8) (.file []) 0 = .ok m j from hF] at hadv
       obtain ⟨v1,-,v3⟩ := hadv
       simp only; omega
theorem parseO_size (s : Bs) : (parseO s).2.1.size ≤ 16001 := by
 unfold parseO
 split
 · simp only [N.size_none]; omega
 · rename_i h
   split
   · simp only [N.size_none]; omega
   · have := parseP_size (lexS s).1
     have := (lexS_like (s := s) (by simpa using h)).2.2.2.2
     simp only; omega
theorem node_ex (a : N) : ∃ (k f t : Int) (w : Bs) (q : Int) (za : Bool) (ks : List N),a.ks = ks ∧ a.enc = [.int .i64 k,.int .i64 f,.int .i64 t,.str w,.int .i64 q,.sl za 6 (ks.map N.enc)] ∧ a.v = .agg [.d (.int .i64 k),.d (.int .i64 f),.d (.int .i64 t),.d (.str w),.d (.int .i64 q),.d (.sl za 6 (ks.map N.enc))] := by
 obtain ⟨k,f,t,w,q,za,ks⟩ := a
 exact ⟨k,f,t,w,q,za,ks,rfl,by rw [N.enc_mk],by rw [N.v_mk]⟩
end Go.Zam
namespace Go.Proofs.Zs
section
open Go Go.Zam Go.Proofs
def Sf : SF := { wrong := 39,bind := 19,within := 40,res := 57,node := 42,nodeC := 58,kids := 59,mention := 60,find := 79,closed := 20,closedC := 41,cmp := 22,srt := 21,cmpI := 23,tn := 25,tp := 68,ts := 23,tfp := 71,tf := 102,tb := 73,tm := 34,bd := 45,mn := 47,ed := 50 }
theorem sHas : SHas Try.prog Sf where
 wrong := ⟨_,Try.func39,scf39⟩
 bind := ⟨_,Try.func19,scf19⟩
 res := ⟨_,Try.func57,scf57⟩
 kRes := by kernel_rfl
 node := ⟨_,Try.func42,scf42⟩
 nodeC := ⟨_,Try.func58,scf58⟩
 kNodeC := by kernel_rfl
 kids := ⟨_,Try.func59,scf59⟩
 mention := ⟨_,Try.func60,scf60⟩
 find := ⟨_,Try.func79,scf79⟩
 closed := ⟨_,Try.func20,scf20⟩
 closedC := ⟨_,Try.func41,scf41⟩
 kClosedC := by kernel_rfl
theorem sHasW : HasW Try.prog Sf := ⟨_,Try.func40,by kernel_rfl⟩
def Rs : RSF := { rbind := 24,rclosed := 25,rbegin := 45,rnode := 46,rmention := 63,tn := 25,rtm := 40,rnm := 106,red := 67,rbd := 64,rmn := 65 }
theorem rsHas : RSHas Try.prog Rs where
 rbind := ⟨_,Try.func24,scf24⟩
 rclosed := ⟨_,Try.func25,scf25⟩
 rbegin := ⟨_,Try.func45,scf45⟩
 rnode := ⟨_,Try.func46,scf46⟩
 rmention := ⟨_,Try.func63,scf63⟩
theorem encBad_len : ∀ x,(encBad x).length = 2 := fun _ => rfl
theorem cmpB : CmpA Try.prog encBad cBad (.d (.fn 22)) := fun H x y Q t hq => by
 simp only [ValD_d]
 exact ⟨by kernel_rfl,CallD_of (Has.scCmp (ed := 50) (cmpI := 23) ⟨_,Try.func22,scf22⟩ (fun a b H => compareInt_acall Try.func23 rcf23 Try.func44 rcf44 a b) x y H) hq⟩
theorem srtOk (H : Hp) (i : Nat) (L : List (Int × Int)) (hi : H[i]? = some (arrE encBad 2 L)) (hl : L.length ≤ 1099511627776) : ACall Try.prog 21 [.msl i 0 L.length,.d (.fn 22)] H (fun r H' => r = .tup [] ∧ H' = H.set i (arrE encBad 2 (ssort cBad L))) :=
 sortStable_acall encBad_len cBad_cmp Try.func21 rcf21 Try.func43 rcf43 Try.func61 rcf61 Try.func62 rcf62 Try.func80 rcf80 Try.func89 rcf89 cmpB (fun m _ => by simp) hi hl
theorem srt0Ok (H : Hp) : ACall Try.prog 21 [.d (.sl true 2 []),.d (.fn 22)] H (fun r H' => r = .tup [] ∧ H' = H) :=
 sortStable0_acall (sz := 2) Try.func21 rcf21 Try.func43 rcf43 Try.func61 rcf61 (fun m _ => by simp)
theorem scopeOk (n : N) (hn : n.size ≤ 68719476736) (H : Hp) : ACall Try.prog 10 [n.v] H (fun r H' => r = .agg ((scopeM n).enc.map .d) ∧ H' = H) :=
 sHas.of' sHasW ⟨_,Try.func10,scf10⟩ srtOk srt0Ok n hn H
theorem refScopeOk (n : N) (hn : n.size ≤ 68719476736) (H : Hp) : ACall Try.prog 11 [n.v] H (fun r H' => r = .agg ((scopeM n).encR.map .d) ∧ H' = H) := by
 have := rsHas.of' ⟨_,Try.func11,scf11⟩ n hn H
 rw [← all_both] at this
 exact this
theorem writtenOk {bs bad : D} {z : Bool} {ms : List Mn} (hl : ms.length ≤ 1099511627776) (i : Int) (H : Hp) : ACall Try.prog 18 [.agg [.d bs,.d (.sl z 4 (ms.map encMn)),.d bad],.d (.int .i64 i)] H (fun r H' => r = .d (.bool (ms.any (wrQ i))) ∧ H' = H) :=
 Has.scWritten (tm := 34) (tint := 3) (mn := 47) ⟨_,Try.func18,scf18⟩ ⟨_,Try.func37,scf37⟩ ⟨_,Try.func56,scf56⟩ ⟨_,Try.func38,scf38⟩ (by kernel_rfl) hl i H
theorem usesOk {S : SM} {z1 z2 : Bool} {bad : D} (hl : S.ms.length ≤ 1099511627776) (i : Nat) (hi : i < S.bs.length) (H : Hp) :
 ACall Try.prog 14 [.agg [.d (.sl z1 4 (S.bs.map encBd)),.d (.sl z2 4 (S.ms.map encMn)),.d bad],.d (.int .i64 (i : Int))] H (fun r H' => r = .d (.sl false 1 ((isort (usesL S i)).map Go.Zam.encI)) ∧ H' = H) :=
 Has.scUses ⟨_,Try.func14,scf14⟩ sortOk hl i hi H
def awkT : Bs := [100,101,102,32,102,40,97,41,32,123,32,108,101,116,32,98,32,61,32,97,59,32,98,32,61,32,98,32,43,32,97,59,32,125]
def awkM : SM := scopeM (parseO awkT).2.1
theorem awk_e : (parseO awkT).2.2.1 = 0 := by kernel_rfl
theorem awk_size : (parseO awkT).2.1.size ≤ 68719476736 := Nat.le_trans (of_decide_eq_true (p := (parseO awkT).2.1.size ≤ 100) (by kernel_rfl)) (by decide)
theorem awk_bs : awkM.bs.length = 3 := by kernel_rfl
theorem awk_bad : awkM.bad.length = 0 := by kernel_rfl
theorem awk_ms : awkM.ms.length = 4 := by kernel_rfl
theorem awk_u : (usesL awkM 2).length = 3 := by kernel_rfl
theorem awk_w2 : awkM.ms.any (wrQ 2) = true := by kernel_rfl
theorem awk_w1 : awkM.ms.any (wrQ 1) = false := by kernel_rfl
theorem awakeOk (H : Hp) : ACall Try.prog 8 [] H (fun r H' => r = .d (.bool true) ∧ H' = H) := by
 refine acall_fin Try.func8 cf8 (by simp [ir8]) fun hcl _ => ?_
 have g := refOfOk awkT (by decide) H
 have g1 := fun X => scopeOk (parseO awkT).2.1 awk_size (H ++ X)
 rw [awk_e] at g
 have hM : scopeM (parseO awkT).2.1 = awkM := rfl
 rw [hM] at g1
 have b1 := awk_bs; have b2 := awk_bad; have b3 := awk_ms; have b4 := awk_u; have b5 := awk_w2; have b6 := awk_w1
 generalize awkM = M at g1 b1 b2 b3 b4 b5 b6
 generalize (parseO awkT).1 = LA at g
 generalize (parseO awkT).2.2.2 = PA at g
 obtain ⟨k,f,t,w,q,za,ks,-,he,hv⟩ := node_ex (parseO awkT).2.1
 rw [hv] at g g1
 unfold awkT at g
 have gu := fun X => usesOk (S := M) (z1 := M.bs.isEmpty) (z2 := M.ms.isEmpty) (bad := .sl M.bad.isEmpty 2 (M.bad.map encBad)) (by omega) 2 (by omega) (H ++ X)
 have gw := fun X i => writtenOk (bs := .sl M.bs.isEmpty 4 (M.bs.map encBd)) (z := M.ms.isEmpty) (ms := M.ms) (bad := .sl M.bad.isEmpty 2 (M.bad.map encBad)) (by omega) i (H ++ X)
 have hlu : (isort (usesL M 2)).length = 3 := by rw [isort_len]; exact b4
 generalize isort (usesL M 2) = UL at gu hlu
 simp only [SM.enc,List.map_cons,List.map_nil] at g1
 have gw2 := fun X => gw X 2
 have gw1 := fun X => gw X 1
 rw [b5] at gw2
 rw [b6] at gw1
 simp [ir8]
 refine CallK_of' g ?_
 simp
 refine CallK_of' (g1 _) ?_
 simp [b1]
 refine CallK_of' (gu _) ?_
 simp [hlu]
 refine CallK_of' (gw2 _) ?_
 simp
 refine CallK_of' (gw1 _) ?_
 simp [b2]
 simp [RetK,cut_app hcl]
theorem sameOk (S : SM) (hl : S.sz ≤ 4611686018427387904) (H : Hp) : ACall Try.prog 9 [.agg (S.enc.map .d),.agg (S.encR.map .d)] H (fun r H' => r = .d (.bool true) ∧ H' = H) := by
 refine acall_fin Try.func9 cf9 (by simp [ir9]) fun hcl _ => ?_
 obtain ⟨bs,ms,bad⟩ := S
 have h1 : bs.length ≤ 4611686018427387904 := by unfold SM.sz at hl; simp only at hl; omega
 have h2 : ms.length ≤ 4611686018427387904 := by unfold SM.sz at hl; simp only at hl; omega
 have h3 : bad.length ≤ 4611686018427387904 := by unfold SM.sz at hl; simp only at hl; omega
 obtain ⟨Y,hY⟩ : ∃ Y : Hp,Y = [Ob.box 34 [.d (.sl bs.isEmpty 4 (bs.map encBd)),.d (.sl ms.isEmpty 4 (ms.map encMn)),.d (.sl bad.isEmpty 2 (bad.map encBad))],Ob.box 40 [.d (.sl true 4 (bs.map encBd)),.d (.sl true 4 (ms.map encMn)),.d (.sl true 2 (bad.map encBad))]] := ⟨_,rfl⟩
 have hc : ∀ X,Hp.cut (H.length + 2) (H ++ (Y ++ X)) = H ++ Y := fun X => by rw [cut_appk hcl]; subst hY; simp
 have hc0 : Hp.cut (H.length + 2) (H ++ Y) = H ++ Y := by have := hc []; rwa [List.append_nil] at this
 have e0 : ∀ X,(Y ++ X)[0]? = some (Ob.box 34 [.d (.sl bs.isEmpty 4 (bs.map encBd)),.d (.sl ms.isEmpty 4 (ms.map encMn)),.d (.sl bad.isEmpty 2 (bad.map encBad))]) := fun X => by subst hY; rfl
 have e1 : ∀ X,(Y ++ X)[1]? = some (Ob.box 40 [.d (.sl true 4 (bs.map encBd)),.d (.sl true 4 (ms.map encMn)),.d (.sl true 2 (bad.map encBad))]) := fun X => by subst hY; rfl
 have e0' : Y[0]? = some (Ob.box 34 [.d (.sl bs.isEmpty 4 (bs.map encBd)),.d (.sl ms.isEmpty 4 (ms.map encMn)),.d (.sl bad.isEmpty 2 (bad.map encBad))]) := by have := e0 []; rwa [List.append_nil] at this
 have e2 : ∀ x X,(Y ++ x :: X)[2]? = some x := fun x X => by subst hY; rfl
 have s2 : ∀ x y X,(Y ++ x :: X).set 2 y = Y ++ y :: X := fun x y X => by subst hY; rfl
 have lY : Y.length = 2 := by subst hY; rfl
 simp [ir9,SM.enc,SM.encR,List.getElem?_cons_zero,-getElem?_pos]
 rw [← hY]
 refine LoopK_out 0 (fun fr H' => fr 2 = .ptr H.length 0 ∧ fr 3 = .ptr (H.length + 1) 0 ∧ H' = H ++ Y) ?_ ?_
 · refine RangeK_of (H.length + 2) bs.length (fun j fr H' => fr 2 = .ptr H.length 0 ∧ fr 3 = .ptr (H.length + 1) 0 ∧ fr 37 = .d (.sl bs.isEmpty 4 (bs.map encBd)) ∧ H' = H ++ Y) h1 (by decide) (by simp [lY]) (by simp) ?_ ?_ ?_
   · exact ⟨by simp,by simp,by simp,hc0⟩
   · rintro j fr H' hj f39 f38 ⟨f2,f3,f37,rfl⟩
     have hr := rowAt_map encBd hj
     generalize bs[j] = x at hr
     obtain ⟨xa,xk,xw,xi⟩ := x
     simp only [encBd] at hr
     simp [f39,f37,f3,hr,e1,e2,s2,lY,eqDs,eqD,-getElem?_pos]
     refine NextK_of (H.length + 2) (Nat.le_refl _) (by simp [lY,f39,f38]) ?_
     exact ⟨by simp [f2],by simp [f3],by simp [f37],hc _⟩
   · rintro fr H' f39 f38 ⟨f2,f3,f37,rfl⟩
     simp [f2,f3]
 · rintro fr H' ⟨f2,f3,rfl⟩
   simp [f2,e0',-getElem?_pos]
   refine LoopK_out 2 (fun fr H' => fr 2 = .ptr H.length 0 ∧ fr 3 = .ptr (H.length + 1) 0 ∧ H' = H ++ Y) ?_ ?_
   · refine RangeK_of (H.length + 2) ms.length (fun j fr H' => fr 2 = .ptr H.length 0 ∧ fr 3 = .ptr (H.length + 1) 0 ∧ fr 53 = .d (.sl ms.isEmpty 4 (ms.map encMn)) ∧ H' = H ++ Y) h2 (by decide) (by simp [lY]) (by simp) ?_ ?_ ?_
     · exact ⟨by simp [f2],by simp [f3],by simp,hc0⟩
     · rintro j fr H' hj f55 f54 ⟨f2,f3,f53,rfl⟩
       have hr := rowAt_map encMn hj
       generalize ms[j] = x at hr
       obtain ⟨xa,xt,xw,xf⟩ := x
       simp only [encMn] at hr
       simp [f55,f53,f3,hr,e1,e2,s2,lY,eqDs,eqD,-getElem?_pos]
       refine NextK_of (H.length + 2) (Nat.le_refl _) (by simp [lY,f55,f54]) ?_
       exact ⟨by simp [f2],by simp [f3],by simp [f53],hc _⟩
     · rintro fr H' f55 f54 ⟨f2,f3,f53,rfl⟩
       simp [f2,f3]
   · rintro fr H' ⟨f2,f3,rfl⟩
     simp [f2,e0',-getElem?_pos]
     refine LoopK_out 4 (fun fr H' => H' = H ++ Y) ?_ ?_
     · refine RangeK_of (H.length + 2) bad.length (fun j fr H' => fr 2 = .ptr H.length 0 ∧ fr 3 = .ptr (H.length + 1) 0 ∧ fr 69 = .d (.sl bad.isEmpty 2 (bad.map encBad)) ∧ H' = H ++ Y) h3 (by decide) (by simp [lY]) (by simp) ?_ ?_ ?_
       · exact ⟨by simp [f2],by simp [f3],by simp,hc0⟩
       · rintro j fr H' hj f71 f70 ⟨f2,f3,f69,rfl⟩
         have hr := rowAt_map encBad hj
         generalize bad[j] = x at hr
         obtain ⟨xa,xe⟩ := x
         simp only [encBad] at hr
         simp [f71,f69,f3,hr,e1,e2,s2,lY,-getElem?_pos]
         refine NextK_of (H.length + 2) (Nat.le_refl _) (by simp [lY,f71,f70]) ?_
         exact ⟨by simp [f2],by simp [f3],by simp [f69],hc _⟩
       · rintro fr H' f71 f70 ⟨f2,f3,f69,rfl⟩
         simp
     · rintro fr H' rfl
       simp [RetK,cut_app hcl]
end
section
open Go Go.Zam Go.Proofs
theorem scopeM_sz (n : N) : (scopeM n).sz ≤ 4 * n.size := by
 obtain ⟨k,f,t,w,a,z,ks⟩ := n
 have hall : allP (.mk k f t w a z ks) = defsP (topsP 0 ks [] ⟨[],[],[]⟩).1 0 ks (topsP 0 ks [] ⟨[],[],[]⟩).2 := rfl
 have h1 := (tops_grew ks 0 [] ⟨[],[],[]⟩ (FOk.nil _)).sz
 have h2 := (defs_grew (topsP 0 ks [] ⟨[],[],[]⟩).1 ks 0 (topsP 0 ks [] ⟨[],[],[]⟩).2).2
 have h3 : SM.sz ⟨[],[],[]⟩ = 0 := rfl
 have hsl := N.sizes_len ks
 rw [N.size_mk]
 have : (scopeM (.mk k f t w a z ks)).sz = (allP (.mk k f t w a z ks)).sz := by
  unfold scopeM SM.sz
  simp only [ssort_length cBad_cmp]
 rw [this,hall]
 omega
theorem bindsOk (s : Bs) (hs : s.length ≤ 1048576) (H : Hp) : ACall Try.prog 3 [.d (.str s)] H (fun r H' => r = .d (.bool true) ∧ H' = H) := by
 refine acall_fin Try.func3 cf3 (by simp [ir3]) fun hcl _ => ?_
 have g := refOfOk s hs H
 have haw := fun X => awakeOk (H ++ X)
 have hz := parseO_size s
 generalize parseO s = O at g hz
 obtain ⟨L,n,e,at_⟩ := O
 simp only at g hz
 have g1 := fun X => scopeOk n (by omega) (H ++ X)
 have g2 := fun X => refScopeOk n (by omega) (H ++ X)
 have hsz := scopeM_sz n
 have g3 := fun X => sameOk (scopeM n) (by omega) (H ++ X)
 generalize scopeM n = M at g1 g2 g3
 generalize hE1 : M.enc.map A.d = E1 at g1 g3
 generalize hE2 : M.encR.map A.d = E2 at g2 g3
 obtain ⟨k,f,t,w,q,za,ks,-,he,hv⟩ := node_ex n
 rw [hv] at g g1 g2
 by_cases h0 : e = 0
 · subst h0
   simp [ir3]
   refine CallK_of' g ?_
   simp
   refine CallD_of (haw _) ?_
   simp
   refine CallD_of (g1 _) ?_
   simp
   refine CallD_of (g2 _) ?_
   simp
   refine CallD_of (g3 _) ?_
   simp
   simp [RetK,cut_app hcl]
 · simp [ir3]
   refine CallK_of' g ?_
   simp [h0]
   refine CallK_of' (haw _) ?_
   simp [RetK,cut_app hcl]
end
end Go.Proofs.Zs
namespace Go.Zam

section
open Go Go.Proofs Go.Lib
open Go.RowKit (Below)
open Go.ChangeShapes Go.RowKit
theorem arg_str_of {P : Program} {t : TypeId} (hu : P.underlying t = some .string) : ∀ {n : Nat} {ds : List D} {a : A} (h : Typed P n t ds) (ha : ArgOf P t ds a),∃ s : List UInt8,a = .d (.str s) ∧ s.length ≤ D.bulkC ds ∧ s.length + 1 ≤ D.bulkC ds := by
 intro n ds a h ha
 obtain ⟨x,rfl⟩ := typed_str hu h
 exact ⟨x,argOf_one (by rw [hu]; simp) ha,by simp only [D.bulkC,D.bulk]; omega,by simp only [D.bulkC,D.bulk]; omega⟩
end
end Go.Zam
