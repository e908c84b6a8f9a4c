/-
  Texts of one proof, one behind the other.
-/
import Derived.Test.YtboojbgbphhbcaaGreatDoorM5
import Derived.BigCall
import Derived.BigGuard
import Derived.Laws.Closers25
import Derived.Laws.Closers25b
import Derived.Laws.Strings3
import Derived.Lib.AtoiErrMem
import Derived.Lib.ConvBytes
import Derived.Lib.Hide
import Derived.Lib.ParseIntBMem
import Derived.Lib.Strings
import Derived.Lib.Walk
import Derived.Shelf.Pu.Lays
import Derived.Shelf.Pu.Lower
import Derived.Shelf.Pu.ParseUint10
import Derived.Shelf.Pu.ParseUint10At
import Derived.Shelf.Pu.ParseUint10b16
import Derived.Shelf.Pu.ParseUint10b32
import Derived.Shelf.Pu.ParseUint10b64
import Derived.Shelf.Pu.ParseUint10b8
import Derived.Shelf.Pu.ParseUintEmpty
import Derived.Shelf.Pu.ToError
import Derived.Shelf.Pu.ToErrorRange
import Derived.WalkKit
import Derived.Test.YtboojbgbphhbcaaGreatDoorM4
import Derived.Test.YtboojbgbphhbcaaGreatDoorProg
import Derived.KernelRfl
import Derived.Test.YtboojbgbphhbcaaGreatDoorM3
import Derived.Shelf.SlIter.Collect
import Derived.Shelf.Strings.Builder1
import Derived.Shelf.Small.Strs
import Derived.Shelf.Strconv.Itoa0
import Derived.Shelf.Strconv.Itoa1
import Derived.Shelf.LaysM
import Derived.Shelf.Strconv.Itoa2
import Derived.Shelf.Strconv.Itoa3
import Derived.Ground.MpProg
import Derived.Shelf.Pu.ParseUintPublic10
import Derived.Shelf.Pu.ErrVarParseUint
import Derived.Shelf.Strings.Search1
import Derived.Shelf.Strings.Prefix
import Derived.Shelf.Unicode.Decode
import Derived.Shelf.Unicode.DecodeSlow
import Derived.Shelf.Unicode.DecodeAny
import Derived.Ground.SlgnProg
import Derived.Shelf.SlicesG.CompactS
import Derived.Ground.SlgmProg
import Derived.Shelf.SortM.Plain
import Derived.Shelf.SortM.SortNone
import Derived.RangeFuncBox
import Derived.RangeFuncLeaves
import Derived.Shelf.Abstract
import Derived.OwnWalkIn
import Derived.TacticsInMore
import Derived.LoopNIn
import Derived.LoopIn
set_option linter.all false
set_option maxRecDepth 100000
set_option maxHeartbeats 4000000
namespace Go.Zam
section
open Classical
def FitsT (P:Program) (f:FuncId):Prop:=∀ (l:List T),l.length≤1048576→(∀ v ∈ l,v.Fit 1048576)→∀ (z:Bool) (H:Hp),
 ACall P f [.d (.sl z 3 (l.map T.enc))] H (fun r H'=>(∃ c:Bool,r = .d (.bool c)∧(c=true→∀ v ∈ l,v.st.Rt))∧H'=H)
section
variable {P:Program} {t:Nat} {H0:Hp}
end
end
section
open Classical
section
variable {c:Bool} {k k':Int} {z z' y y':Bool} {ns ns':List Str'} {ps ps':List T}
end
end
section
open Classical
section
variable {P:Program} {t tS:TypeId}
end
end
section
open Classical
section
variable {P:Program} {t:Nat} {H0:Hp}
end
end
section
open Classical
end
section
open Classical
def irLNeedsR (awk flows func ty:Nat):C :=
 .seq (.any [
  ⟨(some 70),none,.load 3 true (.t 3)⟩,
  ⟨(some 71),none,.load 3 true (.t 5)⟩,
  ⟨(some 72),none,.bslice 3 [(.t 71)]⟩,
  ⟨(some 73),none,.call func [(.t 70),(.t 72)]⟩,
  ⟨(some 74),none,.load 3 true (.t 4)⟩,
  ⟨(some 75),none,.load 3 true (.t 5)⟩,
  ⟨(some 76),none,.bslice 3 [(.t 75)]⟩,
  ⟨(some 77),none,.call func [(.t 74),(.t 76)]⟩,
  ⟨(some 8),none,.alloc ty [(.int .i64 0),(.sl true 1 []),(.sl true 3 [])]⟩,
  ⟨(some 9),none,.alloc ty [(.int .i64 0),(.sl true 1 []),(.sl true 3 [])]⟩,
  ⟨none,none,.store 3 (.t 8) (.t 73)⟩,
  ⟨none,none,.store 3 (.t 9) (.t 77)⟩] [[],[],[1],[0,2],[],[],[5],[4,6,3],[],[],[8,3,7,0,1,2,3,8,9],[9,7,10,0,1,2,3,4,5,6,7,8,9,10]])
 (.seq (.any [
  ⟨(some 78),none,.load 3 true (.t 5)⟩,
  ⟨(some 79),none,.load 3 true (.t 3)⟩,
  ⟨(some 80),none,.bslice 3 [(.t 79)]⟩,
  ⟨(some 81),none,.call func [(.t 78),(.t 80)]⟩,
  ⟨(some 82),none,.load 3 true (.t 5)⟩,
  ⟨(some 83),none,.load 3 true (.t 4)⟩,
  ⟨(some 84),none,.bslice 3 [(.t 83)]⟩,
  ⟨(some 85),none,.call func [(.t 82),(.t 84)]⟩,
  ⟨(some 10),none,.alloc ty [(.int .i64 0),(.sl true 1 []),(.sl true 3 [])]⟩,
  ⟨(some 11),none,.alloc ty [(.int .i64 0),(.sl true 1 []),(.sl true 3 [])]⟩,
  ⟨none,none,.store 3 (.t 10) (.t 81)⟩,
  ⟨none,none,.store 3 (.t 11) (.t 85)⟩] [[],[],[1],[0,2],[],[],[5],[4,6,3],[],[],[8,3,7,0,1,2,3,8,9],[9,7,10,0,1,2,3,4,5,6,7,8,9,10]])
 (.seq (.ops [
  ⟨(some 86),none,.call awk []⟩,
  ⟨(some 87),none,.mv (.t 86)⟩,
  ⟨(some 88),(some (87,true)),.load 3 true (.t 8)⟩,
  ⟨(some 89),(some (87,true)),.load 3 true (.t 9)⟩,
  ⟨(some 90),(some (87,true)),.call flows [(.t 88),(.t 89)]⟩,
  ⟨(some 91),(some (87,true)),.load 3 true (.t 3)⟩,
  ⟨(some 92),(some (87,true)),.load 3 true (.t 4)⟩,
  ⟨(some 93),(some (87,true)),.call flows [(.t 91),(.t 92)]⟩,
  ⟨(some 94),(some (87,true)),.beq false (.t 90) (.t 93)⟩,
  ⟨(some 95),none,.pick (.t 87) (.t 94) (.c (.bool false))⟩,
  ⟨(some 96),none,.mv (.t 95)⟩,
  ⟨(some 97),(some (96,true)),.load 3 true (.t 11)⟩,
  ⟨(some 98),(some (96,true)),.load 3 true (.t 10)⟩,
  ⟨(some 99),(some (96,true)),.call flows [(.t 97),(.t 98)]⟩,
  ⟨(some 100),(some (96,true)),.load 3 true (.t 3)⟩,
  ⟨(some 101),(some (96,true)),.load 3 true (.t 4)⟩,
  ⟨(some 102),(some (96,true)),.call flows [(.t 100),(.t 101)]⟩,
  ⟨(some 103),(some (96,true)),.beq false (.t 99) (.t 102)⟩,
  ⟨(some 104),none,.pick (.t 96) (.t 103) (.c (.bool false))⟩,
  ⟨(some 6),none,.mv (.t 104)⟩] true)
 (.ret)))
def irLNeeds (fits awk needs flows func ty : Nat) : IFn := { nt := 105, res := [.t 6], body := ( .seq (.ops [⟨some 3,none,.box ty 3 (.t 0)⟩,⟨some 4,none,.box ty 3 (.t 1)⟩,⟨some 5,none,.box ty 3 (.t 2)⟩,⟨some 6,none,.mv (.c (.bool false))⟩] false) (.seq (.seq (.ops [⟨some 12,none,.load 3 true (.t 3)⟩,⟨some 13,none,.load 3 true (.t 4)⟩,⟨some 14,none,.load 3 true (.t 5)⟩,⟨some 15,none,.bslice 3 [(.t 12),(.t 13),(.t 14)]⟩,⟨some 16,none,.call fits [(.t 15)]⟩,⟨some 17,none,.un .not (.t 16)⟩] false) (.cond (.t 17) (.seq (.ops [⟨some 18,none,.call awk []⟩,⟨some 6,none,.mv (.t 18)⟩] false) (.ret)) (.skip))) (.seq (.seq (.ops [⟨some 19,none,.load 3 true (.t 3)⟩,⟨some 20,none,.load 3 true (.t 4)⟩,⟨some 21,none,.call needs [(.t 19),(.t 20)]⟩,⟨some 22,none,.un .not (.t 21)⟩,⟨some 23,none,.mv (.t 22)⟩,⟨some 24,some (23,true),.load 3 true (.t 3)⟩,⟨some 25,some (23,true),.load 3 true (.t 4)⟩,⟨some 26,some (23,true),.call flows [(.t 24),(.t 25)]⟩,⟨some 27,some (23,true),.un .not (.t 26)⟩,⟨some 28,none,.pick (.t 23) (.t 27) (.c (.bool false))⟩,⟨some 29,none,.mv (.t 28)⟩,⟨some 30,some (29,false),.load 3 true (.t 3)⟩,⟨some 31,some (29,false),.load 3 true (.t 3)⟩,⟨some 32,some (29,false),.call needs [(.t 30),(.t 31)]⟩,⟨some 33,none,.pick (.t 29) (.c (.bool true)) (.t 32)⟩,⟨some 34,none,.mv (.t 33)⟩,⟨some 35,some (34,false),.load 3 true (.t 3)⟩,⟨some 36,some (34,false),.build [(.int .i64 0),(.sl true 1 []),(.sl true 3 [])] []⟩,⟨some 37,some (34,false),.call needs [(.t 35),(.t 36)]⟩,⟨some 38,none,.pick (.t 34) (.c (.bool true)) (.t 37)⟩] false) (.cond (.t 38) (.seq (.ops [⟨some 6,none,.mv (.c (.bool false))⟩] false) (.ret)) (.skip))) (.seq (.seq (.ops [⟨some 39,none,.faddr 0 (.t 4)⟩,⟨some 40,none,.load 1 false (.t 39)⟩,⟨some 41,none,.bin .eql (.t 40) (.c (.int .i64 3))⟩,⟨some 42,none,.mv (.t 41)⟩,⟨some 43,some (42,true),.faddr 1 (.t 4)⟩,⟨some 44,some (42,true),.load 1 false (.t 43)⟩,⟨some 45,some (42,true),.lenL (.t 44)⟩,⟨some 46,some (42,true),.bin .gtr (.t 45) (.c (.int .i64 0))⟩,⟨some 47,none,.pick (.t 42) (.t 46) (.c (.bool false))⟩,⟨some 48,none,.mv (.t 47)⟩,⟨some 49,some (48,true),.load 3 true (.t 3)⟩,⟨some 50,some (48,true),.load 3 true (.t 4)⟩,⟨some 51,some (48,true),.call flows [(.t 49),(.t 50)]⟩,⟨some 52,none,.pick (.t 48) (.t 51) (.c (.bool false))⟩] false) (.cond (.t 52) (.seq (.ops [⟨some 53,none,.faddr 1 (.t 4)⟩,⟨some 54,none,.load 1 false (.t 53)⟩,⟨some 55,none,.slice 1 (.t 54) (some (.c (.int .i64 1))) none none⟩,⟨some 56,none,.faddr 2 (.t 4)⟩,⟨some 57,none,.load 1 false (.t 56)⟩,⟨some 58,none,.slice 3 (.t 57) (some (.c (.int .i64 1))) none none⟩,⟨some 59,none,.build [(.int .i64 0),(.sl true 1 []),(.sl true 3 [])] [(0,1,(.c (.int .i64 3))),(1,1,(.t 55)),(2,1,(.t 58))]⟩,⟨some 7,none,.alloc ty [(.int .i64 0),(.sl true 1 []),(.sl true 3 [])]⟩,⟨none,none,.store 3 (.t 7) (.t 59)⟩] true) (.seq (.ops [⟨some 60,none,.load 3 true (.t 3)⟩,⟨some 61,none,.load 3 true (.t 7)⟩,⟨some 62,none,.call flows [(.t 60),(.t 61)]⟩,⟨some 63,none,.un .not (.t 62)⟩,⟨some 64,none,.mv (.t 63)⟩,⟨some 65,some (64,false),.load 3 true (.t 4)⟩,⟨some 66,some (64,false),.load 3 true (.t 7)⟩,⟨some 67,some (64,false),.call flows [(.t 65),(.t 66)]⟩,⟨some 68,some (64,false),.un .not (.t 67)⟩,⟨some 69,none,.pick (.t 64) (.c (.bool true)) (.t 68)⟩] false) (.cond (.t 69) (.seq (.ops [⟨some 6,none,.mv (.c (.bool false))⟩] false) (.ret)) (.skip)))) (.skip))) (irLNeedsR awk flows func ty))))) }
section
variable {P:Program}
def ndZ:List A:=[.d (.int .i64 0),.d (.sl true 1 []),.d (.sl true 3 [])]
def ndW:List (List Nat):=[[],[],[1],[0,2],[],[],[5],[4,6,3],[],[],[8,3,7,0,1,2,3,8,9],[9,7,10,0,1,2,3,4,5,6,7,8,9,10]]
theorem ndW_all:∀ b0 b1 b2 b3 b4 b5 b6 b7 b8 b9 b10 b11:Bool,readyL ndW [b0,b1,b2,b3,b4,b5,b6,b7,b8,b9,b10,b11]=[]→b8=true∧b9=true∧b10=true∧b11=true:=by decide +kernel
theorem list12 {α:Type}:∀ {l:List α},l.length=12→∃ a b c d e f g h i j k m,l=[a,b,c,d,e,f,g,h,i,j,k,m]
 | [a,b,c,d,e,f,g,h,i,j,k,m],_=>⟨a,b,c,d,e,f,g,h,i,j,k,m,rfl⟩
theorem ready12 {w:List (List Nat)} {S:List Bool} {i:Nat} (h:i ∈ readyL w S):i < w.length∧S.getD i true=false∧∀ j ∈ w.getD i [],S.getD j false=true:=by
 simpa [readyL,List.mem_filter] using h
def n9Inv (B:Hp) (ty i3 i4 i5:Nat) (a0 a1 a2 b0' b1' b2' c0 c1 c2 f0 f1 f2 g0 g1 g2:D):List Bool→Fr→Hp→Prop
 | [b0, b1, b2, b3, b4, b5, b6, b7, b8, b9, b10, b11], fr, H' =>
   (fr 3 = .ptr i3 0∧fr 4 = .ptr i4 0∧fr 5 = .ptr i5 0)∧(b0=true→fr 70 = .agg [.d a0,.d a1,.d a2])∧(b1=true→fr 71 = .agg [.d c0,.d c1,.d c2])∧(b2=true→fr 72 = .d (.sl false 3 [[c0,c1,c2]]))∧(b3=true→fr 73 = .agg [.d f0,.d f1,.d f2]) ∧
   (b4=true→fr 74 = .agg [.d b0',.d b1',.d b2'])∧(b5=true→fr 75 = .agg [.d c0,.d c1,.d c2])∧(b6=true→fr 76 = .d (.sl false 3 [[c0,c1,c2]]))∧(b7=true→fr 77 = .agg [.d g0,.d g1,.d g2]) ∧
   (b10=true→b8=true∧b9=true)∧(b11=true→b8=true∧b9=true) ∧
   ((b8 = false ∧ b9 = false ∧ H' = B) ∨ (b8 = true ∧ b9 = false ∧ fr 8 = .ptr B.length 0 ∧ H' = B ++ [.box ty ndZ]) ∨ (b8 = false ∧ b9 = true ∧ fr 9 = .ptr B.length 0 ∧ H' = B ++ [.box ty ndZ]) ∨
    (b8=true∧b9=true∧fr 8 = .ptr B.length 0∧fr 9 = .ptr (B.length+1) 0∧H'=B++[.box ty (bif b10 then [.d f0,.d f1,.d f2] else ndZ),.box ty (bif b11 then [.d g0,.d g1,.d g2] else ndZ)]) ∨
    (b8=true∧b9=true∧fr 8 = .ptr (B.length+1) 0∧fr 9 = .ptr B.length 0∧H'=B++[.box ty (bif b11 then [.d g0,.d g1,.d g2] else ndZ),.box ty (bif b10 then [.d f0,.d f1,.d f2] else ndZ)]))
 | _,_,_=>False
theorem n9A {B:Hp} {n0 func ty i3 i4 i5:Nat} {Q:Ex→Fr→Hp→Prop} {fr:Fr} {a0 a1 a2 b0' b1' b2' c0 c1 c2 f0 f1 f2 g0 g1 g2:D}
 (k3:fr 3 = .ptr i3 0)
 (k4:fr 4 = .ptr i4 0)
 (k5:fr 5 = .ptr i5 0)
 (h3:∀ X,(B++X)[i3]?=some (.box ty [.d a0,.d a1,.d a2])) (h4:∀ X,(B++X)[i4]?=some (.box ty [.d b0',.d b1',.d b2'])) (h5:∀ X,(B++X)[i5]?=some (.box ty [.d c0,.d c1,.d c2]))
 (gf:∀ X,ACall P func [.agg [.d a0,.d a1,.d a2],.d (.sl false 3 [[c0,c1,c2]])] (B++X) (fun r H'=>r = .agg [.d f0,.d f1,.d f2]∧H'=B++X))
 (gg:∀ X,ACall P func [.agg [.d b0',.d b1',.d b2'],.d (.sl false 3 [[c0,c1,c2]])] (B++X) (fun r H'=>r = .agg [.d g0,.d g1,.d g2]∧H'=B++X))
 (hQ:∀ (fr:Fr) (i j:Nat) (X:Hp),fr 3 = .ptr i3 0∧fr 4 = .ptr i4 0∧fr 5 = .ptr i5 0→fr 8 = .ptr (B.length+i) 0→fr 9 = .ptr (B.length+j) 0→(∀ Z,(X++Z)[i]?=some (Ob.box ty [.d f0,.d f1,.d f2]))→(∀ Z,(X++Z)[j]?=some (Ob.box ty [.d g0,.d g1,.d g2]))→(∃ x y,X=[x,y])→Q .normal fr (B++X)) :
 AWp P n0 (.any [⟨(some 70),none,.load 3 true (.t 3)⟩,⟨(some 71),none,.load 3 true (.t 5)⟩,⟨(some 72),none,.bslice 3 [(.t 71)]⟩,⟨(some 73),none,.call func [(.t 70),(.t 72)]⟩,⟨(some 74),none,.load 3 true (.t 4)⟩,⟨(some 75),none,.load 3 true (.t 5)⟩,⟨(some 76),none,.bslice 3 [(.t 75)]⟩,⟨(some 77),none,.call func [(.t 74),(.t 76)]⟩,
 ⟨(some 8),none,.alloc ty [(.int .i64 0),(.sl true 1 []),(.sl true 3 [])]⟩,⟨(some 9),none,.alloc ty [(.int .i64 0),(.sl true 1 []),(.sl true 3 [])]⟩,⟨none,none,.store 3 (.t 8) (.t 73)⟩,⟨none,none,.store 3 (.t 9) (.t 77)⟩] [[],[],[1],[0,2],[],[],[5],[4,6,3],[],[],[8,3,7,0,1,2,3,8,9],[9,7,10,0,1,2,3,4,5,6,7,8,9,10]]) Q fr B:=by
 have e3:=h3 []; have e4:=h4 []; have e5:=h5 []
 rw [List.append_nil] at e3 e4 e5
 have gf0:=gf []; have gg0:=gg []
 rw [List.append_nil] at gf0 gg0
 simp only [AWp_any_eq]
 refine AnyK_of (n9Inv B ty i3 i4 i5 a0 a1 a2 b0' b1' b2' c0 c1 c2 f0 f1 f2 g0 g1 g2) ?_ ?_
 · simp [n9Inv,k3,k4,k5]
 intro S fr H' hS hI
 obtain ⟨b0,b1,b2,b3,b4,b5,b6,b7,b8,b9,b10,b11,rfl⟩:=list12 hS
 obtain ⟨kk,i0,i1,i2,i3',i4',i5',i6,i7,i10,i11,hI⟩:=hI
 constructor
 · intro hr
   obtain ⟨rfl,rfl,rfl,rfl⟩:=ndW_all _ _ _ _ _ _ _ _ _ _ _ _ hr
   rcases hI with ⟨h,-⟩ | ⟨-,h,-⟩ | ⟨h,-⟩ | ⟨-,-,p,q,rfl⟩ | ⟨-,-,p,q,rfl⟩
   · cases h
   · cases h
   · cases h
   · exact hQ _ 0 1 _ kk p q (fun _=>rfl) (fun _=>rfl) ⟨_,_,rfl⟩
   · exact hQ _ 1 0 _ kk p q (fun _=>rfl) (fun _=>rfl) ⟨_,_,rfl⟩
 · intro i hi
   obtain ⟨h1,h2,h3'⟩:=ready12 hi
   clear hi hQ
   obtain ⟨q3,q4,q5⟩:=kk
   simp at h1
   have:i=0∨i=1∨i=2∨i=3∨i=4∨i=5∨i=6∨i=7∨i=8∨i=9∨i=10∨i=11:=by omega
   rcases this with rfl | rfl | rfl | rfl | rfl | rfl | rfl | rfl | rfl | rfl | rfl | rfl
   · simp at h2 h3'
     subst h2
     rcases hI with ⟨rfl,rfl,rfl⟩ | ⟨rfl,rfl,p,rfl⟩ | ⟨rfl,rfl,p,rfl⟩ | ⟨rfl,rfl,p,q,rfl⟩ | ⟨rfl,rfl,p,q,rfl⟩ <;>
     · simp [q3,e3,h3,List.getElem?_cons_zero,List.getElem?_cons_succ,-getElem?_pos]
       simp_all [n9Inv,-getElem?_pos]
   · simp at h2 h3'
     subst h2
     rcases hI with ⟨rfl,rfl,rfl⟩ | ⟨rfl,rfl,p,rfl⟩ | ⟨rfl,rfl,p,rfl⟩ | ⟨rfl,rfl,p,q,rfl⟩ | ⟨rfl,rfl,p,q,rfl⟩ <;>
     · simp [q5,e5,h5,List.getElem?_cons_zero,List.getElem?_cons_succ,-getElem?_pos]
       simp_all [n9Inv,-getElem?_pos]
   · simp at h2 h3'
     subst h2
     subst h3'
     have jj:=i1 rfl
     rcases hI with ⟨rfl,rfl,rfl⟩ | ⟨rfl,rfl,p,rfl⟩ | ⟨rfl,rfl,p,rfl⟩ | ⟨rfl,rfl,p,q,rfl⟩ | ⟨rfl,rfl,p,q,rfl⟩ <;>
     · simp [jj]
       simp_all [n9Inv,-getElem?_pos]
   · simp at h2 h3'
     obtain ⟨rfl,rfl⟩:=h3'
     subst h2
     have j0:=i0 rfl
     have j2:=i2 rfl
     rcases hI with ⟨rfl,rfl,rfl⟩ | ⟨rfl,rfl,p,rfl⟩ | ⟨rfl,rfl,p,rfl⟩ | ⟨rfl,rfl,p,q,rfl⟩ | ⟨rfl,rfl,p,q,rfl⟩ <;>
     · simp [j0,j2]
       first | refine CallK_of' (gf _) ?_ | refine CallK_of' gf0 ?_
       simp_all [n9Inv,-getElem?_pos]
   · simp at h2 h3'
     subst h2
     rcases hI with ⟨rfl,rfl,rfl⟩ | ⟨rfl,rfl,p,rfl⟩ | ⟨rfl,rfl,p,rfl⟩ | ⟨rfl,rfl,p,q,rfl⟩ | ⟨rfl,rfl,p,q,rfl⟩ <;>
     · simp [q4,e4,h4,List.getElem?_cons_zero,List.getElem?_cons_succ,-getElem?_pos]
       simp_all [n9Inv,-getElem?_pos]
   · simp at h2 h3'
     subst h2
     rcases hI with ⟨rfl,rfl,rfl⟩ | ⟨rfl,rfl,p,rfl⟩ | ⟨rfl,rfl,p,rfl⟩ | ⟨rfl,rfl,p,q,rfl⟩ | ⟨rfl,rfl,p,q,rfl⟩ <;>
     · simp [q5,e5,h5,List.getElem?_cons_zero,List.getElem?_cons_succ,-getElem?_pos]
       simp_all [n9Inv,-getElem?_pos]
   · simp at h2 h3'
     subst h2
     subst h3'
     have jj:=i5' rfl
     rcases hI with ⟨rfl,rfl,rfl⟩ | ⟨rfl,rfl,p,rfl⟩ | ⟨rfl,rfl,p,rfl⟩ | ⟨rfl,rfl,p,q,rfl⟩ | ⟨rfl,rfl,p,q,rfl⟩ <;>
     · simp [jj]
       simp_all [n9Inv,-getElem?_pos]
   · simp at h2 h3'
     obtain ⟨rfl,rfl,h3b⟩:=h3'
     subst h2
     have j0:=i4' rfl
     have j2:=i6 rfl
     rcases hI with ⟨rfl,rfl,rfl⟩ | ⟨rfl,rfl,p,rfl⟩ | ⟨rfl,rfl,p,rfl⟩ | ⟨rfl,rfl,p,q,rfl⟩ | ⟨rfl,rfl,p,q,rfl⟩ <;>
     · simp [j0,j2]
       first | refine CallK_of' (gg _) ?_ | refine CallK_of' gg0 ?_
       simp_all [n9Inv,-getElem?_pos]
   · simp at h2 h3'
     subst h2
     rcases hI with ⟨-,rfl,rfl⟩ | ⟨h,-⟩ | ⟨-,rfl,p,rfl⟩ | ⟨h,-⟩ | ⟨h,-⟩
     · simp
       simp_all [n9Inv,ndZ,-getElem?_pos]
     · cases h
     · simp
       simp_all [n9Inv,ndZ,-getElem?_pos]
     · cases h
     · cases h
   · simp at h2 h3'
     subst h2
     rcases hI with ⟨rfl,-,rfl⟩ | ⟨rfl,-,p,rfl⟩ | ⟨-,h,-⟩ | ⟨-,h,-⟩ | ⟨-,h,-⟩
     · simp
       simp_all [n9Inv,ndZ,-getElem?_pos]
     · simp
       simp_all [n9Inv,ndZ,-getElem?_pos]
     · cases h
     · cases h
     · cases h
   · simp at h2 h3'
     obtain ⟨rfl,rfl,rfl,rfl,rfl,rfl,-,-,rfl⟩:=h3'
     subst h2
     have jj:=i3' rfl
     rcases hI with ⟨h,-⟩ | ⟨-,h,-⟩ | ⟨h,-⟩ | ⟨-,-,p,q,rfl⟩ | ⟨-,-,p,q,rfl⟩
     · cases h
     · cases h
     · cases h
     · simp [jj,p,ndZ]
       simp_all [n9Inv,ndZ,-getElem?_pos]
     · simp [jj,p,ndZ]
       simp_all [n9Inv,ndZ,-getElem?_pos]
   · simp at h2 h3'
     obtain ⟨rfl,rfl,rfl,rfl,rfl,rfl,rfl,rfl,rfl,rfl,-,rfl,-,-⟩:=h3'
     subst h2
     have jj:=i7 rfl
     rcases hI with ⟨h,-⟩ | ⟨-,h,-⟩ | ⟨h,-⟩ | ⟨-,-,p,q,rfl⟩ | ⟨-,-,p,q,rfl⟩
     · cases h
     · cases h
     · cases h
     · simp [jj,q,ndZ]
       simp_all [n9Inv,ndZ,-getElem?_pos]
     · simp [jj,q,ndZ]
       simp_all [n9Inv,ndZ,-getElem?_pos]
def n10Inv (B:Hp) (ty i3 i4 i5 i8 i9:Nat) (a0 a1 a2 b0' b1' b2' c0 c1 c2 f0 f1 f2 g0 g1 g2:D):List Bool→Fr→Hp→Prop
 | [b0, b1, b2, b3, b4, b5, b6, b7, b8, b9, b10, b11], fr, H' =>
   (fr 3 = .ptr i3 0∧fr 4 = .ptr i4 0∧fr 5 = .ptr i5 0∧fr 8 = .ptr i8 0∧fr 9 = .ptr i9 0)∧(b0=true→fr 78 = .agg [.d c0,.d c1,.d c2])∧(b1=true→fr 79 = .agg [.d a0,.d a1,.d a2])∧(b2=true→fr 80 = .d (.sl false 3 [[a0,a1,a2]]))∧(b3=true→fr 81 = .agg [.d f0,.d f1,.d f2]) ∧
   (b4=true→fr 82 = .agg [.d c0,.d c1,.d c2])∧(b5=true→fr 83 = .agg [.d b0',.d b1',.d b2'])∧(b6=true→fr 84 = .d (.sl false 3 [[b0',b1',b2']]))∧(b7=true→fr 85 = .agg [.d g0,.d g1,.d g2]) ∧
   (b10=true→b8=true∧b9=true)∧(b11=true→b8=true∧b9=true) ∧
   ((b8 = false ∧ b9 = false ∧ H' = B) ∨ (b8 = true ∧ b9 = false ∧ fr 10 = .ptr B.length 0 ∧ H' = B ++ [.box ty ndZ]) ∨ (b8 = false ∧ b9 = true ∧ fr 11 = .ptr B.length 0 ∧ H' = B ++ [.box ty ndZ]) ∨
    (b8=true∧b9=true∧fr 10 = .ptr B.length 0∧fr 11 = .ptr (B.length+1) 0∧H'=B++[.box ty (bif b10 then [.d f0,.d f1,.d f2] else ndZ),.box ty (bif b11 then [.d g0,.d g1,.d g2] else ndZ)]) ∨
    (b8=true∧b9=true∧fr 10 = .ptr (B.length+1) 0∧fr 11 = .ptr B.length 0∧H'=B++[.box ty (bif b11 then [.d g0,.d g1,.d g2] else ndZ),.box ty (bif b10 then [.d f0,.d f1,.d f2] else ndZ)]))
 | _,_,_=>False
theorem n10A {B:Hp} {n0 func ty i3 i4 i5 i8 i9:Nat} {Q:Ex→Fr→Hp→Prop} {fr:Fr} {a0 a1 a2 b0' b1' b2' c0 c1 c2 f0 f1 f2 g0 g1 g2:D}
 (k3:fr 3 = .ptr i3 0)
 (k4:fr 4 = .ptr i4 0)
 (k5:fr 5 = .ptr i5 0)
 (k8:fr 8 = .ptr i8 0)
 (k9:fr 9 = .ptr i9 0)
 (h3:∀ X,(B++X)[i3]?=some (.box ty [.d a0,.d a1,.d a2])) (h4:∀ X,(B++X)[i4]?=some (.box ty [.d b0',.d b1',.d b2'])) (h5:∀ X,(B++X)[i5]?=some (.box ty [.d c0,.d c1,.d c2]))
 (gf:∀ X,ACall P func [.agg [.d c0,.d c1,.d c2],.d (.sl false 3 [[a0,a1,a2]])] (B++X) (fun r H'=>r = .agg [.d f0,.d f1,.d f2]∧H'=B++X))
 (gg:∀ X,ACall P func [.agg [.d c0,.d c1,.d c2],.d (.sl false 3 [[b0',b1',b2']])] (B++X) (fun r H'=>r = .agg [.d g0,.d g1,.d g2]∧H'=B++X))
 (hQ:∀ (fr:Fr) (i j:Nat) (X:Hp),fr 3 = .ptr i3 0∧fr 4 = .ptr i4 0∧fr 5 = .ptr i5 0∧fr 8 = .ptr i8 0∧fr 9 = .ptr i9 0→fr 10 = .ptr (B.length+i) 0→fr 11 = .ptr (B.length+j) 0→(∀ Z,(X++Z)[i]?=some (Ob.box ty [.d f0,.d f1,.d f2]))→(∀ Z,(X++Z)[j]?=some (Ob.box ty [.d g0,.d g1,.d g2]))→(∃ x y,X=[x,y])→Q .normal fr (B++X)) :
 AWp P n0 (.any [⟨(some 78),none,.load 3 true (.t 5)⟩,⟨(some 79),none,.load 3 true (.t 3)⟩,⟨(some 80),none,.bslice 3 [(.t 79)]⟩,⟨(some 81),none,.call func [(.t 78),(.t 80)]⟩,⟨(some 82),none,.load 3 true (.t 5)⟩,⟨(some 83),none,.load 3 true (.t 4)⟩,⟨(some 84),none,.bslice 3 [(.t 83)]⟩,⟨(some 85),none,.call func [(.t 82),(.t 84)]⟩,
 ⟨(some 10),none,.alloc ty [(.int .i64 0),(.sl true 1 []),(.sl true 3 [])]⟩,⟨(some 11),none,.alloc ty [(.int .i64 0),(.sl true 1 []),(.sl true 3 [])]⟩,⟨none,none,.store 3 (.t 10) (.t 81)⟩,⟨none,none,.store 3 (.t 11) (.t 85)⟩] [[],[],[1],[0,2],[],[],[5],[4,6,3],[],[],[8,3,7,0,1,2,3,8,9],[9,7,10,0,1,2,3,4,5,6,7,8,9,10]]) Q fr B:=by
 have e3:=h3 []; have e4:=h4 []; have e5:=h5 []
 rw [List.append_nil] at e3 e4 e5
 have gf0:=gf []; have gg0:=gg []
 rw [List.append_nil] at gf0 gg0
 simp only [AWp_any_eq]
 refine AnyK_of (n10Inv B ty i3 i4 i5 i8 i9 a0 a1 a2 b0' b1' b2' c0 c1 c2 f0 f1 f2 g0 g1 g2) ?_ ?_
 · simp [n10Inv,k3,k4,k5,k8,k9]
 intro S fr H' hS hI
 obtain ⟨b0,b1,b2,b3,b4,b5,b6,b7,b8,b9,b10,b11,rfl⟩:=list12 hS
 obtain ⟨kk,i0,i1,i2,i3',i4',i5',i6,i7,i10,i11,hI⟩:=hI
 constructor
 · intro hr
   obtain ⟨rfl,rfl,rfl,rfl⟩:=ndW_all _ _ _ _ _ _ _ _ _ _ _ _ hr
   rcases hI with ⟨h,-⟩ | ⟨-,h,-⟩ | ⟨h,-⟩ | ⟨-,-,p,q,rfl⟩ | ⟨-,-,p,q,rfl⟩
   · cases h
   · cases h
   · cases h
   · exact hQ _ 0 1 _ kk p q (fun _=>rfl) (fun _=>rfl) ⟨_,_,rfl⟩
   · exact hQ _ 1 0 _ kk p q (fun _=>rfl) (fun _=>rfl) ⟨_,_,rfl⟩
 · intro i hi
   obtain ⟨h1,h2,h3'⟩:=ready12 hi
   clear hi hQ
   obtain ⟨q3,q4,q5,q8,q9⟩:=kk
   simp at h1
   have:i=0∨i=1∨i=2∨i=3∨i=4∨i=5∨i=6∨i=7∨i=8∨i=9∨i=10∨i=11:=by omega
   rcases this with rfl | rfl | rfl | rfl | rfl | rfl | rfl | rfl | rfl | rfl | rfl | rfl
   · simp at h2 h3'
     subst h2
     rcases hI with ⟨rfl,rfl,rfl⟩ | ⟨rfl,rfl,p,rfl⟩ | ⟨rfl,rfl,p,rfl⟩ | ⟨rfl,rfl,p,q,rfl⟩ | ⟨rfl,rfl,p,q,rfl⟩ <;>
     · simp [q5,e5,h5,List.getElem?_cons_zero,List.getElem?_cons_succ,-getElem?_pos]
       simp_all [n10Inv,-getElem?_pos]
   · simp at h2 h3'
     subst h2
     rcases hI with ⟨rfl,rfl,rfl⟩ | ⟨rfl,rfl,p,rfl⟩ | ⟨rfl,rfl,p,rfl⟩ | ⟨rfl,rfl,p,q,rfl⟩ | ⟨rfl,rfl,p,q,rfl⟩ <;>
     · simp [q3,e3,h3,List.getElem?_cons_zero,List.getElem?_cons_succ,-getElem?_pos]
       simp_all [n10Inv,-getElem?_pos]
   · simp at h2 h3'
     subst h2
     subst h3'
     have jj:=i1 rfl
     rcases hI with ⟨rfl,rfl,rfl⟩ | ⟨rfl,rfl,p,rfl⟩ | ⟨rfl,rfl,p,rfl⟩ | ⟨rfl,rfl,p,q,rfl⟩ | ⟨rfl,rfl,p,q,rfl⟩ <;>
     · simp [jj]
       simp_all [n10Inv,-getElem?_pos]
   · simp at h2 h3'
     obtain ⟨rfl,rfl⟩:=h3'
     subst h2
     have j0:=i0 rfl
     have j2:=i2 rfl
     rcases hI with ⟨rfl,rfl,rfl⟩ | ⟨rfl,rfl,p,rfl⟩ | ⟨rfl,rfl,p,rfl⟩ | ⟨rfl,rfl,p,q,rfl⟩ | ⟨rfl,rfl,p,q,rfl⟩ <;>
     · simp [j0,j2]
       first | refine CallK_of' (gf _) ?_ | refine CallK_of' gf0 ?_
       simp_all [n10Inv,-getElem?_pos]
   · simp at h2 h3'
     subst h2
     rcases hI with ⟨rfl,rfl,rfl⟩ | ⟨rfl,rfl,p,rfl⟩ | ⟨rfl,rfl,p,rfl⟩ | ⟨rfl,rfl,p,q,rfl⟩ | ⟨rfl,rfl,p,q,rfl⟩ <;>
     · simp [q5,e5,h5,List.getElem?_cons_zero,List.getElem?_cons_succ,-getElem?_pos]
       simp_all [n10Inv,-getElem?_pos]
   · simp at h2 h3'
     subst h2
     rcases hI with ⟨rfl,rfl,rfl⟩ | ⟨rfl,rfl,p,rfl⟩ | ⟨rfl,rfl,p,rfl⟩ | ⟨rfl,rfl,p,q,rfl⟩ | ⟨rfl,rfl,p,q,rfl⟩ <;>
     · simp [q4,e4,h4,List.getElem?_cons_zero,List.getElem?_cons_succ,-getElem?_pos]
       simp_all [n10Inv,-getElem?_pos]
   · simp at h2 h3'
     subst h2
     subst h3'
     have jj:=i5' rfl
     rcases hI with ⟨rfl,rfl,rfl⟩ | ⟨rfl,rfl,p,rfl⟩ | ⟨rfl,rfl,p,rfl⟩ | ⟨rfl,rfl,p,q,rfl⟩ | ⟨rfl,rfl,p,q,rfl⟩ <;>
     · simp [jj]
       simp_all [n10Inv,-getElem?_pos]
   · simp at h2 h3'
     obtain ⟨rfl,rfl,h3b⟩:=h3'
     subst h2
     have j0:=i4' rfl
     have j2:=i6 rfl
     rcases hI with ⟨rfl,rfl,rfl⟩ | ⟨rfl,rfl,p,rfl⟩ | ⟨rfl,rfl,p,rfl⟩ | ⟨rfl,rfl,p,q,rfl⟩ | ⟨rfl,rfl,p,q,rfl⟩ <;>
     · simp [j0,j2]
       first | refine CallK_of' (gg _) ?_ | refine CallK_of' gg0 ?_
       simp_all [n10Inv,-getElem?_pos]
   · simp at h2 h3'
     subst h2
     rcases hI with ⟨-,rfl,rfl⟩ | ⟨h,-⟩ | ⟨-,rfl,p,rfl⟩ | ⟨h,-⟩ | ⟨h,-⟩
     · simp
       simp_all [n10Inv,ndZ,-getElem?_pos]
     · cases h
     · simp
       simp_all [n10Inv,ndZ,-getElem?_pos]
     · cases h
     · cases h
   · simp at h2 h3'
     subst h2
     rcases hI with ⟨rfl,-,rfl⟩ | ⟨rfl,-,p,rfl⟩ | ⟨-,h,-⟩ | ⟨-,h,-⟩ | ⟨-,h,-⟩
     · simp
       simp_all [n10Inv,ndZ,-getElem?_pos]
     · simp
       simp_all [n10Inv,ndZ,-getElem?_pos]
     · cases h
     · cases h
     · cases h
   · simp at h2 h3'
     obtain ⟨rfl,rfl,rfl,rfl,rfl,rfl,-,-,rfl⟩:=h3'
     subst h2
     have jj:=i3' rfl
     rcases hI with ⟨h,-⟩ | ⟨-,h,-⟩ | ⟨h,-⟩ | ⟨-,-,p,q,rfl⟩ | ⟨-,-,p,q,rfl⟩
     · cases h
     · cases h
     · cases h
     · simp [jj,p,ndZ]
       simp_all [n10Inv,ndZ,-getElem?_pos]
     · simp [jj,p,ndZ]
       simp_all [n10Inv,ndZ,-getElem?_pos]
   · simp at h2 h3'
     obtain ⟨rfl,rfl,rfl,rfl,rfl,rfl,rfl,rfl,rfl,rfl,-,rfl,-,-⟩:=h3'
     subst h2
     have jj:=i7 rfl
     rcases hI with ⟨h,-⟩ | ⟨-,h,-⟩ | ⟨h,-⟩ | ⟨-,-,p,q,rfl⟩ | ⟨-,-,p,q,rfl⟩
     · cases h
     · cases h
     · cases h
     · simp [jj,q,ndZ]
       simp_all [n10Inv,ndZ,-getElem?_pos]
     · simp [jj,q,ndZ]
       simp_all [n10Inv,ndZ,-getElem?_pos]
end
end
section
open Classical
section
variable {P:Program} {H0:Hp}
theorem Ty.Rt.less {x:Str'} {ns:List Str'} {p:Ty} {ps:List Ty} (h:Ty.Rt (.mk 3 (x :: ns) (p :: ps))):Ty.Rt (.mk 3 ns ps):=by
 cases h with
 | mk hk h2 h3 h4 hn hs hp =>
   exact .mk hk (fun h=>absurd h (by decide)) (fun e=>by have:=h3 e; simpa using this) (fun e=>absurd e (by decide)) (fun y hy=>hn y (by simp [hy])) (fun i a b ha hb=>hs (i+1) a b (by simpa using ha) (by simpa using hb)) (fun q hq=>hp q (by simp [hq]))
theorem Ty.Rt.fn2 {a b:Ty} (ha:a.Rt) (hb:b.Rt):Ty.Rt (.mk 4 [] [a,b]) :=
 .mk (by decide) (fun h=>absurd h (by decide)) (fun e=>absurd e (by decide)) (fun _=>⟨rfl,by simp⟩) (by simp) (by simp) (by simp [ha,hb])
theorem subL_one {α:Type} (x : α) (l:List α) (n:Nat) (h:n=l.length):subL (x :: l) 1 ((n:Int)+1)=some l:=by
 subst h
 have e:((l.length:Int)+1).toNat - (1:Int).toNat=l.length:=by omega
 rw [subL,if_pos ⟨by omega,by omega,by simp⟩,e]
 show some (l.take l.length)=some l
 rw [List.take_length]
theorem T.fn2_fit {v u:T} (hv:v.Fit 1048576) (hu:u.Fit 1048576):(T.fn v false [u]).Fit 1048576:=by
 unfold T.fn
 exact .mk _ _ _ _ _ (by simp) (by simp) (by simp) (by simp [hv,hu])
theorem HasT.lNeeds {f fits awk needs flows func ty:Nat} (h:HasT P [10000009,10000010] f (irLNeeds fits awk needs flows func ty)) (hI:FitsT P fits) (hA:AwakeT P H0 awk)
 (hF:∀ v w:T,v.Fit 1048576→w.Fit 1048576→v.st.Rt→w.st.Rt→FlowsT P flows v w)
 (hN:∀ v w:T,v.Fit 1048576→∀ H,ACall P needs [v.a,w.a] H (fun r H'=>r = .d (.bool (decide (w.st.k ≠ 0∧v.st ≠ w.st)))∧H'=H))
 (hU:∀ (v:T) (z:Bool) (ps:List T),(ps.length+1) * 56≤140737488355328→∀ H,ACall P func [v.a,.d (.sl z 3 (ps.map T.enc))] H (fun r H'=>r=(T.fn v z ps).a∧H'=H))
 (v w u:T) (hv:v.Fit 1048576) (hw:w.Fit 1048576) (hu:u.Fit 1048576) (H:Hp) (hH:Pre0 H0 H) :
 ACall P f [v.a,w.a,u.a] H (fun r H'=>r = .d (.bool true)∧H'=H):=by
 obtain ⟨fn,hf,hcf⟩:=h
 refine acall_fin hf hcf (by simp [irLNeeds]) fun hcl _ => ?_
 have i1:=fun H=>hI [v,w,u] (by simp) (by simpa using ⟨hv,hw,hu⟩) false H
 have x1:=hN v w hv
 have x2:=hF v w hv hw
 have x3:=hN v v hv
 have x4:=hN v (.mk 0 true [] true []) hv
 have u1:=hU v false [u] (by simp)
 have u2:=hU w false [u] (by simp)
 have u3:=hU u false [v] (by simp)
 have u4:=hU u false [w] (by simp)
 have y1:=hF (T.fn v false [u]) (T.fn w false [u]) (T.fn2_fit hv hu) (T.fn2_fit hw hu)
 have y2:=hF (T.fn u false [w]) (T.fn u false [v]) (T.fn2_fit hu hw) (T.fn2_fit hu hv)
 unfold FlowsT at x2 y1 y2
 rw [T.fn_st,T.fn_st] at y1 y2
 simp only [List.map_cons,List.map_nil,List.cons_append,List.nil_append] at y1 y2
 rw [Ty.Fl.fn_iff] at y1 y2
 have hless:∀ (z y:Bool) (n:List UInt8) (ns:List (List UInt8)) (p:T) (ps:List T),w = .mk 3 z (n :: ns) y (p :: ps)→w.st.Rt→v.st.Rt→Ty.Fl v.st w.st →
  ∃ l:T,l = .mk 3 false ns false ps∧(∀ H,ACall P flows [v.a,l.a] H (fun r H'=>r = .d (.bool true)∧H'=H))∧∀ H,ACall P flows [w.a,l.a] H (fun r H'=>r = .d (.bool true)∧H'=H):=by
  intro z y n ns p ps e rw_ rv hfl
  have hwst:w.st = .mk 3 (n :: ns) (p.st :: ps.map T.st):=by rw [e,T.st_mk]; rfl
  have hlst:(T.mk 3 false ns false ps).st = .mk 3 ns (ps.map T.st):=T.st_mk ..
  have hlf:(T.mk 3 false ns false ps).Fit 1048576:=by
   rw [e] at hw
   cases hw with
   | mk _ _ _ _ _ h1 h2 h3 h4=>exact .mk _ _ _ _ _ (by simp at h1; omega) (by simp at h2; omega) (fun x hx=>h3 x (by simp [hx])) (fun q hq=>h4 q (by simp [hq]))
  rw [hwst] at rw_ hfl
  have hlr:(T.mk 3 false ns false ps).st.Rt:=by rw [hlst]; exact rw_.less
  have g1:=hF v _ hv hlf rv hlr
  have g2:=hF w _ hw hlf (by rw [hwst]; exact rw_) hlr
  unfold FlowsT at g1 g2
  rw [hlst] at g1 g2
  rw [hwst] at g2
  have d1:Ty.Fl v.st (.mk 3 ns (ps.map T.st)):=hfl.less
  have d2:Ty.Fl (.mk 3 (n :: ns) (p.st :: ps.map T.st)) (.mk 3 ns (ps.map T.st)):=(Ty.Fl.refl rw_).less
  simp only [d1,d2,decide_true] at g1 g2
  exact ⟨_,rfl,g1,g2⟩
 have hlen:w.st.Rt→w.st.k=3→∀ k z ns y ps,w = .mk k z ns y ps→ns.length=ps.length:=fun rw_ h3 k z ns y ps e=>by
  rw [e,T.st_mk] at rw_ h3
  have:=rw_.len h3
  simpa using this
 have hkk:∀ k z ns y ps,w = .mk k z ns y ps→w.st.k=k:=fun k z ns y ps e=>by rw [e,T.st_mk]; rfl
 generalize hv1:v.st=V at *
 generalize hw1:w.st=W at *
 generalize hu1:u.st=U at *
 have hT0:(T.mk 0 true [] true []).st.k=0:=by rw [T.st_mk]; rfl
 rw [hT0] at x4
 simp only [ne_eq,not_true_eq_false,false_and,and_false,decide_false] at x3 x4
 obtain ⟨k,z,ns,y,ps⟩:=v
 obtain ⟨k',z',ns',y',ps'⟩:=w
 obtain ⟨k2,z2,ns2,y2',ps2⟩:=u
 have hkw:=hkk _ _ _ _ _ rfl
 simp only [T.fn,List.isEmpty_cons,Bool.and_false,List.cons_append,List.nil_append,T.a_mk,T.enc_mk,List.map_cons,List.map_nil] at i1 x1 x2 x3 x4 u1 u2 u3 u4 y1 y2 ⊢
 have fin:∀ X,RetK (fun r H'=>r=A.d (.bool true)∧H'=H) .mk H.length (some (.d (.bool true))) (H++X):=fun X=>by simp [RetK,cut_app hcl]
 obtain ⟨bA,hbA⟩:∃ b:Ob,b=Ob.box ty [.d (.int .i64 k),.d (.sl z 1 (ns.map encStr)),.d (.sl y 3 (ps.map T.enc))]:=⟨_,rfl⟩
 obtain ⟨bB,hbB⟩:∃ b:Ob,b=Ob.box ty [.d (.int .i64 k'),.d (.sl z' 1 (ns'.map encStr)),.d (.sl y' 3 (ps'.map T.enc))]:=⟨_,rfl⟩
 obtain ⟨bC,hbC⟩:∃ b:Ob,b=Ob.box ty [.d (.int .i64 k2),.d (.sl z2 1 (ns2.map encStr)),.d (.sl y2' 3 (ps2.map T.enc))]:=⟨_,rfl⟩
 have rest:V.Rt→W.Rt→U.Rt→∀ (fr:Fr) (Y:Hp),fr 3 = .ptr H.length 0→fr 4 = .ptr (H.length+1) 0→fr 5 = .ptr (H.length+2) 0→(∀ Z,(Y++Z)[0]?=some bA)→(∀ Z,(Y++Z)[1]?=some bB)→(∀ Z,(Y++Z)[2]?=some bC) →
  AWp P H.length (irLNeedsR awk flows func ty) (Fin [.t 6] H.length fun r H'=>r = .d (.bool true)∧H'=H) fr (H++Y):=by
  intro rv rw_ ru fr Y f3 f4 f5 e0 e1 e2
  have y1:=y1 (ru.fn2 rv) (ru.fn2 rw_)
  have y2:=y2 (rw_.fn2 ru) (rv.fn2 ru)
  simp only [Ty.Fl.refl ru,true_and,and_true] at y1 y2
  have x2:=x2 rv rw_
  generalize decide (Ty.Fl V W)=c at x2 y1 y2
  simp only [irLNeedsR,AWp_seq]
  refine n9A (i3:=H.length) (i4:=H.length+1) (i5:=H.length+2) f3 f4 f5 (fun X=>by rw [List.append_assoc,getElem?_app0,e0,hbA]) (fun X=>by rw [List.append_assoc,getElem?_appk,e1,hbB]) (fun X=>by rw [List.append_assoc,getElem?_appk,e2,hbC]) (fun X=>u1 _) (fun X=>u2 _) ?_
  rintro fr i j X ⟨f3,f4,f5⟩ f8 f9 a8 a9 -
  simp only [then_normal,AWp_seq]
  refine n10A (i3:=H.length) (i4:=H.length+1) (i5:=H.length+2) f3 f4 f5 f8 f9 (fun Z=>by rw [List.append_assoc,List.append_assoc,getElem?_app0,e0,hbA]) (fun Z=>by rw [List.append_assoc,List.append_assoc,getElem?_appk,e1,hbB]) (fun Z=>by rw [List.append_assoc,List.append_assoc,getElem?_appk,e2,hbC]) (fun Z=>u3 _) (fun Z=>u4 _) ?_
  rintro fr i' j' X' ⟨f3,f4,f5,f8,f9⟩ f10 f11 a10 a11 -
  have l3:(H++Y++X++X')[H.length]?=some (Ob.box ty [.d (.int .i64 k),.d (.sl z 1 (ns.map encStr)),.d (.sl y 3 (ps.map T.enc))]):=by rw [List.append_assoc,List.append_assoc,getElem?_app0,e0,hbA]
  have l4:(H++Y++X++X')[H.length+1]?=some (Ob.box ty [.d (.int .i64 k'),.d (.sl z' 1 (ns'.map encStr)),.d (.sl y' 3 (ps'.map T.enc))]):=by rw [List.append_assoc,List.append_assoc,getElem?_appk,e1,hbB]
  have l8:=(show (H++Y++X++X')[(H++Y).length+i]?=(X++X')[i]? by rw [List.append_assoc (H++Y),getElem?_appk]).trans (a8 X')
  have l9:=(show (H++Y++X++X')[(H++Y).length+j]?=(X++X')[j]? by rw [List.append_assoc (H++Y),getElem?_appk]).trans (a9 X')
  have l10:=(show (H++Y++X++X')[(H++Y++X).length+i']?=(X'++[])[i']? by rw [getElem?_appk,List.append_nil]).trans (a10 [])
  have l11:=(show (H++Y++X++X')[(H++Y++X).length+j']?=(X'++[])[j']? by rw [getElem?_appk,List.append_nil]).trans (a11 [])
  have haw:=hA (H++Y++X++X') (((hH.app _).app _).app _)
  have fin':RetK (fun r H'=>r=A.d (.bool true)∧H'=H) .mk H.length (some (.d (.bool true))) (H++Y++X++X'):=by rw [List.append_assoc,List.append_assoc]; exact fin _
  generalize (H++Y++X).length+i'=q10 at f10 l10
  generalize (H++Y++X).length+j'=q11 at f11 l11
  generalize (H++Y).length+i=q8 at f8 l8
  generalize (H++Y).length+j=q9 at f9 l9
  generalize H.length+1=q4 at f4 l4
  have y1:=y1 (H++Y++X++X')
  have y2:=y2 (H++Y++X++X')
  have x2:=x2 (H++Y++X++X')
  clear u1 u2 u3 u4 x1 x3 x4 i1 hless
  generalize H++Y++X++X'=BB at *
  simp
  refine CallD_of haw ?_
  simp [f3,f4,f8,f9,l3,l4,l8,l9,-getElem?_pos]
  refine CallD_of y1 ?_
  simp [f3,f4,l3,l4,-getElem?_pos]
  refine CallD_of x2 ?_
  simp [f10,f11,l10,l11,-getElem?_pos]
  refine CallD_of y2 ?_
  simp [f3,f4,l3,l4,-getElem?_pos]
  refine CallD_of x2 ?_
  simp
  exact fin'
 simp [irLNeeds]
 refine CallK_of (i1 _) ?_
 rintro r H2 ⟨⟨c,rfl,hc⟩,rfl⟩
 cases c
 · simp
   refine CallK_of' (hA _ ((hH.app _))) ?_
   simp
   simp [RetK,cut_appk hcl,cut_app hcl]
 have hc:=hc rfl
 have rv:V.Rt:=hv1 ▸ hc _ (by simp)
 have rw_:W.Rt:=hw1 ▸ hc _ (by simp)
 have ru:U.Rt:=hu1 ▸ hc _ (by simp)
 have x2:=x2 rv rw_
 have hnf:¬ (W.k ≠ 0∧V ≠ W)→Ty.Fl V W:=fun hn=>by
  by_cases e0:W.k=0
  · exact .dynR e0
  · have:V=W:=Classical.byContradiction fun e=>hn ⟨e0,e⟩
    rw [this]; exact Ty.Fl.refl rw_
 have hrest:=rest rv rw_ ru
 simp
 generalize hcn:decide (W.k ≠ 0∧V ≠ W)=cn at x1
 refine CallK_of' (x1 _) ?_
 have hfl:cn=false→Ty.Fl V W:=fun e=>hnf (by rw [e] at hcn; exact of_decide_eq_false hcn)
 cases cn
 all_goals
  first
  | (simp
     refine CallK_of' (x2 _) ?_
     simp [hfl rfl])
  | simp
  refine CallK_of' (x3 _) ?_
  simp
  refine CallK_of' (x4 _) ?_
  simp
  by_cases h3:k'=3
  · subst h3
    have hl:=hlen rw_ hkw _ _ _ _ _ rfl
    cases ns' with
    | nil =>
      simp
      exact hrest _ _ (by simp) (by simp) (by simp) (fun Z=>by simp [hbA]) (fun Z=>by simp [hbB]) (fun Z=>by simp [hbC])
    | cons n ns' =>
      cases ps' with
      | nil=>simp at hl
      | cons p ps' =>
        by_cases hF:Ty.Fl V W
        · obtain ⟨l,rfl,g1,g2⟩:=hless _ _ _ _ _ _ rfl rw_ rv hF
          simp only [T.a_mk,T.enc_mk,List.map_cons,List.map_nil] at g1 g2
          simp
          refine CallK_of' (x2 _) ?_
          simp [hF,subL_one]
          refine CallK_of' (g1 _) ?_
          simp
          refine CallK_of' (g2 _) ?_
          simp
          exact hrest _ _ (by simp) (by simp) (by simp) (fun Z=>by simp [hbA]) (fun Z=>by simp [hbB]) (fun Z=>by simp [hbC])
        · simp
          refine CallK_of' (x2 _) ?_
          simp [hF]
          exact hrest _ _ (by simp) (by simp) (by simp) (fun Z=>by simp [hbA]) (fun Z=>by simp [hbB]) (fun Z=>by simp [hbC])
  · simp [h3]
    exact hrest _ _ (by simp) (by simp) (by simp) (fun Z=>by simp [hbA]) (fun Z=>by simp [hbB]) (fun Z=>by simp [hbC])
end
end
end Go.Zam
namespace Go.Proofs
section
open Go.Shelf Go.RowKit
variable {P:Program} {ρ:Ren}
set_option maxHeartbeats 32000000 in
set_option maxRecDepth 100000 in
theorem AnyPu.internal_strconv_ParseUint_10_b63 (L:LaysPu.n16 P ρ) (t:ByteArray) (hne:t.size ≠ 0) (hmax:t.size≤9223372036854775806) (w:World) :
 Calls P (ρ.f 16) #[.string t,.int .i64 10,.int .i64 63] w fun e w'=>e = .returned (Lib.uintTupleM (ρ.t 34) 9223372036854775807 (Lib.parseUintM 9223372036854775807 0 t.data.toList))∧w'=Lib.bytesWorld w (ρ.t 5) t:=by
 have mixed:=L.mixed
 have t9:=L.t9; have a9:=L.a9; have z9:=L.z9; have v9:=L.v9
 have t3:=L.t3; have a3:=L.a3; have z3:=L.z3; have v3:=L.v3
 have t22:=L.t22; have a22:=L.a22; have z22:=L.z22; have v22:=L.v22
 have t24:=L.t24; have a24:=L.a24; have z24:=L.z24; have v24:=L.v24
 have t4:=L.t4; have a4:=L.a4; have z4:=L.z4; have v4:=L.v4
 have t34:=L.t34; have a34:=L.a34; have z34:=L.z34; have v34:=L.v34
 have t5:=L.t5; have a5:=L.a5; have z5:=L.z5; have v5:=L.v5
 have t36:=L.t36; have a36:=L.a36; have z36:=L.z36; have v36:=L.v36
 have t37:=L.t37; have a37:=L.a37; have z37:=L.z37; have v37:=L.v37
 have t0:=L.t0; have a0:=L.a0; have z0:=L.z0; have v0:=L.v0
 have e19:∀ args w,(callFunc (ρ.f 19) args).run P w = .ok (.enter (ρ.f 19) args) w:=enters_of L.f19 (by kernel_rfl) rfl
 have hemp:t.toList.isEmpty=false:=by
  rw [← decide_eq_emptyBytes]
  exact decide_eq_false (fun h=>hne (by rw [h]; rfl))
 have hcv:=Lib.run_convert_string_bytes (P:=P) w (ρ.t 9) (ρ.t 37) (ρ.t 5) t (u := .string) L.t9 L.t37 L.t5
 have hB:∀ j,j < t.size→(Lib.bytesWorld w (ρ.t 5) t).cell? ⟨w.heap.size,j,none⟩=some (.int .u8 (t.data.toList.getD j 0).toNat):=fun j hj=>Lib.bytesWorld_cell w (ρ.t 5) t j hj
 obtain ⟨W1,hW1⟩:∃ W1,W1=Lib.bytesWorld w (ρ.t 5) t:=⟨_,rfl⟩
 rw [← hW1] at hcv hB ⊢
 clear hW1
 obtain ⟨bs,hL⟩:∃ bs,bs=t.data.toList:=⟨_,rfl⟩
 have hLn:bs.length=t.size:=by rw [hL,Lib.size_eq]
 rw [← hL] at hB ⊢
 clear hL
 have hmv:IntKind.u64.wrap (IntKind.u64.wrap 9223372036854775808 - 1)=9223372036854775807:=by
  rw [IntKind.wrap_u64,IntKind.wrap_u64]
  decide
 go_enter L.f16,BodyPu.n16_ntmps ρ
 go_wp2
 go_loop [12,13,101] (fun vu vn vi=>∃ (k acc:Nat) (a:Int),vu = .bool false∧vn = .int .u64 a∧vi = .int .i64 k∧k≤t.size∧Hid (a=(acc:Int)∧acc≤9223372036854775807∧Lib.parseUintM 9223372036854775807 0 bs=Lib.parseUintM 9223372036854775807 acc (bs.drop k)))
  (fun _ _ vi=>t.size - (intOf vi).toNat)
 case atStart=>exact ⟨0,0,0,rfl,rfl,rfl,by omega,rfl,by omega,rfl⟩
 case round =>
  obtain ⟨k,acc,a,rfl,rfl,rfl,hk,hh⟩:=hrel
  obtain ⟨ha,hacc,hdec⟩:=hh.out
  clear hh
  have a0:0≤a:=by omega
  have a1:a≤9223372036854775807:=by omega
  by_cases hkn:k < t.size
  · have hc:=hB k hkn
    have hdrop:bs.drop k=bs[k]'(by omega) :: bs.drop (k+1):=List.drop_eq_getElem_cons (by omega)
    have hget:bs.getD k 0=bs[k]'(by omega):=by simp [List.getD,List.getElem?_eq_getElem (show k < bs.length by omega)]
    rw [hdrop] at hdec
    rw [hget] at hc
    generalize bs[k]'(by omega)=c at hc hdec
    have hc256:c.toNat < 256:=c.toNat_lt
    clear hB hdrop hget
    by_cases hdig:48≤c.toNat∧c.toNat≤57
    · obtain ⟨hd0,hd1⟩:=hdig
      by_cases hcut:1844674407370955162≤acc
      · have hF:Lib.parseUintM 9223372036854775807 acc (c :: bs.drop (k+1)) = .range:=by simp [Lib.parseUintM,hd0,hd1,hcut]
        rw [hF] at hdec
        have icut:1844674407370955162≤a:=by omega
        clear hcut hacc hF ha
        go_wp2
        go_ret2
        exact ⟨rfl,rfl⟩
      by_cases hov2:18446744073709551616≤acc * 10+(c.toNat - 48)
      · have hov:9223372036854775807 < acc * 10+(c.toNat - 48):=by omega
        have hF:Lib.parseUintM 9223372036854775807 acc (c :: bs.drop (k+1)) = .range:=by simp [Lib.parseUintM,hd0,hd1,hcut,hov]
        rw [hF] at hdec
        have icut:a < 1844674407370955162:=by omega
        have iov:18446744073709551616≤a * 10+((c.toNat:Int) - 48):=by omega
        have hwr:IntKind.u64.wrap (a * 10+((c.toNat:Int) - 48))=a * 10+((c.toNat:Int) - 48) - 18446744073709551616:=by
         rw [IntKind.wrap_u64]
         omega
        clear hcut hacc hF hov hov2 ha
        go_wp2
        go_ret2
        exact ⟨rfl,rfl⟩
      by_cases hov:9223372036854775807 < acc * 10+(c.toNat - 48)
      ·
       have hF:Lib.parseUintM 9223372036854775807 acc (c :: bs.drop (k+1)) = .range:=by simp [Lib.parseUintM,hd0,hd1,hcut,hov]
       rw [hF] at hdec
       have iov:9223372036854775807 < a * 10+((c.toNat:Int) - 48):=by omega
       have iov2:a * 10+((c.toNat:Int) - 48) < 18446744073709551616:=by omega
       have icut:a < 1844674407370955162:=by omega
       clear hcut hacc hF hov hov2 ha
       go_wp2
       go_ret2
       exact ⟨rfl,rfl⟩
      · have hF:Lib.parseUintM 9223372036854775807 acc (c :: bs.drop (k+1))=Lib.parseUintM 9223372036854775807 (acc * 10+(c.toNat - 48)) (bs.drop (k+1)):=by simp [Lib.parseUintM,hd0,hd1,hcut,hov]
        have HN:Hid (a * 10+((c.toNat:Int) - 48)=((acc * 10+(c.toNat - 48):Nat):Int)∧acc * 10+(c.toNat - 48)≤9223372036854775807∧Lib.parseUintM 9223372036854775807 0 bs=Lib.parseUintM 9223372036854775807 (acc * 10+(c.toNat - 48)) (bs.drop (k+1))):=Lib.hid ⟨by omega,by omega,hdec.trans hF⟩
        have iov:a * 10+((c.toNat:Int) - 48)≤9223372036854775807:=by omega
        have icut:a < 1844674407370955162:=by omega
        clear hcut hacc hF hov hov2 hdec ha
        go_wp2
        refine ⟨⟨k+1,acc * 10+(c.toNat - 48),a * 10+((c.toNat:Int) - 48),rfl,(by first | rfl | (congr 1; omega)),(by first | rfl | (congr 1; omega)),by omega,HN⟩,by simp [intOf]; omega⟩
    ·
     have hF:Lib.parseUintM 9223372036854775807 acc (c :: bs.drop (k+1))=Lib.NumEnd.syntax:=by simp [Lib.parseUintM,hdig]
     rw [hF] at hdec
     clear hacc hF ha
     have hv0:=bits_lo_u8 .or (c.toNat:Int) 32
     have hv1:=bits_hi_u8 .or (c.toNat:Int) 32
     have hu0:=bits_lo_u8 .or 95 32
     have hu1:=bits_hi_u8 .or 95 32
     go_wp2_with (go_at_fn (ρ.f 19); refine (AnyPu.internal_strconv_lower { L with } _ _).mono ?_; rintro e w' ⟨rfl,rfl⟩)
     all_goals go_ret2
     all_goals first | exact ⟨rfl,rfl⟩ | exact ⟨by rw [hdec]; rfl,rfl⟩
  ·
   have hkk:k=t.size:=by omega
   subst hkk
   have hF:Lib.parseUintM 9223372036854775807 acc (bs.drop t.size) = .ok acc:=by rw [List.drop_eq_nil_of_le (by omega)]; rfl
   rw [hF] at hdec
   subst ha
   clear hacc hF a0 a1
   go_wp2
   go_ret2
   exact ⟨rfl,rfl⟩
theorem AnyPu.internal_strconv_ParseUint_10_at63 (L:LaysPu.n16 P ρ) (t:ByteArray) (hmax:t.size≤9223372036854775806) (w:World) :
 Calls P (ρ.f 16) #[.string t,.int .i64 10,.int .i64 63] w fun e w'=>e = .returned (Lib.uintTupleM (ρ.t 34) 9223372036854775807 (Lib.parseUintB 63 t.data.toList))∧(w'=w∨w'=Lib.bytesWorld w (ρ.t 5) t):=by
 have eM:(2:Nat) ^ 63 - 1=9223372036854775807:=by decide
 by_cases h0:t.size=0
 · have ht:t=⟨#[]⟩:=by
    apply ByteArray.ext
    exact Array.eq_empty_of_size_eq_zero h0
   subst ht
   exact (AnyPu.internal_strconv_ParseUint_empty { L with } 10 63 w).mono fun e w' ⟨he,hw⟩=>⟨he,Or.inl hw⟩
 · have hne:t.data.toList ≠ []:=fun h=>h0 (by rw [Lib.size_eq,h]; rfl)
   refine (AnyPu.internal_strconv_ParseUint_10_b63 { L with } t h0 hmax w).mono fun e w' ⟨he,hw⟩=>⟨?_,Or.inr hw⟩
   rw [he,Lib.parseUintB,if_neg hne,eM]
set_option maxHeartbeats 4000000 in
set_option maxRecDepth 100000 in
theorem Any.strconv_ParseUint_10_at63_ok (L:LaysPu.n14 P ρ) (s:ByteArray) (hmax:s.size≤9223372036854775806) (u:Nat) (h:Lib.parseUintB 63 s.data.toList = .ok u) (w:World) :
 Calls P (ρ.f 14) #[.string s,.int .i64 10,.int .i64 63] w fun e w'=>e = .returned (.tuple #[.int .u64 u,.nilIface])∧(w'=w∨w'=Lib.bytesWorld w (ρ.t 5) s):=by
 have mixed:=L.mixed
 have t9:=L.t9; have a9:=L.a9; have z9:=L.z9; have v9:=L.v9
 have t3:=L.t3; have a3:=L.a3; have z3:=L.z3; have v3:=L.v3
 have t22:=L.t22; have a22:=L.a22; have z22:=L.z22; have v22:=L.v22
 have t24:=L.t24; have a24:=L.a24; have z24:=L.z24; have v24:=L.v24
 have t25:=L.t25; have a25:=L.a25; have z25:=L.z25; have v25:=L.v25
 have t4:=L.t4; have a4:=L.a4; have z4:=L.z4; have v4:=L.v4
 have e16:∀ args w,(callFunc (ρ.f 16) args).run P w = .ok (.enter (ρ.f 16) args) w:=enters_of L.f16 (by kernel_rfl) rfl
 have hI:=AnyPu.internal_strconv_ParseUint_10_at63 { L with } s hmax w
 rw [h] at hI
 have hI:Calls P (ρ.f 16) #[.string s,.int .i64 10,.int .i64 63] w fun e w'=>e = .returned (.tuple #[.int .u64 u,.nilIface])∧(w'=w∨w'=Lib.bytesWorld w (ρ.t 5) s):=hI
 clear h
 go_enter L.f14,BodyPu.n14_ntmps ρ
 go_wp2_with (go_at_fn (ρ.f 16); refine hI.mono ?_; rintro e W1 ⟨rfl,hW⟩)
 go_wp2
 go_ret2
 exact ⟨rfl,hW⟩
set_option maxHeartbeats 4000000 in
set_option maxRecDepth 100000 in
theorem Any.strconv_ParseUint_10_at63_syntax (L:LaysPu.n14 P ρ) (s:ByteArray) (hlim:s.size≤281474976710656) (h:Lib.parseUintB 63 s.data.toList=Lib.NumEnd.syntax) (ev:Value) (w:World) (hv:w.cell? ⟨(ρ.g 0),0,none⟩=some ev) (hev:ev = .nilIface∨∃ te pe,ev = .iface te pe) :
 Calls P (ρ.f 14) #[.string s,.int .i64 10,.int .i64 63] w fun e w'=>∃ N,e = .returned (.tuple #[.int .u64 0,.iface (ρ.t 39) (.pointer (some ⟨N,0,none⟩))])∧w.heap.size≤N∧w'.heap[N]?=some (.cells #[.string ⟨#[80,97,114,115,101,85,105,110,116]⟩,.string s,ev] (ρ.t 44) (0,0))∧Below w.heap.size w w':=by
 have mixed:=L.mixed
 have t9:=L.t9; have a9:=L.a9; have z9:=L.z9; have v9:=L.v9
 have t3:=L.t3; have a3:=L.a3; have z3:=L.z3; have v3:=L.v3
 have t22:=L.t22; have a22:=L.a22; have z22:=L.z22; have v22:=L.v22
 have t24:=L.t24; have a24:=L.a24; have z24:=L.z24; have v24:=L.v24
 have t25:=L.t25; have a25:=L.a25; have z25:=L.z25; have v25:=L.v25
 have t4:=L.t4; have a4:=L.a4; have z4:=L.z4; have v4:=L.v4
 have e16:∀ args w,(callFunc (ρ.f 16) args).run P w = .ok (.enter (ρ.f 16) args) w:=enters_of L.f16 (by kernel_rfl) rfl
 have e17:∀ args w,(callFunc (ρ.f 17) args).run P w = .ok (.enter (ρ.f 17) args) w:=enters_of L.f17 (by kernel_rfl) rfl
 have hG:(ρ.g 0) < w.heap.size:=Lib.lt_of_cell hv
 have hI:=AnyPu.internal_strconv_ParseUint_10_at63 { L with } s (by omega) w
 rw [h] at hI
 have hI:Calls P (ρ.f 16) #[.string s,.int .i64 10,.int .i64 63] w fun e w'=>e = .returned (.tuple #[.int .u64 0,.iface (ρ.t 34) (.int .i64 2)])∧(w'=w∨w'=Lib.bytesWorld w (ρ.t 5) s):=hI
 clear h
 go_enter L.f14,BodyPu.n14_ntmps ρ
 go_wp2_with (go_at_fn (ρ.f 16); refine hI.mono ?_)
 rintro e W1 ⟨rfl,hW⟩
 have hb1:Below w.heap.size w W1:=by
  rcases hW with rfl | rfl
  · exact Below.refl _ _
  · exact Lib.bytesWorld_below _ _ _
 have hv1:W1.cell? ⟨(ρ.g 0),0,none⟩=some ev:=(hb1.cell (show (⟨(ρ.g 0),0,none⟩:Addr).block < w.heap.size from hG)).trans hv
 clear hW
 go_wp2_with (go_at_fn (ρ.f 17); refine (AnyPu.strconv_toError_syntax { L with } ⟨#[80,97,114,115,101,85,105,110,116]⟩ s 10 63 ev _ hlim ?_ hev).mono ?_)
 · exact hv1
 rintro e W2 ⟨N,rfl,h1,h2,h3⟩
 go_wp2
 go_ret2
 exact ⟨N,rfl,Nat.le_trans hb1.size h1,h2,hb1.trans (h3.mono hb1.size)⟩
set_option maxHeartbeats 4000000 in
set_option maxRecDepth 100000 in
theorem Any.strconv_ParseUint_10_at63_range (L:LaysPu.n14 P ρ) (s:ByteArray) (hlim:s.size≤281474976710656) (h:Lib.parseUintB 63 s.data.toList = .range) (ev:Value) (w:World) (hv:w.cell? ⟨(ρ.g 1),0,none⟩=some ev) (hev:ev = .nilIface∨∃ te pe,ev = .iface te pe) :
 Calls P (ρ.f 14) #[.string s,.int .i64 10,.int .i64 63] w fun e w'=>∃ N,e = .returned (.tuple #[.int .u64 9223372036854775807,.iface (ρ.t 39) (.pointer (some ⟨N,0,none⟩))])∧w.heap.size≤N∧w'.heap[N]?=some (.cells #[.string ⟨#[80,97,114,115,101,85,105,110,116]⟩,.string s,ev] (ρ.t 44) (0,0))∧Below w.heap.size w w':=by
 have mixed:=L.mixed
 have t9:=L.t9; have a9:=L.a9; have z9:=L.z9; have v9:=L.v9
 have t3:=L.t3; have a3:=L.a3; have z3:=L.z3; have v3:=L.v3
 have t22:=L.t22; have a22:=L.a22; have z22:=L.z22; have v22:=L.v22
 have t24:=L.t24; have a24:=L.a24; have z24:=L.z24; have v24:=L.v24
 have t25:=L.t25; have a25:=L.a25; have z25:=L.z25; have v25:=L.v25
 have t4:=L.t4; have a4:=L.a4; have z4:=L.z4; have v4:=L.v4
 have e16:∀ args w,(callFunc (ρ.f 16) args).run P w = .ok (.enter (ρ.f 16) args) w:=enters_of L.f16 (by kernel_rfl) rfl
 have e17:∀ args w,(callFunc (ρ.f 17) args).run P w = .ok (.enter (ρ.f 17) args) w:=enters_of L.f17 (by kernel_rfl) rfl
 have hG:(ρ.g 1) < w.heap.size:=Lib.lt_of_cell hv
 have hI:=AnyPu.internal_strconv_ParseUint_10_at63 { L with } s (by omega) w
 rw [h] at hI
 have hI:Calls P (ρ.f 16) #[.string s,.int .i64 10,.int .i64 63] w fun e w'=>e = .returned (.tuple #[.int .u64 9223372036854775807,.iface (ρ.t 34) (.int .i64 1)])∧(w'=w∨w'=Lib.bytesWorld w (ρ.t 5) s):=hI
 clear h
 go_enter L.f14,BodyPu.n14_ntmps ρ
 go_wp2_with (go_at_fn (ρ.f 16); refine hI.mono ?_)
 rintro e W1 ⟨rfl,hW⟩
 have hb1:Below w.heap.size w W1:=by
  rcases hW with rfl | rfl
  · exact Below.refl _ _
  · exact Lib.bytesWorld_below _ _ _
 have hv1:W1.cell? ⟨(ρ.g 1),0,none⟩=some ev:=(hb1.cell (show (⟨(ρ.g 1),0,none⟩:Addr).block < w.heap.size from hG)).trans hv
 clear hW
 go_wp2_with (go_at_fn (ρ.f 17); refine (AnyPu.strconv_toError_range { L with } ⟨#[80,97,114,115,101,85,105,110,116]⟩ s 10 63 ev _ hlim ?_ hev).mono ?_)
 · exact hv1
 rintro e W2 ⟨N,rfl,h1,h2,h3⟩
 go_wp2
 go_ret2
 exact ⟨N,rfl,Nat.le_trans hb1.size h1,h2,hb1.trans (h3.mono hb1.size)⟩
end
end Go.Proofs
namespace Go.Proofs.Zy
section
open Go Go.Zam Go.Proofs
theorem tcf72:compF Tryz.prog [7] Tryz.f72=some (irTkLex 87 88 89 109 95):=by kernel_rfl
theorem h72:HasT Tryz.prog [7] 72 (irTkLex 87 88 89 109 95):=⟨_,Tryz.func72,tcf72⟩
theorem tcf67:compF Tryz.prog [] Tryz.f67=some (irTkIsKey 84 83):=by kernel_rfl
theorem h67:Has Tryz.prog 67 (irTkIsKey 84 83):=⟨_,Tryz.func67,tcf67⟩
theorem tcf87:compF Tryz.prog [] Tryz.f87=some (irRnBad 111):=by kernel_rfl
theorem h87:Has Tryz.prog 87 (irRnBad 111):=⟨_,Tryz.func87,tcf87⟩
theorem tcf88:compF Tryz.prog [] Tryz.f88=some (irScLead 112 113 114 115):=by kernel_rfl
theorem h88:Has Tryz.prog 88 (irScLead 112 113 114 115):=⟨_,Tryz.func88,tcf88⟩
theorem tcf89:compF Tryz.prog [] Tryz.f89=some (irScNext 112 66 116 67 68 117 118 119 95):=by kernel_rfl
theorem h89:Has Tryz.prog 89 (irScNext 112 66 116 67 68 117 118 119 95):=⟨_,Tryz.func89,tcf89⟩
theorem tcf83:compF Tryz.prog [] Tryz.f83=some (irSlHas 44):=by kernel_rfl
theorem h83:Has Tryz.prog 83 (irSlHas 44):=⟨_,Tryz.func83,tcf83⟩
theorem tcf44:compF Tryz.prog [] Tryz.f44=some (irSlIdx):=by kernel_rfl
theorem h44:Has Tryz.prog 44 (irSlIdx):=⟨_,Tryz.func44,tcf44⟩
theorem tcf84:compF Tryz.prog [] Tryz.f84=some (irTkKeys):=by kernel_rfl
theorem h84:Has Tryz.prog 84 (irTkKeys):=⟨_,Tryz.func84,tcf84⟩
theorem tcf66:compF Tryz.prog [] Tryz.f66=some (irLetter):=by kernel_rfl
theorem h66:Has Tryz.prog 66 (irLetter):=⟨_,Tryz.func66,tcf66⟩
theorem tcf68:compF Tryz.prog [] Tryz.f68=some (irDigit):=by kernel_rfl
theorem h68:Has Tryz.prog 68 (irDigit):=⟨_,Tryz.func68,tcf68⟩
theorem tcf112:compF Tryz.prog [] Tryz.f112=some (irScMore):=by kernel_rfl
theorem h112:Has Tryz.prog 112 (irScMore):=⟨_,Tryz.func112,tcf112⟩
theorem tcf113:compF Tryz.prog [] Tryz.f113=some (irTkBlank):=by kernel_rfl
theorem h113:Has Tryz.prog 113 (irTkBlank):=⟨_,Tryz.func113,tcf113⟩
theorem tcf114:compF Tryz.prog [] Tryz.f114=some (irScHash):=by kernel_rfl
theorem h114:Has Tryz.prog 114 (irScHash):=⟨_,Tryz.func114,tcf114⟩
theorem tcf115:compF Tryz.prog [] Tryz.f115=some (irScNoNl):=by kernel_rfl
theorem h115:Has Tryz.prog 115 (irScNoNl):=⟨_,Tryz.func115,tcf115⟩
theorem tcf116:compF Tryz.prog [] Tryz.f116=some (irScWord 112 127):=by kernel_rfl
theorem h116:Has Tryz.prog 116 (irScWord 112 127):=⟨_,Tryz.func116,tcf116⟩
theorem tcf127:compF Tryz.prog [] Tryz.f127=some (irScWordB 66 68):=by kernel_rfl
theorem h127:Has Tryz.prog 127 (irScWordB 66 68):=⟨_,Tryz.func127,tcf127⟩
theorem tcf118:compF Tryz.prog [] Tryz.f118=some (irScStr 129):=by kernel_rfl
theorem h118:Has Tryz.prog 118 (irScStr 129):=⟨_,Tryz.func118,tcf118⟩
theorem tcf119:compF Tryz.prog [] Tryz.f119=some (irScSign 130 131):=by kernel_rfl
theorem h119:Has Tryz.prog 119 (irScSign 130 131):=⟨_,Tryz.func119,tcf119⟩
theorem tcf129:compF Tryz.prog [4] Tryz.f129=some (irRnUnquote 135 136 71 80 5):=by kernel_rfl
theorem h129:HasT Tryz.prog [4] 129 (irRnUnquote 135 136 71 80 5):=⟨_,Tryz.func129,tcf129⟩
theorem tcf130:compF Tryz.prog [] Tryz.f130=some (irTkSigns):=by kernel_rfl
theorem h130:Has Tryz.prog 130 (irTkSigns):=⟨_,Tryz.func130,tcf130⟩
theorem tcf61:compF Tryz.prog [] Tryz.f61=some (irIsKey):=by kernel_rfl
theorem tcf48:compF Tryz.prog [] Tryz.f48=some (irIsName 61 62 63):=by kernel_rfl
theorem tcf62:compF Tryz.prog [] Tryz.f62=some (irDigit):=by kernel_rfl
theorem h62:Has Tryz.prog 62 (irDigit):=⟨_,Tryz.func62,tcf62⟩
theorem tcf63:compF Tryz.prog [] Tryz.f63=some (irLetter):=by kernel_rfl
theorem h63:Has Tryz.prog 63 (irLetter):=⟨_,Tryz.func63,tcf63⟩
end
section
open Go Go.Zam Go.Proofs Go.Shelf
def bldRen:Ren:=⟨fun n=>match n with | 240=>85 | 276=>109 | 169=>71 | n=>n,fun t=>match t with | 0=>0 | 3=>3 | 4=>4 | 5=>5 | 9=>9 | 20=>20 | 37=>78 | 70=>77 | 72=>80 | 127=>105 | 164=>130 | n=>n,fun g=>g⟩
theorem lay240:Lays.n240 Tryz.prog bldRen where
 mixed:=by kernel_rfl
 f240:=Tryz.func85.trans (congrArg some (by kernel_rfl))
 f276:=Tryz.func109.trans (congrArg some (by kernel_rfl))
 t0:=by kernel_rfl
 a0:=Tryz.isAgg0
 z0:=fun _=>by kernel_rfl
 v0:=Tryz.zeroValue0
 t4:=by kernel_rfl
 a4:=Tryz.isAgg4
 z4:=fun _=>by kernel_rfl
 v4:=Tryz.zeroValue4
 t9:=by kernel_rfl
 a9:=Tryz.isAgg9
 z9:=fun _=>by kernel_rfl
 v9:=Tryz.zeroValue9
 t20:=by kernel_rfl
 a20:=Tryz.isAgg20
 z20:=fun _=>by kernel_rfl
 v20:=Tryz.zeroValue20
 t70:=by kernel_rfl
 a70:=Tryz.isAgg77
 z70:=fun _=>by kernel_rfl
 v70:=Tryz.zeroValue77
 t72:=by kernel_rfl
 a72:=Tryz.isAgg80
 z72:=fun _=>by kernel_rfl
 v72:=Tryz.zeroValue80
 t164:=by kernel_rfl
 a164:=Tryz.isAgg130
 z164:=fun _=>by kernel_rfl
 v164:=Tryz.zeroValue130
theorem lay169:Lays.n169 Tryz.prog bldRen where
 mixed:=by kernel_rfl
 f169:=Tryz.func71.trans (congrArg some (by kernel_rfl))
 t0:=by kernel_rfl
 a0:=Tryz.isAgg0
 z0:=fun _=>by kernel_rfl
 v0:=Tryz.zeroValue0
 t3:=by kernel_rfl
 a3:=Tryz.isAgg3
 z3:=fun _=>by kernel_rfl
 v3:=Tryz.zeroValue3
 t9:=by kernel_rfl
 a9:=Tryz.isAgg9
 z9:=fun _=>by kernel_rfl
 v9:=Tryz.zeroValue9
 t37:=by kernel_rfl
 a37:=Tryz.isAgg78
 z37:=fun _=>by kernel_rfl
 v37:=Tryz.zeroValue78
 t70:=by kernel_rfl
 a70:=Tryz.isAgg77
 z70:=fun _=>by kernel_rfl
 v70:=Tryz.zeroValue77
 t72:=by kernel_rfl
 a72:=Tryz.isAgg80
 z72:=fun _=>by kernel_rfl
 v72:=Tryz.zeroValue80
 t127:=by kernel_rfl
 a127:=Tryz.isAgg105
 z127:=fun _=>by kernel_rfl
 v127:=Tryz.zeroValue105
theorem bldExtra:Builder.Extra Tryz.prog bldRen where
 sizeBuilder:=by kernel_rfl
 liesBuilder:=by kernel_rfl
 t5:=by kernel_rfl
 a5:=Tryz.isAgg5
 z5:=fun _=>by kernel_rfl
 v5:=Tryz.zeroValue5
 infoByte:=by kernel_rfl
 cellsByte:=by kernel_rfl
 sizeByte:=by kernel_rfl
 neB5:=by decide
theorem copyCheckOk {H:Hp} {i:Nat} {x a:A} (hi:H[i]?=some (.box 80 [a,x])) (ha:a = .d .nilp∨a = .ptr i 0) :
 ACall Tryz.prog 85 [.ptr i 0] H (fun r H'=>r = .tup []∧H'=H.set i (.box 80 [.ptr i 0,x])):=copyCheck_acall lay240 bldExtra.toX72 hi ha
theorem stringOk {H:Hp} {i t:Nat} {a:A} {s:List UInt8} (hi:H[i]?=some (.box 80 [a,.osl true 1 (byteRows s) t])) (ht:H[t]?=some (.tok s.length 1 5)) (hlen:s.length≤4611686018427387904) :
 ACall Tryz.prog 71 [.ptr i 0] H (fun r H'=>r = .d (.str s)∧H'=H):=string_acall lay169 bldExtra hi ht hlen
end
section
open Go Go.Zam Go.Proofs
open Go.RowKit (Below)
theorem indexOk:IndexOk Tryz.prog 135:=fun s c H=>by
 refine leaf (args:=[.str s,.int .u8 c.toNat]) (x := .int .i64 (Lib.indexByte s c)) (fun w σ vs _ hl hv => ?_) H
 match vs,hl with
 | [v0,v1],_ =>
 have e0:=(hv 0 v0 _ rfl rfl).str_inv
 have e1:=(hv 1 v1 _ rfl rfl).int_inv
 subst e0; subst e1
 refine (Tryz.strings_IndexByte ⟨s.toArray⟩ c.toNat w).mono ?_
 rintro e w' ⟨rfl,rfl⟩
 refine ⟨_,rfl,Below.refl _ _,fun σ => ?_⟩
 have:(Int.toNat (c.toNat:Int)).toUInt8=c:=by simp
 rw [this]
 exact .int _ _
theorem prefixOk:PrefixOk Tryz.prog 131:=fun s p H=>by
 refine leaf (args:=[.str s,.str p]) (x := .bool (p.isPrefixOf s)) (fun w σ vs _ hl hv => ?_) H
 match vs,hl with
 | [v0,v1],_ =>
 have e0:=(hv 0 v0 _ rfl rfl).str_inv
 have e1:=(hv 1 v1 _ rfl rfl).str_inv
 subst e0; subst e1
 refine (Tryz.strings_HasPrefix ⟨s.toArray⟩ ⟨p.toArray⟩ w).mono ?_
 rintro e w' ⟨rfl,rfl⟩
 exact ⟨_,rfl,Below.refl _ _,fun σ => .bool _⟩
theorem decodeOk {H0:Hp} (hG:TabsG 1 2 3 4 H0):DecodeOk Tryz.prog H0 111:=fun s H hp=>by
 refine leafG (args:=[.str s]) hG (fun w σ vs hT hl hv => ?_) H hp
 match vs,hl with
 | [v0],_ =>
 have e0:=(hv 0 v0 _ rfl rfl).str_inv
 subst e0
 refine (Tryz.utf8_DecodeRuneInString ⟨s.toArray⟩ w hT.1).mono ?_
 rintro e w' ⟨rfl,hb⟩
 refine ⟨_,rfl,hb,fun κ => ?_⟩
 rw [decodeGo_eq]
 refine VR.tup [_,_] [_,_] rfl fun i v a hi ha => ?_
 match i with
 | 0=>cases hi; cases ha; exact .d (.int _ _)
 | 1=>cases hi; cases ha; exact .d (.int _ _)
 | i+2=>cases hi
theorem numberCalls (s:ByteArray) (hlim:s.size≤1048576) (w:World) (h0:∃ te pe,w.cell? ⟨3,0,none⟩=some (.iface te pe)) (h1:∃ te pe,w.cell? ⟨4,0,none⟩=some (.iface te pe)) :
 Calls Tryz.prog 117 #[.string s] w fun e w'=>e = .returned (.int .i64 (if numOk s.data.toList then 0 else 23))∧Below w.heap.size w w':=by
 obtain ⟨t0,p0,h0⟩:=h0
 obtain ⟨t1,p1,h1⟩:=h1
 rcases h:Lib.parseUintB 63 s.data.toList with u | _ | _
 · have hr:numOk s.data.toList=true:=by simp only [numOk,h]
   rw [hr]
   go_enter Tryz.func117,Tryz.ntmps117
   go_wp2_with (go_at_call 128; refine (Any.strconv_ParseUint_10_at63_ok Tryz.laysPu14 s (by omega) u h _).mono ?_; rintro e w' ⟨rfl,hw⟩)
   go_wp2
   go_ret
   refine ⟨by first | rfl | (congr 2; omega),?_⟩
   rcases hw with rfl | rfl
   · exact Below.refl _ _
   · exact Lib.bytesWorld_below _ _ _
 · have hr:numOk s.data.toList=false:=by simp only [numOk,h]
   rw [hr]
   go_enter Tryz.func117,Tryz.ntmps117
   go_wp2_with (go_at_call 128; refine (Any.strconv_ParseUint_10_at63_syntax Tryz.laysPu14 s (by omega) h (.iface t0 p0) _ ?_ (.inr ⟨_,_,rfl⟩)).mono ?_)
   · exact h0
   rintro e W1 ⟨N,rfl,-,-,hb⟩
   go_wp2
   go_ret
   exact ⟨rfl,hb⟩
 · have hr:numOk s.data.toList=false:=by simp only [numOk,h]
   rw [hr]
   go_enter Tryz.func117,Tryz.ntmps117
   go_wp2_with (go_at_call 128; refine (Any.strconv_ParseUint_10_at63_range Tryz.laysPu14 s (by omega) h (.iface t1 p1) _ ?_ (.inr ⟨_,_,rfl⟩)).mono ?_)
   · exact h1
   rintro e W1 ⟨N,rfl,-,-,hb⟩
   go_wp2
   go_ret
   exact ⟨rfl,hb⟩
theorem numberOk {H0:Hp} (hG:TabsG 1 2 3 4 H0):NumOk Tryz.prog H0 117:=fun s H hp hl=>by
 refine leafG (args:=[.str s]) (x := .d _) hG (fun w σ vs hT hl' hv => ?_) H hp
 match vs,hl' with
 | [v0],_ =>
 have e0:=(hv 0 v0 _ rfl rfl).str_inv
 subst e0
 refine (numberCalls ⟨s.toArray⟩ (by simpa [ByteArray.size] using hl) w hT.2.1 hT.2.2).mono ?_
 rintro e w' ⟨rfl,hb⟩
 exact ⟨_,rfl,hb,fun κ => .d (.int _ _)⟩
theorem cfWB:compF Tryz.prog [] Tryz.f136=some (irWriteByte 85 5):=by kernel_rfl
theorem copyOk:CopyOk Tryz.prog 85 80:=fun H i x a hi ha=>copyCheckOk hi ha
theorem writeBOk:WriteBOk Tryz.prog 136 80:=fun H i t a bs c=>writeByte_acall Tryz.func136 cfWB copyOk H i t a bs c
theorem stringOk':StringOk Tryz.prog 71 80:=fun H i t a s hi ht hl=>stringOk hi ht (by omega)
theorem unquoteOk (s:Bs) (H:Hp) (hs:s.length≤1048576):ACall Tryz.prog 129 [.d (.str s)] H (fun r H'=>r=unqR (unqV s)∧H'=H):=h129.unquote indexOk writeBOk stringOk' s hs H
theorem letterOk:ByteOk Tryz.prog 66 letterB:=h66.letter
theorem digitOk:ByteOk Tryz.prog 68 digitB:=h68.digit
theorem isKeyOk (s:Bs) (H:Hp):ACall Tryz.prog 67 [.d (.str s)] H (fun r H'=>r = .d (.bool (decide (s ∈ keysL)))∧H'=H):=h67.isKey h84 h83 h44 s H
theorem wordOk {H:Hp} {i:Nat} {ts:TypeId} {text:Bs} {n:Nat} (hi:H[i]?=some (scan ts text n)) (hn:n≤text.length) (hl:text.length≤1048576) :
 ACall Tryz.prog 116 [.ptr i 0] H (fun r H'=>r = .d (.str ((text.drop n).take (Zam.runN Zam.wordB (text.drop n))))∧H'=H.set i (scan ts text (n+Zam.runN Zam.wordB (text.drop n)))) :=
 h116.word h112 (by kernel_rfl) (h127.wordB letterOk digitOk) hi hn (by omega)
theorem leadOk {H:Hp} {i:Nat} {text:Bs} {n:Nat} (hi:H[i]?=some (scan 109 text n)) (hn:n≤text.length) (hl:text.length≤1048576) :
 ACall Tryz.prog 88 [.ptr i 0] H (fun r H'=>r = .d (.str ((text.drop n).take (leadS false (text.drop n))))∧H'=H.set i (scan 109 text (n+leadS false (text.drop n)))) :=
 h88.lead h112 (by kernel_rfl) h113.blank (by kernel_rfl) h114.hash (by kernel_rfl) h115.noNl hi hn (by omega)
theorem nextOk {H0:Hp} (hG:TabsG 1 2 3 4 H0) {H:Hp} {i:Nat} {text:Bs} {n:Nat} (hH:Pre0 H0 H) (h0i:H0.length≤i) (hi:H[i]?=some (scan 109 text n)) (hn:n≤text.length) (hl:text.length≤1048576) :
 ACall Tryz.prog 89 [.ptr i 0] H (NextQ H i 109 text n (text.drop n) (tokN (text.drop n))) :=
 h89.next h112 (by kernel_rfl) letterOk (by kernel_rfl) digitOk wordOk isKeyOk (numberOk hG) (fun hi hn hl=>h118.str unquoteOk hi hn hl) (fun hi hn hl=>h119.sign h130 prefixOk hi hn (by omega)) hH h0i hi hn hl
theorem badOk {H0:Hp} (hG:TabsG 1 2 3 4 H0) (s:Bs) (H:Hp) (hs:s.length≤1048576) (hH:Pre0 H0 H):ACall Tryz.prog 87 [.d (.str s)] H (fun r H'=>r = .d (.int .i64 (badS s))∧H'=H):=h87.bad (decodeOk hG) s hs H hH
theorem lexOk {H0:Hp} (hG:TabsG 1 2 3 4 H0) (s:Bs) (hs:s.length≤1048576) (H:Hp) (hH:Pre0 H0 H) :
 ACall Tryz.prog 72 [.d (.str s)] H (fun r H'=>r = .tup [.d (.sl true 4 ((lexS s).1.map encTk)),.d (.int .i64 (lexS s).2.1),.d (.int .i64 (lexS s).2.2)]∧H'=H) :=
 h72.lex (badOk hG) leadOk (nextOk hG) s hs H hH
theorem rdigitOk:ByteOk Tryz.prog 62 digitB:=h62.digit
theorem rletterOk:ByteOk Tryz.prog 63 letterB:=h63.letter
theorem risKeyOk (s:Bs) (H:Hp):ACall Tryz.prog 61 [.d (.str s)] H (fun r H'=>r = .d (.bool (decide (s ∈ keysL)))∧H'=H):=isKey_acall Tryz.func61 tcf61 s H
theorem risNameOk (s:Bs) (H:Hp):ACall Tryz.prog 48 [.d (.str s)] H (fun r H'=>r = .d (.bool (isNameB s))∧H'=H):=isName_acall Tryz.func48 tcf48 risKeyOk rdigitOk rletterOk s H
end
end Go.Proofs.Zy
namespace Go.Proofs
section
open Go.RowKit Go.Maps Go.Sort Go.Shelf
variable {P:Program} {ρ:Ren}
def SeqGivesB (F:Fence) (n:Nat) (P:Program) (g:Nat) (lb:Array Value) (S:List (List UInt8)→Prop) (N:Nat) (w:World):Prop :=
 ∀ (l : Nat) (J : List (List UInt8) → World → Prop) (W : World), Below w.heap.size w W → AbidesFrom W.heap.size J → (∀ s W, J s W → Below w.heap.size w W) →
   (∀ pre x W1,J pre W1→pre.length < N→YieldAt F (n - 1) P l #[Go.Proofs.encStr x] W1 fun e W'=>e = .returned (.bool true)∧J (pre++[x]) W'∧KeepsWalks W1 W') →
   J [] W →
   CallsIn F n P g (#[.func (.yield l) #[] #[]]++lb) W fun e W'=>(∃ v,e = .returned v)∧∃ xs,S xs∧J xs W'
set_option maxRecDepth 100000 in
set_option maxHeartbeats 2000000 in
theorem appendSeqB_in (L:SlLaysZ.n11 P ρ) (F:Fence) (n:Nat) (h11:F.fn (ρ.f 11)) (hro:F.round=none) (hn:2≤n) (g:Nat) (lb:Array Value) (hFg:F.fn g) (eg:∀ args w,(callFunc g args).run P w = .ok (.enter g args) w)
 (S:List (List UInt8)→Prop) (N:Nat) (hN:N≤maxLen) (hNb:N * 16≤140737488355328) (w:World) (hseq:SeqGivesB F (n - 1) P g lb S N w) :
 CallsIn F n P (ρ.f 11) #[.slice none 0 0,.func (.func g) #[] lb] w fun e w'=>∃ (v:Value) (ss:List (List UInt8)),e = .returned v∧S ss∧w'.ownsRow w.heap.size (ρ.t 26) 1 v ss.length (ss.map Go.Proofs.encStr)∧(v = .slice none 0 0 ↔ ss=[])∧Below w.heap.size w w':=by
 have h1:1≤n:=by omega
 have mixed:=L.mixed; have t0:=L.t0; have a0:=L.a0; have z0:=L.z0; have v0:=L.v0; have t24:=L.t24; have a24:=L.a24; have z24:=L.z24; have v24:=L.v24; have t26:=L.t26; have a26:=L.a26; have z26:=L.z26; have v26:=L.v26; have t28:=L.t28; have a28:=L.a28; have z28:=L.z28; have v28:=L.v28
 have hne : ρ.t 24 ≠ ρ.t 26:=fun e=>by have h:=L.t24; rw [e,L.t26] at h; cases h
 have u0:=run_underlying L.t0; have u24:=run_underlying L.t24; have u26:=run_underlying L.t26; have u28:=run_underlying L.t28
 obtain ⟨_,_,FG⟩:=L.f11
 refine callsIn_of_wp_marks FG rfl h11 ?_ hro
 simp only [SlBodyZ.n11_ntmps ρ,List.size_toArray,List.length_cons,List.length_nil,Nat.reduceAdd,Nat.reduceSub,Array.replicate_succ,Array.replicate_zero,List.push_toArray,List.append_toArray,List.nil_append,List.cons_append]
 gi_wp2
 refine wpIn_rangeFunc ?_
 intro fn hfn
 rw [hro]
 obtain ⟨W0,hW0⟩:∃ W0,w.alloc (.cells #[.slice none 0 0] (ρ.t 24))=W0:=⟨_,rfl⟩
 have hs0:W0.heap.size=w.heap.size+1:=by rw [← hW0]; simp
 have hv0:W0.heap[w.heap.size]?=some (.cells #[.slice none 0 0] (ρ.t 24) (0,0)):=by rw [← hW0]; exact World.alloc_heap_new w _
 have hb0:Below w.heap.size w W0:=by rw [← hW0]; exact (Below.refl _ w).alloc (Nat.le_refl _) _
 rw [hW0]
 obtain ⟨W1,hW1⟩:∃ W1,(W0.alloc (.deferred (some []))).alloc (.loop (AnyZ.apRec ρ fn (.func (.func g) #[] lb) w.heap.size W0.heap.size .ready none))=W1:=⟨_,rfl⟩
 have hold:∀ k,k < W0.heap.size→W1.heap[k]?=W0.heap[k]?:=fun k hk=>by
  rw [← hW1]; exact (Below.heap_alloc _ _ k (by simp; omega)).trans (Below.heap_alloc _ _ k hk)
 have hb1:Below w.heap.size w W1:=by rw [← hW1]; exact (hb0.alloc hb0.size _).alloc (by have:=hb0.size; simp; omega) _
 have hs1:W1.heap.size=W0.heap.size+2:=by rw [← hW1]; simp
 have hM:AnyZ.ApAt ρ w fn (.func (.func g) #[] lb) w.heap.size (W0.heap.size+1) W0.heap.size [] W1 :=
  ⟨⟨_, (hold w.heap.size (by omega)).trans hv0, ⟨rfl, .inl ⟨rfl, rfl⟩⟩, by simp⟩,
   by rw [← hW1]; have:=World.alloc_heap_new (W0.alloc (.deferred (some []))) (.loop (AnyZ.apRec ρ fn (.func (.func g) #[] lb) w.heap.size W0.heap.size .ready none)); rwa [World.size_alloc] at this,
   by rw [← hW1]; exact (Below.heap_alloc _ _ _ (by simp)).trans (World.alloc_heap_new W0 _),hb1⟩
 refine ⟨W0.heap.size+1,[{ target := .collected W0.heap.size,args := #[] }],W1,{ target := .fn (.func g) lb,args := #[.func (.yield (W0.heap.size+1)) #[] #[]] },W1,g,
  #[.func (.yield (W0.heap.size+1)) #[] #[]]++lb,W1,?_,?_,?_,?_,fun _=>h1,?_⟩
 · rw [← hW1]; exact run_enterLoop_outer _ _ _ _ _
 · simp [resolve,go_sem]
 · intro f' hf'; simp [Target.leads] at hf'; subst hf'; exact hFg
 · simp [invoke,go_sem,eg]
 · refine (hseq (W0.heap.size+1) (AnyZ.ApAt ρ w fn (.func (.func g) #[] lb) w.heap.size (W0.heap.size+1) W0.heap.size) W1 hb1 (AnyZ.ap_abides ρ _ _ _ _ _ _ _ hb1.size) (fun s W h=>h.below)
    (fun pre x W hJ hl=>AnyZ.apYield { L with } F (n - 1 - 1) w fn hfn _ w.heap.size (W0.heap.size+1) W0.heap.size (by omega) (by omega) (by omega) (Nat.le_refl _) (by omega) N hN hNb pre x W hJ hl) hM).mono ?_
   rintro e W2 ⟨⟨v0,rfl⟩,ss,hS,h2⟩
   obtain ⟨v,hv,hrow,hnil⟩:=h2.box
   have hend:=run_endLoop (P:=P) h2.L (by simp [AnyZ.apRec])
   obtain ⟨W3,hW3⟩:∃ W3,W2.putObj (W0.heap.size+1) (.loop { AnyZ.apRec ρ fn (.func (.func g) #[] lb) w.heap.size W0.heap.size .ready none with state := .exhausted })=W3:=⟨_,rfl⟩
   rw [hW3] at hend
   have hg3:W2.grownBy W3 (some (W0.heap.size+1)):=by rw [← hW3]; exact grownBy_putObj_a _ _ _
   have hv3:W3.heap[w.heap.size]?=some (.cells #[v] (ρ.t 24) (0,0)):=by rw [← hW3]; exact (World.putObj_heap_other (by omega)).trans hv
   have hK3:W3.heap[W0.heap.size]?=some (.deferred (some [])):=by rw [← hW3]; exact (World.putObj_heap_other (by omega)).trans h2.K
   have hrow3:=hrow.kept hg3 (ownsRow_ne_a hrow h2.L (fun cur e=>by first | cases e | exact hne (Obj.cells.inj e).2.1))
   have hb3:Below w.heap.size w W3:=h2.below.grown hg3 h2.below.size (fun k e=>by cases e; omega)
   obtain ⟨hc3,hf3⟩:=cell_of_box_a hv3
   clear hW3
   refine ⟨none,W3,hend,?_⟩
   gi_wp2
   rw [← hs0]
   refine ⟨by simp,.inl ⟨_,_,rfl,run_takeDeferred hK3,?_⟩⟩
   exact ⟨_,results_tmp rfl _ _ _,v,ss,rfl,hS,hrow3.kept (grownBy_putObj_a _ _ _) (ownsRow_ne_a hrow3 hK3 (fun cur e=>by first | cases e | exact hne (Obj.cells.inj e).2.1)),hnil,hb3.grown (grownBy_putObj_a _ _ _) hb3.size (fun k e=>by cases e; omega)⟩
end
section
open Go.Shelf
def Tryz.laysSlN44_f42_ren:Go.Shelf.Ren:=⟨fun | 44=>42 | n=>n,fun | 25=>22 | 26=>9 | 3=>3 | 4=>4 | 0=>0 | n=>n,fun | n=>n⟩
theorem Tryz.laysSlN44_f42:Go.Proofs.SlLaysN.n44 Tryz.prog Tryz.laysSlN44_f42_ren := {
 mixed:=by kernel_rfl
 f44:=⟨Tryz.f42.name,by decide,Tryz.func42.trans (congrArg some (by kernel_rfl))⟩
 t0:=Tryz.underlying0
 a0:=Tryz.isAgg0
 z0:=Tryz.sizeOf0
 v0:=Tryz.zeroValue0
 t3:=Tryz.underlying3
 a3:=Tryz.isAgg3
 z3:=Tryz.sizeOf3
 v3:=Tryz.zeroValue3
 t4:=Tryz.underlying4
 a4:=Tryz.isAgg4
 z4:=Tryz.sizeOf4
 v4:=Tryz.zeroValue4
 t25:=Tryz.underlying22
 a25:=Tryz.isAgg22
 z25:=Tryz.sizeOf22
 v25:=Tryz.zeroValue22
 t26:=Tryz.underlying9
 a26:=Tryz.isAgg9
 z26:=Tryz.sizeOf9
 v26:=Tryz.zeroValue9
 i26:=by kernel_rfl }
open Go.RowKit Go.Lib Go.Sort in
theorem Tryz.slices_Compact_string (blk off cap:Nat) (zs:List (List UInt8)) (w:World) (hH:Holds encStr w blk off zs.toArray) (hsz:zs.length≤9223372036854775807) (hcap:zs.length≤cap) :
 Calls Tryz.prog 42 #[.slice (some ⟨blk,off,none⟩) zs.length cap] w fun e w'=>e = .returned (.slice (some ⟨blk,off,none⟩) (Lib.compact zs).length cap)∧∃ q,w'=putRow encStr (Sort.ahead w q) blk off (Lib.compact zs++List.replicate (zs.length - (Lib.compact zs).length) []).toArray:=AnyG.slices_Compact_string Tryz.laysSlN44_f42 blk off cap zs w hH hsz hcap
open Go.RowKit Go.Lib Go.Sort in
theorem Tryz.slices_Compact_string_empty (a:Option Addr) (cap:Nat) (w:World) :
 Calls Tryz.prog 42 #[.slice a 0 cap] w fun e w'=>e = .returned (.slice a 0 cap)∧w'=w:=AnyG.slices_Compact_string_empty Tryz.laysSlN44_f42 a cap w
def Tryz.laysSlM6_f59_ren:Go.Shelf.Ren:=⟨fun | 6=>59 | 8=>81 | 9=>80 | 19=>107 | 20=>108 | 21=>99 | 22=>100 | 23=>101 | 24=>102 | 25=>103 | 26=>104 | 27=>64 | 28=>105 | 29=>106 | 36=>121 | 31=>122 | 32=>123 | 37=>124 | 38=>125 | 39=>82 | 41=>132 | n=>n,fun | 27=>22 | 29=>9 | 3=>3 | 32=>75 | 26=>22 | 0=>0 | 44=>127 | 46=>129 | 4=>4 | 36=>121 | 35=>120 | 41=>61 | 5=>5 | 9=>9 | 53=>139 | 57=>143 | 63=>148 | 64=>149 | n=>n,fun | n=>n⟩
theorem Tryz.laysSlM6_f59:Go.Proofs.SlLaysM.n6 Tryz.prog Tryz.laysSlM6_f59_ren := {
 mixed:=by kernel_rfl
 f6:=⟨Tryz.f59.name,by decide,Tryz.func59.trans (congrArg some (by kernel_rfl))⟩
 f8:=Tryz.func81.trans (congrArg some (by kernel_rfl))
 f9:=⟨Tryz.f80.name,by decide,Tryz.func80.trans (congrArg some (by kernel_rfl))⟩
 f19:=Tryz.func107.trans (congrArg some (by kernel_rfl))
 f20:=Tryz.func108.trans (congrArg some (by kernel_rfl))
 f21:=⟨Tryz.f99.name,by decide,Tryz.func99.trans (congrArg some (by kernel_rfl))⟩
 f22:=⟨Tryz.f100.name,by decide,Tryz.func100.trans (congrArg some (by kernel_rfl))⟩
 f23:=⟨Tryz.f101.name,by decide,Tryz.func101.trans (congrArg some (by kernel_rfl))⟩
 f24:=⟨Tryz.f102.name,by decide,Tryz.func102.trans (congrArg some (by kernel_rfl))⟩
 f25:=⟨Tryz.f103.name,by decide,Tryz.func103.trans (congrArg some (by kernel_rfl))⟩
 f26:=⟨Tryz.f104.name,by decide,Tryz.func104.trans (congrArg some (by kernel_rfl))⟩
 f27:=⟨Tryz.f64.name,by decide,Tryz.func64.trans (congrArg some (by kernel_rfl))⟩
 f28:=⟨Tryz.f105.name,by decide,Tryz.func105.trans (congrArg some (by kernel_rfl))⟩
 f29:=⟨Tryz.f106.name,by decide,Tryz.func106.trans (congrArg some (by kernel_rfl))⟩
 f31:=Tryz.func122.trans (congrArg some (by kernel_rfl))
 f32:=Tryz.func123.trans (congrArg some (by kernel_rfl))
 f36:=⟨Tryz.f121.name,by decide,Tryz.func121.trans (congrArg some (by kernel_rfl))⟩
 f37:=⟨Tryz.f124.name,by decide,Tryz.func124.trans (congrArg some (by kernel_rfl))⟩
 f38:=⟨Tryz.f125.name,by decide,Tryz.func125.trans (congrArg some (by kernel_rfl))⟩
 f39:=⟨Tryz.f82.name,by decide,Tryz.func82.trans (congrArg some (by kernel_rfl))⟩
 f41:=⟨Tryz.f132.name,by decide,Tryz.func132.trans (congrArg some (by kernel_rfl))⟩
 t0:=Tryz.underlying0
 a0:=Tryz.isAgg0
 z0:=Tryz.sizeOf0
 v0:=Tryz.zeroValue0
 t3:=Tryz.underlying3
 a3:=Tryz.isAgg3
 z3:=Tryz.sizeOf3
 v3:=Tryz.zeroValue3
 t4:=Tryz.underlying4
 a4:=Tryz.isAgg4
 z4:=Tryz.sizeOf4
 v4:=Tryz.zeroValue4
 t5:=Tryz.underlying5
 a5:=Tryz.isAgg5
 z5:=Tryz.sizeOf5
 v5:=Tryz.zeroValue5
 t9:=Tryz.underlying9
 a9:=Tryz.isAgg9
 z9:=Tryz.sizeOf9
 v9:=Tryz.zeroValue9
 t26:=Tryz.underlying22
 a26:=Tryz.isAgg22
 z26:=Tryz.sizeOf22
 v26:=Tryz.zeroValue22
 t27:=Tryz.underlying22
 a27:=Tryz.isAgg22
 z27:=Tryz.sizeOf22
 v27:=Tryz.zeroValue22
 t29:=Tryz.underlying9
 a29:=Tryz.isAgg9
 z29:=Tryz.sizeOf9
 v29:=Tryz.zeroValue9
 t32:=Tryz.underlying75
 a32:=Tryz.isAgg75
 z32:=Tryz.sizeOf75
 v32:=Tryz.zeroValue75
 t35:=Tryz.underlying120
 a35:=Tryz.isAgg120
 z35:=Tryz.sizeOf120
 v35:=Tryz.zeroValue120
 t36:=Tryz.underlying121
 a36:=Tryz.isAgg121
 z36:=Tryz.sizeOf121
 v36:=Tryz.zeroValue121
 t41:=Tryz.underlying61
 a41:=Tryz.isAgg61
 z41:=Tryz.sizeOf61
 v41:=Tryz.zeroValue61
 t44:=Tryz.underlying127
 a44:=Tryz.isAgg127
 z44:=Tryz.sizeOf127
 v44:=Tryz.zeroValue127
 t46:=Tryz.underlying129
 a46:=Tryz.isAgg129
 z46:=Tryz.sizeOf129
 v46:=Tryz.zeroValue129
 t53:=Tryz.underlying139
 a53:=Tryz.isAgg139
 z53:=Tryz.sizeOf139
 v53:=Tryz.zeroValue139
 t57:=Tryz.underlying143
 a57:=Tryz.isAgg143
 z57:=Tryz.sizeOf143
 v57:=Tryz.zeroValue143
 t63:=Tryz.underlying148
 a63:=Tryz.isAgg148
 z63:=Tryz.sizeOf148
 v63:=Tryz.zeroValue148
 t64:=Tryz.underlying149
 a64:=Tryz.isAgg149
 z64:=Tryz.sizeOf149
 v64:=Tryz.zeroValue149 }
open Go.Sort Go.RowKit in
theorem Tryz.slices_Sort_string (blk off cap:Nat) (ss:List (List UInt8)) (w:World) (hH:Holds encStr w blk off ss.toArray) (hblk:blk < w.heap.size) (hsz:ss.length < 4611686018427387904) :
 Calls Tryz.prog 59 #[.slice (some ⟨blk,off,none⟩) ss.length cap] w fun e w' =>
  e = .returned (.tuple #[])∧∃ n os,w'=grow (putRow encStr (Sort.ahead w n) blk off (ss.mergeSort fun x y=>decide (x≤y)).toArray) os:=AnyM.slices_Sort_string Tryz.laysSlM6_f59 blk off cap ss w hH hblk hsz
open Go.RowKit Go.Sort in
theorem Tryz.slices_Sort_string_none (p:Option Addr) (cap:Nat) (w:World) :
 Calls Tryz.prog 59 #[.slice p 0 cap] w fun e w'=>e = .returned (.tuple #[])∧w'=w:=AnyM.slices_Sort_string_none Tryz.laysSlM6_f59 p cap w
end
end Go.Proofs
namespace Go.Proofs
open Go.Shelf
def Tryz.laysZ11_ren:Go.Shelf.Ren:=⟨fun | 11=>79 | n=>n,fun | 24=>22 | 26=>9 | 28=>53 | 0=>0 | 33=>60 | 4=>4 | n=>n,fun | n=>n⟩
theorem Tryz.laysZ11:Go.Proofs.SlLaysZ.n11 Tryz.prog Tryz.laysZ11_ren := {
 mixed:=by kernel_rfl
 f11:=⟨Tryz.f79.name,by decide,Tryz.func79.trans (congrArg some (by kernel_rfl))⟩
 t0:=Tryz.underlying0
 a0:=Tryz.isAgg0
 z0:=Tryz.sizeOf0
 v0:=Tryz.zeroValue0
 t24:=Tryz.underlying22
 a24:=Tryz.isAgg22
 z24:=Tryz.sizeOf22
 v24:=Tryz.zeroValue22
 t26:=Tryz.underlying9
 a26:=Tryz.isAgg9
 z26:=Tryz.sizeOf9
 v26:=Tryz.zeroValue9
 t28:=Tryz.underlying53
 a28:=Tryz.isAgg53
 z28:=Tryz.sizeOf53
 v28:=Tryz.zeroValue53
 i26:=by kernel_rfl }
namespace Zy
open Go Go.Zam Go.Proofs Go.RowKit Go.Shelf
attribute [local go_sem] Oper.semAt_some
set_option maxRecDepth 100000 in
set_option maxHeartbeats 2000000 in
theorem values1_in (w:World) (F:Fence) (n:Nat) (hf:F.fn 60) (hro:F.round=none) (hn:1≤n) (l Bs b off len cap:Nat) (zs:List (List UInt8)) (hlen:len=zs.length) (hreach:len≤1048576) (hb:b < w.heap.size) (hBs:Bs < w.heap.size) (J:List (List UInt8)→World→Prop)
 (hJB:∀ s W,J s W→Below w.heap.size w W)
 (hY:∀ pre x W,J pre W→pre.length < len→YieldAt F (n - 1) Tryz.prog l #[encStr x] W fun e W'=>e = .returned (.bool true)∧J (pre++[x]) W'∧KeepsWalks W W')
 (W:World) (hB:w.cell? ⟨Bs,0,none⟩=some (.slice (some ⟨b,off,none⟩) len cap)) (hc:∀ j,j < len→w.cell? ⟨b,off+j,none⟩=some (encStr (zs[j]?.getD []))) (h0:J [] W) :
 CallsIn F n Tryz.prog 60 #[.func (.yield l) #[] #[],.pointer (some ⟨Bs,0,none⟩)] W fun e W'=>(∃ v,e = .returned v)∧J zs W':=by
 have hBs':=((hJB _ _ h0).cell (p:=⟨Bs,0,none⟩) hBs).trans hB
 refine callsIn_of_wp Tryz.func60 rfl hf ?_ hro
 simp only [Tryz.ntmps60,List.size_toArray,List.length_cons,List.length_nil,Nat.reduceAdd,Nat.reduceSub,Array.replicate_succ,Array.replicate_zero,List.push_toArray,List.append_toArray,List.nil_append,List.cons_append]
 gi_wp2
 gi_loopw [7] (fun i wr=>∃ k:Nat,k≤len∧i = .int .i64 k∧J (zs.take k) wr)
  (fun i _=>len - (intOf i).toNat)
 case atStart=>exact ⟨0,Nat.zero_le _,rfl,h0⟩
 case round =>
  obtain ⟨k,hk,rfl,hJs⟩:=hrel
  have hcx:k < len→wr.cell? ⟨b,off+k,none⟩=some (encStr (zs[k]?.getD [])):=fun h=>((hJB _ _ hJs).cell (p:=⟨b,off+k,none⟩) hb).trans (hc k h)
  by_cases hlt:k < len
  · obtain ⟨fn,tmps,assign,body,hy,hR⟩:=hY _ (zs[k]?.getD []) wr hJs (by simp; omega)
    have hcx':=hcx hlt
    have hst:zs.take (k+1)=zs.take k++[zs[k]?.getD []]:=by
     have h1:k < zs.length:=by omega
     rw [List.take_succ_eq_append_getElem h1]; simp [h1]
    clear hcx
    generalize zs[k]?.getD []=x at hcx' hy hR hst
    gi_wp2
    refine hR.mono ?_
    rintro e W3 ⟨rfl,hJ3,hk3⟩
    gi_wp2
    go_roundw
    case rel=>exact ⟨k+1,by omega,by simp,by rw [hst]; exact hJ3⟩
    case measure=>simp [intOf]; omega
  · obtain rfl:k=len:=by omega
    gi_wp2
    go_end0
    rw [List.take_of_length_le (by omega)] at hJs
    exact ⟨⟨_,rfl⟩,hJs⟩
set_option maxRecDepth 100000 in
set_option maxHeartbeats 1000000 in
theorem values0_in (F:Fence) (n:Nat) (hf:F.fn 60) (hro:F.round=none) (l Bs:Nat) (p:Option Addr) (cap:Nat) (J:List (List UInt8)→World→Prop) (W:World) (hBs:W.cell? ⟨Bs,0,none⟩=some (.slice p 0 cap)) (h0:J [] W) :
 CallsIn F n Tryz.prog 60 #[.func (.yield l) #[] #[],.pointer (some ⟨Bs,0,none⟩)] W fun e W'=>(∃ v,e = .returned v)∧J [] W':=by
 refine callsIn_of_wp Tryz.func60 rfl hf ?_ hro
 simp only [Tryz.ntmps60,List.size_toArray,List.length_cons,List.length_nil,Nat.reduceAdd,Nat.reduceSub,Array.replicate_succ,Array.replicate_zero,List.push_toArray,List.append_toArray,List.nil_append,List.cons_append]
 gi_wp2
 gi_loopw [7] (fun i wr=>i = .int .i64 0∧J [] wr) (fun _ _=>0)
 case atStart=>exact ⟨rfl,h0⟩
 case round =>
  obtain ⟨rfl,hJs⟩:=hrel
  gi_wp2
  go_end0
  exact ⟨⟨_,rfl⟩,hJs⟩
theorem collectOk:CollectStr Tryz.prog 79 60:=fun w Bs sv L hB hl hsv=>by
 have hBs:Bs < w.heap.size:=World.block_lt_of_cell? w ⟨Bs,0,none⟩ hB
 have hseq:SeqGivesB Fence.wide 1 Tryz.prog 60 #[.pointer (some ⟨Bs,0,none⟩)] (fun ss=>ss=L) L.length w:=fun l J W hW _ hJB hY h0=>by
  by_cases hL:L=[]
  · subst hL
    obtain ⟨p,cap,rfl⟩:∃ p cap,sv = .slice p 0 cap:=by
     rcases hsv with ⟨rfl,-⟩ | ⟨ad,cap,rfl,-⟩
     · exact ⟨_,_,rfl⟩
     · exact ⟨_,_,rfl⟩
    refine (values0_in Fence.wide 1 trivial rfl l Bs p cap J W ((hW.cell (p:=⟨Bs,0,none⟩) hBs).trans hB) h0).mono ?_
    rintro e W' ⟨h1,h2⟩
    exact ⟨h1,[],rfl,h2⟩
  · rcases hsv with ⟨-,h⟩ | ⟨⟨b,off,sp⟩,cap,rfl,hc⟩
    · exact absurd h hL
    obtain ⟨rfl,hc⟩:=hc hL
    have hpos:=List.length_pos_iff.2 hL
    have hb:b < w.heap.size:=World.block_lt_of_cell? w ⟨b,off+0,none⟩ (hc 0 _ (List.getElem?_eq_getElem hpos))
    refine (values1_in w Fence.wide 1 trivial rfl (Nat.le_refl _) l Bs b off L.length cap L rfl hl hb hBs J hJB (fun pre x W h1 h2=>hY pre x W h1 h2) W hB (fun j hj => ?_) h0).mono ?_
    · rw [hc j _ (List.getElem?_eq_getElem hj)]
      simp [hj]
    rintro e W' ⟨h1,h2⟩
    exact ⟨h1,L,rfl,h2⟩
 refine (callsIn_wide.1 (appendSeqB_in Tryz.laysZ11 Fence.wide 2 trivial rfl (Nat.le_refl _) 60 _ trivial (enters_of Tryz.func60 (by kernel_rfl) rfl) (fun ss=>ss=L) L.length (by simp [maxLen]; omega) (by omega) w hseq)).mono ?_
 rintro e w' ⟨v,ss,rfl,rfl,h1,h2,h3⟩
 exact ⟨v,_,rfl,h1,h2,h3⟩
theorem sortOk:SortStr Tryz.prog 59:=fun blk off cap ss w hH hblk hsz=>Tryz.slices_Sort_string blk off cap ss w hH hblk hsz
theorem sort0Ok (p:Option Addr) (cap:Nat) (w:World):Calls Tryz.prog 59 #[.slice p 0 cap] w fun e w'=>e = .returned (.tuple #[])∧w'=w:=Tryz.slices_Sort_string_none p cap w
theorem compactOk:CompactStr Tryz.prog 42:=⟨fun blk off cap ss w hH h1 h2=>Tryz.slices_Compact_string blk off cap ss w hH h1 h2,fun a cap w=>Tryz.slices_Compact_string_empty a cap w⟩
end Zy
end Go.Proofs
namespace Go.Proofs.Zy
section
open Go Go.Zam Go.Proofs Classical
theorem ycf14:compF Tryz.prog [] Tryz.f14=some (irTyFlows 27 14 25):=by kernel_rfl
theorem yh14:Has Tryz.prog 14 (irTyFlows 27 14 25):=⟨_,Tryz.func14,ycf14⟩
theorem ycf19:compF Tryz.prog [28] Tryz.f19=some (irTyRecord 41 40 43 42 44 25):=by kernel_rfl
theorem yh19:HasT Tryz.prog [28] 19 (irTyRecord 41 40 43 42 44 25):=⟨_,Tryz.func19,ycf19⟩
theorem ycf21:compF Tryz.prog [4000000] Tryz.f21=some (irTyFunc 46 25):=by kernel_rfl
theorem yh21:HasT Tryz.prog [4000000] 21 (irTyFunc 46 25):=⟨_,Tryz.func21,ycf21⟩
theorem ycf23:compF Tryz.prog [] Tryz.f23=some (irTyNeeds 34 25):=by kernel_rfl
theorem yh23:Has Tryz.prog 23 (irTyNeeds 34 25):=⟨_,Tryz.func23,ycf23⟩
theorem ycf25:compF Tryz.prog [] Tryz.f25=some (irTRight 25 25 48):=by kernel_rfl
theorem yh25:Has Tryz.prog 25 (irTRight 25 25 48):=⟨_,Tryz.func25,ycf25⟩
theorem ycf26:compF Tryz.prog [] Tryz.f26=some (irTyDepth 26 25):=by kernel_rfl
theorem yh26:Has Tryz.prog 26 (irTyDepth 26 25):=⟨_,Tryz.func26,ycf26⟩
theorem ycf27:compF Tryz.prog [] Tryz.f27=some (irTyField 49 25):=by kernel_rfl
theorem yh27:Has Tryz.prog 27 (irTyField 49 25):=⟨_,Tryz.func27,ycf27⟩
theorem ycf33:compF Tryz.prog [] Tryz.f33=some (irTyParse 52 53 25 66):=by kernel_rfl
theorem yh33:Has Tryz.prog 33 (irTyParse 52 53 25 66):=⟨_,Tryz.func33,ycf33⟩
theorem ycf34:compF Tryz.prog [] Tryz.f34=some (irTySame 54 47 34 25):=by kernel_rfl
theorem yh34:Has Tryz.prog 34 (irTySame 54 47 34 25):=⟨_,Tryz.func34,ycf34⟩
theorem ycf39:compF Tryz.prog [] Tryz.f39=some (irTSmall 25 57):=by kernel_rfl
theorem ycf57:compF Tryz.prog [] Tryz.f57=some (irTSize 25 57):=by kernel_rfl
theorem ycf17:compF Tryz.prog [] Tryz.f17=some (irTLight 25 39):=by kernel_rfl
theorem ycf40:compF Tryz.prog [] Tryz.f40=some (irSlSorted 58 59):=by kernel_rfl
theorem yh40:Has Tryz.prog 40 (irSlSorted 58 59):=⟨_,Tryz.func40,ycf40⟩
theorem ycf41:compF Tryz.prog [] Tryz.f41=some (irSlValues 60 22):=by kernel_rfl
theorem yh41:Has Tryz.prog 41 (irSlValues 60 22):=⟨_,Tryz.func41,ycf41⟩
theorem ycf46:compF Tryz.prog [2,5] Tryz.f46=some (irClT 25):=by kernel_rfl
theorem yh46:HasT Tryz.prog [2,5] 46 (irClT 25):=⟨_,Tryz.func46,ycf46⟩
theorem ycf47:compF Tryz.prog [] Tryz.f47=some (irTyEqF 25):=by kernel_rfl
theorem yh47:Has Tryz.prog 47 (irTyEqF 25):=⟨_,Tryz.func47,ycf47⟩
theorem ycf49:compF Tryz.prog [] Tryz.f49=some (irSlBins 64 65):=by kernel_rfl
theorem yh49:Has Tryz.prog 49 (irSlBins 64 65):=⟨_,Tryz.func49,ycf49⟩
theorem ycf53:compF Tryz.prog [] Tryz.f53=some (irTyOf 77 26 66 25):=by kernel_rfl
theorem yh53:Has Tryz.prog 53 (irTyOf 77 26 66 25):=⟨_,Tryz.func53,ycf53⟩
theorem ycf54:compF Tryz.prog [] Tryz.f54=some (irSlEqS):=by kernel_rfl
theorem yh54:Has Tryz.prog 54 (irSlEqS):=⟨_,Tryz.func54,ycf54⟩
theorem ycf64:compF Tryz.prog [] Tryz.f64=some (irCmpLess 82):=by kernel_rfl
theorem yh64:Has Tryz.prog 64 (irCmpLess 82):=⟨_,Tryz.func64,ycf64⟩
theorem ycf65:compF Tryz.prog [] Tryz.f65=some (irSlIsNaN):=by kernel_rfl
theorem yh65:Has Tryz.prog 65 (irSlIsNaN):=⟨_,Tryz.func65,ycf65⟩
theorem ycf82:compF Tryz.prog [] Tryz.f82=some (irSlIsNaN):=by kernel_rfl
theorem yh82:Has Tryz.prog 82 (irSlIsNaN):=⟨_,Tryz.func82,ycf82⟩
theorem ycf77:compF Tryz.prog [29] Tryz.f77=some (irTyOfN 98 77 66 25 9):=by kernel_rfl
theorem yh77:HasT Tryz.prog [29] 77 (irTyOfN 98 77 66 25 9):=⟨_,Tryz.func77,ycf77⟩
theorem ycf98:compF Tryz.prog [4,5] Tryz.f98=some (irTyRecN 77 19 66 25 9):=by kernel_rfl
theorem yh98:HasT Tryz.prog [4,5] 98 (irTyRecN 77 19 66 25 9):=⟨_,Tryz.func98,ycf98⟩
theorem ycf58:compF Tryz.prog [] Tryz.f58=some (irSlCollect 79):=by kernel_rfl
theorem yh58:Has Tryz.prog 58 (irSlCollect 79):=⟨_,Tryz.func58,ycf58⟩
theorem ycf44:compF Tryz.prog [] Tryz.f44=some (irSlIdx):=by kernel_rfl
theorem yh44:Has Tryz.prog 44 (irSlIdx):=⟨_,Tryz.func44,ycf44⟩
theorem ycf74:compF Tryz.prog [] Tryz.f74=some (irPNow 95):=by kernel_rfl
theorem yh74:Has Tryz.prog 74 (irPNow 95):=⟨_,Tryz.func74,ycf74⟩
theorem ycf75:compF Tryz.prog [] Tryz.f75=some (irPFail):=by kernel_rfl
theorem yh75:Has Tryz.prog 75 (irPFail):=⟨_,Tryz.func75,ycf75⟩
theorem ycf120:compF Tryz.prog [] Tryz.f120=some (irPIs 74 95):=by kernel_rfl
theorem yh120:Has Tryz.prog 120 (irPIs 74 95):=⟨_,Tryz.func120,ycf120⟩
theorem ycf91:compF Tryz.prog [] Tryz.f91=some (irPTook 120):=by kernel_rfl
theorem yh91:Has Tryz.prog 91 (irPTook 120):=⟨_,Tryz.func91,ycf91⟩
theorem ycf95:compF Tryz.prog [] Tryz.f95=some (irPWant 91 75):=by kernel_rfl
theorem yh95:Has Tryz.prog 95 (irPWant 91 75):=⟨_,Tryz.func95,ycf95⟩
theorem ycf94:compF Tryz.prog [] Tryz.f94=some (irPWord 74 75 95):=by kernel_rfl
theorem yh94:Has Tryz.prog 94 (irPWord 74 75 95):=⟨_,Tryz.func94,ycf94⟩
theorem ycf90:compF Tryz.prog [10] Tryz.f90=some (irPNode 66):=by kernel_rfl
theorem yh90:HasT Tryz.prog [10] 90 (irPNode 66):=⟨_,Tryz.func90,ycf90⟩
theorem ycf97:compF Tryz.prog [] Tryz.f97=some (irPDone 66):=by kernel_rfl
theorem yh97:Has Tryz.prog 97 (irPDone 66):=⟨_,Tryz.func97,ycf97⟩
theorem ycf96:compF Tryz.prog [] Tryz.f96=some (irPPut 66):=by kernel_rfl
theorem yh96:Has Tryz.prog 96 (irPPut 66):=⟨_,Tryz.func96,ycf96⟩
theorem ycf92:compF Tryz.prog [] Tryz.f92=some (irPList 91 96 95):=by kernel_rfl
theorem yh92:Has Tryz.prog 92 (irPList 91 96 95):=⟨_,Tryz.func92,ycf92⟩
theorem ycf73:compF Tryz.prog [] Tryz.f73=some (irPKind 90 91 93 92 95 73 96 75 97 90 66):=by kernel_rfl
theorem yh73:Has Tryz.prog 73 (irPKind 90 91 93 92 95 73 96 75 97 90 66):=⟨_,Tryz.func73,ycf73⟩
theorem ycf93:compF Tryz.prog [] Tryz.f93=some (irPTField 90 94 95 73 96 97 66):=by kernel_rfl
theorem yh93:Has Tryz.prog 93 (irPTField 90 94 95 73 96 97 66):=⟨_,Tryz.func93,ycf93⟩
theorem ycf52:compF Tryz.prog [] Tryz.f52=some (irPType 72 73 74 75 76 66 92):=by kernel_rfl
theorem yh52:Has Tryz.prog 52 (irPType 72 73 74 75 76 66 92):=⟨_,Tryz.func52,ycf52⟩
theorem ycf76:compF Tryz.prog [] Tryz.f76=some (irTDepth 76 66):=by kernel_rfl
theorem yh76:Has Tryz.prog 76 (irTDepth 76 66):=⟨_,Tryz.func76,ycf76⟩
theorem ycf43:compF Tryz.prog [1000005] Tryz.f43=some (irCloneM 1 16 9):=by kernel_rfl
theorem yh43:HasT Tryz.prog [1000005] 43 (irCloneM 1 16 9):=⟨_,Tryz.func43,ycf43⟩
theorem kSame:callOk Tryz.prog 34=true:=by kernel_rfl
theorem sameOk (v:T) (hv:v.Fit 1048576):SameT Tryz.prog 34 v:=Has.tySame yh34 yh54 yh47 kSame v hv
theorem needsOk (v w:T) (hv:v.Fit 1048576) (H:Hp):ACall Tryz.prog 23 [v.a,w.a] H (fun r H'=>r = .d (.bool (decide (w.st.k ≠ 0∧v.st ≠ w.st)))∧H'=H):=Has.tyNeeds yh23 v w (sameOk v hv) H
theorem lessOk (a b:Str') (H:Hp):ACall Tryz.prog 64 [.d (.str a),.d (.str b)] H (fun r H'=>r = .d (.bool (Op.bytesLess a b))∧H'=H):=Has.cmpLess yh64 yh82 a b H
theorem fieldOk:FieldT Tryz.prog 27:=Has.tyField yh27 (fun z ns x hi hl H=>Has.slBins yh49 lessOk yh65 z ns x hi hl H)
theorem flowsOk (v w:T) (hv:v.Fit 1048576) (hw:w.Fit 1048576) (rv:v.st.Rt) (rw_:w.st.Rt):FlowsT Tryz.prog 14 v w:=Has.tyFlows yh14 fieldOk _ v w (Nat.le_refl _) hv hw rv rw_
theorem rRightOk (v:T) (hv:v.Fit 1048576):RightT Tryz.prog 25 v:=Has.rRight yh25 risNameOk v hv
theorem sizeOk (v:T) (hv:v.Fit 1048576) (m d:Int) (H:Hp):ACall Tryz.prog 57 [v.a,.d (.int .i64 m),.d (.int .i64 d)] H (fun r H'=>(∃ c:Int,r = .d (.int .i64 c))∧H'=H):=tsize_acall Tryz.func57 ycf57 v hv m d H
theorem smallOk (v:T) (hv:v.Fit 1048576) (m d:Int) (H:Hp):ACall Tryz.prog 39 [v.a,.d (.int .i64 m),.d (.int .i64 d)] H (fun r H'=>(∃ c:Bool,r = .d (.bool c))∧H'=H):=tsmall_acall Tryz.func39 ycf39 sizeOk v hv m d H
theorem lightOk (v:T) (hv:v.Fit 1048576) (H:Hp):ACall Tryz.prog 17 [v.a] H (fun r H'=>(∃ c:Bool,r = .d (.bool c))∧H'=H):=tlight_acall Tryz.func17 ycf17 smallOk v hv H
theorem sortedOk {L:List Str'} (hl:L.length≤1048576) {H:Hp} {i bt:Nat} {z:Bool} (hi:H[i]?=some (.box bt [.d (.sl z 1 (L.map Go.Zam.encStr))])):ACall Tryz.prog 40 [.fn (.func 60) [] [.ptr i 0]] H (fun r H'=>r = .d (.sl L.isEmpty 1 ((msort L).map Go.Zam.encStr))∧H'=H):=Has.slSorted yh40 yh58 collectOk sortOk sort0Ok hl hi
theorem recordOk:RecT Tryz.prog 19:=Has.tyRecord (fa:=0) (fso:=0) yh19 yh41 sortedOk yh43 compactOk yh44
theorem funcOk (v:T) (z:Bool) (ps:List T) (hb:(ps.length+1) * 56≤140737488355328) (H:Hp):ACall Tryz.prog 21 [v.a,.d (.sl z 3 (ps.map T.enc))] H (fun r H'=>r=(T.fn v z ps).a∧H'=H):=Has.tyFunc yh21 yh46 v z ps hb H
theorem tDepthOk (v:T) (hv:v.Fit 1048576) (hd:v.dep≤1125899906842624) (H:Hp):ACall Tryz.prog 26 [v.a] H (fun r H'=>r = .d (.int .i64 (v.dep:Int))∧H'=H):=Has.tyDepth yh26 v hv hd H
theorem ofNOk (n:N) (hn:n.size≤1048576):OfT Tryz.prog 77 n:=(Has.tyOfN yh77 yh98 recordOk n hn).1
def F:PF := { now:=74,fail:=75,is:=120,took:=91,want:=95,word:=94,node:=90,done:=97,put:=96,list:=92,file:=0,use_:=0,def_:=0,params:=0,param:=0,typed:=0,kind:=73,tfield:=93,block:=0,stmt:=0,sets:=0,expr:=0,with_:=0,sum:=0,term:=0,post:=0,atom:=0,entry:=0,tn:=66,tt:=95,tp:=92,tb:=90 }
theorem hasK:KHas Tryz.prog F where
 now:=yh74
 fail:=yh75
 is:=yh120
 took:=yh91
 want:=yh95
 word:=yh94
 node:=yh90
 done:=yh97
 put:=yh96
 list:=yh92
 kind:=yh73
 tfield:=yh93
 kTField:=by kernel_rfl
 kKind:=by kernel_rfl
theorem typeOk {H0:Hp} (hG:TabsG 1 2 3 4 H0) (s:Bs) (hs:s.length≤1048576) (H:Hp) (hH:Pre0 H0 H):ACall Tryz.prog 52 [.d (.str s)] H (fun r H'=>r = .tup [(typeO s).1.v,.d (.int .i64 (typeO s).2)]∧H'=H):=Has.type_ (F:=F) yh52 hasK yh76 (fun s hs H hH=>lexOk hG s hs H hH) s hs H hH
theorem tyOfOk (n:N) (hn:n.size≤1048576) (hw:n.Wd 1048576) (H:Hp):ACall Tryz.prog 53 [n.v] H (fun r H'=>r = .tup [n.typ.1.a,.d (.int .i64 n.typ.2)]∧H'=H):=Has.tyOf yh53 n (ofNOk n hn) (fun H=>tDepthOk _ (N.ty_ok n hn hw).1.1 (by have:=(N.ty_ok n hn hw).1.2; omega) H) H
theorem tyParseOk {H0:Hp} (hG:TabsG 1 2 3 4 H0) (s:Bs) (hs:s.length≤1048576) (H:Hp) (hH:Pre0 H0 H):ACall Tryz.prog 33 [.d (.str s)] H (fun r H'=>r = .tup [(typO s).1.a,.d (.int .i64 (typO s).2)]∧H'=H):=Has.tyParse yh33 s H hH (fun H hH=>typeOk hG s hs H hH) (fun H=>tyOfOk _ (typeO_ok s hs).1 (typeO_ok s hs).2 H)
end
section
open Go Go.Zam Go.Proofs Classical
theorem ycf12:compF Tryz.prog [] Tryz.f12=some (irTFits 17 25 25):=by kernel_rfl
theorem yh12:Has Tryz.prog 12 (irTFits 17 25 25):=⟨_,Tryz.func12,ycf12⟩
theorem ycf13:compF Tryz.prog [] Tryz.f13=some (irTAwake 33 14 25):=by kernel_rfl
theorem yh13:Has Tryz.prog 13 (irTAwake 33 14 25):=⟨_,Tryz.func13,ycf13⟩
theorem fitsOk:FitsT Tryz.prog 12:=fun l hl hF z H=>Has.tFits yh12 l hl (fun v hv H=>lightOk v (hF v hv) H) (fun v hv=>rRightOk v (hF v hv)) z H
theorem awakeOk {H0:Hp} (hG:TabsG 1 2 3 4 H0):AwakeT Tryz.prog H0 13:=Has.tAwake yh13 (fun s hs H hH=>tyParseOk hG s hs H hH) flowsOk
end
section
open Go Go.Zam Go.Proofs Classical
theorem ycf6:compF Tryz.prog [10000009,10000010] Tryz.f6=some (irLNeeds 12 13 23 14 21 25):=by kernel_rfl
theorem yh6:HasT Tryz.prog [10000009,10000010] 6 (irLNeeds 12 13 23 14 21 25):=⟨_,Tryz.func6,ycf6⟩
theorem lNeedsOk {H0:Hp} (hG:TabsG 1 2 3 4 H0) (v w u:T) (hv:v.Fit 1048576) (hw:w.Fit 1048576) (hu:u.Fit 1048576) (H:Hp) (hH:Pre0 H0 H):ACall Tryz.prog 6 [v.a,w.a,u.a] H (fun r H'=>r = .d (.bool true)∧H'=H):=HasT.lNeeds yh6 fitsOk (awakeOk hG) flowsOk (fun v w hv H=>needsOk v w hv H) funcOk v w u hv hw hu H hH
end
end Go.Proofs.Zy
