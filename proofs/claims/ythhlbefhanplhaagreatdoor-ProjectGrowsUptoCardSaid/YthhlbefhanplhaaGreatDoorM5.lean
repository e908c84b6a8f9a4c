/-
  Texts of one proof, one behind the other.
-/
import Derived.Test.YthhlbefhanplhaaGreatDoorM4
set_option linter.all false
set_option maxRecDepth 100000
set_option maxHeartbeats 4000000
namespace Go.Zam
def irPNow (t1:Nat):IFn:=⟨24,[.cell 2 4 true],Jq [Jy 2 t1 [J0,J0,JS,JS]] (.seq (.seq (.ops [Jm 3 0,Jn 4 3,Jf 5 1 4,Jl 6 5,Jm 7 0,Jn 8 7,Jf 9 0 8,Jl 10 9,Jh 11 10,Jb 12 .lss 6 11] true) (.cond (.t 12) (.seq (.ops [Jm 13 0,Jn 14 13,Jf 15 0 14,Jl 16 15,Jm 17 0,Jn 18 17,Jf 19 1 18,Jl 20 19,JA 21 4 16 20,JL 22 4 21,Js 4 2 22] true) .ret) .skip)) (Jq [Jp 23 (.build [J0,J0,JS,JS] []),Js 4 2 23] .ret))⟩
def irPFail :IFn:=⟨20,[],Jk [Jm 4 0,Jn 5 4,Jf 6 2 5,Jl 7 6,JB 8 .eql 7 0] 8 (Jz [Jm 9 0,Jm 10 0,Jm 11 1,Jm 12 0,Jn 13 12,Jf 14 1 13,Jl 15 14,Jn 16 9,Jf 17 2 16,Js 1 17 11,Jn 18 10,Jf 19 3 18,Js 1 19 15]) .skip⟩
def irPIs (c1 t1:Nat):IFn:=⟨22,[.t 4],Jq [Jp 4 (.mv (.c (.bool false)))] (Jq [Jm 6 0,Jc 7 c1 [.t 6],Jy 5 t1 [J0,J0,JS,JS],Js 4 5 7] (Jq [Jf 8 0 5,Jl 9 8,JB 10 .eql 9 2,Jm 11 10,Jg 12 11 false (Kh 0 5),Jg 13 11 false (Kl 12),Jg 14 11 false (KB .eql 13 5),Jo 15 11 14,Jm 16 15,Jg 17 16 true (Kh 3 5),Jg 18 16 true (Kl 17),Jg 19 16 true (Km 1),Jg 20 16 true (Kb .eql 18 19),Ja 21 16 20,Jm 4 21] .ret))⟩
def irPTook (c1:Nat):IFn:=⟨23,[.t 4],Jq [Jp 4 (.mv (.c (.bool false)))] (.seq (Jk [Jm 5 0,Jn 6 5,Jf 7 2 6,Jl 8 7,JB 9 .neq 8 0,Jm 10 9,Jg 11 10 false (Km 0),Jg 12 10 false (Km 1),Jg 13 10 false (.call c1 [.t 11,.t 12]),Jg 14 10 false (.un .not (.t 13)),Jo 15 10 14] 15 (Jq [Jp 4 (.mv (.c (.bool false)))] .ret) .skip) (Jq [Jm 16 0,Jn 17 16,Jf 18 1 17,Jl 19 18,JB 20 .add 19 1,Jn 21 16,Jf 22 1 21,Js 1 22 20] (Jq [Jp 4 (.mv (.c (.bool true)))] .ret)))⟩
def irPWant (c1 c2:Nat):IFn:=⟨10,[],Jk [Jm 4 0,Jm 5 1,Jc 6 c1 [.t 4,.t 5],Jp 7 (.un .not (.t 6))] 7 (Jz [Jm 8 0,Jc 9 c2 [.t 8,JI 24]]) .skip⟩
def irPWord (c1 c2 t1:Nat):IFn:=⟨36,[],Jq [Jm 5 0,Jc 6 c1 [.t 5],Jy 4 t1 [J0,J0,JS,JS],Js 4 4 6] (.seq (Jk [Jf 7 0 4,Jl 8 7,JB 9 .neq 8 1] 9 (Jz [Jm 10 0,Jc 11 c2 [.t 10,JI 24]]) .skip) (Jk [Jm 12 0,Jn 13 12,Jf 14 2 13,Jl 15 14,JB 16 .eql 15 0] 16 (.seq (.ops [Jm 17 1,Jm 18 1,Jf 19 3 4,Jl 20 19,Jm 21 0,Jn 22 21,Jf 23 1 22,Jl 24 23,Jn 25 17,Jf 26 3 25,Js 1 26 20,Jn 27 18,Jf 28 4 27,Js 1 28 24] true) (Jz [Jm 29 0,Jn 30 29,Jf 31 1 30,Jl 32 31,JB 33 .add 32 1,Jn 34 29,Jf 35 1 34,Js 1 35 33])) .skip))⟩
def irPNode (t1:Nat):IFn:=⟨11,[.cell 4 6 true],Jq [Jy 4 t1 JN] (Jq [Jm 5 1,Jm 6 0,Jn 7 6,Jf 8 1 7,Jl 9 8,Jp 10 (.buildT [(5,6,t1)] JN [(0,1,.t 5),(1,1,.t 9)]),Js 6 4 10] .ret)⟩
def irPDone (t1:Nat):IFn:=⟨11,[.cell 4 6 true],Jq [Jp 3 (.box t1 6 (.t 1)),Jy 4 t1 JN] (Jq [Jm 5 0,Jn 6 5,Jf 7 1 6,Jl 8 7,Jf 9 2 3,Js 1 9 8] (Jq [JL 10 6 3,Js 6 4 10] .ret))⟩
def irPPut (t1:Nat):IFn:=⟨13,[],Jz [Jm 4 0,Jm 5 0,Jn 6 5,Jf 7 5 6,Jl 8 7,Jm 9 1,Jp 10 (.app 6 72 t1 (.t 8) (.t 9)),Jn 11 4,Jf 12 5 11,Js 1 12 10]⟩
def irPList (c1 c2 c3:Nat):IFn:=⟨26,[],.seq (Jk [Jm 8 0,Jm 9 2,Jc 10 c1 [.t 8,.t 9]] 10 .ret .skip) (.blk 0 (.loop (.seq (Jk [Jm 11 0,Jn 12 11,Jf 13 2 12,Jl 14 13,JB 15 .eql 14 0] 15 .skip (.exit 0)) (.blk 1 (Jq [Jm 16 1,Jm 17 3,Jp 18 (.callv (.t 17) []),Jp 19 (.bslice 6 [.t 18]),Jc 20 c2 [.t 16,.t 19]] (.seq (Jk [Jm 21 0,Jm 22 2,Jc 23 c1 [.t 21,.t 22]] 23 .ret .skip) (Jz [Jm 24 0,Jc 25 c3 [.t 24,.c (.str [44])]])))))))⟩
def irPFile (c1 c2 c3 c4 c5 c6 c7 c8 t1:Nat):IFn:=⟨36,[.cell 2 6 true],Jq [Jy 2 t1 JN] (Jq [Jm 4 0,Jc 5 c1 [.t 4,JI 1],Jy 3 t1 JN,Js 6 3 5] (.seq (.blk 0 (.loop (.seq (Jk [Jm 6 0,Jn 7 6,Jf 8 2 7,Jl 9 8,JB 10 .eql 9 0,Jm 11 10,Jg 12 11 true (Km 0),Jg 13 11 true (.call c2 [.t 12]),Jg 14 11 true (.fld 0 1 false (.t 13)),Jg 15 11 true (KB .neq 14 0),Ja 16 11 15] 16 .skip (.exit 0)) (.blk 1 (.blk 2 (Jk [Jm 20 0,Jc 21 c3 [.t 20,.c (.str [117,115,101])],Jm 19 21] 19 (Jz [Jm 22 0,Jc 23 c4 [.t 22],Jp 24 (.bslice 6 [.t 23]),Jc 25 c5 [.t 3,.t 24]]) (Jk [Jm 27 0,Jc 28 c3 [.t 27,.c (.str [100,101,102])],Jm 26 28] 26 (Jz [Jm 29 0,Jc 30 c6 [.t 29],Jp 31 (.bslice 6 [.t 30]),Jc 32 c5 [.t 3,.t 31]]) (Jz [Jm 17 0,Jc 18 c7 [.t 17,JI 24]])))))))) (Jq [Jm 33 0,JL 34 6 3,Jc 35 c8 [.t 33,.t 34],Js 6 2 35] .ret)))⟩
def irPUse (c1 c2 c3 c4 c5 t1:Nat):IFn:=⟨27,[.cell 2 6 true],Jq [Jy 2 t1 JN] (Jq [Jm 5 0,Jc 6 c1 [.t 5,JI 2],Jy 3 t1 JN,Js 6 3 6] (Jq [Jm 7 0,Jc 8 c2 [.t 7,.c (.str [117,115,101])]] (Jq [Jm 9 0,Jc 10 c1 [.t 9,JI 23],Jy 4 t1 JN,Js 6 4 10] (Jq [Jm 11 0,Jc 12 c3 [.t 11,.t 4]] (Jq [Jm 13 0,JL 14 6 4,Jc 15 c4 [.t 13,.t 14],Jp 16 (.bslice 6 [.t 15]),Jc 17 c5 [.t 3,.t 16]] (Jq [Jm 18 0,Jc 19 c2 [.t 18,.c (.str [46])]] (Jq [Jm 20 0,Jc 21 c3 [.t 20,.t 3]] (Jq [Jm 22 0,Jc 23 c2 [.t 22,.c (.str [59])]] (Jq [Jm 24 0,JL 25 6 3,Jc 26 c4 [.t 24,.t 25],Js 6 2 26] .ret)))))))))⟩
def irPDef (c1 c2 c3 c4 c5 c6 c7 c8 t1:Nat):IFn:=⟨21,[.cell 2 6 true],Jq [Jy 2 t1 JN] (Jq [Jm 4 0,Jc 5 c1 [.t 4,JI 3],Jy 3 t1 JN,Js 6 3 5] (Jq [Jm 6 0,Jc 7 c2 [.t 6,.c (.str [100,101,102])]] (Jq [Jm 8 0,Jc 9 c3 [.t 8,.t 3]] (Jq [Jm 10 0,Jc 11 c4 [.t 10],Jm 12 0,Jc 13 c5 [.t 12],Jm 14 0,Jc 15 c6 [.t 14],Jp 16 (.bslice 6 [.t 11,.t 13,.t 15]),Jc 17 c7 [.t 3,.t 16]] (Jq [Jm 18 0,JL 19 6 3,Jc 20 c8 [.t 18,.t 19],Js 6 2 20] .ret)))))⟩
def irPParams (c1 c2 c3 c4 c5 t1 t2:Nat):IFn:=⟨14,[.cell 2 6 true],Jq [Jp 1 (.box t1 1 (.t 0)),Jy 2 t2 JN] (Jq [Jl 4 1,Jc 5 c1 [.t 4,JI 4],Jy 3 t2 JN,Js 6 3 5] (Jq [Jl 6 1,Jc 7 c2 [.t 6,.c (.str [40])]] (Jq [Jl 8 1,Jp 9 (.mkfn (.func c3) [] [.t 1]),Jc 10 c4 [.t 8,.t 3,.c (.str [41]),.t 9]] (Jq [Jl 11 1,JL 12 6 3,Jc 13 c5 [.t 11,.t 12],Js 6 2 13] .ret))))⟩
def irPParam (c1 c2 c3 c4 c5 t1:Nat):IFn:=⟨14,[.cell 1 6 true],Jq [Jy 1 t1 JN] (Jq [Jl 3 0,Jc 4 c1 [.t 3,JI 5],Jy 2 t1 JN,Js 6 2 4] (Jq [Jl 5 0,Jc 6 c2 [.t 5,.t 2]] (Jq [Jl 7 0,Jc 8 c3 [.t 7],Jp 9 (.bslice 6 [.t 8]),Jc 10 c4 [.t 2,.t 9]] (Jq [Jl 11 0,JL 12 6 2,Jc 13 c5 [.t 11,.t 12],Js 6 1 13] .ret))))⟩
def irPTyped (c1 c2 t1:Nat):IFn:=⟨9,[.cell 2 6 true],Jq [Jy 2 t1 JN] (.seq (Jk [Jm 3 0,Jc 4 c1 [.t 3,.c (.str [58])],Jp 5 (.un .not (.t 4))] 5 (Jq [Jp 6 (.build JN []),Js 6 2 6] .ret) .skip) (Jq [Jm 7 0,Jc 8 c2 [.t 7],Js 6 2 8] .ret))⟩
def irPKind (c1 c2 c3 c4 c5 c6 c7 c8 c9 t1 t2:Nat):IFn:=⟨45,[.cell 2 6 true],Jq [Jp 1 (.box t1 1 (.t 0)),Jy 2 t2 JN] (Jq [Jl 4 1,Jc 5 c1 [.t 4,JI 29],Jy 3 t2 JN,Js 6 3 5] (.seq (.blk 0 (Jk [Jl 9 1,Jc 10 c2 [.t 9,.c (.str [105,110,116])],Jm 8 10] 8 .skip (Jk [Jl 12 1,Jc 13 c2 [.t 12,.c (.str [115,116,114])],Jm 11 13] 11 (Jz [Jf 14 0 3,Jv (.store 1 (.t 14) (JI 30))]) (Jk [Jl 16 1,Jc 17 c2 [.t 16,.c (.str [100,121,110])],Jm 15 17] 15 (Jz [Jf 18 0 3,Jv (.store 1 (.t 18) (JI 31))]) (Jk [Jl 20 1,Jc 21 c2 [.t 20,.c (.str [123])],Jm 19 21] 19 (Jq [Jf 22 0 3,Jv (.store 1 (.t 22) (JI 32))] (Jz [Jl 23 1,Jp 24 (.mkfn (.func c3) [] [.t 1]),Jc 25 c4 [.t 23,.t 3,.c (.str [125]),.t 24]])) (Jk [Jl 27 1,Jc 28 c2 [.t 27,.c (.str [102,110])],Jm 26 28] 26 (Jq [Jf 29 0 3,Jv (.store 1 (.t 29) (JI 34))] (Jq [Jl 30 1,Jc 31 c5 [.t 30,.c (.str [40])]] (Jq [Jl 32 1,Jl 33 1,Jp 34 (.mkfn (.func c6) [.t 33] []),Jc 35 c4 [.t 32,.t 3,.c (.str [41]),.t 34]] (Jq [Jl 36 1,Jc 37 c5 [.t 36,.c (.str [58])]] (Jz [Jl 38 1,Jc 39 c6 [.t 38],Jp 40 (.bslice 6 [.t 39]),Jc 41 c7 [.t 3,.t 40]]))))) (Jz [Jl 6 1,Jc 7 c8 [.t 6,JI 24]]))))))) (Jq [Jl 42 1,JL 43 6 3,Jc 44 c9 [.t 42,.t 43],Js 6 2 44] .ret)))⟩
def irPTField (c1 c2 c3 c4 c5 c6 t1:Nat):IFn:=⟨16,[.cell 1 6 true],Jq [Jy 1 t1 JN] (Jq [Jl 3 0,Jc 4 c1 [.t 3,JI 33],Jy 2 t1 JN,Js 6 2 4] (Jq [Jl 5 0,Jc 6 c2 [.t 5,.t 2]] (Jq [Jl 7 0,Jc 8 c3 [.t 7,.c (.str [58])]] (Jq [Jl 9 0,Jc 10 c4 [.t 9],Jp 11 (.bslice 6 [.t 10]),Jc 12 c5 [.t 2,.t 11]] (Jq [Jl 13 0,JL 14 6 2,Jc 15 c6 [.t 13,.t 14],Js 6 1 15] .ret)))))⟩
def irPBlock (c1 c2 c3 c4 c5 c6 t1:Nat):IFn:=⟨25,[.cell 2 6 true],Jq [Jy 2 t1 JN] (Jq [Jm 4 0,Jc 5 c1 [.t 4,JI 6],Jy 3 t1 JN,Js 6 3 5] (Jq [Jm 6 0,Jc 7 c2 [.t 6,.c (.str [123])]] (.seq (.blk 0 (.loop (.seq (Jk [Jm 8 0,Jn 9 8,Jf 10 2 9,Jl 11 10,JB 12 .eql 11 0,Jm 13 12,Jg 14 13 true (Km 0),Jg 15 13 true (.call c3 [.t 14,.c (.str [125])]),Jg 16 13 true (.un .not (.t 15)),Ja 17 13 16] 17 .skip (.exit 0)) (.blk 1 (Jz [Jm 18 0,Jc 19 c4 [.t 18],Jp 20 (.bslice 6 [.t 19]),Jc 21 c5 [.t 3,.t 20]]))))) (Jq [Jm 22 0,JL 23 6 3,Jc 24 c6 [.t 22,.t 23],Js 6 2 24] .ret))))⟩
def irPStmt (c1 c2 c3 c4 c5 c6 c7 c8 c9 c10 t1:Nat):IFn:=⟨94,[.cell 2 6 true],Jq [Jy 2 t1 JN] (Jq [Jm 4 0,Jc 5 c1 [.t 4,JI 13],Jy 3 t1 JN,Js 6 3 5] (.seq (.blk 0 (Jk [Jm 11 0,Jc 12 c2 [.t 11,.c (.str [108,101,116])],Jm 10 12] 10 (Jq [Jf 13 0 3,Jv (.store 1 (.t 13) (JI 7))] (Jq [Jm 14 0,Jc 15 c3 [.t 14,.t 3]] (Jq [Jm 16 0,Jc 17 c4 [.t 16],Jp 18 (.bslice 6 [.t 17]),Jc 19 c5 [.t 3,.t 18]] (Jq [Jm 20 0,Jc 21 c6 [.t 20,.c (.str [61])]] (Jz [Jm 22 0,Jc 23 c7 [.t 22],Jp 24 (.bslice 6 [.t 23]),Jc 25 c5 [.t 3,.t 24]]))))) (Jk [Jm 27 0,Jc 28 c2 [.t 27,.c (.str [105,102])],Jm 26 28] 26 (Jq [Jf 29 0 3,Jv (.store 1 (.t 29) (JI 9))] (Jq [Jm 30 0,Jc 31 c7 [.t 30],Jm 32 0,Jc 33 c8 [.t 32],Jp 34 (.bslice 6 [.t 31,.t 33]),Jc 35 c5 [.t 3,.t 34]] (.seq (Jk [Jm 36 0,Jc 37 c2 [.t 36,.c (.str [101,108,115,101])]] 37 (Jz [Jm 38 0,Jc 39 c8 [.t 38],Jp 40 (.bslice 6 [.t 39]),Jc 41 c5 [.t 3,.t 40]]) (Jz [Jp 42 (.build JN []),Jp 43 (.bslice 6 [.t 42]),Jc 44 c5 [.t 3,.t 43]])) (Jq [Jm 45 0,JL 46 6 3,Jc 47 c9 [.t 45,.t 46],Js 6 2 47] .ret)))) (Jk [Jm 49 0,Jc 50 c2 [.t 49,.c (.str [119,104,105,108,101])],Jm 48 50] 48 (Jq [Jf 51 0 3,Jv (.store 1 (.t 51) (JI 10))] (Jq [Jm 52 0,Jc 53 c7 [.t 52],Jm 54 0,Jc 55 c8 [.t 54],Jp 56 (.bslice 6 [.t 53,.t 55]),Jc 57 c5 [.t 3,.t 56]] (Jq [Jm 58 0,JL 59 6 3,Jc 60 c9 [.t 58,.t 59],Js 6 2 60] .ret))) (Jk [Jm 62 0,Jc 63 c2 [.t 62,.c (.str [112,114,105,110,116])],Jm 61 63] 61 (Jq [Jf 64 0 3,Jv (.store 1 (.t 64) (JI 11))] (Jz [Jm 65 0,Jc 66 c7 [.t 65],Jp 67 (.bslice 6 [.t 66]),Jc 68 c5 [.t 3,.t 67]])) (Jk [Jm 70 0,Jc 71 c2 [.t 70,.c (.str [114,101,116,117,114,110])],Jm 69 71] 69 (Jq [Jf 72 0 3,Jv (.store 1 (.t 72) (JI 12))] (Jz [Jm 73 0,Jc 74 c7 [.t 73],Jp 75 (.bslice 6 [.t 74]),Jc 76 c5 [.t 3,.t 75]])) (Jk [Jm 78 0,Jc 79 c10 [.t 78],Jm 77 79] 77 (Jq [Jf 80 0 3,Jv (.store 1 (.t 80) (JI 8))] (Jq [Jm 81 0,Jc 82 c3 [.t 81,.t 3]] (Jq [Jm 83 0,Jc 84 c6 [.t 83,.c (.str [61])]] (Jz [Jm 85 0,Jc 86 c7 [.t 85],Jp 87 (.bslice 6 [.t 86]),Jc 88 c5 [.t 3,.t 87]])))) (Jz [Jm 6 0,Jc 7 c7 [.t 6],Jp 8 (.bslice 6 [.t 7]),Jc 9 c5 [.t 3,.t 8]])))))))) (Jq [Jm 89 0,Jc 90 c6 [.t 89,.c (.str [59])]] (Jq [Jm 91 0,JL 92 6 3,Jc 93 c9 [.t 91,.t 92],Js 6 2 93] .ret))))⟩
def irPSets (c1 t1:Nat):IFn:=⟨40,[.t 2],Jq [Jp 2 (.mv (.c (.bool false)))] (.seq (.seq (.ops [Jm 4 0,Jc 5 c1 [.t 4],Jp 6 (.fld 0 1 false (.t 5)),JB 7 .neq 6 1,Jm 8 7,Jg 9 8 false (Km 0),Jg 10 8 false (.nilCheck (.t 9)),Jg 11 8 false (Kh 1 10),Jg 12 8 false (Kl 11),Jg 13 8 false (KB .add 12 1),Jg 14 8 false (Km 0),Jg 15 8 false (.nilCheck (.t 14)),Jg 16 8 false (Kh 0 15),Jg 17 8 false (Kl 16),Jg 18 8 false (.lenL (.t 17)),Jg 19 8 false (Kb .geq 13 18),Jo 20 8 19] true) (.cond (.t 20) (Jq [Jp 2 (.mv (.c (.bool false)))] .ret) .skip)) (.seq (.ops [Jm 21 0,Jn 22 21,Jf 23 0 22,Jl 24 23,Jm 25 0,Jn 26 25,Jf 27 1 26,Jl 28 27,JB 29 .add 28 1,JA 30 4 24 29,JL 31 4 30,Jy 3 t1 [J0,J0,JS,JS],Js 4 3 31] true) (Jq [Jf 32 0 3,Jl 33 32,JB 34 .eql 33 5,Jm 35 34,Jg 36 35 true (Kh 3 3),Jg 37 35 true (Kl 36),Jg 38 35 true (.bin .eql (.t 37) (.c (.str [61]))),Ja 39 35 38,Jm 2 39] .ret)))⟩
def irPExpr (c1 c2 c3 t1:Nat):IFn:=⟨23,[.cell 2 6 true],Jq [Jy 2 t1 JN] (Jq [Jm 4 0,Jc 5 c1 [.t 4],Jy 3 t1 JN,Js 6 3 5] (.seq (.blk 0 (Jk [Jm 7 0,Jc 8 c2 [.t 7,.c (.str [60])],Jm 6 8] 6 (Jq [Jm 9 0,JL 10 6 3,Jm 11 0,Jp 12 (.mkfn (.func c1) [.t 11] []),Jc 13 c3 [.t 9,JI 14,.t 10,.t 12],Js 6 2 13] .ret) (Jk [Jm 15 0,Jc 16 c2 [.t 15,.c (.str [61,61])],Jm 14 16] 14 (Jq [Jm 17 0,JL 18 6 3,Jm 19 0,Jp 20 (.mkfn (.func c1) [.t 19] []),Jc 21 c3 [.t 17,JI 15,.t 18,.t 20],Js 6 2 21] .ret) .skip))) (Jq [JL 22 6 3,Js 6 2 22] .ret)))⟩
def irPWith (t1:Nat):IFn:=⟨23,[.cell 8 6 true],Jq [Jp 6 (.box t1 6 (.t 2)),Jy 8 t1 JN] (Jq [Jm 10 3,Jp 11 (.callv (.t 10) []),Jy 9 t1 JN,Js 6 9 11] (.seq (.ops [Jm 12 1,Jf 13 1 6,Jl 14 13,Jm 15 0,Jn 16 15,Jf 17 1 16,Jl 18 17,JL 19 6 6,JL 20 6 9,Jp 21 (.bslice 6 [.t 19,.t 20]),Jp 22 (.build JN [(0,1,.t 12),(1,1,.t 14),(2,1,.t 18),(5,1,.t 21)]),Js 6 8 22] true) .ret))⟩
def irPSum (c1 c2 c3 t1:Nat):IFn:=⟨29,[.cell 2 6 true],Jq [Jy 2 t1 JN] (Jq [Jm 4 0,Jc 5 c1 [.t 4],Jy 3 t1 JN,Js 6 3 5] (.seq (.blk 0 (.loop (.seq (Jk [Jm 6 0,Jn 7 6,Jf 8 2 7,Jl 9 8,JB 10 .eql 9 0] 10 .skip (.exit 0)) (.blk 1 (.blk 2 (Jk [Jm 13 0,Jc 14 c2 [.t 13,.c (.str [43])],Jm 12 14] 12 (Jz [Jm 15 0,JL 16 6 3,Jm 17 0,Jp 18 (.mkfn (.func c1) [.t 17] []),Jc 19 c3 [.t 15,JI 16,.t 16,.t 18],Js 6 3 19]) (Jk [Jm 21 0,Jc 22 c2 [.t 21,.c (.str [45])],Jm 20 22] 20 (Jz [Jm 23 0,JL 24 6 3,Jm 25 0,Jp 26 (.mkfn (.func c1) [.t 25] []),Jc 27 c3 [.t 23,JI 17,.t 24,.t 26],Js 6 3 27]) (Jq [JL 11 6 3,Js 6 2 11] .ret)))))))) (Jq [JL 28 6 3,Js 6 2 28] .ret)))⟩
def irPTerm (c1 c2 c3 t1:Nat):IFn:=⟨14,[.cell 2 6 true],Jq [Jy 2 t1 JN] (Jq [Jm 4 0,Jc 5 c1 [.t 4],Jy 3 t1 JN,Js 6 3 5] (.seq (.blk 0 (.loop (.seq (Jk [Jm 6 0,Jc 7 c2 [.t 6,.c (.str [42])]] 7 .skip (.exit 0)) (.blk 1 (Jz [Jm 8 0,JL 9 6 3,Jm 10 0,Jp 11 (.mkfn (.func c1) [.t 10] []),Jc 12 c3 [.t 8,JI 18,.t 9,.t 11],Js 6 3 12]))))) (Jq [JL 13 6 3,Js 6 2 13] .ret)))⟩
def irPPost (c1 c2 c3 c4 c5 c6 t1:Nat):IFn:=⟨36,[.cell 2 6 true],Jq [Jy 2 t1 JN] (Jq [Jm 5 0,Jc 6 c1 [.t 5],Jy 3 t1 JN,Js 6 3 6] (.seq (.blk 0 (.loop (.seq (Jk [Jm 7 0,Jn 8 7,Jf 9 2 8,Jl 10 9,JB 11 .eql 10 0] 11 .skip (.exit 0)) (.blk 1 (Jq [Jf 12 1 3,Jl 13 12,JL 14 6 3,Jp 15 (.bsliceT 6 t1 [.t 14]),Jp 16 (.build JN [(1,1,.t 13),(5,1,.t 15)]),Jy 4 t1 JN,Js 6 4 16] (.seq (.blk 2 (Jk [Jm 19 0,Jc 20 c2 [.t 19,.c (.str [46])],Jm 18 20] 18 (Jq [Jf 21 0 4,Jv (.store 1 (.t 21) (JI 19))] (Jz [Jm 22 0,Jc 23 c3 [.t 22,.t 4]])) (Jk [Jm 25 0,Jc 26 c2 [.t 25,.c (.str [40])],Jm 24 26] 24 (Jq [Jf 27 0 4,Jv (.store 1 (.t 27) (JI 20))] (Jz [Jm 28 0,Jm 29 0,Jp 30 (.mkfn (.func c4) [.t 29] []),Jc 31 c5 [.t 28,.t 4,.c (.str [41]),.t 30]])) (Jq [JL 17 6 3,Js 6 2 17] .ret)))) (Jz [Jm 32 0,JL 33 6 4,Jc 34 c6 [.t 32,.t 33],Js 6 3 34]))))))) (Jq [JL 35 6 3,Js 6 2 35] .ret)))⟩
def irPAtom (c1 c2 c3 c4 c5 c6 c7 c8 c9 c10 c11 c12 c13 c14 t1 t2 t3:Nat):IFn:=⟨93,[.cell 2 6 true],Jq [Jp 1 (.box t1 1 (.t 0)),Jy 2 t2 JN] (Jq [Jl 5 1,Jc 6 c1 [.t 5,JI 21],Jy 3 t2 JN,Js 6 3 6] (Jq [Jl 7 1,Jc 8 c2 [.t 7],Jy 4 t3 [J0,J0,JS,JS],Js 4 4 8] (.seq (.blk 0 (Jk [Jf 12 0 4,Jl 13 12,JB 14 .eql 13 3,Jm 11 14] 11 (.seq (Jq [Jf 15 3 4] (.both (Jq [Jl 16 15] (Jq [Jl 17 1] (Jq [Jn 18 17] (Jq [Jf 19 1 18] (Jq [Jl 20 19] (Jq [Jf 21 3 3] (Jq [Js 1 21 16] (Jq [Jf 22 4 3] (Jq [Js 1 22 20] .skip))))))))) (Jq [Jl 17 1] (Jq [Jn 18 17] (Jq [Jf 19 1 18] (.both (Jq [Jl 16 15] (Jq [Jl 20 19] (Jq [Jf 21 3 3] (Jq [Js 1 21 16] (Jq [Jf 22 4 3] (Jq [Js 1 22 20] .skip)))))) (Jq [Jl 20 19] (Jq [Jl 16 15] (Jq [Jf 21 3 3] (Jq [Js 1 21 16] (Jq [Jf 22 4 3] (Jq [Js 1 22 20] .skip)))))))))))) (Jz [Jl 23 1,Jn 24 23,Jf 25 1 24,Jl 26 25,JB 27 .add 26 1,Jn 28 23,Jf 29 1 28,Js 1 29 27])) (Jk [Jf 31 0 4,Jl 32 31,JB 33 .eql 32 4,Jm 30 33] 30 (.seq (Jq [Jf 34 3 4] (.both (Jq [Jl 35 34] (Jq [Jl 36 1] (Jq [Jn 37 36] (Jq [Jf 38 1 37] (Jq [Jl 39 38] (Jq [Jf 40 0 3] (Jq [Jv (.store 1 (.t 40) (JI 22))] (Jq [Jf 41 3 3] (Jq [Js 1 41 35] (Jq [Jf 42 4 3] (Jq [Js 1 42 39] .skip))))))))))) (Jq [Jl 36 1] (Jq [Jn 37 36] (Jq [Jf 38 1 37] (.both (Jq [Jl 35 34] (Jq [Jl 39 38] (Jq [Jf 40 0 3] (Jq [Jv (.store 1 (.t 40) (JI 22))] (Jq [Jf 41 3 3] (Jq [Js 1 41 35] (Jq [Jf 42 4 3] (Jq [Js 1 42 39] .skip)))))))) (Jq [Jl 39 38] (Jq [Jf 40 0 3] (.both (Jq [Jl 35 34] (Jq [Jv (.store 1 (.t 40) (JI 22))] (Jq [Jf 41 3 3] (Jq [Js 1 41 35] (Jq [Jf 42 4 3] (Jq [Js 1 42 39] .skip)))))) (Jq [Jv (.store 1 (.t 40) (JI 22))] (Jq [Jl 35 34] (Jq [Jf 41 3 3] (Jq [Js 1 41 35] (Jq [Jf 42 4 3] (Jq [Js 1 42 39] .skip))))))))))))))) (Jz [Jl 43 1,Jn 44 43,Jf 45 1 44,Jl 46 45,JB 47 .add 46 1,Jn 48 43,Jf 49 1 48,Js 1 49 47])) (Jk [Jf 51 0 4,Jl 52 51,JB 53 .eql 52 1,Jm 50 53] 50 (Jq [Jf 54 0 3,Jv (.store 1 (.t 54) (JI 23))] (Jz [Jl 55 1,Jc 56 c3 [.t 55,.t 3]])) (Jk [Jl 58 1,Jc 59 c4 [.t 58,.c (.str [105,110,112,117,116])],Jm 57 59] 57 (Jz [Jf 60 0 3,Jv (.store 1 (.t 60) (JI 24))]) (Jk [Jl 62 1,Jc 63 c4 [.t 62,.c (.str [40])],Jm 61 63] 61 (Jq [Jf 64 0 3,Jv (.store 1 (.t 64) (JI 25))] (Jq [Jl 65 1,Jc 66 c5 [.t 65],Jp 67 (.bslice 6 [.t 66]),Jc 68 c6 [.t 3,.t 67]] (Jz [Jl 69 1,Jc 70 c7 [.t 69,.c (.str [41])]]))) (Jk [Jl 72 1,Jc 73 c4 [.t 72,.c (.str [123])],Jm 71 73] 71 (Jq [Jf 74 0 3,Jv (.store 1 (.t 74) (JI 26))] (Jz [Jl 75 1,Jp 76 (.mkfn (.func c8) [] [.t 1]),Jc 77 c9 [.t 75,.t 3,.c (.str [125]),.t 76]])) (Jk [Jl 79 1,Jc 80 c4 [.t 79,.c (.str [102,110])],Jm 78 80] 78 (Jq [Jf 81 0 3,Jv (.store 1 (.t 81) (JI 28))] (.both (Jq [Jl 82 1] (.both (Jq [Jc 83 c10 [.t 82]] (.both (Jq [Jl 84 1] (.both (Jq [Jc 85 c11 [.t 84]] (Jq [Jl 86 1] (Jq [Jc 87 c12 [.t 86]] (Jq [Jp 88 (.bslice 6 [.t 83,.t 85,.t 87])] (Jq [Jc 89 c6 [.t 3,.t 88]] .skip))))) (Jq [Jl 86 1] (Jq [Jc 85 c11 [.t 84]] (Jq [Jc 87 c12 [.t 86]] (Jq [Jp 88 (.bslice 6 [.t 83,.t 85,.t 87])] (Jq [Jc 89 c6 [.t 3,.t 88]] .skip))))))) (Jq [Jl 86 1] (Jq [Jl 84 1] (Jq [Jc 85 c11 [.t 84]] (Jq [Jc 87 c12 [.t 86]] (Jq [Jp 88 (.bslice 6 [.t 83,.t 85,.t 87])] (Jq [Jc 89 c6 [.t 3,.t 88]] .skip)))))))) (.both (Jq [Jl 84 1] (.both (Jq [Jc 83 c10 [.t 82]] (.both (Jq [Jc 85 c11 [.t 84]] (Jq [Jl 86 1] (Jq [Jc 87 c12 [.t 86]] (Jq [Jp 88 (.bslice 6 [.t 83,.t 85,.t 87])] (Jq [Jc 89 c6 [.t 3,.t 88]] .skip))))) (Jq [Jl 86 1] (Jq [Jc 85 c11 [.t 84]] (Jq [Jc 87 c12 [.t 86]] (Jq [Jp 88 (.bslice 6 [.t 83,.t 85,.t 87])] (Jq [Jc 89 c6 [.t 3,.t 88]] .skip))))))) (Jq [Jl 86 1] (Jq [Jc 83 c10 [.t 82]] (Jq [Jc 85 c11 [.t 84]] (Jq [Jc 87 c12 [.t 86]] (Jq [Jp 88 (.bslice 6 [.t 83,.t 85,.t 87])] (Jq [Jc 89 c6 [.t 3,.t 88]] .skip)))))))) (Jq [Jl 86 1] (.both (Jq [Jc 83 c10 [.t 82]] (Jq [Jl 84 1] (Jq [Jc 85 c11 [.t 84]] (Jq [Jc 87 c12 [.t 86]] (Jq [Jp 88 (.bslice 6 [.t 83,.t 85,.t 87])] (Jq [Jc 89 c6 [.t 3,.t 88]] .skip)))))) (Jq [Jl 84 1] (Jq [Jc 83 c10 [.t 82]] (Jq [Jc 85 c11 [.t 84]] (Jq [Jc 87 c12 [.t 86]] (Jq [Jp 88 (.bslice 6 [.t 83,.t 85,.t 87])] (Jq [Jc 89 c6 [.t 3,.t 88]] .skip))))))))))) (.both (Jq [Jl 84 1] (.both (Jq [Jl 82 1] (.both (Jq [Jc 83 c10 [.t 82]] (.both (Jq [Jc 85 c11 [.t 84]] (Jq [Jl 86 1] (Jq [Jc 87 c12 [.t 86]] (Jq [Jp 88 (.bslice 6 [.t 83,.t 85,.t 87])] (Jq [Jc 89 c6 [.t 3,.t 88]] .skip))))) (Jq [Jl 86 1] (Jq [Jc 85 c11 [.t 84]] (Jq [Jc 87 c12 [.t 86]] (Jq [Jp 88 (.bslice 6 [.t 83,.t 85,.t 87])] (Jq [Jc 89 c6 [.t 3,.t 88]] .skip))))))) (Jq [Jl 86 1] (Jq [Jc 83 c10 [.t 82]] (Jq [Jc 85 c11 [.t 84]] (Jq [Jc 87 c12 [.t 86]] (Jq [Jp 88 (.bslice 6 [.t 83,.t 85,.t 87])] (Jq [Jc 89 c6 [.t 3,.t 88]] .skip)))))))) (Jq [Jl 86 1] (Jq [Jl 82 1] (Jq [Jc 83 c10 [.t 82]] (Jq [Jc 85 c11 [.t 84]] (Jq [Jc 87 c12 [.t 86]] (Jq [Jp 88 (.bslice 6 [.t 83,.t 85,.t 87])] (Jq [Jc 89 c6 [.t 3,.t 88]] .skip))))))))) (Jq [Jl 86 1] (.both (Jq [Jl 82 1] (.both (Jq [Jc 83 c10 [.t 82]] (Jq [Jl 84 1] (Jq [Jc 85 c11 [.t 84]] (Jq [Jc 87 c12 [.t 86]] (Jq [Jp 88 (.bslice 6 [.t 83,.t 85,.t 87])] (Jq [Jc 89 c6 [.t 3,.t 88]] .skip)))))) (Jq [Jl 84 1] (Jq [Jc 83 c10 [.t 82]] (Jq [Jc 85 c11 [.t 84]] (Jq [Jc 87 c12 [.t 86]] (Jq [Jp 88 (.bslice 6 [.t 83,.t 85,.t 87])] (Jq [Jc 89 c6 [.t 3,.t 88]] .skip)))))))) (Jq [Jl 84 1] (Jq [Jl 82 1] (Jq [Jc 83 c10 [.t 82]] (Jq [Jc 85 c11 [.t 84]] (Jq [Jc 87 c12 [.t 86]] (Jq [Jp 88 (.bslice 6 [.t 83,.t 85,.t 87])] (Jq [Jc 89 c6 [.t 3,.t 88]] .skip)))))))))))) (Jz [Jl 9 1,Jc 10 c13 [.t 9,JI 24]]))))))))) (Jq [Jl 90 1,JL 91 6 3,Jc 92 c14 [.t 90,.t 91],Js 6 2 92] .ret))))⟩
def irPEntry (c1 c2 c3 c4 c5 c6 t1:Nat):IFn:=⟨16,[.cell 1 6 true],Jq [Jy 1 t1 JN] (Jq [Jl 3 0,Jc 4 c1 [.t 3,JI 27],Jy 2 t1 JN,Js 6 2 4] (Jq [Jl 5 0,Jc 6 c2 [.t 5,.t 2]] (Jq [Jl 7 0,Jc 8 c3 [.t 7,.c (.str [58])]] (Jq [Jl 9 0,Jc 10 c4 [.t 9],Jp 11 (.bslice 6 [.t 10]),Jc 12 c5 [.t 2,.t 11]] (Jq [Jl 13 0,JL 14 6 2,Jc 15 c6 [.t 13,.t 14],Js 6 1 15] .ret)))))⟩
def irPParse (c1 c2 t1 t2:Nat):IFn:=⟨52,[.cell 2 6 true,.t 3,.t 4],Jq [Jy 2 t1 JN,Ji 3 0,Ji 4 0] (.seq (Jk [Jm 7 0,Jh 8 7,JB 9 .eql 8 0,Jm 10 9,Jg 11 10 false (Km 0),Jg 12 10 false (Km 0),Jg 13 10 false (.lenL (.t 12)),Jg 14 10 false (KB .sub 13 1),Jg 15 10 false (KA 4 11 14),Jg 16 10 false (Kh 0 15),Jg 17 10 false (Kl 16),Jg 18 10 false (KB .neq 17 0),Jo 19 10 18,Jm 20 19,Jg 21 20 false (Km 0),Jg 22 20 false (.lenL (.t 21)),Jg 23 20 false (KB .gtr 22 4000),Jo 24 20 23] 24 (Jq [Jp 25 (.build JN []),Js 6 2 25,Ji 3 1,Ji 4 0] .ret) .skip) (Jq [Jm 26 0,Jp 27 (.build [.sl true 4 [],J0,J0,J0] [(0,1,.t 26)]),Jp 28 (.box t2 4 (.t 27)),Jm 5 28] (Jq [Jm 29 5,Jc 30 c1 [.t 29],Jy 6 t1 JN,Js 6 6 30] (.seq (.blk 0 (Jk [Jm 32 5,Jn 33 32,Jf 34 2 33,Jl 35 34,JB 36 .neq 35 0,Jm 31 36] 31 (.seq (Jq [Jp 37 (.build JN [])] (Jq [Jm 38 5] (Jq [Jn 39 38] (Jq [Jf 40 2 39] (Jq [Jm 42 5] (Jq [Jn 43 42] (Jq [Jf 44 3 43] (.both (Jq [Jl 41 40] (.both (Jq [Jl 45 44] (Jq [Js 6 2 37] (Jq [Jm 3 41] (Jq [Jm 4 45] .skip)))) (Jq [Js 6 2 37] (Jq [Jm 3 41] (Jq [Jl 45 44] (Jq [Jm 4 45] .skip)))))) (.both (Jq [Jl 45 44] (.both (Jq [Jl 41 40] (Jq [Js 6 2 37] (Jq [Jm 3 41] (Jq [Jm 4 45] .skip)))) (Jq [Js 6 2 37] (Jq [Jl 41 40] (Jq [Jm 3 41] (Jq [Jm 4 45] .skip)))))) (Jq [Js 6 2 37] (.both (Jq [Jl 41 40] (Jq [Jm 3 41] (Jq [Jl 45 44] (Jq [Jm 4 45] .skip)))) (Jq [Jl 45 44] (Jq [Jl 41 40] (Jq [Jm 3 41] (Jq [Jm 4 45] .skip))))))))))))))) .ret) (Jk [JL 47 6 6,Jc 48 c2 [.t 47],JB 49 .gtr 48 60,Jm 46 49] 46 (Jq [Jp 50 (.build JN []),Js 6 2 50,Ji 3 25,Ji 4 0] .ret) .skip))) (Jq [JL 51 6 6,Js 6 2 51,Ji 3 0,Ji 4 0] .ret)))))⟩
def irPOf (c1 c2 t1:Nat):IFn:=⟨39,[.t 2,.cell 3 6 true,.t 4,.t 5],Jq [Jp 2 (.mv (.c (.sl true 4 []))),Jy 3 t1 JN,Ji 4 0,Ji 5 0] (Jq [Jm 12 0,Jc 13 c1 [.t 12],Jm 11 13,Je 14 11 0,Je 15 11 1,Je 16 11 2,Jm 6 14,Jm 7 15,Jm 8 16] (.seq (Jk [Jm 17 7,JB 18 .neq 17 0] 18 (Jq [Jp 19 (.build JN []),Jm 20 7,Jm 21 8,Jp 2 (.mv (.c (.sl true 4 []))),Js 6 3 19,Jm 4 20,Jm 5 21] .ret) .skip) (Jq [Jm 23 6,Jc 24 c2 [.t 23],Jm 22 24,Je 25 22 0,Je 26 22 1,Je 27 22 2,Jy 9 t1 JN,Js 6 9 25,Jm 7 26,Jm 10 27] (.seq (Jk [Jm 28 7,JB 29 .neq 28 0] 29 (.seq (Jq [Jp 30 (.build JN [])] (Jq [Jm 31 7] (Jq [Jm 32 6] (Jq [Jm 33 10] (Jq [Jp 2 (.mv (.c (.sl true 4 [])))] (.both (Jq [JA 34 4 32 33] (Jq [Jf 35 1 34] (.both (Jq [Jl 36 35] (Jq [Js 6 3 30] (Jq [Jm 4 31] (Jq [Jm 5 36] .skip)))) (Jq [Js 6 3 30] (Jq [Jm 4 31] (Jq [Jl 36 35] (Jq [Jm 5 36] .skip))))))) (Jq [Js 6 3 30] (Jq [Jm 4 31] (Jq [JA 34 4 32 33] (Jq [Jf 35 1 34] (Jq [Jl 36 35] (Jq [Jm 5 36] .skip)))))))))))) .ret) .skip) (.seq (.ops [Jm 37 6,JL 38 6 9,Jm 2 37,Js 6 3 38,Ji 4 0,Ji 5 0] true) .ret)))))⟩
def irTDepth (c1 t1:Nat):IFn:=⟨20,[.t 2],Jq [Jp 1 (.box t1 6 (.t 0)),Ji 2 0] (Jq [Ji 3 0] (.seq (Jq [Jf 6 5 1,Jl 7 6,Jh 8 7,Ji 9 0] (.blk 0 (.loop (Jr 9 8 10 17 0 1 (Jq [JA 11 6 7 9,JL 12 6 11,Jy 5 t1 JN,Js 6 5 12] (Jz [Jm 13 3,JL 14 6 5,Jc 15 c1 [.t 14],Jp 16 (.mm true (.t 13) (.t 15)),Jm 3 16])))))) (Jq [Jm 18 3,JB 19 .add 18 1,Jm 2 19] .ret)))⟩
section
def Nrm (x x':A):Prop:=∀ κ v,VR κ v x→VR κ v x'
theorem acall_norm {P:Program} {f:FuncId} {args:List A} {H:Hp} {Q:A→Hp→Prop} (h:ACall P f args H (fun r H'=>∃ r',Nrm r r'∧Q r' H')):ACall P f args H Q:=by
 intro κ w vs hr hl hv
 refine (h κ w vs hr hl hv).mono ?_
 rintro e w' ⟨v,κ',x,H',rfl,h1,h2,h3,r',h4,h5⟩
 exact ⟨v,κ',r',H',rfl,h1,h2,h4 _ _ h3,h5⟩
theorem DR.isE {σ:St} {v:Value} {z:Bool} {sz:Nat} {rows:List (List D)} (h:DR σ v (.sl z sz rows)) (hz:rows=[]→z=true):DR σ v (.sl rows.isEmpty sz rows):=by
 cases h with
 | nilsl=>exact .nilsl sz
 | sl _ _ _ b o cap f hz' hcap hrow hc hd =>
   exact .sl rows.isEmpty sz rows b o cap f (fun e=>by
    have:=List.isEmpty_iff.1 e
    exact absurd this (hz' (hz this))) hcap hrow hc hd
 | emp _ a cap=>exact absurd (hz rfl) (by simp)
theorem nrm_node {a b c d e:A} {z:Bool} {rows:List (List D)} (hz:rows=[]→z=true):Nrm (.agg [a,b,c,d,e,.d (.sl z 6 rows)]) (.agg [a,b,c,d,e,.d (.sl rows.isEmpty 6 rows)]):=by
 intro κ v h
 cases h with
 | agg vs _ hl hh =>
   refine .agg vs _ (by simpa using hl) fun i v a hv ha => ?_
   match i with
   | 0=>exact hh 0 v _ hv ha
   | 1=>exact hh 1 v _ hv ha
   | 2=>exact hh 2 v _ hv ha
   | 3=>exact hh 3 v _ hv ha
   | 4=>exact hh 4 v _ hv ha
   | 5 =>
     simp at ha
     subst ha
     have:=hh 5 v _ hv rfl
     cases this with
     | d hd=>exact .d (hd.isE hz)
   | i+6=>simp at ha
structure PF where
 (now fail is took want word node done put list file use_ def_ params param typed kind tfield block stmt sets expr with_ sum term post atom entry:FuncId)
 (tn tt tp tb:TypeId)
structure KHas (P:Program) (F:PF):Prop where
 now:Has P F.now (irPNow F.tt)
 fail:Has P F.fail irPFail
 is:Has P F.is (irPIs F.now F.tt)
 took:Has P F.took (irPTook F.is)
 want:Has P F.want (irPWant F.took F.fail)
 word:Has P F.word (irPWord F.now F.fail F.tt)
 node:HasT P [10] F.node (irPNode F.tn)
 done:Has P F.done (irPDone F.tn)
 put:Has P F.put (irPPut F.tn)
 list:Has P F.list (irPList F.took F.put F.want)
 kind:Has P F.kind (irPKind F.node F.took F.tfield F.list F.want F.kind F.put F.fail F.done F.tb F.tn)
 tfield:Has P F.tfield (irPTField F.node F.word F.want F.kind F.put F.done F.tn)
 kTField:callOk P F.tfield=true
 kKind:callOk P F.kind=true
structure PHas (P:Program) (F:PF):Prop extends KHas P F where
 file:Has P F.file (irPFile F.node F.now F.is F.use_ F.put F.def_ F.fail F.done F.tn)
 use_:Has P F.use_ (irPUse F.node F.want F.word F.done F.put F.tn)
 def_:Has P F.def_ (irPDef F.node F.want F.word F.params F.typed F.block F.put F.done F.tn)
 params:Has P F.params (irPParams F.node F.want F.param F.list F.done F.tb F.tn)
 param:Has P F.param (irPParam F.node F.word F.typed F.put F.done F.tn)
 typed:Has P F.typed (irPTyped F.took F.kind F.tn)
 block:Has P F.block (irPBlock F.node F.want F.took F.stmt F.put F.done F.tn)
 stmt:Has P F.stmt (irPStmt F.node F.took F.word F.typed F.put F.want F.expr F.block F.done F.sets F.tn)
 sets:Has P F.sets (irPSets F.now F.tt)
 expr:Has P F.expr (irPExpr F.sum F.took F.with_ F.tn)
 with_:Has P F.with_ (irPWith F.tn)
 sum:Has P F.sum (irPSum F.term F.took F.with_ F.tn)
 term:Has P F.term (irPTerm F.post F.took F.with_ F.tn)
 post:HasT P [15] F.post (irPPost F.atom F.took F.word F.expr F.list F.done F.tn)
 atom:HasT P [4000000] F.atom (irPAtom F.node F.now F.word F.took F.expr F.put F.want F.entry F.list F.params F.typed F.block F.fail F.done F.tb F.tn F.tt)
 entry:Has P F.entry (irPEntry F.node F.word F.want F.expr F.put F.done F.tn)
 kParam:callOk P F.param=true
 kExpr:callOk P F.expr=true
 kSum:callOk P F.sum=true
 kTerm:callOk P F.term=true
 kPost:callOk P F.post=true
 kEntry:callOk P F.entry=true
abbrev PSt:=Nat × Option Nat
def pst (tp:TypeId) (z:Bool) (L:List Tk) (s:PSt):Ob := .box tp [.d (.sl z 4 (L.map encTk)),.d (.int .i64 (s.1:Int)),.d (.int .i64 (if s.2.isSome then 24 else 0)),.d (.int .i64 ((s.2.getD 0:Nat):Int))]
def tookB (L:List Tk) (x:Bs) (s:PSt):Bool:=s.2.isNone && isT L s.1 x
def tookS (L:List Tk) (x:Bs) (s:PSt):PSt:=if tookB L x s then (s.1+1,s.2) else s
def failS (s:PSt):PSt:=if s.2.isNone then (s.1,some s.1) else s
def wantS (L:List Tk) (x:Bs) (s:PSt):PSt:=if tookB L x s then (s.1+1,s.2) else failS s
def wordOkB (L:List Tk) (s:PSt):Bool:=s.2.isNone && decide (kdT L s.1=1)
def wordS (L:List Tk) (s:PSt):PSt:=if wordOkB L s then (s.1+1,s.2) else if kdT L s.1=1 then s else failS s
def tokA_ (L:List Tk) (i:Nat):A:=match L[i]? with
 | some t => .agg ((encTk t).map .d)
 | none => .agg [.d (.int .i64 0),.d (.int .i64 0),.d (.str []),.d (.str [])]
theorem get_app {H:Hp} {i:Nat} {o:Ob} (h:H[i]?=some o) (X:Hp):(H++X)[i]?=some o:=by
 rw [List.getElem?_append_left (List.getElem?_eq_some_iff.1 h).1]; exact h
theorem cut_set' {H:Hp} {i:Nat} {o:Ob} (hcl:H.Closed) (ho:o.clr H.length=o):Hp.cut H.length (H.set i o)=H.set i o:=by
 rw [Hp.cut_set,cut_self hcl,ho]
theorem cut_appL {A X:Hp} {n:Nat} (h:A.length=n):Hp.cut n (A++X)=Hp.cut n A:=by
 unfold Hp.cut
 rw [List.take_append_of_le_length (by omega)]
theorem set_get {H:Hp} {i:Nat} (h:i < H.length) (o:Ob):(H.set i o)[i]?=some o:=by simp [h]
theorem up {H X:Hp} {i:Nat} {o o':Ob} (hi:i < H.length):(H.set i o++X).set i o'=H.set i o'++X:=by
 rw [List.set_append_left _ _ (by simpa using hi)]; simp
theorem upG {H X:Hp} {i:Nat} {o:Ob} (hi:i < H.length):(H.set i o++X)[i]?=some o:=get_app (by simp [hi]) X
theorem pst_clr {tp:TypeId} {z:Bool} {L:List Tk} {s:PSt} {n:Nat}:(pst tp z L s).clr n=pst tp z L s:=by simp [pst]
section
variable {P:Program} {F:PF} {z:Bool} {L:List Tk} {H:Hp} {i:Nat} {s:PSt}
theorem KHas.now' (hF:KHas P F) (hi:H[i]?=some (pst F.tp z L s)):ACall P F.now [.ptr i 0] H (fun r H'=>r=tokA_ L s.1∧H'=H):=by
 obtain ⟨fn,hf,hcf⟩:=hF.now
 refine acall_fin hf hcf (by simp [irPNow]) fun hcl _ => ?_
 unfold pst at hi
 have hA:=get_app hi
 simp [irPNow,hA]
 by_cases h:s.1 < L.length
 · have hr:=rowAt_map encTk h
   simp [encTk] at hr
   simp [h,hA,hr]
   simp [RetK,cut_app hcl,tokA_,h,encTk]
 · simp [h]
   simp [RetK,cut_app hcl,tokA_,h]
theorem KHas.fail' (hF:KHas P F) (hi:H[i]?=some (pst F.tp z L s)):ACall P F.fail [.ptr i 0,.d (.int .i64 24)] H (fun r H'=>r = .tup []∧H'=H.set i (pst F.tp z L (failS s))):=by
 obtain ⟨fn,hf,hcf⟩:=hF.fail
 refine acall_fin hf hcf (by simp [irPFail]) fun hcl _ => ?_
 have hil:=scan_len hi
 obtain ⟨j,st⟩:=s
 cases st with
 | some q =>
   rw [show failS (j,some q)=(j,some q) from rfl,Hp.set_self hi]
   unfold pst at hi
   simp [irPFail,hi]
   simp [RetK,cut_self hcl]
 | none =>
   unfold pst at hi
   simp [irPFail,hi,set_get hil]
   simp [RetK,failS,pst]
   (refine cut_set' hcl ?_; rfl)
theorem KHas.is' (hF:KHas P F) (hi:H[i]?=some (pst F.tp z L s)) (x:Bs):ACall P F.is [.ptr i 0,.d (.str x)] H (fun r H'=>r = .d (.bool (isT L s.1 x))∧H'=H):=by
 obtain ⟨fn,hf,hcf⟩:=hF.is
 refine acall_fin hf hcf (by simp [irPIs]) fun hcl _ => ?_
 simp [irPIs]
 refine CallK_of' (hF.now' hi) ?_
 unfold tokA_ isT
 cases h:L[s.1]? with
 | none =>
   simp
   simp [RetK,cut_app hcl]
 | some t =>
   obtain ⟨k,a,l,w⟩:=t
   simp [encTk]
   by_cases h2:k=2
   · simp [h2]
     simp [RetK,cut_app hcl,h2]
   · by_cases h5:k=5
     · simp [h2,h5]
       simp [RetK,cut_app hcl,h5]
     · simp [h2,h5]
       simp [RetK,cut_app hcl,h2,h5]
theorem KHas.took' (hF:KHas P F) (hi:H[i]?=some (pst F.tp z L s)) (x:Bs) (hs:s.1≤1125899906842624):ACall P F.took [.ptr i 0,.d (.str x)] H (fun r H'=>r = .d (.bool (tookB L x s))∧H'=H.set i (pst F.tp z L (tookS L x s))):=by
 obtain ⟨fn,hf,hcf⟩:=hF.took
 refine acall_fin hf hcf (by simp [irPTook]) fun hcl _ => ?_
 have hil:=scan_len hi
 have g:=hF.is' hi x
 have hi':=hi
 obtain ⟨j,st⟩:=s
 cases st with
 | some q =>
   rw [show tookS L x (j,some q)=(j,some q) from rfl,show tookB L x (j,some q)=false from rfl,Hp.set_self hi]
   unfold pst at hi
   simp [irPTook,hi]
   simp [RetK,cut_self hcl]
 | none =>
   unfold pst at hi'
   simp [irPTook,hi']
   refine CallK_of' g ?_
   cases hb:isT L j x with
   | false =>
     rw [show tookS L x (j,none)=(j,none) from by simp [tookS,tookB,hb],show tookB L x (j,none)=false from by simp [tookB,hb],Hp.set_self hi]
     simp [hb]
     simp [RetK,cut_self hcl]
   | true =>
     have hw:IntKind.i64.wrap ((j:Int)+1)=((j+1:Nat):Int):=by simp only at hs; rw [wrap_i64 (by omega) (by omega)]; omega
     simp [hb,hi',set_get hil,hw]
     simp [RetK,tookS,tookB,hb,pst]
     (refine cut_set' hcl ?_; rfl)
theorem KHas.want' (hF:KHas P F) (hi:H[i]?=some (pst F.tp z L s)) (x:Bs) (hs:s.1≤1125899906842624):ACall P F.want [.ptr i 0,.d (.str x)] H (fun r H'=>r = .tup []∧H'=H.set i (pst F.tp z L (wantS L x s))):=by
 obtain ⟨fn,hf,hcf⟩:=hF.want
 refine acall_fin hf hcf (by simp [irPWant]) fun hcl _ => ?_
 have hil:=scan_len hi
 simp [irPWant]
 refine CallK_of' (hF.took' hi x hs) ?_
 cases hb:tookB L x s with
 | true =>
   simp [hb]
   simp [RetK,wantS,tookS,hb]
   exact cut_set' hcl pst_clr
 | false =>
   have h1:tookS L x s=s:=by simp [tookS,hb]
   have h2:wantS L x s=failS s:=by simp [wantS,hb]
   rw [h1,h2,Hp.set_self hi]
   simp [hb]
   refine CallK_of' (hF.fail' hi) ?_
   simp
   simp [RetK]
   exact cut_set' hcl pst_clr
def nob (tn:TypeId) (k f t:Int) (w:Bs) (a:Int) (z:Bool) (rows:List (List D)) (q:Nat):Ob := .box tn [.d (.int .i64 k),.d (.int .i64 f),.d (.int .i64 t),.d (.str w),.d (.int .i64 a),.osl z 6 rows q]
def nag (k f t:Int) (w:Bs) (a:Int) (z:Bool) (rows:List (List D)) (q:Nat):A := .agg [.d (.int .i64 k),.d (.int .i64 f),.d (.int .i64 t),.d (.str w),.d (.int .i64 a),.osl z 6 rows q]
theorem KHas.word' (hF:KHas P F) (hi:H[i]?=some (pst F.tp z L s)) (hs:s.1≤1125899906842624) {j:Nat} {k f t:Int} {w:Bs} {a:Int} {zz:Bool} {rows:List (List D)} {q:Nat} (hq:q < H.length) (hj:H[j]?=some (nob F.tn k f t w a zz rows q)) (hij:i ≠ j) :
 ACall P F.word [.ptr i 0,.ptr j 0] H (fun r H'=>r = .tup []∧H'=(H.set i (pst F.tp z L (wordS L s))).set j (nob F.tn k f t (if wordOkB L s then txT L s.1 else w) (if wordOkB L s then (s.1:Int) else a) zz rows q)):=by
 obtain ⟨fn,hf,hcf⟩:=hF.word
 refine acall_fin hf hcf (by simp [irPWord]) fun hcl _ => ?_
 have hil:=scan_len hi
 have hjl:=scan_len hj
 have hji:¬ j=i:=fun e=>hij e.symm
 simp [irPWord]
 refine CallK_of' (hF.now' hi) ?_
 have hk:∃ k' a' l',tokA_ L s.1 = .agg [.d (.int .i64 k'),.d (.int .i64 a'),.d (.str l'),.d (.str (txT L s.1))]∧k'=kdT L s.1:=by
  unfold tokA_ kdT txT
  cases L[s.1]? with
  | none=>exact ⟨_,_,_,rfl,rfl⟩
  | some t=>exact ⟨_,_,_,rfl,rfl⟩
 obtain ⟨k',a',l',hk1,hk2⟩:=hk
 rw [hk1]
 have hA:=get_app hi
 have hAj:=get_app hj
 unfold pst at hA
 unfold nob at hAj
 simp [hA]
 by_cases h1:kdT L s.1=1
 · obtain ⟨p,st⟩:=s
   simp only at h1 hk2 hs
   simp [hk2,h1]
   cases st with
   | some e =>
     simp [hA]
     simp [RetK,cut_app hcl,wordS,wordOkB,h1]
     rw [Hp.set_self hi,Hp.set_self hj]
   | none =>
     have hw:IntKind.i64.wrap ((p:Int)+1)=((p+1:Nat):Int):=by rw [wrap_i64 (by omega) (by omega)]; omega
     have e1:∀ X o,(H++X).set j o=H.set j o++X:=fun X o=>List.set_append_left _ _ hjl
     have e2:∀ X o,(H++X).set i o=H.set i o++X:=fun X o=>List.set_append_left _ _ hil
     have e3:∀ X o,(H.set j o++X)[i]?=some (pst F.tp z L (p,none)):=fun X o=>get_app (by rw [List.getElem?_set_ne hji]; exact hi) X
     have e4:∀ X o,(H.set j o++X)[j]?=some o:=fun X o=>get_app (by simp [hjl]) X
     have e5:∀ X o o',(H.set j o++X).set j o'=H.set j o'++X:=fun X o o'=>by rw [List.set_append_left _ _ (by simpa using hjl)]; simp
     have e6:∀ X o o',(H.set j o++X).set i o'=(H.set i o').set j o++X:=fun X o o'=>by rw [List.set_append_left _ _ (by simpa using hil),List.set_comm _ _ hji]
     unfold pst at e3
     simp [hA,hAj,e1,e3,e4,e5,hw]
     simp only [e6]
     simp [RetK,wordS,wordOkB,h1]
     rw [cut_appL (by simp),Hp.cut_set,Hp.cut_set,cut_self hcl]
     simp [nob,hq,pst]
 · simp [hk2,h1]
   refine CallK_of' (hF.fail' (get_app hi _)) ?_
   obtain ⟨p,st⟩:=s
   have e2:∀ X o,(H++X).set i o=H.set i o++X:=fun X o=>List.set_append_left _ _ hil
   have e3:∀ X o,(H.set i o++X)[i]?=some o:=fun X o=>get_app (by simp [hil]) X
   have e4:failS (p,st)=(p,some (st.getD p)):=by cases st<;>rfl
   rw [e4]
   simp only [e2]
   unfold pst at e3 ⊢
   simp [e3]
   simp only at h1
   simp [RetK,wordS,wordOkB,h1,e4]
   rw [cut_appL (by simp),Hp.cut_set,cut_self hcl]
   have e5:H.set i (pst F.tp z L (p,some (st.getD p)))=(H.set i (pst F.tp z L (p,some (st.getD p)))).set j (nob F.tn k f t w a zz rows q):=by
    refine (Hp.set_self ?_).symm
    rw [List.getElem?_set_ne hij]; exact hj
   exact e5
theorem KHas.node' (hF:KHas P F) (hi:H[i]?=some (pst F.tp z L s)) (k:Int) :
 ACall P F.node [.ptr i 0,.d (.int .i64 k)] H (fun r H'=>r=nag k s.1 0 [] 0 true [] (H.length+1)∧H'=H++[nob F.tn k s.1 0 [] 0 true [] (H.length+1),.tok 0 6 F.tn]):=by
 obtain ⟨fn,hf,hcf⟩:=hF.node
 refine acall_fink 2 hf hcf (by simp [irPNode]) fun hcl _ => ?_
 have hA:=get_app hi
 unfold pst at hA
 simp [irPNode,hA,tokA]
 simp [RetK,nag,nob,cut_appk hcl]
theorem KHas.done' (hF:KHas P F) (hi:H[i]?=some (pst F.tp z L s)) {k f t:Int} {w:Bs} {a:Int} {zz:Bool} {rows:List (List D)} {q:Nat} (hq:q < H.length) :
 ACall P F.done [.ptr i 0,nag k f t w a zz rows q] H (fun r H'=>r=nag k f s.1 w a zz rows q∧H'=H):=by
 obtain ⟨fn,hf,hcf⟩:=hF.done
 refine acall_fin hf hcf (by simp [irPDone]) fun hcl _ => ?_
 have hA:=get_app hi
 unfold pst at hA
 simp [irPDone,nag,hA]
 simp [RetK,nag,cut_app hcl,hq]
theorem KHas.put' (hF:KHas P F) {j:Nat} {k f t:Int} {w:Bs} {a:Int} {zz z2:Bool} {rows rows2:List (List D)} {q:Nat} (hj:H[j]?=some (nob F.tn k f t w a zz rows q)) (hq:H[q]?=some (.tok rows.length 6 F.tn)) (hb:(rows.length+rows2.length) * 72≤140737488355328) :
 ACall P F.put [.ptr j 0,.d (.sl z2 6 rows2)] H (fun r H'=>r = .tup []∧H'=(H.set q (.tok (rows++rows2).length 6 F.tn)).set j (nob F.tn k f t w a zz (rows++rows2) q)):=by
 obtain ⟨fn,hf,hcf⟩:=hF.put
 refine acall_fin hf hcf (by simp [irPPut]) fun hcl _ => ?_
 have hjl:=scan_len hj
 have hql:=scan_len hq
 have hqj:¬ q=j:=fun e=>by rw [e,hj] at hq; simp [nob] at hq
 have hj2:∀ o,(H.set q o)[j]?=some (nob F.tn k f t w a zz rows q):=fun o=>by rw [List.getElem?_set_ne hqj]; exact hj
 unfold nob at hj hj2
 simp [irPPut,hj,hq,hj2,appA,hb,slOf]
 simp [RetK,nob]
 rw [Hp.cut_set,Hp.cut_set,cut_self hcl]
 simp [hql]
def setsB (L:List Tk) (i:Nat):Bool:=decide (kdT L i=1) && (match L[i+1]? with
 | some t=>decide (t.k=5) && decide (t.x=[61])
 | none=>false)
theorem PHas.sets' (hF:PHas P F) (hi:H[i]?=some (pst F.tp z L s)) (hs:s.1≤1125899906842624):ACall P F.sets [.ptr i 0] H (fun r H'=>r = .d (.bool (setsB L s.1))∧H'=H):=by
 obtain ⟨fn,hf,hcf⟩:=hF.sets
 refine acall_fin hf hcf (by simp [irPSets]) fun hcl _ => ?_
 have hw:IntKind.i64.wrap ((s.1:Int)+1)=((s.1+1:Nat):Int):=by rw [wrap_i64 (by omega) (by omega)]; omega
 have hk:∃ k' a' l',tokA_ L s.1 = .agg [.d (.int .i64 k'),.d (.int .i64 a'),.d (.str l'),.d (.str (txT L s.1))]∧k'=kdT L s.1:=by
  unfold tokA_ kdT txT
  cases L[s.1]? with
  | none=>exact ⟨_,_,_,rfl,rfl⟩
  | some t=>exact ⟨_,_,_,rfl,rfl⟩
 obtain ⟨k',a',l',hk1,hk2⟩:=hk
 have g:=hF.now' hi
 rw [hk1] at g
 have hi':=hi
 unfold pst at hi'
 simp [irPSets]
 refine CallD_of g ?_
 by_cases h1:kdT L s.1=1
 · simp [hk2,h1,hi',hw]
   by_cases h2:s.1+1 < L.length
   · have h2':¬ (L.length:Int)≤(s.1:Int)+1:=by omega
     have hr:=rowAt_map encTk h2
     have hg:L[s.1+1]?=some L[s.1+1]:=List.getElem?_eq_getElem h2
     generalize L[s.1+1]=t at hr hg
     obtain ⟨k,a,l,w⟩:=t
     simp [encTk] at hr
     simp [h2',hi',hw,hr]
     by_cases h5:k=5
     · simp [h5]
       simp [RetK,cut_app hcl,setsB,hg,h1,h5]
     · simp [h5]
       simp [RetK,cut_app hcl,setsB,hg,h1,h5]
   · have h2':(L.length:Int)≤(s.1:Int)+1:=by omega
     simp [h2']
     simp [RetK,cut_self hcl,setsB,List.getElem?_eq_none (Nat.le_of_not_lt h2)]
 · simp [hk2,h1]
   simp [RetK,cut_self hcl,setsB,h1]
end
end
section
def G.wt:G→Nat
 | .expr | .sum | .sumL _ | .term | .termL _ | .post | .postL _ | .atom | .stmt | .entry=>1
 | _=>0
def PPre (L:List Tk) (n:Nat) (g:G) (s:PSt):Prop:=s.1+16 * g.c≤281474976710656∧g.c≤n∧(s.2=none→s.1≤L.length∧16 * (L.length - s.1)+g.c≤n)
def Rel (L:List Tk) (n:Nat) (g:G) (s:PSt) (m:N) (s':PSt):Prop :=
 match s.2 with
 | some q=>s'.2=some q∧s'.1≤s.1+g.wt
 | none => match pp L n g s.1 with
   | .out=>False
   | .bad q=>s'.2=some q∧s'.1≤L.length+n
   | .ok m' k=>m=m'∧s'=(k,none)
def PQ (tp:TypeId) (z:Bool) (L:List Tk) (n:Nat) (g:G) (H:Hp) (i:Nat) (X:Hp) (s:PSt):A→Hp→Prop:=fun r H'=>∃ m s',r=N.v m∧H'=H.set i (pst tp z L s')++X∧Rel L n g s m s'
def Mo (L:List Tk) (s s':PSt):Prop:=s'.2=none→s.2=none∧s.1≤s'.1∧(s.1≤L.length→s'.1≤L.length)
theorem Mo.refl {L:List Tk} (s:PSt):Mo L s s:=fun h=>⟨h,Nat.le_refl _,id⟩
theorem Mo.trans {L:List Tk} {s t u:PSt} (h:Mo L s t) (k:Mo L t u):Mo L s u:=fun e=>by
 obtain ⟨a1,a2,a3⟩:=k e
 obtain ⟨b1,b2,b3⟩:=h a1
 exact ⟨b1,by omega,fun q=>a3 (b3 q)⟩
theorem Mo.pre {L:List Tk} {n:Nat} {g g':G} {s s':PSt} (h:Mo L s s') (hp:PPre L (n+1) g s) (hc:g'.c < g.c) (hb:s'.1+16 * g'.c≤281474976710656):PPre L n g' s':=by
 obtain ⟨p1,p2,p3⟩:=hp
 refine ⟨hb,by omega,fun e => ?_⟩
 obtain ⟨a1,a2,a3⟩:=h e
 obtain ⟨b1,b2⟩:=p3 a1
 exact ⟨a3 b1,by have:=a3 b1; omega⟩
def UC (P:Program) (tp:TypeId) (z:Bool) (L:List Tk) (n:Nat) (g:G) (f:FuncId):Prop:=∀ (H X:Hp) (i:Nat) (s:PSt),i < H.length→PPre L n g s→ACall P f [.ptr i 0] (H.set i (pst tp z L s)++X) (PQ tp z L n g H i X s)
theorem UC_of {P:Program} {tp:TypeId} {z:Bool} {L:List Tk} {n:Nat} {g:G} {f:FuncId} (h:∀ (H:Hp) (i:Nat) (s:PSt),i < H.length→PPre L n g s→ACall P f [.ptr i 0] (H.set i (pst tp z L s)) (PQ tp z L n g H i [] s)):UC P tp z L n g f:=by
 intro H X i s hi hp
 have:=h (H++X) i s (by simp; omega) hp
 rw [List.set_append_left _ _ hi] at this
 refine this.mono ?_
 rintro r H' ⟨m,s',rfl,rfl,hr⟩
 refine ⟨m,s',rfl,?_,hr⟩
 rw [List.append_nil,List.set_append_left _ _ hi]
def UCc (P:Program) (tp tb:TypeId) (z:Bool) (L:List Tk) (n:Nat) (g:G) (f:FuncId):Prop:=∀ (H X:Hp) (i q:Nat) (s:PSt),i < H.length→X[q]?=some (.box tb [.ptr i 0])→PPre L n g s→ACall P f [.ptr (H.length+q) 0] (H.set i (pst tp z L s)++X) (PQ tp z L n g H i X s)
theorem UCc_of {P:Program} {tp tb:TypeId} {z:Bool} {L:List Tk} {n:Nat} {g:G} {f:FuncId} (h:∀ (H:Hp) (i q:Nat) (s:PSt),i < H.length→(∀ o X,(H.set i o++X)[q]?=some (.box tb [.ptr i 0]))→PPre L n g s→ACall P f [.ptr q 0] (H.set i (pst tp z L s)) (PQ tp z L n g H i [] s)):UCc P tp tb z L n g f:=by
 intro H X i q s hi hq hp
 have hql:q < X.length:=(List.getElem?_eq_some_iff.1 hq).1
 have:=h (H++X) i (H.length+q) s (by simp; omega) (fun o Y=>by
  rw [List.set_append_left _ _ hi,List.append_assoc,List.getElem?_append_right (by simp)]
  simp only [List.length_set,Nat.add_sub_cancel_left]
  rw [List.getElem?_append_left hql]; exact hq) hp
 rw [List.set_append_left _ _ hi] at this
 refine this.mono ?_
 rintro r H' ⟨m,s',rfl,rfl,hr⟩
 refine ⟨m,s',rfl,?_,hr⟩
 rw [List.append_nil,List.set_append_left _ _ hi]
@[simp] theorem gS (H : Hp) (i : Nat) (o : Ob) (X : Hp) (k : Nat) : (List.set H i o ++ X)[H.length + k]? = X[k]? := by
  rw [List.getElem?_append_right (by simp)]; simp
@[simp] theorem gS0 (H:Hp) (i:Nat) (o:Ob) (X:Hp):(List.set H i o++X)[H.length]?=X[0]?:=gS H i o X 0
@[simp] theorem sS (H : Hp) (i : Nat) (o : Ob) (X : Hp) (k : Nat) (x : Ob) : (List.set H i o ++ X).set (H.length + k) x = List.set H i o ++ X.set k x := by
  rw [List.set_append_right _ _ (by simp)]; simp
@[simp] theorem sS0 (H:Hp) (i:Nat) (o:Ob) (X:Hp) (x:Ob):(List.set H i o++X).set H.length x=List.set H i o++X.set 0 x:=sS H i o X 0 x
theorem pget {tp:TypeId} {z:Bool} {L:List Tk} {H:Hp} {i:Nat} (hi:i < H.length) (s:PSt) (X:Hp):(H.set i (pst tp z L s)++X)[i]?=some (.box tp [.d (.sl z 4 (L.map encTk)),.d (.int .i64 (s.1:Int)),.d (.int .i64 (if s.2.isSome then 24 else 0)),.d (.int .i64 ((s.2.getD 0:Nat):Int))]):=upG hi
theorem cutP {tp:TypeId} {z:Bool} {L:List Tk} {H X:Hp} {i:Nat} {s s':PSt} (hcl:Hp.Closed (H.set i (pst tp z L s))):Hp.cut H.length (H.set i (pst tp z L s')++X)=H.set i (pst tp z L s'):=by
 have e:H.set i (pst tp z L s')=(H.set i (pst tp z L s)).set i (pst tp z L s'):=by simp
 rw [cut_appL (by simp),e,Hp.cut_set]
 have:=cut_self hcl
 rw [List.length_set] at this
 rw [this,pst_clr]
theorem failS_le {s s':PSt} (h:failS s=s'):s'.1=s.1:=by subst h; unfold failS; split<;>rfl
theorem wantS_le {L:List Tk} {x:Bs} {s s':PSt} (h:wantS L x s=s'):s'.1≤s.1+1:=by
 subst h; unfold wantS; split
 · simp
 · rw [failS_le rfl]; omega
theorem wordS_le {L:List Tk} {s s':PSt} (h:wordS L s=s'):s'.1≤s.1+1:=by
 subst h; unfold wordS; split
 · simp
 · split
   · omega
   · rw [failS_le rfl]; omega
section
variable {P:Program} {F:PF} {z:Bool} {L:List Tk} {H X:Hp} {i:Nat} {s:PSt}
theorem KHas.nowA (hF:KHas P F) (hi:i < H.length):ACall P F.now [.ptr i 0] (H.set i (pst F.tp z L s)++X) (fun r H'=>r=tokA_ L s.1∧H'=H.set i (pst F.tp z L s)++X):=hF.now' (upG hi)
theorem KHas.failA (hF:KHas P F) (hi:i < H.length):ACall P F.fail [.ptr i 0,.d (.int .i64 24)] (H.set i (pst F.tp z L s)++X) (fun r H'=>r = .tup []∧H'=H.set i (pst F.tp z L (failS s))++X):=by
 have:=hF.fail' (s:=s) (z:=z) (L:=L) (upG (X:=X) hi); rwa [up hi] at this
theorem KHas.isA (hF:KHas P F) (hi:i < H.length) (x:Bs):ACall P F.is [.ptr i 0,.d (.str x)] (H.set i (pst F.tp z L s)++X) (fun r H'=>r = .d (.bool (isT L s.1 x))∧H'=H.set i (pst F.tp z L s)++X):=hF.is' (upG hi) x
theorem KHas.tookA (hF:KHas P F) (hi:i < H.length) (x:Bs) (hs:s.1≤1125899906842624):ACall P F.took [.ptr i 0,.d (.str x)] (H.set i (pst F.tp z L s)++X) (fun r H'=>r = .d (.bool (tookB L x s))∧H'=H.set i (pst F.tp z L (tookS L x s))++X):=by
 have:=hF.took' (s:=s) (z:=z) (L:=L) (upG (X:=X) hi) x hs; rwa [up hi] at this
theorem KHas.wantA (hF:KHas P F) (hi:i < H.length) (x:Bs) (hs:s.1≤1125899906842624):ACall P F.want [.ptr i 0,.d (.str x)] (H.set i (pst F.tp z L s)++X) (fun r H'=>r = .tup []∧H'=H.set i (pst F.tp z L (wantS L x s))++X):=by
 have:=hF.want' (s:=s) (z:=z) (L:=L) (upG (X:=X) hi) x hs; rwa [up hi] at this
theorem KHas.wordA (hF:KHas P F) (hi:i < H.length) (hs:s.1≤1125899906842624) {j:Nat} {k f t:Int} {w:Bs} {a:Int} {zz:Bool} {rows:List (List D)} {q:Nat} (hj:X[j]?=some (nob F.tn k f t w a zz rows (H.length+q))) (hq:q < X.length) :
 ACall P F.word [.ptr i 0,.ptr (H.length+j) 0] (H.set i (pst F.tp z L s)++X) (fun r H'=>r = .tup []∧H'=H.set i (pst F.tp z L (wordS L s))++X.set j (nob F.tn k f t (if wordOkB L s then txT L s.1 else w) (if wordOkB L s then (s.1:Int) else a) zz rows (H.length+q))):=by
 have:=hF.word' (s:=s) (z:=z) (L:=L) (upG (X:=X) hi) hs (j:=H.length+j) (q:=H.length+q) (by simp; omega) (by rw [gS]; exact hj) (by omega)
 rwa [up hi,sS] at this
theorem KHas.nodeA (hF:KHas P F) (hi:i < H.length) (k:Int) :
 ACall P F.node [.ptr i 0,.d (.int .i64 k)] (H.set i (pst F.tp z L s)++X) (fun r H'=>r=nag k s.1 0 [] 0 true [] (H.length+(X.length+1))∧H'=H.set i (pst F.tp z L s)++(X++[nob F.tn k s.1 0 [] 0 true [] (H.length+(X.length+1)),.tok 0 6 F.tn])):=by
 have:=hF.node' (s:=s) (z:=z) (L:=L) (upG (X:=X) hi) k
 simp only [List.length_append,List.length_set,Nat.add_assoc,List.append_assoc] at this
 exact this
theorem KHas.doneA (hF:KHas P F) (hi:i < H.length) {k f t:Int} {w:Bs} {a:Int} {zz:Bool} {rows:List (List D)} {q:Nat} (hq:q < X.length) :
 ACall P F.done [.ptr i 0,nag k f t w a zz rows (H.length+q)] (H.set i (pst F.tp z L s)++X) (fun r H'=>r=nag k f s.1 w a zz rows (H.length+q)∧H'=H.set i (pst F.tp z L s)++X) :=
 hF.done' (upG hi) (by simp; omega)
theorem KHas.putA (hF:KHas P F) {o:Ob} {j:Nat} {k f t:Int} {w:Bs} {a:Int} {zz z2:Bool} {rows rows2:List (List D)} {q:Nat} (hj:X[j]?=some (nob F.tn k f t w a zz rows (H.length+q))) (hq:X[q]?=some (.tok rows.length 6 F.tn)) (hb:(rows.length+rows2.length) * 72≤140737488355328) :
 ACall P F.put [.ptr (H.length+j) 0,.d (.sl z2 6 rows2)] (H.set i o++X) (fun r H'=>r = .tup []∧H'=H.set i o++(X.set q (.tok (rows++rows2).length 6 F.tn)).set j (nob F.tn k f t w a zz (rows++rows2) (H.length+q))):=by
 have:=hF.put' (H:=H.set i o++X) (j:=H.length+j) (q:=H.length+q) (z2:=z2) (rows2:=rows2) (by rw [gS]; exact hj) (by rw [gS]; exact hq) hb
 rwa [sS,sS] at this
end
section
variable {L:List Tk} {x:Bs} {p q:Nat}
@[simp] theorem tookB_some:tookB L x (p,some q)=false:=rfl
@[simp] theorem tookB_none:tookB L x (p,none)=isT L p x:=by simp [tookB]
@[simp] theorem tookS_some:tookS L x (p,some q)=(p,some q):=rfl
@[simp] theorem tookS_none:tookS L x (p,none)=if isT L p x then (p+1,none) else (p,none):=by simp [tookS]
@[simp] theorem failS_some:failS (p,some q)=(p,some q):=rfl
@[simp] theorem failS_none:failS (p,none)=(p,some p):=rfl
@[simp] theorem wantS_some:wantS L x (p,some q)=(p,some q):=rfl
@[simp] theorem wantS_none:wantS L x (p,none)=if isT L p x then (p+1,none) else (p,some p):=by simp [wantS]
@[simp] theorem wordOkB_some:wordOkB L (p,some q)=false:=rfl
@[simp] theorem wordOkB_none:wordOkB L (p,none)=decide (kdT L p=1):=by simp [wordOkB]
@[simp] theorem wordS_some:wordS L (p,some q)=(p,some q):=by unfold wordS; simp
@[simp] theorem wordS_none:wordS L (p,none)=if kdT L p=1 then (p+1,none) else (p,some p):=by unfold wordS; by_cases h:kdT L p=1<;>simp [h]
theorem tookS_mo {s s':PSt} (h:tookS L x s=s'):Mo L s s':=by
 subst h
 unfold tookS
 split
 · rename_i e
   simp only [tookB,Bool.and_eq_true,Option.isNone_iff_eq_none] at e
   exact fun _=>⟨e.1,by simp,fun _=>isT_lt e.2⟩
 · exact .refl s
theorem failS_mo {s s':PSt} (h:failS s=s'):Mo L s s':=by
 subst h
 unfold failS
 split
 · intro e; cases e
 · exact .refl s
theorem wantS_mo {s s':PSt} (h:wantS L x s=s'):Mo L s s':=by
 subst h
 unfold wantS
 split
 · rename_i e
   simp only [tookB,Bool.and_eq_true,Option.isNone_iff_eq_none] at e
   exact fun _=>⟨e.1,by simp,fun _=>isT_lt e.2⟩
 · exact failS_mo rfl
theorem wordS_mo {s s':PSt} (h:wordS L s=s'):Mo L s s':=by
 subst h
 unfold wordS
 split
 · rename_i e
   simp only [wordOkB,Bool.and_eq_true,Option.isNone_iff_eq_none,decide_eq_true_eq] at e
   exact fun _=>⟨e.1,by simp,fun _=>kdT_lt (by omega)⟩
 · split
   · exact .refl s
   · exact failS_mo rfl
theorem Rel.some' {n:Nat} {g:G} {m:N} {s':PSt} (h:Rel L n g (p,some q) m s'):∃ a,s'=(a,some q)∧a≤p+g.wt:=by
 obtain ⟨a,b⟩:=s'
 obtain ⟨h1,h2⟩:=h
 simp only at h1 h2
 subst h1
 exact ⟨a,rfl,h2⟩
theorem Rel.none' {n:Nat} {g:G} {m:N} {s':PSt} (h:Rel L n g (p,none) m s'):(∃ q a,pp L n g p = .bad q∧s'=(a,some q)∧a≤L.length+n)∨∃ k,pp L n g p = .ok m k∧s'=(k,none):=by
 obtain ⟨a,b⟩:=s'
 simp only [Rel] at h
 split at h
 · exact h.elim
 · rename_i q' e
   obtain ⟨h1,h2⟩:=h
   subst h1
   exact .inl ⟨q',a,e,rfl,h2⟩
 · rename_i m' k e
   obtain ⟨rfl,h2⟩:=h
   exact .inr ⟨k,e,h2⟩
theorem Rel.mo {n:Nat} {g:G} {m:N} {s s':PSt} (h:Rel L n g s m s'):Mo L s s':=by
 obtain ⟨p,st⟩:=s
 cases st with
 | some q =>
   obtain ⟨a,rfl,-⟩:=h.some'
   intro e; cases e
 | none =>
   rcases h.none' with ⟨q,a,-,rfl,-⟩ | ⟨k,h1,rfl⟩
   · intro e; cases e
   · have:=pp_adv (L:=L) n g p
     rw [h1] at this
     obtain ⟨a1,a2,a3⟩:=this
     exact fun _=>⟨rfl,a1,fun h=>by simp only at h ⊢; omega⟩
theorem Rel.le {n:Nat} {g:G} {m:N} {s s':PSt} (h:Rel L n g s m s'):s'.1≤s.1+1∨s'.1≤L.length+n∨(s.1=s'.1∨s'.1≤L.length):=by
 obtain ⟨p,st⟩:=s
 cases st with
 | some q =>
   obtain ⟨a,rfl,h2⟩:=h.some'
   have:g.wt≤1:=by cases g<;>simp [G.wt]
   exact .inl (by simp only; omega)
 | none =>
   rcases h.none' with ⟨q,a,-,rfl,h2⟩ | ⟨k,h1,rfl⟩
   · exact .inr (.inl h2)
   · have:=pp_adv (L:=L) n g p
     rw [h1] at this
     obtain ⟨a1,a2,a3⟩:=this
     exact .inr (.inr (by simp only; omega))
theorem Rel.wt0 {n:Nat} {g:G} {m:N} {s s':PSt} (hg:g.wt=0) (h:Rel L n g s m s'):s'.1≤s.1∨s'.1≤L.length+n∨(s.1=s'.1∨s'.1≤L.length):=by
 obtain ⟨p,st⟩:=s
 cases st with
 | some q =>
   obtain ⟨a,rfl,h2⟩:=h.some'
   exact .inl (by simp only; omega)
 | none =>
   rcases h.none' with ⟨q,a,-,rfl,h2⟩ | ⟨k,h1,rfl⟩
   · exact .inr (.inl h2)
   · have:=pp_adv (L:=L) n g p
     rw [h1] at this
     obtain ⟨a1,a2,a3⟩:=this
     exact .inr (.inr (by simp only; omega))
end
theorem fin_node {tp:TypeId} {z z':Bool} {L:List Tk} {n:Nat} {g:G} {H:Hp} {i:Nat} {s s':PSt} {k f t a:Int} {w:Bs} {rows:List (List D)} (ks:List N) (hrows:rows=ks.map N.enc) (hz:rows=[]→z'=true) (hr:Rel L n g s (N.new k f t w a ks) s') :
 ∃ r',Nrm (.agg [.d (.int .i64 k),.d (.int .i64 f),.d (.int .i64 t),.d (.str w),.d (.int .i64 a),.d (.sl z' 6 rows)]) r'∧PQ tp z L n g H i [] s r' (H.set i (pst tp z L s')):=by
 refine ⟨_,nrm_node hz,_,s',?_,by simp,hr⟩
 rw [N.v_new,hrows]
 cases ks<;>rfl
end
section
section
variable {P:Program} {F:PF} {z:Bool} {L:List Tk}
@[simp high] theorem rowOf_v (m : N) : rowOf 6 m.v = some m.enc := by
  obtain ⟨k,f,t,w,a,z,ks⟩:=m
  rw [N.v_mk,N.enc_mk]
  simp [rowOf]
theorem nl (H:Hp) (k:Nat):¬ H.length+k < H.length:=by omega
theorem PHas.use' (hF:PHas P F) (hL:L.length≤1048576) (n:Nat):UC P F.tp z L (n+1) .use F.use_:=by
 refine UC_of fun H i s hi hp => ?_
 obtain ⟨fn,hf,hcf⟩:=hF.use_
 refine acall_norm (acall_fin hf hcf (by simp [irPUse]) fun hcl _ => ?_)
 have hp1:=hp.1
 simp only [G.c] at hp1
 simp [irPUse]
 refine CallK_of' (hF.nodeA hi _) ?_
 simp [nag]
 refine CallK_of' (hF.wantA hi _ (by omega)) ?_
 generalize h1:wantS L _ s=s1
 have b1:=wantS_le h1
 simp
 refine CallK_of' (hF.nodeA hi _) ?_
 simp [nag]
 refine CallK_of' (hF.wordA (j:=6) (q:=5) hi (by omega) rfl (by simp)) ?_
 generalize h2:wordS L s1=s2
 have b2:=wordS_le h2
 simp [nob]
 refine CallK_of' (hF.doneA (q:=5) hi (by simp)) ?_
 simp [nag]
 refine CallK_of' (hF.putA (j:=3) (q:=2) rfl rfl (by simp)) ?_
 simp [nob]
 refine CallK_of' (hF.wantA hi _ (by omega)) ?_
 generalize h3:wantS L _ s2=s3
 have b3:=wantS_le h3
 simp
 refine CallK_of' (hF.wordA (j:=3) (q:=2) hi (by omega) rfl (by simp)) ?_
 generalize h4:wordS L s3=s4
 have b4:=wordS_le h4
 simp [nob]
 refine CallK_of' (hF.wantA hi _ (by omega)) ?_
 generalize h5:wantS L _ s4=s5
 have b5:=wantS_le h5
 simp
 refine CallK_of' (hF.doneA (q:=2) hi (by simp)) ?_
 simp [nag]
 simp [RetK,cutP hcl,nl]
 refine fin_node [N.new 23 s1.1 s2.1 (if wordOkB L s1 then txT L s1.1 else []) (if wordOkB L s1 then s1.1 else 0) []] (by simp [N.new,N.enc_mk]) (by simp) ?_
 subst h1 h2 h3 h4 h5
 obtain ⟨p,st⟩:=s
 cases st with
 | some q=>simp [Rel]
 | none =>
   obtain ⟨hp2,hp3⟩:=hp.2.2 rfl
   simp only [G.c] at hp2 hp3
   clear b1 b2 b3 b4 b5
   simp only [Rel,pp,wantR,wordR,kUse]
   by_cases c1:isT L p [117,115,101]=true
   case neg=>simp [c1]; omega
   have l1:=isT_lt c1
   simp only [wantS_none,c1,if_true]
   by_cases c2:kdT L (p+1)=1
   case neg=>simp [c2]; omega
   simp only [wordS_none,c2,if_true]
   by_cases c3:isT L (p+1+1) [46]=true
   case neg=>simp [c3]; omega
   simp only [wantS_none,c3,if_true]
   by_cases c4:kdT L (p+1+1+1)=1
   case neg=>simp [c4]; omega
   simp only [wordS_none,c4,if_true]
   by_cases c5:isT L (p+1+1+1+1) [59]=true
   case neg=>simp [c5]; omega
   simp [c1,c2,c3,c4,c5]
   simp [Int.add_assoc,Nat.add_assoc]
theorem PHas.def' (hF:PHas P F) (hL:L.length≤1048576) (n:Nat) (hn:n≤1099511627776) (hP:UC P F.tp z L n .params F.params) (hT:UC P F.tp z L n .typed F.typed) (hB:UC P F.tp z L n .block F.block):UC P F.tp z L (n+1) .defn F.def_:=by
 refine UC_of fun H i s hi hp => ?_
 obtain ⟨fn,hf,hcf⟩:=hF.def_
 refine acall_norm (acall_fin hf hcf (by simp [irPDef]) fun hcl _ => ?_)
 have hp1:=hp.1
 simp only [G.c] at hp1
 simp [irPDef]
 refine CallK_of' (hF.nodeA hi _) ?_
 simp [nag]
 refine CallK_of' (hF.wantA hi _ (by omega)) ?_
 generalize h1:wantS L _ s=s1
 have b1:=wantS_le h1
 have m1:=wantS_mo h1
 simp
 refine CallK_of' (hF.wordA (j:=3) (q:=2) hi (by omega) rfl (by simp)) ?_
 generalize h2:wordS L s1=s2
 have b2:=wordS_le h2
 have m2:=m1.trans (wordS_mo h2)
 simp [nob]
 refine CallK_of (hP H _ i s2 hi (m2.pre hp (by decide) (by simp only [G.c]; omega))) ?_
 rintro _ _ ⟨t3,s3,rfl,rfl,r3⟩
 have m3:=m2.trans r3.mo
 have b3:=r3.wt0 rfl
 simp [-rowOf]
 refine CallK_of (hT H _ i s3 hi (m3.pre hp (by decide) (by simp only [G.c]; omega))) ?_
 rintro _ _ ⟨t4,s4,rfl,rfl,r4⟩
 have m4:=m3.trans r4.mo
 have b4:=r4.wt0 rfl
 simp [-rowOf]
 refine CallK_of (hB H _ i s4 hi (m4.pre hp (by decide) (by simp only [G.c]; omega))) ?_
 rintro _ _ ⟨t5,s5,rfl,rfl,r5⟩
 simp [-rowOf]
 refine CallK_of' (hF.putA (j:=3) (q:=2) rfl rfl (by simp)) ?_
 simp [nob]
 refine CallK_of' (hF.doneA (q:=2) hi (by simp)) ?_
 simp [nag]
 simp [RetK,cutP hcl,nl]
 refine fin_node [t3,t4,t5] (by simp) (by simp) ?_
 clear b1 b2 b3 b4 m1 m2 m3 m4
 subst h1 h2
 obtain ⟨p,st⟩:=s
 cases st with
 | some q =>
   simp only [wantS_some,wordS_some] at r3
   obtain ⟨a,rfl,e3⟩:=r3.some'
   obtain ⟨b,rfl,e4⟩:=r4.some'
   obtain ⟨c,rfl,e5⟩:=r5.some'
   simp only [G.wt] at e3 e4 e5
   simp [Rel,G.wt]
   omega
 | none =>
   obtain ⟨hp2,hp3⟩:=hp.2.2 rfl
   simp only [G.c] at hp2 hp3
   simp only [Rel,pp,wantR,wordR,kDef]
   by_cases c1:isT L p [100,101,102]=true
   case neg =>
    simp [c1] at r3
    obtain ⟨a,rfl,e3⟩:=r3.some'
    obtain ⟨b,rfl,e4⟩:=r4.some'
    obtain ⟨c,rfl,e5⟩:=r5.some'
    simp only [G.wt] at e3 e4 e5
    simp [c1]
    omega
   have l1:=isT_lt c1
   simp only [wantS_none,c1,if_true] at r3
   by_cases c2:kdT L (p+1)=1
   case neg =>
    simp [c2] at r3
    obtain ⟨a,rfl,e3⟩:=r3.some'
    obtain ⟨b,rfl,e4⟩:=r4.some'
    obtain ⟨c,rfl,e5⟩:=r5.some'
    simp only [G.wt] at e3 e4 e5
    simp [c1,c2]
    omega
   simp only [wordS_none,c2,if_true] at r3
   rcases r3.none' with ⟨q,a,e,rfl,e3⟩ | ⟨k,e,rfl⟩
   · obtain ⟨b,rfl,e4⟩:=r4.some'
     obtain ⟨c,rfl,e5⟩:=r5.some'
     simp only [G.wt] at e4 e5
     simp [c1,c2,e,PR.then]
     omega
   rcases r4.none' with ⟨q,a,e',rfl,e4⟩ | ⟨k',e',rfl⟩
   · obtain ⟨c,rfl,e5⟩:=r5.some'
     simp only [G.wt] at e5
     simp [c1,c2,e,e',PR.then]
     omega
   rcases r5.none' with ⟨q,a,e'',rfl,e5⟩ | ⟨k'',e'',rfl⟩
   · simp [c1,c2,e,e',e'',PR.then]
     omega
   simp [c1,c2,e,e',e'',PR.then]
theorem PHas.typed' (hF:PHas P F) (hL:L.length≤1048576) (n:Nat) (hn:n≤1099511627776) (hK:UC P F.tp z L n .kind F.kind):UC P F.tp z L (n+1) .typed F.typed:=by
 refine UC_of fun H i s hi hp => ?_
 obtain ⟨fn,hf,hcf⟩:=hF.typed
 refine acall_fin hf hcf (by simp [irPTyped]) fun hcl _ => ?_
 have hp1:=hp.1
 simp only [G.c] at hp1
 simp [irPTyped]
 refine CallK_of' (hF.tookA hi _ (by omega)) ?_
 have no:tookB L [58] s=false→RetK (PQ F.tp z L (n+1) .typed H i [] s) .mk H.length (some (.agg [.d (.int .i64 0),.d (.int .i64 0),.d (.int .i64 0),.d (.str []),.d (.int .i64 0),.d (.sl true 6 [])])) (H.set i (pst F.tp z L (tookS L [58] s))++[Ob.box F.tn [.d (.int .i64 0),.d (.int .i64 0),.d (.int .i64 0),.d (.str []),.d (.int .i64 0),.d (.sl true 6 [])]]):=by
  intro h
  have e:tookS L [58] s=s:=by simp [tookS,h]
  rw [e]
  simp [RetK,cutP hcl]
  refine ⟨N.none,s,rfl,by simp,?_⟩
  obtain ⟨p,st⟩:=s
  cases st with
  | some q=>simp [Rel]
  | none =>
    simp at h
    simp [Rel,pp,h]
 cases hb:tookB L [58] s with
 | false =>
   simp
   exact no hb
 | true =>
   obtain ⟨p,st⟩:=s
   cases st with
   | some q=>simp at hb
   | none =>
     simp at hb
     have l1:=isT_lt hb
     obtain ⟨hp2,hp3⟩:=hp.2.2 rfl
     simp only [G.c] at hp2 hp3
     simp [hb]
     refine CallK_of (hK H _ i (p+1,none) hi ⟨by simp only [G.c]; omega,by simp only [G.c]; omega,fun _=>⟨l1,by simp only [G.c]; omega⟩⟩) ?_
     rintro _ _ ⟨t3,s3,rfl,rfl,r3⟩
     obtain ⟨k',f',t',w',a',z',ks'⟩:=t3
     simp [N.v_mk]
     simp [RetK,cutP hcl]
     refine ⟨.mk k' f' t' w' a' z' ks',s3,by simp [N.v_mk],by simp,?_⟩
     rcases r3.none' with ⟨q,a,e,rfl,e3⟩ | ⟨k,e,rfl⟩
     · simp [Rel,pp,hb,e]; omega
     · simp [Rel,pp,hb,e]
theorem PHas.param' (hF:PHas P F) (hL:L.length≤1048576) (n:Nat) (hn:n≤1099511627776) (hT:UC P F.tp z L n .typed F.typed):UCc P F.tp F.tb z L (n+1) .param F.param:=by
 refine UCc_of fun H i q0 s hi hq hp => ?_
 obtain ⟨fn,hf,hcf⟩:=hF.param
 refine acall_norm (acall_fin hf hcf (by simp [irPParam]) fun hcl _ => ?_)
 have hp1:=hp.1
 simp only [G.c] at hp1
 simp [irPParam,hq]
 refine CallK_of' (hF.nodeA hi _) ?_
 simp [nag,hq]
 refine CallK_of' (hF.wordA (j:=3) (q:=2) hi (by omega) rfl (by simp)) ?_
 generalize h2:wordS L s=s2
 have b2:=wordS_le h2
 have m2:=wordS_mo h2
 simp [nob,hq]
 refine CallK_of (hT H _ i s2 hi (m2.pre hp (by decide) (by simp only [G.c]; omega))) ?_
 rintro _ _ ⟨t4,s4,rfl,rfl,r4⟩
 simp [-rowOf]
 refine CallK_of' (hF.putA (j:=3) (q:=2) rfl rfl (by simp)) ?_
 simp [nob,hq]
 refine CallK_of' (hF.doneA (q:=2) hi (by simp)) ?_
 simp [nag]
 simp [RetK,cutP hcl,nl]
 refine fin_node [t4] (by simp) (by simp) ?_
 clear b2 m2
 subst h2
 obtain ⟨p,st⟩:=s
 cases st with
 | some q =>
   simp only [wordS_some] at r4
   obtain ⟨b,rfl,e4⟩:=r4.some'
   simp only [G.wt] at e4
   simp [Rel,G.wt]
   omega
 | none =>
   obtain ⟨hp2,hp3⟩:=hp.2.2 rfl
   simp only [G.c] at hp2 hp3
   simp only [Rel,pp,wantR,wordR]
   by_cases c2:kdT L p=1
   case neg =>
    simp [c2] at r4
    obtain ⟨b,rfl,e4⟩:=r4.some'
    simp only [G.wt] at e4
    simp [c2]
    omega
   simp only [wordS_none,c2,if_true] at r4
   rcases r4.none' with ⟨q,a,e',rfl,e4⟩ | ⟨k',e',rfl⟩
   · simp [c2,e',PR.then]
     omega
   simp [c2,e',PR.then]
theorem KHas.tfield' (hF:KHas P F) (hL:L.length≤1048576) (n:Nat) (hn:n≤1099511627776) (hT:UC P F.tp z L n .kind F.kind):UCc P F.tp F.tb z L (n+1) .tfield F.tfield:=by
 refine UCc_of fun H i q0 s hi hq hp => ?_
 obtain ⟨fn,hf,hcf⟩:=hF.tfield
 refine acall_norm (acall_fin hf hcf (by simp [irPTField]) fun hcl _ => ?_)
 have hp1:=hp.1
 simp only [G.c] at hp1
 simp [irPTField,hq]
 refine CallK_of' (hF.nodeA hi _) ?_
 simp [nag,hq]
 refine CallK_of' (hF.wordA (j:=3) (q:=2) hi (by omega) rfl (by simp)) ?_
 generalize h2:wordS L s=s2
 have b2:=wordS_le h2
 have m2:=wordS_mo h2
 simp [nob,hq]
 refine CallK_of' (hF.wantA hi _ (by omega)) ?_
 generalize h3:wantS L _ s2=s3
 have b3:=wantS_le h3
 have m3:=m2.trans (wantS_mo h3)
 simp [hq]
 refine CallK_of (hT H _ i s3 hi (m3.pre hp (by decide) (by simp only [G.c]; omega))) ?_
 rintro _ _ ⟨t4,s4,rfl,rfl,r4⟩
 simp [-rowOf]
 refine CallK_of' (hF.putA (j:=3) (q:=2) rfl rfl (by simp)) ?_
 simp [nob,hq]
 refine CallK_of' (hF.doneA (q:=2) hi (by simp)) ?_
 simp [nag]
 simp [RetK,cutP hcl,nl]
 refine fin_node [t4] (by simp) (by simp) ?_
 clear b2 m2 b3 m3
 subst h2 h3
 obtain ⟨p,st⟩:=s
 cases st with
 | some q =>
   simp only [wordS_some,wantS_some] at r4
   obtain ⟨b,rfl,e4⟩:=r4.some'
   simp only [G.wt] at e4
   simp [Rel,G.wt]
   omega
 | none =>
   obtain ⟨hp2,hp3⟩:=hp.2.2 rfl
   simp only [G.c] at hp2 hp3
   simp only [Rel,pp,wantR,wordR]
   by_cases c2:kdT L p=1
   case neg =>
    simp [c2] at r4
    obtain ⟨b,rfl,e4⟩:=r4.some'
    simp only [G.wt] at e4
    simp [c2]
    omega
   have l2:p < L.length:=kdT_lt (by omega)
   simp only [wordS_none,c2,if_true] at r4
   by_cases c3:isT L (p+1) [58]=true
   case neg =>
    simp [c3] at r4
    obtain ⟨b,rfl,e4⟩:=r4.some'
    simp only [G.wt] at e4
    simp [c2,c3]
    omega
   simp only [wantS_none,c3,if_true] at r4
   rcases r4.none' with ⟨q,a,e',rfl,e4⟩ | ⟨k',e',rfl⟩
   · simp [c2,c3,e',PR.then]
     omega
   simp [c2,c3,e',PR.then]
theorem PHas.entry' (hF:PHas P F) (hL:L.length≤1048576) (n:Nat) (hn:n≤1099511627776) (hT:UC P F.tp z L n .expr F.expr):UCc P F.tp F.tb z L (n+1) .entry F.entry:=by
 refine UCc_of fun H i q0 s hi hq hp => ?_
 obtain ⟨fn,hf,hcf⟩:=hF.entry
 refine acall_norm (acall_fin hf hcf (by simp [irPEntry]) fun hcl _ => ?_)
 have hp1:=hp.1
 simp only [G.c] at hp1
 simp [irPEntry,hq]
 refine CallK_of' (hF.nodeA hi _) ?_
 simp [nag,hq]
 refine CallK_of' (hF.wordA (j:=3) (q:=2) hi (by omega) rfl (by simp)) ?_
 generalize h2:wordS L s=s2
 have b2:=wordS_le h2
 have m2:=wordS_mo h2
 simp [nob,hq]
 refine CallK_of' (hF.wantA hi _ (by omega)) ?_
 generalize h3:wantS L _ s2=s3
 have b3:=wantS_le h3
 have m3:=m2.trans (wantS_mo h3)
 simp [hq]
 refine CallK_of (hT H _ i s3 hi (m3.pre hp (by decide) (by simp only [G.c]; omega))) ?_
 rintro _ _ ⟨t4,s4,rfl,rfl,r4⟩
 simp [-rowOf]
 refine CallK_of' (hF.putA (j:=3) (q:=2) rfl rfl (by simp)) ?_
 simp [nob,hq]
 refine CallK_of' (hF.doneA (q:=2) hi (by simp)) ?_
 simp [nag]
 simp [RetK,cutP hcl,nl]
 refine fin_node [t4] (by simp) (by simp) ?_
 clear b2 m2 b3 m3
 subst h2 h3
 obtain ⟨p,st⟩:=s
 cases st with
 | some q =>
   simp only [wordS_some,wantS_some] at r4
   obtain ⟨b,rfl,e4⟩:=r4.some'
   simp only [G.wt] at e4
   simp [Rel,G.wt]
   omega
 | none =>
   obtain ⟨hp2,hp3⟩:=hp.2.2 rfl
   simp only [G.c] at hp2 hp3
   simp only [Rel,pp,wantR,wordR]
   by_cases c2:kdT L p=1
   case neg =>
    simp [c2] at r4
    obtain ⟨b,rfl,e4⟩:=r4.some'
    simp only [G.wt] at e4
    simp [c2]
    omega
   have l2:p < L.length:=kdT_lt (by omega)
   simp only [wordS_none,c2,if_true] at r4
   by_cases c3:isT L (p+1) [58]=true
   case neg =>
    simp [c3] at r4
    obtain ⟨b,rfl,e4⟩:=r4.some'
    simp only [G.wt] at e4
    simp [c2,c3]
    omega
   simp only [wantS_none,c3,if_true] at r4
   rcases r4.none' with ⟨q,a,e',rfl,e4⟩ | ⟨k',e',rfl⟩
   · simp [c2,c3,e',PR.then]
     omega
   simp [c2,c3,e',PR.then]
end
end
section
theorem cutX {tp tn:TypeId} {z:Bool} {L:List Tk} {H X:Hp} {i:Nat} {s s':PSt} {jn jt m:Nat} {k f t:Int} {w:Bs} {a:Int} {zz:Bool} {rows:List (List D)} (hi:i < H.length) (ht:jt < X.length) (hcl:Hp.Closed (H.set i (pst tp z L s)++X)) :
 Hp.cut (H.length+X.length) (H.set i (pst tp z L s')++(X.set jt (.tok m 6 tn)).set jn (nob tn k f t w a zz rows (H.length+jt)))=H.set i (pst tp z L s')++(X.set jt (.tok m 6 tn)).set jn (nob tn k f t w a zz rows (H.length+jt)):=by
 have e:H.set i (pst tp z L s')++(X.set jt (.tok m 6 tn)).set jn (nob tn k f t w a zz rows (H.length+jt))=(((H.set i (pst tp z L s)++X).set i (pst tp z L s')).set (H.length+jt) (.tok m 6 tn)).set (H.length+jn) (nob tn k f t w a zz rows (H.length+jt)):=by
  rw [up hi,sS,sS]
 have hc:=cut_self hcl
 rw [List.length_append,List.length_set] at hc
 rw [e,Hp.cut_set,Hp.cut_set,Hp.cut_set,hc,pst_clr]
 have:H.length+jt < H.length+X.length:=by omega
 simp [nob,this]
def XL (tn:TypeId) (H X:Hp) (jn jt:Nat) (k f t:Int) (w:Bs) (a:Int) (zz:Bool) (ks:List N):Hp:=(X.set jt (.tok ks.length 6 tn)).set jn (nob tn k f t w a zz (ks.map N.enc) (H.length+jt))
def LQ (tp tn:TypeId) (z:Bool) (L:List Tk) (n:Nat) (g:G) (e:Bs) (H X:Hp) (i jn jt:Nat) (k f t:Int) (w:Bs) (a:Int) (zz:Bool) (ks0:List N) (s:PSt):A→Hp→Prop:=fun r H'=>∃ ks s',r = .tup []∧H'=H.set i (pst tp z L s')++XL tn H X jn jt k f t w a zz (ks0++ks)∧Rel L n (.list g e) s (N.bag ks) s'∧ks.length≤L.length+1
section
variable {P:Program} {F:PF} {z:Bool} {L:List Tk}
theorem KHas.list' (hF:KHas P F) (hL:L.length≤1048576) (n:Nat) (hn:n≤1099511627776) {g:G} {e:Bs} {fo:FuncId} {first cap:List A} {H X:Hp} {i:Nat} (hi:i < H.length) (hk:callOk P fo=true) (hlo:first.all (A.lo (H.length+X.length))=true∧cap.all (A.lo (H.length+X.length))=true) (hg:g.strict=true)
 {jn jt:Nat} {k f t:Int} {w:Bs} {a:Int} {zz:Bool} {ks0:List N} (h0:ks0.length≤1) (hjn:X[jn]?=some (nob F.tn k f t w a zz (ks0.map N.enc) (H.length+jt))) (hjt:X[jt]?=some (.tok ks0.length 6 F.tn))
 (hone:∀ (m:Nat),m < n→∀ (ks:List N) (s:PSt),PPre L m g s→ACall P fo (first++cap) (H.set i (pst F.tp z L s)++XL F.tn H X jn jt k f t w a zz ks) (PQ F.tp z L m g H i (XL F.tn H X jn jt k f t w a zz ks) s))
 (s:PSt) (hp:PPre L n (.list g e) s) :
 ACall P F.list [.ptr i 0,.ptr (H.length+jn) 0,.d (.str e),.fn (.func fo) first cap] (H.set i (pst F.tp z L s)++X) (LQ F.tp F.tn z L n g e H X i jn jt k f t w a zz ks0 s):=by
 obtain ⟨fn,hf,hcf⟩:=hF.list
 refine acall_fin hf hcf (by simp [irPList]) fun hcl _ => ?_
 have hp1:=hp.1
 simp only [G.c] at hp1
 have hjnl:jn < X.length:=(List.getElem?_eq_some_iff.1 hjn).1
 have hjtl:jt < X.length:=(List.getElem?_eq_some_iff.1 hjt).1
 have hne:¬ jt=jn:=fun e=>by rw [e,hjn] at hjt; simp [nob] at hjt
 have hX0:X=XL F.tn H X jn jt k f t w a zz (ks0++[]):=by
  simp only [List.append_nil,XL]
  rw [Hp.set_self hjt,Hp.set_self hjn]
 have hfin:∀ (ks:List N) (s':PSt),Rel L n (.list g e) s (N.bag ks) s'→ks.length≤L.length+1 →
  RetK (LQ F.tp F.tn z L n g e H X i jn jt k f t w a zz ks0 s) .mk (H.length+X.length) (some (.tup [])) (H.set i (pst F.tp z L s')++XL F.tn H X jn jt k f t w a zz (ks0++ks)):=by
  intro ks s' hr hkl
  refine ⟨by simp [XL],ks,s',by simp,?_,hr,hkl⟩
  exact cutX hi hjtl hcl
 simp [irPList]
 refine CallK_of' (hF.tookA hi _ (by omega)) ?_
 cases hb:tookB L e s with
 | true =>
   simp
   have hr:Rel L n (.list g e) s (N.bag []) (tookS L e s):=by
    obtain ⟨p,st⟩:=s
    cases st with
    | some q=>simp at hb
    | none =>
      simp at hb
      obtain ⟨hp0,hp2,hp3⟩:=hp
      obtain ⟨n',rfl⟩:∃ n',n=n'+1:=⟨n - 1,by simp only [G.c] at hp2; omega⟩
      simp [Rel,pp,hb]
   have:=hfin [] _ hr (by simp)
   rw [← hX0] at this
   exact this
 | false =>
   have hs0:tookS L e s=s:=by simp [tookS,hb]
   rw [hs0]
   simp
   obtain ⟨E,hE⟩:∃ E:Fr→Hp→Prop,E=fun fr H'=>∃ ks s',(Rel L n (.list g e) s (N.bag ks) s'∧ks.length≤L.length+1)∧H'=H.set i (pst F.tp z L s')++XL F.tn H X jn jt k f t w a zz (ks0++ks):=⟨_,rfl⟩
   have hE1:∀ fr ks s',Rel L n (.list g e) s (N.bag ks) s'→ks.length≤L.length+1→E fr (H.set i (pst F.tp z L s')++XL F.tn H X jn jt k f t w a zz (ks0++ks)):=fun fr ks s' h h'=>by subst hE; exact ⟨ks,s',⟨h,h'⟩,rfl⟩
   refine LoopK_outR 0 E E ?_ ?_ ?_
   rotate_left
   · intro fr H' h
     subst hE
     obtain ⟨ks,s',hr,rfl⟩:=h
     simp
     exact hfin ks s' hr.1 hr.2
   · intro fr H' h
     subst hE
     obtain ⟨ks,s',hr,rfl⟩:=h
     simp
     exact hfin ks s' hr.1 hr.2
   clear hE
   refine LoopM_of (H.length+X.length) (fun d fr H'=>∃ ks s',fr 0 = .ptr i 0∧fr 1 = .ptr (H.length+jn) 0∧fr 2 = .d (.str e)∧fr 3 = .fn (.func fo) first cap∧H'=H.set i (pst F.tp z L s')++XL F.tn H X jn jt k f t w a zz (ks0++ks) ∧
    ((d=0∧s'.2 ≠ none∧Rel L n (.list g e) s (N.bag ks) s'∧ks.length≤L.length+1)∨∃ p1,s'=(p1,none)∧s.2=none∧d≤n∧pp L n (.list g e) s.1=pp L d (.listL g e ks) p1∧p1≤L.length∧16 * (L.length - p1)+g.c+1≤d∧ks.length≤p1)) (match s.2 with | none=>n - 1 | some _=>0) (by simp) ⟨[],s,?_⟩ ?_
   · have hc:=cut_self hcl
     rw [List.length_append,List.length_set] at hc
     have hil2:i < H.length+X.length:=by omega
     refine ⟨by simp [hil2],by simp [hjnl],by simp,?_,?_,?_⟩
     · have h1:=hlo.1
       have h2:=hlo.2
       simp only [List.all_eq_true] at h1 h2
       simp
       exact ⟨h1,h2⟩
     · rw [← hX0]; simp [hc]
     · obtain ⟨p,st⟩:=s
       obtain ⟨hp0,hp2,hp3⟩:=hp
       simp only [G.c] at hp2 hp3
       cases st with
       | some q=>exact .inl ⟨rfl,by simp,by simp [Rel],by simp⟩
       | none =>
         obtain ⟨n',rfl⟩:∃ n',n=n'+1:=⟨n - 1,by omega⟩
         simp at hb
         obtain ⟨h1,h2⟩:=hp3 rfl
         refine .inr ⟨p,rfl,rfl,by simp,?_,h1,by simp; omega,by simp⟩
         simp [pp,hb]
   · rintro d fr H' ⟨ks,s',f0,f1,f2,f3,rfl,hd⟩
     have hil2:i < H.length+X.length:=by omega
     have hfn:A.clr (H.length+X.length) (.fn (.func fo) first cap) = .fn (.func fo) first cap:=by
      have h1:=hlo.1
      have h2:=hlo.2
      simp only [List.all_eq_true] at h1 h2
      simp
      exact ⟨h1,h2⟩
     have hcut:∀ ks s',Hp.cut (H.length+X.length) (H.set i (pst F.tp z L s')++XL F.tn H X jn jt k f t w a zz ks)=H.set i (pst F.tp z L s')++XL F.tn H X jn jt k f t w a zz ks:=fun ks s'=>cutX hi hjtl hcl
     have hi':=pget (tp:=F.tp) (z:=z) (L:=L) (H:=H) hi s' (XL F.tn H X jn jt k f t w a zz (ks0++ks))
     rcases hd with ⟨rfl,h1,h2,h3⟩ | ⟨p1,rfl,hs2,hdn,hpp,hp1',hrk,hks⟩
     · obtain ⟨p',st'⟩:=s'
       cases st' with
       | none=>simp at h1
       | some q =>
         simp [f0,hi']
         exact hE1 _ ks _ h2 h3
     · obtain ⟨d',rfl⟩:∃ d',d=d'+1:=⟨d - 1,by omega⟩
       simp [f0,hi',f1,f3]
       refine ⟨hk,?_⟩
       refine CallK_of (hone d' (by omega) (ks0++ks) (p1,none) ⟨by simp only; omega,by omega,fun _=>⟨hp1',by simp only; omega⟩⟩) ?_
       rintro _ _ ⟨t3,s3,rfl,rfl,r3⟩
       simp [-rowOf]
       have x1:(XL F.tn H X jn jt k f t w a zz (ks0++ks))[jn]?=some (nob F.tn k f t w a zz ((ks0++ks).map N.enc) (H.length+jt)):=by simp [XL,hjnl]
       have x2:(XL F.tn H X jn jt k f t w a zz (ks0++ks))[jt]?=some (.tok ((ks0++ks).map N.enc).length 6 F.tn):=by
        unfold XL
        rw [List.getElem?_set_ne (fun e=>hne e.symm)]
        simp [hjtl]
       refine CallK_of' (hF.putA x1 x2 (by simp; omega)) ?_
       have x3:((XL F.tn H X jn jt k f t w a zz (ks0++ks)).set jt (.tok ((ks0++ks).map N.enc++[t3.enc]).length 6 F.tn)).set jn (nob F.tn k f t w a zz ((ks0++ks).map N.enc++[t3.enc]) (H.length+jt))=XL F.tn H X jn jt k f t w a zz (ks0++(ks++[t3])):=by
        unfold XL
        rw [List.set_comm _ _ (fun e=>hne e.symm)]
        simp
       rw [x3]
       have hb3:s3.1≤1125899906842624:=by
        have:=r3.le
        simp only at this
        omega
       have hpn:pp L n (.list g e) s.1=pp L (d'+1) (.listL g e ks) p1:=hpp
       have hRel:∀ m s',(match pp L (d'+1) (.listL g e ks) p1 with | .out=>False | .bad q=>s'.2=some q∧s'.1≤L.length+n | .ok m' k=>m=m'∧s'=(k,none))→Rel L n (.list g e) s m s':=fun m s' h=>by
        unfold Rel
        rw [hs2]
        simp only
        rw [hpn]; exact h
       clear hpp
       simp [f0,f2]
       refine CallK_of' (hF.tookA hi _ hb3) ?_
       rcases r3.none' with ⟨q,b,hq,rfl,e3⟩ | ⟨j,hj,rfl⟩
       ·
        simp [f0]
        refine CallK_of' (hF.wantA hi _ hb3) ?_
        simp
        refine NextM_of (H.length+X.length) 0 (Nat.le_refl _) (by simp [XL]) (by omega) ⟨ks++[t3],(b,some q),?_⟩
        exact ⟨by simp [f0,hil2],by simp [f1,hjnl],by simp [f2],by simp only [Fr.clr_app,Fr.set_app,f3]; exact hfn,hcut _ _,.inl ⟨rfl,by simp,hRel _ _ (by simp [pp,hq,PR.then]; omega),by simp; omega⟩⟩
       · cases hjb:isT L j e with
         | true =>
           simp [hjb]
           refine hE1 _ _ _ (hRel _ _ ?_) (by simp; omega)
           simp [pp,hj,PR.then,hjb]
         | false =>
           simp [hjb,f0]
           refine CallK_of' (hF.wantA hi _ hb3) ?_
           simp
           have:=pp_adv (L:=L) d' g p1
           rw [hj] at this
           obtain ⟨v1,v2,v3⟩:=this
           have v2:=v2 hg
           cases hjc:isT L j [44] with
           | true =>
             refine NextM_of (H.length+X.length) d' (Nat.le_refl _) (by simp [XL]) (by omega) ⟨ks++[t3],(j+1,none),?_⟩
             exact ⟨by simp [f0,hil2],by simp [f1,hjnl],by simp [f2],by simp only [Fr.clr_app,Fr.set_app,f3]; exact hfn,hcut _ _,.inr ⟨j+1,rfl,hs2,by omega,by rw [hpn]; simp [pp,hj,PR.then,hjb,wantR,hjc],isT_lt hjc,by have:=isT_lt hjc; omega,by simp; omega⟩⟩
           | false =>
             refine NextM_of (H.length+X.length) 0 (Nat.le_refl _) (by simp [XL]) (by omega) ⟨ks++[t3],(j,some j),?_⟩
             exact ⟨by simp [f0,hil2],by simp [f1,hjnl],by simp [f2],by simp only [Fr.clr_app,Fr.set_app,f3]; exact hfn,hcut _ _,.inl ⟨rfl,by simp,hRel _ _ (by simp [pp,hj,PR.then,hjb,wantR,hjc]; omega),by simp; omega⟩⟩
end
end
section
theorem tookB_t {L:List Tk} {x:Bs} {s:PSt} (h:tookB L x s=true):∃ p,s=(p,none)∧isT L p x=true:=by
 obtain ⟨p,st⟩:=s
 cases st with
 | some q=>simp at h
 | none=>exact ⟨p,rfl,by simpa using h⟩
theorem tookS_f {L:List Tk} {x:Bs} {s:PSt} (h:tookB L x s=false):tookS L x s=s:=by simp [tookS,h]
theorem closedP {tp:TypeId} {z:Bool} {L:List Tk} {H:Hp} {i:Nat} {s:PSt} (hcl:Hp.Closed (H.set i (pst tp z L s))) (s':PSt):Hp.Closed (H.set i (pst tp z L s')):=by
 intro n hn
 have h:=hcl n (by simpa using hn)
 have e:H.set i (pst tp z L s')=(H.set i (pst tp z L s)).set i (pst tp z L s'):=by simp
 rw [e,List.map_set,h,pst_clr]
theorem cutPk {tp:TypeId} {z:Bool} {L:List Tk} {H:Hp} {i:Nat} {s:PSt} (hcl:Hp.Closed (H.set i (pst tp z L s))) (s':PSt) (k:Nat) (X:Hp):Hp.cut (H.length+k) (H.set i (pst tp z L s')++X)=H.set i (pst tp z L s')++(X.take k).map (Ob.clr (H.length+k)):=by
 have:=cut_appk (closedP hcl s') k X
 rwa [List.length_set] at this
section
variable {P:Program} {F:PF} {z:Bool} {L:List Tk}
theorem PHas.params' (hF:PHas P F) (hL:L.length≤1048576) (n:Nat) (hn:n≤1099511627776) (hQ:∀ m,m < n→UCc P F.tp F.tb z L m .param F.param):UC P F.tp z L (n+1) .params F.params:=by
 refine UC_of fun H i s hi hp => ?_
 obtain ⟨fn,hf,hcf⟩:=hF.params
 refine acall_norm (acall_fin hf hcf (by simp [irPParams]) fun hcl _ => ?_)
 have hp1:=hp.1
 simp only [G.c] at hp1
 simp [irPParams]
 refine CallK_of' (hF.nodeA hi _) ?_
 simp [nag]
 refine CallK_of' (hF.wantA hi _ (by omega)) ?_
 generalize h1:wantS L _ s=s1
 have b1:=wantS_le h1
 have m1:=wantS_mo h1
 simp
 refine CallK_of (hF.list' hL n hn (g := .param) (jn:=4) (jt:=3) (ks0:=[]) hi hF.kParam (by simp [A.lo]) rfl (by simp) rfl rfl (fun m hm ks s hps=>hQ m hm H _ i 0 s hi (by simp [XL]) hps) s1 (m1.pre hp (by decide) (by simp only [G.c]; omega))) ?_
 rintro _ _ ⟨ks,s2,rfl,rfl,r2,hkl⟩
 have b2:=r2.wt0 rfl
 simp [XL,nob]
 refine CallK_of' (hF.doneA (q:=3) hi (by simp)) ?_
 simp [nag]
 simp [RetK,cutP hcl,nl]
 refine fin_node ks (by simp) (by simp) ?_
 clear b1 b2 m1
 subst h1
 obtain ⟨p,st⟩:=s
 cases st with
 | some q =>
   simp only [wantS_some] at r2
   obtain ⟨b,rfl,e4⟩:=r2.some'
   simp only [G.wt] at e4
   simp [Rel,G.wt]
   omega
 | none =>
   obtain ⟨hp2,hp3⟩:=hp.2.2 rfl
   simp only [G.c] at hp2 hp3
   simp only [Rel,pp,wantR,wordR]
   by_cases c2:isT L p [40]=true
   case neg =>
    simp [c2] at r2
    obtain ⟨b,rfl,e4⟩:=r2.some'
    simp only [G.wt] at e4
    simp [c2]
    omega
   simp only [wantS_none,c2,if_true] at r2
   rcases r2.none' with ⟨q,a,e',rfl,e4⟩ | ⟨k',e',rfl⟩
   · simp [c2,e',PR.then]
     omega
   simp [c2,e',PR.then,N.bag,N.new,N.ks]
theorem KHas.kind' (hF:KHas P F) (hL:L.length≤1048576) (n:Nat) (hn:n≤1099511627776) (hQ:∀ m,m < n→UCc P F.tp F.tb z L m .tfield F.tfield) (hK:∀ m,m < n+1→UC P F.tp z L m .kind F.kind):UC P F.tp z L (n+1) .kind F.kind:=by
 refine UC_of fun H i s hi hp => ?_
 obtain ⟨fn,hf,hcf⟩:=hF.kind
 refine acall_norm (acall_fin hf hcf (by simp [irPKind]) fun hcl _ => ?_)
 have hp1:=hp.1
 simp only [G.c] at hp1
 simp [irPKind]
 refine CallK_of' (hF.nodeA hi _) ?_
 simp [nag]
 refine CallK_of' (hF.tookA hi _ (by omega)) ?_
 cases h1:tookB L [105,110,116] s with
 | true =>
   obtain ⟨p,rfl,c1⟩:=tookB_t h1
   simp [c1]
   refine CallK_of' (hF.doneA (q:=3) hi (by simp)) ?_
   simp [nag]
   simp [RetK,cutP hcl,nl]
   refine fin_node [] (by simp) (by simp) ?_
   simp [Rel,pp,kInt,c1]
 | false =>
 rw [tookS_f h1]
 simp
 refine CallK_of' (hF.tookA hi _ (by omega)) ?_
 cases h2:tookB L [115,116,114] s with
 | true =>
   obtain ⟨p,rfl,c2⟩:=tookB_t h2
   simp at h1
   simp [c2]
   refine CallK_of' (hF.doneA (q:=3) hi (by simp)) ?_
   simp [nag]
   simp [RetK,cutP hcl,nl]
   refine fin_node [] (by simp) (by simp) ?_
   simp [Rel,pp,kInt,kStr,h1,c2]
 | false =>
 rw [tookS_f h2]
 simp
 refine CallK_of' (hF.tookA hi _ (by omega)) ?_
 cases h3:tookB L [100,121,110] s with
 | true =>
   obtain ⟨p,rfl,c3⟩:=tookB_t h3
   simp at h1 h2
   simp [c3]
   refine CallK_of' (hF.doneA (q:=3) hi (by simp)) ?_
   simp [nag]
   simp [RetK,cutP hcl,nl]
   refine fin_node [] (by simp) (by simp) ?_
   simp [Rel,pp,kInt,kStr,kDyn,h1,h2,c3]
 | false =>
 rw [tookS_f h3]
 simp
 refine CallK_of' (hF.tookA hi _ (by omega)) ?_
 cases h4:tookB L [123] s with
 | true =>
   obtain ⟨p,rfl,c4⟩:=tookB_t h4
   simp at h1 h2 h3
   obtain ⟨hp2,hp3⟩:=hp.2.2 rfl
   simp only [G.c] at hp2 hp3
   have l4:=isT_lt c4
   simp [c4]
   refine CallK_of (hF.list' hL n hn (g := .tfield) (jn:=4) (jt:=3) (ks0:=[]) hi hF.kTField (by simp [A.lo]) rfl (by simp) rfl rfl (fun m hm ks s hps=>hQ m hm H _ i 0 s hi (by simp [XL]) hps) (p+1,none) ⟨by simp only [G.c]; omega,by simp only [G.c]; omega,fun _=>⟨l4,by simp only [G.c]; omega⟩⟩) ?_
   rintro _ _ ⟨ks,s2,rfl,rfl,r2,hkl⟩
   simp [XL,nob]
   refine CallK_of' (hF.doneA (q:=3) hi (by simp)) ?_
   simp [nag]
   simp [RetK,cutP hcl,nl]
   refine fin_node ks (by simp) (by simp) ?_
   rcases r2.none' with ⟨q,a,e',rfl,e4⟩ | ⟨k',e',rfl⟩
   · simp [Rel,pp,kInt,kStr,kDyn,h1,h2,h3,c4,e',PR.then]
     omega
   · simp [Rel,pp,kInt,kStr,kDyn,h1,h2,h3,c4,e',PR.then,N.bag,N.new,N.ks]
 | false =>
 rw [tookS_f h4]
 simp
 refine CallK_of' (hF.tookA hi _ (by omega)) ?_
 cases h5:tookB L [102,110] s with
 | true =>
   obtain ⟨p,rfl,c5⟩:=tookB_t h5
   simp at h1 h2 h3 h4
   obtain ⟨hp2,hp3⟩:=hp.2.2 rfl
   simp only [G.c] at hp2 hp3
   have l5:=isT_lt c5
   simp [c5]
   refine CallK_of' (hF.wantA hi _ (by simp only; omega)) ?_
   generalize h6:wantS L _ (p+1,none)=s6
   have b6:=wantS_le h6
   have m6:=wantS_mo h6
   simp
   refine CallK_of (hF.list' hL n hn (g := .kind) (jn:=4) (jt:=3) (ks0:=[]) hi hF.kKind (by simp [A.lo]; omega) rfl (by simp) rfl rfl (fun m hm ks s hps=>by simpa using hK m (by omega) H _ i s hi hps) s6 ⟨by simp only [G.c] at b6 ⊢; omega,by simp only [G.c]; omega,fun e=>⟨(m6 e).2.2 l5,by have:=(m6 e).2.1; simp only [G.c] at this ⊢; omega⟩⟩) ?_
   rintro _ _ ⟨ks,s7,rfl,rfl,r7,hkl⟩
   have b7:=r7.wt0 rfl
   have m7:=m6.trans r7.mo
   simp [XL,nob]
   simp only at b6
   refine CallK_of' (hF.wantA hi _ (by omega)) ?_
   generalize h8:wantS L _ s7=s8
   have b8:=wantS_le h8
   have m8:=m7.trans (wantS_mo h8)
   simp
   refine CallK_of (hK n (by omega) H _ i s8 hi ⟨by simp only [G.c]; omega,by simp only [G.c]; omega,fun e=>⟨(m8 e).2.2 l5,by have:=(m8 e).2.1; simp only [G.c] at this ⊢; omega⟩⟩) ?_
   rintro _ _ ⟨t9,s9,rfl,rfl,r9⟩
   simp [-rowOf]
   refine CallK_of' (hF.putA (j:=4) (q:=3) (rows:=ks.map N.enc) rfl (by simp) (by simp; omega)) ?_
   simp [nob]
   refine CallK_of' (hF.doneA (q:=3) hi (by simp)) ?_
   simp [nag]
   simp [RetK,cutP hcl,nl]
   refine fin_node (ks++[t9]) (by simp) (by simp) ?_
   clear b7 b8 m6 m7 m8
   subst h6 h8
   simp only [Rel,pp,wantR,wordR,kInt,kStr,kDyn,kFn,h1,h2,h3,h4,c5,if_true]
   by_cases c6:isT L (p+1) [40]=true
   case neg =>
    simp [c6] at r7
    obtain ⟨b,rfl,e7⟩:=r7.some'
    simp at r9
    obtain ⟨c,rfl,e9⟩:=r9.some'
    simp only [G.wt] at e7 e9
    simp [c6]
    omega
   have l6:=isT_lt c6
   simp only [wantS_none,c6,if_true] at r7
   rcases r7.none' with ⟨q,a,e',rfl,e7⟩ | ⟨k',e',rfl⟩
   · simp at r9
     obtain ⟨c,rfl,e9⟩:=r9.some'
     simp only [G.wt] at e9
     simp [c6,e',PR.then]
     omega
   by_cases c8:isT L k' [58]=true
   case neg =>
    simp [c8] at r9
    obtain ⟨c,rfl,e9⟩:=r9.some'
    simp only [G.wt] at e9
    have:=pp_adv (L:=L) n (.list .kind [41]) (p+1+1)
    rw [e'] at this
    have:=this.2.2
    simp [c6,c8,e',PR.then]
    omega
   simp only [wantS_none,c8,if_true] at r9
   rcases r9.none' with ⟨q,a,e'',rfl,e9⟩ | ⟨k'',e'',rfl⟩
   · simp [c6,c8,e',e'',PR.then]
     omega
   simp [c6,c8,e',e'',PR.then,N.bag,N.new,N.ks]
 | false =>
 rw [tookS_f h5]
 simp
 refine CallK_of' (hF.failA hi) ?_
 simp
 refine CallK_of' (hF.doneA (q:=3) hi (by simp)) ?_
 simp [nag]
 simp [RetK,cutP hcl,nl]
 refine fin_node [] (by simp) (by simp) ?_
 obtain ⟨p,st⟩:=s
 cases st with
 | some q=>simp [Rel,G.wt]
 | none =>
   simp at h1 h2 h3 h4 h5
   obtain ⟨hp2,hp3⟩:=hp.2.2 rfl
   simp only [G.c] at hp2 hp3
   simp [Rel,pp,kInt,kStr,kDyn,kFn,wantR,h1,h2,h3,h4,h5]
   omega
theorem PHas.block' (hF:PHas P F) (hL:L.length≤1048576) (n:Nat) (hn:n≤1099511627776) (hS:∀ m,m < n→UC P F.tp z L m .stmt F.stmt):UC P F.tp z L (n+1) .block F.block:=by
 refine UC_of fun H i s hi hp => ?_
 obtain ⟨fn,hf,hcf⟩:=hF.block
 refine acall_norm (acall_fin hf hcf (by simp [irPBlock]) fun hcl _ => ?_)
 have hp1:=hp.1
 simp only [G.c] at hp1
 simp [irPBlock]
 refine CallK_of' (hF.nodeA hi _) ?_
 simp [nag]
 refine CallK_of' (hF.wantA hi _ (by omega)) ?_
 generalize h1:wantS L _ s=s1
 have b1:=wantS_le h1
 simp
 obtain ⟨XX,hXX⟩:∃ XX:List N→Hp,XX=fun ks=>[Ob.box F.tn [.d (.int .i64 0),.d (.int .i64 0),.d (.int .i64 0),.d (.str []),.d (.int .i64 0),.d (.sl true 6 [])],nob F.tn 6 s.1 0 [] 0 true [] (H.length+2),.tok ks.length 6 F.tn,nob F.tn 6 s.1 0 [] 0 true (ks.map N.enc) (H.length+2)]:=⟨_,rfl⟩
 obtain ⟨E,hE⟩:∃ E:Fr→Hp→Prop,E=fun fr H'=>∃ ks s',(fr 0 = .ptr i 0∧fr 2 = .ptr H.length 0∧fr 3 = .ptr (H.length+3) 0)∧Rel L (n+1) .block s (N.new 6 s.1 s'.1 [] 0 ks) s'∧H'=H.set i (pst F.tp z L s')++XX ks:=⟨_,rfl⟩
 have hE1:∀ fr ks s',(fr 0 = .ptr i 0∧fr 2 = .ptr H.length 0∧fr 3 = .ptr (H.length+3) 0)→Rel L (n+1) .block s (N.new 6 s.1 s'.1 [] 0 ks) s'→E fr (H.set i (pst F.tp z L s')++XX ks):=fun fr ks s' h h'=>by subst hE; exact ⟨ks,s',h,h',rfl⟩
 refine LoopK_outR 0 E (fun _ _=>False) ?_ (fun _ _ h=>h.elim) ?_
 rotate_left
 · intro fr H' h
   subst hE
   obtain ⟨ks,s',⟨f0,f2,f3⟩,hr,rfl⟩:=h
   subst hXX
   simp [f0,f3,nob]
   refine CallK_of' (hF.doneA (q:=2) hi (by simp)) ?_
   simp [nag,f2]
   simp [RetK,cutP hcl,nl]
   exact fin_node ks (by simp) (by simp) hr
 clear hE
 have hcut:∀ ks s',Hp.cut (H.length+4) (H.set i (pst F.tp z L s')++XX ks)=H.set i (pst F.tp z L s')++XX ks:=fun ks s'=>by
  rw [cutPk hcl,hXX]; simp [nob]
 refine LoopM_of (H.length+4) (fun d fr H'=>∃ ks s',(fr 0 = .ptr i 0∧fr 2 = .ptr H.length 0∧fr 3 = .ptr (H.length+3) 0)∧H'=H.set i (pst F.tp z L s')++XX ks ∧
  ((d=0∧s'.2 ≠ none∧∀ m,Rel L (n+1) .block s m s')∨∃ p1,s'=(p1,none)∧s.2=none∧d≤n∧pp L (n+1) .block s.1=(pp L d (.stmts ks) p1).then (fun m j => .ok (N.new 6 s.1 j [] 0 m.ks) j)∧p1≤L.length∧16 * (L.length - p1)+7≤d∧ks.length≤p1)) (match s1.2 with | none=>n | some _=>0) (by simp) ⟨[],s1,?_⟩ ?_
 · have hil2:i < H.length+4:=by omega
   refine ⟨by simp [hil2],?_,?_⟩
   · rw [← hcut,hXX]; simp [nob]
   subst h1
   obtain ⟨p,st⟩:=s
   cases st with
   | some q=>exact .inl ⟨rfl,by simp,fun m=>by simp [Rel]⟩
   | none =>
     obtain ⟨hp2,hp3⟩:=hp.2.2 rfl
     simp only [G.c] at hp2 hp3
     by_cases c1:isT L p [123]=true
     · have l1:=isT_lt c1
       simp [c1]
       refine ⟨by simp [pp,wantR,c1],l1,by omega⟩
     · simp [c1]
       intro m
       simp [Rel,pp,wantR,c1]
       omega
 · rintro d fr H' ⟨ks,s',⟨f0,f2,f3⟩,rfl,hd⟩
   have hi':=pget (tp:=F.tp) (z:=z) (L:=L) (H:=H) hi s' (XX ks)
   have hil2:i < H.length+4:=by omega
   rcases hd with ⟨rfl,q1,q2⟩ | ⟨p1,rfl,hs2,hdn,hpp,hp1',hrk,hks⟩
   · obtain ⟨p',st'⟩:=s'
     cases st' with
     | none=>simp at q1
     | some q =>
       simp [f0,hi']
       exact hE1 _ ks _ (by simp [f0,f2,f3]) (q2 _)
   · obtain ⟨d',rfl⟩:∃ d',d=d'+1:=⟨d - 1,by omega⟩
     have hRel:∀ m s',(match (pp L (d'+1) (.stmts ks) p1).then (fun m j => .ok (N.new 6 s.1 j [] 0 m.ks) j) with | .out=>False | .bad q=>s'.2=some q∧s'.1≤L.length+(n+1) | .ok m' k=>m=m'∧s'=(k,none))→Rel L (n+1) .block s m s':=fun m s' h=>by
      unfold Rel
      rw [hs2]
      simp only
      rw [hpp]; exact h
     simp [f0,hi']
     refine CallK_of' (hF.tookA hi _ (by simp only; omega)) ?_
     cases hjb:isT L p1 [125] with
     | true =>
       simp [hjb]
       refine hE1 _ ks _ (by simp [f0,f2,f3]) (hRel _ _ ?_)
       simp [pp,PR.then,hjb,N.bag,N.new,N.ks]
     | false =>
       simp [hjb,f0]
       refine CallK_of (hS d' (by omega) H _ i (p1,none) hi ⟨by simp only [G.c]; omega,by simp only [G.c]; omega,fun _=>⟨hp1',by simp only [G.c]; omega⟩⟩) ?_
       rintro _ _ ⟨t3,s3,rfl,rfl,r3⟩
       simp [-rowOf,f3]
       refine CallK_of' (hF.putA (j:=3) (q:=2) (rows:=ks.map N.enc) (by rw [hXX]; rfl) (by rw [hXX]; simp) (by simp; omega)) ?_
       have x3:((XX ks).set 2 (.tok (ks.map N.enc++[t3.enc]).length 6 F.tn)).set 3 (nob F.tn 6 s.1 0 [] 0 true (ks.map N.enc++[t3.enc]) (H.length+2))=XX (ks++[t3]):=by
        rw [hXX]; simp
       rw [x3]
       simp
       rcases r3.none' with ⟨q,b,hq,rfl,e3⟩ | ⟨j,hj,rfl⟩
       · refine NextM_of (H.length+4) 0 (Nat.le_refl _) (by rw [hXX]; simp) (by omega) ⟨ks++[t3],(b,some q),by simp [f0,f2,f3,hil2],hcut _ _,.inl ⟨rfl,by simp,fun m=>hRel _ _ ?_⟩⟩
         simp [pp,hjb,hq,PR.then]; omega
       · have:=pp_adv (L:=L) d' .stmt p1
         rw [hj] at this
         obtain ⟨v1,v2,v3⟩:=this
         have v2:=v2 rfl
         refine NextM_of (H.length+4) d' (Nat.le_refl _) (by rw [hXX]; simp) (by omega) ⟨ks++[t3],(j,none),by simp [f0,f2,f3,hil2],hcut _ _,.inr ⟨j,rfl,hs2,by omega,?_,v3 v2,by have:=v3 v2; omega,by simp; omega⟩⟩
         rw [hpp]; simp [pp,hjb,hj,PR.then]
end
end
section
def abx (tn:TypeId) (a:N):Ob := .box tn (a.enc.map .d)
theorem abx_clr (tn:TypeId) (a:N) (n:Nat):(abx tn a).clr n=abx tn a:=by
 obtain ⟨k,f,t,w,q,za,ks⟩:=a
 rw [abx,N.enc_mk]; rfl
section
variable {P:Program} {F:PF} {z:Bool} {L:List Tk}
theorem PHas.with0 (hF:PHas P F) {m:Nat} {g:G} {fo:FuncId} (hk:callOk P fo=true) (hU:UC P F.tp z L m g fo) (kk:Int) (a:N) {H:Hp} {i:Nat} {s:PSt} (hi:i < H.length) (hp:PPre L m g s) :
 ACall P F.with_ [.ptr i 0,.d (.int .i64 kk),a.v,.fn (.func fo) [.ptr i 0] []] (H.set i (pst F.tp z L s)) (fun r H'=>∃ b s',r=N.v (N.new kk a.f s'.1 [] 0 [a,b])∧H'=H.set i (pst F.tp z L s')∧Rel L m g s b s'):=by
 obtain ⟨fn,hf,hcf⟩:=hF.with_
 refine acall_fin hf hcf (by simp [irPWith]) fun hcl _ => ?_
 obtain ⟨Q,hQ⟩:∃ Q:A→Hp→Prop,Q=fun r H'=>∃ b s',r=N.v (N.new kk a.f s'.1 [] 0 [a,b])∧H'=H.set i (pst F.tp z L s')∧Rel L m g s b s':=⟨_,rfl⟩
 rw [← hQ]
 obtain ⟨k,f,t,w,a,za,ks⟩:=a
 rw [N.v_mk]
 simp [irPWith]
 refine ⟨hk,?_⟩
 refine CallK_of (hU H _ i s hi hp) ?_
 rintro _ _ ⟨b,s',rfl,rfl,r⟩
 have hi':=pget (tp:=F.tp) (z:=z) (L:=L) (H:=H) hi s'
 obtain ⟨k',f',t',w',a',z',ks'⟩:=b
 rw [N.v_mk]
 simp [hi']
 simp [RetK,cutP hcl]
 subst hQ
 exact ⟨.mk k' f' t' w' a' z' ks',s',by rw [N.v_new]; simp [N.enc_mk,N.f],rfl,r⟩
theorem PHas.with' (hF:PHas P F) {m:Nat} {g:G} {fo:FuncId} (hk:callOk P fo=true) (hU:UC P F.tp z L m g fo) (kk:Int) (a:N) {H X:Hp} {i:Nat} {s:PSt} (hi:i < H.length) (hp:PPre L m g s) :
 ACall P F.with_ [.ptr i 0,.d (.int .i64 kk),a.v,.fn (.func fo) [.ptr i 0] []] (H.set i (pst F.tp z L s)++X) (fun r H'=>∃ b s',r=N.v (N.new kk a.f s'.1 [] 0 [a,b])∧H'=H.set i (pst F.tp z L s')++X∧Rel L m g s b s'):=by
 have:=hF.with0 hk hU kk a (H:=H++X) (i:=i) (s:=s) (by simp; omega) hp
 rw [List.set_append_left _ _ hi] at this
 refine this.mono ?_
 rintro r H' ⟨b,s',rfl,rfl,hr⟩
 exact ⟨b,s',rfl,by rw [List.set_append_left _ _ hi],hr⟩
theorem PHas.expr' (hF:PHas P F) (hL:L.length≤1048576) (n:Nat) (hn:n≤1099511627776) (hS:UC P F.tp z L n .sum F.sum):UC P F.tp z L (n+1) .expr F.expr:=by
 refine UC_of fun H i s hi hp => ?_
 obtain ⟨fn,hf,hcf⟩:=hF.expr
 refine acall_fin hf hcf (by simp [irPExpr]) fun hcl _ => ?_
 have hp1:=hp.1
 simp only [G.c] at hp1
 simp [irPExpr]
 refine CallK_of (hS H _ i s hi ((Mo.refl s).pre hp (by decide) (by simp only [G.c]; omega))) ?_
 rintro _ _ ⟨a,s1,rfl,rfl,r1⟩
 have b1:=r1.le
 have m1:=r1.mo
 have ha:∃ k f t w q za ks,a = .mk k f t w q za ks:=by cases a; exact ⟨_,_,_,_,_,_,_,rfl⟩
 have hav:a.v=a.v:=rfl
 obtain ⟨k,f,t,w,q,za,ks,hae⟩:=ha
 have hve:a.v = .agg [.d (.int .i64 k),.d (.int .i64 f),.d (.int .i64 t),.d (.str w),.d (.int .i64 q),.d (.sl za 6 (ks.map N.enc))]:=by rw [hae,N.v_mk]
 rw [hve]
 simp
 refine CallK_of' (hF.tookA hi _ (by omega)) ?_
 cases h2:tookB L [60] s1 with
 | true =>
   obtain ⟨p,rfl,c2⟩:=tookB_t h2
   have l2:=isT_lt c2
   obtain ⟨p0,rfl⟩:∃ p0,s=(p0,none):=⟨s.1,by rw [← (m1 rfl).1]⟩
   obtain ⟨hp2,hp3⟩:=hp.2.2 rfl
   simp only [G.c] at hp2 hp3
   rcases r1.none' with ⟨q',b,hq,e,e3⟩ | ⟨j,hj,e⟩
   · simp at e
   obtain ⟨rfl,-⟩:p=j∧True:=by simpa using e
   have mm:=(m1 rfl).2.1
   simp only at mm
   simp [c2]
   rw [← hve]
   refine CallK_of (hF.with' hF.kSum hS 14 a hi ⟨by simp only [G.c]; omega,by simp only [G.c]; omega,fun _=>⟨l2,by simp only [G.c]; omega⟩⟩) ?_
   rintro _ _ ⟨b,s2,rfl,rfl,r2⟩
   rw [N.v_new]
   simp
   simp [RetK,cutP hcl]
   refine ⟨N.new 14 a.f s2.1 [] 0 [a,b],s2,by rw [N.v_new]; simp,by simp,?_⟩
   rcases r2.none' with ⟨q',b',hq,rfl,e3⟩ | ⟨j',hj',rfl⟩
   · simp [Rel,pp,hj,PR.then,c2,hq]; omega
   · simp [Rel,pp,hj,PR.then,c2,hj']
 | false =>
 rw [tookS_f h2]
 simp
 refine CallK_of' (hF.tookA hi _ (by omega)) ?_
 cases h3:tookB L [61,61] s1 with
 | true =>
   obtain ⟨p,rfl,c3⟩:=tookB_t h3
   simp at h2
   have l3:=isT_lt c3
   obtain ⟨p0,rfl⟩:∃ p0,s=(p0,none):=⟨s.1,by rw [← (m1 rfl).1]⟩
   obtain ⟨hp2,hp3⟩:=hp.2.2 rfl
   simp only [G.c] at hp2 hp3
   rcases r1.none' with ⟨q',b,hq,e,e3⟩ | ⟨j,hj,e⟩
   · simp at e
   obtain ⟨rfl,-⟩:p=j∧True:=by simpa using e
   have mm:=(m1 rfl).2.1
   simp only at mm
   simp [c3]
   rw [← hve]
   refine CallK_of (hF.with' hF.kSum hS 15 a hi ⟨by simp only [G.c]; omega,by simp only [G.c]; omega,fun _=>⟨l3,by simp only [G.c]; omega⟩⟩) ?_
   rintro _ _ ⟨b,s2,rfl,rfl,r2⟩
   rw [N.v_new]
   simp
   simp [RetK,cutP hcl]
   refine ⟨N.new 15 a.f s2.1 [] 0 [a,b],s2,by rw [N.v_new]; simp,by simp,?_⟩
   rcases r2.none' with ⟨q',b',hq,rfl,e3⟩ | ⟨j',hj',rfl⟩
   · simp [Rel,pp,hj,PR.then,h2,c3,hq]; omega
   · simp [Rel,pp,hj,PR.then,h2,c3,hj']
 | false =>
 rw [tookS_f h3]
 simp
 simp [RetK,cutP hcl]
 refine ⟨a,s1,hve.symm,by simp,?_⟩
 obtain ⟨p,st⟩:=s
 cases st with
 | some q =>
   obtain ⟨b,rfl,e⟩:=r1.some'
   simp only [G.wt] at e
   simp [Rel,G.wt]; omega
 | none =>
   rcases r1.none' with ⟨q',b,hq,rfl,e3⟩ | ⟨j,hj,rfl⟩
   · simp [Rel,pp,hq,PR.then]; omega
   · simp at h2 h3
     simp [Rel,pp,hj,PR.then,h2,h3]
theorem PHas.term' (hF:PHas P F) (hL:L.length≤1048576) (n:Nat) (hn:n≤1099511627776) (hT:∀ m,m < n+1→UC P F.tp z L m .post F.post):UC P F.tp z L (n+1) .term F.term:=by
 refine UC_of fun H i s hi hp => ?_
 obtain ⟨fn,hf,hcf⟩:=hF.term
 refine acall_fin hf hcf (by simp [irPTerm]) fun hcl _ => ?_
 have hp1:=hp.1
 simp only [G.c] at hp1
 simp [irPTerm]
 refine CallK_of (hT n (by omega) H _ i s hi ((Mo.refl s).pre hp (by decide) (by simp only [G.c]; omega))) ?_
 rintro _ _ ⟨a0,s1,rfl,rfl,r1⟩
 have b1:=r1.le
 have ho:∀ a:N,∃ (k f t:Int) (w:Bs) (q:Int) (za:Bool) (ks:List N),a.v = .agg [.d (.int .i64 k),.d (.int .i64 f),.d (.int .i64 t),.d (.str w),.d (.int .i64 q),.d (.sl za 6 (ks.map N.enc))]∧abx F.tn a = .box F.tn [.d (.int .i64 k),.d (.int .i64 f),.d (.int .i64 t),.d (.str w),.d (.int .i64 q),.d (.sl za 6 (ks.map N.enc))]:=fun a=>by
  obtain ⟨k,f,t,w,q,za,ks⟩:=a
  exact ⟨k,f,t,w,q,za,ks,by rw [N.v_mk],by rw [abx,N.enc_mk]; rfl⟩
 obtain ⟨XX,hXX⟩:∃ XX:N→Hp,XX=fun a=>[Ob.box F.tn [.d (.int .i64 0),.d (.int .i64 0),.d (.int .i64 0),.d (.str []),.d (.int .i64 0),.d (.sl true 6 [])],abx F.tn a]:=⟨_,rfl⟩
 have hst:∀ (a0:N) (o:Ob) (s1:PSt),(H.set i (pst F.tp z L s1)++[Ob.box F.tn [.d (.int .i64 0),.d (.int .i64 0),.d (.int .i64 0),.d (.str []),.d (.int .i64 0),.d (.sl true 6 [])],o]).set (H.length+1) (abx F.tn a0)=H.set i (pst F.tp z L s1)++XX a0:=fun a0 o s1=>by rw [hXX]; simp
 obtain ⟨E,hE⟩:∃ E:Fr→Hp→Prop,E=fun fr H'=>∃ a s',(fr 0 = .ptr i 0∧fr 2 = .ptr H.length 0∧fr 3 = .ptr (H.length+1) 0)∧Rel L (n+1) .term s a s'∧H'=H.set i (pst F.tp z L s')++XX a:=⟨_,rfl⟩
 have hE1:∀ fr a s',(fr 0 = .ptr i 0∧fr 2 = .ptr H.length 0∧fr 3 = .ptr (H.length+1) 0)→Rel L (n+1) .term s a s'→E fr (H.set i (pst F.tp z L s')++XX a):=fun fr a s' h h'=>by subst hE; exact ⟨a,s',h,h',rfl⟩
 obtain ⟨k,f,t,w,q,za,ks,hv,hb⟩:=ho a0
 rw [hv]
 simp
 rw [show H.set i (pst F.tp z L s1)++[Ob.box F.tn [.d (.int .i64 0),.d (.int .i64 0),.d (.int .i64 0),.d (.str []),.d (.int .i64 0),.d (.sl true 6 [])],.box F.tn [.d (.int .i64 k),.d (.int .i64 f),.d (.int .i64 t),.d (.str w),.d (.int .i64 q),.d (.sl za 6 (ks.map N.enc))]]=H.set i (pst F.tp z L s1)++XX a0 by rw [hXX,← hb]]
 refine LoopK_outR 0 E (fun _ _=>False) ?_ (fun _ _ h=>h.elim) ?_
 rotate_left
 · intro fr H' h
   subst hE
   obtain ⟨a,s',⟨f0,f2,f3⟩,hr,rfl⟩:=h
   obtain ⟨k,f,t,w,q,za,ks,hv,hb⟩:=ho a
   subst hXX
   simp [f0,f2,f3,hb]
   simp [RetK,cutP hcl]
   exact ⟨a,s',hv.symm,by simp,hr⟩
 clear hE
 have hcut:∀ a s' X,Hp.cut (H.length+2) (H.set i (pst F.tp z L s')++(XX a++X))=H.set i (pst F.tp z L s')++XX a:=fun a s' X=>by
  rw [cutPk hcl,hXX]
  change H.set i (pst F.tp z L s')++[_,(abx F.tn a).clr _]=_
  rw [abx_clr]; rfl
 have hcut0:∀ a s',Hp.cut (H.length+2) (H.set i (pst F.tp z L s')++XX a)=H.set i (pst F.tp z L s')++XX a:=fun a s'=>by simpa using hcut a s' []
 refine LoopM_of (H.length+2) (fun d fr H'=>∃ a s',(fr 0 = .ptr i 0∧fr 2 = .ptr H.length 0∧fr 3 = .ptr (H.length+1) 0)∧H'=H.set i (pst F.tp z L s')++XX a ∧
  ((d=0∧s'.2 ≠ none∧∀ m,Rel L (n+1) .term s m s')∨∃ p1,s'=(p1,none)∧s.2=none∧d≤n∧pp L (n+1) .term s.1=pp L d (.termL a) p1∧p1≤L.length∧16 * (L.length - p1)+1≤d)) (match s1.2 with | none=>n | some _=>0) (by rw [hXX]; simp) ⟨a0,s1,?_⟩ ?_
 · have hil2:i < H.length+2:=by omega
   refine ⟨by simp [hil2],hcut0 _ _,?_⟩
   obtain ⟨p,st⟩:=s
   cases st with
   | some q =>
     obtain ⟨b,rfl,e⟩:=r1.some'
     simp only [G.wt] at e
     exact .inl ⟨rfl,by simp,fun m=>by simp [Rel,G.wt]; omega⟩
   | none =>
     obtain ⟨hp2,hp3⟩:=hp.2.2 rfl
     simp only [G.c] at hp2 hp3
     rcases r1.none' with ⟨q',b,hq,rfl,e3⟩ | ⟨j,hj,rfl⟩
     · exact .inl ⟨rfl,by simp,fun m=>by simp [Rel,pp,hq,PR.then]; omega⟩
     · have:=pp_adv (L:=L) n .post p
       rw [hj] at this
       obtain ⟨v1,v2,v3⟩:=this
       have v2:=v2 rfl
       have v3:=v3 v2
       exact .inr ⟨j,rfl,rfl,by simp,by simp [pp,hj,PR.then],v3,by simp only; omega⟩
 · rintro d fr H' ⟨a,s',⟨f0,f2,f3⟩,rfl,hd⟩
   have hil2:i < H.length+2:=by omega
   have hs'b:s'.1≤1125899906842624:=by
    rcases hd with ⟨rfl,q1,q2⟩ | ⟨p1,rfl,hs2,hdn,hpp,hp1',hrk⟩
    · have:=(q2 a).le; omega
    · simp only; omega
   simp [f0]
   refine CallK_of' (hF.tookA hi _ hs'b) ?_
   rcases hd with ⟨rfl,q1,q2⟩ | ⟨p1,rfl,hs2,hdn,hpp,hp1',hrk⟩
   · obtain ⟨p',st'⟩:=s'
     cases st' with
     | none=>simp at q1
     | some q =>
       simp
       exact hE1 _ a _ (by simp [f0,f2,f3]) (q2 _)
   · obtain ⟨d',rfl⟩:∃ d',d=d'+1:=⟨d - 1,by omega⟩
     have hRel:∀ m s',(match pp L (d'+1) (.termL a) p1 with | .out=>False | .bad q=>s'.2=some q∧s'.1≤L.length+(n+1) | .ok m' k=>m=m'∧s'=(k,none))→Rel L (n+1) .term s m s':=fun m s' h=>by
      unfold Rel
      rw [hs2]
      simp only
      rw [hpp]; exact h
     cases hjb:isT L p1 [42] with
     | false =>
       simp [hjb]
       refine hE1 _ a _ (by simp [f0,f2,f3]) (hRel _ _ ?_)
       simp [pp,hjb]
     | true =>
       have l1:=isT_lt hjb
       obtain ⟨k,f,t,w,q,za,ks,hv,hb⟩:=ho a
       have hld:∀ s'',(H.set i (pst F.tp z L s'')++XX a)[H.length+1]?=some (.box F.tn [.d (.int .i64 k),.d (.int .i64 f),.d (.int .i64 t),.d (.str w),.d (.int .i64 q),.d (.sl za 6 (ks.map N.enc))]):=fun s''=>by rw [hXX]; simp [hb]
       simp [hjb,f0,f3,hld]
       rw [← hv]
       refine CallK_of (hF.with' hF.kPost (hT d' (by omega)) 18 a hi ⟨by simp only [G.c]; omega,by simp only [G.c]; omega,fun _=>⟨l1,by simp only [G.c]; omega⟩⟩) ?_
       rintro _ _ ⟨b,s2,rfl,rfl,r2⟩
       have hst2:=hst (N.new 18 a.f s2.1 [] 0 [a,b]) (abx F.tn a) s2
       obtain ⟨k2,f2',t2,w2,q2,za2,ks2,hv2,hb2⟩:=ho (N.new 18 a.f s2.1 [] 0 [a,b])
       rw [hv2]
       have hXa:H.set i (pst F.tp z L s2)++XX a=H.set i (pst F.tp z L s2)++[Ob.box F.tn [.d (.int .i64 0),.d (.int .i64 0),.d (.int .i64 0),.d (.str []),.d (.int .i64 0),.d (.sl true 6 [])],abx F.tn a]:=by rw [hXX]
       rw [hXa]
       simp [f3,hb]
       rw [show H.set i (pst F.tp z L s2)++[Ob.box F.tn [.d (.int .i64 0),.d (.int .i64 0),.d (.int .i64 0),.d (.str []),.d (.int .i64 0),.d (.sl true 6 [])],.box F.tn [.d (.int .i64 k2),.d (.int .i64 f2'),.d (.int .i64 t2),.d (.str w2),.d (.int .i64 q2),.d (.sl za2 6 (ks2.map N.enc))]]=H.set i (pst F.tp z L s2)++XX (N.new 18 a.f s2.1 [] 0 [a,b]) by rw [hXX,← hb2]]
       rcases r2.none' with ⟨q',b',hq,rfl,e3⟩ | ⟨j,hj,rfl⟩
       · refine NextM_of (H.length+2) 0 (Nat.le_refl _) (by rw [hXX]; simp) (by omega) ⟨_,(b',some q'),by simp [f0,f2,f3,hil2],hcut0 _ _,.inl ⟨rfl,by simp,fun m=>hRel _ _ ?_⟩⟩
         simp [pp,hjb,hq,PR.then]; omega
       · have:=pp_adv (L:=L) d' .post (p1+1)
         rw [hj] at this
         obtain ⟨v1,v2,v3⟩:=this
         have v2:=v2 rfl
         have v3:=v3 v2
         refine NextM_of (H.length+2) d' (Nat.le_refl _) (by rw [hXX]; simp) (by omega) ⟨_,(j,none),by simp [f0,f2,f3,hil2],hcut0 _ _,.inr ⟨j,rfl,hs2,by omega,?_,v3,by omega⟩⟩
         rw [hpp]; simp [pp,hjb,hj,PR.then]
theorem PHas.sum' (hF:PHas P F) (hL:L.length≤1048576) (n:Nat) (hn:n≤1099511627776) (hT:∀ m,m < n+1→UC P F.tp z L m .term F.term):UC P F.tp z L (n+1) .sum F.sum:=by
 refine UC_of fun H i s hi hp => ?_
 obtain ⟨fn,hf,hcf⟩:=hF.sum
 refine acall_fin hf hcf (by simp [irPSum]) fun hcl _ => ?_
 have hp1:=hp.1
 simp only [G.c] at hp1
 simp [irPSum]
 refine CallK_of (hT n (by omega) H _ i s hi ((Mo.refl s).pre hp (by decide) (by simp only [G.c]; omega))) ?_
 rintro _ _ ⟨a0,s1,rfl,rfl,r1⟩
 have b1:=r1.le
 have ho:∀ a:N,∃ (k f t:Int) (w:Bs) (q:Int) (za:Bool) (ks:List N),a.v = .agg [.d (.int .i64 k),.d (.int .i64 f),.d (.int .i64 t),.d (.str w),.d (.int .i64 q),.d (.sl za 6 (ks.map N.enc))]∧abx F.tn a = .box F.tn [.d (.int .i64 k),.d (.int .i64 f),.d (.int .i64 t),.d (.str w),.d (.int .i64 q),.d (.sl za 6 (ks.map N.enc))]:=fun a=>by
  obtain ⟨k,f,t,w,q,za,ks⟩:=a
  exact ⟨k,f,t,w,q,za,ks,by rw [N.v_mk],by rw [abx,N.enc_mk]; rfl⟩
 obtain ⟨XX,hXX⟩:∃ XX:N→Hp,XX=fun a=>[Ob.box F.tn [.d (.int .i64 0),.d (.int .i64 0),.d (.int .i64 0),.d (.str []),.d (.int .i64 0),.d (.sl true 6 [])],abx F.tn a]:=⟨_,rfl⟩
 have hst:∀ (a0:N) (o:Ob) (s1:PSt),(H.set i (pst F.tp z L s1)++[Ob.box F.tn [.d (.int .i64 0),.d (.int .i64 0),.d (.int .i64 0),.d (.str []),.d (.int .i64 0),.d (.sl true 6 [])],o]).set (H.length+1) (abx F.tn a0)=H.set i (pst F.tp z L s1)++XX a0:=fun a0 o s1=>by rw [hXX]; simp
 obtain ⟨E,hE⟩:∃ E:Fr→Hp→Prop,E=fun fr H'=>∃ a s',(fr 0 = .ptr i 0∧fr 2 = .ptr H.length 0∧fr 3 = .ptr (H.length+1) 0)∧Rel L (n+1) .sum s a s'∧H'=H.set i (pst F.tp z L s')++XX a:=⟨_,rfl⟩
 have hE1:∀ fr a s',(fr 0 = .ptr i 0∧fr 2 = .ptr H.length 0∧fr 3 = .ptr (H.length+1) 0)→Rel L (n+1) .sum s a s'→E fr (H.set i (pst F.tp z L s')++XX a):=fun fr a s' h h'=>by subst hE; exact ⟨a,s',h,h',rfl⟩
 obtain ⟨k,f,t,w,q,za,ks,hv,hb⟩:=ho a0
 rw [hv]
 simp
 rw [show H.set i (pst F.tp z L s1)++[Ob.box F.tn [.d (.int .i64 0),.d (.int .i64 0),.d (.int .i64 0),.d (.str []),.d (.int .i64 0),.d (.sl true 6 [])],.box F.tn [.d (.int .i64 k),.d (.int .i64 f),.d (.int .i64 t),.d (.str w),.d (.int .i64 q),.d (.sl za 6 (ks.map N.enc))]]=H.set i (pst F.tp z L s1)++XX a0 by rw [hXX,← hb]]
 obtain ⟨RR,hRR⟩:∃ RR:Fr→Hp→Prop,RR=fun fr H'=>∃ a s',fr 2 = .ptr H.length 0∧Rel L (n+1) .sum s a s'∧H'=H.set i (pst F.tp z L s')++[abx F.tn a,abx F.tn a]:=⟨_,rfl⟩
 have hR1:∀ fr a s',fr 2 = .ptr H.length 0→Rel L (n+1) .sum s a s'→RR fr (H.set i (pst F.tp z L s')++[abx F.tn a,abx F.tn a]):=fun fr a s' h h'=>by subst hRR; exact ⟨a,s',h,h',rfl⟩
 refine LoopK_outR 0 E RR ?_ ?_ ?_
 rotate_left
 · intro fr H' h
   subst hRR
   obtain ⟨a,s',f2,hr,rfl⟩:=h
   obtain ⟨k,f,t,w,q,za,ks,hv,hb⟩:=ho a
   simp [f2,hb]
   simp [RetK,cutP hcl]
   exact ⟨a,s',hv.symm,by simp,hr⟩
 · intro fr H' h
   subst hE
   obtain ⟨a,s',⟨f0,f2,f3⟩,hr,rfl⟩:=h
   obtain ⟨k,f,t,w,q,za,ks,hv,hb⟩:=ho a
   subst hXX
   simp [f0,f2,f3,hb]
   simp [RetK,cutP hcl]
   exact ⟨a,s',hv.symm,by simp,hr⟩
 clear hE hRR
 have hcut:∀ a s' X,Hp.cut (H.length+2) (H.set i (pst F.tp z L s')++(XX a++X))=H.set i (pst F.tp z L s')++XX a:=fun a s' X=>by
  rw [cutPk hcl,hXX]
  change H.set i (pst F.tp z L s')++[_,(abx F.tn a).clr _]=_
  rw [abx_clr]; rfl
 have hcut0:∀ a s',Hp.cut (H.length+2) (H.set i (pst F.tp z L s')++XX a)=H.set i (pst F.tp z L s')++XX a:=fun a s'=>by simpa using hcut a s' []
 refine LoopM_of (H.length+2) (fun d fr H'=>∃ a s',(fr 0 = .ptr i 0∧fr 2 = .ptr H.length 0∧fr 3 = .ptr (H.length+1) 0)∧H'=H.set i (pst F.tp z L s')++XX a ∧
  ((d=0∧s'.2 ≠ none∧∀ m,Rel L (n+1) .sum s m s')∨∃ p1,s'=(p1,none)∧s.2=none∧d≤n∧pp L (n+1) .sum s.1=pp L d (.sumL a) p1∧p1≤L.length∧16 * (L.length - p1)+1≤d)) (match s1.2 with | none=>n | some _=>0) (by rw [hXX]; simp) ⟨a0,s1,?_⟩ ?_
 · have hil2:i < H.length+2:=by omega
   refine ⟨by simp [hil2],hcut0 _ _,?_⟩
   obtain ⟨p,st⟩:=s
   cases st with
   | some q =>
     obtain ⟨b,rfl,e⟩:=r1.some'
     simp only [G.wt] at e
     exact .inl ⟨rfl,by simp,fun m=>by simp [Rel,G.wt]; omega⟩
   | none =>
     obtain ⟨hp2,hp3⟩:=hp.2.2 rfl
     simp only [G.c] at hp2 hp3
     rcases r1.none' with ⟨q',b,hq,rfl,e3⟩ | ⟨j,hj,rfl⟩
     · exact .inl ⟨rfl,by simp,fun m=>by simp [Rel,pp,hq,PR.then]; omega⟩
     · have:=pp_adv (L:=L) n .term p
       rw [hj] at this
       obtain ⟨v1,v2,v3⟩:=this
       have v2:=v2 rfl
       have v3:=v3 v2
       exact .inr ⟨j,rfl,rfl,by simp,by simp [pp,hj,PR.then],v3,by simp only; omega⟩
 · rintro d fr H' ⟨a,s',⟨f0,f2,f3⟩,rfl,hd⟩
   have hil2:i < H.length+2:=by omega
   have hi':=pget (tp:=F.tp) (z:=z) (L:=L) (H:=H) hi s' (XX a)
   rcases hd with ⟨rfl,q1,q2⟩ | ⟨p1,rfl,hs2,hdn,hpp,hp1',hrk⟩
   · obtain ⟨p',st'⟩:=s'
     cases st' with
     | none=>simp at q1
     | some q =>
       simp [f0,hi']
       exact hE1 _ a _ (by simp [f0,f2,f3]) (q2 _)
   · obtain ⟨d',rfl⟩:∃ d',d=d'+1:=⟨d - 1,by omega⟩
     have hRel:∀ m s',(match pp L (d'+1) (.sumL a) p1 with | .out=>False | .bad q=>s'.2=some q∧s'.1≤L.length+(n+1) | .ok m' k=>m=m'∧s'=(k,none))→Rel L (n+1) .sum s m s':=fun m s' h=>by
      unfold Rel
      rw [hs2]
      simp only
      rw [hpp]; exact h
     obtain ⟨k,f,t,w,q,za,ks,hv,hb⟩:=ho a
     have hld:∀ s'',(H.set i (pst F.tp z L s'')++XX a)[H.length+1]?=some (.box F.tn [.d (.int .i64 k),.d (.int .i64 f),.d (.int .i64 t),.d (.str w),.d (.int .i64 q),.d (.sl za 6 (ks.map N.enc))]):=fun s''=>by rw [hXX]; simp [hb]
     simp [f0,hi']
     refine CallK_of' (hF.tookA hi _ (by simp only; omega)) ?_
     cases hjb:isT L p1 [43] with
     | true =>
       have l1:=isT_lt hjb
       simp [hjb,f0,f3,hld]
       rw [← hv]
       refine CallK_of (hF.with' hF.kTerm (hT d' (by omega)) 16 a hi ⟨by simp only [G.c]; omega,by simp only [G.c]; omega,fun _=>⟨l1,by simp only [G.c]; omega⟩⟩) ?_
       rintro _ _ ⟨b,s2,rfl,rfl,r2⟩
       obtain ⟨k2,f2',t2,w2,q2,za2,ks2,hv2,hb2⟩:=ho (N.new 16 a.f s2.1 [] 0 [a,b])
       rw [hv2]
       have hXa:H.set i (pst F.tp z L s2)++XX a=H.set i (pst F.tp z L s2)++[Ob.box F.tn [.d (.int .i64 0),.d (.int .i64 0),.d (.int .i64 0),.d (.str []),.d (.int .i64 0),.d (.sl true 6 [])],abx F.tn a]:=by rw [hXX]
       rw [hXa]
       simp [f3,hb]
       rw [show H.set i (pst F.tp z L s2)++[Ob.box F.tn [.d (.int .i64 0),.d (.int .i64 0),.d (.int .i64 0),.d (.str []),.d (.int .i64 0),.d (.sl true 6 [])],.box F.tn [.d (.int .i64 k2),.d (.int .i64 f2'),.d (.int .i64 t2),.d (.str w2),.d (.int .i64 q2),.d (.sl za2 6 (ks2.map N.enc))]]=H.set i (pst F.tp z L s2)++XX (N.new 16 a.f s2.1 [] 0 [a,b]) by rw [hXX,← hb2]]
       rcases r2.none' with ⟨q',b',hq,rfl,e3⟩ | ⟨j,hj,rfl⟩
       · refine NextM_of (H.length+2) 0 (Nat.le_refl _) (by rw [hXX]; simp) (by omega) ⟨_,(b',some q'),by simp [f0,f2,f3,hil2],hcut0 _ _,.inl ⟨rfl,by simp,fun m=>hRel _ _ ?_⟩⟩
         simp [pp,hjb,hq,PR.then]; omega
       · have:=pp_adv (L:=L) d' .term (p1+1)
         rw [hj] at this
         obtain ⟨v1,v2,v3⟩:=this
         have v2:=v2 rfl
         have v3:=v3 v2
         refine NextM_of (H.length+2) d' (Nat.le_refl _) (by rw [hXX]; simp) (by omega) ⟨_,(j,none),by simp [f0,f2,f3,hil2],hcut0 _ _,.inr ⟨j,rfl,hs2,by omega,?_,v3,by omega⟩⟩
         rw [hpp]; simp [pp,hjb,hj,PR.then]
     | false =>
     simp [hjb,f0]
     refine CallK_of' (hF.tookA hi _ (by simp only; omega)) ?_
     cases hjc:isT L p1 [45] with
     | true =>
       have l1:=isT_lt hjc
       simp [hjc,f0,f3,hld]
       rw [← hv]
       refine CallK_of (hF.with' hF.kTerm (hT d' (by omega)) 17 a hi ⟨by simp only [G.c]; omega,by simp only [G.c]; omega,fun _=>⟨l1,by simp only [G.c]; omega⟩⟩) ?_
       rintro _ _ ⟨b,s2,rfl,rfl,r2⟩
       obtain ⟨k2,f2',t2,w2,q2,za2,ks2,hv2,hb2⟩:=ho (N.new 17 a.f s2.1 [] 0 [a,b])
       rw [hv2]
       have hXa:H.set i (pst F.tp z L s2)++XX a=H.set i (pst F.tp z L s2)++[Ob.box F.tn [.d (.int .i64 0),.d (.int .i64 0),.d (.int .i64 0),.d (.str []),.d (.int .i64 0),.d (.sl true 6 [])],abx F.tn a]:=by rw [hXX]
       rw [hXa]
       simp [f3,hb]
       rw [show H.set i (pst F.tp z L s2)++[Ob.box F.tn [.d (.int .i64 0),.d (.int .i64 0),.d (.int .i64 0),.d (.str []),.d (.int .i64 0),.d (.sl true 6 [])],.box F.tn [.d (.int .i64 k2),.d (.int .i64 f2'),.d (.int .i64 t2),.d (.str w2),.d (.int .i64 q2),.d (.sl za2 6 (ks2.map N.enc))]]=H.set i (pst F.tp z L s2)++XX (N.new 17 a.f s2.1 [] 0 [a,b]) by rw [hXX,← hb2]]
       rcases r2.none' with ⟨q',b',hq,rfl,e3⟩ | ⟨j,hj,rfl⟩
       · refine NextM_of (H.length+2) 0 (Nat.le_refl _) (by rw [hXX]; simp) (by omega) ⟨_,(b',some q'),by simp [f0,f2,f3,hil2],hcut0 _ _,.inl ⟨rfl,by simp,fun m=>hRel _ _ ?_⟩⟩
         simp [pp,hjb,hjc,hq,PR.then]; omega
       · have:=pp_adv (L:=L) d' .term (p1+1)
         rw [hj] at this
         obtain ⟨v1,v2,v3⟩:=this
         have v2:=v2 rfl
         have v3:=v3 v2
         refine NextM_of (H.length+2) d' (Nat.le_refl _) (by rw [hXX]; simp) (by omega) ⟨_,(j,none),by simp [f0,f2,f3,hil2],hcut0 _ _,.inr ⟨j,rfl,hs2,by omega,?_,v3,by omega⟩⟩
         rw [hpp]; simp [pp,hjb,hjc,hj,PR.then]
     | false =>
       have hx0:(XX a)[0]?=some (.box F.tn [.d (.int .i64 0),.d (.int .i64 0),.d (.int .i64 0),.d (.str []),.d (.int .i64 0),.d (.sl true 6 [])]):=by rw [hXX]; rfl
       have hx1:∀ o,(XX a).set 0 o=[o,abx F.tn a]:=fun o=>by rw [hXX]; rfl
       simp [hjc,f3,hld,f2,hx0,hx1]
       rw [← hb]
       refine hR1 _ a _ (by simp [f2]) (hRel _ _ ?_)
       simp [pp,hjb,hjc]
end
end
section
section
variable {P:Program} {F:PF} {z:Bool} {L:List Tk}
theorem PHas.post' (hF:PHas P F) (hL:L.length≤1048576) (n:Nat) (hn:n≤1099511627776) (hT:UC P F.tp z L n .atom F.atom) (hX:∀ m,m < n→UC P F.tp z L m .expr F.expr):UC P F.tp z L (n+1) .post F.post:=by
 refine UC_of fun H i s hi hp => ?_
 obtain ⟨fn,hf,hcf⟩:=hF.post
 refine acall_fin hf hcf (by simp [irPPost]) fun hcl _ => ?_
 have hp1:=hp.1
 simp only [G.c] at hp1
 simp [irPPost]
 refine CallK_of (hT H _ i s hi ((Mo.refl s).pre hp (by decide) (by simp only [G.c]; omega))) ?_
 rintro _ _ ⟨a0,s1,rfl,rfl,r1⟩
 have b1:=r1.le
 have ho:∀ a:N,∃ (k f t:Int) (w:Bs) (q:Int) (za:Bool) (ks:List N),a.f=f∧a.enc=[.int .i64 k,.int .i64 f,.int .i64 t,.str w,.int .i64 q,.sl za 6 (ks.map N.enc)]∧a.v = .agg [.d (.int .i64 k),.d (.int .i64 f),.d (.int .i64 t),.d (.str w),.d (.int .i64 q),.d (.sl za 6 (ks.map N.enc))]∧abx F.tn a = .box F.tn [.d (.int .i64 k),.d (.int .i64 f),.d (.int .i64 t),.d (.str w),.d (.int .i64 q),.d (.sl za 6 (ks.map N.enc))]:=fun a=>by
  obtain ⟨k,f,t,w,q,za,ks⟩:=a
  exact ⟨k,f,t,w,q,za,ks,rfl,by rw [N.enc_mk],by rw [N.v_mk],by rw [abx,N.enc_mk]; rfl⟩
 obtain ⟨XX,hXX⟩:∃ XX:N→Hp,XX=fun a=>[Ob.box F.tn [.d (.int .i64 0),.d (.int .i64 0),.d (.int .i64 0),.d (.str []),.d (.int .i64 0),.d (.sl true 6 [])],abx F.tn a]:=⟨_,rfl⟩
 have hst:∀ (a0:N) (o:Ob) (s1:PSt),(H.set i (pst F.tp z L s1)++[Ob.box F.tn [.d (.int .i64 0),.d (.int .i64 0),.d (.int .i64 0),.d (.str []),.d (.int .i64 0),.d (.sl true 6 [])],o]).set (H.length+1) (abx F.tn a0)=H.set i (pst F.tp z L s1)++XX a0:=fun a0 o s1=>by rw [hXX]; simp
 obtain ⟨E,hE⟩:∃ E:Fr→Hp→Prop,E=fun fr H'=>∃ a s',(fr 0 = .ptr i 0∧fr 2 = .ptr H.length 0∧fr 3 = .ptr (H.length+1) 0)∧Rel L (n+1) .post s a s'∧H'=H.set i (pst F.tp z L s')++XX a:=⟨_,rfl⟩
 have hE1:∀ fr a s',(fr 0 = .ptr i 0∧fr 2 = .ptr H.length 0∧fr 3 = .ptr (H.length+1) 0)→Rel L (n+1) .post s a s'→E fr (H.set i (pst F.tp z L s')++XX a):=fun fr a s' h h'=>by subst hE; exact ⟨a,s',h,h',rfl⟩
 obtain ⟨k,f,t,w,q,za,ks,haf,hen,hv,hb⟩:=ho a0
 rw [hv]
 simp
 rw [show H.set i (pst F.tp z L s1)++[Ob.box F.tn [.d (.int .i64 0),.d (.int .i64 0),.d (.int .i64 0),.d (.str []),.d (.int .i64 0),.d (.sl true 6 [])],.box F.tn [.d (.int .i64 k),.d (.int .i64 f),.d (.int .i64 t),.d (.str w),.d (.int .i64 q),.d (.sl za 6 (ks.map N.enc))]]=H.set i (pst F.tp z L s1)++XX a0 by rw [hXX,← hb]]
 obtain ⟨RR,hRR⟩:∃ RR:Fr→Hp→Prop,RR=fun fr H'=>∃ a s' Y,fr 2 = .ptr H.length 0∧Rel L (n+1) .post s a s'∧H'=H.set i (pst F.tp z L s')++(abx F.tn a :: Y):=⟨_,rfl⟩
 have hR1:∀ fr a s' Y,fr 2 = .ptr H.length 0→Rel L (n+1) .post s a s'→RR fr (H.set i (pst F.tp z L s')++(abx F.tn a :: Y)):=fun fr a s' Y h h'=>by subst hRR; exact ⟨a,s',Y,h,h',rfl⟩
 refine LoopK_outR 0 E RR ?_ ?_ ?_
 rotate_left
 · intro fr H' h
   subst hRR
   obtain ⟨a,s',Y,f2,hr,rfl⟩:=h
   obtain ⟨k,f,t,w,q,za,ks,haf,hen,hv,hb⟩:=ho a
   simp [f2,hb]
   simp [RetK,cutP hcl]
   exact ⟨a,s',hv.symm,by simp,hr⟩
 · intro fr H' h
   subst hE
   obtain ⟨a,s',⟨f0,f2,f3⟩,hr,rfl⟩:=h
   obtain ⟨k,f,t,w,q,za,ks,haf,hen,hv,hb⟩:=ho a
   subst hXX
   simp [f0,f2,f3,hb]
   simp [RetK,cutP hcl]
   exact ⟨a,s',hv.symm,by simp,hr⟩
 clear hE hRR
 have hcut:∀ a s' X,Hp.cut (H.length+2) (H.set i (pst F.tp z L s')++(XX a++X))=H.set i (pst F.tp z L s')++XX a:=fun a s' X=>by
  rw [cutPk hcl,hXX]
  change H.set i (pst F.tp z L s')++[_,(abx F.tn a).clr _]=_
  rw [abx_clr]; rfl
 have hcut0:∀ a s',Hp.cut (H.length+2) (H.set i (pst F.tp z L s')++XX a)=H.set i (pst F.tp z L s')++XX a:=fun a s'=>by simpa using hcut a s' []
 refine LoopM_of (H.length+2) (fun d fr H'=>∃ a s',(fr 0 = .ptr i 0∧fr 2 = .ptr H.length 0∧fr 3 = .ptr (H.length+1) 0)∧H'=H.set i (pst F.tp z L s')++XX a ∧
  ((d=0∧s'.2 ≠ none∧∀ m,Rel L (n+1) .post s m s')∨∃ p1,s'=(p1,none)∧s.2=none∧d≤n∧pp L (n+1) .post s.1=pp L d (.postL a) p1∧p1≤L.length∧16 * (L.length - p1)+1≤d)) (match s1.2 with | none=>n | some _=>0) (by rw [hXX]; simp) ⟨a0,s1,?_⟩ ?_
 · have hil2:i < H.length+2:=by omega
   refine ⟨by simp [hil2],hcut0 _ _,?_⟩
   obtain ⟨p,st⟩:=s
   cases st with
   | some q =>
     obtain ⟨b,rfl,e⟩:=r1.some'
     simp only [G.wt] at e
     exact .inl ⟨rfl,by simp,fun m=>by simp [Rel,G.wt]; omega⟩
   | none =>
     obtain ⟨hp2,hp3⟩:=hp.2.2 rfl
     simp only [G.c] at hp2 hp3
     rcases r1.none' with ⟨q',b,hq,rfl,e3⟩ | ⟨j,hj,rfl⟩
     · exact .inl ⟨rfl,by simp,fun m=>by simp [Rel,pp,hq,PR.then]; omega⟩
     · have:=pp_adv (L:=L) n .atom p
       rw [hj] at this
       obtain ⟨v1,v2,v3⟩:=this
       have v2:=v2 rfl
       have v3:=v3 v2
       exact .inr ⟨j,rfl,rfl,by simp,by simp [pp,hj,PR.then],v3,by simp only; omega⟩
 · rintro d fr H' ⟨a,s',⟨f0,f2,f3⟩,rfl,hd⟩
   have hil2:i < H.length+2:=by omega
   have hi':=pget (tp:=F.tp) (z:=z) (L:=L) (H:=H) hi s'
   rcases hd with ⟨rfl,q1,q2⟩ | ⟨p1,rfl,hs2,hdn,hpp,hp1',hrk⟩
   · obtain ⟨p',st'⟩:=s'
     cases st' with
     | none=>simp at q1
     | some q =>
       simp [f0,hi']
       exact hE1 _ a _ (by simp [f0,f2,f3]) (q2 _)
   · obtain ⟨d',rfl⟩:∃ d',d=d'+1:=⟨d - 1,by omega⟩
     have hRel:∀ m s',(match pp L (d'+1) (.postL a) p1 with | .out=>False | .bad q=>s'.2=some q∧s'.1≤L.length+(n+1) | .ok m' k=>m=m'∧s'=(k,none))→Rel L (n+1) .post s m s':=fun m s' h=>by
      unfold Rel
      rw [hs2]
      simp only
      rw [hpp]; exact h
     obtain ⟨k,f,t,w,q,za,ks,haf,hen,hv,hb⟩:=ho a
     have hXa:∀ s'',H.set i (pst F.tp z L s'')++XX a=H.set i (pst F.tp z L s'')++[Ob.box F.tn [.d (.int .i64 0),.d (.int .i64 0),.d (.int .i64 0),.d (.str []),.d (.int .i64 0),.d (.sl true 6 [])],.box F.tn [.d (.int .i64 k),.d (.int .i64 f),.d (.int .i64 t),.d (.str w),.d (.int .i64 q),.d (.sl za 6 (ks.map N.enc))]]:=fun s''=>by rw [hXX,← hb]
     rw [hXa]
     have hnext:∀ (kk:Int) (s2:PSt) (w':Bs) (at':Int) (l:List N) (Y:Hp),l ≠ []→Hp.cut (H.length+2) (H.set i (pst F.tp z L s2)++(Ob.box F.tn [.d (.int .i64 0),.d (.int .i64 0),.d (.int .i64 0),.d (.str []),.d (.int .i64 0),.d (.sl true 6 [])] :: nob F.tn kk f (s2.1:Int) w' at' false (l.map N.enc) (H.length+2) :: Y))=H.set i (pst F.tp z L s2)++XX (N.new kk a.f s2.1 w' at' l):=fun kk s2 w' at' l Y hl=>by
      have hle:l.isEmpty=false:=by cases l with | nil=>exact absurd rfl hl | cons x r=>rfl
      rw [cutPk hcl,hXX]
      simp [nob,abx,N.new,N.enc_mk,haf,hle]
     simp [f0,hi',f3]
     refine CallK_of' (hF.tookA hi _ (by simp only; omega)) ?_
     cases hjb:isT L p1 [46] with
     | true =>
       have l1:=isT_lt hjb
       simp [hjb,f0]
       refine CallK_of' (hF.wordA (j:=3) (q:=2) hi (by simp only; omega) rfl (by simp)) ?_
       generalize h5:wordS L (p1+1,none)=s5
       simp [nob,f0]
       refine CallK_of' (hF.doneA (q:=2) hi (by simp)) ?_
       simp [nag,f3]
       have hn5:=hnext 19 s5 (if kdT L (p1+1)=1 then txT L (p1+1) else []) (if kdT L (p1+1)=1 then (p1:Int)+1 else 0) [a]
       simp only [List.map_cons,List.map_nil,hen,nob] at hn5
       by_cases c5:kdT L (p1+1)=1
       · have l5:p1+1 < L.length:=kdT_lt (by omega)
         simp [c5] at h5 hn5
         subst h5
         simp [c5]
         refine NextM_of (H.length+2) d' (Nat.le_refl _) (by simp) (by omega) ⟨_,_,by simp [f0,f2,f3,hil2],hn5 _,.inr ⟨p1+1+1,rfl,hs2,by omega,?_,by omega,by omega⟩⟩
         rw [hpp]; simp [pp,hjb,wordR,c5]
       · simp [c5] at h5 hn5
         subst h5
         simp [c5]
         refine NextM_of (H.length+2) 0 (Nat.le_refl _) (by simp) (by omega) ⟨_,_,by simp [f0,f2,f3,hil2],hn5 _,.inl ⟨rfl,by simp,fun m=>hRel _ _ ?_⟩⟩
         simp [pp,hjb,wordR,c5]; omega
     | false =>
     simp [hjb,f0]
     refine CallK_of' (hF.tookA hi _ (by simp only; omega)) ?_
     cases hjc:isT L p1 [40] with
     | true =>
       have l1:=isT_lt hjc
       simp [hjc,f0]
       refine CallK_of (hF.list' hL d' (by omega) (g := .expr) (jn:=3) (jt:=2) (ks0:=[a]) (k:=20) (f:=f) (t:=0) (w:=[]) (a:=0) (zz:=false) hi hF.kExpr (by simp [A.lo]; omega) rfl (by simp) (by simp [nob,hen]) rfl (fun m hm ks s hps=>by simpa using hX m (by omega) H _ i s hi hps) (p1+1,none) ⟨by simp only [G.c]; omega,by simp only [G.c]; omega,fun _=>⟨l1,by simp only [G.c]; omega⟩⟩) ?_
       rintro _ _ ⟨kl,s2,rfl,rfl,r2,hkl⟩
       simp [XL,nob,f0]
       refine CallK_of' (hF.doneA (q:=2) hi (by simp)) ?_
       simp [nag,f3]
       have hn5:=hnext 20 s2 [] 0 (a :: kl)
       simp only [List.map_cons,nob] at hn5
       rcases r2.none' with ⟨q',b',hq,rfl,e3⟩ | ⟨j,hj,rfl⟩
       · refine NextM_of (H.length+2) 0 (Nat.le_refl _) (by simp) (by omega) ⟨_,_,by simp [f0,f2,f3,hil2],hn5 _ (by simp),.inl ⟨rfl,by simp,fun m=>hRel _ _ ?_⟩⟩
         simp [pp,hjb,hjc,hq,PR.then]; omega
       · have:=pp_adv (L:=L) d' (.list .expr [41]) (p1+1)
         rw [hj] at this
         obtain ⟨v1,v2,v3⟩:=this
         have v2:=v2 rfl
         have v3:=v3 v2
         refine NextM_of (H.length+2) d' (Nat.le_refl _) (by simp) (by omega) ⟨_,_,by simp [f0,f2,f3,hil2],hn5 _ (by simp),.inr ⟨j,rfl,hs2,by omega,?_,v3,by omega⟩⟩
         rw [hpp]; simp [pp,hjb,hjc,hj,PR.then,N.bag,N.new,N.ks]
     | false =>
       simp [hjc,f3,f2]
       rw [← hb]
       refine hR1 _ a _ _ (by simp [f2]) (hRel _ _ ?_)
       simp [pp,hjb,hjc]
end
end
section
theorem tokA_k (L:List Tk) (i:Nat):∃ (a:Int) (l:Bs),tokA_ L i = .agg [.d (.int .i64 (kdT L i)),.d (.int .i64 a),.d (.str l),.d (.str (txT L i))]:=by
 unfold tokA_ kdT txT
 cases L[i]? with
 | none=>exact ⟨_,_,rfl⟩
 | some t=>exact ⟨_,_,rfl⟩
theorem lamRel {L:List Tk} {n p:Nat} {s3 s4 s5:PSt} {t3 t4 t5:N} (h3:¬ kdT L p=3) (h4:¬ kdT L p=4) (h1:¬ kdT L p=1) (h5:isT L p [105,110,112,117,116]=false) (h6:isT L p [40]=false) (h7:isT L p [123]=false) (ch8:isT L p [102,110]=true)
 (hp2:p≤L.length) (hp3:16 * (L.length - p)+1≤n+1) (l0:p < L.length) (r3:Rel L n .params (p+1,none) t3 s3) (r4:Rel L n .typed s3 t4 s4) (r5:Rel L n .block s4 t5 s5):Rel L (n+1) .atom (p,none) (N.new 28 p s5.1 [] 0 [t3,t4,t5]) s5:=by
 rcases r3.none' with ⟨q,a,e,rfl,e3⟩ | ⟨k,e,rfl⟩
 · obtain ⟨b,rfl,e4⟩:=r4.some'
   obtain ⟨c,rfl,e5⟩:=r5.some'
   simp only [G.wt] at e4 e5
   simp [Rel,pp,h3,h4,h1,kInput,kFn,wantR,h5,h6,h7,ch8,e,PR.then]
   omega
 rcases r4.none' with ⟨q,a,e',rfl,e4⟩ | ⟨k',e',rfl⟩
 · obtain ⟨c,rfl,e5⟩:=r5.some'
   simp only [G.wt] at e5
   simp [Rel,pp,h3,h4,h1,kInput,kFn,wantR,h5,h6,h7,ch8,e,e',PR.then]
   omega
 rcases r5.none' with ⟨q,a,e'',rfl,e5⟩ | ⟨k'',e'',rfl⟩
 · simp [Rel,pp,h3,h4,h1,kInput,kFn,wantR,h5,h6,h7,ch8,e,e',e'',PR.then]
   omega
 simp [Rel,pp,h3,h4,h1,kInput,kFn,wantR,h5,h6,h7,ch8,e,e',e'',PR.then]
section
variable {P:Program} {F:PF} {z:Bool} {L:List Tk}
theorem PHas.atom' (hF:PHas P F) (hL:L.length≤1048576) (n:Nat) (hn:n≤1099511627776) (hX:UC P F.tp z L n .expr F.expr) (hE:∀ m,m < n→UCc P F.tp F.tb z L m .entry F.entry)
 (hP:UC P F.tp z L n .params F.params) (hT:UC P F.tp z L n .typed F.typed) (hB:UC P F.tp z L n .block F.block):UC P F.tp z L (n+1) .atom F.atom:=by
 refine UC_of fun H i s hi hp => ?_
 obtain ⟨fn,hf,hcf⟩:=hF.atom
 refine acall_norm (acall_fin hf hcf (by simp [irPAtom]) fun hcl _ => ?_)
 have hp1:=hp.1
 simp only [G.c] at hp1
 simp [irPAtom]
 refine CallK_of' (hF.nodeA hi _) ?_
 simp [nag]
 refine CallK_of' (hF.nowA hi) ?_
 obtain ⟨ta,tl,htk⟩:=tokA_k L s.1
 rw [htk]
 have hi':=pget (tp:=F.tp) (z:=z) (L:=L) (H:=H) hi s
 have hps:Ob.box F.tp [A.d (D.sl z 4 (L.map encTk)),A.d (D.int .i64 ((s.1:Int)+1)),A.d (D.int .i64 (if s.2.isSome=true then 24 else 0)),A.d (D.int .i64 ((s.2.getD 0:Nat):Int))]=pst F.tp z L (s.1+1,s.2):=by simp [pst]
 have hw:IntKind.i64.wrap ((s.1:Int)+1)=((s.1+1:Nat):Int):=by rw [wrap_i64 (by omega) (by omega)]; omega
 simp
 by_cases h3:kdT L s.1=3
 · simp [h3,hi',hw,up hi]
   rw [hps]
   repeat' apply And.intro
   all_goals
    refine CallK_of' (hF.doneA (q:=3) hi (by simp)) ?_
    simp [nag]
    simp [RetK,cutP hcl,nl]
    refine fin_node [] (by simp) (by simp) ?_
    obtain ⟨p,st⟩:=s
    cases st with
    | some q=>simp [Rel,G.wt]
    | none=>simp only at h3; simp [Rel,pp,h3]
 by_cases h4:kdT L s.1=4
 · simp [h3,h4,hi',hw,up hi]
   rw [hps]
   repeat' apply And.intro
   all_goals
    refine CallK_of' (hF.doneA (q:=3) hi (by simp)) ?_
    simp [nag]
    simp [RetK,cutP hcl,nl]
    refine fin_node [] (by simp) (by simp) ?_
    obtain ⟨p,st⟩:=s
    cases st with
    | some q=>simp [Rel,G.wt]
    | none=>simp only at h3 h4; simp [Rel,pp,h3,h4]
 by_cases h1:kdT L s.1=1
 · simp [h3,h4,h1]
   refine CallK_of' (hF.wordA (j:=4) (q:=3) hi (by omega) rfl (by simp)) ?_
   generalize h5:wordS L s=s5
   simp [nob]
   refine CallK_of' (hF.doneA (q:=3) hi (by simp)) ?_
   simp [nag]
   simp [RetK,cutP hcl,nl]
   refine fin_node [] (by simp) (by simp) ?_
   subst h5
   obtain ⟨p,st⟩:=s
   cases st with
   | some q=>simp [Rel,G.wt]
   | none=>simp only at h3 h4 h1; simp [Rel,pp,h3,h4,h1]
 simp [h3,h4,h1]
 refine CallK_of' (hF.tookA hi _ (by omega)) ?_
 cases h5:tookB L [105,110,112,117,116] s with
 | true =>
   obtain ⟨p,rfl,ch5⟩:=tookB_t h5
   have l0:=isT_lt ch5
   obtain ⟨hp2,hp3⟩:=hp.2.2 rfl
   simp only [G.c] at hp2 hp3
   simp only at h3 h4 h1
   simp [ch5]
   refine CallK_of' (hF.doneA (q:=3) hi (by simp)) ?_
   simp [nag]
   simp [RetK,cutP hcl,nl]
   refine fin_node [] (by simp) (by simp) ?_
   simp [Rel,pp,h3,h4,h1,kInput,ch5]
 | false =>
 rw [tookS_f h5]
 simp
 refine CallK_of' (hF.tookA hi _ (by omega)) ?_
 cases h6:tookB L [40] s with
 | true =>
   obtain ⟨p,rfl,ch6⟩:=tookB_t h6
   have l0:=isT_lt ch6
   obtain ⟨hp2,hp3⟩:=hp.2.2 rfl
   simp only [G.c] at hp2 hp3
   simp only at h3 h4 h1
   simp at h5
   simp [ch6]
   refine CallK_of (hX H _ i (p+1,none) hi ⟨by simp only [G.c]; omega,by simp only [G.c]; omega,fun _=>⟨l0,by simp only [G.c]; omega⟩⟩) ?_
   rintro _ _ ⟨x,s7,rfl,rfl,r7⟩
   have b7:=r7.le
   simp [-rowOf]
   refine CallK_of' (hF.putA (j:=4) (q:=3) (rows:=[]) rfl rfl (by simp)) ?_
   simp [nob]
   refine CallK_of' (hF.wantA hi _ (by simp only at b7; omega)) ?_
   generalize h8:wantS L _ s7=s8
   simp
   refine CallK_of' (hF.doneA (q:=3) hi (by simp)) ?_
   simp [nag]
   simp [RetK,cutP hcl,nl]
   refine fin_node [x] (by simp) (by simp) ?_
   subst h8
   rcases r7.none' with ⟨q',b',hq,rfl,e3⟩ | ⟨j,hj,rfl⟩
   · simp [Rel,pp,h3,h4,h1,kInput,h5,ch6,hq,PR.then]; omega
   · have:=pp_adv (L:=L) n .expr (p+1)
     rw [hj] at this
     obtain ⟨v1,v2,v3⟩:=this
     have v3:=v3 (v2 rfl)
     by_cases c8:isT L j [41]=true
     · simp [Rel,pp,h3,h4,h1,kInput,h5,ch6,hj,PR.then,wantR,c8]
     · simp [Rel,pp,h3,h4,h1,kInput,h5,ch6,hj,PR.then,wantR,c8]; omega
 | false =>
 rw [tookS_f h6]
 simp
 refine CallK_of' (hF.tookA hi _ (by omega)) ?_
 cases h7:tookB L [123] s with
 | true =>
   obtain ⟨p,rfl,ch7⟩:=tookB_t h7
   have l0:=isT_lt ch7
   obtain ⟨hp2,hp3⟩:=hp.2.2 rfl
   simp only [G.c] at hp2 hp3
   simp only at h3 h4 h1
   simp at h5 h6
   simp [ch7]
   refine CallK_of (hF.list' hL n hn (g := .entry) (jn:=4) (jt:=3) (ks0:=[]) hi hF.kEntry (by simp [A.lo]) rfl (by simp) rfl rfl (fun m hm ks s hps=>hE m hm H _ i 0 s hi (by simp [XL]) hps) (p+1,none) ⟨by simp only [G.c]; omega,by simp only [G.c]; omega,fun _=>⟨l0,by simp only [G.c]; omega⟩⟩) ?_
   rintro _ _ ⟨ks,s2,rfl,rfl,r2,hkl⟩
   simp [XL,nob]
   refine CallK_of' (hF.doneA (q:=3) hi (by simp)) ?_
   simp [nag]
   simp [RetK,cutP hcl,nl]
   refine fin_node ks (by simp) (by simp) ?_
   rcases r2.none' with ⟨q,a,e',rfl,e4⟩ | ⟨k',e',rfl⟩
   · simp [Rel,pp,h3,h4,h1,kInput,h5,h6,ch7,e',PR.then]; omega
   · simp [Rel,pp,h3,h4,h1,kInput,h5,h6,ch7,e',PR.then,N.bag,N.new,N.ks]
 | false =>
 rw [tookS_f h7]
 simp
 refine CallK_of' (hF.tookA hi _ (by omega)) ?_
 cases h8:tookB L [102,110] s with
 | true =>
   obtain ⟨p,rfl,ch8⟩:=tookB_t h8
   have l0:=isT_lt ch8
   obtain ⟨hp2,hp3⟩:=hp.2.2 rfl
   simp only [G.c] at hp2 hp3
   simp only at h3 h4 h1
   simp at h5 h6 h7
   simp [ch8]
   repeat' apply And.intro
   all_goals
    refine CallK_of (hP H _ i (p+1,none) hi ⟨by simp only [G.c]; omega,by simp only [G.c]; omega,fun _=>⟨l0,by simp only [G.c]; omega⟩⟩) ?_
    rintro _ _ ⟨t3,s3,rfl,rfl,r3⟩
    have m3:=r3.mo
    have b3:=r3.wt0 rfl
    simp only at b3
    simp [-rowOf]
    repeat' apply And.intro
   all_goals
    refine CallK_of (hT H _ i s3 hi ⟨by simp only [G.c]; omega,by simp only [G.c]; omega,fun e=>⟨(m3 e).2.2 l0,by have:=(m3 e).2.1; simp only [G.c] at this ⊢; omega⟩⟩) ?_
    rintro _ _ ⟨t4,s4,rfl,rfl,r4⟩
    have m4:=m3.trans r4.mo
    have b4:=r4.wt0 rfl
    simp [-rowOf]
    repeat' apply And.intro
   all_goals
    refine CallK_of (hB H _ i s4 hi ⟨by simp only [G.c]; omega,by simp only [G.c]; omega,fun e=>⟨(m4 e).2.2 l0,by have:=(m4 e).2.1; simp only [G.c] at this ⊢; omega⟩⟩) ?_
    rintro _ _ ⟨t5,s5,rfl,rfl,r5⟩
    simp [-rowOf]
    refine CallK_of' (hF.putA (j:=4) (q:=3) (rows:=[]) rfl rfl (by simp)) ?_
    simp [nob]
    refine CallK_of' (hF.doneA (q:=3) hi (by simp)) ?_
    simp [nag]
    simp [RetK,cutP hcl,nl]
    refine fin_node [t3,t4,t5] (by simp) (by simp) ?_
    clear m3 m4 b3 b4
    exact lamRel h3 h4 h1 h5 h6 h7 ch8 hp2 hp3 l0 r3 r4 r5
 | false =>
 rw [tookS_f h8]
 simp
 refine CallK_of' (hF.failA hi) ?_
 simp
 refine CallK_of' (hF.doneA (q:=3) hi (by simp)) ?_
 simp [nag]
 simp [RetK,cutP hcl,nl]
 refine fin_node [] (by simp) (by simp) ?_
 obtain ⟨p,st⟩:=s
 cases st with
 | some q=>simp [Rel,G.wt]
 | none =>
   simp at h3 h4 h1 h5 h6 h7 h8
   obtain ⟨hp2,hp3⟩:=hp.2.2 rfl
   simp only [G.c] at hp2 hp3
   simp [Rel,pp,kInput,kFn,wantR,h3,h4,h1,h5,h6,h7,h8]
   omega
end
end
section
section
variable {P:Program} {F:PF} {z:Bool} {L:List Tk}
theorem setsB_eq (hEq:∀ i,isT L i [61]=true→kdT L i=5) (i:Nat):setsB L i=(decide (kdT L i=1) && isT L (i+1) [61]):=by
 unfold setsB
 have h:=hEq (i+1)
 unfold isT kdT at *
 cases hg:L[i+1]? with
 | none=>simp
 | some t =>
   rw [hg] at h
   simp only at h ⊢
   by_cases h5:t.k=5
   · simp [h5]
   · by_cases h2:t.k=2
     · simp [h2] at h ⊢
       intro _; exact h
     · simp [h2,h5]
theorem PHas.stmt' (hF:PHas P F) (hL:L.length≤1048576) (hEq:∀ i,isT L i [61]=true→kdT L i=5) (n:Nat) (hn:n≤1099511627776) (hX:UC P F.tp z L n .expr F.expr) (hT:UC P F.tp z L n .typed F.typed) (hB:UC P F.tp z L n .block F.block):UC P F.tp z L (n+1) .stmt F.stmt:=by
 refine UC_of fun H i s hi hp => ?_
 obtain ⟨fn,hf,hcf⟩:=hF.stmt
 refine acall_norm (acall_fin hf hcf (by simp [irPStmt]) fun hcl _ => ?_)
 have hp1:=hp.1
 simp only [G.c] at hp1
 simp [irPStmt]
 refine CallK_of' (hF.nodeA hi _) ?_
 simp [nag]
 refine CallK_of' (hF.tookA hi _ (by omega)) ?_
 cases h1:tookB L [108,101,116] s with
 | true =>
   obtain ⟨p,rfl,ch1⟩:=tookB_t h1
   have l0:=isT_lt ch1
   obtain ⟨hp2,hp3⟩:=hp.2.2 rfl
   simp only [G.c] at hp2 hp3
   simp only [G.c] at hp1
   simp [ch1]
   refine CallK_of' (hF.wordA (j:=3) (q:=2) hi (by simp only; omega) rfl (by simp)) ?_
   generalize g2:wordS L (p+1,none)=s2
   have b2:=wordS_le g2
   have m2:=wordS_mo g2
   simp only at b2
   simp [nob]
   refine CallK_of (hT H _ i s2 hi ⟨by simp only [G.c]; omega,by simp only [G.c]; omega,fun e=>⟨(m2 e).2.2 l0,by have:=(m2 e).2.1; simp only [G.c] at this ⊢; omega⟩⟩) ?_
   rintro _ _ ⟨t3,s3,rfl,rfl,rs3⟩
   have bs3:=rs3.wt0 rfl
   have m3:=m2.trans rs3.mo
   try simp only at bs3
   simp [-rowOf]
   refine CallK_of' (hF.putA (j:=3) (q:=2) (rows:=[]) rfl rfl (by simp)) ?_
   simp [nob]
   refine CallK_of' (hF.wantA hi _ (by omega)) ?_
   generalize g4:wantS L _ s3=s4
   have b4:=wantS_le g4
   have m4:=m3.trans (wantS_mo g4)
   simp
   refine CallK_of (hX H _ i s4 hi ⟨by simp only [G.c]; omega,by simp only [G.c]; omega,fun e=>⟨(m4 e).2.2 l0,by have:=(m4 e).2.1; simp only [G.c] at this ⊢; omega⟩⟩) ?_
   rintro _ _ ⟨t5,s5,rfl,rfl,rs5⟩
   have bs5:=rs5.le
   have m5:=m4.trans rs5.mo
   try simp only at bs5
   simp [-rowOf]
   refine CallK_of' (hF.putA (j:=3) (q:=2) (rows:=[t3.enc]) rfl rfl (by simp)) ?_
   simp [nob]
   refine CallK_of' (hF.wantA hi _ (by omega)) ?_
   generalize g6:wantS L _ s5=s6
   simp
   refine CallK_of' (hF.doneA (q:=2) hi (by simp)) ?_
   simp [nag]
   simp [RetK,cutP hcl,nl]
   refine fin_node [t3,t5] (by simp) (by simp) ?_
   clear m2 m3 m4 m5 b2 bs3 b4 bs5
   subst g2 g4 g6
   simp only [Rel,pp,wantR,wordR,kLet,ch1,if_true]
   by_cases c2:kdT L (p+1)=1
   case neg =>
    simp [c2] at rs3
    obtain ⟨a,rfl,e3⟩:=rs3.some'
    simp at rs5
    obtain ⟨b,rfl,e5⟩:=rs5.some'
    simp only [G.wt] at e3 e5
    simp [c2]
    omega
   have l2:p+1 < L.length:=kdT_lt (by omega)
   simp only [wordS_none,c2,if_true] at rs3
   rcases rs3.none' with ⟨q,a,e,rfl,e3⟩ | ⟨k,e,rfl⟩
   · simp at rs5
     obtain ⟨b,rfl,e5⟩:=rs5.some'
     simp only [G.wt] at e5
     simp [c2,e,PR.then]
     omega
   have v3:=pp_adv (L:=L) n .typed (p+1+1)
   rw [e] at v3
   obtain ⟨v1,-,v3⟩:=v3
   by_cases c4:isT L k [61]=true
   case neg =>
    simp [c4] at rs5
    obtain ⟨b,rfl,e5⟩:=rs5.some'
    simp only [G.wt] at e5
    simp [c2,e,c4,PR.then]
    omega
   have l4:=isT_lt c4
   simp only [wantS_none,c4,if_true] at rs5
   rcases rs5.none' with ⟨q,a,e',rfl,e5⟩ | ⟨k',e',rfl⟩
   · simp [c2,e,c4,e',PR.then]
     omega
   have v5:=pp_adv (L:=L) n .expr (k+1)
   rw [e'] at v5
   obtain ⟨w1,w2,w3⟩:=v5
   have w2:=w2 rfl
   have w3:=w3 w2
   by_cases c6:isT L k' [59]=true
   · simp [c2,e,c4,e',c6,PR.then]
   · simp [c2,e,c4,e',c6,PR.then]
     omega
 | false =>
 rw [tookS_f h1]
 simp
 refine CallK_of' (hF.tookA hi _ (by omega)) ?_
 cases h2:tookB L [105,102] s with
 | true =>
   obtain ⟨p,rfl,ch2⟩:=tookB_t h2
   have l0:=isT_lt ch2
   obtain ⟨hp2,hp3⟩:=hp.2.2 rfl
   simp only [G.c] at hp2 hp3
   simp only [G.c] at hp1
   simp at h1
   simp [ch2]
   refine CallK_of (hX H _ i (p+1,none) hi ⟨by simp only [G.c]; omega,by simp only [G.c]; omega,fun _=>⟨l0,by simp only [G.c]; omega⟩⟩) ?_
   rintro _ _ ⟨t3,s3,rfl,rfl,rs3⟩
   have bs3:=rs3.le
   have m3:=rs3.mo
   try simp only at bs3
   simp [-rowOf]
   refine CallK_of (hB H _ i s3 hi ⟨by simp only [G.c]; omega,by simp only [G.c]; omega,fun e=>⟨(m3 e).2.2 l0,by have:=(m3 e).2.1; simp only [G.c] at this ⊢; omega⟩⟩) ?_
   rintro _ _ ⟨t4,s4,rfl,rfl,rs4⟩
   have bs4:=rs4.wt0 rfl
   have m4:=m3.trans rs4.mo
   try simp only at bs4
   simp [-rowOf]
   refine CallK_of' (hF.putA (j:=3) (q:=2) (rows:=[]) rfl rfl (by simp)) ?_
   simp [nob]
   refine CallK_of' (hF.tookA hi _ (by omega)) ?_
   cases h7:tookB L [101,108,115,101] s4 with
   | true =>
     obtain ⟨p4,rfl,c7⟩:=tookB_t h7
     have l7:=isT_lt c7
     have mm:=(m4 rfl).2.1
     simp only at mm
     simp [c7]
     refine CallK_of (hB H _ i (p4+1,none) hi ⟨by simp only [G.c]; omega,by simp only [G.c]; omega,fun _=>⟨l7,by simp only [G.c]; omega⟩⟩) ?_
     rintro _ _ ⟨t5,s5,rfl,rfl,rs5⟩
     simp [-rowOf]
     refine CallK_of' (hF.putA (j:=3) (q:=2) (rows:=[t3.enc,t4.enc]) rfl rfl (by simp)) ?_
     simp [nob]
     refine CallK_of' (hF.doneA (q:=2) hi (by simp)) ?_
     simp [nag]
     simp [RetK,cutP hcl,nl]
     refine fin_node [t3,t4,t5] (by simp) (by simp) ?_
     rcases rs3.none' with ⟨q,a,e,rfl,e3⟩ | ⟨k,e,rfl⟩
     · obtain ⟨b,e',-⟩:=rs4.some'; simp at e'
     rcases rs4.none' with ⟨q,a,e',e4',e4⟩ | ⟨k',e',e4'⟩
     · simp at e4'
     obtain rfl:p4=k':=by simpa using e4'
     rcases rs5.none' with ⟨q,a,e'',rfl,e5⟩ | ⟨k'',e'',rfl⟩
     · simp [Rel,pp,kLet,kIf,kElse,h1,ch2,e,e',c7,e'',PR.then]; omega
     · simp [Rel,pp,kLet,kIf,kElse,h1,ch2,e,e',c7,e'',PR.then]
   | false =>
     rw [tookS_f h7]
     simp
     refine CallK_of' (hF.putA (j:=3) (q:=2) (rows:=[t3.enc,t4.enc]) (rows2:=[N.none.enc]) rfl rfl (by simp)) ?_
     simp [nob]
     refine CallK_of' (hF.doneA (q:=2) hi (by simp)) ?_
     simp [nag]
     simp [RetK,cutP hcl,nl]
     refine fin_node [t3,t4,N.none] (by simp) (by simp) ?_
     clear m3 m4 bs3 bs4
     rcases rs3.none' with ⟨q,a,e,rfl,e3⟩ | ⟨k,e,rfl⟩
     · obtain ⟨b,rfl,e4⟩:=rs4.some'
       simp only [G.wt] at e4
       simp [Rel,pp,kLet,kIf,kElse,h1,ch2,e,PR.then]; omega
     rcases rs4.none' with ⟨q,a,e',rfl,e4⟩ | ⟨k',e',rfl⟩
     · simp [Rel,pp,kLet,kIf,kElse,h1,ch2,e,e',PR.then]; omega
     simp at h7
     simp [Rel,pp,kLet,kIf,kElse,h1,ch2,e,e',h7,PR.then]
 | false =>
 rw [tookS_f h2]
 simp
 refine CallK_of' (hF.tookA hi _ (by omega)) ?_
 cases h3:tookB L [119,104,105,108,101] s with
 | true =>
   obtain ⟨p,rfl,ch3⟩:=tookB_t h3
   have l0:=isT_lt ch3
   obtain ⟨hp2,hp3⟩:=hp.2.2 rfl
   simp only [G.c] at hp2 hp3
   simp only [G.c] at hp1
   simp at h1 h2
   simp [ch3]
   refine CallK_of (hX H _ i (p+1,none) hi ⟨by simp only [G.c]; omega,by simp only [G.c]; omega,fun _=>⟨l0,by simp only [G.c]; omega⟩⟩) ?_
   rintro _ _ ⟨t3,s3,rfl,rfl,rs3⟩
   have bs3:=rs3.le
   have m3:=rs3.mo
   try simp only at bs3
   simp [-rowOf]
   refine CallK_of (hB H _ i s3 hi ⟨by simp only [G.c]; omega,by simp only [G.c]; omega,fun e=>⟨(m3 e).2.2 l0,by have:=(m3 e).2.1; simp only [G.c] at this ⊢; omega⟩⟩) ?_
   rintro _ _ ⟨t4,s4,rfl,rfl,rs4⟩
   have bs4:=rs4.wt0 rfl
   have m4:=m3.trans rs4.mo
   try simp only at bs4
   simp [-rowOf]
   refine CallK_of' (hF.putA (j:=3) (q:=2) (rows:=[]) rfl rfl (by simp)) ?_
   simp [nob]
   refine CallK_of' (hF.doneA (q:=2) hi (by simp)) ?_
   simp [nag]
   simp [RetK,cutP hcl,nl]
   refine fin_node [t3,t4] (by simp) (by simp) ?_
   clear m3 m4 bs3 bs4
   rcases rs3.none' with ⟨q,a,e,rfl,e3⟩ | ⟨k,e,rfl⟩
   · obtain ⟨b,rfl,e4⟩:=rs4.some'
     simp only [G.wt] at e4
     simp [Rel,pp,kLet,kIf,kWhile,h1,h2,ch3,e,PR.then]; omega
   rcases rs4.none' with ⟨q,a,e',rfl,e4⟩ | ⟨k',e',rfl⟩
   · simp [Rel,pp,kLet,kIf,kWhile,h1,h2,ch3,e,e',PR.then]; omega
   simp [Rel,pp,kLet,kIf,kWhile,h1,h2,ch3,e,e',PR.then]
 | false =>
 rw [tookS_f h3]
 simp
 refine CallK_of' (hF.tookA hi _ (by omega)) ?_
 cases h4:tookB L [112,114,105,110,116] s with
 | true =>
   obtain ⟨p,rfl,ch4⟩:=tookB_t h4
   have l0:=isT_lt ch4
   obtain ⟨hp2,hp3⟩:=hp.2.2 rfl
   simp only [G.c] at hp2 hp3
   simp only [G.c] at hp1
   simp at h1 h2 h3
   simp [ch4]
   refine CallK_of (hX H _ i (p+1,none) hi ⟨by simp only [G.c]; omega,by simp only [G.c]; omega,fun _=>⟨l0,by simp only [G.c]; omega⟩⟩) ?_
   rintro _ _ ⟨t3,s3,rfl,rfl,rs3⟩
   have bs3:=rs3.le
   have m3:=rs3.mo
   try simp only at bs3
   simp [-rowOf]
   refine CallK_of' (hF.putA (j:=3) (q:=2) (rows:=[]) rfl rfl (by simp)) ?_
   simp [nob]
   refine CallK_of' (hF.wantA hi _ (by omega)) ?_
   generalize g6:wantS L _ s3=s6
   simp
   refine CallK_of' (hF.doneA (q:=2) hi (by simp)) ?_
   simp [nag]
   simp [RetK,cutP hcl,nl]
   refine fin_node [t3] (by simp) (by simp) ?_
   clear m3 bs3
   subst g6
   rcases rs3.none' with ⟨q,a,e,rfl,e3⟩ | ⟨k,e,rfl⟩
   · simp [Rel,pp,wantR,kLet,kIf,kWhile,kPrint,h1,h2,h3,ch4,e,PR.then]; omega
   have v5:=pp_adv (L:=L) n .expr (p+1)
   rw [e] at v5
   obtain ⟨w1,w2,w3⟩:=v5
   have w2:=w2 rfl
   have w3:=w3 w2
   by_cases c6:isT L k [59]=true
   · simp [Rel,pp,wantR,kLet,kIf,kWhile,kPrint,h1,h2,h3,ch4,e,c6,PR.then]
   · simp [Rel,pp,wantR,kLet,kIf,kWhile,kPrint,h1,h2,h3,ch4,e,c6,PR.then]; omega
 | false =>
 rw [tookS_f h4]
 simp
 refine CallK_of' (hF.tookA hi _ (by omega)) ?_
 cases h5:tookB L [114,101,116,117,114,110] s with
 | true =>
   obtain ⟨p,rfl,ch5⟩:=tookB_t h5
   have l0:=isT_lt ch5
   obtain ⟨hp2,hp3⟩:=hp.2.2 rfl
   simp only [G.c] at hp2 hp3
   simp only [G.c] at hp1
   simp at h1 h2 h3 h4
   simp [ch5]
   refine CallK_of (hX H _ i (p+1,none) hi ⟨by simp only [G.c]; omega,by simp only [G.c]; omega,fun _=>⟨l0,by simp only [G.c]; omega⟩⟩) ?_
   rintro _ _ ⟨t3,s3,rfl,rfl,rs3⟩
   have bs3:=rs3.le
   have m3:=rs3.mo
   try simp only at bs3
   simp [-rowOf]
   refine CallK_of' (hF.putA (j:=3) (q:=2) (rows:=[]) rfl rfl (by simp)) ?_
   simp [nob]
   refine CallK_of' (hF.wantA hi _ (by omega)) ?_
   generalize g6:wantS L _ s3=s6
   simp
   refine CallK_of' (hF.doneA (q:=2) hi (by simp)) ?_
   simp [nag]
   simp [RetK,cutP hcl,nl]
   refine fin_node [t3] (by simp) (by simp) ?_
   clear m3 bs3
   subst g6
   rcases rs3.none' with ⟨q,a,e,rfl,e3⟩ | ⟨k,e,rfl⟩
   · simp [Rel,pp,wantR,kLet,kIf,kWhile,kPrint,kReturn,h1,h2,h3,h4,ch5,e,PR.then]; omega
   have v5:=pp_adv (L:=L) n .expr (p+1)
   rw [e] at v5
   obtain ⟨w1,w2,w3⟩:=v5
   have w2:=w2 rfl
   have w3:=w3 w2
   by_cases c6:isT L k [59]=true
   · simp [Rel,pp,wantR,kLet,kIf,kWhile,kPrint,kReturn,h1,h2,h3,h4,ch5,e,c6,PR.then]
   · simp [Rel,pp,wantR,kLet,kIf,kWhile,kPrint,kReturn,h1,h2,h3,h4,ch5,e,c6,PR.then]; omega
 | false =>
 rw [tookS_f h5]
 simp
 refine CallK_of' (hF.sets' (upG hi) (by omega)) ?_
 rw [setsB_eq hEq]
 by_cases h6:kdT L s.1=1∧isT L (s.1+1) [61]=true
 · simp [h6.1,h6.2]
   refine CallK_of' (hF.wordA (j:=3) (q:=2) hi (by omega) rfl (by simp)) ?_
   generalize g2:wordS L s=s2
   have b2:=wordS_le g2
   have m2:=wordS_mo g2
   simp [nob]
   refine CallK_of' (hF.wantA hi _ (by omega)) ?_
   generalize g4:wantS L _ s2=s4
   have b4:=wantS_le g4
   have m4:=m2.trans (wantS_mo g4)
   simp
   refine CallK_of (hX H _ i s4 hi (m4.pre hp (by decide) (by simp only [G.c]; omega))) ?_
   rintro _ _ ⟨t5,s5,rfl,rfl,rs5⟩
   have bs5:=rs5.le
   simp [-rowOf]
   refine CallK_of' (hF.putA (j:=3) (q:=2) (rows:=[]) rfl rfl (by simp)) ?_
   simp [nob]
   refine CallK_of' (hF.wantA hi _ (by omega)) ?_
   generalize g6:wantS L _ s5=s6
   simp
   refine CallK_of' (hF.doneA (q:=2) hi (by simp)) ?_
   simp [nag]
   simp [RetK,cutP hcl,nl]
   refine fin_node [t5] (by simp) (by simp) ?_
   clear m2 m4 b2 b4 bs5
   subst g2 g4 g6
   obtain ⟨p,st⟩:=s
   cases st with
   | some q =>
     simp only [wordS_some,wantS_some] at rs5
     obtain ⟨b,rfl,e⟩:=rs5.some'
     simp only [G.wt] at e
     simp [Rel,G.wt]; omega
   | none =>
     simp at h1 h2 h3 h4 h5 h6
     obtain ⟨hp2,hp3⟩:=hp.2.2 rfl
     simp only [G.c] at hp2 hp3
     have l6:=isT_lt h6.2
     simp [h6.1,h6.2] at rs5
     rcases rs5.none' with ⟨q,a,e,rfl,e3⟩ | ⟨k,e,rfl⟩
     · simp [Rel,pp,wantR,kLet,kIf,kWhile,kPrint,kReturn,h1,h2,h3,h4,h5,h6.1,h6.2,e,PR.then]; omega
     have v5:=pp_adv (L:=L) n .expr (p+2)
     rw [e] at v5
     obtain ⟨w1,w2,w3⟩:=v5
     have w2:=w2 rfl
     have w3:=w3 w2
     by_cases c6:isT L k [59]=true
     · simp [Rel,pp,wantR,kLet,kIf,kWhile,kPrint,kReturn,h1,h2,h3,h4,h5,h6.1,h6.2,e,c6,PR.then]
     · simp [Rel,pp,wantR,kLet,kIf,kWhile,kPrint,kReturn,h1,h2,h3,h4,h5,h6.1,h6.2,e,c6,PR.then]; omega
 have h6':(decide (kdT L s.1=1) && isT L (s.1+1) [61])=false:=by
  rw [Bool.and_eq_false_iff]
  by_cases hk:kdT L s.1=1
  · right
    cases hh:isT L (s.1+1) [61] with
    | false=>rfl
    | true=>exact absurd ⟨hk,hh⟩ h6
  · left; simpa using hk
 rw [h6']
 simp
 refine CallK_of (hX H _ i s hi ((Mo.refl s).pre hp (by decide) (by simp only [G.c]; omega))) ?_
 rintro _ _ ⟨t5,s5,rfl,rfl,rs5⟩
 have bs5:=rs5.le
 simp [-rowOf]
 refine CallK_of' (hF.putA (j:=3) (q:=2) (rows:=[]) rfl rfl (by simp)) ?_
 simp [nob]
 refine CallK_of' (hF.wantA hi _ (by omega)) ?_
 generalize g6:wantS L _ s5=s6
 simp
 refine CallK_of' (hF.doneA (q:=2) hi (by simp)) ?_
 simp [nag]
 simp [RetK,cutP hcl,nl]
 refine fin_node [t5] (by simp) (by simp) ?_
 clear bs5
 subst g6
 obtain ⟨p,st⟩:=s
 cases st with
 | some q =>
   obtain ⟨b,rfl,e⟩:=rs5.some'
   simp only [G.wt] at e
   simp [Rel,G.wt]; omega
 | none =>
   simp at h1 h2 h3 h4 h5
   simp only at h6
   obtain ⟨hp2,hp3⟩:=hp.2.2 rfl
   simp only [G.c] at hp2 hp3
   rcases rs5.none' with ⟨q,a,e,rfl,e3⟩ | ⟨k,e,rfl⟩
   · simp only [Rel,pp,wantR,kLet,kIf,kWhile,kPrint,kReturn,h1,h2,h3,h4,h5,if_neg h6,e,PR.then]; simp; omega
   have v5:=pp_adv (L:=L) n .expr p
   rw [e] at v5
   obtain ⟨w1,w2,w3⟩:=v5
   have w2:=w2 rfl
   have w3:=w3 w2
   by_cases c6:isT L k [59]=true
   · simp only [Rel,pp,wantR,kLet,kIf,kWhile,kPrint,kReturn,h1,h2,h3,h4,h5,if_neg h6,e,c6,PR.then]; simp [c6]
   · simp only [Rel,pp,wantR,kLet,kIf,kWhile,kPrint,kReturn,h1,h2,h3,h4,h5,if_neg h6,e,c6,PR.then]; simp [c6]; omega
end
end
section
section
variable {P:Program} {F:PF} {z:Bool} {L:List Tk}
theorem PHas.file0 (hF:PHas P F) (hL:L.length≤1048576) (n:Nat) (hn:n≤1099511627776) (hr0:16 * L.length+7≤n+1) (hU:∀ m,m < n+1→UC P F.tp z L m .use F.use_) (hD:∀ m,m < n+1→UC P F.tp z L m .defn F.def_) {H:Hp} {i:Nat} (hi:i < H.length) :
 ACall P F.file [.ptr i 0] (H.set i (pst F.tp z L (0,none))) (PQ F.tp z L (n+1) (.file []) H i [] (0,none)):=by
 obtain ⟨fn,hf,hcf⟩:=hF.file
 refine acall_norm (acall_fin hf hcf (by simp [irPFile]) fun hcl _ => ?_)
 simp [irPFile]
 refine CallK_of' (hF.nodeA hi _) ?_
 simp [nag]
 obtain ⟨XX,hXX⟩:∃ XX:List N→Hp,XX=fun ks=>[Ob.box F.tn [.d (.int .i64 0),.d (.int .i64 0),.d (.int .i64 0),.d (.str []),.d (.int .i64 0),.d (.sl true 6 [])],nob F.tn 1 0 0 [] 0 true [] (H.length+2),.tok ks.length 6 F.tn,nob F.tn 1 0 0 [] 0 true (ks.map N.enc) (H.length+2)]:=⟨_,rfl⟩
 obtain ⟨E,hE⟩:∃ E:Fr→Hp→Prop,E=fun fr H'=>∃ ks s',(fr 0 = .ptr i 0∧fr 2 = .ptr H.length 0∧fr 3 = .ptr (H.length+3) 0)∧Rel L (n+1) (.file []) (0,none) (N.new 1 0 s'.1 [] 0 ks) s'∧H'=H.set i (pst F.tp z L s')++XX ks:=⟨_,rfl⟩
 have hE1:∀ fr ks s',(fr 0 = .ptr i 0∧fr 2 = .ptr H.length 0∧fr 3 = .ptr (H.length+3) 0)→Rel L (n+1) (.file []) (0,none) (N.new 1 0 s'.1 [] 0 ks) s'→E fr (H.set i (pst F.tp z L s')++XX ks):=fun fr ks s' h h'=>by subst hE; exact ⟨ks,s',h,h',rfl⟩
 refine LoopK_outR 0 E (fun _ _=>False) ?_ (fun _ _ h=>h.elim) ?_
 rotate_left
 · intro fr H' h
   subst hE
   obtain ⟨ks,s',⟨f0,f2,f3⟩,hr,rfl⟩:=h
   subst hXX
   simp [f0,f3,nob]
   refine CallK_of' (hF.doneA (q:=2) hi (by simp)) ?_
   simp [nag,f2]
   simp [RetK,cutP hcl,nl]
   exact fin_node ks (by simp) (by simp) hr
 clear hE
 have hcut:∀ ks s',Hp.cut (H.length+4) (H.set i (pst F.tp z L s')++XX ks)=H.set i (pst F.tp z L s')++XX ks:=fun ks s'=>by
  rw [cutPk hcl,hXX]; simp [nob]
 have hil2:i < H.length+4:=by omega
 refine LoopM_of (H.length+4) (fun d fr H'=>∃ ks s',(fr 0 = .ptr i 0∧fr 2 = .ptr H.length 0∧fr 3 = .ptr (H.length+3) 0)∧H'=H.set i (pst F.tp z L s')++XX ks ∧
  ((d=0∧s'.2 ≠ none∧∀ m,Rel L (n+1) (.file []) (0,none) m s')∨∃ p1,s'=(p1,none)∧d≤n+1∧pp L (n+1) (.file []) 0=pp L d (.file ks) p1∧p1≤L.length∧16 * (L.length - p1)+7≤d∧ks.length≤p1)) (n+1) (by simp) ⟨[],(0,none),by simp [hil2],?_,.inr ⟨0,rfl,by omega,rfl,by omega,by omega,by simp⟩⟩ ?_
 · rw [← hcut,hXX]; simp [nob]
 · rintro d fr H' ⟨ks,s',⟨f0,f2,f3⟩,rfl,hd⟩
   have hi':=pget (tp:=F.tp) (z:=z) (L:=L) (H:=H) hi s' (XX ks)
   rcases hd with ⟨rfl,q1,q2⟩ | ⟨p1,rfl,hdn,hpp,hp1',hrk,hks⟩
   · obtain ⟨p',st'⟩:=s'
     cases st' with
     | none=>simp at q1
     | some q =>
       simp [f0,hi']
       exact hE1 _ ks _ (by simp [f0,f2,f3]) (q2 _)
   · obtain ⟨d',rfl⟩:∃ d',d=d'+1:=⟨d - 1,by omega⟩
     have hRel:∀ m s',(match pp L (d'+1) (.file ks) p1 with | .out=>False | .bad q=>s'.2=some q∧s'.1≤L.length+(n+1) | .ok m' k=>m=m'∧s'=(k,none))→Rel L (n+1) (.file []) (0,none) m s':=fun m s' h=>by
      unfold Rel
      simp only
      rw [hpp]; exact h
     obtain ⟨ta,tl,htk⟩:=tokA_k L p1
     simp [f0,hi']
     refine CallK_of' (hF.nowA hi) ?_
     rw [htk]
     by_cases hk0:kdT L p1=0
     · simp [hk0]
       refine hE1 _ ks _ (by simp [f0,f2,f3]) (hRel _ _ ?_)
       simp [pp,hk0]
     have l1:p1 < L.length:=kdT_lt hk0
     simp [hk0,f0]
     refine CallK_of' (hF.isA hi _) ?_
     have hput:∀ (t3:N),((XX ks).set 2 (.tok (ks.map N.enc++[t3.enc]).length 6 F.tn)).set 3 (nob F.tn 1 0 0 [] 0 true (ks.map N.enc++[t3.enc]) (H.length+2))=XX (ks++[t3]):=fun t3=>by rw [hXX]; simp
     cases hu:isT L p1 [117,115,101] with
     | true =>
       simp [f0,hu]
       refine CallK_of (hU d' (by omega) H _ i (p1,none) hi ⟨by simp only [G.c]; omega,by simp only [G.c]; omega,fun _=>⟨hp1',by simp only [G.c]; omega⟩⟩) ?_
       rintro _ _ ⟨t3,s3,rfl,rfl,r3⟩
       simp [-rowOf,f3]
       refine CallK_of' (hF.putA (j:=3) (q:=2) (rows:=ks.map N.enc) (by rw [hXX]; rfl) (by rw [hXX]; simp) (by simp; omega)) ?_
       rw [hput]
       simp
       rcases r3.none' with ⟨q,b,hq,rfl,e3⟩ | ⟨j,hj,rfl⟩
       · refine NextM_of (H.length+4) 0 (Nat.le_refl _) (by rw [hXX]; simp) (by omega) ⟨ks++[t3],(b,some q),by simp [f0,f2,f3,hil2],hcut _ _,.inl ⟨rfl,by simp,fun m=>hRel _ _ ?_⟩⟩
         simp [pp,hk0,hu,kUse,hq,PR.then]; omega
       · have:=pp_adv (L:=L) d' .use p1
         rw [hj] at this
         obtain ⟨v1,v2,v3⟩:=this
         have v2:=v2 rfl
         refine NextM_of (H.length+4) d' (Nat.le_refl _) (by rw [hXX]; simp) (by omega) ⟨ks++[t3],(j,none),by simp [f0,f2,f3,hil2],hcut _ _,.inr ⟨j,rfl,by omega,?_,v3 v2,by have:=v3 v2; omega,by simp; omega⟩⟩
         rw [hpp]; simp [pp,hk0,hu,kUse,hj,PR.then]
     | false =>
     simp [hu,f0]
     refine CallK_of' (hF.isA hi _) ?_
     cases hv:isT L p1 [100,101,102] with
     | true =>
       simp [f0,hv]
       refine CallK_of (hD d' (by omega) H _ i (p1,none) hi ⟨by simp only [G.c]; omega,by simp only [G.c]; omega,fun _=>⟨hp1',by simp only [G.c]; omega⟩⟩) ?_
       rintro _ _ ⟨t3,s3,rfl,rfl,r3⟩
       simp [-rowOf,f3]
       refine CallK_of' (hF.putA (j:=3) (q:=2) (rows:=ks.map N.enc) (by rw [hXX]; rfl) (by rw [hXX]; simp) (by simp; omega)) ?_
       rw [hput]
       simp
       rcases r3.none' with ⟨q,b,hq,rfl,e3⟩ | ⟨j,hj,rfl⟩
       · refine NextM_of (H.length+4) 0 (Nat.le_refl _) (by rw [hXX]; simp) (by omega) ⟨ks++[t3],(b,some q),by simp [f0,f2,f3,hil2],hcut _ _,.inl ⟨rfl,by simp,fun m=>hRel _ _ ?_⟩⟩
         simp [pp,hk0,hu,kUse,hq,PR.then]; omega
       · have:=pp_adv (L:=L) d' .defn p1
         rw [hj] at this
         obtain ⟨v1,v2,v3⟩:=this
         have v2:=v2 rfl
         refine NextM_of (H.length+4) d' (Nat.le_refl _) (by rw [hXX]; simp) (by omega) ⟨ks++[t3],(j,none),by simp [f0,f2,f3,hil2],hcut _ _,.inr ⟨j,rfl,by omega,?_,v3 v2,by have:=v3 v2; omega,by simp; omega⟩⟩
         rw [hpp]; simp [pp,hk0,hu,kUse,hj,PR.then]
     | false =>
       obtain ⟨d2,rfl⟩:∃ d2,d'=d2+1:=⟨d' - 1,by omega⟩
       simp [hv,f0]
       refine CallK_of' (hF.failA hi) ?_
       simp
       refine NextM_of (H.length+4) 0 (Nat.le_refl _) (by rw [hXX]; simp) (by omega) ⟨ks,(p1,some p1),by simp [f0,f2,f3,hil2],hcut _ _,.inl ⟨rfl,by simp,fun m=>hRel _ _ ?_⟩⟩
       simp [pp,hk0,hu,kUse,kDef,hv,wantR,PR.then]; omega
structure PAll (P:Program) (F:PF) (z:Bool) (L:List Tk) (n:Nat):Prop where
 use_:UC P F.tp z L n .use F.use_
 def_:UC P F.tp z L n .defn F.def_
 params:UC P F.tp z L n .params F.params
 param:UCc P F.tp F.tb z L n .param F.param
 typed:UC P F.tp z L n .typed F.typed
 kind:UC P F.tp z L n .kind F.kind
 tfield:UCc P F.tp F.tb z L n .tfield F.tfield
 block:UC P F.tp z L n .block F.block
 stmt:UC P F.tp z L n .stmt F.stmt
 expr:UC P F.tp z L n .expr F.expr
 sum:UC P F.tp z L n .sum F.sum
 term:UC P F.tp z L n .term F.term
 post:UC P F.tp z L n .post F.post
 atom:UC P F.tp z L n .atom F.atom
 entry:UCc P F.tp F.tb z L n .entry F.entry
theorem UC_zero {tp:TypeId} {g:G} {f:FuncId} (hg:0 < g.c):UC P tp z L 0 g f:=fun H X i s hi hp=>absurd hp.2.1 (by omega)
theorem UCc_zero {tp tb:TypeId} {g:G} {f:FuncId} (hg:0 < g.c):UCc P tp tb z L 0 g f:=fun H X i q s hi hq hp=>absurd hp.2.1 (by omega)
theorem PHas.all (hF:PHas P F) (hL:L.length≤1048576) (hEq:∀ i,isT L i [61]=true→kdT L i=5):∀ n,n≤1099511627776→PAll P F z L n:=by
 intro n
 induction n using Nat.strongRecOn with
 | ind n ih =>
 intro hn
 cases n with
 | zero=>exact ⟨UC_zero (by decide),UC_zero (by decide),UC_zero (by decide),UCc_zero (by decide),UC_zero (by decide),UC_zero (by decide),UCc_zero (by decide),UC_zero (by decide),UC_zero (by decide),UC_zero (by decide),UC_zero (by decide),UC_zero (by decide),UC_zero (by decide),UC_zero (by decide),UCc_zero (by decide)⟩
 | succ n =>
   have a:∀ m,m < n+1→PAll P F z L m:=fun m hm=>ih m hm (by omega)
   have b:=a n (by omega)
   have hn':n≤1099511627776:=by omega
   exact ⟨hF.use' hL n,hF.def' hL n hn' b.params b.typed b.block,hF.params' hL n hn' (fun m hm=>(a m (by omega)).param),hF.param' hL n hn' b.typed,hF.typed' hL n hn' b.kind,
    hF.kind' hL n hn' (fun m hm=>(a m (by omega)).tfield) (fun m hm=>(a m hm).kind),hF.tfield' hL n hn' b.kind,hF.block' hL n hn' (fun m hm=>(a m (by omega)).stmt),hF.stmt' hL hEq n hn' b.expr b.typed b.block,
    hF.expr' hL n hn' b.sum,hF.sum' hL n hn' (fun m hm=>(a m hm).term),hF.term' hL n hn' (fun m hm=>(a m hm).post),hF.post' hL n hn' b.atom (fun m hm=>(a m (by omega)).expr),
    hF.atom' hL n hn' b.expr (fun m hm=>(a m (by omega)).entry) b.params b.typed b.block,hF.entry' hL n hn' b.expr⟩
theorem PHas.fileA (hF:PHas P F) (hL:L.length≤1048576) (hEq:∀ i,isT L i [61]=true→kdT L i=5) {H X:Hp} {i:Nat} (hi:i < H.length) :
 ACall P F.file [.ptr i 0] (H.set i (pst F.tp z L (0,none))++X) (PQ F.tp z L (16 * L.length+8) (.file []) H i X (0,none)):=by
 have ha:∀ m,m < 16 * L.length+7+1→PAll P F z L m:=fun m hm=>hF.all hL hEq m (by omega)
 have:=hF.file0 hL (16 * L.length+7) (by omega) (by omega) (fun m hm=>(ha m hm).use_) (fun m hm=>(ha m hm).def_) (z:=z) (H:=H++X) (i:=i) (by simp; omega)
 rw [List.set_append_left _ _ hi] at this
 refine this.mono ?_
 rintro r H' ⟨m,s',rfl,rfl,hr⟩
 refine ⟨m,s',rfl,?_,hr⟩
 rw [List.append_nil,List.set_append_left _ _ hi]
end
end
end Go.Zam
