/-
  Texts of one proof, one behind the other.
-/
import Derived.Test.YtjcdfgakgipkoaaGreatDoorM4
import Derived.Test.YtjcdfgakgipkoaaGreatDoorM3
import Derived.Lib.LaidU8
import Derived.Shelf.Strings.Builder1
import Derived.Shelf.Small.Strs
import Derived.Shelf.Strings.BuilderF
import Derived.Shelf.Strings.BuilderK
import Derived.Shelf.Strconv.Itoa0
import Derived.Shelf.Strconv.Itoa1
import Derived.Shelf.LaysM
import Derived.Shelf.Strconv.Itoa2
import Derived.Shelf.Strconv.Itoa3
import Derived.Shelf.Strconv.Clone
import Derived.Shelf.Strconv.SyntaxError
import Derived.Shelf.Strconv.Lower
import Derived.Shelf.Strconv.ParseUint10
import Derived.Shelf.Strconv.ParseUint10Empty
import Derived.Shelf.Strconv.RangeError
import Derived.Shelf.Strconv.ParseUintEmpty
import Derived.Shelf.Strconv.ParseUint10b64
import Derived.Shelf.Strconv.ParseUint10b32
import Derived.Shelf.Strconv.ParseUint10b16
import Derived.Shelf.Strconv.ParseUint10b8
import Derived.Ground.MpProg
import Derived.Shelf.Pu.ParseUintPublic10
import Derived.Shelf.Pu.ErrVarParseUint
import Derived.Shelf.Strings.Search1
import Derived.Shelf.Strings.Prefix
import Derived.Shelf.Unicode.Decode
import Derived.Shelf.Unicode.DecodeSlow
import Derived.Shelf.Unicode.DecodeAny
import Derived.Shelf.Slices.Turned
import Derived.Test.YtjcdfgakgipkoaaGreatDoorProg
import Derived.Test.YtjcdfgakgipkoaaGreatDoorRows
import Derived.Test.YtjcdfgakgipkoaaGreatDoorCards
import Derived.Test.YtjcdfgakgipkoaaGreatDoorTie
import Derived.ProofKit
import Derived.OpenShut
import Derived.Deep.DeepHandedRow
import Derived.Lib.LaidTab
import Derived.Stop.LaidErr
import Derived.SevenTiedAt
import Derived.BigCall
import Derived.BigGuard
import Derived.Laws.Closers25
import Derived.Laws.Closers25b
import Derived.Laws.Strings3
import Derived.Lib.AtoiErrMem
import Derived.Lib.ConvBytes
import Derived.Lib.Hide
import Derived.Lib.ParseIntBMem
import Derived.Lib.Strings
import Derived.Lib.Walk
import Derived.Shelf.Pu.Lays
import Derived.Shelf.Pu.Lower
import Derived.Shelf.Pu.ParseUint10
import Derived.Shelf.Pu.ParseUint10At
import Derived.Shelf.Pu.ParseUint10b16
import Derived.Shelf.Pu.ParseUint10b32
import Derived.Shelf.Pu.ParseUint10b64
import Derived.Shelf.Pu.ParseUint10b8
import Derived.Shelf.Pu.ParseUintEmpty
import Derived.Shelf.Pu.ToError
import Derived.Shelf.Pu.ToErrorRange
import Derived.WalkKit
import Derived.KernelRfl
set_option linter.all false
set_option maxRecDepth 100000
set_option maxHeartbeats 4000000
namespace Go.Zam
section
section
variable {P:Program}
theorem Has.depth {f:FuncId} {tn:TypeId} (h:Has P f (irTDepth f tn)):∀ (n:N),n.size≤1125899906842624→∀ H,ACall P f [n.v] H (fun r H'=>r = .d (.int .i64 (n.depth:Int))∧H'=H):=by
 refine N.ind fun k f' t w a z ks ih => ?_
 intro hs H
 obtain ⟨fn,hf,hcf⟩:=h
 refine acall_fin hf hcf (by simp [irTDepth]) fun hcl _ => ?_
 rw [N.size_mk] at hs
 rw [N.v_mk,N.depth_mk]
 have hlen:=N.sizes_len ks
 have hds:∀ i,N.depths (ks.take i)≤1125899906842624:=fun i=>by
  refine N.depths_le _ fun p hp => ?_
  have:=N.depth_size p
  have:=N.sizes_mem (List.mem_of_mem_take hp)
  omega
 simp [irTDepth]
 refine LoopK_out 0 (fun fr H'=>fr 3 = .d (.int .i64 (N.depths ks:Int))∧∃ X,H'=H++X) ?_ ?_
 · refine RangeK_of (H.length+1) ks.length (fun i fr H'=>fr 3 = .d (.int .i64 (N.depths (ks.take i):Int))∧fr 7 = .d (.sl z 6 (ks.map N.enc))∧∃ o,H'=H++[o]) (by omega) (by decide) (by simp) (by simp) ?_ ?_ ?_
   · simp [N.depths,cut_appk hcl]
   · rintro i fr H' hi f9 f8 ⟨f3,f7,o,rfl⟩
     have hr:=rowAt_map N.enc hi
     have hm:=List.getElem_mem hi
     have ih':=ih _ hm (by have:=N.sizes_mem hm; omega)
     have hdt:=N.depths_take_succ hi
     have hd1:=hds (i+1)
     generalize ks[i]=x at hr ih' hdt
     obtain ⟨k2,f2,t2,w2,a2,z2,ks2⟩:=x
     rw [N.enc_mk] at hr
     rw [N.v_mk] at ih'
     simp [f9,f7,hr,f3]
     refine CallK_of' (ih' _) ?_
     simp
     refine NextK_of (H.length+1) (Nat.le_refl _) (by simp [f9,f8]) ?_
     simp [f7,hdt,cut_appk hcl]
     omega
   · rintro fr H' f9 f8 ⟨f3,f7,o,rfl⟩
     rw [List.take_of_length_le (Nat.le_refl _)] at f3
     simp [f3]
 · rintro fr H' ⟨f3,X,rfl⟩
   have:=hds ks.length
   rw [List.take_of_length_le (Nat.le_refl _)] at this
   have hw:IntKind.i64.wrap ((N.depths ks:Int)+1)=(1:Int)+N.depths ks:=by rw [wrap_i64 (by omega) (by omega)]; omega
   simp [f3,hw]
   simp [RetK,cut_app hcl]
end
def parseF (L:List Tk):PR:=pp L (16 * L.length+8) (.file []) 0
def parseP (L:List Tk):N × Int × Int :=
 if L=[]∨kdT L (L.length - 1) ≠ 0∨4000 < L.length then (N.none,1,0) else
 match parseF L with
 | .ok n _=>if 60 < n.depth then (N.none,25,0) else (n,0,0)
 | .bad q=>(N.none,24,(q:Int))
 | .out=>(N.none,24,0)
section
variable {P:Program} {F:PF} {z:Bool} {L:List Tk}
theorem Has.parse {f fd} (h:Has P f (irPParse F.file fd F.tn F.tp)) (hF:PHas P F) (hd:Has P fd (irTDepth fd F.tn)) (hL:L.length≤1048576) (hEq:∀ i,isT L i [61]=true→kdT L i=5) (H:Hp) :
 ACall P f [.d (.sl z 4 (L.map encTk))] H (fun r H'=>r = .tup [(parseP L).1.v,.d (.int .i64 (parseP L).2.1),.d (.int .i64 (parseP L).2.2)]∧H'=H):=by
 obtain ⟨fn,hf,hcf⟩:=h
 refine acall_fin hf hcf (by simp [irPParse]) fun hcl _ => ?_
 obtain ⟨Q,hQ⟩:∃ Q:A→Hp→Prop,Q=fun r H'=>r = .tup [(parseP L).1.v,.d (.int .i64 (parseP L).2.1),.d (.int .i64 (parseP L).2.2)]∧H'=H:=⟨_,rfl⟩
 rw [← hQ]
 have hnone:∀ e b:Int,parseP L=(N.none,e,b)→Q (.tup [.agg [.d (.int .i64 0),.d (.int .i64 0),.d (.int .i64 0),.d (.str []),.d (.int .i64 0),.d (.sl true 6 [])],.d (.int .i64 e),.d (.int .i64 b)]) H:=fun e b h=>by
  subst hQ
  rw [h]
  exact ⟨rfl,rfl⟩
 by_cases h0:L=[]
 · subst h0
   simp [irPParse]
   simp [RetK,cut_app hcl]
   exact hnone 1 0 (by simp [parseP])
 have hl0:0 < L.length:=List.length_pos_iff.2 h0
 have h0':¬ (L.length:Int)=0:=by omega
 have hw:IntKind.i64.wrap ((L.length:Int) - 1)=((L.length - 1:Nat):Int):=by rw [wrap_i64 (by omega) (by omega)]; omega
 have hr:=rowAt_map encTk (l:=L) (i:=L.length - 1) (by omega)
 have hg:L[L.length - 1]?=some (L[L.length - 1]'(by omega)):=List.getElem?_eq_getElem (by omega)
 have hkd:kdT L (L.length - 1)=(L[L.length - 1]'(by omega)).k:=by unfold kdT; rw [hg]
 generalize L[L.length - 1]'(by omega)=tk at hr hkd
 obtain ⟨k,a,l,x⟩:=tk
 simp only [encTk] at hr hkd
 by_cases h1:k=0
 case neg =>
  simp [irPParse,h0,h0',hw,hr,h1]
  simp [RetK,cut_app hcl]
  exact hnone 1 0 (by simp [parseP,hkd,h1])
 by_cases h2:4000 < L.length
 case pos =>
  have h2':(4000:Int) < L.length:=by omega
  simp [irPParse,h0,h0',hw,hr,h1,h2']
  simp [RetK,cut_app hcl]
  exact hnone 1 0 (by simp [parseP,h2])
 have h2':¬ (4000:Int) < L.length:=by omega
 have hpp:parseP L=match parseF L with
  | .ok n _=>if 60 < n.depth then (N.none,25,0) else (n,0,0)
  | .bad q=>(N.none,24,(q:Int))
  | .out=>(N.none,24,0):=by
  unfold parseP
  rw [if_neg]
  rw [hkd,h1]
  rintro (h | h | h)
  · exact h0 h
  · exact h rfl
  · exact h2 h
 simp [irPParse,h0,h0',hw,hr,h1,h2']
 obtain ⟨r0,hr0⟩:∃ r0:Ob,r0 = .box F.tn [.d (.int .i64 0),.d (.int .i64 0),.d (.int .i64 0),.d (.str []),.d (.int .i64 0),.d (.sl true 6 [])]:=⟨_,rfl⟩
 have g:=hF.fileA (z:=z) hL hEq (H:=H++[r0,pst F.tp z L (0,none)]) (X:=[]) (i:=H.length+1) (by simp)
 have e1:∀ s,(H++[r0,pst F.tp z L (0,none)]).set (H.length+1) (pst F.tp z L s)++[]=H++[r0,pst F.tp z L s]:=fun s=>by simp
 rw [e1] at g
 rw [hr0] at g
 refine CallK_of g ?_
 rintro _ _ ⟨m,s',rfl,rfl,hrel⟩
 rw [← hr0,e1]
 rw [hr0]
 rcases hrel.none' with ⟨q,b,hq,rfl,e3⟩ | ⟨k',hk,rfl⟩
 · have hq':parseF L = .bad q:=hq
   rw [hq'] at hpp
   obtain ⟨k2,f2,t2,w2,a2,z2,ks2⟩:=m
   rw [N.v_mk]
   simp [pst]
   repeat' apply And.intro
   all_goals
    simp [RetK,cut_app hcl]
    try exact hnone 24 q hpp
 · have hk':parseF L = .ok m k':=hk
   rw [hk'] at hpp
   have hsz:=pp_size (L:=L) (16 * L.length+8) (.file []) 0 trivial
   rw [show pp L (16 * L.length+8) (.file []) 0 = .ok m k' from hk] at hsz
   simp only [Sz,G.k1,G.sz,N.sizes_nil] at hsz
   have hadv:=pp_adv (L:=L) (16 * L.length+8) (.file []) 0
   rw [show pp L (16 * L.length+8) (.file []) 0 = .ok m k' from hk] at hadv
   obtain ⟨v1,-,v3⟩:=hadv
   have hdep:=N.depth_size m
   have hd':=hd.depth m (by omega)
   obtain ⟨k2,f2,t2,w2,a2,z2,ks2⟩:=m
   rw [N.v_mk] at hd'
   rw [N.v_mk]
   simp [pst]
   refine CallK_of' (hd' _) ?_
   by_cases h60:60 < N.depth (.mk k2 f2 t2 w2 a2 z2 ks2)
   · have h60':(60:Int) < N.depth (.mk k2 f2 t2 w2 a2 z2 ks2):=by omega
     simp [h60']
     simp [RetK,cut_app hcl]
     exact hnone 25 0 (by rw [hpp]; simp [h60])
   · have h60':¬ (60:Int) < N.depth (.mk k2 f2 t2 w2 a2 z2 ks2):=by omega
     simp [h60']
     simp [RetK,cut_app hcl]
     subst hQ
     rw [hpp]
     simp [h60,N.v_mk]
end
end
section
def kindT:List Bs:=[[110,111,110,101],[102,105,108,101],[117,115,101],[100,101,102],[112,97,114,97,109,115],[112,97,114,97,109],[98,108,111,99,107],[108,101,116],[115,101,116],[105,102],[119,104,105,108,101],[112,114,105,110,116],[114,101,116,117,114,110],[100,111],[108,101,115,115],[101,113,117,97,108],[112,108,117,115],[109,105,110,117,115],[116,105,109,101,115],[102,105,101,108,100],[99,97,108,108],[110,117,109,98,101,114],[116,101,120,116],[110,97,109,101],[105,110,112,117,116],[103,114,111,117,112],[114,101,99,111,114,100],[101,110,116,114,121],[108,97,109,98,100,97],[105,110,116],[115,116,114],[100,121,110],[114,101,99],[112,97,114,116],[102,110]]
def kindN (k:Int):Bs:=kindT.getD k.toNat []
theorem strOp_add' {a b:Bs} (h:a.length+b.length≤9223372036854775807):strOp .add a b=some (.str (a++b)):=by simp only [strOp]; rw [if_pos h]
def KindOk (P:Program) (H0:Hp) (f:FuncId):Prop:=∀ (n:N) H,Pre0 H0 H→0≤n.k∧n.k < 35→ACall P f [n.v] H (fun r H'=>r = .d (.str (kindN n.k))∧H'=H)
section
variable {bt:TypeId} {H X:Hp} {b t:Nat} {bs bs':Bs}
end
section
variable {P:Program}
end
end
section
open Go Go.Proofs Go.Lib
open Go.RowKit (Below)
open Go.ChangeShapes Go.RowKit
def NamesG (g:Nat) (H0:Hp):Prop:=∀ w:World,(∀ (i:Nat) (g:Nat) (cs:List Value),H0[i]?=some (.glob g cs)→∃ ty fr,w.heap[g]?=some (.cells cs.toArray ty fr)) →
 ∀ k,k < 35→w.cell? ⟨g,k,none⟩=some (.string ⟨(kindT.getD k []).toArray⟩)
theorem names_of {κ:K} {H H0:Hp} {w:World} {g:Nat} (hr:HR κ H w) (hp:Pre0 H0 H) (hG:NamesG g H0):∀ k,k < 35→w.cell? ⟨g,k,none⟩=some (.string ⟨(kindT.getD k []).toArray⟩):=by
 obtain ⟨X,rfl⟩:=hp
 refine hG w fun i g cs hi => ?_
 have hlt:=(List.getElem?_eq_some_iff.1 hi).1
 obtain ⟨ty,fr,h⟩:=hr.ob i _ (by rw [List.getElem?_append_left hlt]; exact hi)
 exact ⟨ty,fr,by rw [hr.below.block g (Array.getElem?_eq_some_iff.1 h).1]; exact h⟩
def namesData:DataW Unit := .agg (kindT.map fun s => .lit (.string s))
theorem names_of_reads {P:Program} {w:World} {n:String} {g:Nat} {t ts:TypeId} (hn:P.globalNamed n=some g) (hty:(P.globals[g]?).map (·.type)=some t) (ht:P.underlying t=some (.array 35 ts)) (hs:P.underlying ts=some .string) (hc:P.cellsOf ts=1)
 (h:VarReads P w n namesData):∀ k,k < 35→w.cell? ⟨g,k,none⟩=some (.string ⟨(kindT.getD k []).toArray⟩):=by
 intro k hk
 obtain ⟨g',t',cs,fuel,p,hg,hty',hvar,hd⟩:=h
 obtain rfl:=Option.some.inj (hn.symm.trans hg)
 obtain rfl:=Option.some.inj (hty.symm.trans hty')
 obtain ⟨fuel',d,q,hdi,he⟩:=array_elem ht hd k hk
 have hkl:k < kindT.length:=hk
 rw [List.getElem?_map,List.getElem?_eq_getElem hkl] at hdi
 simp only [Option.map_some,Option.some.injEq] at hdi
 subst hdi
 rw [hc] at he
 obtain ⟨s,hcs,hx,-⟩:=DataW.trod_string hs he
 have hx':kindT[k]=s.data.toList:=by
  have:=congrArg Prod.fst hx
  simpa using this
 rw [World.var?_cell hg hvar k,← Array.getElem?_toList]
 have h0:=congrArg (·[0]?) hcs
 simp only [List.getElem?_take,List.getElem?_drop] at h0
 have:s=⟨(kindT.getD k []).toArray⟩:=by
  rw [List.getD_eq_getElem?_getD,List.getElem?_eq_getElem hkl,Option.getD_some,hx']
 rw [← this]
 simpa using h0
theorem laid_heapN {W:World} {g3 g4 g0 g1 g:Nat} {H0:Hp} (hL:LaidOb W H0) (hG:TabsG g3 g4 g0 g1 H0) (hn:∀ k,k < 35→W.cell? ⟨g,k,none⟩=some (.string ⟨(kindT.getD k []).toArray⟩)) :
 ∃ H0,LaidOb W H0∧TabsG g3 g4 g0 g1 H0∧NamesG g H0:=by
 obtain ⟨c,y,f,b⟩:=cells_of_cell (hn 0 (by omega))
 refine ⟨H0++[.glob g c.toList],?_,?_,?_⟩
 · intro i x hx
   rcases Nat.lt_trichotomy i H0.length with h | h | h
   · rw [List.getElem?_append_left h] at hx
     exact hL i x hx
   · rw [h] at hx
     simp at hx
     subst hx
     exact ⟨g,_,y,f,rfl,by simpa using b⟩
   · rw [List.getElem?_eq_none (by simp; omega)] at hx
     cases hx
 · intro w hw
   refine hG w fun i g cs hi=>hw i g cs ?_
   rw [List.getElem?_append_left (List.getElem?_eq_some_iff.1 hi).1]
   exact hi
 · intro w hw k hk
   obtain ⟨y',f',b'⟩:=hw H0.length g c.toList (by simp)
   exact cell_same (hn k hk) b b'
theorem arg_str_of {P:Program} {t:TypeId} (hu:P.underlying t=some .string):∀ {n:Nat} {ds:List D} {a:A} (h:Typed P n t ds) (ha:ArgOf P t ds a),∃ s:List UInt8,a = .d (.str s)∧s.length≤D.bulkC ds∧s.length+1≤D.bulkC ds:=by
 intro n ds a h ha
 obtain ⟨x,rfl⟩:=typed_str hu h
 exact ⟨x,argOf_one (by rw [hu]; simp) ha,by simp only [D.bulkC,D.bulk]; omega,by simp only [D.bulkC,D.bulk]; omega⟩
end
end Go.Zam
namespace Go.Proofs
section
open Go.Shelf
def Tryz.lays137_ren:Go.Shelf.Ren:=⟨fun | 137=>113 | 217=>127 | 266=>135 | n=>n,fun | 9=>9 | 5=>5 | 3=>3 | n=>n,fun | n=>n⟩
theorem Tryz.lays137:Go.Proofs.Lays.n137 Tryz.prog Tryz.lays137_ren := {
 mixed:=by kernel_rfl
 f137:=Tryz.func113.trans (congrArg some (by kernel_rfl))
 f217:=Tryz.func127.trans (congrArg some (by kernel_rfl))
 f266:=Tryz.func135.trans (congrArg some (by kernel_rfl))
 t3:=Tryz.underlying3
 a3:=Tryz.isAgg3
 z3:=Tryz.sizeOf3
 v3:=Tryz.zeroValue3
 t5:=Tryz.underlying5
 a5:=Tryz.isAgg5
 z5:=Tryz.sizeOf5
 v5:=Tryz.zeroValue5
 t9:=Tryz.underlying9
 a9:=Tryz.isAgg9
 z9:=Tryz.sizeOf9
 v9:=Tryz.zeroValue9 }
open Go.RowKit in
theorem Tryz.strings_IndexByte (s:ByteArray) (c:Int) (w:World) :
 Calls Tryz.prog 113 #[.string s,.int .u8 c] w fun e w'=>e = .returned (.int .i64 (Lib.indexByte s.data.toList c.toNat.toUInt8))∧w'=w:=Any.strings_IndexByte Tryz.lays137 s c w
def Tryz.laysPu14_ren:Go.Shelf.Ren:=⟨fun | 14=>99 | 16=>111 | 17=>112 | 19=>121 | 20=>122 | 21=>123 | 22=>124 | 23=>125 | 24=>126 | 25=>132 | 27=>134 | 26=>133 | 28=>139 | 29=>142 | 30=>145 | 31=>146 | 32=>147 | 33=>148 | 35=>151 | 34=>150 | 36=>152 | 37=>153 | 38=>154 | 39=>156 | 40=>157 | n=>n,fun | 9=>9 | 3=>3 | 22=>83 | 24=>71 | 25=>124 | 4=>4 | 34=>139 | 5=>5 | 36=>131 | 37=>48 | 0=>0 | 39=>141 | 21=>21 | 44=>146 | 47=>77 | 50=>152 | 48=>150 | 2=>2 | 52=>154 | 55=>157 | 59=>161 | 60=>162 | 20=>20 | 61=>163 | 65=>166 | 66=>167 | 67=>54 | n=>n,fun | 0=>3 | 1=>4 | 2=>6 | 3=>7 | 4=>8 | n=>n⟩
theorem Tryz.laysPu14:Go.Proofs.LaysPu.n14 Tryz.prog Tryz.laysPu14_ren := {
 mixed:=by kernel_rfl
 f14:=Tryz.func99.trans (congrArg some (by kernel_rfl))
 f16:=Tryz.func111.trans (congrArg some (by kernel_rfl))
 f17:=Tryz.func112.trans (congrArg some (by kernel_rfl))
 f19:=Tryz.func121.trans (congrArg some (by kernel_rfl))
 f20:=Tryz.func122.trans (congrArg some (by kernel_rfl))
 f21:=Tryz.func123.trans (congrArg some (by kernel_rfl))
 f22:=Tryz.func124.trans (congrArg some (by kernel_rfl))
 f23:=Tryz.func125.trans (congrArg some (by kernel_rfl))
 f24:=Tryz.func126.trans (congrArg some (by kernel_rfl))
 f25:=Tryz.func132.trans (congrArg some (by kernel_rfl))
 f26:=Tryz.func133.trans (congrArg some (by kernel_rfl))
 f27:=Tryz.func134.trans (congrArg some (by kernel_rfl))
 f28:=Tryz.func139.trans (congrArg some (by kernel_rfl))
 f29:=Tryz.func142.trans (congrArg some (by kernel_rfl))
 f30:=Tryz.func145.trans (congrArg some (by kernel_rfl))
 f31:=Tryz.func146.trans (congrArg some (by kernel_rfl))
 f32:=Tryz.func147.trans (congrArg some (by kernel_rfl))
 f33:=Tryz.func148.trans (congrArg some (by kernel_rfl))
 f34:=Tryz.func150.trans (congrArg some (by kernel_rfl))
 f35:=Tryz.func151.trans (congrArg some (by kernel_rfl))
 f36:=Tryz.func152.trans (congrArg some (by kernel_rfl))
 f37:=Tryz.func153.trans (congrArg some (by kernel_rfl))
 f38:=Tryz.func154.trans (congrArg some (by kernel_rfl))
 f39:=Tryz.func156.trans (congrArg some (by kernel_rfl))
 f40:=Tryz.func157.trans (congrArg some (by kernel_rfl))
 t0:=Tryz.underlying0
 a0:=Tryz.isAgg0
 z0:=Tryz.sizeOf0
 v0:=Tryz.zeroValue0
 i0:=by kernel_rfl
 t2:=Tryz.underlying2
 a2:=Tryz.isAgg2
 z2:=Tryz.sizeOf2
 v2:=Tryz.zeroValue2
 i2:=by kernel_rfl
 t3:=Tryz.underlying3
 a3:=Tryz.isAgg3
 z3:=Tryz.sizeOf3
 v3:=Tryz.zeroValue3
 i3:=by kernel_rfl
 t4:=Tryz.underlying4
 a4:=Tryz.isAgg4
 z4:=Tryz.sizeOf4
 v4:=Tryz.zeroValue4
 i4:=by kernel_rfl
 t5:=Tryz.underlying5
 a5:=Tryz.isAgg5
 z5:=Tryz.sizeOf5
 v5:=Tryz.zeroValue5
 i5:=by kernel_rfl
 t9:=Tryz.underlying9
 a9:=Tryz.isAgg9
 z9:=Tryz.sizeOf9
 v9:=Tryz.zeroValue9
 i9:=by kernel_rfl
 t20:=Tryz.underlying20
 a20:=Tryz.isAgg20
 z20:=Tryz.sizeOf20
 v20:=Tryz.zeroValue20
 i20:=by kernel_rfl
 t21:=Tryz.underlying21
 a21:=Tryz.isAgg21
 z21:=Tryz.sizeOf21
 v21:=Tryz.zeroValue21
 i21:=by kernel_rfl
 t22:=Tryz.underlying83
 a22:=Tryz.isAgg83
 z22:=Tryz.sizeOf83
 v22:=Tryz.zeroValue83
 i22:=by kernel_rfl
 t24:=Tryz.underlying71
 a24:=Tryz.isAgg71
 z24:=Tryz.sizeOf71
 v24:=Tryz.zeroValue71
 i24:=by kernel_rfl
 t25:=Tryz.underlying124
 a25:=Tryz.isAgg124
 z25:=Tryz.sizeOf124
 v25:=Tryz.zeroValue124
 i25:=by kernel_rfl
 t34:=Tryz.underlying139
 a34:=Tryz.isAgg139
 z34:=Tryz.sizeOf139
 v34:=Tryz.zeroValue139
 i34:=by kernel_rfl
 c34:=by kernel_rfl
 t36:=Tryz.underlying131
 a36:=Tryz.isAgg131
 z36:=Tryz.sizeOf131
 v36:=Tryz.zeroValue131
 i36:=by kernel_rfl
 t37:=Tryz.underlying48
 a37:=Tryz.isAgg48
 z37:=Tryz.sizeOf48
 v37:=Tryz.zeroValue48
 i37:=by kernel_rfl
 t39:=Tryz.underlying141
 a39:=Tryz.isAgg141
 z39:=Tryz.sizeOf141
 v39:=Tryz.zeroValue141
 i39:=by kernel_rfl
 t44:=Tryz.underlying146
 a44:=Tryz.isAgg146
 z44:=Tryz.sizeOf146
 v44:=Tryz.zeroValue146
 i44:=by kernel_rfl
 t47:=Tryz.underlying77
 a47:=Tryz.isAgg77
 z47:=Tryz.sizeOf77
 v47:=Tryz.zeroValue77
 i47:=by kernel_rfl
 t48:=Tryz.underlying150
 a48:=Tryz.isAgg150
 z48:=Tryz.sizeOf150
 v48:=Tryz.zeroValue150
 i48:=by kernel_rfl
 t50:=Tryz.underlying152
 a50:=Tryz.isAgg152
 z50:=Tryz.sizeOf152
 v50:=Tryz.zeroValue152
 i50:=by kernel_rfl
 t52:=Tryz.underlying154
 a52:=Tryz.isAgg154
 z52:=Tryz.sizeOf154
 v52:=Tryz.zeroValue154
 i52:=by kernel_rfl
 t55:=Tryz.underlying157
 a55:=Tryz.isAgg157
 z55:=Tryz.sizeOf157
 v55:=Tryz.zeroValue157
 i55:=by kernel_rfl
 t59:=Tryz.underlying161
 a59:=Tryz.isAgg161
 z59:=Tryz.sizeOf161
 v59:=Tryz.zeroValue161
 i59:=by kernel_rfl
 t60:=Tryz.underlying162
 a60:=Tryz.isAgg162
 z60:=Tryz.sizeOf162
 v60:=Tryz.zeroValue162
 i60:=by kernel_rfl
 t61:=Tryz.underlying163
 a61:=Tryz.isAgg163
 z61:=Tryz.sizeOf163
 t65:=Tryz.underlying166
 a65:=Tryz.isAgg166
 z65:=Tryz.sizeOf166
 v65:=Tryz.zeroValue166
 i65:=by kernel_rfl
 t66:=Tryz.underlying167
 a66:=Tryz.isAgg167
 z66:=Tryz.sizeOf167
 v66:=Tryz.zeroValue167
 i66:=by kernel_rfl
 t67:=Tryz.underlying54
 a67:=Tryz.isAgg54
 z67:=Tryz.sizeOf54
 v67:=Tryz.zeroValue54
 i67:=by kernel_rfl
 g0:=by kernel_rfl
 m0:=by kernel_rfl
 g1:=by kernel_rfl
 m1:=by kernel_rfl
 g2:=by kernel_rfl
 m2:=by kernel_rfl
 g3:=by kernel_rfl
 m3:=by kernel_rfl
 g4:=by kernel_rfl
 m4:=by kernel_rfl }
def Tryz.lays99_ren:Go.Shelf.Ren:=⟨fun | 99=>102 | 206=>114 | n=>n,fun | 9=>9 | 4=>4 | 3=>3 | n=>n,fun | n=>n⟩
theorem Tryz.lays99:Go.Proofs.Lays.n99 Tryz.prog Tryz.lays99_ren := {
 mixed:=by kernel_rfl
 f99:=Tryz.func102.trans (congrArg some (by kernel_rfl))
 f206:=Tryz.func114.trans (congrArg some (by kernel_rfl))
 t3:=Tryz.underlying3
 a3:=Tryz.isAgg3
 z3:=Tryz.sizeOf3
 v3:=Tryz.zeroValue3
 t4:=Tryz.underlying4
 a4:=Tryz.isAgg4
 z4:=Tryz.sizeOf4
 v4:=Tryz.zeroValue4
 t9:=Tryz.underlying9
 a9:=Tryz.isAgg9
 z9:=Tryz.sizeOf9
 v9:=Tryz.zeroValue9 }
open Go.RowKit Go.Lib in
theorem Tryz.strings_HasPrefix (s p:ByteArray) (w:World) :
 Calls Tryz.prog 102 #[.string s,.string p] w fun e w'=>e = .returned (.bool (Lib.hasPrefix s.data.toList p.data.toList))∧w'=w:=Any.strings_HasPrefix Tryz.lays99 s p w
def Tryz.lays197_ren:Go.Shelf.Ren:=⟨fun | 197=>71 | 260=>95 | n=>n,fun | 9=>9 | 21=>21 | 3=>3 | 4=>4 | 5=>5 | 105=>108 | 119=>130 | 0=>0 | 46=>131 | 139=>134 | 138=>133 | n=>n,fun | 3=>1 | 4=>2 | n=>n⟩
theorem Tryz.lays197:Go.Proofs.Lays.n197 Tryz.prog Tryz.lays197_ren := {
 mixed:=by kernel_rfl
 f197:=Tryz.func71.trans (congrArg some (by kernel_rfl))
 f260:=Tryz.func95.trans (congrArg some (by kernel_rfl))
 t0:=Tryz.underlying0
 a0:=Tryz.isAgg0
 z0:=Tryz.sizeOf0
 v0:=Tryz.zeroValue0
 t3:=Tryz.underlying3
 a3:=Tryz.isAgg3
 z3:=Tryz.sizeOf3
 v3:=Tryz.zeroValue3
 t4:=Tryz.underlying4
 a4:=Tryz.isAgg4
 z4:=Tryz.sizeOf4
 v4:=Tryz.zeroValue4
 t5:=Tryz.underlying5
 a5:=Tryz.isAgg5
 z5:=Tryz.sizeOf5
 v5:=Tryz.zeroValue5
 t9:=Tryz.underlying9
 a9:=Tryz.isAgg9
 z9:=Tryz.sizeOf9
 v9:=Tryz.zeroValue9
 t21:=Tryz.underlying21
 a21:=Tryz.isAgg21
 z21:=Tryz.sizeOf21
 v21:=Tryz.zeroValue21
 t46:=Tryz.underlying131
 a46:=Tryz.isAgg131
 z46:=Tryz.sizeOf131
 v46:=Tryz.zeroValue131
 t105:=Tryz.underlying108
 a105:=Tryz.isAgg108
 z105:=Tryz.sizeOf108
 v105:=Tryz.zeroValue108
 t119:=Tryz.underlying130
 a119:=Tryz.isAgg130
 z119:=Tryz.sizeOf130
 t138:=Tryz.underlying133
 a138:=Tryz.isAgg133
 z138:=Tryz.sizeOf133
 v138:=Tryz.zeroValue133
 t139:=Tryz.underlying134
 a139:=Tryz.isAgg134
 z139:=Tryz.sizeOf134
 v139:=Tryz.zeroValue134
 g3:=by kernel_rfl
 g4:=by kernel_rfl }
def Tryz.lays260_ren:Go.Shelf.Ren:=⟨fun | 260=>95 | n=>n,fun | 9=>9 | 21=>21 | 3=>3 | 4=>4 | 5=>5 | 119=>130 | 0=>0 | 46=>131 | 139=>134 | 138=>133 | n=>n,fun | 3=>1 | 4=>2 | n=>n⟩
theorem Tryz.lays260:Go.Proofs.Lays.n260 Tryz.prog Tryz.lays260_ren := {
 mixed:=by kernel_rfl
 f260:=Tryz.func95.trans (congrArg some (by kernel_rfl))
 t0:=Tryz.underlying0
 a0:=Tryz.isAgg0
 z0:=Tryz.sizeOf0
 v0:=Tryz.zeroValue0
 t3:=Tryz.underlying3
 a3:=Tryz.isAgg3
 z3:=Tryz.sizeOf3
 v3:=Tryz.zeroValue3
 t4:=Tryz.underlying4
 a4:=Tryz.isAgg4
 z4:=Tryz.sizeOf4
 v4:=Tryz.zeroValue4
 t5:=Tryz.underlying5
 a5:=Tryz.isAgg5
 z5:=Tryz.sizeOf5
 v5:=Tryz.zeroValue5
 t9:=Tryz.underlying9
 a9:=Tryz.isAgg9
 z9:=Tryz.sizeOf9
 v9:=Tryz.zeroValue9
 t21:=Tryz.underlying21
 a21:=Tryz.isAgg21
 z21:=Tryz.sizeOf21
 v21:=Tryz.zeroValue21
 t46:=Tryz.underlying131
 a46:=Tryz.isAgg131
 z46:=Tryz.sizeOf131
 v46:=Tryz.zeroValue131
 t119:=Tryz.underlying130
 a119:=Tryz.isAgg130
 z119:=Tryz.sizeOf130
 t138:=Tryz.underlying133
 a138:=Tryz.isAgg133
 z138:=Tryz.sizeOf133
 v138:=Tryz.zeroValue133
 t139:=Tryz.underlying134
 a139:=Tryz.isAgg134
 z139:=Tryz.sizeOf134
 v139:=Tryz.zeroValue134
 g3:=by kernel_rfl
 g4:=by kernel_rfl }
open Go.RowKit Go.Lib in
theorem Tryz.utf8_DecodeRuneInString (s:ByteArray) (w:World) (hT:Lib.Utf8Tabs 1 2 w) :
 Calls Tryz.prog 71 #[.string s] w fun e w'=>e = .returned (.tuple #[.int .i32 (Lib.decodeGo s).1,.int .i64 (Lib.decodeGo s).2])∧Below w.heap.size w w':=Any.utf8_DecodeRuneInString Tryz.lays197 s w hT
end
end Go.Proofs
namespace Go.Proofs.YtjcdfgakgipkoaaGreatDoor
section
open Go Go.Zam
open Go.ChangeShapes Go.WideShapes Go.ChangeAt Go.RowKit
theorem isBulk (H:Type):IsBulk (X:=H) Rows.uptoBulk Rows.uptoBulkAll where
 str:=fun b=>by simp [Rows.uptoBulk]
 bool:=fun b=>by simp [Rows.uptoBulk]
 int:=fun k n=>by simp [Rows.uptoBulk]
 nil:=by simp [Rows.uptoBulk]
 slice:=fun e s=>by simp only [Rows.uptoBulk]; omega
 agg:=fun p=>by simp only [Rows.uptoBulk]; omega
 cons:=fun d r=>by simp only [Rows.uptoBulkAll]; omega
theorem own:ownKnob Tryz.prog.godebug=none:=by kernel_rfl
theorem laidOut:laidOutB Tryz.prog=true:=by kernel_rfl
def litCell:DataW Unit→Value
 | .lit (.int k n) => .int k n
 | .lit (.string s) => .string ⟨s.toArray⟩
 | _ => .tuple #[]
def litCells:DataW Unit→List Value
 | .agg l=>l.map litCell
 | x=>[litCell x]
def tabCells:DataW Unit→Array Value
 | .agg l=>(l.flatMap litCells).toArray
 | _ => #[]
def put (g:Nat) (cs:Array Value) (h:Array Obj):Array Obj:=h.modify g fun
 | .cells _ t frozen => .cells cs t frozen
 | o=>o
noncomputable def laidWorld (os:Os):World :=
 let w0:=World.holding Tryz.prog os ⟨#[.cells #[.string ⟨#[118,97,108,117,101,32,111,117,116,32,111,102,32,114,97,110,103,101]⟩] 152,.cells #[.string ⟨#[105,110,118,97,108,105,100,32,115,121,110,116,97,120]⟩] 152],#[],[]⟩
 let N:=(World.settled Tryz.prog os).heap.size
 { w0 with heap:=put 4 #[.iface 150 (.pointer (some ⟨N,0,none⟩))] (put 3 #[.iface 150 (.pointer (some ⟨N+1,0,none⟩))] (put 1 (tabCells Rows.laid_unicode_utf8_first) (put 0 (tabCells Rows.laid_whetstone_tree_names) (put 2 (tabCells Rows.laid_unicode_utf8_acceptRanges) (put 6 (tabCells Rows.laid_internal_strconv_uint64pow10) (put 8 (tabCells Rows.laid_math_bits_deBruijn64tab) (put 7 (tabCells Rows.laid_math_bits_deBruijn32tab) w0.heap))))))) }
theorem star : "*" ++ "errors.errorString" = "*errors.errorString":=by decide
theorem rowErr (u:TypeId) (h:Tryz.prog.typeName? 3 u=some "*errors.errorString"):u=150 :=
 typeName_ptr_named (nm := "errors.errorString") (by rw [star]; kernel_rfl) (by kernel_rfl) (by decide) u (by rw [star]; exact h)
set_option maxRecDepth 100000 in
theorem laidOb {W:World} (h:laidMetH Tryz.prog Rows.layoutPrintsUptoRow.laid W):∃ H0,LaidOb W H0∧TabsG 1 2 3 4 H0∧NamesG 0 H0:=by
 have h':laidMet Tryz.prog Rows.layoutPrintsUptoRow.laid W:=by
  rw [MakeChecks.laidMetH_plain _ _ _ (by kernel_rfl)] at h
  exact h
 have e1:Rows.laid_unicode_utf8_first=Lib.firstData:=by kernel_rfl
 have e2:Rows.laid_unicode_utf8_acceptRanges=Lib.acceptData:=by kernel_rfl
 have hU:Lib.Utf8Tabs 1 2 W :=
  utf8Tabs_of_reads (ρ:=Tryz.lays260_ren) { Tryz.lays260 with } ⟨by kernel_rfl,by kernel_rfl,by kernel_rfl,by kernel_rfl,by kernel_rfl,by kernel_rfl,by kernel_rfl⟩
   (e1 ▸ Lib.laidMet.reads h' (.tail _ (.tail _ (.tail _ (.tail _ (.tail _ (.tail _ (.tail _ (.head _))))))))) (e2 ▸ Lib.laidMet.reads h' (.tail _ (.tail _ (.tail _ (.head _)))))
 obtain ⟨a1,t1,hv1,-⟩:=laid_sentinel (g:=4) h'.tail.tail.tail.tail (by kernel_rfl) (by kernel_rfl) Tryz.underlying71 rowErr Tryz.underlying150 Tryz.underlying152 rfl rfl Tryz.underlying9 (by kernel_rfl) (by kernel_rfl)
 obtain ⟨a0,t0,hv0,-⟩:=laid_sentinel (g:=3) h'.tail.tail.tail.tail.tail (by kernel_rfl) (by kernel_rfl) Tryz.underlying71 rowErr Tryz.underlying150 Tryz.underlying152 rfl rfl Tryz.underlying9 (by kernel_rfl) (by kernel_rfl)
 obtain ⟨H1,hL1,hG1⟩:=laid_heap hU ⟨_,_,by rw [World.var?_cell (show Tryz.prog.globalNamed "strconv.ErrSyntax"=some 3 by kernel_rfl) hv0 0]; rfl⟩ ⟨_,_,by rw [World.var?_cell (show Tryz.prog.globalNamed "strconv.ErrRange"=some 4 by kernel_rfl) hv1 0]; rfl⟩
 have e3:Rows.laid_whetstone_tree_names=namesData:=by kernel_rfl
 exact laid_heapN hL1 hG1 (names_of_reads (n := "whetstone/tree.names") (t:=121) (ts:=9) (by kernel_rfl) (by kernel_rfl) Tryz.underlying121 Tryz.underlying9 (by kernel_rfl) (e3 ▸ Lib.laidMet.reads h' (.tail _ (.tail _ (.tail _ (.tail _ (.tail _ (.tail _ (.head _)))))))))
theorem met (os:Os) (args:Array Value):laidMet Tryz.prog Rows.layoutPrintsUptoRow.laid ((laidWorld os).forCall (fun _ _=>0) ⟨#[],args,[]⟩).memory:=laidMet_of_run' 8 (by kernel_rfl) (by kernel_rfl)
theorem arg_str:∀ {n:Nat} {ds:List D} {a:A} (h:Typed Tryz.prog n 9 ds) (ha:ArgOf Tryz.prog 9 ds a),∃ s:List UInt8,a = .d (.str s)∧s.length≤D.bulkC ds∧s.length+1≤D.bulkC ds :=
 @arg_str_of Tryz.prog 9 Tryz.underlying9
end
end Go.Proofs.YtjcdfgakgipkoaaGreatDoor
namespace Go.Zam
inductive Utf:Bs→Prop
 | nil:Utf []
 | step {s:Bs} (h:s ≠ []) (hd:decU s ≠ (65533,1)) (hr:Utf (s.drop (decU s).2)):Utf s
theorem badF_ge:∀ (f:Nat) (s:Bs) (n:Nat),badF f s n = -1∨0≤badF f s n
 | 0,_,_ => .inl rfl
 | f + 1, s, n => by
   rw [badF]
   split
   · exact .inl rfl
   · split
     · exact .inr (by omega)
     · exact badF_ge f _ _
theorem badF_utf:∀ (f:Nat) (s:Bs) (n:Nat),s.length≤f→(badF f s n = -1 ↔ Utf s)
 | 0, s, n, h => by
   have:s=[]:=List.eq_nil_of_length_eq_zero (by omega)
   subst this
   exact ⟨fun _ => .nil,fun _=>rfl⟩
 | f + 1, s, n, h => by
   rw [badF]
   by_cases hs:s=[]
   · rw [if_pos hs]; subst hs; exact ⟨fun _ => .nil,fun _=>rfl⟩
   rw [if_neg hs]
   by_cases hd:decU s=(65533,1)
   · rw [if_pos hd]
     constructor
     · intro e; omega
     · intro hu
       cases hu with
       | nil=>exact absurd rfl hs
       | step _ h2 _=>exact absurd hd h2
   · rw [if_neg hd]
     have hl:=decU_len hs
     rw [badF_utf f _ _ (by simp; omega)]
     constructor
     · exact fun h => .step hs hd h
     · intro hu
       cases hu with
       | nil=>exact absurd rfl hs
       | step _ _ h3=>exact h3
theorem badS_utf (s:Bs):¬ 0≤badS s ↔ Utf s:=by
 rw [← badF_utf s.length s 0 (Nat.le_refl _)]
 have:=badF_ge s.length s 0
 unfold badS
 omega
theorem decodeN_w (n b0 b1 b2 b3:Nat) (hn:1≤n):Lib.decodeN n b0 b1 b2 b3=(65533,1)∨((Lib.decodeN n b0 b1 b2 b3).2=1∧b0 < 128)∨((Lib.decodeN n b0 b1 b2 b3).2=2∧2≤n∧128≤b0∧128≤b1)∨((Lib.decodeN n b0 b1 b2 b3).2=3∧3≤n∧128≤b0∧128≤b1∧128≤b2)∨((Lib.decodeN n b0 b1 b2 b3).2=4∧4≤n∧128≤b0∧128≤b1∧128≤b2∧128≤b3):=by
 unfold Lib.decodeN
 (repeat' split)<;>simp<;>omega
theorem decodeN_1 (n n' b0 b1 b2 b3 c1 c2 c3:Nat) (h:b0 < 128):Lib.decodeN n' b0 c1 c2 c3=Lib.decodeN n b0 b1 b2 b3:=by simp [Lib.decodeN,h]
theorem decodeN_2 (n n' b0 b1 b2 b3 c2 c3:Nat) (hn:2≤n) (hn':2≤n') (h:(Lib.decodeN n b0 b1 b2 b3).2=2):Lib.decodeN n' b0 b1 c2 c3=Lib.decodeN n b0 b1 b2 b3:=by
 unfold Lib.decodeN at *
 (repeat' split at h)<;>simp only at h<;>try omega
 all_goals (repeat' split)<;>first | rfl | (exfalso; omega)
theorem decodeN_3 (n n' b0 b1 b2 b3 c3:Nat) (hn:3≤n) (hn':3≤n') (h:(Lib.decodeN n b0 b1 b2 b3).2=3):Lib.decodeN n' b0 b1 b2 c3=Lib.decodeN n b0 b1 b2 b3:=by
 unfold Lib.decodeN at *
 (repeat' split at h)<;>simp only at h<;>try omega
 all_goals (repeat' split)<;>first | rfl | (exfalso; omega)
theorem decodeN_4 (n n' b0 b1 b2 b3:Nat) (hn:4≤n) (hn':4≤n') (h:(Lib.decodeN n b0 b1 b2 b3).2=4):Lib.decodeN n' b0 b1 b2 b3=Lib.decodeN n b0 b1 b2 b3:=by
 unfold Lib.decodeN at *
 (repeat' split at h)<;>simp only at h<;>try omega
 all_goals (repeat' split)<;>first | rfl | (exfalso; omega)
theorem getD_take_app (s r:Bs) (w i:Nat) (h:i < w) (hw:w≤s.length):(s.take w++r).getD i 0=s.getD i 0:=by
 have h1:i < s.length:=by omega
 simp [List.getD,List.getElem?_append,h,h1,Nat.min_eq_left hw]
theorem decU_ne {s:Bs} (h:s ≠ []):decU s=Lib.decodeN s.length (s.getD 0 0).toNat (s.getD 1 0).toNat (s.getD 2 0).toNat (s.getD 3 0).toNat:=by unfold decU; rw [if_neg h]
theorem Utf.inv {s:Bs} (hu:Utf s) (h:s ≠ []):decU s ≠ (65533,1)∧Utf (s.drop (decU s).2):=by
 cases hu with
 | nil=>exact absurd rfl h
 | step h1 h2 h3=>exact ⟨h2,h3⟩
theorem decU_loc {s:Bs} (hs:s ≠ []) (hd:decU s ≠ (65533,1)) (r:Bs):decU (s.take (decU s).2++r)=decU s∧(2≤(decU s).2→∀ i,i < (decU s).2→128≤(s.getD i 0).toNat):=by
 have hl:=decU_len hs
 have hn:1≤s.length:=by omega
 have hE:decU s=Lib.decodeN s.length (s.getD 0 0).toNat (s.getD 1 0).toNat (s.getD 2 0).toNat (s.getD 3 0).toNat:=decU_ne hs
 have hne:s.take (decU s).2++r ≠ []:=fun e=>by
  have:=congrArg List.length e
  simp only [List.length_append,List.length_take,List.length_nil] at this
  omega
 have hlen:(s.take (decU s).2++r).length=(decU s).2+r.length:=by simp only [List.length_append,List.length_take]; omega
 have hF:decU (s.take (decU s).2++r)=Lib.decodeN ((decU s).2+r.length) ((s.take (decU s).2++r).getD 0 0).toNat ((s.take (decU s).2++r).getD 1 0).toNat ((s.take (decU s).2++r).getD 2 0).toNat ((s.take (decU s).2++r).getD 3 0).toNat:=by
  rw [← hlen]; exact decU_ne hne
 have hg:=fun i h=>getD_take_app s r (decU s).2 i h hl.2
 rw [hF]
 rw [hE] at hd
 rcases decodeN_w s.length (s.getD 0 0).toNat (s.getD 1 0).toNat (s.getD 2 0).toNat (s.getD 3 0).toNat hn with h | ⟨h1,h2⟩ | ⟨h1,h2,h3,h4⟩ | ⟨h1,h2,h3,h4,h5⟩ | ⟨h1,h2,h3,h4,h5,h6⟩
 · exact absurd h hd
 · rw [← hE] at h1
   refine ⟨?_,fun h=>by omega⟩
   rw [hg 0 (by omega),hE]
   exact decodeN_1 _ _ _ _ _ _ _ _ _ h2
 · have h1':=h1
   rw [← hE] at h1
   refine ⟨?_,fun _ i hi => ?_⟩
   · rw [hg 0 (by omega),hg 1 (by omega),hE]
     rw [hE] at h1
     exact decodeN_2 _ _ _ _ _ _ _ _ h2 (by omega) h1'
   · match i,(show i < 2 by omega) with
     | 0,_=>exact h3
     | 1,_=>exact h4
 · have h1':=h1
   rw [← hE] at h1
   refine ⟨?_,fun _ i hi => ?_⟩
   · rw [hg 0 (by omega),hg 1 (by omega),hg 2 (by omega),hE]
     rw [hE] at h1
     exact decodeN_3 _ _ _ _ _ _ _ h2 (by omega) h1'
   · match i,(show i < 3 by omega) with
     | 0,_=>exact h3
     | 1,_=>exact h4
     | 2,_=>exact h5
 · have h1':=h1
   rw [← hE] at h1
   refine ⟨?_,fun _ i hi => ?_⟩
   · rw [hg 0 (by omega),hg 1 (by omega),hg 2 (by omega),hg 3 (by omega),hE]
     rw [hE] at h1
     exact decodeN_4 _ _ _ _ _ _ h2 (by omega) h1'
   · match i,(show i < 4 by omega) with
     | 0,_=>exact h3
     | 1,_=>exact h4
     | 2,_=>exact h5
     | 3,_=>exact h6
theorem Utf.app {s t:Bs} (hs:Utf s) (ht:Utf t):Utf (s++t):=by
 induction hs with
 | nil=>exact ht
 | @step s h hd hr ih =>
   have hl:=decU_len h
   have hloc:=(decU_loc h hd (s.drop (decU s).2++t)).1
   rw [← List.append_assoc,List.take_append_drop] at hloc
   refine .step (by simp [h]) (by rw [hloc]; exact hd) ?_
   rw [hloc,List.drop_append_of_le_length hl.2]
   exact ih
theorem Utf.ahead:∀ (m:Nat) {a b:Bs},a.length≤m→Utf (a++b)→(∀ x,a.getLast?=some x→x.toNat < 128)→Utf a
 | m,[],b,_,_,_ => .nil
 | 0,x :: a,b,h,_,_=>by simp at h
 | m + 1, x :: a, b, h, hu, hlast => by
   generalize hA:x :: a=A at *
   have hne:A ≠ []:=by rw [← hA]; simp
   have h1:A++b ≠ []:=by simp [hne]
   obtain ⟨hd,hr⟩:=hu.inv h1
   · have hl:=decU_len h1
     have hloc:=decU_loc h1 hd
     rcases Nat.lt_or_ge A.length (decU (A++b)).2 with hw | hw
     · exfalso
       have hA1:1≤A.length:=by rw [← hA]; simp
       have:=(hloc []).2 (by omega) (A.length - 1) (by omega)
       have hg:A.getLast?=some (A[A.length - 1]'(by omega)):=by rw [List.getLast?_eq_getElem?,List.getElem?_eq_getElem]
       have h2:=hlast _ hg
       have h3:(A++b).getD (A.length - 1) 0=A[A.length - 1]'(by omega):=by
        simp [List.getD,List.getElem?_append,show A.length - 1 < A.length by omega]
       rw [h3] at this
       omega
     · have e1:(A++b).take (decU (A++b)).2=A.take (decU (A++b)).2:=List.take_append_of_le_length hw
       have h3:=(hloc (A.drop (decU (A++b)).2)).1
       rw [e1,List.take_append_drop] at h3
       have hA1:=decU_len hne
       refine .step hne (by rw [h3]; exact hd) ?_
       rw [h3]
       rw [List.drop_append_of_le_length hw] at hr
       refine Utf.ahead m (by simp; omega) hr fun y hy=>hlast y ?_
       rw [List.getLast?_drop] at hy
       split at hy
       · cases hy
       · exact hy
theorem Utf.ascii:∀ {s:Bs},(∀ c ∈ s,c.toNat < 128)→Utf s
 | [],_ => .nil
 | b :: r, h => by
   have hb:=h b (by simp)
   have hd:decU (b :: r)=(b.toNat,1):=by
    have:decU (b :: r)=Lib.decodeN (b :: r).length b.toNat ((b :: r).getD 1 0).toNat ((b :: r).getD 2 0).toNat ((b :: r).getD 3 0).toNat:=rfl
    rw [this]; simp [Lib.decodeN,hb]
   refine .step (by simp) (by rw [hd]; simp; omega) ?_
   rw [hd]
   show Utf r
   exact Utf.ascii fun c hc=>h c (by simp [hc])
inductive Toks:Bs→Nat→List Tk→Prop
 | fin {s:Bs} {n:Nat} (h:(tokN (s.drop (leadS false s))).1=0) (h0:s.drop (leadS false s)=[]):Toks s n [⟨0,n+leadS false s,s.take (leadS false s),[]⟩]
 | tok {s:Bs} {n:Nat} {l:List Tk} (h:(tokN (s.drop (leadS false s))).1=0) (h0:s.drop (leadS false s) ≠ []) (hr:Toks ((s.drop (leadS false s)).drop (tokN (s.drop (leadS false s))).2.2) (n+leadS false s+(tokN (s.drop (leadS false s))).2.2) l) :
  Toks s n (⟨(tokN (s.drop (leadS false s))).2.1,n+leadS false s,s.take (leadS false s),(s.drop (leadS false s)).take (tokN (s.drop (leadS false s))).2.2⟩ :: l)
theorem lexF_toks:∀ (f:Nat) (s:Bs) (n c:Nat),s.length < f→((lexF f s n c).2.1=0 ↔ ∃ l,Toks s n l∧c+l.length≤4000)∧((lexF f s n c).2.1=0→Toks s n (lexF f s n c).1∧c+(lexF f s n c).1.length≤4000)
 | 0,s,n,c,h=>by omega
 | f + 1, s, n, c, h => by
   have htl:=tokN_len (s.drop (leadS false s))
   obtain ⟨t1,t2,t3,t4⟩:=htl
   rw [lexF]
   by_cases he:(tokN (s.drop (leadS false s))).1=0
   case neg =>
    rw [if_pos he]
    refine ⟨⟨fun e=>absurd e he,?_⟩,fun e=>absurd e he⟩
    rintro ⟨l,hl,-⟩
    cases hl with
    | fin h1 h2=>exact absurd h1 he
    | tok h1 h2 h3=>exact absurd h1 he
   rw [if_neg (by simp [he])]
   by_cases hc:4000≤c
   case pos =>
    rw [if_pos hc]
    refine ⟨⟨fun e=>absurd e (by simp),?_⟩,fun e=>absurd e (by simp)⟩
    rintro ⟨l,hl,hlc⟩
    cases hl with
    | fin h1 h2=>simp at hlc; omega
    | tok h1 h2 h3=>simp at hlc; omega
   rw [if_neg hc]
   by_cases hk:(tokN (s.drop (leadS false s))).2.1=0
   · rw [if_pos hk]
     have hnil:=t2 he hk
     have hT:Toks s n [⟨(tokN (s.drop (leadS false s))).2.1,n+leadS false s,s.take (leadS false s),(s.drop (leadS false s)).take (tokN (s.drop (leadS false s))).2.2⟩]:=by
      have:=Toks.fin (n:=n) he hnil
      rw [hk,hnil]
      simpa using this
     exact ⟨⟨fun _=>⟨_,hT,by simp; omega⟩,fun _=>rfl⟩,fun _=>⟨hT,by simp; omega⟩⟩
   · rw [if_neg hk]
     have hne:s.drop (leadS false s) ≠ []:=fun e=>hk (t4 e)
     have hm:=t3 he hne
     have hlen:((s.drop (leadS false s)).drop (tokN (s.drop (leadS false s))).2.2).length < f:=by
      simp only [List.length_drop] at t1 ⊢
      have:leadS false s < s.length:=by
       rcases Nat.lt_or_ge (leadS false s) s.length with h' | h'
       · exact h'
       · exact absurd (List.drop_eq_nil_of_le h') hne
      omega
     obtain ⟨i1,i2⟩:=lexF_toks f _ (n+leadS false s+(tokN (s.drop (leadS false s))).2.2) (c+1) hlen
     generalize lexF f ((s.drop (leadS false s)).drop (tokN (s.drop (leadS false s))).2.2) (n+leadS false s+(tokN (s.drop (leadS false s))).2.2) (c+1)=R at i1 i2
     by_cases hR:R.2.1=0
     · rw [if_pos hR]
       obtain ⟨j1,j2⟩:=i2 hR
       have hT:=Toks.tok (n:=n) he hne j1
       exact ⟨⟨fun _=>⟨_,hT,by simp; omega⟩,fun _=>rfl⟩,fun _=>⟨hT,by simp; omega⟩⟩
     · rw [if_neg hR]
       refine ⟨⟨fun e=>absurd e hR,?_⟩,fun e=>absurd e hR⟩
       rintro ⟨l,hl,hlc⟩
       exfalso
       cases hl with
       | fin h1 h2=>exact hne h2
       | tok h1 h2 h3=>exact hR (i1.2 ⟨_,h3,by simp at hlc; omega⟩)
theorem Toks.uniq:∀ {s:Bs} {n:Nat} {l l':List Tk},Toks s n l→Toks s n l'→l=l':=by
 intro s n l l' h
 induction h generalizing l' with
 | fin h1 h2 =>
   intro h'
   cases h' with
   | fin h3 h4=>rfl
   | tok h3 h4 h5=>exact absurd h2 h4
 | tok h1 h2 h3 ih =>
   intro h'
   cases h' with
   | fin h4 h5=>exact absurd h5 h2
   | tok h4 h5 h6=>rw [ih h6]
theorem lexS_ok (s:Bs):((lexS s).2.1=0 ↔ s.length≤16384∧Utf s∧∃ l,Toks s 0 l∧l.length≤4000)∧((lexS s).2.1=0→Toks s 0 (lexS s).1∧(lexS s).1.length≤4000):=by
 have hu:=badS_utf s
 unfold lexS
 by_cases h1:16384 < s.length
 · rw [if_pos h1]
   exact ⟨⟨fun e=>absurd e (by simp),fun e=>by omega⟩,fun e=>absurd e (by simp)⟩
 rw [if_neg h1]
 by_cases h2:0≤badS s
 · rw [if_pos h2]
   exact ⟨⟨fun e=>absurd e (by simp),fun e=>absurd e.2.1 fun q=>hu.2 q h2⟩,fun e=>absurd e (by simp)⟩
 rw [if_neg h2]
 obtain ⟨i1,i2⟩:=lexF_toks (s.length+1) s 0 0 (by omega)
 refine ⟨?_,fun e=>by simpa using i2 e⟩
 rw [i1]
 simp only [Nat.zero_add]
 exact ⟨fun ⟨l,a,b⟩=>⟨by omega,hu.1 h2,l,a,b⟩,fun ⟨_,_,q⟩=>q⟩
def TkAt (p:Nat) (last:Prop) (t:Tk):Prop:=t.a=p+t.l.length∧(t.k=0 ↔ last)∧(t.x=[] ↔ t.k=0)
theorem Toks.join {s:Bs} {n:Nat} {l:List Tk} (h:Toks s n l):joinS l=s∧(∃ t,l.getLast?=some t∧t.k=0)∧∀ (i:Nat) (t:Tk),l[i]?=some t→TkAt (n+(joinS (l.take i)).length) (i+1=l.length) t:=by
 induction h with
 | @fin s n h1 h2 =>
   refine ⟨?_,⟨_,rfl,rfl⟩,fun i t hi => ?_⟩
   · simp only [joinS,List.flatMap_cons,List.flatMap_nil,List.append_nil]
     have:=List.take_append_drop (leadS false s) s
     rw [h2,List.append_nil] at this
     exact this
   · cases i with
     | zero =>
       simp at hi; subst hi
       have:=lead_le false s
       refine ⟨by simp [joinS]; omega,by simp,by simp⟩
     | succ i=>simp at hi
 | @tok s n l h1 h2 h3 ih =>
   obtain ⟨j1,⟨t0,j2,j3⟩,j4⟩:=ih
   have hl:=lead_le false s
   obtain ⟨m1,m2,m3,m4⟩:=tokN_len (s.drop (leadS false s))
   have hne:l ≠ []:=fun e=>by subst e; simp at j2
   have hm:=m3 h1 h2
   have hx:(s.drop (leadS false s)).take (tokN (s.drop (leadS false s))).2.2 ≠ []:=fun e=>by
    have:=congrArg List.length e
    simp only [List.length_take,List.length_nil] at this
    omega
   have hk:¬ (tokN (s.drop (leadS false s))).2.1=0:=fun e=>h2 (m2 h1 e)
   have hlx:((s.drop (leadS false s)).take (tokN (s.drop (leadS false s))).2.2).length=(tokN (s.drop (leadS false s))).2.2:=by simp only [List.length_take]; omega
   refine ⟨?_,⟨t0,?_,j3⟩,fun i t hi => ?_⟩
   · have e:joinS (⟨(tokN (s.drop (leadS false s))).2.1,n+leadS false s,s.take (leadS false s),(s.drop (leadS false s)).take (tokN (s.drop (leadS false s))).2.2⟩ :: l)=(s.take (leadS false s)++(s.drop (leadS false s)).take (tokN (s.drop (leadS false s))).2.2)++joinS l:=rfl
     rw [e,j1,List.append_assoc,List.take_append_drop,List.take_append_drop]
   · rw [List.getLast?_cons,j2]; rfl
   · cases i with
     | zero =>
       simp at hi; subst hi
       refine ⟨by simp [joinS]; omega,?_,?_⟩
       · simp [hk]; exact hne
       · simp only; exact ⟨fun e=>absurd e hx,fun e=>absurd e hk⟩
     | succ i =>
       simp at hi
       obtain ⟨q1,q2,q3⟩:=j4 i t hi
       refine ⟨?_,?_,q3⟩
       · rw [q1,List.take_succ_cons]
         have e:joinS (⟨(tokN (s.drop (leadS false s))).2.1,n+leadS false s,s.take (leadS false s),(s.drop (leadS false s)).take (tokN (s.drop (leadS false s))).2.2⟩ :: l.take i)=(s.take (leadS false s)++(s.drop (leadS false s)).take (tokN (s.drop (leadS false s))).2.2)++joinS (l.take i):=rfl
         rw [e]
         simp only [List.length_append,hlx,List.length_take]
         omega
       · rw [q2]; simp
section
def EndsL (L:List Tk):Prop:=∀ i,i+1=L.length→kdT L i=0
theorem kdT_ltE {L:List Tk} {i:Nat} (hE:EndsL L) (h:kdT L i ≠ 0):i+1 < L.length:=by
 have:=kdT_lt h
 rcases Nat.lt_or_ge (i+1) L.length with h' | h'
 · exact h'
 · exact absurd (hE i (by omega)) h
theorem isT_kd {L:List Tk} {i:Nat} {x:Bs} (h:isT L i x=true):kdT L i ≠ 0:=by
 unfold isT at h
 unfold kdT
 cases hg:L[i]? with
 | none=>rw [hg] at h; cases h
 | some t =>
   rw [hg] at h
   simp at h ⊢
   rcases h.1 with h | h<;>omega
theorem isT_ltE {L:List Tk} {i:Nat} {x:Bs} (hE:EndsL L) (h:isT L i x=true):i+1 < L.length:=kdT_ltE hE (isT_kd h)
def Bd (L:List Tk):PR→Prop
 | .ok _ j | .bad j=>j < L.length
 | .out=>True
section
variable {L:List Tk}
theorem Bd.want (hE:EndsL L) {k:Nat} {x:Bs} {h:Nat→PR} (hk:k < L.length) (hh:k+1 < L.length→Bd L (h (k+1))):Bd L (wantR L k x h):=by
 unfold wantR
 split
 · rename_i e; exact hh (isT_ltE hE e)
 · exact hk
theorem Bd.word (hE:EndsL L) {k:Nat} {h:Bs→Nat→PR} (hk:k < L.length) (hh:k+1 < L.length→Bd L (h (txT L k) (k+1))):Bd L (wordR L k h):=by
 unfold wordR
 split
 · rename_i e; exact hh (kdT_ltE hE (by omega))
 · exact hk
theorem Bd.ifT (hE:EndsL L) {k:Nat} {x:Bs} {a b:PR} (ha:k+1 < L.length→Bd L a) (hb:Bd L b):Bd L (if isT L k x then a else b):=by
 split
 · rename_i e; exact ha (isT_ltE hE e)
 · exact hb
theorem Bd.ifK (hE:EndsL L) {k:Nat} {x:Int} {a b:PR} (hx:x ≠ 0) (ha:k+1 < L.length→Bd L a) (hb:Bd L b):Bd L (if kdT L k=x then a else b):=by
 split
 · rename_i e; exact ha (kdT_ltE hE (by omega))
 · exact hb
theorem Bd.if0 {k:Nat} {a b:PR} (ha:Bd L a) (hb:Bd L b):Bd L (if kdT L k=0 then a else b):=by
 split
 · exact ha
 · exact hb
theorem Bd.ifS (hE:EndsL L) {k:Nat} {x:Bs} {a b:PR} (ha:k+2 < L.length→Bd L a) (hb:Bd L b):Bd L (if kdT L k=1∧isT L (k+1) x=true then a else b):=by
 split
 · rename_i e; exact ha (by have:=isT_ltE hE e.2; omega)
 · exact hb
theorem Bd.thenG {r:PR} {h:N→Nat→PR} (hr:Bd L r) (hh:∀ m j,j < L.length→Bd L (h m j)):Bd L (r.then h):=by
 cases r with
 | out=>trivial
 | bad j=>exact hr
 | ok m j=>exact hh m j hr
theorem pp_bd (hE:EndsL L):∀ (n:Nat) (g:G) (i:Nat),i < L.length→Bd L (pp L n g i)
 | 0,g,i,_=>trivial
 | n + 1, g, i, hi => by
   have ih:=pp_bd hE n
   cases g
   all_goals simp only [pp]
   all_goals
    repeat' first
     | (refine Bd.want hE (by omega) fun _ => ?_)
     | (refine Bd.word hE (by omega) fun _ => ?_)
     | (refine Bd.ifT hE (fun _ => ?_) ?_)
     | (refine Bd.ifK hE (by decide) (fun _ => ?_) ?_)
     | (refine Bd.ifS hE (fun _ => ?_) ?_)
     | (refine Bd.if0 ?_ ?_)
     | (refine Bd.thenG (ih _ _ (by omega)) fun m j h1 => ?_)
     | (exact (by omega:_ < L.length))
     | (exact ih _ _ (by omega))
theorem parseF_bad (hE:EndsL L) (h0:0 < L.length) {q:Nat} (h:parseF L = .bad q):q < L.length:=by
 have:=pp_bd hE (16 * L.length+8) (.file []) 0 h0
 rw [show pp L (16 * L.length+8) (.file []) 0 = .bad q from h] at this
 exact this
end
theorem tokN_key (s:Bs):(tokN s).1=0→(tokN s).2.1=2→s.take (tokN s).2.2 ∈ keysL:=by
 cases s with
 | nil=>intro _ h; cases h
 | cons b r =>
   rw [tokN]
   (repeat' split)<;>simp_all
theorem Toks.like {s:Bs} {n:Nat} {l:List Tk} (h:Toks s n l):l ≠ []∧EndsL l∧(∀ i,i+1 < l.length→kdT l i ≠ 0)∧∀ t ∈ l,t.k=2→t.x ∈ keysL:=by
 induction h with
 | fin h h0 =>
   refine ⟨by simp,fun i hi => ?_,fun i hi=>by simp at hi,?_⟩
   · have:i=0:=by simp at hi; omega
     subst this; rfl
   · intro t ht hk
     simp at ht; subst ht
     simp at hk
 | @tok s n l h h0 hr ih =>
   obtain ⟨i1,i2,i3,i4⟩:=ih
   have htl:=tokN_len (s.drop (leadS false s))
   obtain ⟨t1,t2,t3,t4⟩:=htl
   have hl:0 < l.length:=List.length_pos_iff.2 i1
   refine ⟨by simp,fun i hi => ?_,fun i hi => ?_,?_⟩
   · cases i with
     | zero=>exact absurd hi (by simp only [List.length_cons]; omega)
     | succ i=>exact i2 i (by simpa using hi)
   · cases i with
     | zero =>
       show (tokN (s.drop (leadS false s))).2.1 ≠ 0
       exact fun e=>h0 (t2 h e)
     | succ i=>exact i3 i (by simpa using hi)
   · intro t ht hk
     rcases List.mem_cons.1 ht with rfl | ht
     · exact tokN_key _ h hk
     · exact i4 t ht hk
theorem noEq_of {l:List Tk} (h:∀ t ∈ l,t.k=2→t.x ∈ keysL) (i:Nat) (hi:isT l i [61]=true):kdT l i=5:=by
 unfold isT at hi
 unfold kdT
 cases hg:l[i]? with
 | none=>rw [hg] at hi; cases hi
 | some t =>
   rw [hg] at hi
   simp at hi ⊢
   rcases hi.1 with e | e
   · have:=h t (List.mem_of_getElem? hg) e
     rw [hi.2] at this
     exact absurd this (by decide)
   · exact e
theorem lexS_like {s:Bs} (h:(lexS s).2.1=0):(lexS s).1 ≠ []∧EndsL (lexS s).1∧(∀ i,i+1 < (lexS s).1.length→kdT (lexS s).1 i ≠ 0)∧(∀ i,isT (lexS s).1 i [61]=true→kdT (lexS s).1 i=5)∧(lexS s).1.length≤4000:=by
 obtain ⟨h1,h2⟩:=(lexS_ok s).2 h
 obtain ⟨a1,a2,a3,a4⟩:=h1.like
 exact ⟨a1,a2,a3,noEq_of a4,h2⟩
def parseO (s:Bs):List Tk × N × Int × Int :=
 if (lexS s).2.1 ≠ 0 then ([],N.none,(lexS s).2.1,(lexS s).2.2)
 else if (parseP (lexS s).1).2.1 ≠ 0 then ([],N.none,(parseP (lexS s).1).2.1,match (lexS s).1[(parseP (lexS s).1).2.2.toNat]? with | some t=>(t.a:Int) | none=>0)
 else ((lexS s).1,(parseP (lexS s).1).1,0,0)
theorem parseP_at {L:List Tk} (hE:EndsL L) (h0:L ≠ []):0≤(parseP L).2.2∧(parseP L).2.2.toNat < L.length:=by
 have hl:=List.length_pos_iff.2 h0
 unfold parseP
 split
 · exact ⟨by simp,by simpa using hl⟩
 · split
   · split<;>exact ⟨by simp,by simpa using hl⟩
   · rename_i q hq
     have:=parseF_bad hE hl hq
     exact ⟨by simp,by simpa using this⟩
   · exact ⟨by simp,by simpa using hl⟩
section
variable {P:Program}
theorem Has.of_ {f fl fp tn} (h:Has P f (irPOf fl fp tn)) {H0:Hp} (hl:∀ (s:Bs),s.length≤1048576→∀ H,Pre0 H0 H→ACall P fl [.d (.str s)] H (fun r H'=>r = .tup [.d (.sl true 4 ((lexS s).1.map encTk)),.d (.int .i64 (lexS s).2.1),.d (.int .i64 (lexS s).2.2)]∧H'=H))
 (hp:∀ (z:Bool) (L:List Tk),L.length≤1048576→(∀ i,isT L i [61]=true→kdT L i=5)→∀ H,ACall P fp [.d (.sl z 4 (L.map encTk))] H (fun r H'=>r = .tup [(parseP L).1.v,.d (.int .i64 (parseP L).2.1),.d (.int .i64 (parseP L).2.2)]∧H'=H))
 (s:Bs) (hs:s.length≤1048576) (H:Hp) (hH:Pre0 H0 H) :
 ACall P f [.d (.str s)] H (fun r H'=>r = .tup [.d (.sl true 4 ((parseO s).1.map encTk)),(parseO s).2.1.v,.d (.int .i64 (parseO s).2.2.1),.d (.int .i64 (parseO s).2.2.2)]∧H'=H):=by
 obtain ⟨fn,hf,hcf⟩:=h
 refine acall_fin hf hcf (by simp [irPOf]) fun hcl _ => ?_
 obtain ⟨Q,hQ⟩:∃ Q:A→Hp→Prop,Q=fun r H'=>r = .tup [.d (.sl true 4 ((parseO s).1.map encTk)),(parseO s).2.1.v,.d (.int .i64 (parseO s).2.2.1),.d (.int .i64 (parseO s).2.2.2)]∧H'=H:=⟨_,rfl⟩
 rw [← hQ]
 have hnone:∀ e b:Int,parseO s=([],N.none,e,b)→Q (.tup [.d (.sl true 4 []),.agg [.d (.int .i64 0),.d (.int .i64 0),.d (.int .i64 0),.d (.str []),.d (.int .i64 0),.d (.sl true 6 [])],.d (.int .i64 e),.d (.int .i64 b)]) H:=fun e b h=>by
  subst hQ
  rw [h]
  exact ⟨rfl,rfl⟩
 have hO:parseO s=if (lexS s).2.1 ≠ 0 then ([],N.none,(lexS s).2.1,(lexS s).2.2)
  else if (parseP (lexS s).1).2.1 ≠ 0 then ([],N.none,(parseP (lexS s).1).2.1,match (lexS s).1[(parseP (lexS s).1).2.2.toNat]? with | some t=>(t.a:Int) | none=>0)
  else ((lexS s).1,(parseP (lexS s).1).1,0,0):=rfl
 have hlk:=lexS_like (s:=s)
 have g1:=hl s hs _ (hH.app [Ob.box tn [.d (.int .i64 0),.d (.int .i64 0),.d (.int .i64 0),.d (.str []),.d (.int .i64 0),.d (.sl true 6 [])]])
 generalize lexS s=LS at hO hlk g1
 obtain ⟨L,e,b⟩:=LS
 simp only at hO hlk g1
 simp [irPOf]
 refine CallK_of' g1 ?_
 by_cases he:e=0
 case neg =>
  rw [if_pos he] at hO
  simp [he]
  simp [RetK,cut_app hcl]
  exact hnone e b hO
 rw [if_neg (by simp [he])] at hO
 obtain ⟨l1,l2,l3,l4,l5⟩:=hlk he
 have hat:=parseP_at l2 l1
 have g2:=hp true L (by omega) l4
 generalize parseP L=PS at hO hat g2
 obtain ⟨m,e2,b2⟩:=PS
 simp only at hO hat g2
 simp [he]
 refine CallK_of' (g2 _) ?_
 obtain ⟨k,f',t,w,a,z,ks⟩:=m
 rw [N.v_mk]
 obtain ⟨hb0,hb1⟩:=hat
 obtain ⟨q,rfl⟩:∃ q:Nat,b2=(q:Int):=⟨b2.toNat,by omega⟩
 simp only [Int.toNat_natCast] at hO hb1
 have hr:=rowAt_map encTk hb1
 rw [List.getElem?_eq_getElem hb1] at hO
 generalize L[q]=tk at hr hO
 obtain ⟨tk,ta,tl,tx⟩:=tk
 simp only [encTk] at hr
 simp
 by_cases he2:e2=0
 case neg =>
  rw [if_pos he2] at hO
  simp [he2,hr]
  repeat' apply And.intro
  all_goals
   simp [RetK,cut_app hcl]
   try exact hnone e2 ta hO
 rw [if_neg (by simp [he2])] at hO
 simp [he2]
 simp [RetK,cut_app hcl]
 subst hQ
 rw [hO]
 exact ⟨by rw [N.v_mk],rfl⟩
end
end
end Go.Zam
namespace Go.Proofs
section
open Go.Shelf Go.RowKit
variable {P:Program} {ρ:Ren}
set_option maxHeartbeats 32000000 in
set_option maxRecDepth 100000 in
theorem AnyPu.internal_strconv_ParseUint_10_b63 (L:LaysPu.n16 P ρ) (t:ByteArray) (hne:t.size ≠ 0) (hmax:t.size≤9223372036854775806) (w:World) :
 Calls P (ρ.f 16) #[.string t,.int .i64 10,.int .i64 63] w fun e w'=>e = .returned (Lib.uintTupleM (ρ.t 34) 9223372036854775807 (Lib.parseUintM 9223372036854775807 0 t.data.toList))∧w'=Lib.bytesWorld w (ρ.t 5) t:=by
 have mixed:=L.mixed
 have t9:=L.t9; have a9:=L.a9; have z9:=L.z9; have v9:=L.v9
 have t3:=L.t3; have a3:=L.a3; have z3:=L.z3; have v3:=L.v3
 have t22:=L.t22; have a22:=L.a22; have z22:=L.z22; have v22:=L.v22
 have t24:=L.t24; have a24:=L.a24; have z24:=L.z24; have v24:=L.v24
 have t4:=L.t4; have a4:=L.a4; have z4:=L.z4; have v4:=L.v4
 have t34:=L.t34; have a34:=L.a34; have z34:=L.z34; have v34:=L.v34
 have t5:=L.t5; have a5:=L.a5; have z5:=L.z5; have v5:=L.v5
 have t36:=L.t36; have a36:=L.a36; have z36:=L.z36; have v36:=L.v36
 have t37:=L.t37; have a37:=L.a37; have z37:=L.z37; have v37:=L.v37
 have t0:=L.t0; have a0:=L.a0; have z0:=L.z0; have v0:=L.v0
 have e19:∀ args w,(callFunc (ρ.f 19) args).run P w = .ok (.enter (ρ.f 19) args) w:=enters_of L.f19 (by kernel_rfl) rfl
 have hemp:t.toList.isEmpty=false:=by
  rw [← decide_eq_emptyBytes]
  exact decide_eq_false (fun h=>hne (by rw [h]; rfl))
 have hcv:=Lib.run_convert_string_bytes (P:=P) w (ρ.t 9) (ρ.t 37) (ρ.t 5) t (u := .string) L.t9 L.t37 L.t5
 have hB:∀ j,j < t.size→(Lib.bytesWorld w (ρ.t 5) t).cell? ⟨w.heap.size,j,none⟩=some (.int .u8 (t.data.toList.getD j 0).toNat):=fun j hj=>Lib.bytesWorld_cell w (ρ.t 5) t j hj
 obtain ⟨W1,hW1⟩:∃ W1,W1=Lib.bytesWorld w (ρ.t 5) t:=⟨_,rfl⟩
 rw [← hW1] at hcv hB ⊢
 clear hW1
 obtain ⟨bs,hL⟩:∃ bs,bs=t.data.toList:=⟨_,rfl⟩
 have hLn:bs.length=t.size:=by rw [hL,Lib.size_eq]
 rw [← hL] at hB ⊢
 clear hL
 have hmv:IntKind.u64.wrap (IntKind.u64.wrap 9223372036854775808 - 1)=9223372036854775807:=by
  rw [IntKind.wrap_u64,IntKind.wrap_u64]
  decide
 go_enter L.f16,BodyPu.n16_ntmps ρ
 go_wp2
 go_loop [12,13,101] (fun vu vn vi=>∃ (k acc:Nat) (a:Int),vu = .bool false∧vn = .int .u64 a∧vi = .int .i64 k∧k≤t.size∧Hid (a=(acc:Int)∧acc≤9223372036854775807∧Lib.parseUintM 9223372036854775807 0 bs=Lib.parseUintM 9223372036854775807 acc (bs.drop k)))
  (fun _ _ vi=>t.size - (intOf vi).toNat)
 case atStart=>exact ⟨0,0,0,rfl,rfl,rfl,by omega,rfl,by omega,rfl⟩
 case round =>
  obtain ⟨k,acc,a,rfl,rfl,rfl,hk,hh⟩:=hrel
  obtain ⟨ha,hacc,hdec⟩:=hh.out
  clear hh
  have a0:0≤a:=by omega
  have a1:a≤9223372036854775807:=by omega
  by_cases hkn:k < t.size
  · have hc:=hB k hkn
    have hdrop:bs.drop k=bs[k]'(by omega) :: bs.drop (k+1):=List.drop_eq_getElem_cons (by omega)
    have hget:bs.getD k 0=bs[k]'(by omega):=by simp [List.getD,List.getElem?_eq_getElem (show k < bs.length by omega)]
    rw [hdrop] at hdec
    rw [hget] at hc
    generalize bs[k]'(by omega)=c at hc hdec
    have hc256:c.toNat < 256:=c.toNat_lt
    clear hB hdrop hget
    by_cases hdig:48≤c.toNat∧c.toNat≤57
    · obtain ⟨hd0,hd1⟩:=hdig
      by_cases hcut:1844674407370955162≤acc
      · have hF:Lib.parseUintM 9223372036854775807 acc (c :: bs.drop (k+1)) = .range:=by simp [Lib.parseUintM,hd0,hd1,hcut]
        rw [hF] at hdec
        have icut:1844674407370955162≤a:=by omega
        clear hcut hacc hF ha
        go_wp2
        go_ret2
        exact ⟨rfl,rfl⟩
      by_cases hov2:18446744073709551616≤acc * 10+(c.toNat - 48)
      · have hov:9223372036854775807 < acc * 10+(c.toNat - 48):=by omega
        have hF:Lib.parseUintM 9223372036854775807 acc (c :: bs.drop (k+1)) = .range:=by simp [Lib.parseUintM,hd0,hd1,hcut,hov]
        rw [hF] at hdec
        have icut:a < 1844674407370955162:=by omega
        have iov:18446744073709551616≤a * 10+((c.toNat:Int) - 48):=by omega
        have hwr:IntKind.u64.wrap (a * 10+((c.toNat:Int) - 48))=a * 10+((c.toNat:Int) - 48) - 18446744073709551616:=by
         rw [IntKind.wrap_u64]
         omega
        clear hcut hacc hF hov hov2 ha
        go_wp2
        go_ret2
        exact ⟨rfl,rfl⟩
      by_cases hov:9223372036854775807 < acc * 10+(c.toNat - 48)
      ·
       have hF:Lib.parseUintM 9223372036854775807 acc (c :: bs.drop (k+1)) = .range:=by simp [Lib.parseUintM,hd0,hd1,hcut,hov]
       rw [hF] at hdec
       have iov:9223372036854775807 < a * 10+((c.toNat:Int) - 48):=by omega
       have iov2:a * 10+((c.toNat:Int) - 48) < 18446744073709551616:=by omega
       have icut:a < 1844674407370955162:=by omega
       clear hcut hacc hF hov hov2 ha
       go_wp2
       go_ret2
       exact ⟨rfl,rfl⟩
      · have hF:Lib.parseUintM 9223372036854775807 acc (c :: bs.drop (k+1))=Lib.parseUintM 9223372036854775807 (acc * 10+(c.toNat - 48)) (bs.drop (k+1)):=by simp [Lib.parseUintM,hd0,hd1,hcut,hov]
        have HN:Hid (a * 10+((c.toNat:Int) - 48)=((acc * 10+(c.toNat - 48):Nat):Int)∧acc * 10+(c.toNat - 48)≤9223372036854775807∧Lib.parseUintM 9223372036854775807 0 bs=Lib.parseUintM 9223372036854775807 (acc * 10+(c.toNat - 48)) (bs.drop (k+1))):=Lib.hid ⟨by omega,by omega,hdec.trans hF⟩
        have iov:a * 10+((c.toNat:Int) - 48)≤9223372036854775807:=by omega
        have icut:a < 1844674407370955162:=by omega
        clear hcut hacc hF hov hov2 hdec ha
        go_wp2
        refine ⟨⟨k+1,acc * 10+(c.toNat - 48),a * 10+((c.toNat:Int) - 48),rfl,(by first | rfl | (congr 1; omega)),(by first | rfl | (congr 1; omega)),by omega,HN⟩,by simp [intOf]; omega⟩
    ·
     have hF:Lib.parseUintM 9223372036854775807 acc (c :: bs.drop (k+1))=Lib.NumEnd.syntax:=by simp [Lib.parseUintM,hdig]
     rw [hF] at hdec
     clear hacc hF ha
     have hv0:=bits_lo_u8 .or (c.toNat:Int) 32
     have hv1:=bits_hi_u8 .or (c.toNat:Int) 32
     have hu0:=bits_lo_u8 .or 95 32
     have hu1:=bits_hi_u8 .or 95 32
     go_wp2_with (go_at_fn (ρ.f 19); refine (AnyPu.internal_strconv_lower { L with } _ _).mono ?_; rintro e w' ⟨rfl,rfl⟩)
     all_goals go_ret2
     all_goals first | exact ⟨rfl,rfl⟩ | exact ⟨by rw [hdec]; rfl,rfl⟩
  ·
   have hkk:k=t.size:=by omega
   subst hkk
   have hF:Lib.parseUintM 9223372036854775807 acc (bs.drop t.size) = .ok acc:=by rw [List.drop_eq_nil_of_le (by omega)]; rfl
   rw [hF] at hdec
   subst ha
   clear hacc hF a0 a1
   go_wp2
   go_ret2
   exact ⟨rfl,rfl⟩
theorem AnyPu.internal_strconv_ParseUint_10_at63 (L:LaysPu.n16 P ρ) (t:ByteArray) (hmax:t.size≤9223372036854775806) (w:World) :
 Calls P (ρ.f 16) #[.string t,.int .i64 10,.int .i64 63] w fun e w'=>e = .returned (Lib.uintTupleM (ρ.t 34) 9223372036854775807 (Lib.parseUintB 63 t.data.toList))∧(w'=w∨w'=Lib.bytesWorld w (ρ.t 5) t):=by
 have eM:(2:Nat) ^ 63 - 1=9223372036854775807:=by decide
 by_cases h0:t.size=0
 · have ht:t=⟨#[]⟩:=by
    apply ByteArray.ext
    exact Array.eq_empty_of_size_eq_zero h0
   subst ht
   exact (AnyPu.internal_strconv_ParseUint_empty { L with } 10 63 w).mono fun e w' ⟨he,hw⟩=>⟨he,Or.inl hw⟩
 · have hne:t.data.toList ≠ []:=fun h=>h0 (by rw [Lib.size_eq,h]; rfl)
   refine (AnyPu.internal_strconv_ParseUint_10_b63 { L with } t h0 hmax w).mono fun e w' ⟨he,hw⟩=>⟨?_,Or.inr hw⟩
   rw [he,Lib.parseUintB,if_neg hne,eM]
set_option maxHeartbeats 4000000 in
set_option maxRecDepth 100000 in
theorem Any.strconv_ParseUint_10_at63_ok (L:LaysPu.n14 P ρ) (s:ByteArray) (hmax:s.size≤9223372036854775806) (u:Nat) (h:Lib.parseUintB 63 s.data.toList = .ok u) (w:World) :
 Calls P (ρ.f 14) #[.string s,.int .i64 10,.int .i64 63] w fun e w'=>e = .returned (.tuple #[.int .u64 u,.nilIface])∧(w'=w∨w'=Lib.bytesWorld w (ρ.t 5) s):=by
 have mixed:=L.mixed
 have t9:=L.t9; have a9:=L.a9; have z9:=L.z9; have v9:=L.v9
 have t3:=L.t3; have a3:=L.a3; have z3:=L.z3; have v3:=L.v3
 have t22:=L.t22; have a22:=L.a22; have z22:=L.z22; have v22:=L.v22
 have t24:=L.t24; have a24:=L.a24; have z24:=L.z24; have v24:=L.v24
 have t25:=L.t25; have a25:=L.a25; have z25:=L.z25; have v25:=L.v25
 have t4:=L.t4; have a4:=L.a4; have z4:=L.z4; have v4:=L.v4
 have e16:∀ args w,(callFunc (ρ.f 16) args).run P w = .ok (.enter (ρ.f 16) args) w:=enters_of L.f16 (by kernel_rfl) rfl
 have hI:=AnyPu.internal_strconv_ParseUint_10_at63 { L with } s hmax w
 rw [h] at hI
 have hI:Calls P (ρ.f 16) #[.string s,.int .i64 10,.int .i64 63] w fun e w'=>e = .returned (.tuple #[.int .u64 u,.nilIface])∧(w'=w∨w'=Lib.bytesWorld w (ρ.t 5) s):=hI
 clear h
 go_enter L.f14,BodyPu.n14_ntmps ρ
 go_wp2_with (go_at_fn (ρ.f 16); refine hI.mono ?_; rintro e W1 ⟨rfl,hW⟩)
 go_wp2
 go_ret2
 exact ⟨rfl,hW⟩
set_option maxHeartbeats 4000000 in
set_option maxRecDepth 100000 in
theorem Any.strconv_ParseUint_10_at63_syntax (L:LaysPu.n14 P ρ) (s:ByteArray) (hlim:s.size≤281474976710656) (h:Lib.parseUintB 63 s.data.toList=Lib.NumEnd.syntax) (ev:Value) (w:World) (hv:w.cell? ⟨(ρ.g 0),0,none⟩=some ev) (hev:ev = .nilIface∨∃ te pe,ev = .iface te pe) :
 Calls P (ρ.f 14) #[.string s,.int .i64 10,.int .i64 63] w fun e w'=>∃ N,e = .returned (.tuple #[.int .u64 0,.iface (ρ.t 39) (.pointer (some ⟨N,0,none⟩))])∧w.heap.size≤N∧w'.heap[N]?=some (.cells #[.string ⟨#[80,97,114,115,101,85,105,110,116]⟩,.string s,ev] (ρ.t 44) (0,0))∧Below w.heap.size w w':=by
 have mixed:=L.mixed
 have t9:=L.t9; have a9:=L.a9; have z9:=L.z9; have v9:=L.v9
 have t3:=L.t3; have a3:=L.a3; have z3:=L.z3; have v3:=L.v3
 have t22:=L.t22; have a22:=L.a22; have z22:=L.z22; have v22:=L.v22
 have t24:=L.t24; have a24:=L.a24; have z24:=L.z24; have v24:=L.v24
 have t25:=L.t25; have a25:=L.a25; have z25:=L.z25; have v25:=L.v25
 have t4:=L.t4; have a4:=L.a4; have z4:=L.z4; have v4:=L.v4
 have e16:∀ args w,(callFunc (ρ.f 16) args).run P w = .ok (.enter (ρ.f 16) args) w:=enters_of L.f16 (by kernel_rfl) rfl
 have e17:∀ args w,(callFunc (ρ.f 17) args).run P w = .ok (.enter (ρ.f 17) args) w:=enters_of L.f17 (by kernel_rfl) rfl
 have hG:(ρ.g 0) < w.heap.size:=Lib.lt_of_cell hv
 have hI:=AnyPu.internal_strconv_ParseUint_10_at63 { L with } s (by omega) w
 rw [h] at hI
 have hI:Calls P (ρ.f 16) #[.string s,.int .i64 10,.int .i64 63] w fun e w'=>e = .returned (.tuple #[.int .u64 0,.iface (ρ.t 34) (.int .i64 2)])∧(w'=w∨w'=Lib.bytesWorld w (ρ.t 5) s):=hI
 clear h
 go_enter L.f14,BodyPu.n14_ntmps ρ
 go_wp2_with (go_at_fn (ρ.f 16); refine hI.mono ?_)
 rintro e W1 ⟨rfl,hW⟩
 have hb1:Below w.heap.size w W1:=by
  rcases hW with rfl | rfl
  · exact Below.refl _ _
  · exact Lib.bytesWorld_below _ _ _
 have hv1:W1.cell? ⟨(ρ.g 0),0,none⟩=some ev:=(hb1.cell (show (⟨(ρ.g 0),0,none⟩:Addr).block < w.heap.size from hG)).trans hv
 clear hW
 go_wp2_with (go_at_fn (ρ.f 17); refine (AnyPu.strconv_toError_syntax { L with } ⟨#[80,97,114,115,101,85,105,110,116]⟩ s 10 63 ev _ hlim ?_ hev).mono ?_)
 · exact hv1
 rintro e W2 ⟨N,rfl,h1,h2,h3⟩
 go_wp2
 go_ret2
 exact ⟨N,rfl,Nat.le_trans hb1.size h1,h2,hb1.trans (h3.mono hb1.size)⟩
set_option maxHeartbeats 4000000 in
set_option maxRecDepth 100000 in
theorem Any.strconv_ParseUint_10_at63_range (L:LaysPu.n14 P ρ) (s:ByteArray) (hlim:s.size≤281474976710656) (h:Lib.parseUintB 63 s.data.toList = .range) (ev:Value) (w:World) (hv:w.cell? ⟨(ρ.g 1),0,none⟩=some ev) (hev:ev = .nilIface∨∃ te pe,ev = .iface te pe) :
 Calls P (ρ.f 14) #[.string s,.int .i64 10,.int .i64 63] w fun e w'=>∃ N,e = .returned (.tuple #[.int .u64 9223372036854775807,.iface (ρ.t 39) (.pointer (some ⟨N,0,none⟩))])∧w.heap.size≤N∧w'.heap[N]?=some (.cells #[.string ⟨#[80,97,114,115,101,85,105,110,116]⟩,.string s,ev] (ρ.t 44) (0,0))∧Below w.heap.size w w':=by
 have mixed:=L.mixed
 have t9:=L.t9; have a9:=L.a9; have z9:=L.z9; have v9:=L.v9
 have t3:=L.t3; have a3:=L.a3; have z3:=L.z3; have v3:=L.v3
 have t22:=L.t22; have a22:=L.a22; have z22:=L.z22; have v22:=L.v22
 have t24:=L.t24; have a24:=L.a24; have z24:=L.z24; have v24:=L.v24
 have t25:=L.t25; have a25:=L.a25; have z25:=L.z25; have v25:=L.v25
 have t4:=L.t4; have a4:=L.a4; have z4:=L.z4; have v4:=L.v4
 have e16:∀ args w,(callFunc (ρ.f 16) args).run P w = .ok (.enter (ρ.f 16) args) w:=enters_of L.f16 (by kernel_rfl) rfl
 have e17:∀ args w,(callFunc (ρ.f 17) args).run P w = .ok (.enter (ρ.f 17) args) w:=enters_of L.f17 (by kernel_rfl) rfl
 have hG:(ρ.g 1) < w.heap.size:=Lib.lt_of_cell hv
 have hI:=AnyPu.internal_strconv_ParseUint_10_at63 { L with } s (by omega) w
 rw [h] at hI
 have hI:Calls P (ρ.f 16) #[.string s,.int .i64 10,.int .i64 63] w fun e w'=>e = .returned (.tuple #[.int .u64 9223372036854775807,.iface (ρ.t 34) (.int .i64 1)])∧(w'=w∨w'=Lib.bytesWorld w (ρ.t 5) s):=hI
 clear h
 go_enter L.f14,BodyPu.n14_ntmps ρ
 go_wp2_with (go_at_fn (ρ.f 16); refine hI.mono ?_)
 rintro e W1 ⟨rfl,hW⟩
 have hb1:Below w.heap.size w W1:=by
  rcases hW with rfl | rfl
  · exact Below.refl _ _
  · exact Lib.bytesWorld_below _ _ _
 have hv1:W1.cell? ⟨(ρ.g 1),0,none⟩=some ev:=(hb1.cell (show (⟨(ρ.g 1),0,none⟩:Addr).block < w.heap.size from hG)).trans hv
 clear hW
 go_wp2_with (go_at_fn (ρ.f 17); refine (AnyPu.strconv_toError_range { L with } ⟨#[80,97,114,115,101,85,105,110,116]⟩ s 10 63 ev _ hlim ?_ hev).mono ?_)
 · exact hv1
 rintro e W2 ⟨N,rfl,h1,h2,h3⟩
 go_wp2
 go_ret2
 exact ⟨N,rfl,Nat.le_trans hb1.size h1,h2,hb1.trans (h3.mono hb1.size)⟩
end
end Go.Proofs
namespace Go.Proofs.Zl
section
open Go Go.Zam Go.Proofs
theorem tcf24:compF Tryz.prog [7] Tryz.f24=some (irTkLex 51 52 53 92 35):=by kernel_rfl
theorem h24:HasT Tryz.prog [7] 24 (irTkLex 51 52 53 92 35):=⟨_,Tryz.func24,tcf24⟩
theorem tcf78:compF Tryz.prog [] Tryz.f78=some (irTkIsKey 98 97):=by kernel_rfl
theorem h78:Has Tryz.prog 78 (irTkIsKey 98 97):=⟨_,Tryz.func78,tcf78⟩
theorem tcf62:compF Tryz.prog [] Tryz.f62=some (irTkIsName 76 78 79):=by kernel_rfl
theorem h62:Has Tryz.prog 62 (irTkIsName 76 78 79):=⟨_,Tryz.func62,tcf62⟩
theorem tcf51:compF Tryz.prog [] Tryz.f51=some (irRnBad 71):=by kernel_rfl
theorem h51:Has Tryz.prog 51 (irRnBad 71):=⟨_,Tryz.func51,tcf51⟩
theorem tcf52:compF Tryz.prog [] Tryz.f52=some (irScLead 72 73 74 75):=by kernel_rfl
theorem h52:Has Tryz.prog 52 (irScLead 72 73 74 75):=⟨_,Tryz.func52,tcf52⟩
theorem tcf53:compF Tryz.prog [] Tryz.f53=some (irScNext 72 76 77 78 79 80 81 82 35):=by kernel_rfl
theorem h53:Has Tryz.prog 53 (irScNext 72 76 77 78 79 80 81 82 35):=⟨_,Tryz.func53,tcf53⟩
theorem tcf97:compF Tryz.prog [] Tryz.f97=some (irSlHas 110):=by kernel_rfl
theorem h97:Has Tryz.prog 97 (irSlHas 110):=⟨_,Tryz.func97,tcf97⟩
theorem tcf110:compF Tryz.prog [] Tryz.f110=some (irSlIdx):=by kernel_rfl
theorem h110:Has Tryz.prog 110 (irSlIdx):=⟨_,Tryz.func110,tcf110⟩
theorem tcf98:compF Tryz.prog [] Tryz.f98=some (irTkKeys):=by kernel_rfl
theorem h98:Has Tryz.prog 98 (irTkKeys):=⟨_,Tryz.func98,tcf98⟩
theorem tcf76:compF Tryz.prog [] Tryz.f76=some (irLetter):=by kernel_rfl
theorem h76:Has Tryz.prog 76 (irLetter):=⟨_,Tryz.func76,tcf76⟩
theorem tcf79:compF Tryz.prog [] Tryz.f79=some (irDigit):=by kernel_rfl
theorem h79:Has Tryz.prog 79 (irDigit):=⟨_,Tryz.func79,tcf79⟩
theorem tcf72:compF Tryz.prog [] Tryz.f72=some (irScMore):=by kernel_rfl
theorem h72:Has Tryz.prog 72 (irScMore):=⟨_,Tryz.func72,tcf72⟩
theorem tcf73:compF Tryz.prog [] Tryz.f73=some (irTkBlank):=by kernel_rfl
theorem h73:Has Tryz.prog 73 (irTkBlank):=⟨_,Tryz.func73,tcf73⟩
theorem tcf74:compF Tryz.prog [] Tryz.f74=some (irScHash):=by kernel_rfl
theorem h74:Has Tryz.prog 74 (irScHash):=⟨_,Tryz.func74,tcf74⟩
theorem tcf75:compF Tryz.prog [] Tryz.f75=some (irScNoNl):=by kernel_rfl
theorem h75:Has Tryz.prog 75 (irScNoNl):=⟨_,Tryz.func75,tcf75⟩
theorem tcf77:compF Tryz.prog [] Tryz.f77=some (irScWord 72 96):=by kernel_rfl
theorem h77:Has Tryz.prog 77 (irScWord 72 96):=⟨_,Tryz.func77,tcf77⟩
theorem tcf96:compF Tryz.prog [] Tryz.f96=some (irScWordB 76 79):=by kernel_rfl
theorem h96:Has Tryz.prog 96 (irScWordB 76 79):=⟨_,Tryz.func96,tcf96⟩
theorem tcf81:compF Tryz.prog [] Tryz.f81=some (irScStr 100):=by kernel_rfl
theorem h81:Has Tryz.prog 81 (irScStr 100):=⟨_,Tryz.func81,tcf81⟩
theorem tcf82:compF Tryz.prog [] Tryz.f82=some (irScSign 101 102):=by kernel_rfl
theorem h82:Has Tryz.prog 82 (irScSign 101 102):=⟨_,Tryz.func82,tcf82⟩
theorem tcf100:compF Tryz.prog [4] Tryz.f100=some (irRnUnquote 113 27 15 50 5):=by kernel_rfl
theorem h100:HasT Tryz.prog [4] 100 (irRnUnquote 113 27 15 50 5):=⟨_,Tryz.func100,tcf100⟩
theorem tcf101:compF Tryz.prog [] Tryz.f101=some (irTkSigns):=by kernel_rfl
theorem h101:Has Tryz.prog 101 (irTkSigns):=⟨_,Tryz.func101,tcf101⟩
theorem tcf45:compF Tryz.prog [] Tryz.f45=some (irIsKey):=by kernel_rfl
theorem tcf44:compF Tryz.prog [] Tryz.f44=some (irDigit):=by kernel_rfl
theorem h44:Has Tryz.prog 44 (irDigit):=⟨_,Tryz.func44,tcf44⟩
theorem tcf43:compF Tryz.prog [] Tryz.f43=some (irLetter):=by kernel_rfl
theorem h43:Has Tryz.prog 43 (irLetter):=⟨_,Tryz.func43,tcf43⟩
end
section
open Go Go.Zam Go.Proofs Go.Shelf
def bldRen:Ren:=⟨fun n=>match n with | 240=>55 | 276=>91 | 169=>15 | n=>n,fun t=>match t with | 0=>0 | 3=>3 | 4=>4 | 5=>5 | 9=>9 | 20=>20 | 37=>48 | 70=>47 | 72=>50 | 127=>77 | 164=>119 | n=>n,fun g=>g⟩
theorem lay240:Lays.n240 Tryz.prog bldRen where
 mixed:=by kernel_rfl
 f240:=Tryz.func55.trans (congrArg some (by kernel_rfl))
 f276:=Tryz.func91.trans (congrArg some (by kernel_rfl))
 t0:=by kernel_rfl
 a0:=Tryz.isAgg0
 z0:=fun _=>by kernel_rfl
 v0:=Tryz.zeroValue0
 t4:=by kernel_rfl
 a4:=Tryz.isAgg4
 z4:=fun _=>by kernel_rfl
 v4:=Tryz.zeroValue4
 t9:=by kernel_rfl
 a9:=Tryz.isAgg9
 z9:=fun _=>by kernel_rfl
 v9:=Tryz.zeroValue9
 t20:=by kernel_rfl
 a20:=Tryz.isAgg20
 z20:=fun _=>by kernel_rfl
 v20:=Tryz.zeroValue20
 t70:=by kernel_rfl
 a70:=Tryz.isAgg47
 z70:=fun _=>by kernel_rfl
 v70:=Tryz.zeroValue47
 t72:=by kernel_rfl
 a72:=Tryz.isAgg50
 z72:=fun _=>by kernel_rfl
 v72:=Tryz.zeroValue50
 t164:=by kernel_rfl
 a164:=Tryz.isAgg119
 z164:=fun _=>by kernel_rfl
 v164:=Tryz.zeroValue119
theorem lay169:Lays.n169 Tryz.prog bldRen where
 mixed:=by kernel_rfl
 f169:=Tryz.func15.trans (congrArg some (by kernel_rfl))
 t0:=by kernel_rfl
 a0:=Tryz.isAgg0
 z0:=fun _=>by kernel_rfl
 v0:=Tryz.zeroValue0
 t3:=by kernel_rfl
 a3:=Tryz.isAgg3
 z3:=fun _=>by kernel_rfl
 v3:=Tryz.zeroValue3
 t9:=by kernel_rfl
 a9:=Tryz.isAgg9
 z9:=fun _=>by kernel_rfl
 v9:=Tryz.zeroValue9
 t37:=by kernel_rfl
 a37:=Tryz.isAgg48
 z37:=fun _=>by kernel_rfl
 v37:=Tryz.zeroValue48
 t70:=by kernel_rfl
 a70:=Tryz.isAgg47
 z70:=fun _=>by kernel_rfl
 v70:=Tryz.zeroValue47
 t72:=by kernel_rfl
 a72:=Tryz.isAgg50
 z72:=fun _=>by kernel_rfl
 v72:=Tryz.zeroValue50
 t127:=by kernel_rfl
 a127:=Tryz.isAgg77
 z127:=fun _=>by kernel_rfl
 v127:=Tryz.zeroValue77
theorem bldExtra:Builder.Extra Tryz.prog bldRen where
 sizeBuilder:=by kernel_rfl
 liesBuilder:=by kernel_rfl
 t5:=by kernel_rfl
 a5:=Tryz.isAgg5
 z5:=fun _=>by kernel_rfl
 v5:=Tryz.zeroValue5
 infoByte:=by kernel_rfl
 cellsByte:=by kernel_rfl
 sizeByte:=by kernel_rfl
 neB5:=by decide
theorem copyCheckOk {H:Hp} {i:Nat} {x a:A} (hi:H[i]?=some (.box 50 [a,x])) (ha:a = .d .nilp∨a = .ptr i 0) :
 ACall Tryz.prog 55 [.ptr i 0] H (fun r H'=>r = .tup []∧H'=H.set i (.box 50 [.ptr i 0,x])):=copyCheck_acall lay240 bldExtra.toX72 hi ha
theorem stringOk {H:Hp} {i t:Nat} {a:A} {s:List UInt8} (hi:H[i]?=some (.box 50 [a,.osl true 1 (byteRows s) t])) (ht:H[t]?=some (.tok s.length 1 5)) (hlen:s.length≤4611686018427387904) :
 ACall Tryz.prog 15 [.ptr i 0] H (fun r H'=>r = .d (.str s)∧H'=H):=string_acall lay169 bldExtra hi ht hlen
end
section
open Go Go.Zam Go.Proofs
open Go.RowKit (Below)
theorem indexOk:IndexOk Tryz.prog 113:=fun s c H=>by
 refine leaf (args:=[.str s,.int .u8 c.toNat]) (x := .int .i64 (Lib.indexByte s c)) (fun w σ vs _ hl hv => ?_) H
 match vs,hl with
 | [v0,v1],_ =>
 have e0:=(hv 0 v0 _ rfl rfl).str_inv
 have e1:=(hv 1 v1 _ rfl rfl).int_inv
 subst e0; subst e1
 refine (Tryz.strings_IndexByte ⟨s.toArray⟩ c.toNat w).mono ?_
 rintro e w' ⟨rfl,rfl⟩
 refine ⟨_,rfl,Below.refl _ _,fun σ => ?_⟩
 have:(Int.toNat (c.toNat:Int)).toUInt8=c:=by simp
 rw [this]
 exact .int _ _
theorem prefixOk:PrefixOk Tryz.prog 102:=fun s p H=>by
 refine leaf (args:=[.str s,.str p]) (x := .bool (p.isPrefixOf s)) (fun w σ vs _ hl hv => ?_) H
 match vs,hl with
 | [v0,v1],_ =>
 have e0:=(hv 0 v0 _ rfl rfl).str_inv
 have e1:=(hv 1 v1 _ rfl rfl).str_inv
 subst e0; subst e1
 refine (Tryz.strings_HasPrefix ⟨s.toArray⟩ ⟨p.toArray⟩ w).mono ?_
 rintro e w' ⟨rfl,rfl⟩
 exact ⟨_,rfl,Below.refl _ _,fun σ => .bool _⟩
theorem decodeOk {H0:Hp} (hG:TabsG 1 2 3 4 H0):DecodeOk Tryz.prog H0 71:=fun s H hp=>by
 refine leafG (args:=[.str s]) hG (fun w σ vs hT hl hv => ?_) H hp
 match vs,hl with
 | [v0],_ =>
 have e0:=(hv 0 v0 _ rfl rfl).str_inv
 subst e0
 refine (Tryz.utf8_DecodeRuneInString ⟨s.toArray⟩ w hT.1).mono ?_
 rintro e w' ⟨rfl,hb⟩
 refine ⟨_,rfl,hb,fun κ => ?_⟩
 rw [decodeGo_eq]
 refine VR.tup [_,_] [_,_] rfl fun i v a hi ha => ?_
 match i with
 | 0=>cases hi; cases ha; exact .d (.int _ _)
 | 1=>cases hi; cases ha; exact .d (.int _ _)
 | i+2=>cases hi
theorem numberCalls (s:ByteArray) (hlim:s.size≤1048576) (w:World) (h0:∃ te pe,w.cell? ⟨3,0,none⟩=some (.iface te pe)) (h1:∃ te pe,w.cell? ⟨4,0,none⟩=some (.iface te pe)) :
 Calls Tryz.prog 80 #[.string s] w fun e w'=>e = .returned (.int .i64 (if numOk s.data.toList then 0 else 23))∧Below w.heap.size w w':=by
 obtain ⟨t0,p0,h0⟩:=h0
 obtain ⟨t1,p1,h1⟩:=h1
 rcases h:Lib.parseUintB 63 s.data.toList with u | _ | _
 · have hr:numOk s.data.toList=true:=by simp only [numOk,h]
   rw [hr]
   go_enter Tryz.func80,Tryz.ntmps80
   go_wp2_with (go_at_call 99; refine (Any.strconv_ParseUint_10_at63_ok Tryz.laysPu14 s (by omega) u h _).mono ?_; rintro e w' ⟨rfl,hw⟩)
   go_wp2
   go_ret
   refine ⟨by first | rfl | (congr 2; omega),?_⟩
   rcases hw with rfl | rfl
   · exact Below.refl _ _
   · exact Lib.bytesWorld_below _ _ _
 · have hr:numOk s.data.toList=false:=by simp only [numOk,h]
   rw [hr]
   go_enter Tryz.func80,Tryz.ntmps80
   go_wp2_with (go_at_call 99; refine (Any.strconv_ParseUint_10_at63_syntax Tryz.laysPu14 s (by omega) h (.iface t0 p0) _ ?_ (.inr ⟨_,_,rfl⟩)).mono ?_)
   · exact h0
   rintro e W1 ⟨N,rfl,-,-,hb⟩
   go_wp2
   go_ret
   exact ⟨rfl,hb⟩
 · have hr:numOk s.data.toList=false:=by simp only [numOk,h]
   rw [hr]
   go_enter Tryz.func80,Tryz.ntmps80
   go_wp2_with (go_at_call 99; refine (Any.strconv_ParseUint_10_at63_range Tryz.laysPu14 s (by omega) h (.iface t1 p1) _ ?_ (.inr ⟨_,_,rfl⟩)).mono ?_)
   · exact h1
   rintro e W1 ⟨N,rfl,-,-,hb⟩
   go_wp2
   go_ret
   exact ⟨rfl,hb⟩
theorem numberOk {H0:Hp} (hG:TabsG 1 2 3 4 H0):NumOk Tryz.prog H0 80:=fun s H hp hl=>by
 refine leafG (args:=[.str s]) (x := .d _) hG (fun w σ vs hT hl' hv => ?_) H hp
 match vs,hl' with
 | [v0],_ =>
 have e0:=(hv 0 v0 _ rfl rfl).str_inv
 subst e0
 refine (numberCalls ⟨s.toArray⟩ (by simpa [ByteArray.size] using hl) w hT.2.1 hT.2.2).mono ?_
 rintro e w' ⟨rfl,hb⟩
 exact ⟨_,rfl,hb,fun κ => .d (.int _ _)⟩
theorem cfWB:compF Tryz.prog [] Tryz.f27=some (irWriteByte 55 5):=by kernel_rfl
theorem copyOk:CopyOk Tryz.prog 55 50:=fun H i x a hi ha=>copyCheckOk hi ha
theorem writeBOk:WriteBOk Tryz.prog 27 50:=fun H i t a bs c=>writeByte_acall Tryz.func27 cfWB copyOk H i t a bs c
theorem stringOk':StringOk Tryz.prog 15 50:=fun H i t a s hi ht hl=>stringOk hi ht (by omega)
theorem unquoteOk (s:Bs) (H:Hp) (hs:s.length≤1048576):ACall Tryz.prog 100 [.d (.str s)] H (fun r H'=>r=unqR (unqV s)∧H'=H):=h100.unquote indexOk writeBOk stringOk' s hs H
theorem letterOk:ByteOk Tryz.prog 76 letterB:=h76.letter
theorem digitOk:ByteOk Tryz.prog 79 digitB:=h79.digit
theorem isKeyOk (s:Bs) (H:Hp):ACall Tryz.prog 78 [.d (.str s)] H (fun r H'=>r = .d (.bool (decide (s ∈ keysL)))∧H'=H):=h78.isKey h98 h97 h110 s H
theorem isNameOk (s:Bs) (H:Hp):ACall Tryz.prog 62 [.d (.str s)] H (fun r H'=>r = .d (.bool (isNameB s))∧H'=H):=h62.isName letterOk digitOk isKeyOk s H
theorem wordOk {H:Hp} {i:Nat} {ts:TypeId} {text:Bs} {n:Nat} (hi:H[i]?=some (scan ts text n)) (hn:n≤text.length) (hl:text.length≤1048576) :
 ACall Tryz.prog 77 [.ptr i 0] H (fun r H'=>r = .d (.str ((text.drop n).take (Zam.runN Zam.wordB (text.drop n))))∧H'=H.set i (scan ts text (n+Zam.runN Zam.wordB (text.drop n)))) :=
 h77.word h72 (by kernel_rfl) (h96.wordB letterOk digitOk) hi hn (by omega)
theorem leadOk {H:Hp} {i:Nat} {text:Bs} {n:Nat} (hi:H[i]?=some (scan 92 text n)) (hn:n≤text.length) (hl:text.length≤1048576) :
 ACall Tryz.prog 52 [.ptr i 0] H (fun r H'=>r = .d (.str ((text.drop n).take (leadS false (text.drop n))))∧H'=H.set i (scan 92 text (n+leadS false (text.drop n)))) :=
 h52.lead h72 (by kernel_rfl) h73.blank (by kernel_rfl) h74.hash (by kernel_rfl) h75.noNl hi hn (by omega)
theorem nextOk {H0:Hp} (hG:TabsG 1 2 3 4 H0) {H:Hp} {i:Nat} {text:Bs} {n:Nat} (hH:Pre0 H0 H) (h0i:H0.length≤i) (hi:H[i]?=some (scan 92 text n)) (hn:n≤text.length) (hl:text.length≤1048576) :
 ACall Tryz.prog 53 [.ptr i 0] H (NextQ H i 92 text n (text.drop n) (tokN (text.drop n))) :=
 h53.next h72 (by kernel_rfl) letterOk (by kernel_rfl) digitOk wordOk isKeyOk (numberOk hG) (fun hi hn hl=>h81.str unquoteOk hi hn hl) (fun hi hn hl=>h82.sign h101 prefixOk hi hn (by omega)) hH h0i hi hn hl
theorem badOk {H0:Hp} (hG:TabsG 1 2 3 4 H0) (s:Bs) (H:Hp) (hs:s.length≤1048576) (hH:Pre0 H0 H):ACall Tryz.prog 51 [.d (.str s)] H (fun r H'=>r = .d (.int .i64 (badS s))∧H'=H):=h51.bad (decodeOk hG) s hs H hH
theorem lexOk {H0:Hp} (hG:TabsG 1 2 3 4 H0) (s:Bs) (hs:s.length≤1048576) (H:Hp) (hH:Pre0 H0 H) :
 ACall Tryz.prog 24 [.d (.str s)] H (fun r H'=>r = .tup [.d (.sl true 4 ((lexS s).1.map encTk)),.d (.int .i64 (lexS s).2.1),.d (.int .i64 (lexS s).2.2)]∧H'=H) :=
 h24.lex (badOk hG) leadOk (nextOk hG) s hs H hH
theorem rdigitOk:ByteOk Tryz.prog 44 digitB:=h44.digit
theorem rletterOk:ByteOk Tryz.prog 43 letterB:=h43.letter
theorem risKeyOk (s:Bs) (H:Hp):ACall Tryz.prog 45 [.d (.str s)] H (fun r H'=>r = .d (.bool (decide (s ∈ keysL)))∧H'=H):=isKey_acall Tryz.func45 tcf45 s H
end
section
open Go Go.Zam Go.Proofs
theorem pcf84:compF Tryz.prog [] Tryz.f84=some (irPNow 35):=by kernel_rfl
theorem ph84:Has Tryz.prog 84 (irPNow 35):=⟨_,Tryz.func84,pcf84⟩
theorem pcf89:compF Tryz.prog [] Tryz.f89=some (irPFail):=by kernel_rfl
theorem ph89:Has Tryz.prog 89 (irPFail):=⟨_,Tryz.func89,pcf89⟩
theorem pcf85:compF Tryz.prog [] Tryz.f85=some (irPIs 84 35):=by kernel_rfl
theorem ph85:Has Tryz.prog 85 (irPIs 84 35):=⟨_,Tryz.func85,pcf85⟩
theorem pcf115:compF Tryz.prog [] Tryz.f115=some (irPTook 85):=by kernel_rfl
theorem ph115:Has Tryz.prog 115 (irPTook 85):=⟨_,Tryz.func115,pcf115⟩
theorem pcf103:compF Tryz.prog [] Tryz.f103=some (irPWant 115 89):=by kernel_rfl
theorem ph103:Has Tryz.prog 103 (irPWant 115 89):=⟨_,Tryz.func103,pcf103⟩
theorem pcf104:compF Tryz.prog [] Tryz.f104=some (irPWord 84 89 35):=by kernel_rfl
theorem ph104:Has Tryz.prog 104 (irPWord 84 89 35):=⟨_,Tryz.func104,pcf104⟩
theorem pcf83:compF Tryz.prog [10] Tryz.f83=some (irPNode 25):=by kernel_rfl
theorem ph83:HasT Tryz.prog [10] 83 (irPNode 25):=⟨_,Tryz.func83,pcf83⟩
theorem pcf90:compF Tryz.prog [] Tryz.f90=some (irPDone 25):=by kernel_rfl
theorem ph90:Has Tryz.prog 90 (irPDone 25):=⟨_,Tryz.func90,pcf90⟩
theorem pcf86:compF Tryz.prog [] Tryz.f86=some (irPPut 25):=by kernel_rfl
theorem ph86:Has Tryz.prog 86 (irPPut 25):=⟨_,Tryz.func86,pcf86⟩
theorem pcf116:compF Tryz.prog [] Tryz.f116=some (irPList 115 86 103):=by kernel_rfl
theorem ph116:Has Tryz.prog 116 (irPList 115 86 103):=⟨_,Tryz.func116,pcf116⟩
theorem pcf54:compF Tryz.prog [] Tryz.f54=some (irPFile 83 84 85 87 86 88 89 90 25):=by kernel_rfl
theorem ph54:Has Tryz.prog 54 (irPFile 83 84 85 87 86 88 89 90 25):=⟨_,Tryz.func54,pcf54⟩
theorem pcf87:compF Tryz.prog [] Tryz.f87=some (irPUse 83 103 104 90 86 25):=by kernel_rfl
theorem ph87:Has Tryz.prog 87 (irPUse 83 103 104 90 86 25):=⟨_,Tryz.func87,pcf87⟩
theorem pcf88:compF Tryz.prog [] Tryz.f88=some (irPDef 83 103 104 105 106 107 86 90 25):=by kernel_rfl
theorem ph88:Has Tryz.prog 88 (irPDef 83 103 104 105 106 107 86 90 25):=⟨_,Tryz.func88,pcf88⟩
theorem pcf105:compF Tryz.prog [] Tryz.f105=some (irPParams 83 103 117 116 90 95 25):=by kernel_rfl
theorem ph105:Has Tryz.prog 105 (irPParams 83 103 117 116 90 95 25):=⟨_,Tryz.func105,pcf105⟩
theorem pcf117:compF Tryz.prog [] Tryz.f117=some (irPParam 83 104 106 86 90 25):=by kernel_rfl
theorem ph117:Has Tryz.prog 117 (irPParam 83 104 106 86 90 25):=⟨_,Tryz.func117,pcf117⟩
theorem pcf106:compF Tryz.prog [] Tryz.f106=some (irPTyped 115 118 25):=by kernel_rfl
theorem ph106:Has Tryz.prog 106 (irPTyped 115 118 25):=⟨_,Tryz.func106,pcf106⟩
theorem pcf118:compF Tryz.prog [] Tryz.f118=some (irPKind 83 115 128 116 103 118 86 89 90 95 25):=by kernel_rfl
theorem ph118:Has Tryz.prog 118 (irPKind 83 115 128 116 103 118 86 89 90 95 25):=⟨_,Tryz.func118,pcf118⟩
theorem pcf128:compF Tryz.prog [] Tryz.f128=some (irPTField 83 104 103 118 86 90 25):=by kernel_rfl
theorem ph128:Has Tryz.prog 128 (irPTField 83 104 103 118 86 90 25):=⟨_,Tryz.func128,pcf128⟩
theorem pcf107:compF Tryz.prog [] Tryz.f107=some (irPBlock 83 103 115 119 86 90 25):=by kernel_rfl
theorem ph107:Has Tryz.prog 107 (irPBlock 83 103 115 119 86 90 25):=⟨_,Tryz.func107,pcf107⟩
theorem pcf119:compF Tryz.prog [] Tryz.f119=some (irPStmt 83 115 104 106 86 103 129 107 90 130 25):=by kernel_rfl
theorem ph119:Has Tryz.prog 119 (irPStmt 83 115 104 106 86 103 129 107 90 130 25):=⟨_,Tryz.func119,pcf119⟩
theorem pcf130:compF Tryz.prog [] Tryz.f130=some (irPSets 84 35):=by kernel_rfl
theorem ph130:Has Tryz.prog 130 (irPSets 84 35):=⟨_,Tryz.func130,pcf130⟩
theorem pcf129:compF Tryz.prog [] Tryz.f129=some (irPExpr 136 115 137 25):=by kernel_rfl
theorem ph129:Has Tryz.prog 129 (irPExpr 136 115 137 25):=⟨_,Tryz.func129,pcf129⟩
theorem pcf137:compF Tryz.prog [] Tryz.f137=some (irPWith 25):=by kernel_rfl
theorem ph137:Has Tryz.prog 137 (irPWith 25):=⟨_,Tryz.func137,pcf137⟩
theorem pcf136:compF Tryz.prog [] Tryz.f136=some (irPSum 140 115 137 25):=by kernel_rfl
theorem ph136:Has Tryz.prog 136 (irPSum 140 115 137 25):=⟨_,Tryz.func136,pcf136⟩
theorem pcf140:compF Tryz.prog [] Tryz.f140=some (irPTerm 143 115 137 25):=by kernel_rfl
theorem ph140:Has Tryz.prog 140 (irPTerm 143 115 137 25):=⟨_,Tryz.func140,pcf140⟩
theorem pcf143:compF Tryz.prog [15] Tryz.f143=some (irPPost 149 115 104 129 116 90 25):=by kernel_rfl
theorem ph143:HasT Tryz.prog [15] 143 (irPPost 149 115 104 129 116 90 25):=⟨_,Tryz.func143,pcf143⟩
theorem pcf149:compF Tryz.prog [4000000] Tryz.f149=some (irPAtom 83 84 104 115 129 86 103 155 116 105 106 107 89 90 95 25 35):=by kernel_rfl
theorem ph149:HasT Tryz.prog [4000000] 149 (irPAtom 83 84 104 115 129 86 103 155 116 105 106 107 89 90 95 25 35):=⟨_,Tryz.func149,pcf149⟩
theorem pcf155:compF Tryz.prog [] Tryz.f155=some (irPEntry 83 104 103 129 86 90 25):=by kernel_rfl
theorem ph155:Has Tryz.prog 155 (irPEntry 83 104 103 129 86 90 25):=⟨_,Tryz.func155,pcf155⟩
theorem pcf25:compF Tryz.prog [] Tryz.f25=some (irPParse 54 16 25 97):=by kernel_rfl
theorem ph25:Has Tryz.prog 25 (irPParse 54 16 25 97):=⟨_,Tryz.func25,pcf25⟩
theorem pcf12:compF Tryz.prog [] Tryz.f12=some (irPOf 24 25 25):=by kernel_rfl
theorem ph12:Has Tryz.prog 12 (irPOf 24 25 25):=⟨_,Tryz.func12,pcf12⟩
theorem pcf16:compF Tryz.prog [] Tryz.f16=some (irTDepth 16 25):=by kernel_rfl
theorem ph16:Has Tryz.prog 16 (irTDepth 16 25):=⟨_,Tryz.func16,pcf16⟩
def F:PF := { now:=84,fail:=89,is:=85,took:=115,want:=103,word:=104,node:=83,done:=90,put:=86,list:=116,file:=54,use_:=87,def_:=88,params:=105,param:=117,typed:=106,kind:=118,tfield:=128,block:=107,stmt:=119,sets:=130,expr:=129,with_:=137,sum:=136,term:=140,post:=143,atom:=149,entry:=155,tn:=25,tt:=35,tp:=97,tb:=95 }
theorem has:PHas Tryz.prog F where
 now:=ph84
 fail:=ph89
 is:=ph85
 took:=ph115
 want:=ph103
 word:=ph104
 node:=ph83
 done:=ph90
 put:=ph86
 list:=ph116
 file:=ph54
 use_:=ph87
 def_:=ph88
 params:=ph105
 param:=ph117
 typed:=ph106
 kind:=ph118
 tfield:=ph128
 block:=ph107
 stmt:=ph119
 sets:=ph130
 expr:=ph129
 with_:=ph137
 sum:=ph136
 term:=ph140
 post:=ph143
 atom:=ph149
 entry:=ph155
 kParam:=by kernel_rfl
 kTField:=by kernel_rfl
 kKind:=by kernel_rfl
 kExpr:=by kernel_rfl
 kSum:=by kernel_rfl
 kTerm:=by kernel_rfl
 kPost:=by kernel_rfl
 kEntry:=by kernel_rfl
theorem parseOk (z:Bool) (L:List Tk) (hL:L.length≤1048576) (hEq:∀ i,isT L i [61]=true→kdT L i=5) (H:Hp):ACall Tryz.prog 25 [.d (.sl z 4 (L.map encTk))] H (fun r H'=>r = .tup [(parseP L).1.v,.d (.int .i64 (parseP L).2.1),.d (.int .i64 (parseP L).2.2)]∧H'=H):=Has.parse (F:=F) ph25 has ph16 hL hEq H
theorem ofOk {H0:Hp} (hG:TabsG 1 2 3 4 H0) (s:Bs) (hs:s.length≤1048576) (H:Hp) (hH:Pre0 H0 H):ACall Tryz.prog 12 [.d (.str s)] H (fun r H'=>r = .tup [.d (.sl true 4 ((parseO s).1.map encTk)),(parseO s).2.1.v,.d (.int .i64 (parseO s).2.2.1),.d (.int .i64 (parseO s).2.2.2)]∧H'=H):=Has.of_ ph12 (fun s hs H hH=>lexOk hG s hs H hH) parseOk s hs H hH
end
end Go.Proofs.Zl
namespace Go.Zam
section
open Go.Proofs
def irR7Of (c1 c2 t1:Nat):IFn:=by
 have h:=Ix.J [] Tryz.f4 [(10,c1),(11,c2)] [(25,t1)] [(6,(.o 0 (.o 1 (.o 2 (.o 3 (.o 7 (.b (.o 4 (.o 5 (.b (.o 6 (.o 8 (.o 9 (.o 10 .n)))) (.o 8 (.o 9 (.o 6 (.o 10 .n))))))) (.o 8 (.o 9 (.o 4 (.o 5 (.o 6 (.o 10 .n)))))))))))))];conv at h=>arg 1;reduce
 exact h.p
def irR7Parse (c1 c2 t1 t2:Nat):IFn:=by
 have h:=Ix.J [] Tryz.f11 [(22,c1),(23,c2)] [(25,t1),(63,t2)] [(6,(.o 0 (.o 1 (.o 2 (.o 3 (.b (.o 4 (.o 5 (.o 6 (.o 7 .n)))) (.o 5 (.o 6 (.o 4 (.o 7 .n))))))))))];conv at h=>arg 1;reduce
 exact h.p
def irR7Kind (c1 c2 c3 c4 c5 t1:Nat):IFn:=by
 have h:=Ix.J [9] Tryz.f108 [(47,c1),(68,c2),(69,c3),(108,c4),(50,c5)] [(25,t1)];conv at h=>arg 1;reduce
 exact h.p
def irR6Depth (c1 t1:Nat):IFn:=by
 have h:=Ix.J [] Tryz.f23 [(23,c1)] [(25,t1)];conv at h=>arg 1;reduce
 exact h.p
def irR7File (c1 c2 c3 c4 t1:Nat):IFn:=by
 have h:=Ix.J [4] Tryz.f22 [(47,c1),(48,c2),(49,c3),(50,c4)] [(25,t1)];conv at h=>arg 1;reduce
 exact h.p
def irR7Is (t1:Nat):IFn:=by
 have h:=Ix.J [] Tryz.f47 [] [(35,t1)];conv at h=>arg 1;reduce
 exact h.p
def irR7Word (t1:Nat):IFn:=by
 have h:=Ix.J [] Tryz.f68 [] [(25,t1)];conv at h=>arg 1;reduce
 exact h.p
def irR7Want (c1:Nat):IFn:=by
 have h:=Ix.J [] Tryz.f69 [(47,c1)] [];conv at h=>arg 1;reduce
 exact h.p
def irR7Ended (t1:Nat):IFn:=by
 have h:=Ix.J [] Tryz.f50 [] [(25,t1)];conv at h=>arg 1;reduce
 exact h.p
def irR7Use (c1 c2 c3 t1:Nat):IFn:=by
 have h:=Ix.J [] Tryz.f48 [(68,c1),(69,c2),(50,c3)] [(25,t1)];conv at h=>arg 1;reduce
 exact h.p
def irR7Def (c1 c2 c3 c4 t1:Nat):IFn:=by
 have h:=Ix.J [] Tryz.f49 [(69,c1),(68,c2),(70,c3),(50,c4)] [(25,t1)];conv at h=>arg 1;reduce
 exact h.p
def irR7Lambda (c1 c2 c3 t1:Nat):IFn:=by
 have h:=Ix.J [] Tryz.f70 [(92,c1),(93,c2),(94,c3)] [(25,t1)];conv at h=>arg 1;reduce
 exact h.p
def irR7Params (c1 c2 c3 c4 c5 t1:Nat):IFn:=by
 have h:=Ix.J [7] Tryz.f92 [(69,c1),(47,c2),(68,c3),(93,c4),(50,c5)] [(25,t1)];conv at h=>arg 1;reduce
 exact h.p
def irR7Typed (c1 c2 t1:Nat):IFn:=by
 have h:=Ix.J [] Tryz.f93 [(47,c1),(108,c2)] [(25,t1)];conv at h=>arg 1;reduce
 exact h.p
def irR7Block (c1 c2 c3 c4 t1:Nat):IFn:=by
 have h:=Ix.J [7] Tryz.f94 [(69,c1),(47,c2),(109,c3),(50,c4)] [(25,t1)];conv at h=>arg 1;reduce
 exact h.p
def irR7Stmt (c1 c2 c3 c4 c5 c6 c7 t1:Nat):IFn:=by
 have h:=Ix.J [8,47] Tryz.f109 [(47,c1),(120,c2),(94,c3),(50,c4),(68,c5),(93,c6),(69,c7)] [(25,t1)];conv at h=>arg 1;reduce
 exact h.p
def irR7Expr (c1 c2 c3 t1:Nat):IFn:=by
 have h:=Ix.J [] Tryz.f120 [(131,c1),(47,c2),(50,c3)] [(25,t1)];conv at h=>arg 1;reduce
 exact h.p
def irR7Sum (c1 c2 c3 t1:Nat):IFn:=by
 have h:=Ix.J [] Tryz.f131 [(138,c1),(47,c2),(50,c3)] [(25,t1)];conv at h=>arg 1;reduce
 exact h.p
def irR7Term (c1 c2 c3 t1:Nat):IFn:=by
 have h:=Ix.J [] Tryz.f138 [(141,c1),(47,c2),(50,c3)] [(25,t1)];conv at h=>arg 1;reduce
 exact h.p
def irR7Post (c1 c2 c3 c4 c5 c6 t1:Nat):IFn:=by
 have h:=Ix.J [10,56] Tryz.f141 [(144,c1),(47,c2),(68,c3),(50,c4),(120,c5),(69,c6)] [(25,t1)];conv at h=>arg 1;reduce
 exact h.p
def irR7Atom (c1 c2 c3 c4 c5 c6 t1 t2:Nat):IFn:=by
 have h:=Ix.J [11] Tryz.f144 [(47,c1),(120,c2),(69,c3),(50,c4),(68,c5),(70,c6)] [(25,t1),(35,t2)];conv at h=>arg 1;reduce
 exact h.p
def irR4Lex (c1 c2 c3 t1:Nat):IFn:=by
 have h:=Ix.J [6] Tryz.f10 [(19,c1),(20,c2),(21,c3)] [(35,t1)];conv at h=>arg 1;reduce
 exact h.p
def irR4Lead :IFn:=by
 have h:=Ix.J [] Tryz.f20 [] [];conv at h=>arg 1;reduce
 exact h.p
def irR4One (c1 c2 c3 c4:Nat):IFn:=by
 have h:=Ix.J [] Tryz.f21 [(43,c1),(44,c2),(45,c3),(46,c4)] [];conv at h=>arg 1;reduce
 exact h.p
def irR3Bad (c1:Nat):IFn:=by
 have h:=Ix.J [] Tryz.f19 [(42,c1)] [];conv at h=>arg 1;reduce
 exact h.p
def irR3Next (c1:Nat):IFn:=by
 have h:=Ix.J [] Tryz.f42 [(67,c1)] [];conv at h=>arg 1;reduce
 exact h.p
def irR3More :IFn:=by
 have h:=Ix.J [] Tryz.f67 [] [];conv at h=>arg 1;reduce
 exact h.p
def irR3Unquote :IFn:=by
 have h:=Ix.J [] Tryz.f46 [] [];conv at h=>arg 1;reduce
 exact h.p
end
section
def contB (b:UInt8):Bool:=decide ((128:Int)≤b.toNat) && decide ((b.toNat:Int) < 192)
theorem byteAt_getD {s:Bs} {n k:Nat} (h:n+k < s.length):byteAt s ((n:Int)+k)=some ((s.drop n).getD k 0):=by
 have e:((n:Int)+k)=((n+k:Nat):Int):=by omega
 rw [e,byteAt_nat,List.getD_eq_getElem?_getD,List.getElem?_drop,List.getElem?_eq_getElem h]; rfl
theorem dec_0 {n b0 b1 b2 b3:Nat} (h:b0 < 128):Lib.decodeN n b0 b1 b2 b3=(b0,1):=by simp [Lib.decodeN,h]
theorem dec_none {n b0 b1 b2 b3:Nat} (h:¬ b0 < 128) (h2:¬ (192≤b0∧b0 < 248)):Lib.decodeN n b0 b1 b2 b3=(65533,1):=by
 unfold Lib.decodeN
 rw [if_neg h,if_neg (by omega),if_neg (by omega),if_neg (by omega)]
theorem dec_2 {n b0 b1 b2 b3:Nat} (h:192≤b0∧b0 < 224):Lib.decodeN n b0 b1 b2 b3=if 1 < n∧(128≤b1∧b1 < 192)∧128≤(b0 - 192) * 64+(b1 - 128) then ((b0 - 192) * 64+(b1 - 128),2) else (65533,1):=by
 unfold Lib.decodeN
 rw [if_neg (by omega)]
 by_cases h1:1 < n∧(128≤b1∧b1 < 192)
 · have e:b0 % 32 * 64+b1 % 64=(b0 - 192) * 64+(b1 - 128):=by omega
   rw [if_pos (by omega),e]
   by_cases h3:128≤(b0 - 192) * 64+(b1 - 128)
   · rw [if_pos h3,if_pos ⟨h1.1,h1.2,h3⟩]
   · rw [if_neg (by omega),if_neg (by omega)]
 · rw [if_neg (by omega),if_neg (by omega),if_neg (by omega),if_neg (fun q=>h1 ⟨q.1,q.2.1⟩)]
theorem dec_3 {n b0 b1 b2 b3:Nat} (h:224≤b0∧b0 < 240):Lib.decodeN n b0 b1 b2 b3=if 2 < n∧(128≤b1∧b1 < 192)∧(128≤b2∧b2 < 192)∧2048≤(b0 - 224) * 4096+(b1 - 128) * 64+(b2 - 128)∧¬ (55296≤(b0 - 224) * 4096+(b1 - 128) * 64+(b2 - 128)∧(b0 - 224) * 4096+(b1 - 128) * 64+(b2 - 128) < 57344) then ((b0 - 224) * 4096+(b1 - 128) * 64+(b2 - 128),3) else (65533,1):=by
 unfold Lib.decodeN
 rw [if_neg (by omega),if_neg (by omega)]
 by_cases h1:2 < n∧(128≤b1∧b1 < 192)∧(128≤b2∧b2 < 192)
 · have e:b0 % 16 * 4096+b1 % 64 * 64+b2 % 64=(b0 - 224) * 4096+(b1 - 128) * 64+(b2 - 128):=by omega
   rw [if_pos (by omega),e]
   generalize hV:(b0 - 224) * 4096+(b1 - 128) * 64+(b2 - 128)=V
   by_cases h3:2048≤V∧¬ (55296≤V∧V < 57344)
   · rw [if_pos (by omega),if_pos ⟨h1.1,h1.2.1,h1.2.2,h3⟩]
   · rw [if_neg (by omega),if_neg (fun q=>h3 q.2.2.2)]
 · rw [if_neg (by omega),if_neg (by omega),if_neg (fun q=>h1 ⟨q.1,q.2.1,q.2.2.1⟩)]
theorem dec_4 {n b0 b1 b2 b3:Nat} (h:240≤b0∧b0 < 248):Lib.decodeN n b0 b1 b2 b3=if 3 < n∧(128≤b1∧b1 < 192)∧(128≤b2∧b2 < 192)∧(128≤b3∧b3 < 192)∧65536≤(b0 - 240) * 262144+(b1 - 128) * 4096+(b2 - 128) * 64+(b3 - 128)∧(b0 - 240) * 262144+(b1 - 128) * 4096+(b2 - 128) * 64+(b3 - 128)≤1114111 then ((b0 - 240) * 262144+(b1 - 128) * 4096+(b2 - 128) * 64+(b3 - 128),4) else (65533,1):=by
 unfold Lib.decodeN
 rw [if_neg (by omega),if_neg (by omega),if_neg (by omega)]
 by_cases h1:3 < n∧(128≤b1∧b1 < 192)∧(128≤b2∧b2 < 192)∧(128≤b3∧b3 < 192)
 · have e:b0 % 8 * 262144+b1 % 64 * 4096+b2 % 64 * 64+b3 % 64=(b0 - 240) * 262144+(b1 - 128) * 4096+(b2 - 128) * 64+(b3 - 128):=by omega
   rw [if_pos (by omega),e]
   generalize hV:(b0 - 240) * 262144+(b1 - 128) * 4096+(b2 - 128) * 64+(b3 - 128)=V
   by_cases h3:65536≤V∧V≤1114111
   · rw [if_pos (by omega),if_pos ⟨h1.1,h1.2.1,h1.2.2.1,h1.2.2.2,h3⟩]
   · rw [if_neg (by omega),if_neg (fun q=>h3 q.2.2.2.2)]
 · rw [if_neg (by omega),if_neg (fun q=>h1 ⟨q.1,q.2.1,q.2.2.1,q.2.2.2.1⟩)]
def decOk (S:Bs):Bool := !(decide ((decU S).1=65533) && decide ((decU S).2=1))
def Next3Q (S:Bs) (H:Hp):A→Hp→Prop:=fun r H'=>∃ v:Int,r = .tup [.d (.int .i64 v),.d (.int .i64 ((decU S).2:Int)),.d (.bool (decOk S))]∧H'=H
section
variable {P:Program}
theorem Has.more3 {f} (h:Has P f irR3More):ByteOk P f contB:=fun b H=>by
 obtain ⟨fn,hf,hcf⟩:=h
 refine acall_fin hf hcf (by simp [irR3More]) fun hcl _ => ?_
 simp [irR3More]
 generalize ha:decide ((128:Int)≤b.toNat)=a
 generalize hb:decide ((b.toNat:Int) < 192)=c
 have hl:contB b=(a && c):=by simp only [contB,ha,hb]
 cases a<;>cases c<;>simp [ha,hb]<;>simp [RetK,cut_self hcl,hl]
def C.fst:C→C
 | .seq a _=>a
 | c=>c
def C.snd:C→C
 | .seq _ b=>b
 | c=>c
def W3 (B:Nat→UInt8) (v:Int):Nat→Int
 | 0=>v
 | k+1=>W3 B v k * 64+(B (k+1)).toNat - 128
theorem W3_le {B:Nat→UInt8} {v:Int} (h:0≤v∧v≤31):∀ k,(∀ j,1≤j→j≤k→contB (B j)=true)→k≤3→0≤W3 B v k∧W3 B v k≤32 * 64 ^ k - 1
 | 0,_,_=>by simp [W3]; omega
 | k + 1, hc, hk => by
   have h1:=W3_le h k (fun j a b=>hc j a (by omega)) (by omega)
   have h2:=hc (k+1) (by omega) (Nat.le_refl _)
   simp only [contB,Bool.and_eq_true,decide_eq_true_eq] at h2
   have e:(64:Int) ^ (k+1)=64 ^ k * 64:=Int.pow_succ ..
   simp only [W3,e]
   omega
theorem Has.next3 {f fm} (h:Has P f (irR3Next fm)) (hm:ByteOk P fm contB) (s:Bs) (n:Nat) (hn:n < s.length) (hl:s.length≤1048576) (H:Hp) :
 ACall P f [.d (.str s),.d (.int .i64 (n:Int))] H (Next3Q (s.drop n) H):=by
 obtain ⟨fn,hf,hcf⟩:=h
 refine acall_fin hf hcf (by simp [irR3Next]) fun hcl _ => ?_
 have hB:=fun k (hk:n+k < s.length)=>byteAt_getD (s:=s) (n:=n) (k:=k) hk
 have hne:s.drop n ≠ []:=fun e=>by have:=List.drop_eq_nil_iff.1 e; omega
 have hD:=decU_ne hne
 have hSl:(s.drop n).length=s.length - n:=by simp
 rw [hSl] at hD
 have hfin:∀ (v N:Int) (ok:Bool),N=((decU (s.drop n)).2:Int)→ok=decOk (s.drop n)→Next3Q (s.drop n) H (.tup [.d (.int .i64 v),.d (.int .i64 N),.d (.bool ok)]) H:=fun v N ok h1 h2=>⟨v,by rw [h1,h2],rfl⟩
 unfold decOk at hfin
 generalize Next3Q (s.drop n) H=Q at hfin ⊢
 generalize decU (s.drop n)=D at hD hfin
 obtain ⟨B,hBe⟩:∃ B:Nat→UInt8,∀ k,(s.drop n).getD k 0=B k:=⟨_,fun _=>rfl⟩
 simp only [hBe] at hB hD
 clear hBe
 have hb0:=hB 0 (by omega)
 simp only [Int.add_zero,Int.natCast_zero] at hb0
 have hwb:∀ b:UInt8,IntKind.i64.wrap (b.toNat:Int)=b.toNat:=fun b=>wrap_i64 (by have:=b.toNat_lt; omega) (by have:=b.toNat_lt; omega)
 have hno:D=(65533,1)→∀ v,Q (.tup [.d (.int .i64 v),.d (.int .i64 1),.d (.bool false)]) H:=fun e v=>hfin _ _ _ (by rw [e]; rfl) (by rw [e]; rfl)
 have rest:∀ (fr:Fr) (z m:Nat) (lo v0:Int),z=m+1→fr 0 = .d (.str s)→fr 1 = .d (.int .i64 (n:Int))→fr 8 = .d (.int .i64 (z:Int))→fr 9 = .d (.int .i64 v0)→fr 10 = .d (.int .i64 lo)→2≤z→z≤4→n+z≤s.length→(0≤v0∧v0≤31) →
  ((∀ j,1≤j→j < z→contB (B j)=true)∧lo≤W3 B v0 m∧W3 B v0 m≤1114111∧¬ (55296≤W3 B v0 m∧W3 B v0 m < 57344)→D.2=z) →
  (¬ ((∀ j,1≤j→j < z→contB (B j)=true)∧lo≤W3 B v0 m∧W3 B v0 m≤1114111∧¬ (55296≤W3 B v0 m∧W3 B v0 m < 57344))→D=(65533,1)) →
  AWp P H.length (irR3Next fm).body.snd.snd.snd.snd.snd.snd.snd.snd (Fin (irR3Next fm).res H.length Q) fr H:=by
  intro fr z m lo v0 zm f0 f1 f8 f9 f10 z2 z4 hz hv hg hw
  simp [irR3Next,C.snd]
  refine LoopK_outR 0 (fun fr H'=>fr 8 = .d (.int .i64 (z:Int))∧fr 10 = .d (.int .i64 lo)∧fr 9 = .d (.int .i64 (W3 B v0 m))∧H'=H∧∀ j,1≤j→j < z→contB (B j)=true) (fun fr H'=>fr 4 = .d (.int .i64 65533)∧fr 5 = .d (.int .i64 1)∧fr 6 = .d (.bool false)∧H'=H∧¬ ∀ j,1≤j→j < z→contB (B j)=true) ?_ ?_ ?_
  · refine LoopM_of H.length (fun d fr H'=>∃ k:Nat,d=5 - (k+1)∧k+1≤z∧fr 0 = .d (.str s)∧fr 1 = .d (.int .i64 (n:Int))∧fr 8 = .d (.int .i64 (z:Int))∧fr 10 = .d (.int .i64 lo)∧fr 11 = .d (.int .i64 ((k:Int)+1))∧fr 9 = .d (.int .i64 (W3 B v0 k))∧H'=H∧∀ j,1≤j→j≤k→contB (B j)=true) 4 (by simp) ⟨0,rfl,by omega,by simp [f0,f1,f8,f9,f10,W3,cut_self hcl]; omega⟩ ?_
    rintro d fr H' ⟨k,rfl,kz,f0,f1,f8,f10,f11,f9,rfl,hc⟩
    by_cases hk:k+1 < z
    · have hk':(k:Int)+1 < z:=by omega
      have B1:=hB (k+1) (by omega)
      rw [Int.natCast_add,Int.natCast_one] at B1
      have hW:=W3_le hv k hc (by omega)
      have h64:(64:Int) ^ k≤64 ^ 3:=by
       have:k=0∨k=1∨k=2:=by omega
       rcases this with rfl | rfl | rfl<;>decide
      have l1:=(B (k+1)).toNat_lt
      have w0:IntKind.i64.wrap ((n:Int)+(k+1))=n+(k+1):=wrap_i64 (by omega) (by omega)
      have w1:IntKind.i64.wrap (W3 B v0 k * 64)=W3 B v0 k * 64:=wrap_i64 (by omega) (by omega)
      have w2:IntKind.i64.wrap (W3 B v0 k * 64+(B (k+1)).toNat)=W3 B v0 k * 64+(B (k+1)).toNat:=wrap_i64 (by omega) (by omega)
      have w3:IntKind.i64.wrap (W3 B v0 k * 64+(B (k+1)).toNat - 128)=W3 B v0 k * 64+(B (k+1)).toNat - 128:=wrap_i64 (by omega) (by omega)
      have w4:IntKind.i64.wrap ((k:Int)+1+1)=k+1+1:=wrap_i64 (by omega) (by omega)
      simp [f0,f1,f8,f11,w0,B1,hk']
      refine CallK_of' (hm (B (k+1)) _) ?_
      cases hcb:contB (B (k+1)) with
      | false =>
        simp
        exact ⟨k+1,by omega,hk,hcb⟩
      | true =>
        simp [f0,f1,f8,f9,f11,w0,B1,hwb,w1,w2,w3]
        refine NextM_of H'.length (5 - (k+1+1)) (Nat.le_refl _) (by simp) (by omega) ⟨k+1,rfl,by omega,?_⟩
        simp [f0,f1,f8,f10,w4,W3,cut_self hcl]
        intro j a b
        rcases Nat.lt_or_ge k j with q | q
        · rwa [show j=k+1 by omega]
        · exact hc j a q
    · have e:m=k:=by omega
      have hk':¬ (k:Int)+1 < z:=by omega
      simp [f8,f11,hk']
      simp [f8,f9,f10,e]
      exact fun j a b=>hc j a (by omega)
  · rintro fr H' ⟨f4,f5,f6,rfl,hc⟩
    simp
    simp [RetK,cut_self hcl,f4,f5,f6]
    exact hno (hw fun q=>hc q.1) _
  · rintro fr H' ⟨f8,f10,f9,rfl,hc⟩
    generalize W3 B v0 m=V at f9 hg hw
    have good:lo≤V∧V≤1114111∧¬ (55296≤V∧V < 57344)→Q (.tup [.d (.int .i64 V),.d (.int .i64 (z:Int)),.d (.bool true)]) H':=fun q=>by
     have e:=hg ⟨hc,q⟩
     exact hfin _ _ _ (by rw [e]) (by rw [e]; simp; omega)
    have bad:¬ (lo≤V∧V≤1114111∧¬ (55296≤V∧V < 57344))→D=(65533,1):=fun q=>hw fun r=>q r.2
    by_cases r1:V < lo
    · simp [f8,f9,f10,r1]
      simp [RetK,cut_self hcl]
      exact hno (bad (by omega)) _
    by_cases r2:1114111 < V
    · simp [f8,f9,f10,r1,r2]
      simp [RetK,cut_self hcl]
      exact hno (bad (by omega)) _
    by_cases r3:55296≤V<;>by_cases r4:V < 57344
    case pos =>
     simp [f8,f9,f10,r1,r2,r3,r4]
     simp [RetK,cut_self hcl]
     exact hno (bad (by omega)) _
    all_goals
     simp [f8,f9,f10,r1,r2,r3,r4]
     simp [RetK,cut_self hcl,f8,f9]
     exact good (by omega)
 generalize hT:(irR3Next fm).body.snd.snd.snd.snd.snd.snd.snd.snd=T at rest
 have hbody:(irR3Next fm).body = .seq (irR3Next fm).body.fst (.seq (irR3Next fm).body.snd.fst (.seq (irR3Next fm).body.snd.snd.fst (.seq (irR3Next fm).body.snd.snd.snd.fst (.seq (irR3Next fm).body.snd.snd.snd.snd.fst (.seq (irR3Next fm).body.snd.snd.snd.snd.snd.fst (.seq (irR3Next fm).body.snd.snd.snd.snd.snd.snd.fst (.seq (irR3Next fm).body.snd.snd.snd.snd.snd.snd.snd.fst T))))))):=by rw [← hT]; rfl
 rw [hbody]
 clear hbody hT
 simp [irR3Next,C.fst,C.snd,hb0,hwb]
 have hcont:∀ b:UInt8,contB b=true ↔ 128≤b.toNat∧b.toNat < 192:=fun b=>by simp [contB]; omega
 have l0:=(B 0).toNat_lt
 by_cases c0:(B 0).toNat < 128
 · have c0':((B 0).toNat:Int) < 128:=by omega
   rw [dec_0 c0] at hD
   simp [c0']
   simp [RetK,cut_self hcl]
   exact hfin _ _ _ (by rw [hD]; rfl) (by rw [hD]; simp; omega)
 have c0':¬ ((B 0).toNat:Int) < 128:=by omega
 have wsub:∀ k:Int,0≤k→k≤1000→IntKind.i64.wrap (((B 0).toNat:Int) - k)=(B 0).toNat - k:=fun k _ _=>wrap_i64 (by omega) (by omega)
 have wsn:IntKind.i64.wrap ((s.length:Int) - n)=s.length - n:=wrap_i64 (by omega) (by omega)
 by_cases cN:192≤(B 0).toNat∧(B 0).toNat < 248
 case neg =>
  rw [dec_none c0 cN] at hD
  by_cases x2:(192:Int)≤(B 0).toNat
  · simp [c0',x2,show ¬ ((B 0).toNat:Int) < 224 by omega,show (224:Int)≤(B 0).toNat by omega,show ¬ ((B 0).toNat:Int) < 240 by omega,show (240:Int)≤(B 0).toNat by omega,show ¬ ((B 0).toNat:Int) < 248 by omega]
    simp [RetK,cut_self hcl]
    exact hno hD _
  · simp [c0',x2,show ¬ (224:Int)≤(B 0).toNat by omega,show ¬ (240:Int)≤(B 0).toNat by omega]
    simp [RetK,cut_self hcl]
    exact hno hD _
 have fit:∀ z:Nat,(s.length - n < z∧(s.length:Int) - n < z)∨(n+z≤s.length∧¬ (s.length:Int) - n < z):=fun z=>by omega
 have x0:(192:Int)≤(B 0).toNat:=by omega
 by_cases c2:(B 0).toNat < 224
 · rw [dec_2 ⟨cN.1,c2⟩] at hD
   simp [c0',x0,show ((B 0).toNat:Int) < 224 by omega,show ¬ (224:Int)≤(B 0).toNat by omega,show ¬ (240:Int)≤(B 0).toNat by omega,wsub 192 (by omega) (by omega)]
   rcases fit 2 with ⟨hL,hL'⟩ | ⟨hL,hL'⟩<;>simp only [Int.cast_ofNat_Int] at hL'<;>simp [wsn,hL']
   · simp [RetK,cut_self hcl]
     exact hno (by rw [hD,if_neg (by omega)]) _
   · refine rest _ 2 1 128 ((B 0).toNat - 192) rfl (by simp) (by simp) (by simp) (by simp) (by simp) (by omega) (by omega) hL (by omega) ?_ ?_
     · rintro ⟨q1,q2,q3,q4⟩
       have h1:=(hcont _).1 (q1 1 (by omega) (by omega))
       simp only [W3,Nat.reduceAdd] at q2 q4
       rw [hD,if_pos (by omega)]
     · intro q
       rw [hD,if_neg]
       rintro ⟨a,b,c⟩
       refine q ⟨fun j j1 j2 => ?_,by simp only [W3,Nat.reduceAdd]; omega,by simp only [W3,Nat.reduceAdd]; omega,by simp only [W3,Nat.reduceAdd]; omega⟩
       obtain rfl:j=1:=by omega
       exact (hcont _).2 b
 by_cases c3:(B 0).toNat < 240
 · rw [dec_3 ⟨by omega,c3⟩] at hD
   simp [c0',x0,show ¬ ((B 0).toNat:Int) < 224 by omega,show (224:Int)≤(B 0).toNat by omega,show ((B 0).toNat:Int) < 240 by omega,show ¬ (240:Int)≤(B 0).toNat by omega,wsub 224 (by omega) (by omega)]
   rcases fit 3 with ⟨hL,hL'⟩ | ⟨hL,hL'⟩<;>simp only [Int.cast_ofNat_Int] at hL'<;>simp [wsn,hL']
   · simp [RetK,cut_self hcl]
     exact hno (by rw [hD,if_neg (by omega)]) _
   · refine rest _ 3 2 2048 ((B 0).toNat - 224) rfl (by simp) (by simp) (by simp) (by simp) (by simp) (by omega) (by omega) hL (by omega) ?_ ?_
     · rintro ⟨q1,q2,q3,q4⟩
       have h1:=(hcont _).1 (q1 1 (by omega) (by omega))
       have h2:=(hcont _).1 (q1 2 (by omega) (by omega))
       simp only [W3,Nat.reduceAdd] at q2 q4
       rw [hD,if_pos (by omega)]
     · intro q
       rw [hD,if_neg]
       rintro ⟨a,b,c,d,e⟩
       refine q ⟨fun j j1 j2 => ?_,by simp only [W3,Nat.reduceAdd]; omega,by simp only [W3,Nat.reduceAdd]; omega,by simp only [W3,Nat.reduceAdd]; omega⟩
       obtain rfl | rfl:j=1∨j=2:=by omega
       · exact (hcont _).2 b
       · exact (hcont _).2 c
 · rw [dec_4 ⟨by omega,cN.2⟩] at hD
   simp [c0',x0,show ¬ ((B 0).toNat:Int) < 224 by omega,show (224:Int)≤(B 0).toNat by omega,show ¬ ((B 0).toNat:Int) < 240 by omega,show (240:Int)≤(B 0).toNat by omega,show ((B 0).toNat:Int) < 248 by omega,wsub 240 (by omega) (by omega)]
   rcases fit 4 with ⟨hL,hL'⟩ | ⟨hL,hL'⟩<;>simp only [Int.cast_ofNat_Int] at hL'<;>simp [wsn,hL']
   · simp [RetK,cut_self hcl]
     exact hno (by rw [hD,if_neg (by omega)]) _
   · refine rest _ 4 3 65536 ((B 0).toNat - 240) rfl (by simp) (by simp) (by simp) (by simp) (by simp) (by omega) (by omega) hL (by omega) ?_ ?_
     · rintro ⟨q1,q2,q3,q4⟩
       have h1:=(hcont _).1 (q1 1 (by omega) (by omega))
       have h2:=(hcont _).1 (q1 2 (by omega) (by omega))
       have h3:=(hcont _).1 (q1 3 (by omega) (by omega))
       simp only [W3,Nat.reduceAdd] at q2 q3
       rw [hD,if_pos (by omega)]
     · intro q
       rw [hD,if_neg]
       rintro ⟨a,b,c,d,e,g⟩
       refine q ⟨fun j j1 j2 => ?_,by simp only [W3,Nat.reduceAdd]; omega,by simp only [W3,Nat.reduceAdd]; omega,by simp only [W3,Nat.reduceAdd]; omega⟩
       obtain rfl | rfl | rfl:j=1∨j=2∨j=3:=by omega
       · exact (hcont _).2 b
       · exact (hcont _).2 c
       · exact (hcont _).2 d
theorem Has.bad3 {f fn} (h:Has P f (irR3Bad fn)) (hd:∀ (s:Bs) (n:Nat),n < s.length→s.length≤1048576→∀ H,ACall P fn [.d (.str s),.d (.int .i64 (n:Int))] H (Next3Q (s.drop n) H)) (s:Bs) (hl:s.length≤1048576) (H:Hp):ACall P f [.d (.str s)] H (fun r H'=>r = .d (.int .i64 (badS s))∧H'=H):=by
 obtain ⟨fn,hf,hcf⟩:=h
 refine acall_fin hf hcf (by simp [irR3Bad]) fun hcl _ => ?_
 simp [irR3Bad]
 refine LoopK_outR 0 (fun fr H'=>badS s = -1∧H'=H) (fun fr H'=>fr 2 = .d (.int .i64 (badS s))∧H'=H) ?_ ?_ ?_
 · refine LoopM_of H.length (fun d fr H'=>∃ n:Nat,d=s.length - n∧n≤s.length∧badS s=badF (s.length - n) (s.drop n) n∧fr 0 = .d (.str s)∧fr 3 = .d (.int .i64 (n:Int))∧H'=H) (s.length - 0) (by simp) ⟨0,rfl,by omega,rfl,?_⟩ ?_
   · simp [cut_self hcl]
   rintro d fr H' ⟨n,rfl,hn,hb,f0,f3,rfl⟩
   simp [f0,f3]
   refine BrK_split (fun hlt => ?_) (fun hlt => ?_)
   · have hlt:n < s.length:=by simpa using hlt
     have hne:s.drop n ≠ []:=fun e=>by have:=List.drop_eq_nil_iff.1 e; omega
     have hdl:=decU_len hne
     have hdr:∀ k,(s.drop n).drop k=s.drop (n+k):=fun k=>List.drop_drop ..
     have hfl:s.length - n=(s.length - n - 1)+1:=by omega
     rw [hfl,badF,if_neg hne] at hb
     simp only [List.length_drop] at hdl
     simp [f0,f3]
     refine CallK_of (hd s n hlt hl H') ?_
     rintro _ H1 ⟨v,rfl,hH⟩
     cases hH
     simp only [hdr] at hb
     unfold decOk
     generalize decU (s.drop n)=D at hb hdl
     obtain ⟨R,W⟩:=D
     simp only at hb hdl
     have hwr:IntKind.i64.wrap ((n:Int)+W)=((n+W:Nat):Int):=by rw [wrap_i64 (by omega) (by omega)]; omega
     by_cases hR:R=65533∧W=1
     · rw [if_pos (by rw [hR.1,hR.2])] at hb
       simp [hR.1,hR.2,f3,hb]
     · rw [if_neg (by simpa using hR)] at hb
       have hok:(!(decide (R=65533) && decide (W=1)))=true:=by simp; omega
       rw [hok]
       simp [f3,hwr]
       refine NextM_of _ (s.length - (n+W)) (Nat.le_refl _) (by simp) (by omega) ⟨n+W,rfl,by omega,?_,?_⟩
       · rw [hb]; exact badF_fuel _ _ _ _ (by simp; omega) (by simp)
       · simp [f0,cut_self hcl]
   · have hge : n = s.length := by have : ¬ (n < s.length) := by simpa using hlt
                                   omega
     have:badS s = -1:=by rw [hb,hge]; simp [badF]
     simp [this]
 · rintro fr H' ⟨f2,rfl⟩
   simp
   simp [RetK,cut_self hcl,f2]
 · rintro fr H' ⟨hb,rfl⟩
   simp
   simp [RetK,cut_self hcl,hb]
end
end
section
theorem unqI_cons (b:UInt8) (r:Bs):unqI (b :: r)=if b=92 then (match r with | []=>none | c :: t=>(unesc c).bind fun x=>(unqI t).map (x :: ·)) else if b.toNat < 32∨b=34 then none else (unqI r).map (b :: ·):=by
 cases r with
 | nil=>simp only [unqI]; rfl
 | cons c t=>simp only [unqI]
section
variable {P:Program}
theorem Has.unquote3 {f} (h:Has P f irR3Unquote) (s:Bs) (hl:s.length≤1048576) (H:Hp):ACall P f [.d (.str s)] H (fun r H'=>r=unqR (unqV s)∧H'=H):=by
 obtain ⟨fn,hf,hcf⟩:=h
 refine acall_fin hf hcf (by simp [irR3Unquote]) fun hcl _ => ?_
 by_cases h1:s.length < 2
 case pos =>
  have h1':(s.length:Int) < 2:=by omega
  simp [irR3Unquote,h1']
  simp [RetK,cut_self hcl,unqV,unqR,h1]
 have h1':¬ (s.length:Int) < 2:=by omega
 obtain ⟨b0,hb0⟩:∃ b,byteAt s 0=some b:=⟨s[0],by simp [byteAt]⟩
 obtain ⟨b1,hb1⟩:∃ b,byteAt s ((s.length:Int) - 1)=some b:=by
  refine ⟨s[s.length - 1],?_⟩
  have e:((s.length:Int) - 1)=((s.length - 1:Nat):Int):=by omega
  rw [e,byteAt_nat,List.getElem?_eq_getElem]
 have hh:s.head?=some b0:=by
  cases s with
  | nil=>simp at h1
  | cons a r=>simpa [byteAt] using hb0
 have hg:s.getLast?=some b1:=by
  have e:((s.length:Int) - 1)=((s.length - 1:Nat):Int):=by omega
  rw [List.getLast?_eq_getElem?,← byteAt_nat,← e]
  exact hb1
 have hwm:IntKind.i64.wrap ((s.length:Int) - 1)=s.length - 1:=wrap_i64 (by omega) (by omega)
 have byte34:∀ b:UInt8,((b.toNat:Int)=34) ↔ b=34:=fun b=>byte_eq b 34
 by_cases h2:b0=34
 case neg =>
  have h2':¬ ((b0.toNat:Int)=34):=fun e=>h2 ((byte34 _).1 e)
  simp [irR3Unquote,h1',hb0,h2']
  simp [RetK,cut_self hcl,unqV,unqR,hh,h2]
 by_cases h3:b1=34
 case neg =>
  have h3':¬ ((b1.toNat:Int)=34):=fun e=>h3 ((byte34 _).1 e)
  simp [irR3Unquote,h1',hb0,h2,hwm,hb1,h3']
  simp [RetK,cut_self hcl,unqV,unqR,hg,h3]
 subst h2; subst h3
 have hU:unqV s=unqI ((s.drop 1).take (s.length - 2)):=by simp [unqV,h1,hh,hg]
 have hsub:subL s 1 ((s.length:Int) - 1)=some ((s.drop 1).take (s.length - 2)):=by
  have:=sub_ok (s:=s) (n:=1) (w:=s.length - 2) (by omega)
  rw [← this]; congr 1; omega
 have hIl:((s.drop 1).take (s.length - 2)).length≤1048576:=by simp; omega
 rw [hU]
 generalize (s.drop 1).take (s.length - 2)=I at hIl hsub ⊢
 simp [irR3Unquote,h1',hb0,hwm,hb1,hsub]
 clear hsub hU hb0 hb1 hh hg hwm
 refine LoopK_outR 0 (fun fr H'=>∃ x,unqI I=some x∧fr 5 = .d (.str x)∧H'=H) (fun fr H'=>fr 2 = .d (.str [])∧fr 3 = .d (.int .i64 22)∧unqI I=none∧H'=H) ?_ ?_ ?_
 · refine LoopM_of H.length (fun d fr H'=>∃ (x J:Bs),d=J.length∧x.length+J.length≤1048576∧unqI I=(unqI J).map (x ++ ·)∧fr 5 = .d (.str x)∧fr 6 = .d (.str J)∧H'=H) I.length (by simp) ⟨[],I,rfl,by simpa using hIl,by simp,?_⟩ ?_
   · simp [cut_self hcl]
   rintro d fr H' ⟨x,J,rfl,hJl,hq,f5,f6,rfl⟩
   cases J with
   | nil =>
     simp [f6]
     simp [f5,hq,unqI]
   | cons b r =>
     have hpos:(0:Int) < (r.length:Int)+1:=by omega
     have hb:byteAt (b :: r) 0=some b:=by simp [byteAt]
     rw [unqI_cons] at hq
     simp only [List.length_cons] at hJl
     simp [f6,hb,hpos]
     have s1:subL (b :: r) 0 1=some [b]:=by simp [subL]; omega
     have s2:subL (b :: r) 1 ((b :: r).length:Int)=some r:=by
      have:=sub_end (s:=b :: r) (n:=1) (by simp only [List.length_cons]; omega)
      simpa using this
     simp only [List.length_cons,Int.natCast_add,Int.natCast_one] at s2
     by_cases h92:b=92
     · subst h92
       rw [if_pos rfl] at hq
       cases r with
       | nil =>
         simp only at hq
         simp [f5,f6]
         simpa using hq
       | cons c t =>
         have hb1:byteAt (92 :: c :: t) 1=some c:=by simp [byteAt]
         have s3:subL (92 :: c :: t) 2 ((t.length:Int)+1+1)=some t:=by
          have:=sub_end (s:=92 :: c :: t) (n:=2) (by simp only [List.length_cons]; omega)
          simpa using this
         have hlen:¬ ((t.length:Int)+1+1 < 2):=by omega
         simp only [List.length_cons] at hJl
         simp only at hq
         have put:∀ y:UInt8,unesc c=some y→unqI I=(unqI t).map ((x++[y]) ++ ·):=fun y hy=>by
          rw [hq,hy]; simp [Function.comp_def]
         have add:∀ y:UInt8,strOp .add x [y]=some (.str (x++[y])):=fun y=>strOp_add' (by simp; omega)
         have hcb:∀ y:UInt8,((c.toNat:Int)=(y.toNat:Int)) ↔ c=y:=byte_eq c
         simp [f5,f6,hb1,hlen]
         by_cases c110:c=110
         · subst c110
           simp [f5,f6,s3,add,-strOp]
           refine NextM_of H'.length t.length (Nat.le_refl _) (by simp) (by omega) ⟨x++[10],t,rfl,by simp; omega,put 10 (by decide),?_⟩
           simp [cut_self hcl]
         have n110:¬ ((c.toNat:Int)=110):=fun e=>c110 ((hcb 110).1 e)
         by_cases c116:c=116
         · subst c116
           simp [f5,f6,s3,add,-strOp]
           refine NextM_of H'.length t.length (Nat.le_refl _) (by simp) (by omega) ⟨x++[9],t,rfl,by simp; omega,put 9 (by decide),?_⟩
           simp [cut_self hcl]
         have n116:¬ ((c.toNat:Int)=116):=fun e=>c116 ((hcb 116).1 e)
         by_cases c34:c=34
         · subst c34
           simp [f5,f6,s3,add,-strOp]
           refine NextM_of H'.length t.length (Nat.le_refl _) (by simp) (by omega) ⟨x++[34],t,rfl,by simp; omega,put 34 (by decide),?_⟩
           simp [cut_self hcl]
         have n34:¬ ((c.toNat:Int)=34):=fun e=>c34 ((hcb 34).1 e)
         by_cases c92:c=92
         · subst c92
           simp [f5,f6,s3,add,-strOp]
           refine NextM_of H'.length t.length (Nat.le_refl _) (by simp) (by omega) ⟨x++[92],t,rfl,by simp; omega,put 92 (by decide),?_⟩
           simp [cut_self hcl]
         have n92:¬ ((c.toNat:Int)=92):=fun e=>c92 ((hcb 92).1 e)
         have hnone:unesc c=none:=by simp [unesc,c110,c116,c34,c92]
         rw [hnone] at hq
         simp [n110,n116,n34,n92]
         simpa using hq
     · rw [if_neg h92] at hq
       have n92:¬ ((b.toNat:Int)=92):=fun e=>h92 ((byte_eq b 92).1 e)
       by_cases hlo:b.toNat < 32
       · have hlo':(b.toNat:Int) < 32:=by omega
         rw [if_pos (.inl hlo)] at hq
         simp [hlo']
         simpa using hq
       have hlo':¬ (b.toNat:Int) < 32:=by omega
       by_cases h34:b=34
       · subst h34
         rw [if_pos (.inr rfl)] at hq
         simp
         simpa using hq
       have n34:¬ ((b.toNat:Int)=34):=fun e=>h34 ((byte_eq b 34).1 e)
       rw [if_neg (by simp [hlo,h34])] at hq
       have add:strOp .add x [b]=some (.str (x++[b])):=strOp_add' (by simp; omega)
       simp [hlo',n34,n92,f5,f6,s1,s2,add,-strOp]
       refine NextM_of H'.length r.length (Nat.le_refl _) (by simp) (by simp) ⟨x++[b],r,rfl,by simp; omega,?_,?_⟩
       · rw [hq]; simp [Function.comp_def]
       · simp [cut_self hcl]
 · rintro fr H' ⟨f2,f3,hn,rfl⟩
   simp
   simp [RetK,cut_self hcl,f2,f3,hn,unqR]
 · rintro fr H' ⟨x,hx,f5,rfl⟩
   simp [f5]
   simp [RetK,cut_self hcl,hx,unqR]
theorem Has.lead4 {f} (h:Has P f irR4Lead) (s:Bs) (n:Nat) (hn:n≤s.length) (hl:s.length≤1048576) (H:Hp):ACall P f [.d (.str s),.d (.int .i64 (n:Int))] H (fun r H'=>r = .d (.int .i64 ((n+leadS false (s.drop n):Nat):Int))∧H'=H):=by
 obtain ⟨fn,hf,hcf⟩:=h
 refine acall_fin hf hcf (by simp [irR4Lead]) fun hcl _ => ?_
 have hL:=lead_le false (s.drop n)
 simp only [List.length_drop] at hL
 generalize hLL:leadS false (s.drop n)=L at hL ⊢
 simp [irR4Lead]
 refine LoopK_outR 0 (fun fr H'=>fr 1 = .d (.int .i64 ((n+L:Nat):Int))∧H'=H) (fun fr H'=>fr 4 = .d (.int .i64 ((n+L:Nat):Int))∧H'=H) ?_ ?_ ?_
 · refine LoopM_of H.length (fun d fr H'=>∃ p:Nat,d=s.length - p∧p≤s.length∧p+leadS false (s.drop p)=n+L∧fr 0 = .d (.str s)∧fr 1 = .d (.int .i64 (p:Int))∧H'=H) (s.length - n) (by simp) ⟨n,rfl,hn,by rw [hLL],?_⟩ ?_
   · simp [cut_self hcl]
   rintro d fr H' ⟨p,rfl,hp,hq,f0,f1,rfl⟩
   cases hd:s.drop p with
   | nil =>
     have hpl:p=s.length:=by have:=List.drop_eq_nil_iff.1 hd; omega
     rw [hd] at hq
     simp only [leadS,Nat.add_zero] at hq
     have hn':¬ ((p:Int) < s.length):=by omega
     simp [f0,f1,hn']
     omega
   | cons b r =>
     obtain ⟨hb,hlt⟩:=byteAt_drop hd
     have hdr:s.drop (p+1)=r:=by rw [← List.drop_drop,hd]; rfl
     have hlt':(p:Int) < s.length:=by omega
     have hw:IntKind.i64.wrap ((p:Int)+1)=((p+1:Nat):Int):=by rw [wrap_i64 (by omega) (by omega)]; omega
     simp [f0,f1,hlt',hb]
     cases hB:blankB b with
     | true =>
       have hq':leadS false (s.drop p)=leadS false r+1:=by rw [hd,leadS,if_pos hB]
       have hbl:=hB
       unfold blankB at hbl
       generalize ha:decide ((b.toNat:Int)=32)=a at hbl ⊢
       generalize hc:decide ((b.toNat:Int)=9)=c at hbl ⊢
       generalize he:decide ((b.toNat:Int)=10)=e at hbl ⊢
       generalize hg:decide ((b.toNat:Int)=13)=g at hbl ⊢
       cases a<;>cases c<;>cases e<;>cases g<;>simp at hbl<;>simp [f0,f1,hb,ha,hc,he,hg,hw] <;>
        (refine NextM_of H'.length (s.length - (p+1)) (Nat.le_refl _) (by simp) (by omega) ⟨p+1,rfl,by omega,by rw [hdr]; omega,?_⟩; simp [f0,cut_self hcl])
     | false =>
       have hbl:=hB
       unfold blankB at hbl
       simp only [Bool.or_eq_false_iff] at hbl
       obtain ⟨⟨⟨a1,a2⟩,a3⟩,a4⟩:=hbl
       simp [f0,f1,hb,a1,a2,a3,a4]
       by_cases h35:(b.toNat:Int)=35
       · have hhb:moreB hashB (s.drop p)=true:=by rw [hd]; simp [moreB,hashB,h35]
         obtain ⟨hc,hc1⟩:=lead_hash hhb
         have hstep:=runN_step noNlB (s.drop p)
         have hW:=runN_le noNlB (s.drop p)
         simp only [drop_add',List.length_drop] at hW hstep hc
         generalize runN noNlB (s.drop p)=wc at hc hc1 hstep hW
         simp [h35,f0,f1]
         refine LoopK_out 2 (fun fr H''=>fr 0 = .d (.str s)∧fr 1 = .d (.int .i64 ((p+wc:Nat):Int))∧H''=H') ?_ ?_
         · refine LoopM_of H'.length (fun d fr H''=>∃ q,d=wc - q∧q≤wc∧fr 0 = .d (.str s)∧fr 1 = .d (.int .i64 ((p+q:Nat):Int))∧H''=H') wc (by simp) ⟨0,?_⟩ ?_
           · simp [f0,f1,cut_self hcl]
           rintro d fr H'' ⟨q,rfl,hqq,f0,f1,rfl⟩
           have hm:=hstep q hqq
           have hwq:IntKind.i64.wrap ((p:Int)+q+1)=((p+(q+1):Nat):Int):=by rw [wrap_i64 (by omega) (by omega)]; omega
           simp only [Int.natCast_add] at f1
           cases hd2:s.drop (p+q) with
           | nil =>
             have h0:p+q=s.length:=by have:=List.drop_eq_nil_iff.1 hd2; omega
             have h0':¬ ((p:Int)+q < s.length):=by omega
             rw [hd2] at hm
             simp [moreB] at hm
             have:q=wc:=by omega
             subst this
             simp [f0,f1,h0']
           | cons c t =>
             obtain ⟨hb2,hlt2⟩:=byteAt_drop hd2
             have hlt2':(p:Int)+q < s.length:=by omega
             rw [hd2] at hm
             simp only [moreB,noNlB] at hm
             simp only [Int.natCast_add] at hb2
             by_cases h10:(c.toNat:Int)=10
             · have:q=wc:=by
                simp [h10] at hm
                omega
               subst this
               simp [f0,f1,hlt2',hb2,h10]
             · have hql:q < wc:=by simpa [h10] using hm
               simp [f0,f1,hlt2',hb2,h10,hwq]
               refine NextM_of H''.length (wc - (q+1)) (Nat.le_refl _) (by simp) (by omega) ⟨q+1,rfl,by omega,?_⟩
               simp [f0,cut_self hcl]
         rintro fr H'' ⟨f0,f1,rfl⟩
         simp
         refine NextM_of H''.length (s.length - (p+wc)) (Nat.le_refl _) (by simp) (by omega) ⟨p+wc,rfl,by omega,by omega,?_⟩
         simp [f0,f1,cut_self hcl]
       · have hhb:hashB b=false:=by simp [hashB,h35]
         have h0:leadS false (s.drop p)=0:=by rw [hd,leadS,hB,hhb]; rfl
         simp [h35,f1]
         omega
 · rintro fr H' ⟨f4,rfl⟩
   simp
   simp [RetK,cut_self hcl,f4]
 · rintro fr H' ⟨f1,rfl⟩
   simp [f1]
   simp [RetK,cut_self hcl]
end
end
theorem letter_ne {b:UInt8} (h:letterB b=true):blankB b=false∧hashB b=false∧digitB b=false∧b.toNat < 128:=by
 simp only [letterB,Bool.or_eq_true,Bool.and_eq_true,decide_eq_true_eq] at h
 refine ⟨?_,?_,?_,?_⟩
 · simp only [blankB,Bool.or_eq_false_iff,decide_eq_false_iff_not]; omega
 · simp only [hashB,decide_eq_false_iff_not]; omega
 · simp only [digitB,Bool.and_eq_false_iff,decide_eq_false_iff_not]; omega
 · omega
theorem digit_ne {b:UInt8} (h:digitB b=true):blankB b=false∧hashB b=false∧letterB b=false∧b.toNat < 128:=by
 simp only [digitB,Bool.and_eq_true,decide_eq_true_eq] at h
 refine ⟨?_,?_,?_,?_⟩
 · simp only [blankB,Bool.or_eq_false_iff,decide_eq_false_iff_not]; omega
 · simp only [hashB,decide_eq_false_iff_not]; omega
 · simp only [letterB,Bool.or_eq_false_iff,Bool.and_eq_false_iff,decide_eq_false_iff_not]; omega
 · omega
theorem word_ascii {b:UInt8} (h:wordB b=true):b.toNat < 128:=by
 simp only [wordB,Bool.or_eq_true] at h
 rcases h with h | h
 · exact (letter_ne h).2.2.2
 · exact (digit_ne h).2.2.2
def Sep (rest r':Bs):Prop:=r'=[]∨∃ b t,r'=b :: t∧((∃ u,rest=b :: u)∨(wordB b=false∧b ≠ 61))
theorem runN_split (p:UInt8→Bool) (s r':Bs) (h:r'=[]∨∃ b t,r'=b :: t∧p b=false):runN p (s.take (runN p s)++r')=runN p s:=by
 have hr:∀ r':Bs,(r'=[]∨∃ b t,r'=b :: t∧p b=false)→runN p r'=0:=by
  rintro r' (rfl | ⟨b,t,rfl,hb⟩)
  · rfl
  · simp [runN,hb]
 induction s with
 | nil=>exact hr r' h
 | cons b s ih =>
   cases hb:p b with
   | false =>
     have e:runN p (b :: s)=0:=by simp [runN,hb]
     rw [e]
     simpa using hr r' h
   | true =>
     have e:runN p (b :: s)=runN p s+1:=by simp [runN,hb]
     rw [e,List.take_succ_cons,List.cons_append]
     have e2:runN p (b :: (s.take (runN p s)++r'))=runN p (s.take (runN p s)++r')+1:=by simp [runN,hb]
     rw [e2,ih]
theorem runN_rest (p:UInt8→Bool):∀ (s:Bs),s.drop (runN p s)=[]∨∃ b t,s.drop (runN p s)=b :: t∧p b=false
 | [] => .inl (by simp [runN])
 | b :: s => by
   cases hb:p b with
   | false=>exact .inr ⟨b,s,by simp [runN,hb],hb⟩
   | true =>
     have e:runN p (b :: s)=runN p s+1:=by simp [runN,hb]
     rw [e,List.drop_succ_cons]
     exact runN_rest p s
theorem strS_app:∀ {s:Bs} {k:Nat},strS s=some k→∀ r',strS (s.take k++r')=some k
 | [],k,h,r'=>by simp [strS] at h
 | [b], k, h, r' => by
   simp only [strS] at h
   split at h
   · rename_i hb
     cases h
     subst hb
     cases r'<;>simp [strS]
   · cases h
 | b :: c :: r, k, h, r' => by
   simp only [strS] at h
   split at h
   · rename_i hb
     cases h
     subst hb
     cases r'<;>simp [strS]
   rename_i hb
   split at h
   · rename_i h92
     cases e:strS r with
     | none=>simp [e] at h
     | some q =>
       have i:=strS_app e r'
       simp [e] at h
       subst h
       have:(b :: c :: r).take (q+2)++r'=b :: c :: (r.take q++r'):=rfl
       rw [this,strS,if_neg hb,if_pos h92,i]; rfl
   rename_i h92
   split at h
   · cases h
   · rename_i h10
     cases e:strS (c :: r) with
     | none=>simp [e] at h
     | some q =>
       have i:=strS_app e r'
       have hq:=strS_le e
       simp [e] at h
       subst h
       obtain ⟨q',rfl⟩:∃ q',q=q'+1:=⟨q - 1,by omega⟩
       have e2:(b :: c :: r).take (q'+1+1)++r'=b :: c :: (r.take q'++r'):=rfl
       have e3:(c :: r).take (q'+1)++r'=c :: (r.take q'++r'):=rfl
       rw [e3] at i
       rw [e2,strS,if_neg hb,if_neg h92,if_neg h10,i]; rfl
theorem strV_app {s:Bs} (hs:s ≠ []) (h:(strV s).2=0) (r':Bs):strV (s.take (strV s).1.length++r')=strV s:=by
 cases s with
 | nil=>exact absurd rfl hs
 | cons b s =>
 unfold strV at h ⊢
 simp only [List.drop_succ_cons,List.drop_zero] at h ⊢
 cases e:strS s with
 | none=>rw [e] at h; simp at h
 | some k =>
   have hk:=strS_le e
   rw [e] at h
   simp only at h ⊢
   have hlen:((b :: s).take (k+1)).length=k+1:=by simp; omega
   rw [hlen,List.take_succ_cons,List.cons_append,List.drop_succ_cons,List.drop_zero,strS_app e r']
   simp only
   have e2:(b :: (s.take k++r')).take (k+1)=b :: s.take k:=by
    rw [List.take_succ_cons,List.take_append_of_le_length (by simp; omega),List.take_take,Nat.min_self]
   rw [e2]
theorem signV_two:∀ (s:Bs),signV s=match s with
 | []=>[]
 | [b]=>if b ∈ ([40,41,123,125,44,59,58,46,61,43,45,42,60]:List UInt8) then [b] else []
 | b :: c :: _=>if b=61∧c=61 then [61,61] else if b ∈ ([40,41,123,125,44,59,58,46,61,43,45,42,60]:List UInt8) then [b] else []:=by
 intro s
 match s with
 | []=>rfl
 | [b] =>
   simp only [signV,signsT,List.find?,List.isPrefixOf]
   by_cases h:b ∈ ([40,41,123,125,44,59,58,46,61,43,45,42,60]:List UInt8)
   · simp only [List.mem_cons,List.not_mem_nil,or_false] at h
     rcases h with rfl | rfl | rfl | rfl | rfl | rfl | rfl | rfl | rfl | rfl | rfl | rfl | rfl<;>rfl
   · simp only [List.mem_cons,List.not_mem_nil,or_false,not_or] at h
     obtain ⟨h1,h2,h3,h4,h5,h6,h7,h8,h9,h10,h11,h12,h13⟩:=h
     have g:∀ x:UInt8,b ≠ x→(x == b)=false:=fun x h=>by simpa using Ne.symm h
     simp [g _ h1,g _ h2,g _ h3,g _ h4,g _ h5,g _ h6,g _ h7,g _ h8,g _ h9,g _ h10,g _ h11,g _ h12,g _ h13,h1,h2,h3,h4,h5,h6,h7,h8,h9,h10,h11,h12,h13]
 | b :: c :: r =>
   simp only [signV,signsT,List.find?,List.isPrefixOf]
   by_cases h:b ∈ ([40,41,123,125,44,59,58,46,61,43,45,42,60]:List UInt8)
   · by_cases hc:c=61
     · subst hc
       simp only [List.mem_cons,List.not_mem_nil,or_false] at h
       rcases h with rfl | rfl | rfl | rfl | rfl | rfl | rfl | rfl | rfl | rfl | rfl | rfl | rfl<;>rfl
     · have gc:((61:UInt8) == c)=false:=by simpa using Ne.symm hc
       simp only [List.mem_cons,List.not_mem_nil,or_false] at h
       rcases h with rfl | rfl | rfl | rfl | rfl | rfl | rfl | rfl | rfl | rfl | rfl | rfl | rfl<;>simp [gc,hc]
   · simp only [List.mem_cons,List.not_mem_nil,or_false,not_or] at h
     obtain ⟨h1,h2,h3,h4,h5,h6,h7,h8,h9,h10,h11,h12,h13⟩:=h
     have g:∀ x:UInt8,b ≠ x→(x == b)=false:=fun x h=>by simpa using Ne.symm h
     simp [g _ h1,g _ h2,g _ h3,g _ h4,g _ h5,g _ h6,g _ h7,g _ h8,g _ h9,g _ h10,g _ h11,g _ h12,g _ h13,h1,h2,h3,h4,h5,h6,h7,h8,h9,h10,h11,h12,h13]
theorem signV_1 (b:UInt8):signV [b]=if b ∈ ([40,41,123,125,44,59,58,46,61,43,45,42,60]:List UInt8) then [b] else []:=signV_two [b]
theorem signV_cc (b c:UInt8) (r:Bs):signV (b :: c :: r)=if b=61∧c=61 then [61,61] else if b ∈ ([40,41,123,125,44,59,58,46,61,43,45,42,60]:List UInt8) then [b] else []:=signV_two (b :: c :: r)
theorem signV_app {s:Bs} (h:signV s ≠ []) {r':Bs} (hr:Sep (s.drop (signV s).length) r'):signV (s.take (signV s).length++r')=signV s:=by
 match s with
 | []=>exact absurd rfl h
 | [b] =>
   rw [signV_1] at h hr ⊢
   by_cases hb:b ∈ ([40,41,123,125,44,59,58,46,61,43,45,42,60]:List UInt8)
   · rw [if_pos hb] at hr ⊢
     simp only [List.length_cons,List.length_nil,List.take_succ_cons,List.take_zero,List.cons_append,List.nil_append,List.drop_succ_cons,List.drop_zero,Nat.zero_add] at hr ⊢
     rcases hr with rfl | ⟨d,t,rfl,⟨u,hu⟩ | ⟨h1,h2⟩⟩
     · rw [signV_1,if_pos hb]
     · cases hu
     · rw [signV_cc,if_neg (fun q=>h2 q.2),if_pos hb]
   · rw [if_neg hb] at h; exact absurd rfl h
 | b :: c :: r =>
   rw [signV_cc] at h hr ⊢
   by_cases h2:b=61∧c=61
   · obtain ⟨rfl,rfl⟩:=h2
     rw [if_pos ⟨rfl,rfl⟩]
     show signV (61 :: 61 :: ([]++r'))=_
     rw [signV_cc]; rfl
   · rw [if_neg h2] at h hr ⊢
     by_cases hb:b ∈ ([40,41,123,125,44,59,58,46,61,43,45,42,60]:List UInt8)
     · rw [if_pos hb] at hr ⊢
       simp only [List.length_cons,List.length_nil,List.take_succ_cons,List.take_zero,List.cons_append,List.nil_append,List.drop_succ_cons,List.drop_zero,Nat.zero_add] at hr ⊢
       rcases hr with rfl | ⟨d,t,rfl,⟨u,hu⟩ | ⟨h3,h4⟩⟩
       · rw [signV_1,if_pos hb]
       · cases hu
         rw [signV_cc,if_neg h2,if_pos hb]
       · rw [signV_cc,if_neg (fun q=>h4 q.2),if_pos hb]
     · rw [if_neg hb] at h; exact absurd rfl h
theorem tokN_cons (b:UInt8) (r:Bs):tokN (b :: r)=if letterB b then
 if (b :: r).take (runN wordB (b :: r)) ∈ keysL then (0,2,runN wordB (b :: r)) else if 40 < runN wordB (b :: r) then (26,0,0) else (0,1,runN wordB (b :: r))
 else if digitB b then
  if numOk ((b :: r).take (runN wordB (b :: r))) then (0,3,runN wordB (b :: r)) else (23,0,0)
 else if b=34 then
  if (strV (b :: r)).2=0 then (0,4,(strV (b :: r)).1.length) else (22,0,0)
 else if signV (b :: r)=[] then (21,0,0) else (0,5,(signV (b :: r)).length):=rfl
theorem take_app_take (s r':Bs) (m:Nat) (h:m≤s.length):(s.take m++r').take m=s.take m:=by
 rw [List.take_append_of_le_length (by simp; omega),List.take_take,Nat.min_self]
theorem tok_loc {s:Bs} (hs:s ≠ []) (h0:(tokN s).1=0) {r':Bs} (hr:Sep (s.drop (tokN s).2.2) r'):tokN (s.take (tokN s).2.2++r')=tokN s:=by
 cases s with
 | nil=>exact absurd rfl hs
 | cons b r =>
 have hm:=(tokN_len (b :: r)).2.2.1 h0 hs
 have hml:=(tokN_len (b :: r)).1
 have hS:∀ m,1≤m→∃ t,(b :: r).take m++r'=b :: t:=fun m hm=>by
  obtain ⟨m',rfl⟩:∃ m',m=m'+1:=⟨m - 1,by omega⟩
  exact ⟨r.take m'++r',rfl⟩
 have hword:runN wordB (b :: r)=(tokN (b :: r)).2.2→runN wordB ((b :: r).take (tokN (b :: r)).2.2++r')=(tokN (b :: r)).2.2:=fun e=>by
  rw [← e] at hr ⊢
  refine runN_split wordB (b :: r) r' ?_
  rcases hr with rfl | ⟨d,t,rfl,⟨u,hu⟩ | ⟨h1,h2⟩⟩
  · exact .inl rfl
  · rcases runN_rest wordB (b :: r) with h | ⟨d',t',h,hd⟩
    · rw [h] at hu; cases hu
    · rw [h] at hu; cases hu
      exact .inr ⟨_,t,rfl,hd⟩
  · exact .inr ⟨d,t,rfl,h1⟩
 have hT:=tokN_cons b r
 obtain ⟨t,ht⟩:=hS _ hm
 have hT':=tokN_cons b t
 rw [← ht] at hT'
 have htk:=take_app_take (b :: r) r' _ hml
 by_cases c1:letterB b=true
 · rw [if_pos c1] at hT hT'
   have e:runN wordB (b :: r)=(tokN (b :: r)).2.2:=by
    rw [hT] at h0 ⊢
    split at h0
    · rename_i h; rw [if_pos h]
    · rename_i h; rw [if_neg h]; split at h0
      · cases h0
      · rename_i h'; rw [if_neg h']
   have hw:=hword e
   rw [hT',hw,htk]
   rw [e] at hT
   exact hT.symm
 rw [if_neg c1] at hT hT'
 by_cases c2:digitB b=true
 · rw [if_pos c2] at hT hT'
   have e:runN wordB (b :: r)=(tokN (b :: r)).2.2:=by
    rw [hT] at h0 ⊢
    split at h0
    · rename_i h; rw [if_pos h]
    · cases h0
   have hw:=hword e
   rw [hT',hw,htk]
   rw [e] at hT
   exact hT.symm
 rw [if_neg c2] at hT hT'
 by_cases c3:b=34
 · rw [if_pos c3] at hT hT'
   by_cases c4:(strV (b :: r)).2=0
   · rw [if_pos c4] at hT
     have e:(tokN (b :: r)).2.2=(strV (b :: r)).1.length:=by rw [hT]
     have:=strV_app (by simp) c4 r'
     rw [← e] at this
     rw [hT',this,if_pos c4,hT]
   · rw [if_neg c4] at hT
     rw [hT] at h0; cases h0
 rw [if_neg c3] at hT hT'
 by_cases c4:signV (b :: r)=[]
 · rw [if_pos c4] at hT
   rw [hT] at h0; cases h0
 · rw [if_neg c4] at hT
   have e:(tokN (b :: r)).2.2=(signV (b :: r)).length:=by rw [hT]
   have:=signV_app c4 (r':=r') (by rw [← e]; exact hr)
   rw [← e] at this
   rw [hT',this,if_neg c4,hT]
theorem lead_app:∀ (c:Bool) (s:Bs) {b:UInt8} {u:Bs},s.drop (leadS c s)=b :: u→blankB b=false∧hashB b=false∧∀ r':Bs,moreB blankB r'=false→moreB hashB r'=false→leadS c (s.take (leadS c s)++r')=leadS c s
 | c,[],b,u,h=>by cases c<;>simp at h
 | false, x :: s, b, u, h => by
   rw [leadS] at h ⊢
   by_cases h1:blankB x=true
   · rw [if_pos h1] at h ⊢
     rw [List.drop_succ_cons] at h
     obtain ⟨i1,i2,i3⟩:=lead_app false s h
     refine ⟨i1,i2,fun r' q1 q2 => ?_⟩
     rw [List.take_succ_cons,List.cons_append,leadS,if_pos h1,i3 r' q1 q2]
   rw [if_neg h1] at h ⊢
   by_cases h2:hashB x=true
   · rw [if_pos h2] at h ⊢
     rw [List.drop_succ_cons] at h
     obtain ⟨i1,i2,i3⟩:=lead_app true s h
     refine ⟨i1,i2,fun r' q1 q2 => ?_⟩
     rw [List.take_succ_cons,List.cons_append,leadS,if_neg h1,if_pos h2,i3 r' q1 q2]
   rw [if_neg h2] at h ⊢
   cases h
   exact ⟨by simpa using h1,by simpa using h2,fun r' q1 q2=>lead_none q1 q2⟩
 | true, x :: s, b, u, h => by
   rw [leadS] at h ⊢
   by_cases h1:noNlB x=true
   · rw [if_pos h1] at h ⊢
     rw [List.drop_succ_cons] at h
     obtain ⟨i1,i2,i3⟩:=lead_app true s h
     refine ⟨i1,i2,fun r' q1 q2 => ?_⟩
     rw [List.take_succ_cons,List.cons_append,leadS,if_pos h1,i3 r' q1 q2]
   · rw [if_neg h1] at h ⊢
     rw [List.drop_succ_cons] at h
     obtain ⟨i1,i2,i3⟩:=lead_app false s h
     refine ⟨i1,i2,fun r' q1 q2 => ?_⟩
     rw [List.take_succ_cons,List.cons_append,leadS,if_neg h1,i3 r' q1 q2]
def kx (t:Tk):Int × Bs:=(t.k,t.x)
theorem strS_last:∀ {s:Bs} {k:Nat},strS s=some k→s[k - 1]?=some 34
 | [],k,h=>by simp [strS] at h
 | [b], k, h => by
   simp only [strS] at h
   split at h
   · rename_i hb; cases h; subst hb; rfl
   · cases h
 | b :: c :: r, k, h => by
   simp only [strS] at h
   split at h
   · rename_i hb; cases h; subst hb; rfl
   split at h
   · cases e:strS r with
     | none=>simp [e] at h
     | some q =>
       have i:=strS_last e
       have hq:=strS_le e
       simp [e] at h
       subst h
       obtain ⟨q',rfl⟩:∃ q',q=q'+1:=⟨q - 1,by omega⟩
       simpa using i
   split at h
   · cases h
   · cases e:strS (c :: r) with
     | none=>simp [e] at h
     | some q =>
       have i:=strS_last e
       have hq:=strS_le e
       simp [e] at h
       subst h
       obtain ⟨q',rfl⟩:∃ q',q=q'+1:=⟨q - 1,by omega⟩
       simpa using i
theorem takeWhile_all (p:UInt8→Bool) (s:Bs):∀ c ∈ s.take (runN p s),p c=true:=by
 induction s with
 | nil=>simp
 | cons b s ih =>
   cases hb:p b with
   | false=>simp [runN,hb]
   | true =>
     have e:runN p (b :: s)=runN p s+1:=by simp [runN,hb]
     rw [e,List.take_succ_cons]
     intro c hc
     rcases List.mem_cons.1 hc with rfl | hc
     · exact hb
     · exact ih c hc
theorem tok_last {s:Bs} (hs:s ≠ []) (h0:(tokN s).1=0) {b:UInt8} (hb:(s.take (tokN s).2.2).getLast?=some b):b.toNat < 128:=by
 cases s with
 | nil=>exact absurd rfl hs
 | cons x r =>
 have hT:=tokN_cons x r
 have hmem:=List.mem_of_getLast? hb
 by_cases c1:letterB x=true
 · rw [if_pos c1] at hT
   have e:runN wordB (x :: r)=(tokN (x :: r)).2.2:=by
    rw [hT] at h0 ⊢
    split at h0
    · rename_i h; rw [if_pos h]
    · rename_i h; rw [if_neg h]; split at h0
      · cases h0
      · rename_i h'; rw [if_neg h']
   rw [← e] at hmem
   exact word_ascii (takeWhile_all wordB _ b hmem)
 rw [if_neg c1] at hT
 by_cases c2:digitB x=true
 · rw [if_pos c2] at hT
   have e:runN wordB (x :: r)=(tokN (x :: r)).2.2:=by
    rw [hT] at h0 ⊢
    split at h0
    · rename_i h; rw [if_pos h]
    · cases h0
   rw [← e] at hmem
   exact word_ascii (takeWhile_all wordB _ b hmem)
 rw [if_neg c2] at hT
 by_cases c3:x=34
 · rw [if_pos c3] at hT
   by_cases c4:(strV (x :: r)).2=0
   · rw [if_pos c4] at hT
     have e:(tokN (x :: r)).2.2=(strV (x :: r)).1.length:=by rw [hT]
     rw [e,strV_take _ c4] at hb
     unfold strV at hb c4
     simp only [List.drop_succ_cons,List.drop_zero] at hb c4
     cases hk:strS r with
     | none=>rw [hk] at hb; simp at hb
     | some k =>
       rw [hk] at hb
       have hl:=strS_last hk
       have hle:=strS_le hk
       simp only at hb
       rw [List.getLast?_eq_getElem?,List.length_take,List.getElem?_take] at hb
       have e1:min (k+1) (x :: r).length - 1=k:=by simp; omega
       rw [e1,if_pos (by omega)] at hb
       obtain ⟨k',rfl⟩:∃ k',k=k'+1:=⟨k - 1,by omega⟩
       simp at hb hl
       rw [hl] at hb
       cases hb
       decide
   · rw [if_neg c4] at hT
     rw [hT] at h0; cases h0
 rw [if_neg c3] at hT
 by_cases c4:signV (x :: r)=[]
 · rw [if_pos c4] at hT
   rw [hT] at h0; cases h0
 · rw [if_neg c4] at hT
   have e:(tokN (x :: r)).2.2=(signV (x :: r)).length:=by rw [hT]
   rw [e,signV_take] at hmem
   have hall:∀ y ∈ signsT,∀ c ∈ y,c.toNat < 128:=by decide
   unfold signV at hmem
   cases hf:signsT.find? (fun y=>y.isPrefixOf (x :: r)) with
   | none=>rw [hf] at hmem; simp at hmem
   | some y =>
     rw [hf] at hmem
     exact hall y (List.mem_of_find?_eq_some hf) b hmem
section
def One4Q (S:Bs) (n:Nat) (H:Hp):A→Hp→Prop:=fun r H'=>∃ k m:Int,r = .tup [.d (.int .i64 k),.d (.int .i64 m),.d (.int .i64 (tokN S).1)]∧H'=H∧((tokN S).1=0→k=(tokN S).2.1∧m=((n+(tokN S).2.2:Nat):Int))
def numM (acc:Nat) (l:Bs):Bool:=match Lib.parseUintM 9223372036854775807 acc l with
 | .ok _=>true
 | _=>false
theorem numM_nil (acc:Nat):numM acc []=true:=rfl
theorem numM_cons (acc:Nat) (c:UInt8) (r:Bs):numM acc (c :: r)=if digitB c=true∧acc≤(9223372036854775807 - (c.toNat - 48)) / 10 then numM (acc * 10+(c.toNat - 48)) r else false:=by
 unfold numM
 rw [Lib.parseUintM]
 by_cases hd:48≤c.toNat∧c.toNat≤57
 · have hD:digitB c=true:=by simp [digitB]; omega
   rw [if_pos hd]
   by_cases h1:acc≤(9223372036854775807 - (c.toNat - 48)) / 10
   · rw [if_neg (by omega),if_neg (by omega),if_pos ⟨hD,h1⟩]
   · have hR:¬ (digitB c=true∧acc≤(9223372036854775807 - (c.toNat - 48)) / 10):=fun q=>h1 q.2
     rw [if_neg hR]
     by_cases h2:1844674407370955162≤acc
     · rw [if_pos h2]
     · rw [if_neg h2,if_pos (by omega)]
 · have hD:¬ digitB c=true:=by simp [digitB]; omega
   rw [if_neg hd,if_neg (fun q=>hD q.1)]
theorem numOk_ne {s:Bs} (h:s ≠ []):numOk s=numM 0 s:=by
 unfold numOk numM Lib.parseUintB
 rw [if_neg h]
 have e:(2 ^ 63 - 1:Nat)=9223372036854775807:=by decide
 rw [e]
 cases Lib.parseUintM 9223372036854775807 0 s<;>rfl
def headLB:Bs→Bool
 | []=>false
 | b :: _=>letterB b
theorem keys_letter:∀ k ∈ keysL,headLB k=true:=List.all_eq_true.1 (by decide)
theorem strS_cons (b:UInt8) (t:Bs):strS (b :: t)=if b=34 then some 1 else if b=92 then (strS (t.drop 1)).map (·+2) else if b=10 then none else (strS t).map (·+1):=by
 cases t with
 | nil =>
   simp only [strS,List.drop_nil,Option.map_none]
   by_cases h:b=34
   · rw [if_pos h,if_pos h]
   · rw [if_neg h,if_neg h]; simp
 | cons c r=>simp only [strS,List.drop_succ_cons,List.drop_zero]
section
variable {P:Program}
theorem Has.one4 {f fl fd fk fu} (h:Has P f (irR4One fl fd fk fu)) (hl:ByteOk P fl letterB) (hd:ByteOk P fd digitB) (hk:∀ s H,ACall P fk [.d (.str s)] H (fun r H'=>r = .d (.bool (decide (s ∈ keysL)))∧H'=H)) (hu:∀ (s:Bs) H,s.length≤1048576→ACall P fu [.d (.str s)] H (fun r H'=>r=unqR (unqV s)∧H'=H))
 (s:Bs) (n:Nat) (hn:n < s.length) (hsl:s.length≤1048576) (H:Hp):ACall P f [.d (.str s),.d (.int .i64 (n:Int))] H (One4Q (s.drop n) n H):=by
 obtain ⟨fn,hf,hcf⟩:=h
 refine acall_fin hf hcf (by simp [irR4One]) fun hcl _ => ?_
 have hfin:∀ (k m e:Int),e=(tokN (s.drop n)).1→(e=0→k=(tokN (s.drop n)).2.1∧m=((n+(tokN (s.drop n)).2.2:Nat):Int))→One4Q (s.drop n) n H (.tup [.d (.int .i64 k),.d (.int .i64 m),.d (.int .i64 e)]) H:=fun k m e h1 h2=>⟨k,m,by rw [h1],rfl,fun h=>h2 (by rw [h1,h])⟩
 generalize One4Q (s.drop n) n H=Q at hfin ⊢
 have hrl:=runN_le Zam.wordB (s.drop n)
 have hstep:=runN_step Zam.wordB (s.drop n)
 have hSl:(s.drop n).length=s.length - n:=by simp
 have hne:s.drop n ≠ []:=fun e=>by have:=List.drop_eq_nil_iff.1 e; omega
 simp only [drop_add'] at hstep
 have hsub:=fun w (hw:n+w≤s.length)=>sub_ok (s:=s) (n:=n) (w:=w) hw
 have hdrop:∀ j,s.drop (n+1+j)=((s.drop n).drop 1).drop j:=fun j=>by rw [List.drop_drop,List.drop_drop,Nat.add_assoc]
 cases hS:s.drop n with
 | nil=>exact absurd hS hne
 | cons b r =>
 rw [hS] at hfin hrl hstep hSl hsub hdrop
 obtain ⟨hb,-⟩:=byteAt_drop hS
 have hT:=tokN_cons b r
 generalize tokN (b :: r)=T at hT hfin
 have hw1:IntKind.i64.wrap ((n:Int)+1)=n+1:=wrap_i64 (by omega) (by omega)
 generalize hw:runN Zam.wordB (b :: r)=w at hT hrl hstep
 simp only [List.length_cons] at hSl hrl
 have hsw:=hsub w (by omega)
 have hWl:((b :: r).take w).length=w:=by simp only [List.length_take,List.length_cons]; omega
 have hWh:1≤w→∃ t,(b :: r).take w=b :: t:=fun h=>by
  obtain ⟨v,rfl⟩:∃ v,w=v+1:=⟨w - 1,by omega⟩
  exact ⟨_,rfl⟩
 have hwp:Zam.wordB b=true→1≤w:=fun h=>by
  have:=runN_pos (r:=r) h
  omega
 simp [irR4One,hw1,hb]
 refine CallK_of' (hl b _) ?_
 cases hlb:letterB b with
 | true =>
   have hw1':=hwp (by simp [Zam.wordB,hlb])
   rw [hlb,if_pos rfl] at hT
   simp
   refine LoopK_out 0 (fun fr H'=>fr 0 = .d (.str s)∧fr 1 = .d (.int .i64 (n:Int))∧fr 7 = .d (.int .i64 ((n:Int)+w))∧H'=H) ?_ ?_
   · refine LoopM_of H.length (fun d fr H'=>∃ j,d=w - j∧1≤j∧j≤w∧fr 0 = .d (.str s)∧fr 1 = .d (.int .i64 (n:Int))∧fr 7 = .d (.int .i64 ((n:Int)+j))∧H'=H) (w - 1) (by simp) ⟨1,rfl,Nat.le_refl _,hw1',?_⟩ ?_
     · simp [cut_self hcl]
     rintro d fr H' ⟨j,rfl,hj1,hj,f0,f1,f7,rfl⟩
     have hm:=hstep j hj
     have hwj:IntKind.i64.wrap ((n:Int)+j+1)=(n:Int)+((j:Int)+1):=by rw [wrap_i64 (by omega) (by omega)]; omega
     cases hd2:s.drop (n+j) with
     | nil =>
       have h0:n+j=s.length:=by have:=List.drop_eq_nil_iff.1 hd2; omega
       have h0':¬ ((n:Int)+j < s.length):=by omega
       rw [hd2] at hm
       have:j=w:=by simp [moreB] at hm; omega
       subst this
       simp [f0,f1,f7,h0']
     | cons c t =>
       obtain ⟨hb2,hlt2⟩:=byteAt_drop hd2
       have hlt2':(n:Int)+j < s.length:=by omega
       rw [hd2] at hm
       simp only [moreB,Zam.wordB] at hm
       simp only [Int.natCast_add] at hb2
       simp [f0,f1,f7,hlt2',hb2]
       refine CallK_of' (hl c _) ?_
       have nx:j < w→∀ fr':Fr,fr' 0 = .d (.str s)→fr' 1 = .d (.int .i64 (n:Int))→fr' 7 = .d (.int .i64 ((n:Int)+((j:Int)+1)))→True:=fun _ _ _ _ _=>trivial
       cases hlc:letterB c with
       | true =>
         have hql:j < w:=by simpa [hlc] using hm
         simp [f0,f1,f7,hwj]
         refine NextM_of H'.length (w - (j+1)) (Nat.le_refl _) (by simp) (by omega) ⟨j+1,rfl,by omega,by omega,?_⟩
         simp [f0,f1,cut_self hcl]
       | false =>
         simp [f0,f1,f7,hb2]
         refine CallK_of' (hd c _) ?_
         cases hdc:digitB c with
         | true =>
           have hql:j < w:=by simpa [hlc,hdc] using hm
           simp [f0,f1,f7,hwj]
           refine NextM_of H'.length (w - (j+1)) (Nat.le_refl _) (by simp) (by omega) ⟨j+1,rfl,by omega,by omega,?_⟩
           simp [f0,f1,cut_self hcl]
         | false =>
           have:j=w:=by simp [hlc,hdc] at hm; omega
           subst this
           simp [f0,f1,f7]
   rintro fr H' ⟨f0,f1,f7,rfl⟩
   obtain ⟨t,ht⟩:=hWh hw1'
   generalize (b :: r).take w=W at hT hsw hWl ht
   simp [f0,f1,f7,hsw]
   refine CallK_of' (hk W _) ?_
   by_cases hkW:W ∈ keysL
   · rw [if_pos hkW] at hT
     simp [hkW,f7]
     simp [RetK,cut_self hcl]
     exact hfin _ _ _ (by rw [hT]) (fun _=>by rw [hT]; simp)
   rw [if_neg hkW] at hT
   simp [hkW,f0,f1,hb]
   refine CallK_of' (hl b _) ?_
   by_cases h40:40 < w
   · rw [if_pos h40] at hT
     have h40':(40:Int) < w:=by omega
     simp [hlb,hWl,h40']
     simp [RetK,cut_self hcl]
     exact hfin _ _ _ (by rw [hT]) (fun h=>by cases h)
   · rw [if_neg h40] at hT
     have h40':¬ (40:Int) < w:=by omega
     simp [hlb,hWl,h40',f7]
     simp [RetK,cut_self hcl]
     exact hfin _ _ _ (by rw [hT]) (fun _=>by rw [hT]; simp)
 | false =>
   rw [hlb] at hT
   simp only [Bool.false_eq_true,if_false] at hT
   simp [hb]
   refine CallK_of' (hd b _) ?_
   cases hdb:digitB b with
   | true =>
     have hw1':=hwp (by simp [Zam.wordB,hdb])
     rw [hdb,if_pos rfl] at hT
     simp
     refine LoopK_out 0 (fun fr H'=>fr 0 = .d (.str s)∧fr 1 = .d (.int .i64 (n:Int))∧fr 7 = .d (.int .i64 ((n:Int)+w))∧H'=H) ?_ ?_
     · refine LoopM_of H.length (fun d fr H'=>∃ j,d=w - j∧1≤j∧j≤w∧fr 0 = .d (.str s)∧fr 1 = .d (.int .i64 (n:Int))∧fr 7 = .d (.int .i64 ((n:Int)+j))∧H'=H) (w - 1) (by simp) ⟨1,rfl,Nat.le_refl _,hw1',?_⟩ ?_
       · simp [cut_self hcl]
       rintro d fr H' ⟨j,rfl,hj1,hj,f0,f1,f7,rfl⟩
       have hm:=hstep j hj
       have hwj:IntKind.i64.wrap ((n:Int)+j+1)=(n:Int)+((j:Int)+1):=by rw [wrap_i64 (by omega) (by omega)]; omega
       cases hd2:s.drop (n+j) with
       | nil =>
         have h0:n+j=s.length:=by have:=List.drop_eq_nil_iff.1 hd2; omega
         have h0':¬ ((n:Int)+j < s.length):=by omega
         rw [hd2] at hm
         have:j=w:=by simp [moreB] at hm; omega
         subst this
         simp [f0,f1,f7,h0']
       | cons c t =>
         obtain ⟨hb2,hlt2⟩:=byteAt_drop hd2
         have hlt2':(n:Int)+j < s.length:=by omega
         rw [hd2] at hm
         simp only [moreB,Zam.wordB] at hm
         simp only [Int.natCast_add] at hb2
         simp [f0,f1,f7,hlt2',hb2]
         refine CallK_of' (hl c _) ?_
         have nx:j < w→∀ fr':Fr,fr' 0 = .d (.str s)→fr' 1 = .d (.int .i64 (n:Int))→fr' 7 = .d (.int .i64 ((n:Int)+((j:Int)+1)))→True:=fun _ _ _ _ _=>trivial
         cases hlc:letterB c with
         | true =>
           have hql:j < w:=by simpa [hlc] using hm
           simp [f0,f1,f7,hwj]
           refine NextM_of H'.length (w - (j+1)) (Nat.le_refl _) (by simp) (by omega) ⟨j+1,rfl,by omega,by omega,?_⟩
           simp [f0,f1,cut_self hcl]
         | false =>
           simp [f0,f1,f7,hb2]
           refine CallK_of' (hd c _) ?_
           cases hdc:digitB c with
           | true =>
             have hql:j < w:=by simpa [hlc,hdc] using hm
             simp [f0,f1,f7,hwj]
             refine NextM_of H'.length (w - (j+1)) (Nat.le_refl _) (by simp) (by omega) ⟨j+1,rfl,by omega,by omega,?_⟩
             simp [f0,f1,cut_self hcl]
           | false =>
             have:j=w:=by simp [hlc,hdc] at hm; omega
             subst this
             simp [f0,f1,f7]
     rintro fr H' ⟨f0,f1,f7,rfl⟩
     obtain ⟨t,ht⟩:=hWh hw1'
     generalize (b :: r).take w=W at hT hsw hWl ht
     simp [f0,f1,f7,hsw]
     refine CallK_of' (hk W _) ?_
     have hkW:¬ W ∈ keysL:=fun q=>by
      have:=keys_letter W q
      rw [ht,headLB,hlb] at this
      cases this
     rw [numOk_ne (by rw [ht]; simp)] at hT
     simp [hkW,f0,f1,hb]
     refine CallK_of' (hl b _) ?_
     simp [hlb]
     refine LoopK_outR 2 (fun fr H''=>fr 7 = .d (.int .i64 ((n:Int)+w))∧numM 0 W=true∧H''=H') (fun fr H''=>fr 4 = .d (.int .i64 0)∧fr 5 = .d (.int .i64 0)∧fr 6 = .d (.int .i64 23)∧numM 0 W=false∧H''=H') ?_ ?_ ?_
     · refine LoopM_of H'.length (fun d fr H''=>∃ (i acc:Nat),d=w - i∧i≤w∧acc≤9223372036854775807∧numM 0 W=numM acc (W.drop i)∧fr 7 = .d (.int .i64 ((n:Int)+w))∧fr 8 = .d (.str W)∧fr 9 = .d (.int .u64 (acc:Int))∧fr 10 = .d (.int .i64 (i:Int))∧H''=H') w (by simp) ⟨0,0,rfl,by omega,by omega,rfl,?_⟩ ?_
       · simp [f7,cut_self hcl]
       rintro d fr H'' ⟨i,acc,rfl,hi,hacc,hnm,f7,f8,f9,f10,rfl⟩
       rcases Nat.lt_or_ge i w with hlt | hge
       · have hlt':(i:Int) < w:=by omega
         have hdi:W.drop i=W[i]'(by omega) :: W.drop (i+1):=List.drop_eq_getElem_cons (by omega)
         obtain ⟨hbi,-⟩:=byteAt_drop hdi
         generalize W[i]'(by omega)=c at hdi hbi
         rw [hdi,numM_cons] at hnm
         have hwi:IntKind.i64.wrap ((i:Int)+1)=((i+1:Nat):Int):=by rw [wrap_i64 (by omega) (by omega)]; omega
         simp [f8,f10,hWl,hlt',hbi]
         refine CallK_of' (hd c _) ?_
         cases hdc:digitB c with
         | false =>
           rw [hdc] at hnm
           simp only [Bool.false_eq_true,false_and,if_false] at hnm
           simp [hnm]
         | true =>
           rw [hdc] at hnm
           simp only [true_and] at hnm
           have hc:48≤c.toNat∧c.toNat≤57:=by simp [digitB] at hdc; omega
           have e1:IntKind.u8.wrap ((c.toNat:Int) - 48)=((c.toNat - 48:Nat):Int):=by
            simp [IntKind.wrap,IntKind.bits,IntKind.signed]; omega
           have e2:∀ x:Nat,x≤9223372036854775807→IntKind.u64.wrap (x:Int)=x:=fun x hx=>by
            simp [IntKind.wrap,IntKind.bits,IntKind.signed]; omega
           generalize hdd:c.toNat - 48=dd at e1 hnm
           obtain ⟨m,hm⟩:∃ m,m=9223372036854775807 - dd:=⟨_,rfl⟩
           obtain ⟨q,hq⟩:∃ q,q=m / 10:=⟨_,rfl⟩
           rw [← hm,← hq] at hnm
           have hddl:dd≤9:=by omega
           have e3:IntKind.u64.wrap (9223372036854775807 - (dd:Int))=(m:Int):=by
            rw [← e2 m (by omega)]; congr 1; omega
           have e4:IntKind.u64.wrap (Int.tdiv (m:Int) 10)=(q:Int):=by
            have:=e2 q (by omega)
            rw [hq] at this ⊢
            exact this
           have e4':IntKind.u64.wrap ((m:Int) / 10)=(q:Int):=by
            have:=e2 q (by omega)
            rw [hq] at this ⊢
            exact this
           simp [f7,f8,f9,f10,hbi,e1,e2 dd (by omega),e3,e4,e4']
           refine BrK_split (fun hbr => ?_) (fun hbr => ?_)
           · have hq':q < acc:=by simpa using hbr
             rw [if_neg (by omega)] at hnm
             simp [hnm]
           · have hq':¬ (q < acc):=by simpa using hbr
             rw [if_pos (by omega)] at hnm
             obtain ⟨a10,ha⟩:∃ a10,a10=acc * 10:=⟨_,rfl⟩
             rw [← ha] at hnm
             have e5:IntKind.u64.wrap ((acc:Int) * 10)=(a10:Int):=by rw [← e2 a10 (by omega)]; congr 1; omega
             have e6:IntKind.u64.wrap ((a10:Int)+dd)=((a10+dd:Nat):Int):=by rw [← e2 (a10+dd) (by omega)]; congr 1
             simp only [Int.natCast_add] at e6
             simp [f7,f8,f9,f10,e5,e6,hwi]
             refine NextM_of H''.length (w - (i+1)) (Nat.le_refl _) (by simp) (by omega) ⟨i+1,a10+dd,rfl,by omega,by omega,hnm,?_⟩
             simp [f7,f8,cut_self hcl]
       · have:i=w:=by omega
         subst this
         have h0':¬ ((i:Int) < i):=by omega
         rw [List.drop_eq_nil_of_le (by omega),numM_nil] at hnm
         simp [f7,f8,f10,hWl,hnm]
     · rintro fr H'' ⟨f4,f5,f6,hnm,rfl⟩
       rw [hnm] at hT
       simp only [Bool.false_eq_true,if_false] at hT
       simp
       simp [RetK,cut_self hcl,f4,f5,f6]
       exact hfin _ _ _ (by rw [hT]) (fun h=>by cases h)
     · rintro fr H'' ⟨f7,hnm,rfl⟩
       rw [hnm,if_pos rfl] at hT
       simp [f7]
       simp [RetK,cut_self hcl]
       exact hfin _ _ _ (by rw [hT]) (fun _=>by rw [hT]; simp)
   | false =>
     rw [hdb] at hT
     simp only [Bool.false_eq_true,if_false] at hT
     by_cases h34:b=34
     · subst h34
       rw [if_pos rfl] at hT
       have hSV:strV (34 :: r)=match strS r with
        | none=>([],22)
        | some k=>((34 :: r).take (k+1),if (unqV ((34 :: r).take (k+1))).isSome then 0 else 22):=rfl
       simp [hb]
       refine LoopK_out 4 (fun fr H'=>fr 0 = .d (.str s)∧fr 1 = .d (.int .i64 (n:Int))∧H'=H∧∃ j:Nat,fr 7 = .d (.int .i64 ((n:Int)+1+j))∧j≤s.length∧((strS r=none∧s.length≤n+1+j)∨(strS r=none∧n+1+j < s.length∧byteAt s ((n:Int)+1+j)=some 10)∨(strS r=some (j+1)∧n+1+j < s.length∧byteAt s ((n:Int)+1+j)=some 34))) ?_ ?_
       · refine LoopM_of H.length (fun d fr H'=>∃ j,d=s.length+1 - (n+1+j)∧n+1+j≤s.length+1∧strS r=(strS (r.drop j)).map (·+j)∧fr 0 = .d (.str s)∧fr 1 = .d (.int .i64 (n:Int))∧fr 7 = .d (.int .i64 ((n:Int)+1+j))∧H'=H) (s.length+1 - (n+1+0)) (by simp) ⟨0,rfl,by omega,by simp,?_⟩ ?_
         · simp [cut_self hcl]
         rintro d fr H' ⟨j,rfl,hj,hq,f0,f1,f7,rfl⟩
         have hdj:=hdrop j
         simp only [List.drop_succ_cons,List.drop_zero] at hdj
         cases hd2:s.drop (n+1+j) with
         | nil =>
           have h0:=List.drop_eq_nil_iff.1 hd2
           have h0':¬ ((n:Int)+1+j < s.length):=by omega
           rw [← hdj,hd2] at hq
           have hq:strS r=none:=by rw [hq]; rfl
           simp [f0,f1,f7,h0',hq]
           exact ⟨j,rfl,by omega,by omega⟩
         | cons c t =>
           obtain ⟨hb2,hlt2⟩:=byteAt_drop hd2
           have hlt2':(n:Int)+1+j < s.length:=by omega
           simp only [Int.natCast_add,Int.natCast_one] at hb2
           rw [hd2] at hdj
           have hj1:r.drop (j+1)=t:=by rw [← List.drop_drop,← hdj]; rfl
           have hj2:r.drop (j+2)=t.drop 1:=by rw [← hj1,List.drop_drop]
           rw [← hdj,strS_cons] at hq
           have hwA:IntKind.i64.wrap ((n:Int)+1+j+1)=(n:Int)+1+((j:Int)+1):=by rw [wrap_i64 (by omega) (by omega)]; omega
           have hwB:IntKind.i64.wrap ((n:Int)+1+((j:Int)+1)+1)=(n:Int)+1+((j:Int)+2):=by rw [wrap_i64 (by omega) (by omega)]; omega
           by_cases c34:c=34
           · subst c34
             rw [if_pos rfl] at hq
             have hq:strS r=some (j+1):=by rw [hq]; simp; omega
             simp [f0,f1,f7,hlt2',hb2,hq]
             exact ⟨j,rfl,by omega,by omega,by omega,hb2⟩
           have n34:¬ ((c.toNat:Int)=34):=fun e=>c34 ((byte_eq c 34).1 e)
           rw [if_neg c34] at hq
           by_cases c10:c=10
           · subst c10
             have hq:strS r=none:=by rw [hq]; simp
             simp [f0,f1,f7,hlt2',hb2,hq]
             exact ⟨j,rfl,by omega,.inr ⟨by omega,hb2⟩⟩
           have n10:¬ ((c.toNat:Int)=10):=fun e=>c10 ((byte_eq c 10).1 e)
           by_cases c92:c=92
           · subst c92
             rw [if_pos rfl] at hq
             simp [f0,f1,f7,hlt2',hb2,hwA,hwB]
             refine NextM_of H'.length (s.length+1 - (n+1+(j+2))) (Nat.le_refl _) (by simp) (by omega) ⟨j+2,rfl,by omega,?_,?_⟩
             · rw [hq,hj2]; cases strS (t.drop 1)<;>simp; omega
             · simp [f0,f1,cut_self hcl]
           have n92:¬ ((c.toNat:Int)=92):=fun e=>c92 ((byte_eq c 92).1 e)
           rw [if_neg c92,if_neg c10] at hq
           simp [f0,f1,f7,hlt2',hb2,hwA,n34,n10,n92]
           refine NextM_of H'.length (s.length+1 - (n+1+(j+1))) (Nat.le_refl _) (by simp) (by omega) ⟨j+1,rfl,by omega,?_,?_⟩
           · rw [hq,hj1]; cases strS t<;>simp; omega
           · simp [f0,f1,cut_self hcl]
       rintro fr H' ⟨f0,f1,rfl,j,f7,hjl,hor⟩
       rcases hor with ⟨hq,hge⟩ | ⟨hq,hlt,hbj⟩ | ⟨hq,hlt,hbj⟩
       · rw [hq] at hSV
         rw [hSV] at hT
         have hge':(s.length:Int)≤(n:Int)+1+j:=by omega
         simp [f0,f1,f7,hge']
         simp [RetK,cut_self hcl]
         exact hfin _ _ _ (by rw [hT]; rfl) (fun h=>by cases h)
       · rw [hq] at hSV
         rw [hSV] at hT
         have hge':¬ (s.length:Int)≤(n:Int)+1+j:=by omega
         simp [f0,f1,f7,hge',hbj]
         simp [RetK,cut_self hcl]
         exact hfin _ _ _ (by rw [hT]; rfl) (fun h=>by cases h)
       · rw [hq] at hSV
         rw [hSV] at hT
         have hge':¬ (s.length:Int)≤(n:Int)+1+j:=by omega
         have hwA:IntKind.i64.wrap ((n:Int)+1+j+1)=(n:Int)+((j+2:Nat):Int):=by rw [wrap_i64 (by omega) (by omega)]; omega
         have hsj:=hsub (j+2) (by omega)
         have hul:((34 :: r:Bs).take (j+2)).length=j+2:=by simp only [List.length_take,List.length_cons]; omega
         simp only at hT
         generalize (34 :: r:Bs).take (j+1+1)=U at hT hsj hul
         have hrange:IntKind.i64.wrap ((n:Int)+1+j+1)=(n:Int)+((j+2:Nat):Int):=hwA
         generalize hJ:(n:Int)+((j+2:Nat):Int)=J at hwA hsj
         simp [f0,f1,f7,hge',hbj,hwA,hsj]
         refine CallK_of' (hu U _ (by omega)) ?_
         cases hv:unqV U with
         | none =>
           rw [hv] at hT
           simp [unqR]
           simp [RetK,cut_self hcl]
           exact hfin _ _ _ (by rw [hT]; rfl) (fun h=>by cases h)
         | some x =>
           rw [hv] at hT
           simp [unqR,f7,hwA]
           simp [RetK,cut_self hcl]
           exact hfin _ _ _ (by rw [hT]; rfl) (fun _=>by rw [hT]; simp; omega)
     have n34:¬ ((b.toNat:Int)=34):=fun e=>h34 ((byte_eq b 34).1 e)
     rw [if_neg h34] at hT
     obtain ⟨L,hL⟩:∃ L:Bs,L=[40,41,123,125,44,59,58,46,61,43,45,42,60]:=⟨_,rfl⟩
     have hLl:L.length=13:=by rw [hL]; rfl
     by_cases htwo:b=61∧∃ r',r=61 :: r'
     · obtain ⟨rfl,r',rfl⟩:=htwo
       have hb1:byteAt s ((n:Int)+1)=some 61:=by
        have:s.drop (n+1)=61 :: r':=by rw [← List.drop_drop,hS]; rfl
        simpa using (byteAt_drop this).1
       have hlt:(n:Int)+1 < s.length:=by simp only [List.length_cons] at hSl; omega
       have hG:signV (61 :: 61 :: r')=[61,61]:=by rw [signV_cc]; rfl
       rw [hG,if_neg (by simp)] at hT
       have hwA:IntKind.i64.wrap ((n:Int)+1+1)=(n:Int)+2:=by rw [wrap_i64 (by omega) (by omega)]; omega
       simp [hb,hb1,hlt,hwA]
       simp [RetK,cut_self hcl]
       exact hfin _ _ _ (by rw [hT]) (fun _=>by rw [hT]; simp)
     have hG:signV (b :: r)=if b ∈ L then [b] else []:=by
      cases r with
      | nil=>rw [hL]; exact signV_1 b
      | cons c r' =>
        rw [signV_cc,if_neg (fun q=>htwo ⟨q.1,r',by rw [q.2]⟩),hL]
     rw [hG] at hT
     obtain ⟨b1,hb1,hone⟩:∃ b1:Bool,(b1=true→(n:Int)+1 < s.length)∧b1=decide ((n:Int)+1 < s.length):=⟨_,fun h=>by simpa using h,rfl⟩
     have hcond:b=61→(n:Int)+1 < s.length→∃ c:UInt8,byteAt s ((n:Int)+1)=some c∧¬ ((c.toNat:Int)=61):=fun h61 hlt=>by
      cases r with
      | nil=>simp only [List.length_nil] at hSl; omega
      | cons c r' =>
        refine ⟨c,?_,fun e=>htwo ⟨h61,r',by rw [(byte_eq c 61).1 e]⟩⟩
        have:s.drop (n+1)=c :: r':=by rw [← List.drop_drop,hS]; rfl
        simpa using (byteAt_drop this).1
     clear hb1 hone b1
     have hloop:True:=trivial
     by_cases hlt:(n:Int)+1 < s.length
     · by_cases h61:b=61
       · obtain ⟨c,hc1,hc2⟩:=hcond h61 hlt
         have e61:(b.toNat:Int)=61:=by rw [h61]; rfl
         simp [hb,hlt,hc1,hc2,e61]
         refine LoopK_outR 6 (fun fr H'=>b ∉ L∧H'=H) (fun fr H'=>fr 4 = .d (.int .i64 5)∧fr 5 = .d (.int .i64 ((n:Int)+1))∧fr 6 = .d (.int .i64 0)∧b ∈ L∧H'=H) ?_ ?_ ?_
         · refine LoopM_of H.length (fun d fr H'=>∃ i:Nat,d=13 - i∧i≤13∧b ∉ L.take i∧fr 0 = .d (.str s)∧fr 1 = .d (.int .i64 (n:Int))∧fr 7 = .d (.int .i64 ((n:Int)+1))∧fr 14 = .d (.str L)∧fr 15 = .d (.int .i64 (i:Int))∧H'=H) 13 (by simp) ⟨0,rfl,by omega,by simp,?_⟩ ?_
           · simp [cut_self hcl,hL]
           rintro d fr H' ⟨i,rfl,hi,hni,f0,f1,f7,f14,f15,rfl⟩
           rcases Nat.lt_or_ge i 13 with hlt13 | hge13
           · have hlt':(i:Int) < 13:=by omega
             have hdi:L.drop i=L[i]'(by omega) :: L.drop (i+1):=List.drop_eq_getElem_cons (by omega)
             have htk:L.take (i+1)=L.take i++[L[i]'(by omega)]:=List.take_succ_eq_append_getElem (by omega)
             have hmem:L[i]'(by omega) ∈ L:=List.getElem_mem _
             obtain ⟨hbi,-⟩:=byteAt_drop hdi
             generalize L[i]'(by omega)=c at hdi hbi htk hmem
             have hwi:IntKind.i64.wrap ((i:Int)+1)=((i+1:Nat):Int):=by rw [wrap_i64 (by omega) (by omega)]; omega
             simp [f0,f1,f14,f15,hLl,hlt',hbi,hb]
             by_cases hcb:c=b
             · subst hcb
               simp [f7,hmem]
             · have hcb':¬ ((c.toNat:Int)=b.toNat):=fun e=>hcb ((byte_eq c b).1 e)
               have hcb2:¬ c.toNat=b.toNat:=fun e=>hcb' (by rw [e])
               simp [hcb,hcb',hcb2,f15,hwi]
               refine NextM_of H'.length (13 - (i+1)) (Nat.le_refl _) (by simp) (by omega) ⟨i+1,rfl,by omega,by rw [htk]; simp [hni]; exact Ne.symm hcb,?_⟩
               simp [f0,f1,f7,f14,cut_self hcl]
           · have:i=13:=by omega
             subst this
             rw [List.take_of_length_le (by omega)] at hni
             simp [f14,f15,hLl,hni]
         · rintro fr H' ⟨f4,f5,f6,hm,rfl⟩
           rw [if_pos hm,if_neg (by simp)] at hT
           simp
           simp [RetK,cut_self hcl,f4,f5,f6]
           exact hfin _ _ _ (by rw [hT]) (fun _=>by rw [hT]; simp)
         · rintro fr H' ⟨hm,rfl⟩
           rw [if_neg hm,if_pos rfl] at hT
           simp
           simp [RetK,cut_self hcl]
           exact hfin _ _ _ (by rw [hT]) (fun h=>by cases h)
       · have n61:¬ ((b.toNat:Int)=61):=fun e=>h61 ((byte_eq b 61).1 e)
         simp [hb,hlt,n34,n61]
         refine LoopK_outR 6 (fun fr H'=>b ∉ L∧H'=H) (fun fr H'=>fr 4 = .d (.int .i64 5)∧fr 5 = .d (.int .i64 ((n:Int)+1))∧fr 6 = .d (.int .i64 0)∧b ∈ L∧H'=H) ?_ ?_ ?_
         · refine LoopM_of H.length (fun d fr H'=>∃ i:Nat,d=13 - i∧i≤13∧b ∉ L.take i∧fr 0 = .d (.str s)∧fr 1 = .d (.int .i64 (n:Int))∧fr 7 = .d (.int .i64 ((n:Int)+1))∧fr 14 = .d (.str L)∧fr 15 = .d (.int .i64 (i:Int))∧H'=H) 13 (by simp) ⟨0,rfl,by omega,by simp,?_⟩ ?_
           · simp [cut_self hcl,hL]
           rintro d fr H' ⟨i,rfl,hi,hni,f0,f1,f7,f14,f15,rfl⟩
           rcases Nat.lt_or_ge i 13 with hlt13 | hge13
           · have hlt':(i:Int) < 13:=by omega
             have hdi:L.drop i=L[i]'(by omega) :: L.drop (i+1):=List.drop_eq_getElem_cons (by omega)
             have htk:L.take (i+1)=L.take i++[L[i]'(by omega)]:=List.take_succ_eq_append_getElem (by omega)
             have hmem:L[i]'(by omega) ∈ L:=List.getElem_mem _
             obtain ⟨hbi,-⟩:=byteAt_drop hdi
             generalize L[i]'(by omega)=c at hdi hbi htk hmem
             have hwi:IntKind.i64.wrap ((i:Int)+1)=((i+1:Nat):Int):=by rw [wrap_i64 (by omega) (by omega)]; omega
             simp [f0,f1,f14,f15,hLl,hlt',hbi,hb]
             by_cases hcb:c=b
             · subst hcb
               simp [f7,hmem]
             · have hcb':¬ ((c.toNat:Int)=b.toNat):=fun e=>hcb ((byte_eq c b).1 e)
               have hcb2:¬ c.toNat=b.toNat:=fun e=>hcb' (by rw [e])
               simp [hcb,hcb',hcb2,f15,hwi]
               refine NextM_of H'.length (13 - (i+1)) (Nat.le_refl _) (by simp) (by omega) ⟨i+1,rfl,by omega,by rw [htk]; simp [hni]; exact Ne.symm hcb,?_⟩
               simp [f0,f1,f7,f14,cut_self hcl]
           · have:i=13:=by omega
             subst this
             rw [List.take_of_length_le (by omega)] at hni
             simp [f14,f15,hLl,hni]
         · rintro fr H' ⟨f4,f5,f6,hm,rfl⟩
           rw [if_pos hm,if_neg (by simp)] at hT
           simp
           simp [RetK,cut_self hcl,f4,f5,f6]
           exact hfin _ _ _ (by rw [hT]) (fun _=>by rw [hT]; simp)
         · rintro fr H' ⟨hm,rfl⟩
           rw [if_neg hm,if_pos rfl] at hT
           simp
           simp [RetK,cut_self hcl]
           exact hfin _ _ _ (by rw [hT]) (fun h=>by cases h)
     · simp [hb,hlt,n34]
       refine LoopK_outR 6 (fun fr H'=>b ∉ L∧H'=H) (fun fr H'=>fr 4 = .d (.int .i64 5)∧fr 5 = .d (.int .i64 ((n:Int)+1))∧fr 6 = .d (.int .i64 0)∧b ∈ L∧H'=H) ?_ ?_ ?_
       · refine LoopM_of H.length (fun d fr H'=>∃ i:Nat,d=13 - i∧i≤13∧b ∉ L.take i∧fr 0 = .d (.str s)∧fr 1 = .d (.int .i64 (n:Int))∧fr 7 = .d (.int .i64 ((n:Int)+1))∧fr 14 = .d (.str L)∧fr 15 = .d (.int .i64 (i:Int))∧H'=H) 13 (by simp) ⟨0,rfl,by omega,by simp,?_⟩ ?_
         · simp [cut_self hcl,hL]
         rintro d fr H' ⟨i,rfl,hi,hni,f0,f1,f7,f14,f15,rfl⟩
         rcases Nat.lt_or_ge i 13 with hlt13 | hge13
         · have hlt':(i:Int) < 13:=by omega
           have hdi:L.drop i=L[i]'(by omega) :: L.drop (i+1):=List.drop_eq_getElem_cons (by omega)
           have htk:L.take (i+1)=L.take i++[L[i]'(by omega)]:=List.take_succ_eq_append_getElem (by omega)
           have hmem:L[i]'(by omega) ∈ L:=List.getElem_mem _
           obtain ⟨hbi,-⟩:=byteAt_drop hdi
           generalize L[i]'(by omega)=c at hdi hbi htk hmem
           have hwi:IntKind.i64.wrap ((i:Int)+1)=((i+1:Nat):Int):=by rw [wrap_i64 (by omega) (by omega)]; omega
           simp [f0,f1,f14,f15,hLl,hlt',hbi,hb]
           by_cases hcb:c=b
           · subst hcb
             simp [f7,hmem]
           · have hcb':¬ ((c.toNat:Int)=b.toNat):=fun e=>hcb ((byte_eq c b).1 e)
             have hcb2:¬ c.toNat=b.toNat:=fun e=>hcb' (by rw [e])
             simp [hcb,hcb',hcb2,f15,hwi]
             refine NextM_of H'.length (13 - (i+1)) (Nat.le_refl _) (by simp) (by omega) ⟨i+1,rfl,by omega,by rw [htk]; simp [hni]; exact Ne.symm hcb,?_⟩
             simp [f0,f1,f7,f14,cut_self hcl]
         · have:i=13:=by omega
           subst this
           rw [List.take_of_length_le (by omega)] at hni
           simp [f14,f15,hLl,hni]
       · rintro fr H' ⟨f4,f5,f6,hm,rfl⟩
         rw [if_pos hm,if_neg (by simp)] at hT
         simp
         simp [RetK,cut_self hcl,f4,f5,f6]
         exact hfin _ _ _ (by rw [hT]) (fun _=>by rw [hT]; simp)
       · rintro fr H' ⟨hm,rfl⟩
         rw [if_neg hm,if_pos rfl] at hT
         simp
         simp [RetK,cut_self hcl]
         exact hfin _ _ _ (by rw [hT]) (fun h=>by cases h)
end
end
section
section
variable {P:Program}
theorem HasT.lex4 {f fb fl fo tt} (h:HasT P [6] f (irR4Lex fb fl fo tt)) (hb:∀ (s:Bs) H,s.length≤1048576→ACall P fb [.d (.str s)] H (fun r H'=>r = .d (.int .i64 (badS s))∧H'=H))
 (hl:∀ (s:Bs) (n:Nat),n≤s.length→s.length≤1048576→∀ H,ACall P fl [.d (.str s),.d (.int .i64 (n:Int))] H (fun r H'=>r = .d (.int .i64 ((n+leadS false (s.drop n):Nat):Int))∧H'=H))
 (ho:∀ (s:Bs) (n:Nat),n < s.length→s.length≤1048576→∀ H,ACall P fo [.d (.str s),.d (.int .i64 (n:Int))] H (One4Q (s.drop n) n H))
 (s:Bs) (hs:s.length≤1048576) (H:Hp) :
 ACall P f [.d (.str s)] H (fun r H'=>r = .tup [.d (.sl true 4 ((lexS s).1.map encTk)),.d (.int .i64 (lexS s).2.1),.d (.int .i64 (lexS s).2.2)]∧H'=H):=by
 obtain ⟨fnn,hf,hcf⟩:=h
 refine acall_fin hf hcf (by simp [irR4Lex]) fun hcl _ => ?_
 by_cases h1:16384 < s.length
 case pos =>
  have h1':(16384:Int) < s.length:=by omega
  simp [irR4Lex,h1']
  simp [RetK,cut_self hcl,lexS,h1]
 have h1':¬ (16384:Int) < s.length:=by omega
 have hbs:=hb s H hs
 have hL:lexS s=if 0≤badS s then ([],20,badS s) else lexF (s.length+1) s 0 0:=by rw [lexS,if_neg h1]
 generalize lexS s=LS at hL
 generalize badS s=bs at hL hbs
 simp [irR4Lex,h1']
 refine CallK_of' hbs ?_
 simp
 refine BrK_split (fun h2 => ?_) (fun h2 => ?_)
 · have h2:0≤bs:=by simpa using h2
   rw [if_pos h2] at hL
   subst hL
   simp
   simp [RetK,cut_self hcl]
 have h2:¬ 0≤bs:=by simpa using h2
 rw [if_neg h2] at hL
 simp
 refine LoopM_of (H.length+1) (fun d fr H'=>∃ (p:Nat) (acc:List Tk),p≤s.length∧s.length - p < d∧LS=combL acc (lexF d (s.drop p) p acc.length)∧acc.length≤4000∧fr 0 = .d (.str s)∧fr 6 = .osl true 4 (acc.map encTk) H.length∧fr 7 = .d (.int .i64 (p:Int))∧H'=H++[.tok acc.length 4 tt]) (s.length+1) (by simp) ⟨0,[],by omega,by omega,?_,by simp,?_⟩ ?_
 · simp only [List.drop_zero,List.length_nil]
   rw [hL]
   exact (combL_nil _ _ _ _).symm
 · simp [cut_appk hcl]
 rintro d fr H' ⟨p,acc,hp,hd,hLS,hacc,f0,f6,f7,rfl⟩
 obtain ⟨d',rfl⟩:∃ d',d=d'+1:=⟨d - 1,by omega⟩
 have g1:=hl s p hp hs (H++[.tok acc.length 4 tt])
 simp [f0,f7]
 have hll:=lead_le false (s.drop p)
 simp only [List.length_drop] at hll
 rw [lexF] at hLS
 simp only [drop_add'] at hLS
 have htl:=tokN_len (s.drop (p+leadS false (s.drop p)))
 simp only [List.length_drop] at htl
 have hsb:=sub_ok (s:=s) (n:=p) (w:=leadS false (s.drop p)) (by omega)
 have g2:=fun H=>fun h=>ho s (p+leadS false (s.drop p)) h hs H
 unfold One4Q at g2
 generalize hn:leadS false (s.drop p)=n at hLS hll g1 g2 htl hsb
 have hnil:p+n=s.length→tokN (s.drop (p+n))=(0,0,0):=fun e=>by rw [List.drop_eq_nil_of_le (by omega)]; rfl
 generalize hTT:tokN (s.drop (p+n))=T at hLS g2 htl hnil
 obtain ⟨e,k,m⟩:=T
 simp only at hLS htl g2
 obtain ⟨t1,t2,t3,t4⟩:=htl
 refine CallK_of' g1 ?_
 simp [f0,f7,hsb]
 rcases Nat.lt_or_ge (p+n) s.length with hlt | hge
 · have hlt':(p:Int)+n < s.length:=by omega
   have hne:s.drop (p+n) ≠ []:=fun q=>by have:=List.drop_eq_nil_iff.1 q; omega
   simp [f0,hlt']
   have g3:=fun H=>g2 H hlt
   simp only [Int.natCast_add] at g3
   refine CallK_of (g3 _) ?_
   rintro _ _ ⟨k',m',rfl,rfl,hx⟩
   by_cases he:e=0
   case neg =>
    rw [if_pos he] at hLS
    have:LS=([],e,((p+n:Nat):Int)):=by rw [hLS]; simp [combL,he]
    simp [he]
    simp [RetK,cut_app hcl,this]
   obtain ⟨rfl,hm'⟩:=hx he
   subst hm'
   rw [if_neg (by simp [he])] at hLS
   subst he
   have hsm:=sub_ok (s:=s) (n:=p+n) (w:=m) (by omega)
   simp only [Int.natCast_add] at hsm
   simp [f0]
   by_cases h4:4000≤acc.length
   case pos =>
    have h4':(4000:Int)≤acc.length:=by omega
    rw [if_pos h4] at hLS
    have:LS=([],5,((p+n:Nat):Int)):=by rw [hLS]; simp [combL]
    simp [f6,f7,h4']
    simp [RetK,cut_app hcl,this]
   have h4':¬ (4000:Int)≤acc.length:=by omega
   rw [if_neg h4] at hLS
   obtain ⟨t,ht⟩:∃ t:Tk,t=⟨k',p+n,(s.drop p).take n,(s.drop (p+n)).take m⟩:=⟨_,rfl⟩
   have hbt:acc.map encTk++[[.int .i64 k',.int .i64 ((p:Int)+n),.str ((s.drop p).take n),.str ((s.drop (p+n)).take m)]]=(acc++[t]).map encTk:=by
    simp [encTk,ht]
   rw [← ht] at hLS
   have hap:(acc.map encTk).length=acc.length:=by simp
   simp [f0,f6,f7,h4',hsm,appA]
   rw [if_pos (by omega)]
   simp
   by_cases hk:k'=0
   · rw [if_pos hk] at hLS
     have hLS':LS=(acc++[t],0,0):=by rw [hLS]; simp [combL]
     subst hk
     simp [hbt]
     simp [RetK,cut_app hcl,hLS']
   · rw [if_neg hk,← combL_snoc] at hLS
     simp [hk,hbt]
     have hm1:=t3 rfl hne
     refine NextM_of (H.length+1) d' (Nat.le_refl _) (by simp) (by omega) ⟨p+n+m,acc++[t],by omega,by omega,?_,by simp; omega,?_⟩
     · simpa using hLS
     · simp [f0,cut_appk hcl]
 · have hlt':¬ (p:Int)+n < s.length:=by omega
   have hpn:p+n=s.length:=by omega
   obtain ⟨rfl,h2⟩:=Prod.mk.inj (hnil hpn)
   obtain ⟨rfl,rfl⟩:=Prod.mk.inj h2
   rw [if_neg (by simp)] at hLS
   have hsm:=sub_ok (s:=s) (n:=p+n) (w:=0) (by omega)
   simp only [Int.natCast_add,Int.natCast_zero,Int.add_zero] at hsm
   simp [f0,hlt']
   by_cases h4:4000≤acc.length
   case pos =>
    have h4':(4000:Int)≤acc.length:=by omega
    rw [if_pos h4] at hLS
    have:LS=([],5,((p+n:Nat):Int)):=by rw [hLS]; simp [combL]
    simp [f6,f7,h4']
    simp [RetK,cut_app hcl,this]
   have h4':¬ (4000:Int)≤acc.length:=by omega
   rw [if_neg h4] at hLS
   obtain ⟨t,ht⟩:∃ t:Tk,t=⟨0,p+n,(s.drop p).take n,(s.drop (p+n)).take 0⟩:=⟨_,rfl⟩
   have hbt:acc.map encTk++[[.int .i64 0,.int .i64 ((p:Int)+n),.str ((s.drop p).take n),.str ((s.drop (p+n)).take 0)]]=(acc++[t]).map encTk:=by
    simp [encTk,ht]
   rw [← ht] at hLS
   have hap:(acc.map encTk).length=acc.length:=by simp
   simp [f0,f6,f7,h4',hsm,appA]
   rw [if_pos (by omega)]
   simp
   rw [if_pos rfl] at hLS
   have hLS':LS=(acc++[t],0,0):=by rw [hLS]; simp [combL]
   simp [RetK,cut_app hcl,hLS',ht,encTk]
end
end
section
def AdvE (L:List Tk) (i:Nat) (s:Bool):PR→Prop
 | .ok _ j=>i≤j∧(s=true→i < j)∧(i < j→j < L.length)
 | _=>True
section
variable {L:List Tk}
theorem AdvE.ok {i j:Nat} {s:Bool} {m:N} (h1:i≤j) (h2:s=true→i < j) (h3:i < j→j < L.length):AdvE L i s (.ok m j):=⟨h1,h2,h3⟩
theorem AdvE.want (hE:EndsL L) {i k:Nat} {s:Bool} {x:Bs} {h:Nat→PR} (hh:k+1 < L.length→AdvE L i s (h (k+1))):AdvE L i s (wantR L k x h):=by
 unfold wantR
 split
 · rename_i e; exact hh (isT_ltE hE e)
 · trivial
theorem AdvE.word (hE:EndsL L) {i k:Nat} {s:Bool} {h:Bs→Nat→PR} (hh:k+1 < L.length→AdvE L i s (h (txT L k) (k+1))):AdvE L i s (wordR L k h):=by
 unfold wordR
 split
 · rename_i e; exact hh (kdT_ltE hE (by omega))
 · trivial
theorem AdvE.ifT (hE:EndsL L) {i k:Nat} {s:Bool} {x:Bs} {a b:PR} (ha:k+1 < L.length→AdvE L i s a) (hb:AdvE L i s b):AdvE L i s (if isT L k x then a else b):=by
 split
 · rename_i e; exact ha (isT_ltE hE e)
 · exact hb
theorem AdvE.ifK (hE:EndsL L) {i k:Nat} {s:Bool} {x:Int} {a b:PR} (hx:x ≠ 0) (ha:k+1 < L.length→AdvE L i s a) (hb:AdvE L i s b):AdvE L i s (if kdT L k=x then a else b):=by
 split
 · rename_i e; exact ha (kdT_ltE hE (by omega))
 · exact hb
theorem AdvE.if0 {i k:Nat} {s:Bool} {a b:PR} (ha:AdvE L i s a) (hb:AdvE L i s b):AdvE L i s (if kdT L k=0 then a else b):=by
 split
 · exact ha
 · exact hb
theorem AdvE.ifS (hE:EndsL L) {i k:Nat} {s:Bool} {x:Bs} {a b:PR} (ha:k+2 < L.length→AdvE L i s a) (hb:AdvE L i s b):AdvE L i s (if kdT L k=1∧isT L (k+1) x=true then a else b):=by
 split
 · rename_i e; exact ha (by have:=isT_ltE hE e.2; omega)
 · exact hb
theorem AdvE.last {n:Nat} (ih:∀ g i,AdvE L i g.strict (pp L n g i)) {g:G} {k i:Nat} {s:Bool} (h1:i≤k) (h2:i < k→k < L.length) (h3:s=true→g.strict=true∨i < k):AdvE L i s (pp L n g k):=by
 have:=ih g k
 generalize pp L n g k=r at this
 cases r with
 | out=>trivial
 | bad j=>trivial
 | ok m j =>
   obtain ⟨a1,a2,a3⟩:=this
   refine ⟨by omega,fun h => ?_,fun h=>by omega⟩
   rcases h3 h with h | h
   · have:=a2 h; omega
   · omega
theorem AdvE.thenG {n:Nat} (ih:∀ g i,AdvE L i g.strict (pp L n g i)) {g:G} {k i:Nat} {s:Bool} {h:N→Nat→PR} (hh:∀ m j,k≤j→(g.strict=true→k < j)→(k < j→j < L.length)→AdvE L i s (h m j)):AdvE L i s ((pp L n g k).then h):=by
 have:=ih g k
 generalize pp L n g k=r at this
 cases r with
 | out=>trivial
 | bad j=>trivial
 | ok m j=>exact hh m j this.1 this.2.1 this.2.2
theorem pp_advE (hE:EndsL L):∀ (n:Nat) (g:G) (i:Nat),AdvE L i g.strict (pp L n g i)
 | 0,g,i=>trivial
 | n + 1, g, i => by
   have ih:=pp_advE hE n
   cases g
   all_goals simp only [pp,G.strict]
   all_goals
    repeat' first
     | exact AdvE.bad
     | (refine AdvE.want hE fun _ => ?_)
     | (refine AdvE.word hE fun _ => ?_)
     | (refine AdvE.ifT hE (fun _ => ?_) ?_)
     | (refine AdvE.ifK hE (by decide) (fun _ => ?_) ?_)
     | (refine AdvE.ifS hE (fun _ => ?_) ?_)
     | (refine AdvE.if0 ?_ ?_)
     | (refine AdvE.thenG ih fun m j h1 h2 h3 => ?_; simp only [G.strict,Bool.false_eq_true,false_implies,true_implies] at h2)
     | (refine AdvE.ok ?_ ?_ ?_<;>(try simp only [Bool.false_eq_true,false_implies,true_implies])<;>omega)
     | (refine AdvE.last ih ?_ ?_ ?_<;>(try simp only [G.strict,Bool.false_eq_true,false_implies,true_implies,false_or,true_or])<;>omega)
end
def rst (tr:TypeId) (z:Bool) (L:List Tk) (st:Option Nat):Ob := .box tr [.d (.sl z 4 (L.map encTk)),.d (.int .i64 (match st with | none => -1 | some q=>(q:Int)))]
theorem rst_clr {tr:TypeId} {z:Bool} {L:List Tk} {s:Option Nat} {n:Nat}:(rst tr z L s).clr n=rst tr z L s:=by simp [rst]
structure RF where
 (kind file is word want ended use_ def_ lambda params typed block stmt expr sum term post atom:FuncId)
 (tn tt tr:TypeId)
def ag (k f t:Int) (w:Bs) (a:Int) (x:A):A := .agg [.d (.int .i64 k),.d (.int .i64 f),.d (.int .i64 t),.d (.str w),.d (.int .i64 a),x]
section
variable {P:Program} {R:RF} {z:Bool} {L:List Tk} {H:Hp} {i:Nat}
theorem Has.ris {f tt tr} (h:Has P f (irR7Is tt)) {st:Option Nat} (hi:H[i]?=some (rst tr z L st)) {p:Nat} (hp:p < L.length) (x:Bs):ACall P f [.ptr i 0,.d (.int .i64 (p:Int)),.d (.str x)] H (fun r H'=>r = .d (.bool (isT L p x))∧H'=H):=by
 obtain ⟨fn,hf,hcf⟩:=h
 refine acall_fin hf hcf (by simp [irR7Is]) fun hcl _ => ?_
 unfold rst at hi
 have hA:=get_app hi
 have hr:=rowAt_map encTk hp
 have hg:L[p]?=some L[p]:=List.getElem?_eq_getElem hp
 have hT:isT L p x=((decide (L[p].k=2) || decide (L[p].k=5)) && decide (L[p].x=x)):=by unfold isT; rw [hg]
 generalize L[p]=t at hr hT
 obtain ⟨k,a,l,y⟩:=t
 simp only [encTk] at hr hT
 by_cases h2:k=2
 · simp [irR7Is,hi,hA,hr,h2]
   simp [RetK,cut_app hcl,hT,h2]
 · by_cases h5:k=5
   · simp [irR7Is,hi,hA,hr,h2,h5]
     simp [RetK,cut_app hcl,hT,h2,h5]
   · simp [irR7Is,hi,hA,hr,h2,h5]
     simp [RetK,cut_app hcl,hT,h2,h5]
theorem Has.rwant {f fi tr} (h:Has P f (irR7Want fi)) (hs:∀ (H:Hp) (i:Nat) (st:Option Nat),H[i]?=some (rst tr z L st)→∀ (p:Nat),p < L.length→∀ x,ACall P fi [.ptr i 0,.d (.int .i64 (p:Int)),.d (.str x)] H (fun r H'=>r = .d (.bool (isT L p x))∧H'=H))
 {s:PSt} (hi:H[i]?=some (rst tr z L s.2)) (hp:s.2=none→s.1 < L.length) (hb:s.1≤1125899906842624) (x:Bs):ACall P f [.ptr i 0,.d (.int .i64 (s.1:Int)),.d (.str x)] H (fun r H'=>r = .d (.int .i64 ((wantS L x s).1:Int))∧H'=H.set i (rst tr z L (wantS L x s).2)):=by
 obtain ⟨fn,hf,hcf⟩:=h
 refine acall_fin hf hcf (by simp [irR7Want]) fun hcl _ => ?_
 obtain ⟨p,st⟩:=s
 have hil:=scan_len hi
 cases st with
 | some q =>
   rw [show wantS L x (p,some q)=(p,some q) from rfl,Hp.set_self hi]
   unfold rst at hi
   have hA:=get_app hi
   have hq:¬ (q:Int) < 0:=by omega
   simp [irR7Want,hi,hq]
   simp [RetK,cut_self hcl]
 | none =>
   have hp':=hp rfl
   have g:=hs H i none hi p hp' x
   simp only at hb
   have hw:IntKind.i64.wrap ((p:Int)+1)=((p+1:Nat):Int):=by rw [wrap_i64 (by omega) (by omega)]; omega
   have hi0:=hi
   unfold rst at hi
   have hA:=get_app hi
   rw [wantS_none]
   by_cases hT:isT L p x=true
   · rw [if_pos hT,Hp.set_self hi0]
     simp [irR7Want,hi]
     refine CallK_of' g ?_
     simp [hi,hT,hw]
     simp [RetK,cut_self hcl]
   · rw [if_neg hT]
     have hT':isT L p x=false:=by simpa using hT
     have hgs:=set_get hil (Ob.box tr [.d (.sl z 4 (L.map encTk)),.d (.int .i64 (p:Int))])
     have hc:Hp.cut H.length (H.set i (rst tr z L (some p)))=H.set i (rst tr z L (some p)):=cut_set' hcl rst_clr
     simp [irR7Want,hi]
     refine CallK_of' g ?_
     have hnq:¬ (p:Int) < 0:=by omega
     simp [hi,hT',hgs,hnq]
     simp [RetK,rst]
     simpa [rst] using hc
theorem Has.rended {f tn} (h:Has P f (irR7Ended tn)) (k f0 t:Int) (w:Bs) (a:Int) (z1:Bool) (rows:List (List D)) (to:Int) (z2:Bool) (rows2:List (List D)) (H:Hp) :
 ACall P f [ag k f0 t w a (.d (.sl z1 6 rows)),.d (.int .i64 to),.d (.sl z2 6 rows2)] H (fun r H'=>r=ag k f0 to w a (.d (.sl z2 6 rows2))∧H'=H):=by
 obtain ⟨fn,hf,hcf⟩:=h
 refine acall_fin hf hcf (by simp [irR7Ended]) fun hcl _ => ?_
 simp [irR7Ended,ag]
 simp [RetK,cut_app hcl]
theorem Has.rendedT {f tn} (h:Has P f (irR7Ended tn)) (k f0 t:Int) (w:Bs) (a:Int) (z1:Bool) (rows:List (List D)) (to:Int) (z2:Bool) (rows2:List (List D)) (H:Hp) (q:Nat) (hq:q < H.length) :
 ACall P f [ag k f0 t w a (.d (.sl z1 6 rows)),.d (.int .i64 to),.osl z2 6 rows2 q] H (fun r H'=>r=ag k f0 to w a (.osl z2 6 rows2 q)∧H'=H):=by
 obtain ⟨fn,hf,hcf⟩:=h
 refine acall_fin hf hcf (by simp [irR7Ended]) fun hcl _ => ?_
 simp [irR7Ended,ag,hq]
 simp [RetK,cut_app hcl,hq]
theorem Has.rword {f tn tr} (h:Has P f (irR7Word tn)) {s:PSt} (hi:H[i]?=some (rst tr z L s.2)) (hp:s.2=none→s.1 < L.length) (hb:s.1≤1125899906842624) (k f0 t:Int) (w:Bs) (a:Int) (z1:Bool) (rows:List (List D)) :
 ACall P f [.ptr i 0,ag k f0 t w a (.d (.sl z1 6 rows)),.d (.int .i64 (s.1:Int))] H (fun r H'=>r = .tup [ag k f0 t (if wordOkB L s then txT L s.1 else w) (if wordOkB L s then (s.1:Int) else a) (.d (.sl z1 6 rows)),.d (.int .i64 ((wordS L s).1:Int))]∧H'=H.set i (rst tr z L (wordS L s).2)):=by
 obtain ⟨fn,hf,hcf⟩:=h
 refine acall_fin hf hcf (by simp [irR7Word]) fun hcl _ => ?_
 obtain ⟨p,st⟩:=s
 have hil:=scan_len hi
 cases st with
 | some q =>
   rw [wordS_some,wordOkB_some]
   rw [Hp.set_self hi]
   unfold rst at hi
   have hA:=get_app hi
   have hq:¬ (q:Int) < 0:=by omega
   simp [irR7Word,hi,hA,hq,ag]
   simp [RetK,cut_app hcl]
 | none =>
   have hp':=hp rfl
   simp only at hb hp'
   have hw:IntKind.i64.wrap ((p:Int)+1)=((p+1:Nat):Int):=by rw [wrap_i64 (by omega) (by omega)]; omega
   have hi0:=hi
   unfold rst at hi
   have hA:=get_app hi
   have hr:=rowAt_map encTk hp'
   have hg:L[p]?=some L[p]:=List.getElem?_eq_getElem hp'
   have hkd:kdT L p=L[p].k:=by unfold kdT; rw [hg]
   have htx:txT L p=L[p].x:=by unfold txT; rw [hg]
   generalize L[p]=tk at hr hkd htx
   obtain ⟨kk,ta,tl,y⟩:=tk
   simp only [encTk] at hr hkd htx
   rw [wordS_none,wordOkB_none,hkd,htx]
   by_cases h1:kk=1
   · subst h1
     rw [if_pos rfl,Hp.set_self hi0]
     simp [irR7Word,hi,hA,hr,hw,ag]
     simp [RetK,cut_app hcl]
   · rw [if_neg h1]
     have hc:Hp.cut H.length (H.set i (rst tr z L (some p)))=H.set i (rst tr z L (some p)):=cut_set' hcl rst_clr
     have hu:∀ X o,(H++X).set i o=H.set i o++X:=fun X o=>List.set_append_left _ _ hil
     have hgs:∀ X o,(H.set i o++X)[i]?=some o:=fun X o=>upG hil
     have hcc:∀ X,Hp.cut H.length (H.set i (rst tr z L (some p))++X)=H.set i (rst tr z L (some p)):=fun X=>by rw [cut_appL (by simp),hc]
     unfold rst at hcc
     simp [irR7Word,hi,hA,hr,hw,ag,h1,hu,hgs]
     simp [RetK,hcc,rst]
end
end
section
structure RHas (P:Program) (R:RF):Prop where
 is:Has P R.is (irR7Is R.tt)
 word:Has P R.word (irR7Word R.tn)
 want:Has P R.want (irR7Want R.is)
 ended:Has P R.ended (irR7Ended R.tn)
 use_:Has P R.use_ (irR7Use R.word R.want R.ended R.tn)
 def_:Has P R.def_ (irR7Def R.want R.word R.lambda R.ended R.tn)
 lambda:Has P R.lambda (irR7Lambda R.params R.typed R.block R.tn)
 typed:Has P R.typed (irR7Typed R.is R.kind R.tn)
def PPreR (L:List Tk) (n:Nat) (g:G) (s:PSt):Prop:=PPre L n g s∧(s.2=none→s.1 < L.length)
def RQ (tr:TypeId) (z:Bool) (L:List Tk) (n:Nat) (g:G) (H:Hp) (i:Nat) (X:Hp) (s:PSt):A→Hp→Prop:=fun r H'=>∃ m s',r = .tup [N.v m,.d (.int .i64 (s'.1:Int))]∧H'=H.set i (rst tr z L s'.2)++X∧Rel L n g s m s'
def UR (P:Program) (tr:TypeId) (z:Bool) (L:List Tk) (n:Nat) (g:G) (f:FuncId):Prop:=∀ (H X:Hp) (i:Nat) (s:PSt),i < H.length→PPreR L n g s→ACall P f [.ptr i 0,.d (.int .i64 (s.1:Int))] (H.set i (rst tr z L s.2)++X) (RQ tr z L n g H i X s)
theorem UR_of {P:Program} {tr:TypeId} {z:Bool} {L:List Tk} {n:Nat} {g:G} {f:FuncId} (h:∀ (H:Hp) (i:Nat) (s:PSt),i < H.length→PPreR L n g s→ACall P f [.ptr i 0,.d (.int .i64 (s.1:Int))] (H.set i (rst tr z L s.2)) (RQ tr z L n g H i [] s)):UR P tr z L n g f:=by
 intro H X i s hi hp
 have:=h (H++X) i s (by simp; omega) hp
 rw [List.set_append_left _ _ hi] at this
 refine this.mono ?_
 rintro r H' ⟨m,s',rfl,rfl,hr⟩
 refine ⟨m,s',rfl,?_,hr⟩
 rw [List.append_nil,List.set_append_left _ _ hi]
def MoE (L:List Tk) (s s':PSt):Prop:=s'.2=none→s.2=none∧s.1≤s'.1∧(s.1 < L.length→s'.1 < L.length)
theorem MoE.refl {L:List Tk} (s:PSt):MoE L s s:=fun h=>⟨h,Nat.le_refl _,id⟩
theorem MoE.trans {L:List Tk} {s t u:PSt} (h:MoE L s t) (k:MoE L t u):MoE L s u:=fun e=>by
 obtain ⟨a1,a2,a3⟩:=k e
 obtain ⟨b1,b2,b3⟩:=h a1
 exact ⟨b1,by omega,fun q=>a3 (b3 q)⟩
theorem MoE.pre {L:List Tk} {n:Nat} {g g':G} {s s':PSt} (h:MoE L s s') (hp:PPreR L (n+1) g s) (hc:g'.c < g.c) (hb:s'.1+16 * g'.c≤281474976710656):PPreR L n g' s':=by
 obtain ⟨⟨p1,p2,p3⟩,p4⟩:=hp
 refine ⟨⟨hb,by omega,fun e => ?_⟩,fun e => ?_⟩
 · obtain ⟨a1,a2,a3⟩:=h e
   obtain ⟨b1,b2⟩:=p3 a1
   have:=a3 (p4 a1)
   exact ⟨by omega,by omega⟩
 · obtain ⟨a1,a2,a3⟩:=h e
   exact a3 (p4 a1)
section
variable {L:List Tk} {x:Bs} {p q:Nat}
theorem wantS_moE (hE:EndsL L) {s s':PSt} (h:wantS L x s=s'):MoE L s s':=by
 subst h
 obtain ⟨p,st⟩:=s
 cases st with
 | some q=>exact .refl _
 | none =>
   rw [wantS_none]
   split
   · rename_i e
     exact fun _=>⟨rfl,by simp,fun _=>isT_ltE hE e⟩
   · intro e; cases e
theorem wordS_moE (hE:EndsL L) {s s':PSt} (h:wordS L s=s'):MoE L s s':=by
 subst h
 obtain ⟨p,st⟩:=s
 cases st with
 | some q=>rw [wordS_some]; exact .refl _
 | none =>
   rw [wordS_none]
   split
   · rename_i e
     exact fun _=>⟨rfl,by simp,fun _=>kdT_ltE hE (by omega)⟩
   · intro e; cases e
theorem Rel.moE (hE:EndsL L) {n:Nat} {g:G} {m:N} {s s':PSt} (h:Rel L n g s m s'):MoE L s s':=by
 obtain ⟨p,st⟩:=s
 cases st with
 | some q =>
   obtain ⟨a,rfl,-⟩:=h.some'
   intro e; cases e
 | none =>
   rcases h.none' with ⟨q,a,-,rfl,-⟩ | ⟨k,e,rfl⟩
   · intro e; cases e
   · have ha:=pp_advE hE n g p
     rw [e] at ha
     obtain ⟨h1,-,h3⟩:=ha
     refine fun _=>⟨rfl,h1,fun hl => ?_⟩
     simp only at hl ⊢
     rcases Nat.lt_or_ge p k with h | h
     · exact h3 h
     · omega
end
section
variable {P:Program} {R:RF} {z:Bool} {L:List Tk} {H X:Hp} {i:Nat} {s:PSt}
theorem rcut {tr:TypeId} {st st':Option Nat} (hcl:Hp.Closed (H.set i (rst tr z L st))):Hp.cut H.length (H.set i (rst tr z L st')++X)=H.set i (rst tr z L st'):=by
 have e:H.set i (rst tr z L st')=(H.set i (rst tr z L st)).set i (rst tr z L st'):=by simp
 rw [cut_appL (by simp),e,Hp.cut_set]
 have:=cut_self hcl
 rw [List.length_set] at this
 rw [this,rst_clr]
theorem RHas.isA (hR:RHas P R) (hi:i < H.length) {st:Option Nat} {p:Nat} (hp:p < L.length) (x:Bs):ACall P R.is [.ptr i 0,.d (.int .i64 (p:Int)),.d (.str x)] (H.set i (rst R.tr z L st)++X) (fun r H'=>r = .d (.bool (isT L p x))∧H'=H.set i (rst R.tr z L st)++X):=hR.is.ris (upG hi) hp x
theorem RHas.wantA (hR:RHas P R) (hi:i < H.length) (hp:s.2=none→s.1 < L.length) (hb:s.1≤1125899906842624) (x:Bs):ACall P R.want [.ptr i 0,.d (.int .i64 (s.1:Int)),.d (.str x)] (H.set i (rst R.tr z L s.2)++X) (fun r H'=>r = .d (.int .i64 ((wantS L x s).1:Int))∧H'=H.set i (rst R.tr z L (wantS L x s).2)++X):=by
 have:=hR.want.rwant (s:=s) (tr:=R.tr) (z:=z) (fun H i st h p hp x=>hR.is.ris h hp x) (upG (X:=X) hi) hp hb x
 rwa [up hi] at this
theorem RHas.wordA (hR:RHas P R) (hi:i < H.length) (hp:s.2=none→s.1 < L.length) (hb:s.1≤1125899906842624) (k f0 t:Int) (w:Bs) (a:Int) (z1:Bool) (rows:List (List D)) :
 ACall P R.word [.ptr i 0,ag k f0 t w a (.d (.sl z1 6 rows)),.d (.int .i64 (s.1:Int))] (H.set i (rst R.tr z L s.2)++X) (fun r H'=>r = .tup [ag k f0 t (if wordOkB L s then txT L s.1 else w) (if wordOkB L s then (s.1:Int) else a) (.d (.sl z1 6 rows)),.d (.int .i64 ((wordS L s).1:Int))]∧H'=H.set i (rst R.tr z L (wordS L s).2)++X):=by
 have:=hR.word.rword (s:=s) (tr:=R.tr) (z:=z) (upG (X:=X) hi) hp hb k f0 t w a z1 rows
 rwa [up hi] at this
theorem MoE.lt {L:List Tk} {s s':PSt} (h:MoE L s s') (hs:s.2=none→s.1 < L.length):s'.2=none→s'.1 < L.length:=fun e=>by
 obtain ⟨a1,a2,a3⟩:=h e
 exact a3 (hs a1)
theorem RHas.use' (hR:RHas P R) (hE:EndsL L) (hL:L.length≤1048576) (n:Nat) (hi:i < H.length) (p:Nat) (hT:isT L p kUse=true) :
 ACall P R.use_ [.ptr i 0,.d (.int .i64 (p:Int))] (H.set i (rst R.tr z L none)) (RQ R.tr z L (n+1) .use H i [] (p,none)):=by
 obtain ⟨fn,hf,hcf⟩:=hR.use_
 refine acall_fin hf hcf (by simp [irR7Use]) fun hcl _ => ?_
 have hp:=isT_ltE hE hT
 have hw:IntKind.i64.wrap ((p:Int)+1)=((p+1:Nat):Int):=by rw [wrap_i64 (by omega) (by omega)]; omega
 have hp1:(((p+1:Nat),none):PSt).2=none→(((p+1:Nat),none):PSt).1 < L.length:=fun _=>hp
 have g1:=fun X=>hR.wordA (z:=z) (s:=(p+1,none)) (X:=X) hi hp1 (by simp only; omega) 23 (p+1:Nat) 0 [] 0 true []
 generalize h1:wordS L (p+1,none)=s1 at g1
 have b1:=wordS_le h1
 have m1:=wordS_moE hE h1
 have g2:=fun X=>hR.wantA (z:=z) (s:=s1) (X:=X) hi (m1.lt hp1) (by simp only at b1; omega) [46]
 generalize h2:wantS L [46] s1=s2 at g2
 have b2:=wantS_le h2
 have m2:=m1.trans (wantS_moE hE h2)
 have g3:=fun X=>hR.wordA (z:=z) (s:=s2) (X:=X) hi (m2.lt hp1) (by simp only at b1; omega) 2 p 0 [] 0 true []
 generalize h3:wordS L s2=s3 at g3
 have b3:=wordS_le h3
 have m3:=m2.trans (wordS_moE hE h3)
 have g4:=fun X=>hR.wantA (z:=z) (s:=s3) (X:=X) hi (m3.lt hp1) (by simp only at b1; omega) [59]
 generalize h4:wantS L [59] s3=s4 at g4
 simp only [ag] at g1 g3
 simp [irR7Use,hw]
 refine CallK_of' (g1 _) ?_
 simp
 refine CallK_of' (g2 _) ?_
 simp
 refine CallK_of' (g3 _) ?_
 simp
 refine CallK_of' (g4 _) ?_
 simp
 have g5:=hR.ended.rended 2 p 0 (if wordOkB L s2 then txT L s2.1 else []) (if wordOkB L s2 then (s2.1:Int) else 0) true [] (s4.1:Int) false [[.int .i64 23,.int .i64 (p+1:Nat),.int .i64 (s1.1:Int),.str (if wordOkB L (p+1,none) then txT L (p+1) else []),.int .i64 (if wordOkB L (p+1,none) then ((p+1:Nat):Int) else 0),.sl true 6 []]]
 simp only [ag] at g5
 simp at g5
 refine CallK_of' (g5 _) ?_
 simp
 simp [RetK,rcut hcl]
 refine ⟨N.new 2 p s4.1 (if wordOkB L s2 then txT L s2.1 else []) (if wordOkB L s2 then (s2.1:Int) else 0) [N.new 23 (p+1) s1.1 (if kdT L (p+1)=1 then txT L (p+1) else []) (if kdT L (p+1)=1 then (p:Int)+1 else 0) []],s4,?_,by simp,?_⟩
 · simp [N.new,N.v_mk,N.enc_mk]
 subst h1 h2 h3 h4
 clear b1 b2 b3 m1 m2 m3 g1 g2 g3 g4 g5
 simp only [Rel,pp,wantR,wordR,if_pos hT]
 by_cases c2:kdT L (p+1)=1
 case neg=>simp [c2]; omega
 have l2:=kdT_ltE hE (show kdT L (p+1) ≠ 0 by omega)
 simp only [wordS_none,c2,if_true]
 by_cases c3:isT L (p+1+1) [46]=true
 case neg=>simp [c3]; omega
 have l3:=isT_ltE hE c3
 simp only [wantS_none,c3,if_true]
 by_cases c4:kdT L (p+1+1+1)=1
 case neg=>simp [c4]; omega
 have l4:=kdT_ltE hE (show kdT L (p+1+1+1) ≠ 0 by omega)
 simp only [wordS_none,c4,if_true]
 by_cases c5:isT L (p+1+1+1+1) [59]=true
 case neg=>simp [c5]; omega
 simp [c2,c3,c4,c5]
 simp [Int.add_assoc,Nat.add_assoc]
def LamRel (L:List Tk) (n:Nat) (s:PSt) (p t b:N) (s':PSt):Prop:=∃ s1 s2,Rel L n .params s p s1∧Rel L n .typed s1 t s2∧Rel L n .block s2 b s'
theorem RHas.lambda' (hR:RHas P R) (hE:EndsL L) (hL:L.length≤1048576) (n:Nat) (hn:n≤1099511627776) (hPa:UR P R.tr z L n .params R.params) (hTy:UR P R.tr z L n .typed R.typed) (hBl:UR P R.tr z L n .block R.block) (hi:i < H.length) (hb:s.1≤1048576+1) (h5:5≤n) (hp:s.2=none→s.1 < L.length∧16 * (L.length - s.1)+5≤n) :
 ACall P R.lambda [.ptr i 0,.d (.int .i64 (s.1:Int))] (H.set i (rst R.tr z L s.2)++X) (fun r H'=>∃ p t b s',r = .tup [.d (.sl false 6 [p.enc,t.enc,b.enc]),.d (.int .i64 (s'.1:Int))]∧H'=H.set i (rst R.tr z L s'.2)++X∧LamRel L n s p t b s'):=by
 obtain ⟨fn,hf,hcf⟩:=hR.lambda
 refine acall_fin hf hcf (by simp [irR7Lambda]) fun hcl _ => ?_
 have pr:∀ {s1:PSt} {g:G},g.c≤5→MoE L s s1→s1.1+16 * g.c≤281474976710656→PPreR L n g s1:=fun {s1 g} hc hm hbb=>by
  refine ⟨⟨hbb,by omega,fun e => ?_⟩,fun e => ?_⟩
  · obtain ⟨a1,a2,a3⟩:=hm e
    obtain ⟨c1,c2⟩:=hp a1
    have:=a3 c1
    exact ⟨by omega,by omega⟩
  · obtain ⟨a1,a2,a3⟩:=hm e
    exact a3 (hp a1).1
 obtain ⟨Q,hQ⟩:∃ Q:A→Hp→Prop,Q=fun r H'=>∃ p t b s',r = .tup [.d (.sl false 6 [p.enc,t.enc,b.enc]),.d (.int .i64 (s'.1:Int))]∧H'=H.set i (rst R.tr z L s'.2)++X∧LamRel L n s p t b s':=⟨_,rfl⟩
 rw [← hQ]
 have hcc:∀ st Y,Hp.cut (H.length+X.length) (H.set i (rst R.tr z L st)++(X++Y))=H.set i (rst R.tr z L st)++X:=fun st Y=>by
  have hcl':Hp.Closed ((H++X).set i (rst R.tr z L s.2)):=by rw [List.set_append_left _ _ hi]; exact hcl
  have:=rcut (st':=st) (X:=Y) hcl'
  rw [List.set_append_left _ _ hi,List.length_append,List.append_assoc] at this
  exact this
 simp [irR7Lambda]
 refine CallK_of (hPa H X i s hi (pr (by decide) (.refl s) (by simp only [G.c]; omega))) ?_
 rintro _ _ ⟨t1,s1,rfl,rfl,r1⟩
 have m1:=r1.moE hE
 have b1:=r1.wt0 rfl
 obtain ⟨ka,fa,ta,wa,qa,za,ksa⟩:=t1
 rw [N.v_mk]
 simp
 refine CallK_of (hTy H _ i s1 hi (pr (by decide) m1 (by simp only [G.c]; omega))) ?_
 rintro _ _ ⟨t2,s2,rfl,rfl,r2⟩
 have m2:=m1.trans (r2.moE hE)
 have b2:=r2.wt0 rfl
 obtain ⟨kb,fb,tb,wb,qb,zb,ksb⟩:=t2
 rw [N.v_mk]
 simp
 refine CallK_of (hBl H _ i s2 hi (pr (by decide) m2 (by simp only [G.c]; omega))) ?_
 rintro _ _ ⟨t3,s3,rfl,rfl,r3⟩
 obtain ⟨kc,fc,tc,wc,qc,zc,ksc⟩:=t3
 rw [N.v_mk]
 simp
 simp [RetK,hcc]
 subst hQ
 refine ⟨_,_,_,s3,?_,rfl,s1,s2,r1,r2,r3⟩
 simp [N.enc_mk]
end
end
section
section
variable {P:Program} {R:RF} {z:Bool} {L:List Tk} {H X:Hp} {i:Nat} {s:PSt}
theorem RHas.def' (hR:RHas P R) (hE:EndsL L) (hL:L.length≤1048576) (n:Nat) (hn:n≤1099511627776) (hPa:UR P R.tr z L n .params R.params) (hTy:UR P R.tr z L n .typed R.typed) (hBl:UR P R.tr z L n .block R.block) (hi:i < H.length) (p:Nat) (hpp:PPreR L (n+1) .defn (p,none)) :
 ACall P R.def_ [.ptr i 0,.d (.int .i64 (p:Int))] (H.set i (rst R.tr z L none)) (RQ R.tr z L (n+1) .defn H i [] (p,none)):=by
 obtain ⟨fn,hf,hcf⟩:=hR.def_
 refine acall_fin hf hcf (by simp [irR7Def]) fun hcl _ => ?_
 have hp:p < L.length:=hpp.2 rfl
 obtain ⟨-,hp2⟩:=hpp.1.2.2 rfl
 simp only [G.c] at hp2
 have hp1:(((p:Nat),none):PSt).2=none→(((p:Nat),none):PSt).1 < L.length:=fun _=>hp
 have g1:=fun X=>hR.wantA (z:=z) (s:=(p,none)) (X:=X) hi hp1 (by simp only; omega) [100,101,102]
 generalize h1:wantS L [100,101,102] (p,none)=s1 at g1
 have b1:=wantS_le h1
 have m1:=wantS_moE hE h1
 have g2:=fun X=>hR.wordA (z:=z) (s:=s1) (X:=X) hi (m1.lt hp1) (by simp only at b1; omega) 3 p 0 [] 0 true []
 generalize h2:wordS L s1=s2 at g2
 have b2:=wordS_le h2
 have m2:=m1.trans (wordS_moE hE h2)
 simp only [ag] at g2
 simp [irR7Def]
 refine CallK_of' (g1 _) ?_
 simp
 refine CallK_of' (g2 _) ?_
 simp
 refine CallK_of (hR.lambda' (X:=_) hE hL n hn hPa hTy hBl hi (by simp only at b1; omega) (by omega) (fun e=>by
  obtain ⟨a1,a2,a3⟩:=m2 e
  have:=a3 hp
  simp only at a2 this
  exact ⟨this,by omega⟩)) ?_
 rintro _ _ ⟨t1,t2,t3,s3,rfl,rfl,u1,u2,r1,r2,r3⟩
 simp
 have g5:=hR.ended.rended 3 p 0 (if wordOkB L s1 then txT L s1.1 else []) (if wordOkB L s1 then (s1.1:Int) else 0) true [] (s3.1:Int) false [t1.enc,t2.enc,t3.enc]
 simp only [ag] at g5
 refine CallK_of' (g5 _) ?_
 simp
 simp [RetK,rcut hcl]
 refine ⟨N.new 3 p s3.1 (if wordOkB L s1 then txT L s1.1 else []) (if wordOkB L s1 then (s1.1:Int) else 0) [t1,t2,t3],s3,?_,by simp,?_⟩
 · simp [N.new,N.v_mk]
 clear b1 b2 m1 m2 g1 g2 g5
 subst h1 h2
 simp only [Rel,pp,wantR,wordR,kDef]
 by_cases c1:isT L p [100,101,102]=true
 case neg =>
  simp [c1] at r1
  obtain ⟨a,rfl,e3⟩:=r1.some'
  obtain ⟨b,rfl,e4⟩:=r2.some'
  obtain ⟨c,rfl,e5⟩:=r3.some'
  simp only [G.wt] at e3 e4 e5
  simp [c1]
  omega
 have l1:=isT_ltE hE c1
 simp only [wantS_none,c1,if_true] at r1 ⊢
 by_cases c2:kdT L (p+1)=1
 case neg =>
  simp [c2] at r1
  obtain ⟨a,rfl,e3⟩:=r1.some'
  obtain ⟨b,rfl,e4⟩:=r2.some'
  obtain ⟨c,rfl,e5⟩:=r3.some'
  simp only [G.wt] at e3 e4 e5
  simp [c1,c2]
  omega
 simp only [wordS_none,c2,if_true] at r1
 rcases r1.none' with ⟨q,a,e,rfl,e3⟩ | ⟨k,e,rfl⟩
 · obtain ⟨b,rfl,e4⟩:=r2.some'
   obtain ⟨c,rfl,e5⟩:=r3.some'
   simp only [G.wt] at e4 e5
   simp [c1,c2,e,PR.then]
   omega
 rcases r2.none' with ⟨q,a,e',rfl,e4⟩ | ⟨k',e',rfl⟩
 · obtain ⟨c,rfl,e5⟩:=r3.some'
   simp only [G.wt] at e5
   simp [c1,c2,e,e',PR.then]
   omega
 rcases r3.none' with ⟨q,a,e'',rfl,e5⟩ | ⟨k'',e'',rfl⟩
 · simp [c1,c2,e,e',e'',PR.then]
   omega
 simp [c1,c2,e,e',e'',PR.then]
theorem RHas.typed' (hR:RHas P R) (hE:EndsL L) (hL:L.length≤1048576) (n:Nat) (hn:n≤1099511627776) (hK:UR P R.tr z L n .kind R.kind):UR P R.tr z L (n+1) .typed R.typed:=by
 refine UR_of fun H i s hi hpp => ?_
 obtain ⟨fn,hf,hcf⟩:=hR.typed
 refine acall_fin hf hcf (by simp [irR7Typed]) fun hcl _ => ?_
 have hp0:=hpp.1.1
 simp only [G.c] at hp0
 obtain ⟨p,st⟩:=s
 have hget:∀ st X,(H.set i (rst R.tr z L st)++X)[i]?=some (rst R.tr z L st):=fun st X=>upG hi
 have hget0:∀ st,(H.set i (rst R.tr z L st))[i]?=some (rst R.tr z L st):=fun st=>set_get hi _
 have hcc:∀ st' X,Hp.cut H.length (H.set i (rst R.tr z L st')++X)=H.set i (rst R.tr z L st'):=fun st' X=>rcut hcl
 cases st with
 | some q =>
   have hq:¬ (q:Int) < 0:=by omega
   have hq':(0:Int)≤q:=by omega
   have hg1:=hget (some q)
   have hg2:=hget0 (some q)
   have hc:=hcc (some q)
   simp only [rst] at hg1 hg2 hc
   simp [irR7Typed,rst,hg1,hg2,hq,hq']
   simp [RetK,hc]
   refine ⟨N.none,(p,some q),by simp [N.none,N.new,N.v_mk],by simp [rst],?_⟩
   simp [Rel]
 | none =>
   have hp:p < L.length:=hpp.2 rfl
   obtain ⟨hp1,hp2⟩:=hpp.1.2.2 rfl
   simp only [G.c] at hp1 hp2
   have g:=fun X=>hR.isA (z:=z) (st:=none) (X:=X) hi hp [58]
   have hw:IntKind.i64.wrap ((p:Int)+1)=((p+1:Nat):Int):=by rw [wrap_i64 (by omega) (by omega)]; omega
   have hg1:=hget none
   have hg2:=hget0 none
   simp only [rst] at hg1 hg2
   cases hT:isT L p [58] with
   | false =>
     rw [hT] at g
     simp only [rst] at g
     simp [irR7Typed,rst,hg1,hg2]
     refine CallK_of' (g _) ?_
     simp
     have hc:=hcc none
     simp only [rst] at hc
     simp [RetK,hc]
     refine ⟨N.none,(p,none),by simp [N.none,N.new,N.v_mk],by simp [rst],?_⟩
     simp [Rel,pp,hT]
   | true =>
     have hl:=isT_ltE hE hT
     rw [hT] at g
     have gk:=fun X=>hK H X i (p+1,none) hi ⟨⟨by simp only [G.c]; omega,by simp only [G.c]; omega,fun _=>⟨by simp only; omega,by simp only [G.c]; omega⟩⟩,fun _=>hl⟩
     obtain ⟨Q,hQ⟩:∃ Q:A→Hp→Prop,Q=RQ R.tr z L (n+1) .typed H i [] (p,none):=⟨_,rfl⟩
     rw [← hQ]
     simp only [rst] at g gk
     simp [irR7Typed,rst,hg1,hg2,hw]
     refine CallK_of' (g _) ?_
     simp [hw]
     refine CallK_of (gk _) ?_
     rintro _ _ ⟨m,s',rfl,rfl,hr⟩
     obtain ⟨k,f,t,w,a,zz,ks⟩:=m
     rw [N.v_mk]
     simp
     simp [RetK,hcc]
     subst hQ
     refine ⟨_,s',by rw [N.v_mk],by simp,?_⟩
     simp only [Rel] at hr ⊢
     simp [pp,hT]
     split at hr
     · exact hr.elim
     · rename_i q e
       exact ⟨hr.1,by omega⟩
     · rename_i m' k' e
       exact hr
end
end
end Go.Zam
