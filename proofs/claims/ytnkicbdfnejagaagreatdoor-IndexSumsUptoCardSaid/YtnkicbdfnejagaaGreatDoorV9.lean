import Derived.Test.YtnkicbdfnejagaaGreatDoorV8
import Derived.Test.YtnkicbdfnejagaaGreatDoorV5
import Derived.Test.YtnkicbdfnejagaaGreatDoorV2
import Derived.Test.YtnkicbdfnejagaaGreatDoorProg
import Derived.Test.YtnkicbdfnejagaaGreatDoorV6
import Derived.Test.YtnkicbdfnejagaaGreatDoorV3
import Derived.Shelf.Sort.Plain
import Derived.Shelf.Slices.In.SortNone
import Derived.Shelf.SlSortCmp.NoneTotal
import Derived.Shelf.SlSortCmp.WholeK
import Derived.Shelf.Small.Bits
import Derived.Shelf.Lays
import Derived.Ground.NamesProg
import Derived.Ground.SlsfProg
import Derived.Lib.Small
import Derived.Lib.Walk
import Derived.WalkKit
import Derived.Sort.Grow
import Derived.StillTailTactics
import Derived.RangeFuncRecord
import Derived.Test.YtnkicbdfnejagaaGreatDoorV7
import Derived.KernelRfl
import Derived.Tactics
import Derived.Tactics2
import Derived.StillTactics
import Derived.LoopTactic
import Derived.LoopN
import Derived.Handy
import Derived.Carry
import Derived.Test.YtnkicbdfnejagaaGreatDoorV4
import Derived.Maps.Keyed
import Derived.WideKeyEntry
import Derived.DeepKeys4
import Derived.Laws.IdiomRangeMap
set_option linter.all false
set_option maxRecDepth 100000
set_option maxHeartbeats 4000000
namespace Go.Zam
variable{P:Program}
section
open Go.RowKit (Below)
open Go.Proofs Go.Sort
def Qa1(p:Bs×Int):List D:=[.str p.1,.int .i64 p.2]
def Qkm(L:List (Bs×Int)):Zs L=(L.map Qa1).map (List.map .d):=by simp[Zs,spA,Qa1]
def Qkc(P:Program)(f g:FuncId):Prop:=∀(a:Option Addr)(cap:Nat)(w:World),Calls P f #[.slice a 0 cap,.func (.func g) #[] #[]] w λe w'=>e=.returned (.tuple #[])/\w'=w
def Qmc{P:Program}{f g:FuncId}(hC:Qkc P f g){H:Hp}{i k:Nat}:Qc P f [.vsl i k 0,.d (.fn g)] H (λr H'=>r=.tup []/\H'=H):=by
 intro κ w vs hr hvl hv;match vs,hvl with
 |[v,vf],_=>
 have hv0:=hv 0 v _ rfl rfl;have hvf:=(hv 1 vf _ rfl rfl).fn_inv;subst hvf;cases hv0 with
 |vsl _ _ _ ad cap hl hf=>
 refine(hC ad cap w).mono ?_;rintro e w' ⟨rfl,rfl⟩;exact⟨_,κ,_,_,rfl,K.le_refl κ,hr,.tup [] [] rfl (by simp),rfl,rfl⟩
def Has.ixSort{P:Program}{f srt cmp:FuncId}{le:(Bs×Int)->(Bs×Int)->Bool}(h:Has P f (Qhv srt cmp))(hS:Qoh P srt cmp le)(h0:Qkc P srt cmp)(L:List (Bs×Int))(hl:L.length<=1099511627776){H1:Hp}(hcl1:H1.Closed)(k e:Nat):
 Qc P f [.vsl H1.length k L.length] (H1++[.vec 2 e k (L.map Qa1)]) (λr H'=>r=.vsl H1.length k L.length/\H'=H1++[.vec 2 e k ((L.mergeSort le).map Qa1)]):=by
 refine Qf h (by simp[Qhv]) λO _=>?_;have hcall:Qc P srt [.vsl H1.length k L.length,.d (.fn cmp)] (H1++[.vec 2 e k (L.map Qa1)]) (λr H'=>r=.tup []/\H'=H1++[.vec 2 e k ((L.mergeSort le).map Qa1)]):=by
  by_cases hne:L=[]
  .subst hne;simpa using Qmc h0 (H:=H1++[.vec 2 e k []]) (i:=H1.length) (k:=k)
  .have hsrt:=Qnq hS (L:=L) hne (by omega) (H:=H1++[.dead,.arr 2 ((L.map Qa1).map (List.map .d))]) (i:=H1.length+1) (by rw[Qr,Qkm];rfl);have hv:=Qc.vecCall (P:=P) (f:=srt) (k:=k) (e:=e) (sz:=2) (args:=[.d (.fn cmp)]) (rows:=L.map Qa1) (rows':=(L.mergeSort le).map Qa1) hcl1 (by simpa using hne) (by simp[Q23]) (by rw[Q1l];refine hsrt.mono ?_;rintro r H' ⟨rfl,rfl⟩;refine⟨rfl,?_⟩;rw[Zh,Qkm];rfl)
   rw[Q1l]at hv;exact hv
 simp[Qhv];refine Qa hcall ?_;have hc2:Hp.cut (H1.length+1) (H1++[.vec 2 e k ((L.mergeSort le).map Qa1)])=H1++[.vec 2 e k ((L.mergeSort le).map Qa1)]:=by have:=Qu hcl1 1 [.vec 2 e k ((L.mergeSort le).map Qa1)];rw[this];rfl
 simp[RetK,hc2]
end
section
open Go.Proofs
def Qin(srtI tm mn tint:Nat):IFn:=by
 have h:=Ix.J [2000039,9000023] Tryz.f19 [(27,srtI)] [(39,tm),(91,mn),(3,tint)];conv at h=>arg 1;reduce
 exact h.p
end
section
def encI(t:Int):List D:=[.int .i64 t]
def isort(L:List Int):List Int:=L.mergeSort λx y=>decide (x<=y)
def Qil(L:List Int):(isort L).length=L.length:=Q23 L
def Qlb(L:List Int):(isort L).Perm L:=List.mergeSort_perm L _
def Qja(L:List Int):Zd L=(L.map encI).map (List.map .d):=by simp[Zd,encI]
section
variable{P:Program}{tn tm bd mn ed tint:Nat}
def Has.scUses{f srt:FuncId}(hf:HasT P [2000039,9000023] f (Qin srt tm mn tint))(hS:Qoi P srt){S:SM}{z1 z2:Bool}{bad:D}(hl:S.ms.length<=1099511627776)(i:Nat)(hi:i<S.bs.length)(H:Hp):
 Qc P f [.agg [YL z1 4 (S.bs.map Q4),YL z2 4 (S.ms.map Yd),.d bad],YI i] H (λr H'=>r=YL false 1 ((isort (Yn S i)).map encI)/\H'=H):=by
 have hne:(isort (Yn S i)).map encI≠[]:=by intro h;have h1:=congrArg List.length h;rw[Q1l,Qil]at h1;simp[Yn]at h1
 have hle:(Yn S i).length<=S.ms.length+1:=by unfold Yn;have:=Q3i (λm:Mn=>decide (m.t=(i:Int))) S.ms;simp only[Q03,Q1l];omega
 refine Qc.freezeVec (j:=1) (k:=(Yn S i).length) (e:=tint) hne ?_;obtain⟨fn,hff,hcf⟩:=hf;refine Z7 2 hff hcf (by simp[Qin]) λO _=>?_;obtain⟨bs,ms,bd'⟩:=S;simp only at hl hi hle;obtain⟨bx,hbx⟩:∃bx,bx=Ob.box tm [YL z1 4 (bs.map Q4),YL z2 4 (ms.map Yd),.d bad]:=⟨_,rfl⟩;have hbc:∀n,bx.clr n=bx:=λn=>by subst hbx;simp
 have hi0:¬(i:Int)<0:=by omega
 have hi1:¬(bs.length:Int)<=(i:Int):=by omega
 have hr:=Qy Q4 hi;have hbi:bAt bs (i:Int)=bs[i]:=by unfold bAt;rw[Q16,Q1v,Q0o hi];rfl
 have hU:Yn ⟨bs,ms,bd'⟩ i=bs[i].a::(ms.filter λm=>decide (m.t=(i:Int))).map Mn.a:=by unfold Yn;simp only;rw[hbi]
 generalize bs[i]=b at hr hU;obtain⟨ba,bk,bw,bi⟩:=b;simp only[Q4]at hr;simp only at hU;let U:Nat->List Int:=λj=>ba::((ms.take j).filter λm=>decide (m.t=(i:Int))).map Mn.a;have hU0:U 0=[ba]:=rfl;have hUn:U ms.length=Yn ⟨bs,ms,bd'⟩ i:=by rw[hU];show _::_=_;rw[Q04 (Q0q _)]
 have hUl:∀j,(U j).length<=ms.length+1:=λj=>by
  have h1:=Q3i (λm:Mn=>decide (m.t=(i:Int))) (ms.take j);have h2:(ms.take j).length<=ms.length:=by simp;omega
  show(_::List.map _ _).length<=_;simp only[Q03,Q1l];omega
 let HY:Nat->Hp:=λj=>[bx,.vec 1 tint (U j).length ((U j).map encI)];have hc:∀j X,Hp.cut (H.length+2) (H++(HY j++X))=H++HY j:=λj X=>by rw[Qu O];have hv:∀n s e k r,(Ob.vec s e k r).clr n=Ob.vec s e k r:=λ_ _ _ _ _=>rfl;simp[HY,hbc,hv,-Ob.clr]
 have hc0:∀j,Hp.cut (H.length+2) (H++HY j)=H++HY j:=λj=>by have:=hc j [];rwa[Q1a]at this
 have e0:∀j X,(HY j++X)[0]?=some (Ob.box tm [YL z1 4 (bs.map Q4),YL z2 4 (ms.map Yd),.d bad]):=λj X=>by rw[<-hbx];rfl
 have e1:∀j X,(HY j++X)[1]?=some (.vec 1 tint (U j).length ((U j).map encI)):=λj X=>rfl;have e2:∀j x X,(HY j++x::X)[2]?=some x:=λj x X=>rfl;have s2:∀j x y X,(HY j++x::X).set 2 y=HY j++y::X:=λj x y X=>rfl;have lY:∀j,(HY j).length=2:=λj=>rfl;have hst:H++[bx,Ob.vec 1 tint 1 [[D.int .i64 ba]]]=H++HY 0:=rfl;simp[Qin,hi0,hi1,hr,Q3s,-getElem?_pos];rw[<-hbx,hst];refine Q6 0 (λfr H'=>fr 5=.vsl (H.length+1) (U ms.length).length (U ms.length).length/\H'=H++HY ms.length) ?_ ?_
 .refine Wz (H.length+2) ms.length (λj fr H'=>fr 1=YI i/\fr 5=.vsl (H.length+1) (U j).length (U j).length/\fr 25=YL z2 4 (ms.map Yd)/\H'=H++HY j) (by omega) (by decide) (by simp[lY]) (by simp) ?_ ?_ ?_
  .exact⟨by simp,by simp[hU0],by simp,hc0 0⟩
  .rintro j fr H' hj f27 f26 ⟨f1,f5,f25,rfl⟩;have hr2:=Qy Yd hj;have hstep:U (j+1)=if ms[j].t=(i:Int)then U j++[ms[j].a]else U j:=by
    show _::_=_;rw[Q00 hj,Q3g,Q2o];by_cases h:ms[j].t=(i:Int)
    .rw[if_pos h];simp[h,U]
    .rw[if_neg h];simp[h,U]
   generalize ms[j]=x at hr2 hstep;obtain⟨xa,xt,xw,xf⟩:=x;simp only[Yd]at hr2;simp only at hstep;have hfit:((U j).length+1)*8<=140737488355328:=by have:=hUl j;omega
   have htk:List.take (U j).length ((U j).map encI)=(U j).map encI:=Q04 (by simp);have hlm:((U j).map encI).length=(U j).length:=Q1l _;have e1':=e1 j;have e2':=e2 j;have s2':=s2 j;have lY':=lY j;by_cases h:xt=(i:Int)
   .rw[if_pos h]at hstep;have hs1:∀X,(HY j++X).set 1 (.vec 1 tint ((U j).length+1) ((U j).map encI++[[D.int .i64 xa]]))=HY (j+1)++X:=λX=>by show[bx,_]++X=[bx,_]++X;rw[hstep];simp[encI]
    have hlU:(U (j+1)).length=(U j).length+1:=by rw[hstep];simp
    have hcj:=hc (j+1);have lY2:=lY (j+1);generalize hY2:HY (j+1)=Y2 at hs1 hcj lY2⊢;generalize HY j=Y at e1' e2' s2' lY' hs1⊢;simp[f27,f25,f1,f5,hr2,h,e2',s2',lY',Ql2,e1',hfit,htk,hlm,hs1,-getElem?_pos];refine Wp (H.length+2) (Q0q _) (by simp[lY2,f27,f26]) ?_;exact⟨by simp[f1],by simp[hlU],by simp[f25],(hcj _).trans (by rw[hY2])⟩
   .rw[if_neg h]at hstep;have hlU:(U (j+1)).length=(U j).length:=by rw[hstep]
    have hYY:HY (j+1)=HY j:=by show[bx,_]=[bx,_];rw[hstep]
    have hcj:=hc j;rw[<-hYY]at e1' e2' s2' lY' hcj;rw[<-hYY];generalize hY2:HY (j+1)=Y at e1' e2' s2' lY' hcj⊢;simp[f27,f25,f1,hr2,h,e2',s2',lY',-getElem?_pos];refine Wp (H.length+2) (Q0q _) (by simp[lY',f27,f26]) ?_;exact⟨by simp[f1],by simp[f5,hlU],by simp[f25],(hcj _).trans (by rw[hY2])⟩
  .rintro fr H' f27 f26 ⟨f1,f5,f25,rfl⟩;simp;exact f5
 .rintro fr H' ⟨f5,rfl⟩;rw[hUn]at f5;have hHY:H++HY ms.length=(H++[bx])++[.vec 1 tint (Yn ⟨bs,ms,bd'⟩ i).length ((Yn ⟨bs,ms,bd'⟩ i).map encI)]:=by show H++[bx,_]=_;rw[hUn];simp
  rw[hHY];generalize Yn ⟨bs,ms,bd'⟩ i=L at f5 hne hle⊢;have hLne:L≠[]:=λh=>hne (by subst h;simp[isort]);have hcl1:Hp.Closed (H++[bx]):=Closed.snoc O λn _=>hbc n;have hsrt:=Qmd hS (L:=L) hLne (by omega) (H:=(H++[bx])++[.dead,.arr 1 ((L.map encI).map (List.map .d))]) (i:=(H++[bx]).length+1) (by rw[Qr,Qja];rfl);have hv:=Qc.vecCall (P:=P) (f:=srt) (k:=L.length) (e:=tint) (args:=[]) (rows:=L.map encI) (rows':=(isort L).map encI) hcl1 (by simpa using hLne) (by simp[Qil]) (by rw[Q1l];refine hsrt.mono ?_;rintro r H' ⟨rfl,rfl⟩;refine⟨rfl,?_⟩;rw[Zh,<-isort,Qja];rfl);rw[Q1l,show(H++[bx]).length=H.length+1 by simp]at hv;simp[f5,-List.append_assoc];refine Qa hv ?_;simp[f5,RetK,resA,-List.append_assoc];refine⟨[bx,.vec 1 tint L.length ((isort L).map encI)],rfl,(Qil L).symm,?_⟩;have hv:∀n s e k r,(Ob.vec s e k r).clr n=Ob.vec s e k r:=λ_ _ _ _ _=>rfl;rw[Q06,Qu O];simp[hbc,hv,-Ob.clr]
end
end
section
open Go.Proofs
def Qc.freezeVecE{P:Program}{f:FuncId}{args:List A}{H:Hp}{j k sz e:Nat}{rows:List (List D)}(hk:rows=[]->k=0)(h:Qc P f args H (λr H'=>∃X:Hp,X[j]?=some (.vec sz e k rows)/\r=.vsl (H.length+j) k rows.length/\H'=H++X)):Qc P f args H (λr H'=>r=YL rows.isEmpty sz rows/\H'=H):=by
 by_cases hne:rows=[]
 .subst hne;have hk:=hk rfl;subst hk;intro κ w vs hr hl hv;refine(h κ w vs hr hl hv).mono ?_;rintro ev w' ⟨v,κ',r,H',h1,h2,h3,h4,X,hX,rfl,rfl⟩;have ho:=h3.ob (H.length+j) _ (by rw[Qr];exact hX);have hn:κ'.β (H.length+j)=.nilV:=by
   rcases ho with⟨h,-,-⟩|⟨b,c,cur,-,h,-⟩
   .exact h
   .exact absurd rfl (h rfl)
  cases h4 with
  |vsl _ _ _ ad cap hlc hf=>
  rw[hn]at hf;obtain⟨-,-,hv'⟩:=hf;have g:=h3.cut H.length (by simp);rw[Qg hr.closed]at g;refine⟨_,κ'.cut H.length,YL true sz [],H,h1,K.le_cut h2 hr.dom,g,?_,rfl,rfl⟩;rw[hv'];exact .d (.nilsl sz)
 .have hb:rows.isEmpty=false:=by cases rows with
   |nil=>exact absurd rfl hne
   |cons=>rfl
  rw[hb];exact Qc.freezeVec hne h
def Qud:Qa1=Qct:=rfl
def atT(u:Un)(t:Int):Int:=((u.tk[t.toNat]?).map λt=>(t.a:Int)).getD 0
def qlB(S:List Un)(s:Bs×Int)(u:Un)(i:Nat)(b:SBd):List (Bs×Int):=if ofSy S u b=s then(isort (Yn u.sm i)).map λt=>(u.n,atT u t)else[]
def qlK(S:List Un)(s:Bs×Int)(u:Un)(j:Nat):List (Bs×Int):=((u.sm.bs.take j).mapIdx (qlB S s u)).flatten
def qlU(S:List Un)(s:Bs×Int)(u:Un):List (Bs×Int):=qlK S s u u.sm.bs.length
def qlS(S:List Un)(s:Bs×Int)(T:List Un):List (Bs×Int):=T.flatMap (qlU S s)
def Qkx{S:List Un}{s:Bs×Int}{u:Un}{j:Nat}{b:SBd}(h:u.sm.bs[j]?=some b):qlK S s u (j+1)=qlK S s u j++qlB S s u j b:=by have hj:=(Q0n.1 h).1;unfold qlK;rw[Q3j,h];simp only[Option.toList_some];rw[List.mapIdx_append];simp[Q4b (Nat.le_of_lt hj)]
def Qvv{S T:List Un}{s:Bs×Int}{j:Nat}{u:Un}(h:T[j]?=some u):qlS S s (T.take (j+1))=qlS S s (T.take j)++qlU S s u:=by rw[Q3j,h];simp[qlS]
def Qzq{S T:List Un}{s:Bs×Int}(j:Nat):(qlS S s (T.take j)).length<=(qlS S s T).length:=by
 have h:qlS S s T=qlS S s (T.take j)++qlS S s (T.drop j):=by unfold qlS;rw[<-Q4c,Q1k]
 rw[h];simp
def Qvw{S:List Un}{s:Bs×Int}{u:Un}:∀(n j:Nat),j+n=u.sm.bs.length->(qlK S s u j).length<=(qlU S s u).length
 |0,j,h=>by rw[Q2v]at h;subst h;exact Q0q _
 |n+1,j,h=>by have h1:=Qvw (S:=S) (s:=s) (u:=u) n (j+1) (by omega);rw[Qkx (Q0o (show j<u.sm.bs.length by omega))]at h1;simp only[Q1j]at h1;omega
def Qqr(P:Program)(S:List Un)(f:Nat):Prop:=∀u∈S,∀i,i<u.sm.bs.length->∀H,Qc P f [.agg (u.sm.enc.map .d),YI i] H (λr H'=>r=YL false 1 ((isort (Yn u.sm i)).map encI)/\H'=H)
def HasT.ixPlaces{f names unit ixOf uses ixSort srt cmp tSy tU tBd tSp:Nat}{le:(Bs×Int)->(Bs×Int)->Bool}{S:List Un}(h:HasT P [5,11000005,2000061] f (Qfi names unit ixOf uses ixSort tSy tU tBd tSp))(hn:Qyi P S names)(hu:Qi1 P S unit)(hself:Qyw S)(hO:Qr5 P S ixOf)(hU:Qqr P S uses)(hx:Has P ixSort (Qhv srt cmp))(hS:Qoh P srt cmp le)(hS0:Qkc P srt cmp)(hl:S.length<=8)(hb:∀u∈S,u.sm.bs.length<=1048576)(hus:∀u∈S,∀i,i<u.sm.bs.length->∀t∈isort (Yn u.sm i),0<=t/\t.toNat<u.tk.length)(s:Bs×Int)(hmax:(qlS S s S).length<=1099511627776)(H:Hp):
 Qc P f [pA S,.agg [YS s.1,YI s.2]] H (λr H'=>r=YL (((qlS S s S).mergeSort le).map Qct).isEmpty 2 (((qlS S s S).mergeSort le).map Qct)/\H'=H):=by
 refine Qc.freezeVecE (j:=1) (k:=(qlS S s S).length) (e:=tSp) (λe=>?_) ?_
 .have h1:=congrArg List.length e;rw[Q1l,Q23]at h1;exact h1
 obtain⟨fn,hf,hcf⟩:=h;refine Z7 2 hf hcf (by simp[Qfi]) λO _=>?_;obtain⟨sy,hsy⟩:∃sy,sy=Ob.box tSy [YS s.1,YI s.2]:=⟨_,rfl⟩;have hsc:∀n,sy.clr n=sy:=λn=>by subst hsy;rfl
 have hnm:=λX=>hn (H++X);simp only[pA]at hnm;simp[Qfi,pA];refine Qa (hnm _) ?_;simp;rw[<-hsy];let HY:List (Bs×Int)->Hp:=λR=>[sy,.vec 2 tSp R.length (R.map Qct)];have hv:∀n s e k r,(Ob.vec s e k r).clr n=Ob.vec s e k r:=λ_ _ _ _ _=>rfl;have hc:∀R X,Hp.cut (H.length+2) (H++(HY R++X))=H++HY R:=λR X=>by rw[Qu O];simp[HY,hsc,hv,-Ob.clr]
 have hst:H++[sy,Ob.vec 2 tSp 0 []]=H++HY []:=rfl;rw[hst];have lY:∀R,(HY R).length=2:=λR=>rfl;refine Q6 0 (λfr H'=>fr 5=.vsl (H.length+1) (qlS S s S).length (qlS S s S).length/\H'=H++HY (qlS S s S)) ?_ ?_
 .refine Wz (H.length+2) S.length (λj fr H'=>fr 0=.eptr [.sl S.isEmpty 14 (S.map Un.enc)]/\fr 3=.ptr H.length 0/\fr 15=YL true 1 (S.map λu=>[.str u.n])/\fr 5=.vsl (H.length+1) (qlS S s (S.take j)).length (qlS S s (S.take j)).length/\
   H'=H++HY (qlS S s (S.take j))) (by omega) (by decide) (by simp[lY]) (by simp) ?_ ?_ ?_
  .exact⟨by simp,by simp,by simp,by simp[qlS],by have:=hc [] [];simpa[qlS]using this⟩
  .rintro j fr H' hj fi fn ⟨f0,f3,f15,f5,rfl⟩;obtain⟨u,hu'⟩:∃u,S[j]?=some u:=⟨_,Q0o hj⟩;have hum:=Q05 hu';have hrow:Zam.rowAt (S.map λu=>[D.str u.n]) (j:Int)=some [.str u.n]:=by simp[Zam.rowAt,hu']
   have hst:=Qvv (S:=S) (s:=s) hu';have hun:=λX=>hu u.n (H++X);rw[hself u hum]at hun;obtain⟨zu,ms,he⟩:=u.enc_all;simp only[Q4u,Q3r,he,Q1o,Q2f,pA]at hun;have lYj:=lY (qlS S s (S.take j));simp[fi,f15,hrow,f0];refine Qa (hun _) ?_;simp[lYj];generalize hbx:Ob.box tU [A.d (.str u.n),A.d (.str u.t),A.d (.sl true 4 (u.tk.map Qt)),A.d (.int .i64 u.tr.k),A.d (.int .i64 u.tr.f),A.d (.int .i64 u.tr.t),A.d (.str u.tr.w),A.d (.int .i64 u.tr.at_),A.d (.sl zu 6 (u.tr.ks.map N.enc)),A.d (.sl u.sm.bs.isEmpty 4 (u.sm.bs.map Q4)),A.d ms,A.d (.sl u.sm.bad.isEmpty 2 (u.sm.bad.map Q3)),A.d (.int .i64 u.bad),A.d (.int .i64 u.pos)]=bx;have hbc:∀n,bx.clr n=bx:=λn=>by subst hbx;rfl
   obtain⟨R,hR⟩:∃R,R=qlS S s (S.take j):=⟨_,rfl⟩;rw[<-hR]at hst f5⊢;have hc3:∀R X,Hp.cut (H.length+3) (H++(HY R++bx::X))=H++(HY R++[bx]):=λR X=>by rw[Qu O];simp[HY,hsc,hbc,hv,-Ob.clr]
   refine Q6 2 (λfr H2=>fr 0=.eptr [.sl S.isEmpty 14 (S.map Un.enc)]/\fr 3=.ptr H.length 0/\fr 15=YL true 1 (S.map λu=>[.str u.n])/\fr 17=YI j/\fr 16=YI S.length/\
    fr 5=.vsl (H.length+1) (R++qlU S s u).length (R++qlU S s u).length/\∃X,H2=H++(HY (R++qlU S s u)++X)) ?_ ?_
   .refine Wz (H.length+3) u.sm.bs.length (λq fr H2=>fr 0=.eptr [.sl S.isEmpty 14 (S.map Un.enc)]/\fr 3=.ptr H.length 0/\fr 7=YS u.n/\fr 8=.ptr (H.length+2) 0/\fr 15=YL true 1 (S.map λu=>[.str u.n])/\fr 17=YI j/\fr 16=YI S.length/\
     fr 29=YL u.sm.bs.isEmpty 4 (u.sm.bs.map Q4)/\∃R2,R2=R++qlK S s u q/\fr 5=.vsl (H.length+1) R2.length R2.length/\H2=H++(HY R2++[bx])) (by have:=hb u hum;omega) (by decide) (by simp[lY]) (by simp) ?_ ?_ ?_
    .refine⟨by simp[f0],by simp[f3],by simp,by simp,by simp[f15],by simp[fi],by simp[fn],by simp,R,by simp[qlK],by simp[f5],hc3 R []⟩
    .rintro q fr H2 hq gi gn ⟨f0,f3,f7,f8,f15,f17,f16,f29,R2,hR2,f5,rfl⟩;have hr2:=Qy Q4 hq;have hbm:=Q1n hq;have hstp:=Qkx (S:=S) (s:=s) (Q0o hq);have hOb:=λX=>hO u hum _ hbm (H++X);rw[he]at hOb;have hUs:=λX=>hU u hum q hq (H++X);generalize u.sm.bs[q]=b at hr2 hstp hOb;obtain⟨ofS,hof⟩:∃o,o=ofSy S u b:=⟨_,rfl⟩;rw[<-hof]at hOb;have e0:∀X,(HY R2++X)[0]?=some (Ob.box tSy [YS s.1,YI s.2]):=λX=>by rw[<-hsy];rfl
     have e2:∀x X,(HY R2++x::X)[2]?=some x:=λx X=>rfl;have e3:∀x y X,(HY R2++x::y::X)[3]?=some y:=λx y X=>rfl;have s3:∀x y z X,(HY R2++x::y::X).set 3 z=HY R2++x::z::X:=λx y z X=>rfl;have lY2:=lY R2;have hc3':=hc3 R2;simp only[Q4,pA,Q1o,Q2f]at hr2 hOb;generalize hYe:HY R2=Y at e0 e2 e3 s3 lY2 hc3'⊢;subst hbx;simp[gi,f29,hr2,f0,f3,f8,lY2,e0,e2,e3,s3,-getElem?_pos];refine Vo (hOb _) ?_;have hms:ms=.sl u.sm.ms.isEmpty 4 (u.sm.ms.map Yd):=by obtain⟨a1,a2,a3,a4,a5,a6,a7,a8,a9,a10,-,h,-⟩:=u.enc_sm;rw[he]at h;simp at h;exact h.2.2.2.2.2.2.2.2.1
     have hcn:∀X,Hp.cut (H.length+3) (H++(Y++Ob.box tU [A.d (.str u.n),A.d (.str u.t),A.d (.sl true 4 (u.tk.map Qt)),A.d (.int .i64 u.tr.k),A.d (.int .i64 u.tr.f),A.d (.int .i64 u.tr.t),A.d (.str u.tr.w),A.d (.int .i64 u.tr.at_),A.d (.sl zu 6 (u.tr.ks.map N.enc)),A.d (.sl u.sm.bs.isEmpty 4 (u.sm.bs.map Q4)),A.d ms,A.d (.sl u.sm.bad.isEmpty 2 (u.sm.bad.map Q3)),A.d (.int .i64 u.bad),A.d (.int .i64 u.pos)]::X))=_:=hc3';by_cases hos:ofS=s
     .have hp1:qlB S s u q b=(isort (Yn u.sm q)).map λt=>(u.n,atT u t):=by unfold qlB;rw[<-hof,if_pos hos]
      have o1:ofS.1=s.1:=by rw[hos]
      have o2:ofS.2=s.2:=by rw[hos]
      have hTk:=hus u hum q hq;simp only[SM.enc,<-hms,Q1o,Q2f]at hUs;generalize isort (Yn u.sm q)=T at hp1 hUs hTk;simp[f3,f8,e0,e2,eqDs,eqD,o1,o2,-getElem?_pos];refine Qa (hUs _) ?_;simp;subst hYe;generalize hbd:Ob.box tBd [A.d (.int .i64 b.a),A.d (.int .i64 b.k),A.d (.str b.w),A.d (.int .i64 b.i)]=bd;generalize hbx:Ob.box tU [A.d (.str u.n),A.d (.str u.t),A.d (.sl true 4 (u.tk.map Qt)),A.d (.int .i64 u.tr.k),A.d (.int .i64 u.tr.f),A.d (.int .i64 u.tr.t),A.d (.str u.tr.w),A.d (.int .i64 u.tr.at_),A.d (.sl zu 6 (u.tr.ks.map N.enc)),A.d (.sl u.sm.bs.isEmpty 4 (u.sm.bs.map Q4)),A.d ms,A.d (.sl u.sm.bad.isEmpty 2 (u.sm.bad.map Q3)),A.d (.int .i64 u.bad),A.d (.int .i64 u.pos)]=bx;have hbdc:∀n,bd.clr n=bd:=λn=>by subst hbd;rfl
      have hbxc:∀n,bx.clr n=bx:=λn=>by subst hbx;rfl
      have hc4:∀R X,Hp.cut (H.length+4) (H++(HY R++bx::bd::X))=H++(HY R++[bx,bd]):=λR X=>by rw[Qu O];simp[HY,hsc,hbdc,hbxc,hv,-Ob.clr]
      have hc5:∀R X,Hp.cut (H.length+3) (H++(HY R++bx::X))=H++(HY R++[bx]):=λR X=>by rw[Qu O];simp[HY,hsc,hbxc,hv,-Ob.clr]
      rw[hp1]at hstp;refine Q6 4 (λfr H3=>fr 0=.eptr [.sl S.isEmpty 14 (S.map Un.enc)]/\fr 3=.ptr H.length 0/\fr 7=YS u.n/\fr 8=.ptr (H.length+2) 0/\fr 15=YL true 1 (S.map λu=>[.str u.n])/\fr 17=YI j/\fr 16=YI S.length/\
       fr 29=YL u.sm.bs.isEmpty 4 (u.sm.bs.map Q4)/\fr 31=YI q/\fr 30=YI u.sm.bs.length/\∃R3,R3=R2++T.map (λt=>(u.n,atT u t))/\fr 5=.vsl (H.length+1) R3.length R3.length/\∃X,H3=H++(HY R3++bx::X)) ?_ ?_
      .have hmx:R2.length+T.length<=1099511627776:=by have g1:=Qvw (S:=S) (s:=s) (u:=u) (u.sm.bs.length-(q+1)) (q+1) (by omega);rw[hstp]at g1;have g2:=Qzq (S:=S) (T:=S) (s:=s) (j+1);rw[hst]at g2;rw[hR2];simp only[Q1j,Q1l]at g1 g2⊢;omega
       refine Wz (H.length+4) T.length (λp fr H3=>fr 0=.eptr [.sl S.isEmpty 14 (S.map Un.enc)]/\fr 3=.ptr H.length 0/\fr 7=YS u.n/\fr 8=.ptr (H.length+2) 0/\fr 15=YL true 1 (S.map λu=>[.str u.n])/\fr 17=YI j/\fr 16=YI S.length/\
        fr 29=YL u.sm.bs.isEmpty 4 (u.sm.bs.map Q4)/\fr 31=YI q/\fr 30=YI u.sm.bs.length/\fr 45=YL false 1 (T.map encI)/\∃R3,R3=R2++(T.take p).map (λt=>(u.n,atT u t))/\fr 5=.vsl (H.length+1) R3.length R3.length/\H3=H++(HY R3++[bx,bd])) (by omega) (by decide) (by simp[lY]) (by simp) ?_ ?_ ?_
       .exact⟨by simp[f0],by simp[f3],by simp[f7],by simp[f8],by simp[f15],by simp[f17],by simp[f16],by simp[f29],by simp[gi],by simp[gn],by simp,R2,by simp,by simp[f5],hc4 R2 []⟩
       .rintro p fr H3 hp ki kn ⟨f0,f3,f7,f8,f15,f17,f16,f29,f31,f30,f45,R3,hR3,f5,rfl⟩;have hr3:=Qy encI hp;obtain⟨ht0,ht1⟩:=hTk _ (Q1n hp);have hstp3:R2++(T.take (p+1)).map (λt=>(u.n,atT u t))=R3++[(u.n,atT u T[p])]:=by rw[Q00 hp,hR3,Q2o,Q06];rfl
        have hR3l:R3.length=R2.length+p:=by rw[hR3];simp;omega
        generalize T[p]=t at hr3 ht0 ht1 hstp3;have htr:Zam.rowAt (u.tk.map Qt) t=some (Qt u.tk[t.toNat]):=by unfold Zam.rowAt;rw[if_pos ht0];simp[ht1]
        have hat:((u.tk[t.toNat]).a:Int)=atT u t:=by unfold atT;simp[ht1]
        generalize u.tk[t.toNat]=w at htr hat;simp only[Qt,encI]at htr hr3;have e1:∀X,(HY R3++X)[1]?=some (.vec 2 tSp R3.length (R3.map Qct)):=λX=>rfl;have e2:∀x X,(HY R3++x::X)[2]?=some x:=λx X=>rfl;have s1:∀X,(HY R3++X).set 1 (.vec 2 tSp (R3.length+1) (R3.map Qct++[[.str u.n,.int .i64 (w.a:Int)]]))=HY (R3++[(u.n,atT u t)])++X:=λX=>by show[sy,_]++X=[sy,_]++X;rw[<-hat];simp[Qct]
        have hfit:(R3.length+1)*24<=140737488355328:=by omega
        have htk:List.take R3.length (R3.map Qct)=R3.map Qct:=Q04 (by simp);have hlm:(R3.map Qct).length=R3.length:=Q1l _;have lY3:=lY R3;have lY4:=lY (R3++[(u.n,atT u t)]);have hcc:=hc4 (R3++[(u.n,atT u t)]);have hlen4:(R3++[(u.n,atT u t)]).length=R3.length+1:=by simp
        generalize hY2:HY (R3++[(u.n,atT u t)])=Y2 at s1 hcc lY4;generalize HY R3=Y at e1 e2 s1 lY3⊢;subst hbx;simp[ki,f45,hr3,f5,f7,f8,e1,e2,lY3,htr,Ql2,hfit,htk,hlm,s1,-getElem?_pos];refine Wp (H.length+4) (Q0q _) (by simp[ki,kn,lY4]) ?_;refine⟨by simp[f0],by simp[f3],by simp[f7],by simp[f8],by simp[f15],by simp[f17],by simp[f16],by simp[f29],by simp[f31],by simp[f30],by simp[f45],R3++[(u.n,atT u t)],hstp3.symm,by simp[hlen4],?_⟩;rw[hY2];simpa using hcc []
       .rintro fr H3 ki kn ⟨f0,f3,f7,f8,f15,f17,f16,f29,f31,f30,f45,R3,hR3,f5,rfl⟩;rw[Q33]at hR3;exact⟨by simp[f0],by simp[f3],by simp[f7],by simp[f8],by simp[f15],by simp[f17],by simp[f16],by simp[f29],by simp[f31],by simp[f30],R3,hR3,by simp[f5],_,rfl⟩
      .rintro fr H3 ⟨f0,f3,f7,f8,f15,f17,f16,f29,f31,f30,R3,hR3,f5,X,rfl⟩;simp;refine Wp (H.length+3) (Q0q _) (by simp[f31,f30,lY];omega) ?_;exact⟨by simp[f0],by simp[f3],by simp[f7],by simp[f8],by simp[f15],by simp[f17],by simp[f16],by simp[f29],R3,by rw[hstp,hR3,hR2,Q06],by simp[f5],hc5 _ _⟩
     .have hp0:qlB S s u q b=[]:=by unfold qlB;rw[<-hof,if_neg hos]
      have hne1:¬(ofS.1=s.1/\ofS.2=s.2):=λh=>hos (Prod.ext h.1 h.2);rw[hp0,Q1a]at hstp;by_cases o1:ofS.1=s.1
      .have o2:¬ofS.2=s.2:=λh=>hne1 ⟨o1,h⟩;simp[f3,e0,eqDs,eqD,o1,o2,-getElem?_pos];refine Wp (H.length+3) (Q0q _) (by simp[gi,gn,lY2]) ?_;exact⟨by simp[f0],by simp[f3],by simp[f7],by simp[f8],by simp[f15],by simp[f17],by simp[f16],by simp[f29],R2,by rw[hstp];exact hR2,by simp[f5],(hcn _).trans (by rw[hYe])⟩
      .simp[f3,e0,eqDs,eqD,o1,-getElem?_pos];refine Wp (H.length+3) (Q0q _) (by simp[gi,gn,lY2]) ?_;exact⟨by simp[f0],by simp[f3],by simp[f7],by simp[f8],by simp[f15],by simp[f17],by simp[f16],by simp[f29],R2,by rw[hstp];exact hR2,by simp[f5],(hcn _).trans (by rw[hYe])⟩
    .rintro fr H2 gi gn ⟨f0,f3,f7,f8,f15,f17,f16,f29,R2,hR2,f5,rfl⟩;have hU2:R2=R++qlU S s u:=hR2;rw[<-hU2];exact⟨by simp[f0],by simp[f3],by simp[f15],by simp[f17],by simp[f16],by simp[f5],_,rfl⟩
   .rintro fr H2 ⟨f0,f3,f15,f17,f16,f5,X,rfl⟩;simp;refine Wp (H.length+2) (Q0q _) (by simp[f17,f16,lY]) ?_;refine⟨by simp[f0],by simp[f3],by simp[f15],by simp[f5,hst],?_⟩;rw[hst];exact hc _ _
  .rintro fr H' fi fn ⟨f0,f3,f15,f5,rfl⟩;rw[Q33]at f5;simp[f5]
 .rintro fr H' ⟨f5,rfl⟩;have hcl1:Hp.Closed (H++[sy]):=Closed.snoc O λn _=>hsc n;have hsrt:=hx.ixSort hS hS0 (qlS S s S) hmax hcl1 (qlS S s S).length tSp;have hHY:H++HY (qlS S s S)=(H++[sy])++[.vec 2 tSp (qlS S s S).length ((qlS S s S).map Qct)]:=by show H++[sy,_]=_;rw[Q06];rfl
  have hll:((qlS S s S).mergeSort le).length=(qlS S s S).length:=Q23 _;rw[hHY];rw[Qud]at hsrt;generalize qlS S s S=L at f5 hsrt hll⊢;rw[show(H++[sy]).length=H.length+1 by simp]at hsrt;simp[f5,-List.append_assoc];refine Qa hsrt ?_;simp[f5,RetK,resA,-List.append_assoc];refine⟨[sy,.vec 2 tSp L.length ((L.mergeSort le).map Qct)],rfl,?_⟩;rw[Q06,Qu O];simp[hsc,hv,-Ob.clr]
end
section
open Go.Proofs
def Toks.rise{s:Bs}{n:Nat}{l:List Tk}(h:Toks s n l):(∀t∈l,n<=t.a/\t.a+t.x.length<=n+s.length/\(t.k≠0->0<t.x.length))/\l.Pairwise λx y=>x.a<y.a/\x.a+x.x.length<=y.a:=by
 induction h with
 |@fin s n h h0=>have hl:Qm false s<=s.length:=Qbp false s;refine⟨λt ht=>?_,by simp⟩;rw[Q17]at ht;subst ht;simp;omega
 |@tok s n l h h0 hr ih=>
  obtain⟨i1,i2⟩:=ih;obtain⟨t1,-,t3,-⟩:=Qen (s.drop (Qm false s));have t3:=t3 h h0;have hl:Qm false s<s.length:=by
   rcases Q2n (Qm false s) s.length with g|g
   .exact g
   .exact absurd (Q1z g) h0
  simp only[Q1r]at i1 t1;refine⟨λt ht=>?_,Q2p.2 ⟨λt ht=>?_,i2⟩⟩
  .rcases Q1g.1 ht with rfl|ht
   .simp only[Q11,Q1r];omega
   .have:=i1 t ht;omega
  .have:=i1 t ht;simp only[Q11,Q1r];omega
structure GdX(u:Un):Prop where
 once:∀t,evB u.sm.bs t+evM u.sm.ms t<=1
 mt:∀m∈u.sm.ms,m.t=-1\/(0<=m.t/\m.t<u.sm.bs.length)
 uin:∀j,j<u.sm.bs.length->∀t∈Yn u.sm j,0<=t/\t.toNat<u.tk.length
 rise:u.tk.Pairwise λx y=>x.a<y.a/\x.a+x.x.length<=y.a
 ne:∀t∈u.tk,t.k≠0->0<t.x.length
 bnd:∀t∈u.tk,(t.a:Int)+t.x.length<=1099511627776
 kd:∀j,j<u.sm.bs.length->∀t∈Yn u.sm j,kdT u.tk t.toNat=1
def Qtv(m:Mod):GdX (Wi m):=by
 by_cases h0:(Qz m.t).2.2.1=0
 .obtain⟨n,j,h1,h2,h3,h4,h5,hI,hj,h6⟩:=Qcj h0;have hsm:(Wi m).sm=Vw n:=by show(if _ then _ else _)=_;rw[if_pos h0,h2]
  have htk:(Wi m).tk=(lexS m.t).1:=h1;have hN:=named hI;have hall:=Ql3 n;have hbs:(Vw n).bs=(allR n).bs:=by rw[<-hall];rfl
  have hms:(Vw n).ms=(allR n).ms:=by rw[<-hall];rfl
  have hus:∀q,Yn (Vw n) q=Yn (allR n) q:=λq=>by unfold Yn;rw[hbs,hms]
  have hT:=((Qg3 m.t).2 h5).1;have hr:=hT.rise;have hlen:m.t.length<=16384:=((Qg3 m.t).1.1 h5).1;refine⟨λt=>?_,λx hx=>?_,λq hq t ht=>?_,?_,λt ht=>?_,λt ht=>?_,λq hq t ht=>?_⟩
  .rw[hsm,hbs,hms];have h1:=hN.once t;have h2:indS 0 j t<=1:=by unfold indS;split<;>omega
   omega
  .rw[hsm,hms]at hx;rw[hsm,hbs];obtain⟨_,_,-,-,-,-,hg⟩:=(hN.ms x hx).ex;rcases hg with g|⟨g1,g2,-⟩
   .exact .inl g
   .exact .inr ⟨g1,g2⟩
  .rw[hsm,hbs]at hq;rw[hsm,hus]at ht;have:=hN.uses_in hI hq ht;rw[htk];omega
  .rw[htk];exact hr.2
  .rw[htk]at ht;exact(hr.1 t ht).2.2
  .rw[htk]at ht;have:=(hr.1 t ht).2.1;omega
  .rw[hsm,hbs]at hq;rw[hsm,hus]at ht;rw[htk];exact hN.uses_kd hI hq ht
 .have hsm:(Wi m).sm=⟨[],[],[]⟩:=by show(if _ then _ else _)=_;rw[if_neg h0]
  have htk:(Wi m).tk=[]:=by
   show(Qz m.t).1=[];unfold Qz at h0⊢;split
   .rfl
   .rename_i g1;split
    .rfl
    .rename_i g2;rw[if_neg g1,if_neg g2]at h0;exact absurd rfl h0
  refine⟨λt=>?_,λx hx=>?_,λq hq=>?_,?_,λt ht=>?_,λt ht=>?_,λq hq=>?_⟩
  .rw[hsm];simp[evB,evM]
  .rw[hsm]at hx;simp at hx
  .rw[hsm]at hq;simp at hq
  .rw[htk];exact List.Pairwise.nil
  .rw[htk]at ht;simp at ht
  .rw[htk]at ht;simp at ht
  .rw[hsm]at hq;simp at hq
def Qe1{S:SM}{k:Nat}(hk:k<S.bs.length){t:Int}:t∈Yn S k↔(∃b,S.bs[k]?=some b/\b.a=t)\/∃m∈S.ms,m.a=t/\m.t=(k:Int):=Qu0 hk t
def Qm1{α:Type}{p:α->Bool}:∀{l:List α} {i:Int},(∀x∈l,p x=false)->fstI p l i=-1
 |[],_,_=>rfl
 |x::r,i,h=>by unfold fstI;rw[h x (by simp)];simpa using Qm1 (l:=r) (i:=i+1) λy hy=>h y (by simp[hy])
def Qpp{α:Type}{p:α->Bool}:∀{l:List α} {i:Int} {k:Nat} {x:α},l.countP p<=1->l[k]?=some x->p x=true->fstI p l i=i+k
 |[],_,_,_,_,h,_=>by simp at h
 |y::r,i,0,x,hc,h,hp=>by simp at h;subst h;unfold fstI;simp[hp]
 |y::r,i,k+1,x,hc,h,hp=>by
  simp at h;have h1:0<r.countP p:=Q2u.2 ⟨x,Q05 h,hp⟩;rw[Q4x]at hc;have hy:p y=false:=by
   cases hpy:p y with
   |false=>rfl
   |true=>rw[hpy,if_pos rfl]at hc;omega
  rw[hy]at hc;unfold fstI;rw[hy];have:=Qpp (i:=i+1) (p:=p) (by simpa using hc) h hp;simp only[Q0w,if_false];rw[this];omega
def Qm0{α:Type}{p:α->Bool}:∀{l:List α} {i:Int},fstI p l i=-1\/∃(k:Nat)(x:α),fstI p l i=i+k/\l[k]?=some x/\p x=true
 |[],_=>.inl rfl
 |y::r,i=>by
  unfold fstI;cases hp:p y with
  |true=>exact .inr ⟨0,y,by simp,rfl,hp⟩
  |false=>
   rcases Qm0 (p:=p) (l:=r) (i:=i+1)with h|⟨k,x,h1,h2,h3⟩
   .exact .inl (by simpa using h)
   .refine .inr ⟨k+1,x,?_,by simpa using h2,h3⟩;simp only[Q0w,if_false];rw[h1];omega
def Qlt{t:Int}:∀{l:List Mn},((∀m∈l,m.a≠t)/\fdM t l=-1)\/∃m∈l,m.a=t/\fdM t l=m.t
 |[]=>.inl ⟨by simp,rfl⟩
 |m::r=>by
  unfold fdM;by_cases h:m.a=t
  .exact .inr ⟨m,by simp,h,by rw[if_pos h]⟩
  .rw[if_neg h];rcases Qlt (t:=t) (l:=r)with⟨h1,h2⟩|⟨x,h1,h2,h3⟩
   .refine .inl ⟨λx hx=>?_,h2⟩;rcases Q1g.1 hx with rfl|hx
    .exact h
    .exact h1 x hx
   .exact .inr ⟨x,by simp[h1],h2,h3⟩
def Quk{α:Type}{p:α->Bool}{l:List α}(hc:l.countP p<=1){x y:α}(hx:x∈l)(hy:y∈l)(px:p x=true)(py:p y=true):x=y:=by obtain⟨i,hi⟩:=Q2m hx;obtain⟨j,hj⟩:=Q2m hy;have:=Qm9 hc hi hj px py;subst this;rw[hi]at hj;cases hj;rfl
def GdX.mapAt{u:Un}(h:GdX u){k:Nat}(hk:k<u.sm.bs.length){t:Int}(ht:t∈Yn u.sm k):mapAt u.sm t=k:=by
 have ho:=h.once t;unfold Zam.mapAt;rcases(Qe1 hk).1 ht with⟨b,hb,hba⟩|⟨m,hm,hma,hmt⟩
 .have hc:u.sm.bs.countP (bdAt t)<=1:=by have:u.sm.bs.countP (bdAt t)=evB u.sm.bs t:=rfl;omega
  have:=Qpp (i:=0) hc hb (by simp[bdAt,hba]);rw[this];rw[if_neg (by omega)];omega
 .have h1:0<evM u.sm.ms t:=Q2u.2 ⟨m,hm,by simp[hma]⟩;have h2:evB u.sm.bs t=0:=by omega
  have h3:fstI (bdAt t) u.sm.bs 0=-1:=Qm1 λb hb=>by
   cases hp:bdAt t b with
   |false=>rfl
   |true=>have:0<evB u.sm.bs t:=Q2u.2 ⟨b,hb,hp⟩;omega
  rw[if_pos h3];rcases Qlt (t:=t) (l:=u.sm.ms)with⟨g,-⟩|⟨x,g1,g2,g3⟩
  .exact absurd hma (g m hm)
  .have:=Quk (p:=λm:Mn=>decide (m.a=t)) (by show evM u.sm.ms t<=1;omega) hm g1 (by simp[hma]) (by simp[g2]);rw[g3,<-this,hmt]
def GdX.mapAt_none{u:Un}(h:GdX u){t:Int}(ht:∀k,k<u.sm.bs.length->t∉Yn u.sm k):Zam.mapAt u.sm t<0:=by
 unfold Zam.mapAt;rcases Qm0 (p:=bdAt t) (l:=u.sm.bs) (i:=0)with h1|⟨k,b,h1,h2,h3⟩
 .rw[if_pos h1];rcases Qlt (t:=t) (l:=u.sm.ms)with⟨-,g⟩|⟨m,g1,g2,g3⟩
  .omega
  .rcases h.mt m g1 with g|⟨g4,g5⟩
   .omega
   .refine absurd ?_ (ht m.t.toNat (by omega));exact(Qe1 (by omega)).2 (.inr ⟨m,g1,g2,by omega⟩)
 .refine absurd ?_ (ht k (Q0n.1 h2).1);exact(Qe1 (Q0n.1 h2).1).2 (.inl ⟨b,h2,by simpa[bdAt]using h3⟩)
def GdX.mapAt_some{u:Un}(h:GdX u){t:Int}(hn:0<=Zam.mapAt u.sm t):∃k:Nat,k<u.sm.bs.length/\Zam.mapAt u.sm t=k/\t∈Yn u.sm k:=by
 by_cases hx:∃k,k<u.sm.bs.length/\t∈Yn u.sm k
 .obtain⟨k,h1,h2⟩:=hx;exact⟨k,h1,h.mapAt h1 h2,h2⟩
 .have:=h.mapAt_none (t:=t) λk hk ht=>hx ⟨k,hk,ht⟩;omega
end
section
open Go.Proofs
def cSp(x y:Bs×Int):Int:=if Q7 x.1 y.1=0 then V2 x.2 y.2 else Q7 x.1 y.1
def Qaq:Cmp cSp:=(Qcc.on Prod.fst).lex (Qlz.on Prod.snd)
def Qqa{a b:Int}:V2 a b=0↔a=b:=by
 unfold V2;constructor
 .intro h;split at h
  .omega
  .split at h<;>omega
 .rintro rfl;simp
def Qqb{x y:Bs×Int}(h:cSp x y=0):x=y:=by
 unfold cSp at h;split at h
 .rename_i h1;exact Prod.ext (Y4.1 h1) (Qqa.1 h)
 .rename_i h1;exact absurd h h1
def leSp(x y:Bs×Int):Bool:= !decide (cSp y x<0)
def Qg4{x y:Bs×Int}:leSp x y=true↔cSp x y<=0:=by unfold leSp;rw[<-Qaq.not_lt];simp
def Qou{A B:List (Bs×Int)}(hp:A.Perm B)(hB:B.Pairwise λx y=>cSp x y<=0):A.mergeSort leSp=B:=by
 have h1:(A.mergeSort leSp).Pairwise λx y=>leSp x y=true:=List.pairwise_mergeSort (λa b c h1 h2=>by
  rw[Qg4]at*;exact Qaq.trans _ _ _ h1 h2) (λa b=>by
  rcases Qaq.le_total a b with h|h
  .rw[Qg4.2 h];rfl
  .rw[Qg4.2 h,Bool.or_true]) A
 refine List.Perm.eq_of_pairwise (le:=λx y=>cSp x y<=0) (λa b _ _ h2 h3=>Qqb (Qaq.le_antisymm h2 h3)) (h1.imp λh=>Qg4.1 h) hB ((List.mergeSort_perm A leSp).trans hp)
def Qo8{α:Type}{R:α->α->Prop}:∀{l:List α},(∀x∈l,∀y∈l,R x y)->l.Pairwise R
 |[],_=>.nil
 |x::r,h=>Q2p.2 ⟨λy hy=>h x (by simp) y (by simp[hy]),Qo8 λa ha b hb=>h a (by simp[ha]) b (by simp[hb])⟩
def Qcl{S:List Un}{u:Un}{s x:Bs×Int}{k t:Nat}(h:x∈plT S u s k t):∃y,u.tk[t]?=some y/\x=(u.n,(y.a:Int)):=by
 unfold plT at h;obtain⟨j,-,hj⟩:=Q18.1 h;unfold plB at hj;split at hj
 .rename_i b y h1 h2;split at hj
  .exact⟨y,h2,by simpa using hj⟩
  .simp at hj
 .simp at hj
def Qv2{S:List Un}{s:Bs×Int}{u:Un}(hx:GdX u):(plU S s u).Pairwise λx y=>cSp x y<=0:=by
 unfold plU plV;rw[List.pairwise_flatMap];refine⟨λt _=>Qo8 λx h1 y h2=>?_,List.pairwise_lt_range.imp λ{a b} hab x h1 y h2=>?_⟩
 .obtain⟨z,g1,rfl⟩:=Qcl h1;obtain⟨w,g2,rfl⟩:=Qcl h2;rw[g1]at g2;cases g2
  rw[Qaq.refl];omega
 .obtain⟨z,g1,rfl⟩:=Qcl h1;obtain⟨w,g2,rfl⟩:=Qcl h2;obtain⟨i1,e1⟩:=Q0n.1 g1;obtain⟨i2,e2⟩:=Q0n.1 g2;have:=Q3k.1 hx.rise a b i1 i2 hab;rw[e1,e2]at this;have e:Q7 u.n u.n=0:=Qcc.refl _;unfold cSp;simp only[e,if_true];unfold V2;rw[if_pos (by omega)];omega
def Qq3{S T:List Un}{s:Bs×Int}(hS:T.Pairwise λu v=>cU u v<0)(hx:∀u∈T,GdX u):(T.flatMap (plU S s)).Pairwise λx y=>cSp x y<=0:=by
 rw[List.pairwise_flatMap];refine⟨λu hu=>Qv2 (hx u hu),hS.imp λ{u v} huv x h1 y h2=>?_⟩;have g:∀{u:Un} {x:Bs×Int},x∈plU S s u->x.1=u.n:=λ{u x} h=>by unfold plU plV at h;obtain⟨t,-,ht⟩:=Q18.1 h;obtain⟨y,-,rfl⟩:=Qcl ht;rfl
 have huv:Q7 u.n v.n<0:=huv;unfold cSp;rw[g h1,g h2,if_neg (by omega)];omega
def Qdo{α β:Type}(f g:α->List β):∀l:List α,(l.flatMap λx=>f x++g x).Perm (l.flatMap f++l.flatMap g)
 |[]=>by simp
 |x::r=>by have ih:=Qdo f g r;simp only[Q21,Q06];refine List.Perm.append_left _ ?_;refine(List.Perm.append_left _ ih).trans ?_;exact List.perm_append_comm_assoc _ _ _
def Qlo{α β:Type}{g:α->List β}{p:α->Bool}{f:α->β}:∀{l:List α},(∀t∈l,g t=if p t=true then[f t]else[])->l.flatMap g=(l.filter p).map f
 |[],_=>rfl
 |x::r,h=>by rw[Q21,Qlo λt ht=>h t (by simp[ht]),h x (by simp)];cases hp:p x<;>simp[hp]
def GdX.nodup{u:Un}(hx:GdX u){j:Nat}(hj:j<u.sm.bs.length):(Yn u.sm j).Nodup:=by
 rw[List.nodup_iff_count];intro t;rw[Qrs _ _ hj];have h1:=hx.once t;have h2:(u.sm.ms.countP λm=>decide (m.t=(j:Int))&&decide (m.a=t))<=evM u.sm.ms t:=List.countP_mono_left λm _=>by simp
 have h3:(if(bAt u.sm.bs j).a=t then 1 else 0)<=evB u.sm.bs t:=by
  split
  .rename_i h;refine Q2u.2 ⟨bAt u.sm.bs j,?_,by simp[h]⟩;unfold bAt;rw[Q16,Q1v,Q0o hj];exact Q1n hj
  .omega
 omega
def Qhx{u:Un}{j:Nat}{b:SBd}(hb:u.sm.bs[j]?=some b)(t:Int):hitK b u.sm.ms t j=true↔t∈Yn u.sm j:=by rw[Qe1 (Q0n.1 hb).1];unfold hitK hitM;simp only[Q2s,decide_eq_true_eq,List.any_eq_true];refine or_congr ⟨λh=>⟨b,hb,h⟩,?_⟩ Q2a;rintro⟨c,hc,h⟩;rw[hb]at hc;cases hc;exact h
def Qvx{S:List Un}{s:Bs×Int}{u:Un}(hx:GdX u){j:Nat}{b:SBd}(hb:u.sm.bs[j]?=some b):(qlB S s u j b).Perm ((List.range u.tk.length).flatMap λt=>plB S u s t j):=by
 have hj:=(Q0n.1 hb).1;unfold qlB;by_cases ho:ofSy S u b=s
 .rw[if_pos ho];have h1:((List.range u.tk.length).flatMap λt=>plB S u s t j)=((List.range u.tk.length).filter λt:Nat=>hitK b u.sm.ms t j).map λt:Nat=>(u.n,atT u t):=Qlo λt ht=>by
   have htl:=Q2q.1 ht;unfold plB;rw[hb,Q0o htl];simp only[ho,true_and];have:atT u (t:Int)=(u.tk[t].a:Int):=by unfold atT;simp[htl]
   rw[this]
  have h2:(((List.range u.tk.length).filter λt:Nat=>hitK b u.sm.ms t j).map λt:Nat=>(u.n,atT u t))=(((List.range u.tk.length).filter λt:Nat=>hitK b u.sm.ms t j).map λt:Nat=>(t:Int)).map λt=>(u.n,atT u t):=by rw[Q42];rfl
  rw[h1,h2];refine List.Perm.map _ ((Qlb _).trans ?_);refine(List.perm_ext_iff_of_nodup (hx.nodup hj) ?_).2 λt=>?_
  .unfold List.Nodup;rw[List.pairwise_map];exact(List.Pairwise.filter _ (List.pairwise_lt_range)).imp λh e=>by omega
  .rw[Q1s];constructor
   .intro ht;obtain⟨g1,g2⟩:=hx.uin j hj t ht;refine⟨t.toNat,Q19.2 ⟨Q2q.2 g2,?_⟩,by omega⟩;rw[show((t.toNat:Nat):Int)=t by omega];exact(Qhx hb t).2 ht
   .rintro⟨k,hk,rfl⟩;exact(Qhx hb _).1 (Q19.1 hk).2
 .rw[if_neg ho];have h1:((List.range u.tk.length).flatMap λt=>plB S u s t j)=[]:=by rw[List.flatMap_eq_nil_iff];intro t ht;unfold plB;rw[hb,Q0o (Q2q.1 ht)];simp[ho]
  rw[h1]
def Qo4{S:List Un}{s:Bs×Int}{u:Un}(hx:GdX u):∀j,j<=u.sm.bs.length->(qlK S s u j).Perm ((List.range u.tk.length).flatMap λt=>plT S u s j t)
 |0,_=>by
  have:((List.range u.tk.length).flatMap λt=>plT S u s 0 t)=[]:=by rw[List.flatMap_eq_nil_iff];intro t _;rfl
  rw[this];exact List.Perm.refl _
 |j+1,h=>by have ih:=Qo4 (S:=S) (s:=s) hx j (by omega);have hb:=Q0o (show j<u.sm.bs.length by omega);rw[Qkx hb];simp only[Qv3];exact(ih.append (Qvx hx hb)).trans (Qdo _ _ _).symm
def Qv0{S:List Un}(hS:S.Pairwise λu v=>cU u v<0)(hx:∀u∈S,GdX u)(s:Bs×Int):(qlS S s S).mergeSort leSp=Qah S s:=by
 refine Qou ?_ (Qq3 hS hx);have:∀T:List Un,(∀u∈T,GdX u)->(qlS S s T).Perm (T.flatMap (plU S s)):=by
  intro T;induction T with
  |nil=>intro _;exact List.Perm.refl _
  |cons u r ih=>intro h;unfold qlS;simp only[Q21];exact(Qo4 (h u (by simp)) _ (Q0q _)).append (ih λv hv=>h v (by simp[hv]))
 exact this S hx
end
end Go.Zam
namespace Go.Proofs
open Go.Shelf
def Tryz.lays189_ren:Go.Shelf.Ren:=⟨λ|189=>27|125=>45|257=>44|128=>72|129=>73|294=>63|295=>64|296=>65|297=>66|298=>67|299=>68|216=>69|300=>70|301=>71|328=>104|329=>105|330=>106|331=>107|332=>108|215=>47|343=>144|n=>n,λ|28=>75|3=>3|46=>89|0=>0|51=>154|53=>156|4=>4|183=>147|182=>146|131=>66|5=>5|9=>9|218=>194|222=>198|228=>227|229=>228|n=>n,λ|n=>n⟩
def Tryz.lays189:Go.Proofs.Lays.n189 Tryz.prog Tryz.lays189_ren:={
 mixed:=by kernel_rfl
 f125:=Tryz.func45.trans (congrArg some (by kernel_rfl))
 f128:=Tryz.func72.trans (congrArg some (by kernel_rfl))
 f129:=Tryz.func73.trans (congrArg some (by kernel_rfl))
 f189:=Tryz.func27.trans (congrArg some (by kernel_rfl))
 f215:=Tryz.func47.trans (congrArg some (by kernel_rfl))
 f216:=Tryz.func69.trans (congrArg some (by kernel_rfl))
 f257:=Tryz.func44.trans (congrArg some (by kernel_rfl))
 f294:=Tryz.func63.trans (congrArg some (by kernel_rfl))
 f295:=Tryz.func64.trans (congrArg some (by kernel_rfl))
 f296:=Tryz.func65.trans (congrArg some (by kernel_rfl))
 f297:=Tryz.func66.trans (congrArg some (by kernel_rfl))
 f298:=Tryz.func67.trans (congrArg some (by kernel_rfl))
 f299:=Tryz.func68.trans (congrArg some (by kernel_rfl))
 f300:=Tryz.func70.trans (congrArg some (by kernel_rfl))
 f301:=Tryz.func71.trans (congrArg some (by kernel_rfl))
 f328:=Tryz.func104.trans (congrArg some (by kernel_rfl))
 f329:=Tryz.func105.trans (congrArg some (by kernel_rfl))
 f330:=Tryz.func106.trans (congrArg some (by kernel_rfl))
 f331:=Tryz.func107.trans (congrArg some (by kernel_rfl))
 f332:=Tryz.func108.trans (congrArg some (by kernel_rfl))
 f343:=Tryz.func144.trans (congrArg some (by kernel_rfl))
 t0:=Tryz.underlying0
 a0:=Tryz.isAgg0
 z0:=Tryz.sizeOf0
 v0:=Tryz.zeroValue0
 t3:=Tryz.underlying3
 a3:=Tryz.isAgg3
 z3:=Tryz.sizeOf3
 v3:=Tryz.zeroValue3
 t4:=Tryz.underlying4
 a4:=Tryz.isAgg4
 z4:=Tryz.sizeOf4
 v4:=Tryz.zeroValue4
 t5:=Tryz.underlying5
 a5:=Tryz.isAgg5
 z5:=Tryz.sizeOf5
 v5:=Tryz.zeroValue5
 t9:=Tryz.underlying9
 a9:=Tryz.isAgg9
 z9:=Tryz.sizeOf9
 v9:=Tryz.zeroValue9
 t28:=Tryz.underlying75
 a28:=Tryz.isAgg75
 z28:=Tryz.sizeOf75
 v28:=Tryz.zeroValue75
 t46:=Tryz.underlying89
 a46:=Tryz.isAgg89
 z46:=Tryz.sizeOf89
 v46:=Tryz.zeroValue89
 t51:=Tryz.underlying154
 a51:=Tryz.isAgg154
 z51:=Tryz.sizeOf154
 v51:=Tryz.zeroValue154
 t53:=Tryz.underlying156
 a53:=Tryz.isAgg156
 z53:=Tryz.sizeOf156
 v53:=Tryz.zeroValue156
 t131:=Tryz.underlying66
 a131:=Tryz.isAgg66
 z131:=Tryz.sizeOf66
 v131:=Tryz.zeroValue66
 t182:=Tryz.underlying146
 a182:=Tryz.isAgg146
 z182:=Tryz.sizeOf146
 v182:=Tryz.zeroValue146
 t183:=Tryz.underlying147
 a183:=Tryz.isAgg147
 z183:=Tryz.sizeOf147
 v183:=Tryz.zeroValue147
 t218:=Tryz.underlying194
 a218:=Tryz.isAgg194
 z218:=Tryz.sizeOf194
 v218:=Tryz.zeroValue194
 t222:=Tryz.underlying198
 a222:=Tryz.isAgg198
 z222:=Tryz.sizeOf198
 v222:=Tryz.zeroValue198
 t228:=Tryz.underlying227
 a228:=Tryz.isAgg227
 z228:=Tryz.sizeOf227
 v228:=Tryz.zeroValue227
 t229:=Tryz.underlying228
 a229:=Tryz.isAgg228
 z229:=Tryz.sizeOf228
 v229:=Tryz.zeroValue228}
def Tryz.sortF_ren:Go.Shelf.Ren:=⟨λ|6=>28|15=>45|14=>46|28=>72|29=>73|20=>74|21=>75|22=>76|23=>77|24=>78|25=>79|26=>80|27=>81|46=>109|47=>105|48=>106|49=>110|50=>111|57=>145|n=>n,λ|22=>53|24=>52|25=>99|3=>3|39=>89|0=>0|53=>154|55=>156|4=>4|46=>147|45=>146|50=>66|5=>5|9=>9|66=>194|70=>198|76=>227|77=>228|n=>n,λ|n=>n⟩
def Tryz.sortF:Go.Proofs.SlLaysF0.n6 Tryz.prog Tryz.sortF_ren:={
 mixed:=by kernel_rfl
 f6:=⟨Tryz.f28.name,by decide,Tryz.func28.trans (congrArg some (by kernel_rfl))⟩
 f14:=⟨Tryz.f46.name,by decide,Tryz.func46.trans (congrArg some (by kernel_rfl))⟩
 f15:=Tryz.func45.trans (congrArg some (by kernel_rfl))
 f20:=⟨Tryz.f74.name,by decide,Tryz.func74.trans (congrArg some (by kernel_rfl))⟩
 f21:=⟨Tryz.f75.name,by decide,Tryz.func75.trans (congrArg some (by kernel_rfl))⟩
 f22:=⟨Tryz.f76.name,by decide,Tryz.func76.trans (congrArg some (by kernel_rfl))⟩
 f23:=⟨Tryz.f77.name,by decide,Tryz.func77.trans (congrArg some (by kernel_rfl))⟩
 f24:=⟨Tryz.f78.name,by decide,Tryz.func78.trans (congrArg some (by kernel_rfl))⟩
 f25:=⟨Tryz.f79.name,by decide,Tryz.func79.trans (congrArg some (by kernel_rfl))⟩
 f26:=⟨Tryz.f80.name,by decide,Tryz.func80.trans (congrArg some (by kernel_rfl))⟩
 f27:=⟨Tryz.f81.name,by decide,Tryz.func81.trans (congrArg some (by kernel_rfl))⟩
 f28:=Tryz.func72.trans (congrArg some (by kernel_rfl))
 f29:=Tryz.func73.trans (congrArg some (by kernel_rfl))
 f46:=⟨Tryz.f109.name,by decide,Tryz.func109.trans (congrArg some (by kernel_rfl))⟩
 f47:=Tryz.func105.trans (congrArg some (by kernel_rfl))
 f48:=Tryz.func106.trans (congrArg some (by kernel_rfl))
 f49:=⟨Tryz.f110.name,by decide,Tryz.func110.trans (congrArg some (by kernel_rfl))⟩
 f50:=⟨Tryz.f111.name,by decide,Tryz.func111.trans (congrArg some (by kernel_rfl))⟩
 f57:=⟨Tryz.f145.name,by decide,Tryz.func145.trans (congrArg some (by kernel_rfl))⟩
 t0:=Tryz.underlying0
 a0:=Tryz.isAgg0
 z0:=Tryz.sizeOf0
 v0:=Tryz.zeroValue0
 t3:=Tryz.underlying3
 a3:=Tryz.isAgg3
 z3:=Tryz.sizeOf3
 v3:=Tryz.zeroValue3
 t4:=Tryz.underlying4
 a4:=Tryz.isAgg4
 z4:=Tryz.sizeOf4
 v4:=Tryz.zeroValue4
 t5:=Tryz.underlying5
 a5:=Tryz.isAgg5
 z5:=Tryz.sizeOf5
 v5:=Tryz.zeroValue5
 t9:=Tryz.underlying9
 a9:=Tryz.isAgg9
 z9:=Tryz.sizeOf9
 v9:=Tryz.zeroValue9
 t22:=Tryz.underlying53
 a22:=Tryz.isAgg53
 z22:=Tryz.sizeOf53
 v22:=Tryz.zeroValue53
 t25:=Tryz.underlying99
 a25:=Tryz.isAgg99
 z25:=Tryz.sizeOf99
 v25:=Tryz.zeroValue99
 t39:=Tryz.underlying89
 a39:=Tryz.isAgg89
 z39:=Tryz.sizeOf89
 v39:=Tryz.zeroValue89
 t45:=Tryz.underlying146
 a45:=Tryz.isAgg146
 z45:=Tryz.sizeOf146
 v45:=Tryz.zeroValue146
 t46:=Tryz.underlying147
 a46:=Tryz.isAgg147
 z46:=Tryz.sizeOf147
 v46:=Tryz.zeroValue147
 t50:=Tryz.underlying66
 a50:=Tryz.isAgg66
 z50:=Tryz.sizeOf66
 v50:=Tryz.zeroValue66
 t53:=Tryz.underlying154
 a53:=Tryz.isAgg154
 z53:=Tryz.sizeOf154
 v53:=Tryz.zeroValue154
 t55:=Tryz.underlying156
 a55:=Tryz.isAgg156
 z55:=Tryz.sizeOf156
 v55:=Tryz.zeroValue156
 t66:=Tryz.underlying194
 a66:=Tryz.isAgg194
 z66:=Tryz.sizeOf194
 v66:=Tryz.zeroValue194
 t70:=Tryz.underlying198
 a70:=Tryz.isAgg198
 z70:=Tryz.sizeOf198
 v70:=Tryz.zeroValue198
 t76:=Tryz.underlying227
 a76:=Tryz.isAgg227
 z76:=Tryz.sizeOf227
 v76:=Tryz.zeroValue227
 t77:=Tryz.underlying228
 a77:=Tryz.isAgg228
 z77:=Tryz.sizeOf228
 v77:=Tryz.zeroValue228}
namespace Zv
open Go Go.Zam Go.Proofs Go.RowKit Go.Lib Go.Sort
def nanS(a:ByteArray)(w:World):Calls Tryz.prog 25 #[.string a] w λe w'=>e=.returned (.bool false)/\w'=w:=by go_enter Tryz.func25,Tryz.ntmps25;go_wp2;go_ret;exact⟨by simp,rfl⟩
def nanI(a:Int)(w:World):Calls Tryz.prog 47 #[.int .i64 a] w λe w'=>e=.returned (.bool false)/\w'=w:=by go_enter Tryz.func47,Tryz.ntmps47;go_wp2;go_ret;exact⟨by simp,rfl⟩
def gtS(a b:List UInt8)(w:World):(binOp .gtr 9 (.string ⟨a.toArray⟩) (.string ⟨b.toArray⟩)).run Tryz.prog w=.ok (.bool (!(Op.bytesLess a b||decide (a=b)))) w:=by have h:(binOp .gtr 9 (.string ⟨a.toArray⟩) (.string ⟨b.toArray⟩)).run Tryz.prog w=.ok (.bool (!(Op.bytesLess (ByteArray.toList ⟨a.toArray⟩) (ByteArray.toList ⟨b.toArray⟩)||(ByteArray.toList ⟨a.toArray⟩==ByteArray.toList ⟨b.toArray⟩)))) w:=rfl;rw[h,Qdp,Y7,Y7]
def compS(a b:List UInt8)(w:World):Calls Tryz.prog 15 #[.string ⟨a.toArray⟩,.string ⟨b.toArray⟩] w λe w'=>e=.returned (.int .i64 (Q7 a b))/\w'=w:=by
 have hn:=nanS;go_enter Tryz.func15,Tryz.ntmps15;go_wp2_with (go_at_call 25;refine(hn _ _).mono ?_;rintro e w' ⟨rfl,rfl⟩)
 .go_ret
  refine⟨?_,rfl⟩;have hb:Op.bytesLess a b=true:=by assumption
  unfold Q7;rw[hb];rfl
 .rw[gtS]
  go_wp2;all_goals (go_ret;refine⟨?_,rfl⟩;unfold Q7;simp_all)
def compI(a b:Int)(w:World):Calls Tryz.prog 31 #[.int .i64 a,.int .i64 b] w λe w'=>e=.returned (.int .i64 (V2 a b))/\w'=w:=by have hn:=nanI;go_enter Tryz.func31,Tryz.ntmps31;go_wp2_with (go_at_call 47;refine(hn _ _).mono ?_;rintro e w' ⟨rfl,rfl⟩);all_goals (go_ret;refine⟨?_,rfl⟩;unfold V2;(repeat' split)<;>first|rfl|(exfalso;omega))
def or2(b:Nat)(x y r:Int)(w:World)(hr0:x=0->r=y)(hr1:x≠0->r=x)(h0:w.cell? ⟨b,0,none⟩=some (.int .i64 x))(h1:w.cell? ⟨b,1,none⟩=some (.int .i64 y)):Calls Tryz.prog 30 #[.slice (some ⟨b,0,none⟩) 2 2] w λe w'=>e=.returned (.int .i64 r)/\w'=w:=by
 go_enter Tryz.func30,Tryz.ntmps30
 go_wp2
 go_loopw [8] (λi wr=>∃k:Nat,k<=2/\i=.int .i64 k/\wr=w/\(1<=k->x=0)/\(2<=k->y=0)) (λi _=>2-(intOf i).toNat)
 case atStart=>exact⟨0,by omega,rfl,rfl,by omega,by omega⟩
 case round=>
  obtain⟨k,hk,rfl,rfl,hx,hy⟩:=hrel;rcases(show k=0\/k=1\/k=2 from by omega)with rfl|rfl|rfl
  .go_wp2
   .have hb:(x != 0)=true:=by assumption
    have hb:x≠0:=by simpa using hb
    go_ret
    exact⟨by rw[hr1 hb];rfl,rfl⟩
   .have hb:(x != 0)=false:=by assumption
    have hb:x=0:=by simpa using hb
    exact⟨⟨1,by omega,rfl,trivial,λ_=>hb,by omega⟩,by simp[intOf]⟩
  .have hx:=hx (by omega)
   go_wp2
   .go_ret
    exact⟨by rw[hr0 hx];rfl,rfl⟩
   .have hb:(y != 0)=false:=by assumption
    have hb:y=0:=by simpa using hb
    exact⟨⟨2,by omega,rfl,trivial,λ_=>hx,λ_=>hb⟩,by simp[intOf]⟩
  .have hx:=hx (by omega);have hy:=hy (by omega)
   go_wp2
   go_ret
   exact⟨by rw[hr0 hx,hy];rfl,rfl⟩
def Qoc(W:World)(o:Array Value)(t:TypeId)(i:Nat):(W.alloc (.cells o t)).cell? ⟨W.heap.size,i,none⟩=o[i]?:=by unfold World.cell?;simp only[World.alloc_heap_new];simp
def Qyu(W:World)(o p:Array Value)(t u:TypeId)(i:Nat):((W.alloc (.cells o t)).alloc (.cells p u)).drew.cell? ⟨W.heap.size,i,none⟩=o[i]?:=by have h:Below (W.heap.size+1) (W.alloc (.cells o t)) ((W.alloc (.cells o t)).alloc (.cells p u)):=(Below.refl _ _).alloc (by simp) _;exact(h.cell (p:=⟨W.heap.size,i,none⟩) (by show W.heap.size<_;omega)).trans (Qoc W o t i)
def Qyt(W:World)(o p:Array Value)(t u:TypeId)(i:Nat):((W.alloc (.cells o t)).alloc (.cells p u)).drew.cell? ⟨W.heap.size+1,i,none⟩=p[i]?:=by have h:=Qoc (W.alloc (.cells o t)) p u i;simpa using h
def Qwx(x y:Bs×Int)(W:World):Calls Tryz.prog 29 #[.agg #[.string ⟨x.1.toArray⟩,.int .i64 x.2],.agg #[.string ⟨y.1.toArray⟩,.int .i64 y.2]] W λe w'=>e=.returned (.int .i64 (cSp x y))/\∃q os',w'=grow (W.drewN q) os':=by
 have hS:=compS x.1 y.1;have hI:=compI x.2 y.2;have hO:=λb W' c0 c1=>or2 b (Q7 x.1 y.1) (V2 x.2 y.2) (cSp x y) W' (λh=>by unfold cSp;rw[if_pos h]) (λh=>by unfold cSp;rw[if_neg h]) c0 c1;generalize cSp x y=r at hO⊢;generalize Q7 x.1 y.1=a at hS hO;generalize V2 x.2 y.2=b at hI hO;go_enter Tryz.func29,Tryz.ntmps29;go_wp2;obtain⟨W2,hW2⟩:∃W2,(W.alloc (.cells #[.string ⟨x.1.toArray⟩,.int .i64 x.2] 52)).alloc (.cells #[.string ⟨y.1.toArray⟩,.int .i64 y.2] 52)=W2:=⟨_,rfl⟩;have c0:W2.drew.cell? ⟨W.heap.size,0,none⟩=some (.string ⟨x.1.toArray⟩):=by rw[<-hW2,Qyu];rfl
 have c1:W2.drew.cell? ⟨W.heap.size,1,none⟩=some (.int .i64 x.2):=by rw[<-hW2,Qyu];rfl
 have c2:W2.drew.cell? ⟨W.heap.size+1,0,none⟩=some (.string ⟨y.1.toArray⟩):=by rw[<-hW2,Qyt];rfl
 have c3:W2.drew.cell? ⟨W.heap.size+1,1,none⟩=some (.int .i64 y.2):=by rw[<-hW2,Qyt];rfl
 have hg:∃os,W2.drew=grow (W.drewN 1) os:=⟨#[.cells #[.string ⟨x.1.toArray⟩,.int .i64 x.2] 52,.cells #[.string ⟨y.1.toArray⟩,.int .i64 y.2] 52],by rw[<-hW2,alloc_eq_grow,alloc_eq_grow,grow_grow];rfl⟩;rw[hW2];clear hW2;refine wp_region_still_tail 10 (by kernel_rfl) (by kernel_rfl) ?_;simp only[List.take_succ_cons,Q2x,Q3f,Q3l];still_step;still_step;still_step;still_step;still_call (hS _);still_step;still_step;still_step;still_step;still_call (hI _);refine wpStill_nil ?_;change wpList _ _ _ _ _ W2.drew;generalize W2.drew=W3 at hg⊢;go_wp2_with (go_at_call 30;refine(hO _ _ (Qoc _ _ _ 0) (Qoc _ _ _ 1)).mono ?_;rintro e w' ⟨rfl,rfl⟩);go_ret;obtain⟨os,hg⟩:=hg;exact⟨rfl,1,_,by rw[hg,alloc_eq_grow,grow_grow]⟩
def swoSp:SWO (ltOf cSp) where
 irrefl x:=by unfold ltOf;rw[Qaq.refl];rfl
 trans x y z h1 h2:=by unfold ltOf at*;simp only[decide_eq_true_eq]at*;exact Qaq.lt_le h1 (by omega)
 ntrans x y z h1 h2:=by unfold ltOf at*;simp only[decide_eq_false_iff_not]at*;rw[Qaq.not_lt]at*;exact Qaq.trans _ _ _ h2 h1
def totSp(x y:Bs×Int)(h1:ltOf cSp x y=false)(h2:ltOf cSp y x=false):x=y:=by unfold ltOf at*;simp only[decide_eq_false_iff_not]at*;rw[Qaq.not_lt]at*;exact Qqb (Qaq.le_antisymm h2 h1)
def Qtp:Qoi Tryz.prog 27:=λblk off cap ss w hH hblk hsz=>Any.slices_Sort_int Tryz.lays189 blk off cap ss w hH hblk hsz
def Qve:Qoh Tryz.prog 28 29 leSp:=λblk off cap ss w hH hblk hsz=>by have eg:∀args w,(callFunc 29 args).run Tryz.prog w=.ok (.enter 29 args) w:=enters_of Tryz.func29 (by kernel_rfl) rfl;have h:=AnyQ.slices_SortFunc_total Tryz.sortF 2 Tryz.isAgg52 Tryz.sizeOf52 spV (λ_=>rfl) Qvd cSp swoSp 29 #[] blk off cap ss.toArray w eg (λ_ _ _ _ x y=>Qwx x y _) hH hblk hsz totSp;exact h
def Qto:Qkc Tryz.prog 28 29:=λa cap w=>AnyF.slices_SortFunc_none Tryz.sortF a cap _ w
end Zv
end Go.Proofs
namespace Go.Zam
variable{P:Program}
section
open Go.Proofs
end
section
open Go.Proofs
end
section
open Go.Proofs
def syA(o:Option (Bs×Int)):A:=.tup [.agg [YS (o.elim [] Prod.fst),YI (o.elim 0 Prod.snd)],YB o.isSome]
end
section
open Go.Proofs
structure PrjX(S:List Un):Prop where
 ok:PrjOk S
 chk:chkU none S=0
 gx:∀u∈S,GdX u
 sx:∀u∈S,Sm16 u
 rd:∀u∈S,∃m,u=Wi m
def Qvs(m:Mod):Sm16 (Wi m):=by
 have hz:=Qci m.t;by_cases h0:(Qz m.t).2.2.1=0
 .obtain⟨n,j,h1,h2,h3,h4,h5,hI,hj,h6⟩:=Qcj h0;have hsm:(Wi m).sm=Vw n:=by show(if _ then _ else _)=_;rw[if_pos h0,h2]
  have htk:(Wi m).tk=(lexS m.t).1:=h1;have hs:=Qkt n;rw[h2]at hz;unfold SM.sz at hs;have h4000:(lexS m.t).1.length<=4000:=((Qg3 m.t).2 h5).2;exact⟨by rw[htk];omega,by rw[hsm];omega,by rw[hsm];omega⟩
 .have hsm:(Wi m).sm=⟨[],[],[]⟩:=by show(if _ then _ else _)=_;rw[if_neg h0]
  have htk:(Wi m).tk=[]:=by
   show(Qz m.t).1=[];unfold Qz at h0⊢;split
   .rfl
   .rename_i g1;split
    .rfl
    .rename_i g2;rw[if_neg g1,if_neg g2]at h0;exact absurd rfl h0
  exact⟨by rw[htk];simp,by rw[hsm];simp,by rw[hsm];simp⟩
def Qyp{l:List Mod}(h:(ofU (l.map Wi)).2=0):PrjX (ofU (l.map Wi)).1:=by
 have hm:∀u∈(ofU (l.map Wi)).1,∃m,u=Wi m:=by
  intro u hu;have:u∈l.map Wi:=by
   unfold ofU at hu;split at hu
   .simp at hu
   .simp only at hu;split at hu
    .exact((Wf V3 _).2.mem V3).2 hu
    .simp at hu
  obtain⟨m,-,rfl⟩:=Q1s.1 this;exact⟨m,rfl⟩
 refine⟨Qzs l,(Qv5 h).2,λu hu=>?_,λu hu=>?_,hm⟩
 .obtain⟨m,rfl⟩:=hm u hu;exact Qtv m
 .obtain⟨m,rfl⟩:=hm u hu;exact Qvs m
def PrjX.strict{S:List Un}(h:PrjX S):S.Pairwise λu v=>cU u v<0:=(Qef h.ok.so h.chk).1
def PrjX.self{S:List Un}(h:PrjX S):Qyw S:=λu hu=>by obtain⟨i,hi⟩:=Q2m hu;exact Qtg h.ok.so h.chk hi
section
variable{P:Program}{H0:Hp}
def Qs6(P:Program)(H0:Hp)(f:Nat):Prop:=∀(l:List Mod)(z:Bool)(most:Int),0<=most/\most<=1048576->l.length<=1048576->(∀m∈l,m.n.length<=1048576/\m.t.length<=1048576)->∀H,Pre0 H0 H->Qc P f [YL z 2 (l.map encM),YI most] H (λr H'=>((∃d,r=.tup [.d .nilp,.d d,YB false])\/∃S,PrjX S/\r=.tup [pA S,YL true 14 (S.map Un.encR),YB true])/\H'=H)
def Qgq(P:Program)(f:Nat):Prop:=∀S,PrjX S->∀(m:Bs)(a:Int)(H:Hp),Qc P f [pA S,.agg [YS m,YI a]] H (λr H'=>r=syA (atSy S m a)/\H'=H)
def Ql8(P:Program)(f:Nat):Prop:=∀S,PrjX S->∀(s:Bs×Int)(H:Hp),Qc P f [pA S,.agg [YS s.1,YI s.2]] H (λr H'=>r=YL (Qah S s).isEmpty 2 ((Qah S s).map Qct)/\H'=H)
def Has.ixLoaded{f light_ load rload:Nat}(h:Has P f (Qgm light_ load rload))(hLi:Qs5 P light_)(hL:Qr3 P H0 load)(hR:Qs0 P H0 rload):Qs6 P H0 f:=by
 intro l z most hmo hl hm H hH;refine Qf h (by simp[Qgm]) λO _=>?_;have g1:=hLi l z most hmo hl hm H;have g2:=hL l z (λm h=>(hm m h).2) H hH;have g3:=hR l z (λm h=>(hm m h).2) H hH;have hx:=Qyp (l:=l);unfold ofA at g2;unfold ofR at g3;generalize ofU (l.map Wi)=o at*;obtain⟨S,e⟩:=o;simp only at g2 g3 hx;simp[Qgm];refine Qa g1 ?_;cases light l most with
 |false=>simp;simp[RetK,Qb O]
 |true=>
  simp;refine Qa g2 ?_;by_cases he:e=0
  .subst he;simp[pA];refine Qa g3 ?_;simp;simp[RetK,Qb O];exact⟨S,hx rfl,⟨rfl,rfl⟩,rfl⟩
  .simp[he];refine Qa g3 ?_;simp[he];simp[RetK,Qb O]
def ixM:Mod:=⟨[109,97,105,110],[100,101,102,32,109,97,105,110,40,41,32,123,32,109,97,105,110,40,41,59,32,125]⟩
def ixU:Un:=Wi ixM
def Qz2:chkU none [ixU]=0:=by kernel_rfl
def Qys:ofU ([ixM].map Wi)=([ixU],0):=by have h1:ssort cU [ixU]=[ixU]:=rfl;have h2:[ixM].map Wi=[ixU]:=rfl;unfold ofU;rw[h2,if_neg (by decide),h1,Qz2];rfl
def ix_at:atSy [ixU] [109,97,105,110] 5=some ([109,97,105,110],1):=by kernel_rfl
def ix_pl:(Qah [ixU] ([109,97,105,110],1)).length=2:=by kernel_rfl
def Has.ixAwake{f load ixAt places tSy:Nat}(h:Has P f (Qiu load ixAt places tSy))(hl:Qr3 P H0 load)(hA:Qgq P ixAt)(hP:Ql8 P places):Qs9 P H0 f:=by
 intro H hH;refine Qf h (by simp[Qiu]) λO _=>?_;have g1:=hl [ixM] false (by intro m hm;simp at hm;subst hm;decide) H hH;have ho:ofA ([ixM].map Wi)=.tup [pA [ixU],YI 0]:=by unfold ofA;rw[Qys];rfl
 have hx:PrjX [ixU]:=by have:=Qyp (l:=[ixM]);rw[Qys]at this;exact this rfl
 rw[ho]at g1;have g2:=hA [ixU] hx [109,97,105,110] 5 H;have g3:=λX=>hP [ixU] hx ([109,97,105,110],1) (H++X);rw[ix_at]at g2;have hk:=ix_pl;generalize Qah [ixU] ([109,97,105,110],1)=R at*;generalize[ixU]=S at*;simp only[Q1o,Q2f,encM,ixM,pA,syA,Q4u,Q3r]at g1 g2 g3;simp[Qiu];refine Qa g1 ?_;simp;refine Qa g2 ?_;simp;refine Qa (g3 _) ?_;simp[hk];simp[RetK,Qg O]
end
end
end Go.Zam
namespace Go.Proofs.Zv
section
open Go Go.Zam Go.Proofs
def Qq0:SortU Tryz.prog 34 35 54 92 93 135 159 36 15 25 42 where
 clone:=⟨_,Tryz.func34,by kernel_rfl⟩
 srt:=⟨_,Tryz.func35,by kernel_rfl⟩;stb:=⟨_,Tryz.func54,by kernel_rfl⟩;ins:=⟨_,Tryz.func92,by kernel_rfl⟩;sym:=⟨_,Tryz.func93,by kernel_rfl⟩;rot:=⟨_,Tryz.func135,by kernel_rfl⟩;swp:=⟨_,Tryz.func159,by kernel_rfl⟩;cmpU:=⟨_,Tryz.func36,by kernel_rfl⟩;kCmpU:=by kernel_rfl
 cmpS:=⟨_,Tryz.func15,by kernel_rfl⟩;nan:=⟨_,Tryz.func25,by kernel_rfl⟩
def pcfU:Ql Tryz.prog [] Tryz.f7=some (Qfb 13 14 42):=by kernel_rfl
def hUnit:Has Tryz.prog 7 (Qfb 13 14 42):=⟨_,Tryz.func7,pcfU⟩
def Qz6:Has Tryz.prog 14 (Qdk 15 42):=⟨_,Tryz.func14,by kernel_rfl⟩
def unitsOk:Qka Tryz.prog 7:=λS hS s H=>Has.pjUnit hUnit ⟨_,Tryz.func13,by kernel_rfl⟩ Qz6 (by kernel_rfl) Qq0.cmpS Qq0.nan S s (by have:=hS.len;omega) (λi j u v=>Qtn hS.so i j u v s) H
def bs40{S:List Un}(hS:PrjOk S):∀v∈S,v.sm.bs.length<=1099511627776:=λv hv=>by have:=(hS.sm v hv).2.1;omega
def Qxz:Qyj Tryz.prog 26:=λS hS u hu b hb H=>Has.pjImp (unit:=7) (item:=43) (tU:=42) (tBd:=74) (tIm:=93) ⟨_,Tryz.func26,by kernel_rfl⟩ (unitsOk S hS) Qz3 (bs40 hS) u (hS.gd u hu) b hb (by have:=(hS.sm u hu).2.2.2;omega) H
def pcfN:Ql Tryz.prog [3] Tryz.f6=some (Qfz 42 9):=by kernel_rfl
def namesOk:Qom Tryz.prog 6:=λS hl H=>Has.pjNames ⟨_,Tryz.func6,pcfN⟩ S hl H
def Qzl{H0:Hp}(hG:Qcw 0 1 2 3 H0):Qw7 Tryz.prog H0 21:=λm hm H hH=>Has.pjRead (pof:=32) (sof:=33) (tM:=62) (tU:=42) ⟨_,Tryz.func21,by kernel_rfl⟩ (λs hs H hH=>ofOk hG s hs H hH) Qxl m hm H hH
def Qxm{H0:Hp}:Qs1 Tryz.prog H0 23:=λm hm H hH=>Has.pjRread (rof:=38) (sofR:=39) (tM:=62) (tR:=86) ⟨_,Tryz.func23,by kernel_rfl⟩ (λs hs H _=>Qxp s hs H) Qq6 m hm H hH
def Qv6:OfOk Tryz.prog 22:=λl z hl hz H=>Has.pjOf (tP:=65) Qq0 ⟨_,Tryz.func22,by kernel_rfl⟩ Qwi l hl z hz
def Qwc{H0:Hp}(hG:Qcw 0 1 2 3 H0):Qr3 Tryz.prog H0 11:=λl z ht H hH=>HasT.pjLoad (tM:=62) (tU:=42) ⟨_,Tryz.func11,by kernel_rfl⟩ (Qzl hG) Qv6 l z ht H hH
def Qxo{H0:Hp}:Qs0 Tryz.prog H0 12:=λl z ht H hH=>HasT.pjRload (tR:=86) ⟨_,Tryz.func12,by kernel_rfl⟩ Qxm Qtt l z ht H hH
def Qwe:Qs5 Tryz.prog 10:=λl z most hm hl hs H=>Qxv (tM:=62) ⟨_,Tryz.func10,by kernel_rfl⟩ H z l most hm hl hs
def len20{S:List Un}(hS:PrjOk S):S.length<=1048576:=by have:=hS.len;omega
def bd40{S:List Un}(hX:PrjX S):∀u∈S,u.tk.length<=1099511627776/\(∀t∈u.tk,(t.a:Int)+t.x.length<=1099511627776)/\u.sm.sz<=1099511627776:=λu hu=>by obtain⟨h1,h2,h3⟩:=hX.sx u hu;obtain⟨h4,-⟩:=hX.ok.sm u hu;refine⟨by omega,(hX.gx u hu).bnd,?_⟩;unfold SM.sz;omega
def mt40{S:List Un}(hX:PrjX S):∀u∈S,∀t,mapAt u.sm t<u.sm.bs.length:=λu hu t=>by
 rcases Int.lt_or_le (mapAt u.sm t) 0 with h|h
 .omega
 .obtain⟨k,h1,h2,-⟩:=(hX.gx u hu).mapAt_some h;omega
def Qxe:Qsy Tryz.prog 16:=λL z a hl hb H=>Has.ixTokAt (tTk:=46) ⟨_,Tryz.func16,by kernel_rfl⟩ L z a hl hb H
def Qxu:Qs4 Tryz.prog 17:=λS t hl H=>Has.ixMapAt (tMap:=39) (tBd:=74) (tMn:=91) ⟨_,Tryz.func17,by kernel_rfl⟩ S t hl H
def Qwh{S:List Un}(hX:PrjX S):Qr5 Tryz.prog S 18:=λu hu b hb H=>Has.ixOf (imp:=26) (unit:=7) (tU:=42) (tBd:=74) (tSy:=48) (tIm:=93) ⟨_,Tryz.func18,by kernel_rfl⟩ u (unitsOk S hX.ok) (λb hb H=>Qxz S hX.ok u hu b hb H) b hb H
def ixAtOk:Qgq Tryz.prog 8:=λS hX m a H=>Has.ixAt (unit:=7) (tokAt:=16) (mapAt_:=17) (ixOf:=18) (tSp:=52) (tSy:=48) (tU:=42) ⟨_,Tryz.func8,by kernel_rfl⟩ (unitsOk S hX.ok) Qxe Qxu (Qwh hX) (bd40 hX) (mt40 hX) m a H
def Qwg{S:List Un}(hX:PrjX S):Qqr Tryz.prog S 19:=λu hu i hi H=>by have hs:=hX.sx u hu;have:=Has.scUses (srt:=27) (tm:=39) (mn:=91) (tint:=3) ⟨_,Tryz.func19,by kernel_rfl⟩ Qtp (S:=u.sm) (z1:=u.sm.bs.isEmpty) (z2:=u.sm.ms.isEmpty) (bad:=.sl u.sm.bad.isEmpty 2 (u.sm.bad.map Q3)) (by have:=hs.2.2;omega) i hi H;exact this
def Qzh{S:List Un}(hX:PrjX S)(s:Bs×Int):(Qah S s).length<=1099511627776:=by
 have h:=Qm2 (g:=plU S s) (T:=S) (b:=4294967296) λu hu=>by obtain⟨g1,g2,-⟩:=hX.sx u hu;have:=Qsj S u s u.tk.length;have h2:u.tk.length*u.sm.bs.length<=65536*65536:=Nat.mul_le_mul g1 g2;unfold plU;omega
 have h8:=hX.ok.len;have:(Qah S s).length<=S.length*4294967296:=h;have h2:S.length*4294967296<=8*4294967296:=Q1q _ h8;omega
def ixPlOk:Ql8 Tryz.prog 9:=λS hX s H=>by
 have hp:=Qv0 hX.strict hX.gx s;have hl:(qlS S s S).length=(Qah S s).length:=by rw[<-hp,Q23]
 have h:=HasT.ixPlaces (names:=6) (unit:=7) (ixOf:=18) (uses:=19) (ixSort:=20) (srt:=28) (cmp:=29) (tSy:=48) (tU:=42) (tBd:=74) (tSp:=52) ⟨_,Tryz.func9,by kernel_rfl⟩ (λH=>namesOk S (len20 hX.ok) H) (unitsOk S hX.ok) hX.self (Qwh hX) (Qwg hX)
  ⟨_,Tryz.func20,by kernel_rfl⟩ Qve Qto hX.ok.len (λu hu=>by have:=(hX.sx u hu).2.1;omega) (λu hu i hi t ht=>(hX.gx u hu).uin i hi t ((Qlb _).mem_iff.1 ht)) s (by rw[hl];exact Qzh hX s) H
 rw[hp]at h;simpa[Qct]using h
def loadedOk{H0:Hp}(hG:Qcw 0 1 2 3 H0):Qs6 Tryz.prog H0 4:=Has.ixLoaded (light_:=10) (load:=11) (rload:=12) ⟨_,Tryz.func4,by kernel_rfl⟩ Qwe (Qwc hG) Qxo
def awkOk{H0:Hp}(hG:Qcw 0 1 2 3 H0):Qs9 Tryz.prog H0 5:=Has.ixAwake (load:=11) (ixAt:=8) (places:=9) (tSy:=48) ⟨_,Tryz.func5,by kernel_rfl⟩ (Qwc hG) ixAtOk ixPlOk
end
end Go.Proofs.Zv
namespace Go.Zam
end Go.Zam
namespace Go.Proofs.Zv
open Go Go.Zam Go.Proofs
def tyMod(n:Nat)(ds:List D)(h:Typed Tryz.prog n 62 ds):∃m:Mod,ds=encM m:=by obtain⟨m,h⟩:=Qnl Tryz.underlying62 h;obtain⟨a,r,rfl,ha,b,r,rfl,hb,rfl⟩:=h;obtain⟨s,rfl⟩:=Qmg Tryz.underlying9 ha;obtain⟨t,rfl⟩:=Qmg Tryz.underlying9 hb;exact⟨⟨s,t⟩,rfl⟩
def arg_mods{n:Nat}{ds:List D}{a:A}(h:Typed Tryz.prog n 22 ds)(ha:Qjm Tryz.prog 22 ds a):∃z,∃l:List Mod,a=YL z 2 (l.map encM)/\(l.length<=D.bulkC ds/\∀m∈l,m.n.length<=D.bulkC ds/\m.t.length<=D.bulkC ds):=by obtain⟨z,l,rfl⟩:=Qu2 (sz:=2) Tryz.underlying22 (by kernel_rfl) tyMod h;refine⟨z,l,Quq (by rw[Tryz.underlying22];simp) ha,?_⟩;have h1:=Qnb (enc:=encM) (λm=>by simp only[encM,D.bulkC,D.bulk];omega) l;simp only[D.bulkC,D.bulk];refine⟨by omega,λm hm=>?_⟩;have h2:=Quo (List.mem_map_of_mem (f:=encM) hm);simp only[encM,D.bulkC,D.bulk]at h2;omega
end Go.Proofs.Zv
namespace Go.Zam
section
section
variable{P:Program}{ops:Array Oper}{Q:Exit->Act->World->Prop}
def Qtc{Inv:List Bool->Act->World->Prop}(hi:∀(S:List Bool) (a:Act) (w:World),S.length=ops.size->Inv S a w->(Qai (Qae ops) S=[]->Q .normal a w)/\∀i∈Qai (Qae ops) S,wpOp P ops Q i (Inv (S.set i true)) a w):
 ∀(n:Nat)(listed:Array Bool)(a:Act)(w:World),listed.size=ops.size->listed.toList.count false<=n->Inv listed.toList a w->wpAny P .any ops Q n listed a w:=by
 have nil:∀(listed:Array Bool),Region.ready .any ops listed=[]->Qai (Qae ops) listed.toList=[]:=λlisted h=>by refine Q25.2 λi hi=>?_;have:=Qd3.1 hi;rw[h]at this;cases this
 intro n;induction n with
 |zero=>
  intro listed a w hs hc h;have he:Region.ready .any ops listed=[]:=by
   refine Q25.2 λi hi=>?_;obtain⟨h1,o,ho,-⟩:=mem_ready.1 hi;have hil:i<listed.size:=by rw[hs];exact(Q1f.1 ho).1
   have h2:listed.toList.count false=0:=Nat.le_zero.1 hc;rw[Q4h]at h2;refine h2 ?_;have h3:listed.toList[i]'(by simpa using hil)=false:=by simpa[Q1h,hil]using h1
   rw[<-h3];exact Q1n _
  exact⟨he,(hi _ a w (by simpa using hs) h).1 (nil _ he)⟩
 |succ n ih=>
  intro listed a w hs hc h;obtain⟨h1,h2⟩:=hi _ a w (by simpa using hs) h;refine⟨λe=>h1 (nil _ e),λi hi=>?_⟩;refine wpOp_mono (λa w hk=>ih _ _ _ (by simpa using hs) ?_ (by simpa using hk)) (h2 i (Qd3.2 hi));obtain⟨hf,o,ho,-⟩:=mem_ready.1 hi;have hil:i<listed.size:=by rw[hs];exact(Q1f.1 ho).1
  have h3:listed.toList[i]'(by simpa using hil)=false:=by simpa[Q1h,hil]using hf
  have h4:(listed.setIfInBounds i true).toList.count false=listed.toList.count false-1:=by rw[Q4e,List.count_set (by simpa using hil)];simp[h3]
  omega
def Qma{id:Nat}{Inv:List Bool->Act->World->Prop}(hm:P.follows .mixedOrders=true)(hi:∀(S:List Bool) (a:Act) (w:World),S.length=ops.size->Inv S a w->(Qai (Qae ops) S=[]->Q .normal a w)/\∀i∈Qai (Qae ops) S,wpOp P ops Q i (Inv (S.set i true)) a w){a:Act}{w:World}(h:Inv (List.replicate ops.size false) a w.drew):(Code.region id ops true).wp P Q a w:=wp_region_any hm (Qtc hi ops.size _ a w.drew (by simp) (by simp) (by simpa using h))
def Qc1{i:Nat}{K:Act->World->Prop}{a:Act}{w w':World}{o:Oper}{v:Value}(ho:ops[i]?=some o)(hg:Region.wanted o (yielded ops a.tmps)=true)(hr:(execOp a.eval o).run P w=.ok (.value v) w')(hk:K (a.put o.dst v) w'):wpOp P ops Q i K a w:=by unfold wpOp;rw[ho];simp only[hg,if_true];refine .inl ?_;unfold Oper.wp;rw[hr];exact hk
def Qtb{i:Nat}{K:Act->World->Prop}{a:Act}{w w':World}{o:Oper}(ho:ops[i]?=some o)(hg:Region.wanted o (yielded ops a.tmps)=true)(hr:(execOp a.eval o).run P w=.ok .skip w')(hk:K (a.put o.dst undef) w'):wpOp P ops Q i K a w:=by unfold wpOp;rw[ho];simp only[hg,if_true];refine .inl ?_;unfold Oper.wp;rw[hr];exact hk
end
def gd(l:List Value)(i:Nat):Value:=l[i]?.getD undef
def Qx{l:List Value}{i:Nat}{v:Value}(h:l[i]?=some v):gd l i=v:=by simp[gd,h]
def Qzv(l:List Value):l=(List.range l.length).map (gd l):=by refine List.ext_getElem (by simp) λi h1 h2=>?_;simp[gd,h1]
def Qeb{l:List Value}{i:Nat}:(Act.mk l.toArray []).eval (.tmp i)=gd l i:=by simp[Act.eval,gd,Q1h]
def Q57{l:List Value}{v:Value}:(Act.mk l.toArray []).eval (.const v)=v:=rfl
def Qiw{l:List Value}{d:Nat}{v:Value}:(Act.mk l.toArray []).put (some d) v=Act.mk (l.set d v).toArray []:=by simp[Act.put]
def Qx0{l:List Value}{v:Value}:(Act.mk l.toArray []).put none v=Act.mk l.toArray []:=rfl
def pth:List Nat->Code->Code
 |0::r,.seq a _=>pth r a
 |1::r,.seq _ b=>pth r b
 |2::r,.block _ c=>pth r c
 |2::r,.loop c=>pth r c
 |3::r,.cond _ a _=>pth r a
 |4::r,.cond _ _ b=>pth r b
 |_,c=>c
end
end Go.Zam
namespace Go.Proofs.Zv
section
open Go Go.Zam Go.Proofs
noncomputable def outB:Code:=pth [1,1,1,1,0,1,2,2] (Tryz.f3.body.getD .skip)
noncomputable def inB':Code:=pth [1,1,0,2,1,1,1,2,2] outB
noncomputable def mapB:Code:=pth [1,1,1,1,1,0,1,2,2] (Tryz.f3.body.getD .skip)
noncomputable def r15:Code:=pth [1,1,0,2,1,1,1,1,3] inB'
noncomputable def ops15:Array Oper:=match r15 with
 |.region _ o _=>o
 |_=>#[]
def Qzp:r15=.region 15 ops15 true:=by kernel_rfl
def w15:Qae ops15=[[],[],[0,1],[2],[0,1,0,1],[4],[0,5,3,4,0,1,2,3,4,5]]:=by kernel_rfl
def o15_0:∃p af,ops15[0]?=some ⟨some 60,.move (.tmp 6),28,p,af,none⟩:=⟨_,_,rfl⟩
def o15_1:∃p af,ops15[1]?=some ⟨some 61,.load 48 (.tmp 13),48,p,af,none⟩:=⟨_,_,rfl⟩
def o15_2:∃p af,ops15[2]?=some ⟨some 62,.lookup 28 (.tmp 60) (.tmp 61) false,3,p,af,none⟩:=⟨_,_,rfl⟩
def o15_3:∃p af,ops15[3]?=some ⟨some 63,.binOp .add 3 (.tmp 62) (.const (.int .i64 1)) 3,3,p,af,none⟩:=⟨_,_,rfl⟩
def o15_4:∃p af,ops15[4]?=some ⟨some 64,.mapEntry 28 (.tmp 60) (.tmp 61),0,p,af,none⟩:=⟨_,_,rfl⟩
def o15_5:∃p af,ops15[5]?=some ⟨some 65,.extract (.tmp 64) 1,3,p,af,none⟩:=⟨_,_,rfl⟩
def o15_6:∃p af,ops15[6]?=some ⟨none,.entryStore 28 (.tmp 60) (.tmp 65) (.tmp 63),0,p,af,none⟩:=⟨_,_,rfl⟩
def s15:ops15.size=7:=by kernel_rfl
def all7:∀a b c d e f g:Bool,Qai [[],[],[0,1],[2],[0,1,0,1],[4],[0,5,3,4,0,1,2,3,4,5]] [a,b,c,d,e,f,g]=[]->g=true:=by decide
def in7{a b c d e f g:Bool}{i:Nat}(h:i∈Qai [[],[],[0,1],[2],[0,1,0,1],[4],[0,5,3,4,0,1,2,3,4,5]] [a,b,c,d,e,f,g]):
 (i=0/\a=false)\/(i=1/\b=false)\/(i=2/\a=true/\b=true/\c=false)\/(i=3/\c=true/\d=false)\/(i=4/\a=true/\b=true/\e=false)\/(i=5/\e=true/\f=false)\/(i=6/\a=true/\b=true/\c=true/\d=true/\e=true/\f=true/\g=false):=by
 obtain⟨h1,h2⟩:=Q19.1 h;have h3:=Q2q.1 h1;match i,h3 with
 |0,_=>simp[List.getD]at h2;simp[h2]
 |1,_=>simp[List.getD]at h2;simp[h2]
 |2,_=>simp[List.getD]at h2;simp[h2]
 |3,_=>simp[List.getD]at h2;simp[h2]
 |4,_=>simp[List.getD]at h2;simp[h2]
 |5,_=>simp[List.getD]at h2;simp[h2]
 |6,_=>simp[List.getD]at h2;simp[h2]
 |n+7,h=>simp at h;omega
structure J15(l:List Value)(mb:Nat)(sv:Value)(c st:Int)(w0 w1 w2:World)(a b x d e f g:Bool)(l':List Value)(w:World):Prop where
 len:l'.length=82
 low:∀i,i<60->l'[i]?=l[i]?
 hm:a=true->l'[60]?=some (.map (some mb))
 hs:b=true->l'[61]?=some sv
 hc:x=true->l'[62]?=some (.int .i64 c)
 hd:d=true->l'[63]?=some (.int .i64 (c+1))
 he:e=true->l'[64]?=some (.tuple #[.int .i64 c,.int .i64 st])
 hf:f=true->l'[65]?=some (.int .i64 st)
 hw:w=if g=true then w2 else if e=true then w1 else w0
def J15.set{l:List Value}{mb:Nat}{sv:Value}{c st:Int}{w0 w1 w2 w:World}{a b x d e f g:Bool}{l':List Value}(h:J15 l mb sv c st w0 w1 w2 a b x d e f g l' w)(k:Nat)(hk:60<=k)(v:Value)(a' b' x' d' e' f' g':Bool)(w':World)(ha:a'=true->(k=60/\v=.map (some mb))\/(k≠60/\a=true))(hb:b'=true->(k=61/\v=sv)\/(k≠61/\b=true))(hx:x'=true->(k=62/\v=.int .i64 c)\/(k≠62/\x=true))(hd:d'=true->(k=63/\v=.int .i64 (c+1))\/(k≠63/\d=true))(he:e'=true->(k=64/\v=.tuple #[.int .i64 c,.int .i64 st])\/(k≠64/\e=true))(hf:f'=true->(k=65/\v=.int .i64 st)\/(k≠65/\f=true))(hw:w'=if g'=true then w2 else if e'=true then w1 else w0)(hk2:k<82):J15 l mb sv c st w0 w1 w2 a' b' x' d' e' f' g' (l'.set k v) w':=by
 have hn:=h.len;have key:∀(j:Nat)(y:Value),j<82->((k=j/\v=y)\/(k≠j/\l'[j]?=some y))->(l'.set k v)[j]?=some y:=by
  rintro j y hj (⟨rfl,rfl⟩|⟨h1,h2⟩)
  .rw[Q0s (by omega)]
  .rw[Q0r h1];exact h2
 refine⟨by simp[hn],λi hi=>?_,λg=>key _ _ (by omega) ((ha g).imp id λq=>⟨q.1,h.hm q.2⟩),λg=>key _ _ (by omega) ((hb g).imp id λq=>⟨q.1,h.hs q.2⟩),λg=>key _ _ (by omega) ((hx g).imp id λq=>⟨q.1,h.hc q.2⟩),
  λg=>key _ _ (by omega) ((hd g).imp id λq=>⟨q.1,h.hd q.2⟩),λg=>key _ _ (by omega) ((he g).imp id λq=>⟨q.1,h.he q.2⟩),λg=>key _ _ (by omega) ((hf g).imp id λq=>⟨q.1,h.hf q.2⟩),hw⟩
 rw[Q0r (by omega)];exact h.low i hi
def Qye{c:Int}(h0:0<=c)(h1:c<=1099511627776)(w:World):(do eqGuard .add 3 (.tmp 62) (.const (.int .i64 1)) (.int .i64 c) (.int .i64 1);binOp .add 3 (.int .i64 c) (.int .i64 1):Sem Value).run Tryz.prog w=.ok (.int .i64 (c+1)) w:=by have hw:IntKind.i64.wrap (c+1)=c+1:=wi64 (by omega);simp[go_sem,eqGuard,hw]
def Qvq{Q:Exit->Act->World->Prop}{l:List Value}{mb pb:Nat}{sv:Value}{c st:Int}{w w1 w2:World}(hl:l.length=82)(h6:l[6]?=some (.map (some mb)))(h13:l[13]?=some (.pointer (some ⟨pb,0,none⟩)))(h0:0<=c)(h1:c<=1099511627776)(hld:(Instr.loadAt 48 (.pointer (some ⟨pb,0,none⟩))).run Tryz.prog w.drew=.ok sv w.drew)(hk0:(Instr.lookup 28 (.map (some mb)) sv false).run Tryz.prog w.drew=.ok (.int .i64 c) w.drew)(hme:(Instr.mapEntry 28 (.map (some mb)) sv).run Tryz.prog w.drew=.ok (.tuple #[.int .i64 c,.int .i64 st]) w1)(hk1:(Instr.lookup 28 (.map (some mb)) sv false).run Tryz.prog w1=.ok (.int .i64 c) w1)(hes:(Instr.entryStore 28 (.map (some mb)) (.int .i64 st) (.int .i64 (c+1))).run Tryz.prog w1=.ok () w2)(hQ:∀l':List Value,l'.length=82->(∀i,i<60->l'[i]?=l[i]?)->Q .normal ⟨l'.toArray,[]⟩ w2):r15.wp Tryz.prog Q ⟨l.toArray,[]⟩ w:=by
 rw[Qzp];refine Qma (Inv:=λS a W=>((S.getD 4 false=true->S.getD 1 false=true)/\(S.getD 6 false=true->S.getD 4 false=true)/\(S.getD 6 false=true->S.getD 2 false=true))/\∃l',a=⟨l'.toArray,[]⟩/\J15 l mb sv c st w.drew w1 w2 (S.getD 0 false) (S.getD 1 false) (S.getD 2 false) (S.getD 3 false) (S.getD 4 false) (S.getD 5 false) (S.getD 6 false) l' W) (by kernel_rfl) ?_ ?_
 .rintro S a W hS ⟨hC,l',rfl,hJ⟩;rw[s15]at hS;rw[w15]
  match S,hS with
  |[a,b,x,d,e,f,g],_=>
  simp only[List.getD_cons_zero,List.getD_cons_succ]at hJ hC;obtain⟨q1,q2,q3⟩:=hC;refine⟨λhr=>?_,λi hi=>?_⟩
  .obtain rfl:=all7 _ _ _ _ _ _ _ hr;have:=hJ.hw;simp only[if_true]at this;subst this;exact hQ l' hJ.len hJ.low
  .have e6:gd l' 6=.map (some mb):=Qx ((hJ.low 6 (by omega)).trans h6);have e13:gd l' 13=.pointer (some ⟨pb,0,none⟩):=Qx ((hJ.low 13 (by omega)).trans h13);have hJw:=hJ.hw;rcases in7 hi with⟨rfl,rfl⟩|⟨rfl,rfl⟩|⟨rfl,rfl,rfl,rfl⟩|⟨rfl,rfl,rfl⟩|⟨rfl,rfl,rfl,rfl⟩|⟨rfl,rfl,rfl⟩|⟨rfl,rfl,rfl,rfl,rfl,rfl,rfl,rfl⟩
   .obtain⟨p,af,ho⟩:=o15_0;refine Qc1 ho rfl (v:=.map (some mb)) (w':=W) (by simp only[execOp,Qeb,e6];rfl) ?_;rw[Qiw];exact⟨⟨q1,q2,q3⟩,_,rfl,hJ.set 60 (by omega) _ true _ _ _ _ _ _ _ (by simp) (by simp) (by simp) (by simp) (by simp) (by simp) hJw (by omega)⟩
   .obtain⟨p,af,ho⟩:=o15_1;obtain rfl:e=false:=by cases e<;>simp at q1⊢
    obtain rfl:g=false:=by cases g<;>simp at q2⊢
    obtain rfl:W=w.drew:=by simpa using hJw
    refine Qc1 ho rfl (v:=sv) (w':=w.drew) (by simp only[execOp,Qeb,e13,Q1m,hld,Result.andThen];rfl) ?_;rw[Qiw];exact⟨⟨λh=>rfl,q2,q3⟩,_,rfl,hJ.set 61 (by omega) _ _ true _ _ _ _ _ _ (by simp) (by simp) (by simp) (by simp) (by simp) (by simp) rfl (by omega)⟩
   .obtain⟨p,af,ho⟩:=o15_2;obtain rfl:g=false:=by cases g<;>simp at q3⊢
    have hlk:(Instr.lookup 28 (.map (some mb)) sv false).run Tryz.prog W=.ok (.int .i64 c) W:=by
     subst hJw;cases e
     .exact hk0
     .exact hk1
    refine Qc1 ho rfl (v:=.int .i64 c) (w':=W) (by simp only[execOp,Qeb,Qx (hJ.hm rfl),Qx (hJ.hs rfl),Q1m,hlk,Result.andThen];rfl) ?_;rw[Qiw];exact⟨⟨q1,q2,λh=>rfl⟩,_,rfl,hJ.set 62 (by omega) _ _ _ true _ _ _ _ _ (by simp) (by simp) (by simp) (by simp) (by simp) (by simp) hJw (by omega)⟩
   .obtain⟨p,af,ho⟩:=o15_3;refine Qc1 ho rfl (v:=.int .i64 (c+1)) (w':=W) ?_ ?_
    .have:=Qye h0 h1 W;simp only[execOp,Qeb,Qx (hJ.hc rfl),Q57];rw[Q1m,this];rfl
    rw[Qiw];exact⟨⟨q1,q2,q3⟩,_,rfl,hJ.set 63 (by omega) _ _ _ _ true _ _ _ _ (by simp) (by simp) (by simp) (by simp) (by simp) (by simp) hJw (by omega)⟩
   .obtain⟨p,af,ho⟩:=o15_4;obtain rfl:g=false:=by cases g<;>simp at q2⊢
    obtain rfl:W=w.drew:=by simpa using hJw
    refine Qc1 ho rfl (v:=.tuple #[.int .i64 c,.int .i64 st]) (w':=w1) (by simp only[execOp,Qeb,Qx (hJ.hm rfl),Qx (hJ.hs rfl),Q1m,hme,Result.andThen];rfl) ?_;rw[Qiw];exact⟨⟨λh=>rfl,λh=>rfl,q3⟩,_,rfl,hJ.set 64 (by omega) _ _ _ _ _ true _ _ _ (by simp) (by simp) (by simp) (by simp) (by simp) (by simp) rfl (by omega)⟩
   .obtain⟨p,af,ho⟩:=o15_5;refine Qc1 ho rfl (v:=.int .i64 st) (w':=W) (by simp only[execOp,Qeb,Qx (hJ.he rfl)];rfl) ?_;rw[Qiw];exact⟨⟨q1,q2,q3⟩,_,rfl,hJ.set 65 (by omega) _ _ _ _ _ _ true _ _ (by simp) (by simp) (by simp) (by simp) (by simp) (by simp) hJw (by omega)⟩
   .obtain⟨p,af,ho⟩:=o15_6;obtain rfl:W=w1:=by simpa using hJw
    refine Qtb ho rfl (w':=w2) (by simp only[execOp,Qeb,Qx (hJ.hm rfl),Qx (hJ.hf rfl),Qx (hJ.hd rfl),Q1m,hes,Result.andThen];rfl) ?_;rw[Qx0];exact⟨⟨q1,λh=>rfl,λh=>rfl⟩,_,rfl,⟨hJ.len,hJ.low,hJ.hm,hJ.hs,hJ.hc,hJ.hd,hJ.he,hJ.hf,rfl⟩⟩
 .refine⟨by simp[s15],l,rfl,⟨hl,λ_ _=>rfl,?_,?_,?_,?_,?_,?_,?_⟩⟩<;>simp[s15]
end
section
open Go Go.Zam Go.Proofs Go.RowKit
def lit82{l:List Value}(h:l.length=82):l=[gd l 0,gd l 1,gd l 2,gd l 3,gd l 4,gd l 5,gd l 6,gd l 7,gd l 8,gd l 9,gd l 10,gd l 11,gd l 12,gd l 13,gd l 14,gd l 15,gd l 16,gd l 17,gd l 18,gd l 19,gd l 20,gd l 21,gd l 22,gd l 23,gd l 24,gd l 25,gd l 26,gd l 27,gd l 28,gd l 29,gd l 30,gd l 31,gd l 32,gd l 33,gd l 34,gd l 35,gd l 36,gd l 37,gd l 38,gd l 39,gd l 40,gd l 41,gd l 42,gd l 43,gd l 44,gd l 45,gd l 46,gd l 47,gd l 48,gd l 49,gd l 50,gd l 51,gd l 52,gd l 53,gd l 54,gd l 55,gd l 56,gd l 57,gd l 58,gd l 59,gd l 60,gd l 61,gd l 62,gd l 63,gd l 64,gd l 65,gd l 66,gd l 67,gd l 68,gd l 69,gd l 70,gd l 71,gd l 72,gd l 73,gd l 74,gd l 75,gd l 76,gd l 77,gd l 78,gd l 79,gd l 80,gd l 81]:=by have:=Qzv l;rw[h]at this;exact this
structure FI(v0 mp nm ns nl kk ts tn:Value)(l:List Value):Prop where
 len:l.length=82
 f3:l[3]?=some v0
 f6:l[6]?=some mp
 f8:l[8]?=some nm
 f28:l[28]?=some ns
 f29:l[29]?=some nl
 f30:l[30]?=some kk
 f41:l[41]?=some ts
 f42:l[42]?=some tn
section
variable{v0 mp ns nl kk:Value}{nm:ByteArray}{tb to cap n q:Nat}{t:Tk}{w:World}{Q:Exit->Act->World->Prop}{l:List Value}
def tkO(k:Int)(t:Tk):Obj:=.cells #[.int .i64 k,.int .i64 (t.a:Int),.string ⟨t.l.toArray⟩,.string ⟨t.x.toArray⟩] 46
set_option maxHeartbeats 4000000 in
theorem innA(h:FI v0 mp (.string nm) ns nl kk (.slice (some ⟨tb,to,none⟩) n cap) (.int .i64 n) l)(h43:l[43]?=some (.int .i64 (q:Int)))(hq:q<n)(hn:n<=1048576)(t0:w.cell? ⟨tb,to+q*4,none⟩=some (.int .i64 t.k))(t1:w.cell? ⟨tb,to+q*4+1,none⟩=some (.int .i64 (t.a:Int)))(t2:w.cell? ⟨tb,to+q*4+2,none⟩=some (.string ⟨t.l.toArray⟩))(t3:w.cell? ⟨tb,to+q*4+3,none⟩=some (.string ⟨t.x.toArray⟩))(hk:t.k≠1)(hQ:∀l':List Value,FI v0 mp (.string nm) ns nl kk (.slice (some ⟨tb,to,none⟩) n cap) (.int .i64 n) l'->l'[43]?=some (.int .i64 ((q+1:Nat):Int))->Q .normal ⟨l'.toArray,[]⟩ (w.alloc (tkO t.k t))):inB'.wp Tryz.prog Q ⟨l.toArray,[]⟩ w:=by
 obtain⟨hl,f3,f6,f8,f28,f29,f30,f41,f42⟩:=h;rw[lit82 hl,Qx f3,Qx f6,Qx f8,Qx f28,Qx f29,Qx f30,Qx f41,Qx f42,Qx h43];generalize gd l=f
 conv=>arg 2;whnf
 go_wp2
 exact hQ _ ⟨rfl,rfl,rfl,rfl,rfl,rfl,rfl,rfl,rfl⟩ rfl
set_option maxHeartbeats 4000000 in
theorem innN(h:FI v0 mp (.string nm) ns nl kk (.slice (some ⟨tb,to,none⟩) n cap) (.int .i64 n) l)(h43:l[43]?=some (.int .i64 (q:Int)))(hq:q<n)(hn:n<=1048576)(t0:w.cell? ⟨tb,to+q*4,none⟩=some (.int .i64 1))(t1:w.cell? ⟨tb,to+q*4+1,none⟩=some (.int .i64 (t.a:Int)))(t2:w.cell? ⟨tb,to+q*4+2,none⟩=some (.string ⟨t.l.toArray⟩))(t3:w.cell? ⟨tb,to+q*4+3,none⟩=some (.string ⟨t.x.toArray⟩)){sm:ByteArray}{st:Int}{K:World->Prop}(hat:Calls Tryz.prog 8 #[v0,.agg #[.string nm,.int .i64 (t.a:Int)]] (w.alloc (tkO 1 t)) λe w5=>e=.returned (.tuple #[.agg #[.string sm,.int .i64 st],.bool false])/\K w5)(hQ:∀(l':List Value) (w5:World),K w5->FI v0 mp (.string nm) ns nl kk (.slice (some ⟨tb,to,none⟩) n cap) (.int .i64 n) l'->l'[43]?=some (.int .i64 ((q+1:Nat):Int))->Q .normal ⟨l'.toArray,[]⟩ (w5.alloc (.cells #[.string sm,.int .i64 st] 48))):inB'.wp Tryz.prog Q ⟨l.toArray,[]⟩ w:=by
 obtain⟨hl,f3,f6,f8,f28,f29,f30,f41,f42⟩:=h;rw[lit82 hl,Qx f3,Qx f6,Qx f8,Qx f28,Qx f29,Qx f30,Qx f41,Qx f42,Qx h43];generalize gd l=f
 conv=>arg 2;whnf
 go_wp2_with (first|(go_at_call 8;refine hat.mono ?_;rintro e w5 ⟨rfl,hK⟩))
 exact hQ _ _ hK ⟨rfl,rfl,rfl,rfl,rfl,rfl,rfl,rfl,rfl⟩ rfl
def ld48{w:World}{b:Nat}{x y:Value}(hb:w.heap[b]?=some (.cells #[x,y] 48)):(Instr.loadAt 48 (.pointer (some ⟨b,0,none⟩))).run Tryz.prog w=.ok (.agg #[x,y]) w:=by
 have c0:w.cell? ⟨b,0,none⟩=some x:=by simp[World.cell?,hb]
 have c1:w.cell? ⟨b,1,none⟩=some y:=by simp[World.cell?,hb]
 simp[go_sem,Instr.loadAt,c0,c1]
set_option maxHeartbeats 4000000 in
theorem innS{mb:Nat}(h:FI v0 (.map (some mb)) (.string nm) ns nl kk (.slice (some ⟨tb,to,none⟩) n cap) (.int .i64 n) l)(h43:l[43]?=some (.int .i64 (q:Int)))(hq:q<n)(hn:n<=1048576)(t0:w.cell? ⟨tb,to+q*4,none⟩=some (.int .i64 1))(t1:w.cell? ⟨tb,to+q*4+1,none⟩=some (.int .i64 (t.a:Int)))(t2:w.cell? ⟨tb,to+q*4+2,none⟩=some (.string ⟨t.l.toArray⟩))(t3:w.cell? ⟨tb,to+q*4+3,none⟩=some (.string ⟨t.x.toArray⟩)){sm:ByteArray}{st:Int}{K K2:World->Prop}(hat:Calls Tryz.prog 8 #[v0,.agg #[.string nm,.int .i64 (t.a:Int)]] (w.alloc (tkO 1 t)) λe w5=>e=.returned (.tuple #[.agg #[.string sm,.int .i64 st],.bool true])/\K w5)(hR:∀w5 W:World,K w5->W=(w5.alloc (.cells #[.string sm,.int .i64 st] 48)).drew->∃(c s1:Int) (w1 w2:World),0<=c/\c<=1099511627776/\(Instr.lookup 28 (.map (some mb)) (.agg #[.string sm,.int .i64 st]) false).run Tryz.prog W=.ok (.int .i64 c) W/\
 (Instr.mapEntry 28 (.map (some mb)) (.agg #[.string sm,.int .i64 st])).run Tryz.prog W=.ok (.tuple #[.int .i64 c,.int .i64 s1]) w1/\(Instr.lookup 28 (.map (some mb)) (.agg #[.string sm,.int .i64 st]) false).run Tryz.prog w1=.ok (.int .i64 c) w1/\
 (Instr.entryStore 28 (.map (some mb)) (.int .i64 s1) (.int .i64 (c+1))).run Tryz.prog w1=.ok () w2/\K2 w2)(hQ:∀(l':List Value) (w2:World),K2 w2->FI v0 (.map (some mb)) (.string nm) ns nl kk (.slice (some ⟨tb,to,none⟩) n cap) (.int .i64 n) l'->l'[43]?=some (.int .i64 ((q+1:Nat):Int))->Q .normal ⟨l'.toArray,[]⟩ w2):inB'.wp Tryz.prog Q ⟨l.toArray,[]⟩ w:=by
 obtain⟨hl,f3,f6,f8,f28,f29,f30,f41,f42⟩:=h;rw[lit82 hl,Qx f3,Qx f6,Qx f8,Qx f28,Qx f29,Qx f30,Qx f41,Qx f42,Qx h43];generalize gd l=f
 conv=>arg 2;whnf
 go_wp2_with (first|(go_at_call 8;refine hat.mono ?_;rintro e w5 ⟨rfl,hK⟩))
 rename_i K16 h16;obtain⟨c,s1,w1,w2,h0,h1,hk0,hme,hk1,hes,hK2⟩:=hR w5 _ hK rfl;have hb:(w5.alloc (.cells #[.string sm,.int .i64 st] 48)).drew.heap[w5.heap.size]?=some (.cells #[.string sm,.int .i64 st] 48):=heap_alloc_new w5 _;refine Qvq (l:=[_,_,_,v0,_,_,.map (some mb),_,.string nm,_,_,_,_,_,_,_,_,_,_,_,_,_,_,_,_,_,_,_,ns,nl,kk,_,_,_,_,_,_,_,_,_,_,.slice (some ⟨tb,to,none⟩) n cap,.int .i64 n,.int .i64 q,_,_,_,_,_,_,_,_,_,_,_,_,_,_,_,_,_,_,_,_,_,_,_,_,_,_,_,_,_,_,_,_,_,_,_,_,_,_]) rfl rfl rfl h0 h1 (ld48 hb) hk0 hme hk1 hes λl' hl' hlow=>?_;have g:FI v0 (.map (some mb)) (.string nm) ns nl kk (.slice (some ⟨tb,to,none⟩) n cap) (.int .i64 n) l':=⟨hl',hlow 3 (by omega),hlow 6 (by omega),hlow 8 (by omega),hlow 28 (by omega),hlow 29 (by omega),hlow 30 (by omega),hlow 41 (by omega),hlow 42 (by omega)⟩;have g43:l'[43]?=some (.int .i64 (q:Int)):=hlow 43 (by omega);clear hlow;refine h16 _ _ ?_;obtain⟨hl,f3,f6,f8,f28,f29,f30,f41,f42⟩:=g;rw[lit82 hl,Qx f3,Qx f6,Qx f8,Qx f28,Qx f29,Qx f30,Qx f41,Qx f42,Qx g43];generalize gd l'=f'
 go_wp2
 exact hQ _ _ hK2 ⟨rfl,rfl,rfl,rfl,rfl,rfl,rfl,rfl,rfl⟩ rfl
end
end
end Go.Proofs.Zv
namespace Go.Zam
section
open Go.Proofs
def GdX.tkAt{u:Un}(h:GdX u){i:Nat}{x:Tk}(hi:u.tk[i]?=some x)(hk:x.k≠0):Zam.tkAt u.tk (x.a:Int)=i:=by
 have hn:=h.ne x (Q05 hi) hk;have hr:=h.rise;have:∀(l:List Tk)(j:Int)(i:Nat),(l.Pairwise λx y=>x.a<y.a/\x.a+x.x.length<=y.a)->l[i]?=some x->fstI (tkIn (x.a:Int)) l j=j+i:=by
  intro l;induction l with
  |nil=>intro j i _ h;simp at h
  |cons y r ih=>
   intro j i hp hi;obtain⟨h1,h2⟩:=Q2p.1 hp;unfold fstI;cases i with
   |zero=>
    simp at hi;subst hi;have:tkIn (y.a:Int) y=true:=by unfold tkIn;simp[hk];omega
    rw[this];simp
   |succ i=>
    simp at hi;have h3:=h1 x (Q05 hi);have:tkIn (x.a:Int) y=false:=by unfold tkIn;simp;omega
    rw[this];simp only[Q0w,if_false];rw[ih (j+1) i h2 hi];omega
 have hf:=this u.tk 0 i hr hi;unfold Zam.tkAt;rw[hf,if_neg (by omega)];omega
def Qmx{S:List Un}{s x:Bs×Int}(h:x∈Qah S s):∃u∈S,∃(t k:Nat)(b:SBd)(y:Tk),u.sm.bs[k]?=some b/\u.tk[t]?=some y/\ofSy S u b=s/\(t:Int)∈Yn u.sm k/\x=(u.n,(y.a:Int)):=by
 unfold Qah at h;obtain⟨u,hu,h⟩:=Q18.1 h;unfold plU plV at h;obtain⟨t,ht,h⟩:=Q18.1 h;unfold plT at h;obtain⟨k,hk,h⟩:=Q18.1 h;unfold plB at h;split at h
 .rename_i b y h1 h2;split at h
  .rename_i h3;exact⟨u,hu,t,k,b,y,h1,h2,h3.1,(Qhx h1 _).1 h3.2,by simpa using h⟩
  .simp at h
 .simp at h
def Qv1{S:List Un}(hX:PrjX S){s x:Bs×Int}(h:x∈Qah S s):atSy S x.1 x.2=some s:=by
 obtain⟨u,hu,t,k,b,y,h1,h2,h3,h4,rfl⟩:=Qmx h;have hg:=hX.gx u hu;have hk:=(Q0n.1 h1).1;have hkd:=hg.kd k hk _ h4;rw[Q16]at hkd;have hy:y.k=1:=by unfold kdT at hkd;rw[h2]at hkd;simpa using hkd
 have ht:=hg.tkAt h2 (by omega);have hm:=hg.mapAt hk h4;unfold atSy;rw[hX.self u hu];simp only;rw[ht,if_neg (by omega),hm,if_neg (by omega),Q16,h1,<-h3];rfl
def Qtx{S:List Un}{u:Un}{s:Bs×Int}{t:Nat}(hg:GdX u)(n:Nat):(plT S u s n t).Nodup:=by
 unfold plT List.Nodup;rw[List.pairwise_flatMap];refine⟨λk _=>?_,List.pairwise_lt_range.imp λ{a b} hab x h1 y h2=>?_⟩
 .unfold plB;split
  .split<;>simp
  .simp
 .have g:∀{k:Nat} {x:Bs×Int},x∈plB S u s t k->k<u.sm.bs.length/\(t:Int)∈Yn u.sm k:=λ{k x} h=>by
   unfold plB at h;split at h
   .rename_i b y h1 h2;split at h
    .rename_i h3;exact⟨(Q0n.1 h1).1,(Qhx h1 _).1 h3.2⟩
    .simp at h
   .simp at h
  obtain⟨a1,a2⟩:=g h1;obtain⟨b1,b2⟩:=g h2;have e1:=hg.mapAt a1 a2;have e2:=hg.mapAt b1 b2;omega
def Qoz{S:List Un}(hX:PrjX S)(s:Bs×Int):(Qah S s).Nodup:=by
 unfold Qah List.Nodup;rw[List.pairwise_flatMap];refine⟨λu hu=>?_,hX.strict.imp λ{u v} huv x h1 y h2=>?_⟩
 .have hg:=hX.gx u hu;unfold plU plV;rw[List.pairwise_flatMap];refine⟨λt _=>Qtx hg _,List.pairwise_lt_range.imp λ{a b} hab x h1 y h2=>?_⟩;obtain⟨z,g1,rfl⟩:=Qcl h1;obtain⟨w,g2,rfl⟩:=Qcl h2;obtain⟨i1,e1⟩:=Q0n.1 g1;obtain⟨i2,e2⟩:=Q0n.1 g2;have:=Q3k.1 hg.rise a b i1 i2 hab;rw[e1,e2]at this;intro e;have:=congrArg Prod.snd e;simp only at this;omega
 .have g:∀{u:Un} {x:Bs×Int},x∈plU S s u->x.1=u.n:=λ{u x} h=>by unfold plU plV at h;obtain⟨t,-,ht⟩:=Q18.1 h;obtain⟨y,-,rfl⟩:=Qcl ht;rfl
  have huv:Q7 u.n v.n<0:=huv;intro e;have e1:u.n=v.n:=by rw[<-g h1,<-g h2,e]
  have:=Y4.2 e1;omega
def Qqu{S:List Un}(hX:PrjX S){w:Bs}{x s:Bs×Int}(h:x∈Qr9 S w)(hs:atSy S x.1 x.2=some s):x∈Qah S s:=by
 unfold Qr9 at h;obtain⟨u,hu,h⟩:=Q18.1 h;unfold tkP at h;obtain⟨y,hy,rfl⟩:=Q1s.1 h;obtain⟨hy,hw⟩:=Q19.1 hy;simp only[decide_eq_true_eq]at hw;obtain⟨i,hi⟩:=Q2m hy;have hg:=hX.gx u hu;have ht:=hg.tkAt hi (by omega);unfold atSy at hs;rw[hX.self u hu]at hs;simp only at hs;rw[ht,if_neg (by omega)]at hs;split at hs
 .cases hs
 rename_i hm;obtain⟨k,h1,h2,h3⟩:=hg.mapAt_some (t:=(i:Int)) (by omega);rw[h2,Q16,Q0o h1]at hs;simp only[Q13,somI]at hs;have hb:=Q0o h1;unfold Qah;refine Q18.2 ⟨u,hu,?_⟩;unfold plU plV;refine Q18.2 ⟨i,Q2q.2 (Q0n.1 hi).1,?_⟩;unfold plT;refine Q18.2 ⟨k,Q2q.2 h1,?_⟩;unfold plB;rw[hb,hi];simp only;rw[if_pos ⟨hs,(Qhx hb _).2 h3⟩];simp
section
variable{P:Program}{H0:Hp}
end
end
section
open Go.Proofs
def wdT(m:Bs)(l:List Tk):List (Bs×Int):=(l.filter λt=>decide (t.k=1)).map λt=>(m,(t.a:Int))
def wdS(S:List Un):List (Bs×Int):=S.flatMap λu=>wdT u.n u.tk
def syT(S:List Un)(m:Bs)(l:List Tk):List (Bs×Int):=(wdT m l).filterMap λx=>atSy S x.1 x.2
def syS(S:List Un):List (Bs×Int):=(wdS S).filterMap λx=>atSy S x.1 x.2
def Qei{α:Type}(f:α->Option (Bs×Int))(s:Bs×Int):∀l:List α,(l.filterMap f).count s=(l.filter λx=>decide (f x=some s)).length
 |[]=>rfl
 |x::r=>by
  have ih:=Qei f s r;cases h:f x with
  |none=>simp[h,ih]
  |some y=>
   by_cases e:y=s
   .subst e;simp[h,ih]
   .simp[h,ih,e]
def Qtd{S:List Un}(hX:PrjX S):(wdS S).Nodup:=by
 unfold wdS List.Nodup;rw[List.pairwise_flatMap];refine⟨λu hu=>?_,hX.strict.imp λ{u v} huv x h1 y h2=>?_⟩
 .unfold wdT;rw[List.pairwise_map];refine(List.Pairwise.filter _ (hX.gx u hu).rise).imp λ{a b} h e=>?_;have:=congrArg Prod.snd e;simp only at this;omega
 .unfold wdT at h1 h2;obtain⟨a,-,rfl⟩:=Q1s.1 h1;obtain⟨b,-,rfl⟩:=Q1s.1 h2;have huv:Q7 u.n v.n<0:=huv;intro e;have e1:u.n=v.n:=congrArg Prod.fst e;have:=Y4.2 e1;omega
def Qmj{S:List Un}(hX:PrjX S)(s:Bs×Int):(syS S).count s=(Qah S s).length:=by
 unfold syS;rw[Qei];refine List.Perm.length_eq ((List.perm_ext_iff_of_nodup ((Qtd hX).filter _) (Qoz hX s)).2 λx=>?_);rw[Q19];simp only[decide_eq_true_eq];constructor
 .rintro⟨hx,ha⟩;unfold wdS wdT at hx;obtain⟨u,hu,hx⟩:=Q18.1 hx;obtain⟨y,hy,rfl⟩:=Q1s.1 hx;obtain⟨hy,hk⟩:=Q19.1 hy;refine Qqu hX (w:=y.x) (Q18.2 ⟨u,hu,Q1s.2 ⟨y,Q19.2 ⟨hy,?_⟩,rfl⟩⟩) ha;simpa using hk
 .intro hx;refine⟨?_,Qv1 hX hx⟩;obtain⟨u,hu,t,k,b,y,h1,h2,h3,h4,rfl⟩:=Qmx hx;have hg:=hX.gx u hu;have hkd:=hg.kd k (Q0n.1 h1).1 _ h4;rw[Q16]at hkd;have hy:y.k=1:=by unfold kdT at hkd;rw[h2]at hkd;simpa using hkd
  exact Q18.2 ⟨u,hu,Q1s.2 ⟨y,Q19.2 ⟨Q05 h2,by simpa using hy⟩,rfl⟩⟩
end
section
open Go.RowKit (Below)
open Go.Proofs
def Rd(w:World)(v:Value)(x:A):Prop:=VR (kst w) v x
def Keeps(w w':World):Prop:=∀b o v,w.cell? ⟨b,o,none⟩=some v->w'.cell? ⟨b,o,none⟩=some v
def Keeps.refl(w:World):Keeps w w:=λ_ _ _ h=>h
def Keeps.trans{a b c:World}(h:Keeps a b)(k:Keeps b c):Keeps a c:=λ_ _ _ x=>k _ _ _ (h _ _ _ x)
def Qj8{w:World}{b o:Nat}{v:Value}(h:w.cell? ⟨b,o,none⟩=some v):b<w.heap.size:=by
 rcases Q2n b w.heap.size with h1|h1
 .exact h1
 .simp[World.cell?,Q50 h1]at h
def Keeps.below{w w':World}{n:Nat}(hn:w.heap.size<=n)(h:Below n w w'):Keeps w w':=λb o v hc=>(h.cell (p:=⟨b,o,none⟩) (Q4f (Qj8 hc) hn)).trans hc
def Keeps.alloc(w:World)(o:Obj):Keeps w (w.alloc o):=λb i v h=>by
 have hlt:=Qj8 h;have e:(w.alloc o).heap[b]?=w.heap[b]?:=by show(w.heap.push o)[b]?=_;rw[Q5y hlt,Q3a hlt]
 unfold World.cell? at h⊢;simp only at h⊢;rw[e];exact h
def Keeps.but{w w':World}{m:Nat}(hm:∀o,w.cell? ⟨m,o,none⟩=none)(h:∀i,i<w.heap.size->i≠m->w'.heap[i]?=w.heap[i]?):Keeps w w':=λb i v hc=>by
 have hlt:=Qj8 hc;by_cases e:b=m
 .subst e;rw[hm]at hc;cases hc
 .have:=h b hlt e;unfold World.cell? at hc⊢;simp only at hc⊢;rw[this];exact hc
def A.pl0:A->Bool|.d _=>true|.eptr _=>true|_=>false
def A.pl1:A->Bool|.agg l=>l.all A.pl0|x=>x.pl0
def A.pl2:A->Bool|.tup l=>l.all A.pl1|x=>x.pl1
def VR.pl0{κ:K}{w:World}(hs:∀b o v,κ.σ b o=some v->w.cell? ⟨b,o,none⟩=some v){v:Value}{x:A}(hx:x.pl0=true)(h:VR κ v x):Rd w v x:=by
 cases h with
 |d h=>exact .d (h.mono λb o v hc=>hs b o v hc)
 |eptr cells b o f hc hd=>exact .eptr cells b o f (λj x h=>hs _ _ _ (hc j x h)) (λj x h=>(hd j x h).mono λb o v hc=>hs b o v hc)
 |_=>cases hx
def VR.pl1{κ:K}{w:World}(hs:∀b o v,κ.σ b o=some v->w.cell? ⟨b,o,none⟩=some v){v:Value}{x:A}(hx:x.pl1=true)(h:VR κ v x):Rd w v x:=by
 cases h with
 |agg vs ars hl h=>exact .agg vs ars hl λi v a h1 h2=>(h i v a h1 h2).pl0 hs (Q07.1 hx a (Q05 h2))
 |d h=>exact VR.pl0 hs hx (.d h)
 |eptr cells b o f hc hd=>exact VR.pl0 hs hx (.eptr cells b o f hc hd)
 |_=>cases hx
def VR.pl2{κ:K}{w:World}(hs:∀b o v,κ.σ b o=some v->w.cell? ⟨b,o,none⟩=some v){v:Value}{x:A}(hx:x.pl2=true)(h:VR κ v x):Rd w v x:=by
 cases h with
 |tup vs ars hl h=>exact .tup vs ars hl λi v a h1 h2=>(h i v a h1 h2).pl1 hs (Q07.1 hx a (Q05 h2))
 |agg vs ars hl h=>exact VR.pl1 hs hx (.agg vs ars hl h)
 |d h=>exact VR.pl0 hs hx (.d h)
 |eptr cells b o f hc hd=>exact VR.pl0 hs hx (.eptr cells b o f hc hd)
 |_=>cases hx
def Rd.keeps{w w':World}(h:Keeps w w'){v:Value}{x:A}(hx:x.pl2=true)(hv:Rd w v x):Rd w' v x:=VR.pl2 (κ:=kst w) (λb o v hc=>h b o v hc) hx hv
def V9.below{w w':World}{H0:Hp}(h:V9 w H0)(hb:Below w.heap.size w w'):V9 w' H0:=λi x hx=>by obtain⟨g,cs,ty,fr,rfl,hg⟩:=h i x hx;have hlt:g<w.heap.size:=(Q1f.1 hg).1;exact⟨g,cs,ty,fr,rfl,(hb.block g hlt).trans hg⟩
def Qc.rd{P:Program}{f:FuncId}{args:List A}{H0:Hp}{Q:A->Prop}(h:Qc P f args H0 λr H'=>Q r/\H'=H0)(hQ:∀x,Q x->x.pl2=true){w:World}(hw:V9 w H0){vs:List Value}(hl:vs.length=args.length)(hv:∀(i:Nat) (v:Value) (a:A),vs[i]?=some v->args[i]?=some a->Rd w v a):
 Calls P f vs.toArray w λe w'=>∃v x,e=.returned v/\Q x/\Rd w' v x/\Below w.heap.size w w':=
 (h (kst w) w vs (Qxw hw) hl hv).mono λe w' ⟨v,κ',x,H',he,hk,hh,hvr,hx,hH⟩=>by subst hH;have hb:=hh.below;rw[hk.w0]at hb;exact⟨v,x,he,hx,VR.pl2 hh.st (hQ x hx) hvr,hb⟩
def Rd.str_inv{w:World}{v:Value}{s:Bs}(h:Rd w v (YS s)):v=.string ⟨s.toArray⟩:=by cases h with|d h=>exact h.str_inv
def Rd.int_inv{w:World}{v:Value}{k:IntKind}{n:Int}(h:Rd w v (.d (.int k n))):v=.int k n:=by cases h with|d h=>cases h;rfl
def Rd.bool_inv{w:World}{v:Value}{b:Bool}(h:Rd w v (YB b)):v=.bool b:=by cases h with|d h=>cases h;rfl
def Rd.tup_inv{w:World}{v:Value}{l:List A}(h:Rd w v (.tup l)):∃vs:List Value,v=.tuple vs.toArray/\vs.length=l.length/\∀(i:Nat)(v:Value)(a:A),vs[i]?=some v->l[i]?=some a->Rd w v a:=by cases h with|tup vs _ hl h=>exact⟨vs,rfl,hl,h⟩
def Rd.agg_inv{w:World}{v:Value}{l:List A}(h:Rd w v (.agg l)):∃vs:List Value,v=.agg vs.toArray/\vs.length=l.length/\∀(i:Nat)(v:Value)(a:A),vs[i]?=some v->l[i]?=some a->Rd w v a:=by cases h with|agg vs _ hl h=>exact⟨vs,rfl,hl,h⟩
def Rd.sl_inv{w:World}{v:Value}{z:Bool}{sz:Nat}{rows:List (List D)}(h:Rd w v (YL z sz rows))(hsz:0<sz):(∃a cap,v=.slice a 0 cap/\rows=[])\/
 ∃(b o cap:Nat),v=.slice (some ⟨b,o,none⟩) rows.length cap/\b<w.heap.size/\rows.length<=cap/\
 (∀(i:Nat)(r:List D),rows[i]?=some r->r.length=sz)/\
 ∀(i j:Nat)(r:List D)(x:D),rows[i]?=some r->r[j]?=some x->∃v,w.cell? ⟨b,o+i*sz+j,none⟩=some v/\Rd w v (.d x):=by
 cases h with
 |d h=>
  rcases h.sl_inv with⟨rfl,-,rfl⟩|⟨a,c,rfl,-,rfl⟩|⟨b,o,cap,f,rfl,-,hcap,hrow,hc,hd⟩
  .exact .inl ⟨_,_,rfl,rfl⟩
  .exact .inl ⟨_,_,rfl,rfl⟩
  .by_cases e:rows=[]
   .subst e;exact .inl ⟨_,_,rfl,rfl⟩
   obtain⟨r,hr⟩:∃r,rows[0]?=some r:=⟨rows[0]'(Q1x.2 e),Q0o _⟩;have hl:=hrow 0 r hr;obtain⟨x,hx⟩:∃x,r[0]?=some x:=⟨r[0]'(by omega),Q0o _⟩;exact .inr ⟨b,o,cap,rfl,Qj8 (hc 0 0 r x hr hx),hcap,hrow,λi j r x h1 h2=>⟨_,hc i j r x h1 h2,.d (hd i j r x h1 h2)⟩⟩
end
section
open Go.RowKit (Below)
open Go.Proofs
open Go.MapKept Go.ChangeMaps Go.WideElems
open Go.Maps (Keyed)
def syV(s:Bs×Int):Value:=.agg #[.string ⟨s.1.toArray⟩,.int .i64 s.2]
def Qsa{s t:Bs×Int}(h:syV s=syV t):s=t:=by unfold syV at h;simp at h;exact Prod.ext h.1 h.2
structure CntI(G:Bs×Int->Prop)(l:List (Bs×Int))(es:Array MapEntry)(clock:Nat):Prop where
 st:Stamped es clock
 rd:∀e∈es.toList,∃s,e.key=syV s/\G s/\e.val=.int .i64 (l.count s:Int)
 has:∀s∈l,∃e∈es.toList,e.key=syV s
def CntM(G:Bs×Int->Prop)(w:World)(b:Nat)(l:List (Bs×Int)):Prop:=∃es clock,w.heap[b]?=some (.map es clock)/\CntI G l es clock
def Qun(G:Bs×Int->Prop)(w:World):CntM G (w.alloc (.map #[] 0)) w.heap.size []:=⟨#[],0,(MapKept.heap_alloc w _).1,⟨by simp[Stamped],by simp,by simp⟩⟩
def CntM.lt{w:World}{b:Nat}{l:List (Bs×Int)}{G:Bs×Int->Prop}(h:CntM G w b l):b<w.heap.size:=by obtain⟨es,c,hb,-⟩:=h;exact(Q1f.1 hb).1
def CntM.at{w w':World}{b:Nat}{l:List (Bs×Int)}{G:Bs×Int->Prop}(h:CntM G w b l)(e:w'.heap[b]?=w.heap[b]?):CntM G w' b l:=by obtain⟨es,c,hb,hi⟩:=h;exact⟨es,c,e.trans hb,hi⟩
def CntM.nocell{w:World}{b:Nat}{l:List (Bs×Int)}{G:Bs×Int->Prop}(h:CntM G w b l)(o:Nat):w.cell? ⟨b,o,none⟩=none:=by obtain⟨es,c,hb,-⟩:=h;simp[World.cell?,hb]
def Qrb{es:Array MapEntry}{j:Nat}{e0:MapEntry}{f:MapEntry->MapEntry}(h:es.toList[j]?=some e0){x:MapEntry}(hx:x∈(es.modify j f).toList):x=f e0\/∃i,i≠j/\es.toList[i]?=some x:=by
 rw[Array.toList_modify,modify_eq_set _ _ _ _ h]at hx;obtain⟨i,hi⟩:=Q2m hx;rw[Q3v]at hi;split at hi
 .rename_i e;split at hi
  .simp at hi;exact .inl hi.symm
  .cases hi
 .rename_i e;exact .inr ⟨i,λe'=>e e'.symm,hi⟩
def CntM.inc{P:Program}{t k e:TypeId}(K:Keyed P k)(ht:P.underlying t=some (.map k e))(hz:∀u:World,(zeroValue e).run P u=.ok (.int .i64 0) u){w:World}{b:Nat}{l:List (Bs×Int)}{G:Bs×Int->Prop}(h:CntM G w b l){s:Bs×Int}(hk:∀x,G x->∃kl,Go.keyOf P k (syV x)=some kl)(hs:G s):
 ∃(st:Nat)(w1:World),(Instr.mapEntry t (.map (some b)) (syV s)).run P w=.ok (.tuple #[.int .i64 (l.count s:Int),goInt st]) w1/\(∃es1 c1,w1=setBlock w b (.map es1 c1))/\CntM G w1 b l/\
 ∃w2:World,(Instr.entryStore t (.map (some b)) (goInt st) (.int .i64 ((l.count s:Int)+1))).run P w1=.ok () w2/\CntM G w2 b (l++[s])/\(∃es2 c2,w2=setBlock w b (.map es2 c2)):=by
 obtain⟨es,clock,hb,hi⟩:=h;obtain⟨s1,s2,s3⟩:=hi.st;obtain⟨kl,hkey⟩:=hk s hs;have hks:∀e∈es.toList,∃l,Go.keyOf P k e.key=some l:=λe he=>by obtain⟨x,h1,h2,-⟩:=hi.rd e he;rw[h1];exact hk x h2
 have hcs:(l++[s]).count s=l.count s+1:=by simp
 have hco:∀x,x≠s->(l++[s]).count x=l.count x:=λx hx=>by
  rw[List.count_append,List.count_singleton];have:(s==x)=false:=by simpa usingλe:s=x=>hx e.symm
  simp[this]
 have hset:∀o o',setBlock (setBlock w b o) b o'=setBlock w b o':=λo o'=>by simp[setBlock]
 rcases K.find w hkey es.toList hks with⟨h1,h2⟩|⟨j,e0,h1,h2,h3⟩
 .have hns:s∉l:=λhs'=>by obtain⟨e,he,hek⟩:=hi.has s hs';exact h2 e he hek
  have hc0:l.count s=0:=Q4h.2 hns;have hb1:(setBlock w b (.map (es.push ⟨syV s,.int .i64 0,clock⟩) (clock+1))).heap[b]?=some (.map (es.push ⟨syV s,.int .i64 0,clock⟩) (clock+1)):=heap_setBlock_same hb _;have hidx:(es.push ⟨syV s,.int .i64 0,clock⟩).findIdx? (λe=>((e.born:Nat):Int)==((clock:Nat):Int))=some es.size:=by rw[findIdx_arr];exact findIdx_born (l:=(es.push ⟨syV s,.int .i64 0,clock⟩).toList) (j:=es.size) (e0:=⟨syV s,.int .i64 0,clock⟩) (by simp only[Array.toList_push,Q2o,Q1o,Q2f];refine List.nodup_append.2 ⟨s2,by simp,λa ha c hc e1=>?_⟩;simp only[Q17]at hc;obtain⟨x,hx,rfl⟩:=Q1s.1 ha;have:=s1 x hx;omega) (by simp)
  have hmod:(es.push ⟨syV s,.int .i64 0,clock⟩).modify es.size (λe=>{e with val:=.int .i64 ((l.count s:Int)+1)})=es.push ⟨syV s,.int .i64 ((l.count s:Int)+1),clock⟩:=by apply Q5s;rw[Array.toList_modify,Array.toList_push,Array.toList_push,<-Q3o,modify_last]
  refine⟨clock,setBlock w b (.map (es.push ⟨syV s,.int .i64 0,clock⟩) (clock+1)),?_,⟨_,_,rfl⟩,?_,setBlock w b (.map (es.push ⟨syV s,.int .i64 ((l.count s:Int)+1),clock⟩) (clock+1)),?_,⟨_,_,heap_setBlock_same hb _,?_⟩,⟨_,_,rfl⟩⟩
  .rw[hc0];simp[Instr.mapEntry,run_underlying ht,MapKept.run_getObj_map hb,K.check w false hkey,h1,hz,MapKept.run_setObj_map _ hb,Result.andThen,setBlock]
  .refine⟨_,_,hb1,stamped_push hi.st h2,λe he=>?_,λx hx=>?_⟩
   .simp only[Array.toList_push,Q1d,Q17]at he;rcases he with he|rfl
    .exact hi.rd e he
    .exact⟨s,rfl,hs,by rw[hc0];rfl⟩
   .obtain⟨e,he,hek⟩:=hi.has x hx;exact⟨e,by simp[he],hek⟩
  .refine Eq.trans (b:=.ok () (setBlock (setBlock w b (.map (es.push ⟨syV s,.int .i64 0,clock⟩) (clock+1))) b (.map (es.push ⟨syV s,.int .i64 ((l.count s:Int)+1),clock⟩) (clock+1)))) ?_ (by rw[hset]);generalize setBlock w b (.map (es.push ⟨syV s,.int .i64 0,clock⟩) (clock+1))=w1 at hb1⊢;simp[Instr.entryStore,MapKept.run_getObj_map hb1,asInt,asIntOf,goInt,hidx,hmod,MapKept.run_setObj_map _ hb1,Result.andThen,setBlock]
  .refine⟨stamped_push hi.st h2,λe he=>?_,λx hx=>?_⟩
   .simp only[Array.toList_push,Q1d,Q17]at he;rcases he with he|rfl
    .obtain⟨x,e1,e2,e3⟩:=hi.rd e he;have hxs:x≠s:=λhxs=>h2 e he (by rw[e1,hxs]);exact⟨x,e1,e2,by rw[hco x hxs];exact e3⟩
    .exact⟨s,rfl,hs,by rw[hcs];simp⟩
   .simp only[Q1d,Q17]at hx;rcases hx with hx|rfl
    .obtain⟨e,he,hek⟩:=hi.has x hx;exact⟨e,by simp[he],hek⟩
    .exact⟨⟨syV x,.int .i64 ((l.count x:Int)+1),clock⟩,by simp,rfl⟩
 .have hj:es[j]?=some e0:=by simpa using h2
  have hm0:=Q05 h2;obtain⟨x0,x1,x2,x3⟩:=hi.rd e0 hm0;obtain rfl:x0=s:=Qsa (x1.symm.trans h3);have hsame:es.modify j (λe=>{e with key:=syV x0})=es:=by
   apply Q5s;rw[Array.toList_modify,modify_eq_set _ _ _ _ h2];have:({e0 with key:=syV x0}:MapEntry)=e0:=by rw[<-h3]
   rw[this];exact set_self _ _ _ h2
  have hb1:(setBlock w b (.map es clock)).heap[b]?=some (.map es clock):=heap_setBlock_same hb _;have hidx:es.findIdx? (λe=>((e.born:Nat):Int)==((e0.born:Nat):Int))=some j:=by rw[findIdx_arr];exact findIdx_born s2 h2
  refine⟨e0.born,setBlock w b (.map es clock),?_,⟨_,_,rfl⟩,⟨_,_,hb1,hi⟩,setBlock w b (.map (es.modify j λe=>{e with val:=.int .i64 ((l.count x0:Int)+1)}) clock),?_,⟨_,_,heap_setBlock_same hb _,?_⟩,⟨_,_,rfl⟩⟩
  .simp[Instr.mapEntry,run_underlying ht,MapKept.run_getObj_map hb,K.check w false hkey,h1,hj,h3,K.stays w hkey,hsame,MapKept.run_setObj_map _ hb,Result.andThen,setBlock,x3]
  .refine Eq.trans (b:=.ok () (setBlock (setBlock w b (.map es clock)) b (.map (es.modify j λe=>{e with val:=.int .i64 ((l.count x0:Int)+1)}) clock))) ?_ (by rw[hset]);generalize setBlock w b (.map es clock)=w1 at hb1⊢;simp[Instr.entryStore,MapKept.run_getObj_map hb1,asInt,asIntOf,goInt,hidx,MapKept.run_setObj_map _ hb1,Result.andThen,setBlock]
  .refine⟨stamped_modify hi.st _ _ (λ_ _=>rfl) (λ_ _ _=>rfl),λe he=>?_,λx hx=>?_⟩
   .rcases Qrb h2 he with rfl|⟨i,hij,hxi⟩
    .exact⟨x0,h3,hs,by rw[hcs];simp⟩
    .obtain⟨x,e1,e2,e3⟩:=hi.rd e (Q05 hxi);have hxs:x≠x0:=λhxs=>by
      subst hxs;have hp:=Q3k.1 ((MapKept.stamped_iff es clock).1 hi.st).2.2;obtain⟨li,ei⟩:=Q0n.1 hxi;obtain⟨lj,ej⟩:=Q0n.1 h2;rcases Nat.lt_or_gt_of_ne hij with hlt|hlt
      .have:=hp i j li lj hlt;rw[ei,ej,e1,h3]at this;exact this rfl
      .have:=hp j i lj li hlt;rw[ei,ej,e1,h3]at this;exact this rfl
     exact⟨x,e1,e2,by rw[hco x hxs];exact e3⟩
   .obtain⟨e,he,hek⟩:∃e∈es.toList,e.key=syV x:=by
     simp only[Q1d,Q17]at hx;rcases hx with hx|rfl
     .exact hi.has x hx
     .exact⟨e0,hm0,h3⟩
    obtain⟨i,hie⟩:=Q2m he;by_cases hij:i=j
    .subst hij;rw[h2]at hie;obtain rfl:=Option.some.inj hie;refine⟨{e0 with val:=.int .i64 ((l.count x0:Int)+1)},?_,hek⟩;rw[Array.toList_modify,modify_eq_set _ _ _ _ h2];exact Q05 (i:=i) (by rw[Q3v];have h9:=(Q0n.1 h2).1;simp at h9⊢;exact h9)
    .refine⟨e,?_,hek⟩;rw[Array.toList_modify,modify_eq_set _ _ _ _ h2];exact Q05 (i:=i) (by rw[Q3v,if_neg (λh=>hij h.symm)];exact hie)
def CntM.look{P:Program}{t k e:TypeId}(K:Keyed P k)(ht:P.underlying t=some (.map k e))(hz:∀u:World,(zeroValue e).run P u=.ok (.int .i64 0) u){w:World}{b:Nat}{l:List (Bs×Int)}{G:Bs×Int->Prop}(h:CntM G w b l){s:Bs×Int}(hk:∀x,G x->∃kl,Go.keyOf P k (syV x)=some kl)(hs:G s):
 (Instr.lookup t (.map (some b)) (syV s) false).run P w=.ok (.int .i64 (l.count s:Int)) w:=by
 obtain⟨es,clock,hb,hi⟩:=h;obtain⟨kl,hkey⟩:=hk s hs;have hks:∀e∈es.toList,∃l,Go.keyOf P k e.key=some l:=λe he=>by obtain⟨x,h1,h2,-⟩:=hi.rd e he;rw[h1];exact hk x h2
 rcases K.find w hkey es.toList hks with⟨h1,h2⟩|⟨j,e0,h1,h2,h3⟩
 .have hc0:l.count s=0:=Q4h.2 λhs'=>by obtain⟨e,he,hek⟩:=hi.has s hs';exact h2 e he hek
  rw[hc0];simp[Instr.lookup,run_underlying ht,MapKept.run_getObj_map hb,K.check w _ hkey,h1,hz,Result.andThen]
 .obtain⟨x0,x1,x2,x3⟩:=hi.rd e0 (Q05 h2);obtain rfl:x0=s:=Qsa (x1.symm.trans h3);simp[Instr.lookup,run_underlying ht,MapKept.run_getObj_map hb,K.check w _ hkey,h1,Result.andThen,x3]
end
end Go.Zam
namespace Go.Proofs.Zv
section
open Go Go.Zam Go.Proofs Go.RowKit
def ld{H0:Hp}(h:Qs6 Tryz.prog H0 4){l:List Mod}{z:Bool}(hl:l.length<=1048576)(hm:∀m∈l,m.n.length<=1048576/\m.t.length<=1048576){w:World}(hw:V9 w H0){v:Value}(hv:Rd w v (YL z 2 (l.map encM))):
 Calls Tryz.prog 4 #[v,.int .i64 1500] w λe w'=>∃v0 v1:Value,∃b:Bool,e=.returned (.tuple #[v0,v1,.bool b])/\(b=true->∃S,PrjX S/\Rd w' v0 (pA S))/\Below w.heap.size w w':=by
 refine(Qc.rd (vs:=[v,.int .i64 1500]) (h l z 1500 (by omega) hl hm H0 (Pre0.self _)) ?_ hw rfl ?_).mono ?_
 .rintro x (⟨d,rfl⟩|⟨S,-,rfl⟩)<;>rfl
 .intro i v' a h1 h2
  match i with
  |0=>cases h1;cases h2;exact hv
  |1=>cases h1;cases h2;exact .d (.int _ _)
  |n+2=>simp at h1
 .rintro e w' ⟨v',x,rfl,hx,hr,hb⟩;rcases hx with⟨d,rfl⟩|⟨S,hS,rfl⟩
  .obtain⟨vs,rfl,hvl,hvs⟩:=hr.tup_inv
   match vs,hvl with
   |[v0,v1,v2],_=>
   have h2:=(hvs 2 v2 _ rfl rfl).bool_inv;subst h2;exact⟨v0,v1,false,rfl,by simp,hb⟩
  .obtain⟨vs,rfl,hvl,hvs⟩:=hr.tup_inv
   match vs,hvl with
   |[v0,v1,v2],_=>
   have h2:=(hvs 2 v2 _ rfl rfl).bool_inv;subst h2;exact⟨v0,v1,true,rfl,λ_=>⟨S,hS,hvs 0 v0 _ rfl rfl⟩,hb⟩
def aw{H0:Hp}(h:Qs9 Tryz.prog H0 5){w:World}(hw:V9 w H0):Calls Tryz.prog 5 #[] w λe w'=>e=.returned (.bool true)/\Below w.heap.size w w':=by
 refine(Qc.rd (vs:=[]) (h H0 (Pre0.self _)) ?_ hw rfl ?_).mono ?_
 .rintro x rfl;rfl
 .intro i v' a h1;simp at h1
 .rintro e w' ⟨v',x,rfl,rfl,hr,hb⟩;have:=hr.bool_inv;subst this;exact⟨rfl,hb⟩
def nm{H0:Hp}(h:Qom Tryz.prog 6){S:List Un}(hS:S.length<=1048576){w:World}(hw:V9 w H0){v:Value}(hv:Rd w v (pA S)):
 Calls Tryz.prog 6 #[v] w λe w'=>∃a,e=.returned a/\Rd w' a (YL true 1 (S.map λu=>[.str u.n]))/\Below w.heap.size w w':=by
 refine(Qc.rd (vs:=[v]) (h S hS H0) ?_ hw rfl ?_).mono ?_
 .rintro x rfl;rfl
 .intro i v' a h1 h2
  match i with
  |0=>cases h1;cases h2;exact hv
  |n+1=>simp at h1
 .rintro e w' ⟨v',x,rfl,rfl,hr,hb⟩;exact⟨v',rfl,hr,hb⟩
def un{H0:Hp}{S:List Un}(h:Qi1 Tryz.prog S 7){w:World}(hw:V9 w H0){v:Value}(hv:Rd w v (pA S))(m:Bs){u:Un}(hu:Zf S m=some u):
 Calls Tryz.prog 7 #[v,.string ⟨m.toArray⟩] w λe w'=>∃a,e=.returned (.tuple #[a,.bool true])/\Rd w' a (.agg (u.enc.map .d))/\Below w.heap.size w w':=by
 refine(Qc.rd (vs:=[v,.string ⟨m.toArray⟩]) (h m H0) ?_ hw rfl ?_).mono ?_
 .rintro x rfl;simp[hu,A.pl2,A.pl1,A.pl0]
 .intro i v' a h1 h2
  match i with
  |0=>cases h1;cases h2;exact hv
  |1=>cases h1;cases h2;exact .d (.str _)
  |n+2=>simp at h1
 .rintro e w' ⟨v',x,rfl,rfl,hr,hb⟩;obtain⟨vs,rfl,hvl,hvs⟩:=hr.tup_inv
  match vs,hvl with
  |[v0,v1],_=>
  have h1:=(hvs 1 v1 _ rfl rfl).bool_inv;subst h1;have h0:=hvs 0 v0 _ rfl rfl;rw[hu]at h0⊢;exact⟨v0,rfl,h0,hb⟩
def at_{H0:Hp}(h:Qgq Tryz.prog 8){S:List Un}(hS:PrjX S){w:World}(hw:V9 w H0){v:Value}(hv:Rd w v (pA S))(m:Bs)(a:Int):
 Calls Tryz.prog 8 #[v,.agg #[.string ⟨m.toArray⟩,.int .i64 a]] w λe w'=>e=.returned (.tuple #[syV ((atSy S m a).getD ([],0)),.bool (atSy S m a).isSome])/\Below w.heap.size w w':=by
 refine(Qc.rd (vs:=[v,.agg #[.string ⟨m.toArray⟩,.int .i64 a]]) (h S hS m a H0) ?_ hw rfl ?_).mono ?_
 .rintro x rfl;rfl
 .intro i v' x h1 h2
  match i with
  |0=>cases h1;cases h2;exact hv
  |1=>
   cases h1;cases h2
   refine .agg [.string ⟨m.toArray⟩,.int .i64 a] _ rfl λi v a h1 h2=>?_;match i with
   |0=>cases h1;cases h2;exact .d (.str _)
   |1=>cases h1;cases h2;exact .d (.int _ _)
   |n+2=>simp at h1
  |n+2=>simp at h1
 .rintro e w' ⟨v',x,rfl,rfl,hr,hb⟩;obtain⟨vs,rfl,hvl,hvs⟩:=hr.tup_inv
  match vs,hvl with
  |[v0,v1],_=>
  have h1:=(hvs 1 v1 _ rfl rfl).bool_inv;subst h1;obtain⟨us,rfl,hul,hus⟩:=(hvs 0 v0 _ rfl rfl).agg_inv;match us,hul with
  |[u0,u1],_=>
  have e0:=(hus 0 u0 _ rfl rfl).str_inv;have e1:=(hus 1 u1 _ rfl rfl).int_inv;subst e0 e1;refine⟨?_,hb⟩;cases atSy S m a<;>rfl
def pl{H0:Hp}(h:Ql8 Tryz.prog 9){S:List Un}(hS:PrjX S){w:World}(hw:V9 w H0){v:Value}(hv:Rd w v (pA S))(s:Bs×Int):
 Calls Tryz.prog 9 #[v,syV s] w λe w'=>∃ad cap,e=.returned (.slice ad (Qah S s).length cap)/\Below w.heap.size w w':=by
 refine(Qc.rd (vs:=[v,syV s]) (h S hS s H0) ?_ hw rfl ?_).mono ?_
 .rintro x rfl;rfl
 .intro i v' x h1 h2
  match i with
  |0=>cases h1;cases h2;exact hv
  |1=>
   cases h1;cases h2
   refine .agg [.string ⟨s.1.toArray⟩,.int .i64 s.2] _ rfl λi v a h1 h2=>?_;match i with
   |0=>cases h1;cases h2;exact .d (.str _)
   |1=>cases h1;cases h2;exact .d (.int _ _)
   |n+2=>simp at h1
  |n+2=>simp at h1
 .rintro e w' ⟨v',x,rfl,rfl,hr,hb⟩;rcases hr.sl_inv (by omega)with⟨ad,cap,rfl,h0⟩|⟨b,o,cap,rfl,-⟩
  .have:(Qah S s).length=0:=by simpa using congrArg List.length h0
   exact⟨ad,cap,by rw[this],hb⟩
  .exact⟨_,_,by rw[Q1l],hb⟩
def sl_at{w:World}{v:Value}{z:Bool}{sz:Nat}{rows:List (List D)}(h:Rd w v (YL z sz rows))(hsz:0<sz):∃ad cap,v=.slice ad rows.length cap/\rows.length<=cap/\
 ∀(i:Nat)(r:List D),rows[i]?=some r->∃b o,ad=some ⟨b,o,none⟩/\b<w.heap.size/\∀(j:Nat)(x:D),r[j]?=some x->∃u,w.cell? ⟨b,o+i*sz+j,none⟩=some u/\Rd w u (.d x):=by
 rcases h.sl_inv hsz with⟨ad,cap,rfl,rfl⟩|⟨b,o,cap,rfl,hb,hc,-,hcell⟩
 .exact⟨ad,cap,rfl,Q3e _,λi r h=>by simp at h⟩
 .exact⟨_,cap,rfl,hc,λi r hr=>⟨b,o,rfl,hb,λj x hx=>hcell i j r x hr hx⟩⟩
def slV{w:World}{v:Value}{z:Bool}{sz:Nat}{rows:List (List D)}(h:Rd w v (YL z sz rows)):∃ad n cap,v=.slice ad n cap:=by
 cases h with
 |d h=>
  rcases h.sl_inv with⟨rfl,-⟩|⟨a,c,rfl,-⟩|⟨b,o,c,f,rfl,-⟩
  .exact⟨_,_,_,rfl⟩
  .exact⟨_,_,_,rfl⟩
  .exact⟨_,_,_,rfl⟩
def Qu1{w:World}{v:Value}{u:Un}(h:Rd w v (.agg (u.enc.map .d))):∃s0 s1 i3 i4 i5 s6 i7 d8 n8 c8 d9 n9 c9 d10 n10 c10 d11 n11 c11 i12 i13 ad cap,v=.agg #[.string s0,.string s1,.slice ad u.tk.length cap,.int .i64 i3,.int .i64 i4,.int .i64 i5,.string s6,.int .i64 i7,.slice d8 n8 c8,.slice d9 n9 c9,.slice d10 n10 c10,.slice d11 n11 c11,.int .i64 i12,.int .i64 i13]/\u.tk.length<=cap/\
 ∀(j:Nat)(t:Tk),u.tk[j]?=some t->∃b o,ad=some ⟨b,o,none⟩/\b<w.heap.size/\w.cell? ⟨b,o+j*4,none⟩=some (.int .i64 t.k)/\w.cell? ⟨b,o+j*4+1,none⟩=some (.int .i64 (t.a:Int))/\
 w.cell? ⟨b,o+j*4+2,none⟩=some (.string ⟨t.l.toArray⟩)/\w.cell? ⟨b,o+j*4+3,none⟩=some (.string ⟨t.x.toArray⟩):=by
 obtain⟨vs,rfl,hl,hv⟩:=h.agg_inv;obtain⟨n,t,tk,⟨k,f,to,wd,at_,z,ks⟩,sm,bad,pos⟩:=u;have he:(Un.mk n t tk ⟨k,f,to,wd,at_,z,ks⟩ sm bad pos).enc=[.str n,.str t,.sl true 4 (tk.map Qt),.int .i64 k,.int .i64 f,.int .i64 to,.str wd,.int .i64 at_,.sl z 6 (ks.map N.enc),.sl sm.bs.isEmpty 4 (sm.bs.map Q4),.sl sm.ms.isEmpty 4 (sm.ms.map Yd),.sl sm.bad.isEmpty 2 (sm.bad.map Q3),.int .i64 bad,.int .i64 pos]:=by simp[Un.enc,N.enc_mk,SM.enc]
 have hl14:vs.length=14:=by rw[hl,he];rfl
 rw[he]at hv;match vs,hl14 with
 |[a0,a1,a2,a3,a4,a5,a6,a7,a8,a9,a10,a11,a12,a13],_=>
 have h2:Rd w a2 (YL true 4 (tk.map Qt)):=hv 2 a2 _ rfl rfl;obtain⟨ad,cap,rfl,hc,O⟩:=sl_at h2 (by omega);rw[Q1l]at hc⊢;have e0:=(hv 0 a0 _ rfl rfl).str_inv;have e1:=(hv 1 a1 _ rfl rfl).str_inv;have e3:=(hv 3 a3 _ rfl rfl).int_inv;have e4:=(hv 4 a4 _ rfl rfl).int_inv;have e5:=(hv 5 a5 _ rfl rfl).int_inv;have e6:=(hv 6 a6 _ rfl rfl).str_inv;have e7:=(hv 7 a7 _ rfl rfl).int_inv;obtain⟨d8,n8,c8,e8⟩:=slV (hv 8 a8 _ rfl rfl);obtain⟨d9,n9,c9,e9⟩:=slV (hv 9 a9 _ rfl rfl);obtain⟨d10,n10,c10,e10⟩:=slV (hv 10 a10 _ rfl rfl);obtain⟨d11,n11,c11,e11⟩:=slV (hv 11 a11 _ rfl rfl);have e12:=(hv 12 a12 _ rfl rfl).int_inv;have e13:=(hv 13 a13 _ rfl rfl).int_inv;subst e0 e1 e3 e4 e5 e6 e7 e8 e9 e10 e11 e12 e13;refine⟨_,_,_,_,_,_,_,_,_,_,_,_,_,_,_,_,_,_,_,_,_,ad,cap,rfl,hc,λj t ht=>?_⟩;obtain⟨b,o,rfl,hb,hx⟩:=O j (Qt t) (by simp only[Q0z];rw[show tk[j]?=some t from ht];rfl);obtain⟨v0,c0,r0⟩:=hx 0 _ rfl;obtain⟨v1,c1,r1⟩:=hx 1 _ rfl;obtain⟨v2,c2,r2⟩:=hx 2 _ rfl;obtain⟨v3,c3,r3⟩:=hx 3 _ rfl;have e0:=r0.int_inv;have e1:=r1.int_inv;have e2:=r2.str_inv;have e3:=r3.str_inv;subst e0 e1 e2 e3;exact⟨b,o,rfl,hb,c0,c1,c2,c3⟩
def csS(S:List Un)(k:Nat):List (Bs×Int):=(S.take k).flatMap λu=>syT S u.n u.tk
def Qwv{S:List Un}{k:Nat}{u:Un}(h:S[k]?=some u):csS S (k+1)=csS S k++syT S u.n u.tk:=by unfold csS;rw[Q3j,h];simp
def Qx7(S:List Un):csS S S.length=syS S:=by unfold csS syS wdS syT;rw[Q33,List.filterMap_flatMap]
def Qu7{S:List Un}{m:Bs}{l:List Tk}{j:Nat}{t:Tk}(h:l[j]?=some t):syT S m (l.take (j+1))=syT S m (l.take j)++(if t.k=1 then(atSy S m t.a).toList else[]):=by
 unfold syT wdT;rw[Q3j,h];by_cases hk:t.k=1
 .cases ha:atSy S m t.a<;>simp[hk,ha]
 .simp[hk]
def GG(s:Bs×Int):Prop:=∃kl,Go.keyOf Tryz.prog 48 (syV s)=some kl
def keyed:Go.Maps.Keyed Tryz.prog 48:=Go.Maps.Keyed.of_law (deep_law_laid (m:=2) (by kernel_rfl) (by decide) (by decide) (by kernel_rfl) (by kernel_rfl))
end
section
open Go Go.Zam Go.Proofs Go.RowKit
open Go.ChangeMaps
structure WI(w1 w3 W:World)(mb:Nat)(L:List (Bs×Int)):Prop where
 k:Keeps w3 W
 b:Below w1.heap.size w1 W
 c:CntM GG W mb L
section
variable{w1 w3 W W':World}{mb:Nat}{L:List (Bs×Int)}
def WI.alloc(h:WI w1 w3 W mb L)(o:Obj):WI w1 w3 (W.alloc o) mb L:=⟨h.k.trans (Keeps.alloc _ _),h.b.alloc h.b.size _,h.c.at (Below.heap_alloc W o _ h.c.lt)⟩
def WI.drew(h:WI w1 w3 W mb L):WI w1 w3 W.drew mb L:=⟨h.k,h.b.drew,h.c⟩
def WI.below(h:WI w1 w3 W mb L)(hb:Below W.heap.size W W'):WI w1 w3 W' mb L:=⟨h.k.trans (Keeps.below (Q0q _) hb),h.b.trans (hb.mono h.b.size),h.c.at (hb.block _ h.c.lt)⟩
def WI.set{es:Array MapEntry}{cl:Nat}{L':List (Bs×Int)}(h:WI w1 w3 W mb L)(hm:w1.heap.size<=mb)(hc:CntM GG (setBlock W mb (.map es cl)) mb L'):WI w1 w3 (setBlock W mb (.map es cl)) mb L':=by obtain⟨e0,c0,hb0,-⟩:=h.c;have ho:∀i,i≠mb->(setBlock W mb (.map es cl)).heap[i]?=W.heap[i]?:=λi hi=>heap_setBlock_other hb0 _ hi;refine⟨h.k.trans (Keeps.but h.c.nocell λi _ hi=>ho i hi),h.b.trans ⟨rfl,rfl,rfl,?_,λi hi=>ho i (by omega)⟩,hc⟩;simp[setBlock]
def WI.inc(h:WI w1 w3 W mb L)(hm:w1.heap.size<=mb){s:Bs×Int}(hs:GG s):∃(s1:Int)(u1 u2:World),(Instr.lookup 28 (.map (some mb)) (syV s) false).run Tryz.prog W=.ok (.int .i64 (L.count s:Int)) W/\
 (Instr.mapEntry 28 (.map (some mb)) (syV s)).run Tryz.prog W=.ok (.tuple #[.int .i64 (L.count s:Int),.int .i64 s1]) u1/\(Instr.lookup 28 (.map (some mb)) (syV s) false).run Tryz.prog u1=.ok (.int .i64 (L.count s:Int)) u1/\
 (Instr.entryStore 28 (.map (some mb)) (.int .i64 s1) (.int .i64 ((L.count s:Int)+1))).run Tryz.prog u1=.ok () u2/\WI w1 w3 u2 mb (L++[s]):=by
 have hz:∀u:World,(zeroValue 3).run Tryz.prog u=.ok (.int .i64 0) u:=λu=>Tryz.zeroValue3 u;have hk:∀x,GG x->∃kl,Go.keyOf Tryz.prog 48 (syV x)=some kl:=λx h=>h;have h0:=CntM.look keyed Tryz.underlying28 hz h.c hk hs;obtain⟨st,u1,h1,⟨es1,c1,e1⟩,h2,u2,h3,h4,⟨es2,c2,e2⟩⟩:=CntM.inc keyed Tryz.underlying28 hz h.c hk hs;have h5:=CntM.look keyed Tryz.underlying28 hz h2 hk hs;refine⟨_,u1,u2,h0,h1,h5,h3,?_⟩;subst e2;exact h.set hm h4
end
def Qww(l:List (Bs×Int))(s:Bs×Int):l.count s<=l.length:=List.count_le_length
section
variable{v0 ns nl kk:Value}{ad:Option Addr}{cap mb:Nat}{S:List Un}{u:Un}{Q:Exit->Act->World->Prop}{w1 w3:World}{C:List (Bs×Int)}{H0:Hp}
def mu(n:Nat)(a:Act):Nat:=n-(intOf (a.tmps.getD 43 undef)).toNat
def Qyq{n q:Nat}{l:List Value}(h:l[43]?=some (.int .i64 (q:Int))):mu n ⟨l.toArray,[]⟩=n-q:=by
 have:(l.toArray.getD 43 undef)=.int .i64 (q:Int):=by simp[Q1h,h]
 unfold mu;rw[this];simp[intOf]
def innE{n q:Nat}{mp nm ts:Value}{l:List Value}{W:World}(h:FI v0 mp nm ns nl kk ts (.int .i64 n) l)(h43:l[43]?=some (.int .i64 (q:Int)))(hq:q=n)(hQ:∀l':List Value,FI v0 mp nm ns nl kk ts (.int .i64 n) l'->Q (.exit 2) ⟨l'.toArray,[]⟩ W):inB'.wp Tryz.prog Q ⟨l.toArray,[]⟩ W:=by
 obtain⟨hl,f3,f6,f8,f28,f29,f30,f41,f42⟩:=h;rw[lit82 hl,Qx f3,Qx f6,Qx f8,Qx f28,Qx f29,Qx f30,Qx f41,Qx f42,Qx h43];generalize gd l=f;subst hq
 conv=>arg 2;whnf
 go_wp2
 exact⟨rfl,rfl,rfl,rfl,rfl,rfl,rfl,rfl,rfl⟩
def innL{l:List Value}{W:World}(hAt:Qgq Tryz.prog 8)(hS:PrjX S)(hL1:V9 w1 H0)(hp:Rd w3 v0 (pA S))(hm:w1.heap.size<=mb)(htk:∀(j:Nat) (t:Tk),u.tk[j]?=some t->∃b o,ad=some ⟨b,o,none⟩/\b<w3.heap.size/\w3.cell? ⟨b,o+j*4,none⟩=some (.int .i64 t.k)/\w3.cell? ⟨b,o+j*4+1,none⟩=some (.int .i64 (t.a:Int))/\
 w3.cell? ⟨b,o+j*4+2,none⟩=some (.string ⟨t.l.toArray⟩)/\w3.cell? ⟨b,o+j*4+3,none⟩=some (.string ⟨t.x.toArray⟩))(hlen:u.tk.length<=1048576)(hC:C.length<=549755813888)(hg:∀(a:Int) (s:Bs×Int),atSy S u.n a=some s->GG s)(hF:FI v0 (.map (some mb)) (.string ⟨u.n.toArray⟩) ns nl kk (.slice ad u.tk.length cap) (.int .i64 u.tk.length) l)(h43:l[43]?=some (.int .i64 0))(hW:WI w1 w3 W mb C)(hex:∀(l':List Value) (W':World),FI v0 (.map (some mb)) (.string ⟨u.n.toArray⟩) ns nl kk (.slice ad u.tk.length cap) (.int .i64 u.tk.length) l'->WI w1 w3 W' mb (C++syT S u.n u.tk)->Q (.exit 2) ⟨l'.toArray,[]⟩ W'):
 (Code.loop inB').wp Tryz.prog Q ⟨l.toArray,[]⟩ W:=by
 refine wp_loop (λa W=>∃(l:List Value)(q:Nat),a=⟨l.toArray,[]⟩/\FI v0 (.map (some mb)) (.string ⟨u.n.toArray⟩) ns nl kk (.slice ad u.tk.length cap) (.int .i64 u.tk.length) l/\l[43]?=some (.int .i64 (q:Int))/\q<=u.tk.length/\WI w1 w3 W mb (C++syT S u.n (u.tk.take q)))
  (λa _=>mu u.tk.length a) ⟨l,0,rfl,hF,h43,Q3e _,by simpa[syT,wdT]using hW⟩ ?_
 rintro a W ⟨l,q,rfl,hF,h43,hq,hW⟩;have hend:∀(l':List Value)(W':World),FI v0 (.map (some mb)) (.string ⟨u.n.toArray⟩) ns nl kk (.slice ad u.tk.length cap) (.int .i64 u.tk.length) l'->l'[43]?=some (.int .i64 ((q+1:Nat):Int))->q<u.tk.length->WI w1 w3 W' mb (C++syT S u.n (u.tk.take (q+1)))->
  Exit.then (λa' w'=>(∃(l:List Value)(q:Nat),a'=⟨l.toArray,[]⟩/\FI v0 (.map (some mb)) (.string ⟨u.n.toArray⟩) ns nl kk (.slice ad u.tk.length cap) (.int .i64 u.tk.length) l/\l[43]?=some (.int .i64 (q:Int))/\q<=u.tk.length/\WI w1 w3 w' mb (C++syT S u.n (u.tk.take q)))/\mu u.tk.length a'<mu u.tk.length ⟨l.toArray,[]⟩) Q .normal ⟨l'.toArray,[]⟩ W':=by
  intro l' W' hF' h43' hlt hW';refine⟨⟨l',q+1,rfl,hF',h43',hlt,hW'⟩,?_⟩;rw[Qyq h43',Qyq h43];omega
 rcases Q2n q u.tk.length with hlt|hge
 .obtain⟨t,ht⟩:∃t,u.tk[q]?=some t:=⟨_,Q0o hlt⟩;obtain⟨tb,to,rfl,htb,t0,t1,t2,t3⟩:=htk q t ht;have hstep:=Qu7 (S:=S) (m:=u.n) ht
  replace t0:=hW.k _ _ _ t0;replace t1:=hW.k _ _ _ t1;replace t2:=hW.k _ _ _ t2;replace t3:=hW.k _ _ _ t3;by_cases hk:t.k=1
  .rw[hk]at t0;rw[if_pos hk]at hstep;have hW1:=hW.alloc (tkO 1 t);have hcall:=at_ hAt hS (hL1.below hW1.b) (hp.keeps hW1.k rfl) u.n t.a;cases hat:atSy S u.n t.a with
   |none=>rw[hat]at hcall hstep;simp only[Option.getD_none,Option.isSome_none,Option.toList_none,Q1a,syV]at hcall hstep;refine innN hF h43 hlt hlen t0 t1 t2 t3 hcall λl' w5 hK hF' h43'=>hend l' _ hF' h43' hlt ?_;rw[hstep];exact(hW1.below hK).alloc _
   |some s=>
    rw[hat]at hcall hstep;simp only[Q2t,Q3r,Option.toList_some,syV]at hcall hstep;refine innS (K2:=λw2=>WI w1 w3 w2 mb (C++syT S u.n (u.tk.take (q+1)))) hF h43 hlt hlen t0 t1 t2 t3 hcall (λw5 W' hK e=>?_) λl' w5 hK hF' h43'=>hend l' _ hF' h43' hlt hK;subst e;obtain⟨s1,u1,u2,i1,i2,i3,i4,i5⟩:=(((hW1.below hK).alloc (.cells #[.string ⟨s.1.toArray⟩,.int .i64 s.2] 48)).drew).inc hm (hg _ _ hat);refine⟨_,s1,u1,u2,by omega,?_,i1,i2,i3,i4,?_⟩
    .have h1:=Qww (C++syT S u.n (u.tk.take q)) s;have h2:(syT S u.n (u.tk.take q)).length<=u.tk.length:=by unfold syT wdT;refine Q1t (List.length_filterMap_le _ _) ?_;rw[Q1l];refine Q1t (Q3i _ _) ?_;rw[Q11];exact Nat.min_le_right _ _
     rw[Q1j]at h1;omega
    .rw[hstep,<-Q06];exact i5
  .rw[if_neg hk,Q1a]at hstep;refine innA hF h43 hlt hlen t0 t1 t2 t3 hk λl' hF' h43'=>hend l' _ hF' h43' hlt ?_;rw[hstep];exact hW.alloc _
 .obtain rfl:q=u.tk.length:=Nat.le_antisymm hq hge;refine innE hF h43 rfl λl' hF'=>hex l' W hF' ?_;rw[Q33]at hW;exact hW
end
end
section
open Go Go.Zam Go.Proofs Go.RowKit
open Go.ChangeMaps
structure FO(v0 mp ns nl:Value)(l:List Value):Prop where
 len:l.length=82
 f3:l[3]?=some v0
 f6:l[6]?=some mp
 f28:l[28]?=some ns
 f29:l[29]?=some nl
def Qsm{n q:Nat}{l:List Value}(h:l[30]?=some (.int .i64 (q:Int))):n-(intOf ((Act.mk l.toArray []).tmps.getD 30 undef)).toNat=n-q:=by
 have:(l.toArray.getD 30 undef)=.int .i64 (q:Int):=by simp[Q1h,h]
 rw[this];simp[intOf]
section
variable{v0:Value}{ad:Option Addr}{cap mb:Nat}{S:List Un}{u:Un}{Q:Exit->Act->World->Prop}{w1 w2 W:World}{H0:Hp}{l:List Value}
def outE{n k:Nat}{mp ns:Value}(h:FO v0 mp ns (.int .i64 n) l)(h30:l[30]?=some (.int .i64 (k:Int)))(hk:k=n)(hQ:∀l':List Value,FO v0 mp ns (.int .i64 n) l'->Q (.exit 0) ⟨l'.toArray,[]⟩ W):outB.wp Tryz.prog Q ⟨l.toArray,[]⟩ W:=by
 obtain⟨hl,f3,f6,f28,f29⟩:=h;rw[lit82 hl,Qx f3,Qx f6,Qx f28,Qx f29,Qx h30];generalize gd l=f;subst hk
 conv=>arg 2;whnf
 go_wp2
 exact⟨rfl,rfl,rfl,rfl,rfl⟩
set_option maxHeartbeats 8000000 in
theorem outR{n k bb oo:Nat}(hAt:Qgq Tryz.prog 8)(hU:Qka Tryz.prog 7)(hS:PrjX S)(hL1:V9 w1 H0)(hp:Rd w2 v0 (pA S))(hm:w1.heap.size<=mb)(hg:∀u∈S,∀(a:Int) (s:Bs×Int),atSy S u.n a=some s->GG s)(hu:S[k]?=some u)(hn:n<=1048576)(hk:k<n)(hC:(csS S k).length<=549755813888)(hc:w2.cell? ⟨bb,oo+k,none⟩=some (.string ⟨u.n.toArray⟩))(hF:FO v0 (.map (some mb)) (.slice (some ⟨bb,oo,none⟩) n cap) (.int .i64 n) l)(h30:l[30]?=some (.int .i64 (k:Int)))(hW:WI w1 w2 W mb (csS S k))(hQ:∀(l':List Value) (W':World),FO v0 (.map (some mb)) (.slice (some ⟨bb,oo,none⟩) n cap) (.int .i64 n) l'->l'[30]?=some (.int .i64 ((k+1:Nat):Int))->WI w1 w2 W' mb (csS S (k+1))->Q .normal ⟨l'.toArray,[]⟩ W'):
 outB.wp Tryz.prog Q ⟨l.toArray,[]⟩ W:=by
 have hmem:=Q05 hu;have hc1:=hW.k _ _ _ hc;have hpr:Rd W v0 (pA S):=hp.keeps hW.k rfl;have hT:=(hS.sx u hmem).1;have hcall:=un (hU S hS.ok) (hL1.below hW.b) hpr u.n (hS.self u hmem);rw[Qwv hu]at hQ;have hgu:=hg u hmem;obtain⟨hl,f3,f6,f28,f29⟩:=hF;rw[lit82 hl,Qx f3,Qx f6,Qx f28,Qx f29,Qx h30];generalize gd l=f
 conv=>arg 2;whnf
 go_wp2_with (first|(go_at_call 7;refine hcall.mono ?_;rintro e w3 ⟨a,rfl,ha,hB3⟩;obtain⟨s0,s1,i3,i4,i5,s6,i7,d8,n8,c8,d9,n9,c9,d10,n10,c10,d11,n11,c11,i12,i13,ad,cap3,rfl,hcap3,htk⟩:=Qu1 ha))
 rename_i K17 h17;have hW3:WI w1 w3 w3 mb (csS S k):=⟨Keeps.refl _,hW.b.trans (hB3.mono hW.b.size),hW.c.at (hB3.block _ hW.c.lt)⟩;have hK23:Keeps w2 w3:=hW.k.trans (Keeps.below (Q0q _) hB3);refine innL hAt hS hL1 (hpr.keeps (Keeps.below (Q0q _) hB3) rfl) hm htk (by omega) hC hgu ⟨rfl,rfl,rfl,rfl,rfl,rfl,rfl,rfl,rfl⟩ rfl (hW3.alloc _) λl' W' hF' hW'=>?_;simp only[Exit.inBlock,Exit.then,if_true];refine h17 _ _ ?_;obtain⟨hl,f3,f6,f8,f28,f29,f30,f41,f42⟩:=hF';rw[lit82 hl,Qx f3,Qx f6,Qx f8,Qx f28,Qx f29,Qx f30,Qx f41,Qx f42];generalize gd l'=f'
 go_wp2
 exact hQ _ _ ⟨rfl,rfl,rfl,rfl,rfl⟩ rfl ⟨hK23.trans hW'.k,hW'.b,hW'.c⟩
end
end
end Go.Proofs.Zv
namespace Go.Zam
section
open Go.RowKit (Below)
open Go.Proofs
open Go.ChangeMaps
def Qxt{P:Program}{w:World}{ty:TypeId}{bm r since c0 clock:Nat}{seen:Array Nat}{es:Array MapEntry}(hb:w.heap[bm]?=some (.map es clock))(hr:w.heap[r]?=some (.mapIter (some bm) since seen c0))(hold:∀x∈es.toList,x.born<since)(hsc:since<=c0):
 ((leftOf es seen).size=0/\(Instr.next (.pointer (some ⟨r,0,none⟩)) false ty).run P w=.ok (.tuple #[.bool false]) w)\/
 ∃e∈(leftOf es seen).toList,∃w1:World,(w1.Alike w/\w1.tape=w.tape)/\(Instr.next (.pointer (some ⟨r,0,none⟩)) false ty).run P w=.ok (.tuple #[.bool true,e.key,e.val]) (setBlock w1 r (.mapIter (some bm) since (seen.push e.born) clock)):=by
 simp only[Instr.next,getObj,Q1m,Sem.run,hr,hb,Result.andThen,next_test_false seen es since c0 hold hsc,Q0w,if_false];unfold leftOf;have hmem:∀x∈Array.filter (λe=> !seen.contains e.born) es,x.born<since:=λx hx=>hold x (Array.mem_toList_iff.2 (Array.mem_filter.1 hx).1);generalize Array.filter (λe=> !seen.contains e.born) es=L at hmem⊢;have e1:L.filter (λx=>decide (x.born<since))=L:=Array.filter_eq_self.2 λx hx=>decide_eq_true (hmem x hx);have e2:L.filter (λx=>decide (x.born>=since))=#[]:=Array.filter_eq_empty_iff.2 λx hx h=>by have:=hmem x hx;simp at h;omega
 rw[e1,e2,Array.append_empty];rcases Nat.eq_zero_or_pos L.size with h0|h0
 .obtain rfl:=Q3c h0;exact .inl ⟨rfl,by simp[choose,Sem.run,Question.forced]⟩
 .refine .inr ?_;have hne:L.isEmpty=false:=by
   cases h:L.isEmpty with
   |false=>rfl
   |true=>rw[Array.isEmpty_iff.1 h]at h0;simp at h0
  obtain⟨j,w1,hj,hal,hrun⟩:∃(j:Nat)(w1:World),j<L.size/\(w1.Alike w/\w1.tape=w.tape)/\(choose (Question.mapNext L.size)).run P w=.ok j w1:=by
   by_cases hf:L.size<=1
   .exact⟨0,w,h0,⟨⟨rfl,rfl,rfl⟩,rfl⟩,by simp[choose,Sem.run,Question.forced,hf]⟩
   .exact⟨_,w.drew,Nat.mod_lt _ h0,⟨⟨rfl,rfl,rfl⟩,rfl⟩,by simp only[choose,Sem.run,Question.forced,decide_eq_true_eq,hf,if_false,Question.cut];rfl⟩
  refine⟨L[j],by simp,w1,hal,?_⟩;have hr1:w1.heap[r]?=some (.mapIter (some bm) since seen c0):=by rw[hal.1.1];exact hr
  have hset:∀o':Obj,(setObj r o').run P w1=.ok () (setBlock w1 r o'):=λo'=>by simp only[setObj,Sem.run,hr1];rfl
  simp only[hne,Q0w,if_false,Array.empty_append,Array.size_map,hrun,Result.andThen,Array.getElem?_map,Q3a hj,Q13,Q1m,hset];rfl
def Qwn{P:Program}{w:World}{bm r since clock:Nat}{seen:Array Nat}{es:Array MapEntry}{e:MapEntry}(hb:w.heap[bm]?=some (.map es clock))(hr:w.heap[r]?=some (.mapIter (some bm) since (seen.push e.born) clock))(he:e∈es.toList)(hn:(es.toList.map (·.born)).Nodup):
 (Instr.entry (.pointer (some ⟨r,0,none⟩))).run P w=.ok (.tuple #[e.key,e.val]) w:=by
 have hf:es.find? (·.born==e.born)=some e:=by rw[<-Array.find?_toList];exact find_born e es.toList hn he
 simp only[Instr.entry,getObj,Q1m,Sem.run,hr,hb,Result.andThen,Array.back?_push,bne_self_eq_false,Q0w,if_false,hf];rfl
end
end Go.Zam
namespace Go.Proofs.Zv
section
open Go Go.Zam Go.Proofs Go.RowKit
open Go.ChangeMaps
section
variable{v0:Value}{ad:Option Addr}{cap mb:Nat}{S:List Un}{u:Un}{Q:Exit->Act->World->Prop}{w1 w2 W:World}{H0:Hp}{l:List Value}
def Qx6(hS:PrjX S)(k:Nat):(csS S k).length<=549755813888:=by
 have h:∀T:List Un,(∀u∈T,u.tk.length<=65536)->(T.flatMap λu=>syT S u.n u.tk).length<=T.length*65536:=by
  intro T;induction T with
  |nil=>intro _;simp
  |cons u r ih=>
   intro h;have h1:=ih λv hv=>h v (by simp[hv]);have h2:=h u (by simp);have h3:(syT S u.n u.tk).length<=u.tk.length:=by unfold syT wdT;refine Q1t (List.length_filterMap_le _ _) ?_;rw[Q1l];exact Q3i _ _
   rw[Q21,Q1j,Q03,Q1u];omega
 have h1:=h (S.take k) λu hu=>(hS.sx u (Q35 hu)).1;have h2:=hS.ok.len;have h3:(S.take k).length<=8:=by rw[Q11];omega
 have h4:(S.take k).length*65536<=8*65536:=Q1q _ h3;unfold csS;omega
def outL(hAt:Qgq Tryz.prog 8)(hU:Qka Tryz.prog 7)(hS:PrjX S)(hL1:V9 w1 H0)(hp:Rd w2 v0 (pA S))(hm:w1.heap.size<=mb)(hg:∀u∈S,∀(a:Int) (s:Bs×Int),atSy S u.n a=some s->GG s)(hnm:∀(k:Nat) (u:Un),S[k]?=some u->∃bb oo,ad=some ⟨bb,oo,none⟩/\w2.cell? ⟨bb,oo+k,none⟩=some (.string ⟨u.n.toArray⟩))(hF:FO v0 (.map (some mb)) (.slice ad S.length cap) (.int .i64 S.length) l)(h30:l[30]?=some (.int .i64 0))(hW:WI w1 w2 W mb [])(hex:∀(l':List Value) (W':World),FO v0 (.map (some mb)) (.slice ad S.length cap) (.int .i64 S.length) l'->WI w1 w2 W' mb (syS S)->Q (.exit 0) ⟨l'.toArray,[]⟩ W'):
 (Code.loop outB).wp Tryz.prog Q ⟨l.toArray,[]⟩ W:=by
 have hS8:=hS.ok.len;refine wp_loop (λa W=>∃(l:List Value)(k:Nat),a=⟨l.toArray,[]⟩/\FO v0 (.map (some mb)) (.slice ad S.length cap) (.int .i64 S.length) l/\l[30]?=some (.int .i64 (k:Int))/\k<=S.length/\WI w1 w2 W mb (csS S k))
  (λa _=>S.length-(intOf (a.tmps.getD 30 undef)).toNat) ⟨l,0,rfl,hF,h30,Q3e _,hW⟩ ?_
 rintro a W ⟨l,k,rfl,hF,h30,hk,hW⟩;rcases Q2n k S.length with hlt|hge
 .obtain⟨u,hu⟩:∃u,S[k]?=some u:=⟨_,Q0o hlt⟩;obtain⟨bb,oo,rfl,hc⟩:=hnm k u hu;refine outR hAt hU hS hL1 hp hm hg hu (by omega) hlt (Qx6 hS k) hc hF h30 hW λl' W' hF' h30' hW'=>⟨⟨l',k+1,rfl,hF',h30',hlt,hW'⟩,?_⟩;rw[Qsm h30',Qsm h30];omega
 .obtain rfl:k=S.length:=Nat.le_antisymm hk hge;refine outE hF h30 rfl λl' hF'=>hex l' W hF' ?_;rw[Qx7]at hW;exact hW
structure FM(v0 it:Value)(l:List Value):Prop where
 len:l.length=82
 f3:l[3]?=some v0
 f69:l[69]?=some it
def mapE{r:Nat}(h:FM v0 (.pointer (some ⟨r,0,none⟩)) l)(hnx:∀ty,(Instr.next (.pointer (some ⟨r,0,none⟩)) false ty).run Tryz.prog W=.ok (.tuple #[.bool false]) W)(hQ:∀l':List Value,FM v0 (.pointer (some ⟨r,0,none⟩)) l'->Q (.exit 4) ⟨l'.toArray,[]⟩ W):mapB.wp Tryz.prog Q ⟨l.toArray,[]⟩ W:=by
 obtain⟨hl,f3,f69⟩:=h;rw[lit82 hl,Qx f3,Qx f69];generalize gd l=f
 conv=>arg 2;whnf
 go_wp2
 exact⟨rfl,rfl,rfl⟩
set_option maxHeartbeats 4000000 in
theorem mapR{r n:Nat}{W2:World}{sm:ByteArray}{st:Int}{K:World->Prop}(h:FM v0 (.pointer (some ⟨r,0,none⟩)) l)(hnx:∀ty,(Instr.next (.pointer (some ⟨r,0,none⟩)) false ty).run Tryz.prog W=.ok (.tuple #[.bool true,.agg #[.string sm,.int .i64 st],.int .i64 (n:Int)]) W2)(hen:(Instr.entry (.pointer (some ⟨r,0,none⟩))).run Tryz.prog W2=.ok (.tuple #[.agg #[.string sm,.int .i64 st],.int .i64 (n:Int)]) W2)(hcall:Calls Tryz.prog 9 #[v0,.agg #[.string sm,.int .i64 st]] (W2.alloc (.cells #[.string sm,.int .i64 st] 48)) λe w'=>∃a cp,e=.returned (.slice a n cp)/\K w')(hQ:∀(l':List Value) (W':World),K W'->FM v0 (.pointer (some ⟨r,0,none⟩)) l'->Q .normal ⟨l'.toArray,[]⟩ W'):mapB.wp Tryz.prog Q ⟨l.toArray,[]⟩ W:=by
 obtain⟨hl,f3,f69⟩:=h;rw[lit82 hl,Qx f3,Qx f69];generalize gd l=f
 conv=>arg 2;whnf
 go_wp2_with (first|(go_at_call 9;refine hcall.mono ?_;rintro e w3 ⟨a,cp,rfl,hK⟩))
 exact hQ _ _ hK ⟨rfl,rfl,rfl⟩
structure MI(w1 w2 W:World)(mb r:Nat)(es:Array MapEntry)(cl:Nat):Prop where
 k:Keeps w2 W
 b:Below w1.heap.size w1 W
 m:W.heap[mb]?=some (.map es cl)
 r:∃seen,W.heap[r]?=some (.mapIter (some mb) cl seen cl)
def MI.below{W':World}{r cl:Nat}{es:Array MapEntry}(h:MI w1 w2 W mb r es cl)(hb:Below W.heap.size W W'):MI w1 w2 W' mb r es cl/\W'.heap[r]?=W.heap[r]?:=by obtain⟨seen,hs⟩:=h.r;have h1:=hb.block _ (Q1f.1 h.m).1;have h2:=hb.block _ (Q1f.1 hs).1;exact⟨⟨h.k.trans (Keeps.below (Q0q _) hb),h.b.trans (hb.mono h.b.size),h1.trans h.m,seen,h2.trans hs⟩,h2⟩
def mapL{r cl:Nat}{es:Array MapEntry}(hPl:Ql8 Tryz.prog 9)(hS:PrjX S)(hL1:V9 w1 H0)(hp:Rd w2 v0 (pA S))(hcnt:CntI GG (syS S) es cl)(hr1:w1.heap.size<=r)(hmr:mb≠r)(hF:FM v0 (.pointer (some ⟨r,0,none⟩)) l)(hI:MI w1 w2 W mb r es cl)(hex:∀(l':List Value) (W':World),FM v0 (.pointer (some ⟨r,0,none⟩)) l'->MI w1 w2 W' mb r es cl->Q (.exit 4) ⟨l'.toArray,[]⟩ W'):
 (Code.loop mapB).wp Tryz.prog Q ⟨l.toArray,[]⟩ W:=by
 obtain⟨hold,hnd,-⟩:=(MapKept.stamped_iff es cl).1 hcnt.st;refine wp_loop (λa W=>∃l:List Value,a=⟨l.toArray,[]⟩/\FM v0 (.pointer (some ⟨r,0,none⟩)) l/\MI w1 w2 W mb r es cl) (λ_ W=>(leftOf es (W.iterSeen r)).size) ⟨l,rfl,hF,hI⟩ ?_;rintro a W ⟨l,rfl,hF,hI⟩;obtain⟨seen,hr⟩:=hI.r;have hmu:W.iterSeen r=seen:=by unfold World.iterSeen;rw[hr]
 rcases Qxt (P:=Tryz.prog) (ty:=0) hI.m hr (λx hx=>hcnt.st.1 x hx) (Q0q _)with⟨h0,hrun⟩|⟨e,he,u1,⟨hal,htp⟩,hrun⟩
 .exact mapE hF (λ_=>hrun) λl' hF'=>hex l' W hF' hI
 .obtain⟨s,hk,-,hv⟩:=hcnt.rd e (mem_left he).1;rw[hk,hv,Qmj hS]at hrun;have hr1':u1.heap[r]?=some (.mapIter (some mb) cl seen cl):=by rw[hal.1];exact hr
  have hrs:r<u1.heap.size:=(Q1f.1 hr1').1;have hsame:(setBlock u1 r (.mapIter (some mb) cl (seen.push e.born) cl)).heap[r]?=some (.mapIter (some mb) cl (seen.push e.born) cl):=by simp[setBlock,hrs]
  have hoth:∀i,i≠r->(setBlock u1 r (.mapIter (some mb) cl (seen.push e.born) cl)).heap[i]?=W.heap[i]?:=λi hi=>by rw[<-hal.1];simp only[setBlock];rw[Q3x (Ne.symm hi)]
  have hI2:MI w1 w2 (setBlock u1 r (.mapIter (some mb) cl (seen.push e.born) cl)) mb r es cl:=by refine⟨hI.k.trans (Keeps.but (m:=r) (λo=>by simp[World.cell?,hr]) λi _ hi=>hoth i hi),hI.b.trans ⟨hal.2.1,htp,hal.2.2,?_,λi hi=>hoth i (by omega)⟩,(hoth mb hmr).trans hI.m,_,hsame⟩;simp[setBlock,hal.1]
  have hen:=Qwn (P:=Tryz.prog) hI2.m hsame (mem_left he).1 hcnt.st.2.1;rw[hk,hv,Qmj hS]at hen;generalize setBlock u1 r (.mapIter (some mb) cl (seen.push e.born) cl)=W2 at hrun hsame hoth hI2 hen;obtain⟨hI3,hs3⟩:=hI2.below (Below.alloc (Below.refl _ _) (Q0q _) (.cells #[.string ⟨s.1.toArray⟩,.int .i64 s.2] 48));have hcall:=pl hPl hS (hL1.below hI3.b) (hp.keeps hI3.k rfl) s;unfold syV at hcall hrun hen;refine mapR (n:=(Qah S s).length) (K:=λw'=>MI w1 w2 w' mb r es cl/\w'.heap[r]?=W2.heap[r]?) hF (λ_=>hrun) hen (hcall.mono ?_) λl' W' hK hF'=>⟨⟨l',rfl,hF',hK.1⟩,?_⟩
  .rintro e' w' ⟨a,cp,rfl,hb⟩;obtain⟨hI4,hs4⟩:=hI3.below hb;exact⟨a,cp,rfl,hI4,hs4.trans hs3⟩
  .have:W'.iterSeen r=seen.push e.born:=by unfold World.iterSeen;rw[hK.2,hsame]
   rw[this,hmu];exact left_shrinks es seen e he
end
end
section
open Go Go.Zam Go.Proofs
def Qk3{S:List Un}(hX:PrjX S){u:Un}(hu:u∈S):u.n.length<=40:=by
 have h:=(Qef hX.ok.so hX.chk).2.1 u hu;unfold Yu at h;split at h
 .cases h
 .rename_i b r e;simp only[Q08,decide_eq_true_eq]at h;rw[e];exact h.1.1.1
def Qqh{S:List Un}(hX:PrjX S){u:Un}(hu:u∈S){b:SBd}(hb:b∈u.sm.bs):0<=b.a/\b.a<=65536:=by obtain⟨j,hj⟩:=Q2m hb;have hl:=(Q0n.1 hj).1;have h:=(hX.gx u hu).uin j hl b.a ((Qe1 hl).2 (.inl ⟨b,hj,rfl⟩));have h2:=(hX.sx u hu).1;omega
def Qxd{S:List Un}(hX:PrjX S){m:Bs}{v:Un}(h:Zf S m=some v):v.n=m:=by rw[Qgf hX.ok.so]at h;simpa using Q5k h
def Qu6{S:List Un}(hX:PrjX S){u:Un}(hu:u∈S){b:SBd}(hb:b∈u.sm.bs):(ofSy S u b).1.length<=40/\0<=(ofSy S u b).2/\(ofSy S u b).2<=65536:=by
 have h1:(u.n,b.a).1.length<=40/\0<=(u.n,b.a).2/\(u.n,b.a).2<=65536:=⟨Qk3 hX hu,Qqh hX hu hb⟩;unfold ofSy;split
 .split
  .rename_i v hv;split
   .rename_i c hc;split
    .have hm:=Qia hv;rw[<-Qxd hX hv];exact⟨Qk3 hX hm,Qqh hX hm (Q05 hc)⟩
    .exact h1
   .exact h1
  .exact h1
 .exact h1
def Qrz{S:List Un}(hX:PrjX S){m:Bs}{a:Int}{s:Bs×Int}(h:atSy S m a=some s):s.1.length<=40/\0<=s.2/\s.2<=65536:=by
 unfold atSy at h;split at h
 .cases h
 .rename_i u hu;split at h
  .cases h
  split at h
  .cases h
  obtain⟨b,hb,rfl⟩:=Q0p.1 h;exact Qu6 hX (Qia hu) (Q05 hb)
def Qz0(d:Nat){s:ByteArray}(h:s.size<=maxLen):Tryz.prog.keyLits (d+1) 9 [.string s]=some [.string s.data.toList]:=by unfold Program.keyLits;rw[Tryz.underlying9];simp[h]
def Qz1(d:Nat){n:Int}(h:(Lit.int .i64 n).wf=true):Tryz.prog.keyLits (d+1) 3 [.int .i64 n]=some [.int .i64 n]:=by unfold Program.keyLits;rw[Tryz.underlying3];simp[h]
def tysz:∃d,Tryz.prog.types.size+1=d+2:=by
 have h:Tryz.prog.types.size=Tryz.prog.types.size-1+1:=by kernel_rfl
 exact⟨Tryz.prog.types.size-1,congrArg (.+1) h⟩
def gg{s:Bs×Int}(h1:s.1.length<=40)(h2:0<=s.2)(h3:s.2<=65536):GG s:=by
 have hs:(ByteArray.mk s.1.toArray).size<=maxLen:=by show s.1.toArray.size<=maxLen;rw[Q2d];unfold maxLen;omega
 have hw:(Lit.int .i64 s.2).wf=true:=by simp[Lit.wf,IntKind.min,IntKind.max,IntKind.bits,IntKind.signed];omega
 obtain⟨d,hd⟩:=tysz;have hk:Tryz.prog.keyType 48=true:=by kernel_rfl
 have hc:Tryz.prog.cellsOf 48=2:=by kernel_rfl
 have c9:Tryz.prog.cellsOf 9=1:=by kernel_rfl
 have c3:Tryz.prog.cellsOf 3=1:=by kernel_rfl
 have hf:(syV s).formed Tryz.prog 48=true:=by unfold syV Value.formed;rw[Tryz.underlying48,hc];rfl
 unfold GG keyOf;rw[Tryz.underlying48];simp only[hk,hf,Bool.and_self,if_true];rw[hd];have e:Tryz.prog.keyLits (d+2) 48 (syV s).cells.toList=some [.string s.1,.int .i64 s.2]:=by unfold Program.keyLits;rw[Tryz.underlying48];have:(syV s).cells.toList=[.string ⟨s.1.toArray⟩,.int .i64 s.2]:=rfl;rw[this];simp[hc,c9,c3,Qz0 d hs,Qz1 d hw]
 rw[e];exact⟨_,rfl⟩
def Qyb{S:List Un}(hX:PrjX S){m:Bs}{a:Int}{s:Bs×Int}(h:atSy S m a=some s):GG s:=by obtain⟨h1,h2,h3⟩:=Qrz hX h;exact gg h1 h2 h3
end
section
open Go Go.Zam Go.Proofs Go.RowKit
open Go.ChangeMaps
set_option maxHeartbeats 16000000 in
theorem walk{H0:Hp}(hLd:Qs6 Tryz.prog H0 4)(hA:Qs9 Tryz.prog H0 5)(hN:Qom Tryz.prog 6)(hU:Qka Tryz.prog 7)(hAt:Qgq Tryz.prog 8)(hPl:Ql8 Tryz.prog 9){l:List Mod}{z:Bool}(hl:l.length<=1048576)(hm:∀m∈l,m.n.length<=1048576/\m.t.length<=1048576){w:World}(hw:V9 w H0){v:Value}(hv:Rd w v (YL z 2 (l.map encM))):
 Calls Tryz.prog 3 #[v] w λe w'=>e=.returned (.bool true)/\Below w.heap.size w w':=by
 have hmk:∀u:World,(Instr.makeMap 28 none).run Tryz.prog u=.ok (.map (some u.heap.size)) (u.alloc (.map #[] 0)):=λu=>run_makeMap 28 u;go_enter Tryz.func3,Tryz.ntmps3;go_wp2_with (first
  |(go_at_call 4;refine(ld hLd hl hm hw hv).mono ?_;rintro e w1 ⟨v0,v1,b,rfl,hb,hB1⟩)
  |(go_at_call 5;refine(aw hA (hw.below hB1)).mono ?_;rintro e w2 ⟨rfl,hB2⟩)
  |(go_at_call 6;obtain⟨S,hS,hp⟩:=hb (by simp_all);refine(nm hN (by have:=hS.ok.len;omega) (w:=w1.alloc (.map #[] 0)) ((hw.below hB1).below (Below.alloc (Below.refl _ _) (Q0q _) _)) (hp.keeps (Keeps.alloc _ _) rfl)).mono ?_;rintro e w2 ⟨nv,rfl,hnv,hB2⟩;obtain⟨ad,cap,rfl,hcap,hcell⟩:=sl_at hnv (by omega);rw[Q1l]at hcap⊢))
 .go_ret
  exact⟨rfl,hB1.trans (hB2.mono hB1.size)⟩
 .have hmb:CntM GG w2 w1.heap.size []:=(Qun GG w1).at (hB2.block _ (by simp));have hK2:Keeps w1 w2:=(Keeps.alloc _ _).trans (Keeps.below (Q0q _) hB2);have hB12:Below w1.heap.size w1 w2:=(Below.alloc (Below.refl _ _) (Q0q _) _).trans (hB2.mono (by simp));have hL1:=hw.below hB1;refine outL hAt hU hS hL1 (hp.keeps hK2 rfl) (Q0q _) (λu _ a s h=>Qyb hS h) (λk u hu=>?_) ⟨rfl,rfl,rfl,rfl,rfl⟩ rfl ⟨Keeps.refl _,hB12,hmb⟩ λl' W hF hW=>?_
  .obtain⟨bb,oo,rfl,hbb,O⟩:=hcell k [.str u.n] (by simp[hu]);obtain⟨nmv,hc0,hn0⟩:=O 0 (.str u.n) rfl;have:=hn0.str_inv;subst this;simp only[Nat.mul_one,Q2v]at hc0;exact⟨bb,oo,rfl,hc0⟩
  .rename_i hK18;simp only[Exit.inBlock,Exit.then,if_true];refine hK18 _ _ ?_;obtain⟨es,cl,hmap,hcnt⟩:=hW.c;have hrg:=run_range_map (P:=Tryz.prog) W 28 48 3 _ es cl Tryz.underlying28 hmap;obtain⟨hl82,f3,f6,f28,f29⟩:=hF;rw[lit82 hl82,Qx f3,Qx f6,Qx f28,Qx f29];generalize gd l'=f;have hlt:=hW.c.lt;have hI:MI w1 w2 (W.alloc (.mapIter (some w1.heap.size) cl #[] cl)) w1.heap.size W.heap.size es cl:=⟨hW.k.trans (Keeps.alloc _ _),hW.b.alloc hW.b.size _,(heap_alloc_old W _ hlt).trans hmap,#[],heap_alloc_new W _⟩
   go_wp2;refine mapL hPl hS hL1 (hp.keeps hK2 rfl) hcnt hW.b.size (Nat.ne_of_lt hlt) ⟨rfl,rfl,rfl⟩ hI λl2 W2 hF2 hI2=>?_;rename_i hK23;simp only[Exit.inBlock,Exit.then,if_true];refine hK23 _ _ ?_;obtain⟨hl82',f3',f69⟩:=hF2;rw[lit82 hl82',Qx f3',Qx f69];generalize gd l2=f2;have hL2:=hL1.below hI2.b;go_wp2_with (first|(go_at_call 5;refine(aw hA hL2).mono ?_;rintro e w3 ⟨rfl,hB3⟩));go_ret;exact⟨rfl,hB1.trans ((hI2.b.mono hB1.size).trans (hB3.mono (Q1t hB1.size hI2.b.size)))⟩
end
end Go.Proofs.Zv
namespace Go.Zam
section
open Go.RowKit Go.ChangeShapes Go.WideShapes
section
variable{X:Type}{enc:TypeId×Value->X}{P:Program}{W:World}
def lawW_of{f:FuncId}{fn:Func}{s:ChangeSpec}{apart fresh handsOn again:Bool}{args:Array Value}{ds gs:List (DataW X)}{before:List MemPlace}{bt:TypeId}{base:Nat}{ts:List TypeId}{H0:Hp}(hl:laidOutB P=true)(hpl:plainT P ts=true){g:DataW X->Nat}{gl:List (DataW X)->Nat}(B:IsBulk g gl)(hval:∀(j:Nat) (t:TypeId) (v:Value),fn.params[j]?=some t->args[j]?=some v->Value.okWide P W .any base t v)(hW:DataW.Whole enc P fn.params.toList s.vars apart W args.toList ds gs before)(hv:s.vars=[])(hr:fn.resultTypes=#[bt])(hbt:P.underlying bt=some .bool)(hp:∀t∈fn.params.toList,t∈ts/\P.readableRec t=true/\t<P.types.size)(h1:(s.fn X ds).results=[.lit (.bool true)])(h2:(s.fn X ds).args=ds)(h3:(s.fn X ds).vars=[])(h0:V9 W H0)(h:∀ars,Qr8 P fn.params.toList ars (gl ds)->∀vs:List Value,vs.length=ars.length->(∀(i:Nat) (v:Value) (a:A),vs[i]?=some v->ars[i]?=some a->Rd W v a)->
 Calls P f vs.toArray W λe w'=>e=.returned (.bool true)/\Below W.heap.size W w'):
 Calls P f args W λe W'=>∃v,e=.returned v/\s.post enc P fn apart fresh handsOn again W args v W':=by
 have hW0:=hW;obtain⟨p,q,hA,-⟩:=hW;obtain⟨xs,a1,a2,a3⟩:=Qnc hpl B (λt ht=>(hp t ht).1) (λj t v ht hv'=>hval j t v (by simpa using ht) (by simpa using hv')) hA;refine(h xs a1 args.toList a2 a3).mono λe W' ⟨he,hb⟩=>?_;exact⟨_,he,Qvz hl hW0 hv hr hbt (λt ht=>(hp t ht).2) h1 h2 h3 hb⟩
end
end
end Go.Zam
