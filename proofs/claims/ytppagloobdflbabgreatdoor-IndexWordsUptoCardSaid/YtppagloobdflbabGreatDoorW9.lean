import Derived.Test.YtppagloobdflbabGreatDoorW8
import Derived.Test.YtppagloobdflbabGreatDoorW2
import Derived.Test.YtppagloobdflbabGreatDoorProg
import Derived.Test.YtppagloobdflbabGreatDoorW3
import Derived.Test.YtppagloobdflbabGreatDoorW6
import Derived.Test.YtppagloobdflbabGreatDoorW4
import Derived.Shelf.GgSortFunc.InsertionK
import Derived.Test.YtppagloobdflbabGreatDoorW5
import Derived.Shelf.Sort.Plain
import Derived.Shelf.Slices.In.SortNone
import Derived.Shelf.SlSortCmp.NoneTotal
import Derived.Shelf.SlSortCmp.WholeK
import Derived.Shelf.Small.Bits
import Derived.Shelf.Lays
import Derived.Ground.NamesProg
import Derived.Ground.SlsfProg
import Derived.Lib.Small
import Derived.Lib.Walk
import Derived.WalkKit
import Derived.Sort.Grow
import Derived.StillTailTactics
import Derived.RangeFuncRecord
import Derived.Test.YtppagloobdflbabGreatDoorW7
import Derived.KernelRfl
set_option linter.all false
set_option maxRecDepth 100000
set_option maxHeartbeats 4000000
namespace Go.Zam
variable{P:Program}
section
open Go.Proofs
end
section
open Go.Proofs
def Has.ixSame{f:Nat}(h:Has P f Qio)(a b:List (Bs×Int))(za zb:Bool)(ha:a.length<=1099511627776)(H:Hp):
 Qc P f [YL za 2 (a.map Wb),YL zb 2 (b.map Wb)] H (λr H'=>r=YB (decide (a=b))/\H'=H):=by
 refine Qe h (by simp[Qio]) λO _=>?_;by_cases hl:a.length=b.length
 .simp[Qio,hl];refine Qm 0 (λfr H'=>a=b/\H'=H) (λfr H'=>fr 4=YB (decide (a=b))/\∃X,H'=H++X) ?_ ?_ ?_
  .refine Vl H.length a.length (λi fr H'=>fr 0=YL za 2 (a.map Wb)/\fr 1=YL zb 2 (b.map Wb)/\a.take i=b.take i/\H'=H) (by omega) (by decide) (by simp) (by simp) ?_ ?_
   .simp[Qb O]
   rintro i fr H' hi f5 ⟨f0,f1,hd,rfl⟩;simp[f5,f0];refine Qh (λh=>?_) (λh=>?_)
   .have hj:i<a.length:=by simpa using h
    obtain⟨x,hx⟩:∃x,a[i]?=some x:=⟨_,Q12 hj⟩;obtain⟨y,hy⟩:∃y,b[i]?=some y:=⟨_,Q12 (by omega)⟩;have hrx:Zam.rowAt (a.map Wb) (i:Int)=some [.str x.1,.int .i64 x.2]:=by simp[Zam.rowAt,hx,Wb]
    have hry:Zam.rowAt (b.map Wb) (i:Int)=some [.str y.1,.int .i64 y.2]:=by simp[Zam.rowAt,hy,Wb]
    by_cases e:x=y
    .subst e;simp[f0,f1,f5,hrx,hry,eqDs,eqD];refine Wp H'.length (Q14 _) hj (by simp[f5]) ?_;simp[f0,f1,Qb O];rw[Q39,Q39,hd,hx,hy]
    .have hne:a≠b:=λh=>by subst h;rw[hx]at hy;cases hy;exact e rfl
     by_cases e1:x.1=y.1
     .have e2:x.2≠y.2:=λh=>e (Prod.ext e1 h);simp[f0,f1,f5,hrx,hry,hne,e1,e2,eqDs,eqD]
     .simp[f0,f1,f5,hrx,hry,hne,e1,eqDs,eqD]
   .have hia:a.length<=i:=by simpa using h
    rw[Q2f hia,Q2f (by omega)]at hd;simp;exact hd
  .rintro fr H' ⟨f4,X,rfl⟩;simp[f4];simp[RetK,Qd O]
  .rintro fr H' ⟨h1,rfl⟩;simp[h1];simp[RetK,Qb O,h1]
 .have hne:a≠b:=λh=>hl (by rw[h]);have hl':¬((a.length:Int)=b.length):=by omega
  simp[Qio];refine Qh (λh=>?_) (λh=>?_)
  .simp;simp[RetK,Qb O,hne]
  .exact absurd (by simpa using h) hl'
end
section
open Go.Proofs
def hitM(ms:List Mn)(t k:Int):Bool:=ms.any λm=>decide (m.a=t/\m.t=k)
def hitK(b:SBd)(ms:List Mn)(t k:Int):Bool:=decide (b.a=t)||hitM ms t k
def plB(S:List Un)(u:Un)(s:Bs×Int)(t k:Nat):List (Bs×Int):=match u.sm.bs[k]?,u.tk[t]? with
 |some b,some x=>if ofSy S u b=s/\hitK b u.sm.ms t k=true then[(u.n,(x.a:Int))]else[]
 |_,_=>[]
def plT(S:List Un)(u:Un)(s:Bs×Int)(k t:Nat):List (Bs×Int):=(List.range k).flatMap (plB S u s t)
def plV(S:List Un)(u:Un)(s:Bs×Int)(t:Nat):List (Bs×Int):=(List.range t).flatMap (plT S u s u.sm.bs.length)
def plU(S:List Un)(s:Bs×Int)(u:Un):List (Bs×Int):=plV S u s u.tk.length
def Qj8(S:List Un)(s:Bs×Int):List (Bs×Int):=S.flatMap (plU S s)
def Qy0(S:List Un)(u:Un)(s:Bs×Int)(t k:Nat):(plB S u s t k).length<=1:=by
 unfold plB;split
 .split<;>simp
 .simp
def Qtq(S:List Un)(u:Un)(s:Bs×Int)(t:Nat):∀k,(plT S u s k t).length<=k
 |0=>by simp[plT]
 |k+1=>by have h1:=Qtq S u s t k;have h2:=Qy0 S u s t k;unfold plT at h1⊢;rw[Q5t,Q42,Q2l];simp;simp at h1;omega
def Qtp(S:List Un)(u:Un)(s:Bs×Int):∀t,(plV S u s t).length<=t*u.sm.bs.length
 |0=>by simp[plV]
 |t+1=>by have h1:=Qtp S u s t;have h2:=Qtq S u s t u.sm.bs.length;unfold plV at h1⊢;rw[Q5t,Q42,Q2l,Q29];simp;simp at h1;omega
def Qw4(S:List Un)(u:Un)(s:Bs×Int)(k t:Nat):plT S u s (k+1) t=plT S u s k t++plB S u s t k:=by unfold plT;rw[Q5t,Q42];simp
def Qsj{T:List Un}{g:Un->List (Bs×Int)}{j:Nat}{u:Un}(h:T[j]?=some u):(T.take (j+1)).flatMap g=(T.take j).flatMap g++g u:=by rw[Q39,h];simp
def Qdv{g:Un->List (Bs×Int)}{b:Nat}:∀{T:List Un},(∀u∈T,(g u).length<=b)->(T.flatMap g).length<=T.length*b
 |[],_=>by simp
 |u::r,h=>by have h1:=Qdv (g:=g) (T:=r) λv hv=>h v (by simp[hv]);have h2:=h u (by simp);rw[Q37,Q2l,Q2i,Q29];omega
def Sm16(u:Un):Prop:=u.tk.length<=65536/\u.sm.bs.length<=65536/\u.sm.ms.length<=65536
end
section
open Go.Proofs
def Qfv(names unit ixOf uses ixSort tSy tU tBd tSp:Nat):IFn:=by
 have h:=Ix.J [5,11000005,2000061] Tryz.f19 [(26,names),(20,unit),(34,ixOf),(35,uses),(28,ixSort)] [(53,tSy),(76,tU),(82,tBd),(24,tSp)];conv at h=>arg 1;reduce
 exact h.p
end
section
open Go.RowKit (Below)
open Go.Proofs Go.Sort
def spV(x:Bs×Int):List Value:=[.string ⟨x.1.toArray⟩,.int .i64 x.2]
def spA(x:Bs×Int):List A:=[YS x.1,YI x.2]
def Zx(L:List (Bs×Int)):List (List A):=L.map spA
def Qvg(d:Array (Bs×Int))(i:Nat)(hi:i<d.size)(x:Bs×Int):((flatK spV 2 d).setIfInBounds (i*2) (.string ⟨x.1.toArray⟩)).setIfInBounds (i*2+1) (.int .i64 x.2)=flatK spV 2 (d.setIfInBounds i x):=by
 have h:((flatK spV 2 d).setIfInBounds (i*2) (.string ⟨x.1.toArray⟩)).setIfInBounds (i*2+1) (.int .i64 x.2)=setMany (flatK spV 2 d) (i*2) (spV x):=rfl;rw[h];refine ext_get! (by simp) λt ht=>?_;have ht':t<d.size*2:=by simpa using ht
 rw[get_setMany _ _ _ t (by simpa using ht'),get_flatK _ _ _ t ht',get_flatK _ _ _ t (by simpa using ht')];have hl:(spV x).length=2:=rfl;rw[hl];by_cases a:i*2<=t/\t<i*2+2
 .have e:t/2=i:=by omega
  rw[if_pos a,e];have e2:t-i*2=t%2:=by omega
  rw[e2];simp[hi]
 .have e:t/2≠i:=by omega
  rw[if_neg a];have ht2:t/2<d.size:=by omega
  simp[ht2,Ne.symm e,Array.getElem_setIfInBounds]
def HR.putSps{κ:K}{H:Hp}{w:World}(h:HR κ H w){i b:Nat}{s:Option (TypeId×Nat)}{L0 d:List (Bs×Int)}(hi:H[i]?=some (.arr 2 (Zx L0)))(hβ:κ.β i=.arr b 2 s)(hd:d.length=L0.length)(h0:HoldsK spV 2 w b 0 L0.toArray):∀k:Nat,k<=L0.length->HR κ (H.set i (.arr 2 (Zx (d.take k++L0.drop k)))) (putRowK spV 2 w b 0 (d.take k++L0.drop k).toArray)
 |0,_=>by
  have hH:H.set i (.arr 2 (Zx L0))=H:=by
   refine Q3e λj=>?_;by_cases hj:i=j
   .subst hj;rw[Q17 (Q11.1 hi).1,hi]
   .rw[Q15 hj]
  rw[Q38,Q4z,Q2u,hH,putRowK_self _ _ _ _ _ _ h0];exact h
 |k+1,hk=>by
  have ih:=HR.putSps h hi hβ hd h0 k (by omega);have hil:i<H.length:=(Q11.1 hi).1;have hx:d.take (k+1)++L0.drop (k+1)=(d.take k++L0.drop k).set k (d[k]'(by omega)):=by
   have e1:L0.drop k=L0[k]'(by omega)::L0.drop (k+1):=Q2o (by omega);have e2:d.take (k+1)=d.take k++[d[k]'(by omega)]:=Q2e (by omega);have hm:k-(d.take k).length=0:=by simp;omega
   rw[e2,Q3j _ _ (by simp;omega),hm,e1,List.set_cons_zero,Q2g];rfl
  have hlen:(d.take k++L0.drop k).length=L0.length:=by simp;omega
  generalize d.take k++L0.drop k=X at ih hx hlen;rw[hx];have hkX:k<X.length:=by omega
  have hXk:X[k]?=some (X[k]'hkX):=Q12 hkX;have hrow:(Zx X)[k]?=some [YS (X[k]'hkX).1,YI (X[k]'hkX).2]:=by rw[Zx,Q2d,hXk];rfl
  have hs:∀{κ:K},VR κ (.string ⟨(d[k]'(by omega)).1.toArray⟩) (YS (d[k]'(by omega)).1):=λ{κ}=>.d (DR.strOf _);have s1:=ih.setArr (i:=i) (k:=k) (j:=0) (by rw[Q17 hil]) hβ hrow (by simp) (v:=.string ⟨(d[k]'(by omega)).1.toArray⟩) (a:=YS (d[k]'(by omega)).1) rfl hs;rw[Q32]at s1;have hrow2:((Zx X).set k [YS (d[k]'(by omega)).1,YI (X[k]'hkX).2])[k]?=some [YS (d[k]'(by omega)).1,YI (X[k]'hkX).2]:=by rw[Q17 (by simp[Zx];omega)]
  have s2:=s1.setArr (i:=i) (k:=k) (j:=1) (by rw[Q17 hil];rfl) hβ hrow2 (by simp) (v:=.int .i64 (d[k]'(by omega)).2) (a:=YI (d[k]'(by omega)).2) rfl (.d (DR.int _ _));rw[Q32,Q32]at s2;have e3:((putRowK spV 2 w b 0 X.toArray).setCell ⟨b,k*2+0,none⟩ (.string ⟨(d[k]'(by omega)).1.toArray⟩)).setCell ⟨b,k*2+1,none⟩ (.int .i64 (d[k]'(by omega)).2)=putRowK spV 2 w b 0 (X.set k (d[k]'(by omega))).toArray:=by have p1:=putRow_set id w b 0 (flatK spV 2 X.toArray) (k*2) (.string ⟨(d[k]'(by omega)).1.toArray⟩) (by simp;omega);have p2:=putRow_set id w b 0 ((flatK spV 2 X.toArray).setIfInBounds (k*2) (.string ⟨(d[k]'(by omega)).1.toArray⟩)) (k*2+1) (.int .i64 (d[k]'(by omega)).2) (by simp;omega);rw[Q3i]at p1 p2;unfold putRowK;rw[Q4g];simp only[id]at p1 p2;rw[p1,p2,Qvg _ _ (by simp;omega)];simp
  rw[e3]at s2;have e4:(Zx X).set k [YS (d[k]'(by omega)).1,YI (d[k]'(by omega)).2]=Zx (X.set k (d[k]'(by omega))):=by simp[Zx,Q5w,spA]
  simpa[e4]using s2
def Qwf(x:Bs×Int):∀v∈spV x,v.oneCell'=true:=λv hv=>by simp only[spV,Q2v,Q4l,or_false]at hv;rcases hv with rfl|rfl<;>rfl
def Qm6(P:Program)(f g:FuncId)(le:(Bs×Int)->(Bs×Int)->Bool):Prop:=∀(blk off cap:Nat)(ss:List (Bs×Int))(w:World),HoldsK spV 2 w blk off ss.toArray->blk<w.heap.size->ss.length<4611686018427387904->
 Calls P f #[.slice (some ⟨blk,off,none⟩) ss.length cap,.func (.func g) #[] #[]] w λe w'=>e=.returned (.tuple #[])/\∃n os,w'=sortWorldK spV 2 w blk off n (ss.mergeSort le).toArray os
def Qoo{P:Program}{f g:FuncId}{le:(Bs×Int)->(Bs×Int)->Bool}(hS:Qm6 P f g le){L:List (Bs×Int)}(hne:L≠[])(hl:L.length<4611686018427387904){H:Hp}{i:Nat}(hi:H[i]?=some (.arr 2 (Zx L))) :
 Qc P f [.msl i 0 L.length,.d (.fn g)] H (λ r H'=>r=.tup []/\H'=H.set i (.arr 2 (Zx (L.mergeSort le)))):=by
 intro κ w vs hr hvl hv
 match vs,hvl with
 | [v,vf],_ =>
 have hv0:=hv 0 v _ rfl rfl;have hvf:=(hv 1 vf _ rfl rfl).fn_inv;subst hvf;have hpos:0<L.length:=Q3g.2 hne;cases hv0 with
 | msl _ _ _ b sz o cap hb O ho hz =>
 obtain⟨b',s',hβ',hsh,hc⟩:=hr.ob i _ hi;obtain⟨rfl,rfl⟩:b=b'/\sz=2:=by
  rcases hb with⟨s,hb⟩|hb
  · rw[hβ']at hb;cases hb;exact⟨rfl,rfl⟩
  · rw[hβ']at hb;cases hb
 have ho':o=0:=by have:=ho hpos;omega
 subst ho';have hH0:∀ n,HoldsK spV 2 (Go.Sort.ahead w n) b 0 L.toArray:=λ n t ht=>by
  have ht':t<L.length*2:=by simpa using ht
  have hj:t / 2<L.length:=by omega
  have hrow:(Zx L)[t / 2]?=some (spA L[t / 2]):=by rw[Zx,Q2d,Q12 hj];rfl
  obtain⟨-,h2⟩:=hc (t / 2) _ hrow;have hg:=get_flatK spV 2 L.toArray t (by simpa using ht');rw[Q3i];have hLj:L.toArray[t / 2]! = L[t / 2]:=by simp[getElem!_pos,hj]
  rw[hLj]at hg;have hm:t % 2=0\/t % 2=1:=by omega
  rcases hm with hm|hm
  · obtain⟨u,u1,u2,u3⟩:=h2 0 _ rfl;have:=u3.d_inv.str_inv;subst this;have e:t / 2*2+0=t:=by omega
    rw[e]at u1 u2;refine⟨?_,u2⟩;rw[cell?_ahead,u1,id,hg,hm];rfl
  · obtain⟨u,u1,u2,u3⟩:=h2 1 _ rfl;have:=u3.d_inv.int_inv;subst this;have e:t / 2*2+1=t:=by omega
    rw[e]at u1 u2;refine⟨?_,u2⟩;rw[cell?_ahead,u1,id,hg,hm];rfl
 have hblk:=(hr.ex i b (by rw[hβ'];rfl)).2;refine (hS b 0 cap L w (hH0 0) hblk hl).mono ?_;rintro e w' ⟨rfl,n,os,rfl⟩;have h1:HR κ H (Go.Sort.ahead w n):=hr.later (Qkk w n);have hml:(L.mergeSort le).length=L.length:=Q33 L;have h2:=h1.putSps hi hβ' hml (hH0 n) L.length (Q14 _);rw[Q2f (by omega),Q6c (Q14 _),Q2k]at h2;have h3:=h2.later (Qm2 _ os);exact⟨_,κ,.tup [],_,rfl,K.le_refl κ,h3,.tup [] [] rfl (by simp),rfl,rfl⟩
end
section
open Go.RowKit (Below)
open Go.Proofs Go.Sort
def Qa4(p:Bs×Int):List D:=[.str p.1,.int .i64 p.2]
def Qll(L:List (Bs×Int)):Zx L=(L.map Qa4).map (List.map .d):=by simp[Zx,spA,Qa4]
def Qi0(P:Program)(f g:FuncId):Prop:=∀(a:Option Addr)(cap:Nat)(w:World),Calls P f #[.slice a 0 cap,.func (.func g) #[] #[]] w λe w'=>e=.returned (.tuple #[])/\w'=w
def Qnb{P:Program}{f g:FuncId}(hC:Qi0 P f g){H:Hp}{i k:Nat}:Qc P f [.vsl i k 0,.d (.fn g)] H (λr H'=>r=.tup []/\H'=H):=by
 intro κ w vs hr hvl hv;match vs,hvl with
 |[v,vf],_=>
 have hv0:=hv 0 v _ rfl rfl;have hvf:=(hv 1 vf _ rfl rfl).fn_inv;subst hvf;cases hv0 with
 |vsl _ _ _ ad cap hl hf=>
 refine(hC ad cap w).mono ?_;rintro e w' ⟨rfl,rfl⟩;exact⟨_,κ,_,_,rfl,K.le_refl κ,hr,.tup [] [] rfl (by simp),rfl,rfl⟩
def Has.ixSort{P:Program}{f srt cmp:FuncId}{le:(Bs×Int)->(Bs×Int)->Bool}(h:Has P f (Qft srt cmp))(hS:Qm6 P srt cmp le)(h0:Qi0 P srt cmp)(L:List (Bs×Int))(hl:L.length<=1099511627776){H1:Hp}(hcl1:H1.Closed)(k e:Nat):
 Qc P f [.vsl H1.length k L.length] (H1++[.vec 2 e k (L.map Qa4)]) (λr H'=>r=.vsl H1.length k L.length/\H'=H1++[.vec 2 e k ((L.mergeSort le).map Qa4)]):=by
 refine Qe h (by simp[Qft]) λO _=>?_;have hcall:Qc P srt [.vsl H1.length k L.length,.d (.fn cmp)] (H1++[.vec 2 e k (L.map Qa4)]) (λr H'=>r=.tup []/\H'=H1++[.vec 2 e k ((L.mergeSort le).map Qa4)]):=by
  by_cases hne:L=[]
  .subst hne;simpa using Qnb h0 (H:=H1++[.vec 2 e k []]) (i:=H1.length) (k:=k)
  .have hsrt:=Qoo hS (L:=L) hne (by omega) (H:=H1++[.dead,.arr 2 ((L.map Qa4).map (List.map .d))]) (i:=H1.length+1) (by rw[Qs,Qll];rfl);have hv:=Qc.vecCall (P:=P) (f:=srt) (k:=k) (e:=e) (sz:=2) (args:=[.d (.fn cmp)]) (rows:=L.map Qa4) (rows':=(L.mergeSort le).map Qa4) hcl1 (by simpa using hne) (by simp[Q33]) (by rw[Q2y];refine hsrt.mono ?_;rintro r H' ⟨rfl,rfl⟩;refine⟨rfl,?_⟩;rw[Zd,Qll];rfl)
   rw[Q2y]at hv;exact hv
 simp[Qft];refine Qa hcall ?_;have hc2:Hp.cut (H1.length+1) (H1++[.vec 2 e k ((L.mergeSort le).map Qa4)])=H1++[.vec 2 e k ((L.mergeSort le).map Qa4)]:=by have:=Qi hcl1 1 [.vec 2 e k ((L.mergeSort le).map Qa4)];rw[this];rfl
 simp[RetK,hc2]
end
section
open Go.Proofs
def Qjh(srtI tm mn tint:Nat):IFn:=by
 have h:=Ix.J [2000039,9000023] Tryz.f35 [(55,srtI)] [(74,tm),(116,mn),(3,tint)];conv at h=>arg 1;reduce
 exact h.p
end
section
def encI(t:Int):List D:=[.int .i64 t]
def isort(L:List Int):List Int:=L.mergeSort λx y=>decide (x<=y)
def Qjf(L:List Int):(isort L).length=L.length:=Q33 L
def Qmd(L:List Int):(isort L).Perm L:=List.mergeSort_perm L _
def Qka(L:List Int):Zi L=(L.map encI).map (List.map .d):=by simp[Zi,encI]
section
variable{P:Program}{tn tm bd mn ed tint:Nat}
def Has.scUses{f srt:FuncId}(hf:HasT P [2000039,9000023] f (Qjh srt tm mn tint))(hS:Qph P srt){S:SM}{z1 z2:Bool}{bad:D}(hl:S.ms.length<=1099511627776)(i:Nat)(hi:i<S.bs.length)(H:Hp):
 Qc P f [.agg [YL z1 4 (S.bs.map Qw),YL z2 4 (S.ms.map Ya),.d bad],YI i] H (λr H'=>r=YL false 1 ((isort (Yv S i)).map encI)/\H'=H):=by
 have hne:(isort (Yv S i)).map encI≠[]:=by intro h;have h1:=congrArg List.length h;rw[Q2y,Qjf]at h1;simp[Yv]at h1
 have hle:(Yv S i).length<=S.ms.length+1:=by unfold Yv;have:=Q4n (λm:Mn=>decide (m.t=(i:Int))) S.ms;simp only[Q2i,Q2y];omega
 refine Qc.freezeVec (j:=1) (k:=(Yv S i).length) (e:=tint) hne ?_;obtain⟨fn,hff,hcf⟩:=hf;refine Zu 2 hff hcf (by simp[Qjh]) λO _=>?_;obtain⟨bs,ms,bd'⟩:=S;simp only at hl hi hle;obtain⟨bx,hbx⟩:∃bx,bx=Ob.box tm [YL z1 4 (bs.map Qw),YL z2 4 (ms.map Ya),.d bad]:=⟨_,rfl⟩;have hbc:∀n,bx.clr n=bx:=λn=>by subst hbx;simp
 have hi0:¬(i:Int)<0:=by omega
 have hi1:¬(bs.length:Int)<=(i:Int):=by omega
 have hr:=Qt Qw hi;have hbi:bAt bs (i:Int)=bs[i]:=by unfold bAt;rw[Q31,Q3a,Q12 hi];rfl
 have hU:Yv ⟨bs,ms,bd'⟩ i=bs[i].a::(ms.filter λm=>decide (m.t=(i:Int))).map Mn.a:=by unfold Yv;simp only;rw[hbi]
 generalize bs[i]=b at hr hU;obtain⟨ba,bk,bw,bi⟩:=b;simp only[Qw]at hr;simp only at hU;let U:Nat->List Int:=λj=>ba::((ms.take j).filter λm=>decide (m.t=(i:Int))).map Mn.a;have hU0:U 0=[ba]:=rfl;have hUn:U ms.length=Yv ⟨bs,ms,bd'⟩ i:=by rw[hU];show _::_=_;rw[Q2f (Q14 _)]
 have hUl:∀j,(U j).length<=ms.length+1:=λj=>by
  have h1:=Q4n (λm:Mn=>decide (m.t=(i:Int))) (ms.take j);have h2:(ms.take j).length<=ms.length:=by simp;omega
  show(_::List.map _ _).length<=_;simp only[Q2i,Q2y];omega
 let HY:Nat->Hp:=λj=>[bx,.vec 1 tint (U j).length ((U j).map encI)];have hc:∀j X,Hp.cut (H.length+2) (H++(HY j++X))=H++HY j:=λj X=>by rw[Qi O];have hv:∀n s e k r,(Ob.vec s e k r).clr n=Ob.vec s e k r:=λ_ _ _ _ _=>rfl;simp[HY,hbc,hv,-Ob.clr]
 have hc0:∀j,Hp.cut (H.length+2) (H++HY j)=H++HY j:=λj=>by have:=hc j [];rwa[Q2k]at this
 have e0:∀j X,(HY j++X)[0]?=some (Ob.box tm [YL z1 4 (bs.map Qw),YL z2 4 (ms.map Ya),.d bad]):=λj X=>by rw[<-hbx];rfl
 have e1:∀j X,(HY j++X)[1]?=some (.vec 1 tint (U j).length ((U j).map encI)):=λj X=>rfl;have e2:∀j x X,(HY j++x::X)[2]?=some x:=λj x X=>rfl;have s2:∀j x y X,(HY j++x::X).set 2 y=HY j++y::X:=λj x y X=>rfl;have lY:∀j,(HY j).length=2:=λj=>rfl;have hst:H++[bx,Ob.vec 1 tint 1 [[D.int .i64 ba]]]=H++HY 0:=rfl;simp[Qjh,hi0,hi1,hr,Q45,-getElem?_pos];rw[<-hbx,hst];refine Qz 0 (λfr H'=>fr 5=.vsl (H.length+1) (U ms.length).length (U ms.length).length/\H'=H++HY ms.length) ?_ ?_
 .refine Q8 (H.length+2) ms.length (λj fr H'=>fr 1=YI i/\fr 5=.vsl (H.length+1) (U j).length (U j).length/\fr 25=YL z2 4 (ms.map Ya)/\H'=H++HY j) (by omega) (by decide) (by simp[lY]) (by simp) ?_ ?_ ?_
  .exact⟨by simp,by simp[hU0],by simp,hc0 0⟩
  .rintro j fr H' hj f27 f26 ⟨f1,f5,f25,rfl⟩;have hr2:=Qt Ya hj;have hstep:U (j+1)=if ms[j].t=(i:Int)then U j++[ms[j].a]else U j:=by
    show _::_=_;rw[Q2e hj,Q4o,Q28];by_cases h:ms[j].t=(i:Int)
    .rw[if_pos h];simp[h,U]
    .rw[if_neg h];simp[h,U]
   generalize ms[j]=x at hr2 hstep;obtain⟨xa,xt,xw,xf⟩:=x;simp only[Ya]at hr2;simp only at hstep;have hfit:((U j).length+1)*8<=140737488355328:=by have:=hUl j;omega
   have htk:List.take (U j).length ((U j).map encI)=(U j).map encI:=Q2f (by simp);have hlm:((U j).map encI).length=(U j).length:=Q2y _;have e1':=e1 j;have e2':=e2 j;have s2':=s2 j;have lY':=lY j;by_cases h:xt=(i:Int)
   .rw[if_pos h]at hstep;have hs1:∀X,(HY j++X).set 1 (.vec 1 tint ((U j).length+1) ((U j).map encI++[[D.int .i64 xa]]))=HY (j+1)++X:=λX=>by show[bx,_]++X=[bx,_]++X;rw[hstep];simp[encI]
    have hlU:(U (j+1)).length=(U j).length+1:=by rw[hstep];simp
    have hcj:=hc (j+1);have lY2:=lY (j+1);generalize hY2:HY (j+1)=Y2 at hs1 hcj lY2⊢;generalize HY j=Y at e1' e2' s2' lY' hs1⊢;simp[f27,f25,f1,f5,hr2,h,e2',s2',lY',Qkl,e1',hfit,htk,hlm,hs1,-getElem?_pos];refine Q3 (H.length+2) (Q14 _) (by simp[lY2,f27,f26]) ?_;exact⟨by simp[f1],by simp[hlU],by simp[f25],(hcj _).trans (by rw[hY2])⟩
   .rw[if_neg h]at hstep;have hlU:(U (j+1)).length=(U j).length:=by rw[hstep]
    have hYY:HY (j+1)=HY j:=by show[bx,_]=[bx,_];rw[hstep]
    have hcj:=hc j;rw[<-hYY]at e1' e2' s2' lY' hcj;rw[<-hYY];generalize hY2:HY (j+1)=Y at e1' e2' s2' lY' hcj⊢;simp[f27,f25,f1,hr2,h,e2',s2',lY',-getElem?_pos];refine Q3 (H.length+2) (Q14 _) (by simp[lY',f27,f26]) ?_;exact⟨by simp[f1],by simp[f5,hlU],by simp[f25],(hcj _).trans (by rw[hY2])⟩
  .rintro fr H' f27 f26 ⟨f1,f5,f25,rfl⟩;simp;exact f5
 .rintro fr H' ⟨f5,rfl⟩;rw[hUn]at f5;have hHY:H++HY ms.length=(H++[bx])++[.vec 1 tint (Yv ⟨bs,ms,bd'⟩ i).length ((Yv ⟨bs,ms,bd'⟩ i).map encI)]:=by show H++[bx,_]=_;rw[hUn];simp
  rw[hHY];generalize Yv ⟨bs,ms,bd'⟩ i=L at f5 hne hle⊢;have hLne:L≠[]:=λh=>hne (by subst h;simp[isort]);have hcl1:Hp.Closed (H++[bx]):=Closed.snoc O λn _=>hbc n;have hsrt:=Qnc hS (L:=L) hLne (by omega) (H:=(H++[bx])++[.dead,.arr 1 ((L.map encI).map (List.map .d))]) (i:=(H++[bx]).length+1) (by rw[Qs,Qka];rfl);have hv:=Qc.vecCall (P:=P) (f:=srt) (k:=L.length) (e:=tint) (args:=[]) (rows:=L.map encI) (rows':=(isort L).map encI) hcl1 (by simpa using hLne) (by simp[Qjf]) (by rw[Q2y];refine hsrt.mono ?_;rintro r H' ⟨rfl,rfl⟩;refine⟨rfl,?_⟩;rw[Zd,<-isort,Qka];rfl);rw[Q2y,show(H++[bx]).length=H.length+1 by simp]at hv;simp[f5,-List.append_assoc];refine Qa hv ?_;simp[f5,RetK,resA,-List.append_assoc];refine⟨[bx,.vec 1 tint L.length ((isort L).map encI)],rfl,(Qjf L).symm,?_⟩;have hv:∀n s e k r,(Ob.vec s e k r).clr n=Ob.vec s e k r:=λ_ _ _ _ _=>rfl;rw[Q2g,Qi O];simp[hbc,hv,-Ob.clr]
end
end
section
open Go.Proofs
def Qc.freezeVecE{P:Program}{f:FuncId}{args:List A}{H:Hp}{j k sz e:Nat}{rows:List (List D)}(hk:rows=[]->k=0)(h:Qc P f args H (λr H'=>∃X:Hp,X[j]?=some (.vec sz e k rows)/\r=.vsl (H.length+j) k rows.length/\H'=H++X)):Qc P f args H (λr H'=>r=YL rows.isEmpty sz rows/\H'=H):=by
 by_cases hne:rows=[]
 .subst hne;have hk:=hk rfl;subst hk;intro κ w vs hr hl hv;refine(h κ w vs hr hl hv).mono ?_;rintro ev w' ⟨v,κ',r,H',h1,h2,h3,h4,X,hX,rfl,rfl⟩;have ho:=h3.ob (H.length+j) _ (by rw[Qs];exact hX);have hn:κ'.β (H.length+j)=.nilV:=by
   rcases ho with⟨h,-,-⟩|⟨b,c,cur,-,h,-⟩
   .exact h
   .exact absurd rfl (h rfl)
  cases h4 with
  |vsl _ _ _ ad cap hlc hf=>
  rw[hn]at hf;obtain⟨-,-,hv'⟩:=hf;have g:=h3.cut H.length (by simp);rw[Qd hr.closed]at g;refine⟨_,κ'.cut H.length,YL true sz [],H,h1,K.le_cut h2 hr.dom,g,?_,rfl,rfl⟩;rw[hv'];exact .d (.nilsl sz)
 .have hb:rows.isEmpty=false:=by cases rows with
   |nil=>exact absurd rfl hne
   |cons=>rfl
  rw[hb];exact Qc.freezeVec hne h
def Qn2:Qa4=Wb:=rfl
def atT(u:Un)(t:Int):Int:=((u.tk[t.toNat]?).map λt=>(t.a:Int)).getD 0
def qlB(S:List Un)(s:Bs×Int)(u:Un)(i:Nat)(b:SBd):List (Bs×Int):=if ofSy S u b=s then(isort (Yv u.sm i)).map λt=>(u.n,atT u t)else[]
def qlK(S:List Un)(s:Bs×Int)(u:Un)(j:Nat):List (Bs×Int):=((u.sm.bs.take j).mapIdx (qlB S s u)).flatten
def qlU(S:List Un)(s:Bs×Int)(u:Un):List (Bs×Int):=qlK S s u u.sm.bs.length
def qlS(S:List Un)(s:Bs×Int)(T:List Un):List (Bs×Int):=T.flatMap (qlU S s)
def Qlz{S:List Un}{s:Bs×Int}{u:Un}{j:Nat}{b:SBd}(h:u.sm.bs[j]?=some b):qlK S s u (j+1)=qlK S s u j++qlB S s u j b:=by have hj:=(Q11.1 h).1;unfold qlK;rw[Q39,h];simp only[Option.toList_some];rw[List.mapIdx_append];simp[Q5s (Nat.le_of_lt hj)]
def Qww{S T:List Un}{s:Bs×Int}{j:Nat}{u:Un}(h:T[j]?=some u):qlS S s (T.take (j+1))=qlS S s (T.take j)++qlU S s u:=by rw[Q39,h];simp[qlS]
def Q01{S T:List Un}{s:Bs×Int}(j:Nat):(qlS S s (T.take j)).length<=(qlS S s T).length:=by
 have h:qlS S s T=qlS S s (T.take j)++qlS S s (T.drop j):=by unfold qlS;rw[<-Q42,Q2x]
 rw[h];simp
def Qwx{S:List Un}{s:Bs×Int}{u:Un}:∀(n j:Nat),j+n=u.sm.bs.length->(qlK S s u j).length<=(qlU S s u).length
 |0,j,h=>by rw[Q4g]at h;subst h;exact Q14 _
 |n+1,j,h=>by have h1:=Qwx (S:=S) (s:=s) (u:=u) n (j+1) (by omega);rw[Qlz (Q12 (show j<u.sm.bs.length by omega))]at h1;simp only[Q2l]at h1;omega
def Qru(P:Program)(S:List Un)(f:Nat):Prop:=∀u∈S,∀i,i<u.sm.bs.length->∀H,Qc P f [.agg (u.sm.enc.map .d),YI i] H (λr H'=>r=YL false 1 ((isort (Yv u.sm i)).map encI)/\H'=H)
def HasT.ixPlaces{f names unit ixOf uses ixSort srt cmp tSy tU tBd tSp:Nat}{le:(Bs×Int)->(Bs×Int)->Bool}{S:List Un}(h:HasT P [5,11000005,2000061] f (Qfv names unit ixOf uses ixSort tSy tU tBd tSp))(hn:Qpl P S names)(hu:Qep P S unit)(hself:Qt6 S)(hO:Qtb P S ixOf)(hU:Qru P S uses)(hx:Has P ixSort (Qft srt cmp))(hS:Qm6 P srt cmp le)(hS0:Qi0 P srt cmp)(hl:S.length<=8)(hb:∀u∈S,u.sm.bs.length<=1048576)(hus:∀u∈S,∀i,i<u.sm.bs.length->∀t∈isort (Yv u.sm i),0<=t/\t.toNat<u.tk.length)(s:Bs×Int)(hmax:(qlS S s S).length<=1099511627776)(H:Hp):
 Qc P f [pA S,.agg [YS s.1,YI s.2]] H (λr H'=>r=YL (((qlS S s S).mergeSort le).map Wb).isEmpty 2 (((qlS S s S).mergeSort le).map Wb)/\H'=H):=by
 refine Qc.freezeVecE (j:=1) (k:=(qlS S s S).length) (e:=tSp) (λe=>?_) ?_
 .have h1:=congrArg List.length e;rw[Q2y,Q33]at h1;exact h1
 obtain⟨fn,hf,hcf⟩:=h;refine Zu 2 hf hcf (by simp[Qfv]) λO _=>?_;obtain⟨sy,hsy⟩:∃sy,sy=Ob.box tSy [YS s.1,YI s.2]:=⟨_,rfl⟩;have hsc:∀n,sy.clr n=sy:=λn=>by subst hsy;rfl
 have hnm:=λX=>hn (H++X);simp only[pA]at hnm;simp[Qfv,pA];refine Qa (hnm _) ?_;simp;rw[<-hsy];let HY:List (Bs×Int)->Hp:=λR=>[sy,.vec 2 tSp R.length (R.map Wb)];have hv:∀n s e k r,(Ob.vec s e k r).clr n=Ob.vec s e k r:=λ_ _ _ _ _=>rfl;have hc:∀R X,Hp.cut (H.length+2) (H++(HY R++X))=H++HY R:=λR X=>by rw[Qi O];simp[HY,hsc,hv,-Ob.clr]
 have hst:H++[sy,Ob.vec 2 tSp 0 []]=H++HY []:=rfl;rw[hst];have lY:∀R,(HY R).length=2:=λR=>rfl;refine Qz 0 (λfr H'=>fr 5=.vsl (H.length+1) (qlS S s S).length (qlS S s S).length/\H'=H++HY (qlS S s S)) ?_ ?_
 .refine Q8 (H.length+2) S.length (λj fr H'=>fr 0=.eptr [.sl S.isEmpty 14 (S.map Un.enc)]/\fr 3=.ptr H.length 0/\fr 15=YL true 1 (S.map λu=>[.str u.n])/\fr 5=.vsl (H.length+1) (qlS S s (S.take j)).length (qlS S s (S.take j)).length/\
   H'=H++HY (qlS S s (S.take j))) (by omega) (by decide) (by simp[lY]) (by simp) ?_ ?_ ?_
  .exact⟨by simp,by simp,by simp,by simp[qlS],by have:=hc [] [];simpa[qlS]using this⟩
  .rintro j fr H' hj fi fn ⟨f0,f3,f15,f5,rfl⟩;obtain⟨u,hu'⟩:∃u,S[j]?=some u:=⟨_,Q12 hj⟩;have hum:=Q2p hu';have hrow:Zam.rowAt (S.map λu=>[D.str u.n]) (j:Int)=some [.str u.n]:=by simp[Zam.rowAt,hu']
   have hst:=Qww (S:=S) (s:=s) hu';have hun:=λX=>hu u.n (H++X);rw[hself u hum]at hun;obtain⟨zu,ms,he⟩:=u.enc_all;simp only[Q4w,Q4m,he,Q2w,Q25,pA]at hun;have lYj:=lY (qlS S s (S.take j));simp[fi,f15,hrow,f0];refine Qa (hun _) ?_;simp[lYj];generalize hbx:Ob.box tU [A.d (.str u.n),A.d (.str u.t),A.d (.sl true 4 (u.tk.map Qp)),A.d (.int .i64 u.tr.k),A.d (.int .i64 u.tr.f),A.d (.int .i64 u.tr.t),A.d (.str u.tr.w),A.d (.int .i64 u.tr.at_),A.d (.sl zu 6 (u.tr.ks.map N.enc)),A.d (.sl u.sm.bs.isEmpty 4 (u.sm.bs.map Qw)),A.d ms,A.d (.sl u.sm.bad.isEmpty 2 (u.sm.bad.map Q2)),A.d (.int .i64 u.bad),A.d (.int .i64 u.pos)]=bx;have hbc:∀n,bx.clr n=bx:=λn=>by subst hbx;rfl
   obtain⟨R,hR⟩:∃R,R=qlS S s (S.take j):=⟨_,rfl⟩;rw[<-hR]at hst f5⊢;have hc3:∀R X,Hp.cut (H.length+3) (H++(HY R++bx::X))=H++(HY R++[bx]):=λR X=>by rw[Qi O];simp[HY,hsc,hbc,hv,-Ob.clr]
   refine Qz 2 (λfr H2=>fr 0=.eptr [.sl S.isEmpty 14 (S.map Un.enc)]/\fr 3=.ptr H.length 0/\fr 15=YL true 1 (S.map λu=>[.str u.n])/\fr 17=YI j/\fr 16=YI S.length/\
    fr 5=.vsl (H.length+1) (R++qlU S s u).length (R++qlU S s u).length/\∃X,H2=H++(HY (R++qlU S s u)++X)) ?_ ?_
   .refine Q8 (H.length+3) u.sm.bs.length (λq fr H2=>fr 0=.eptr [.sl S.isEmpty 14 (S.map Un.enc)]/\fr 3=.ptr H.length 0/\fr 7=YS u.n/\fr 8=.ptr (H.length+2) 0/\fr 15=YL true 1 (S.map λu=>[.str u.n])/\fr 17=YI j/\fr 16=YI S.length/\
     fr 29=YL u.sm.bs.isEmpty 4 (u.sm.bs.map Qw)/\∃R2,R2=R++qlK S s u q/\fr 5=.vsl (H.length+1) R2.length R2.length/\H2=H++(HY R2++[bx])) (by have:=hb u hum;omega) (by decide) (by simp[lY]) (by simp) ?_ ?_ ?_
    .refine⟨by simp[f0],by simp[f3],by simp,by simp,by simp[f15],by simp[fi],by simp[fn],by simp,R,by simp[qlK],by simp[f5],hc3 R []⟩
    .rintro q fr H2 hq gi gn ⟨f0,f3,f7,f8,f15,f17,f16,f29,R2,hR2,f5,rfl⟩;have hr2:=Qt Qw hq;have hbm:=Q20 hq;have hstp:=Qlz (S:=S) (s:=s) (Q12 hq);have hOb:=λX=>hO u hum _ hbm (H++X);rw[he]at hOb;have hUs:=λX=>hU u hum q hq (H++X);generalize u.sm.bs[q]=b at hr2 hstp hOb;obtain⟨ofS,hof⟩:∃o,o=ofSy S u b:=⟨_,rfl⟩;rw[<-hof]at hOb;have e0:∀X,(HY R2++X)[0]?=some (Ob.box tSy [YS s.1,YI s.2]):=λX=>by rw[<-hsy];rfl
     have e2:∀x X,(HY R2++x::X)[2]?=some x:=λx X=>rfl;have e3:∀x y X,(HY R2++x::y::X)[3]?=some y:=λx y X=>rfl;have s3:∀x y z X,(HY R2++x::y::X).set 3 z=HY R2++x::z::X:=λx y z X=>rfl;have lY2:=lY R2;have hc3':=hc3 R2;simp only[Qw,pA,Q2w,Q25]at hr2 hOb;generalize hYe:HY R2=Y at e0 e2 e3 s3 lY2 hc3'⊢;subst hbx;simp[gi,f29,hr2,f0,f3,f8,lY2,e0,e2,e3,s3,-getElem?_pos];refine Vj (hOb _) ?_;have hms:ms=.sl u.sm.ms.isEmpty 4 (u.sm.ms.map Ya):=by obtain⟨a1,a2,a3,a4,a5,a6,a7,a8,a9,a10,-,h,-⟩:=u.enc_sm;rw[he]at h;simp at h;exact h.2.2.2.2.2.2.2.2.1
     have hcn:∀X,Hp.cut (H.length+3) (H++(Y++Ob.box tU [A.d (.str u.n),A.d (.str u.t),A.d (.sl true 4 (u.tk.map Qp)),A.d (.int .i64 u.tr.k),A.d (.int .i64 u.tr.f),A.d (.int .i64 u.tr.t),A.d (.str u.tr.w),A.d (.int .i64 u.tr.at_),A.d (.sl zu 6 (u.tr.ks.map N.enc)),A.d (.sl u.sm.bs.isEmpty 4 (u.sm.bs.map Qw)),A.d ms,A.d (.sl u.sm.bad.isEmpty 2 (u.sm.bad.map Q2)),A.d (.int .i64 u.bad),A.d (.int .i64 u.pos)]::X))=_:=hc3';by_cases hos:ofS=s
     .have hp1:qlB S s u q b=(isort (Yv u.sm q)).map λt=>(u.n,atT u t):=by unfold qlB;rw[<-hof,if_pos hos]
      have o1:ofS.1=s.1:=by rw[hos]
      have o2:ofS.2=s.2:=by rw[hos]
      have hTk:=hus u hum q hq;simp only[SM.enc,<-hms,Q2w,Q25]at hUs;generalize isort (Yv u.sm q)=T at hp1 hUs hTk;simp[f3,f8,e0,e2,eqDs,eqD,o1,o2,-getElem?_pos];refine Qa (hUs _) ?_;simp;subst hYe;generalize hbd:Ob.box tBd [A.d (.int .i64 b.a),A.d (.int .i64 b.k),A.d (.str b.w),A.d (.int .i64 b.i)]=bd;generalize hbx:Ob.box tU [A.d (.str u.n),A.d (.str u.t),A.d (.sl true 4 (u.tk.map Qp)),A.d (.int .i64 u.tr.k),A.d (.int .i64 u.tr.f),A.d (.int .i64 u.tr.t),A.d (.str u.tr.w),A.d (.int .i64 u.tr.at_),A.d (.sl zu 6 (u.tr.ks.map N.enc)),A.d (.sl u.sm.bs.isEmpty 4 (u.sm.bs.map Qw)),A.d ms,A.d (.sl u.sm.bad.isEmpty 2 (u.sm.bad.map Q2)),A.d (.int .i64 u.bad),A.d (.int .i64 u.pos)]=bx;have hbdc:∀n,bd.clr n=bd:=λn=>by subst hbd;rfl
      have hbxc:∀n,bx.clr n=bx:=λn=>by subst hbx;rfl
      have hc4:∀R X,Hp.cut (H.length+4) (H++(HY R++bx::bd::X))=H++(HY R++[bx,bd]):=λR X=>by rw[Qi O];simp[HY,hsc,hbdc,hbxc,hv,-Ob.clr]
      have hc5:∀R X,Hp.cut (H.length+3) (H++(HY R++bx::X))=H++(HY R++[bx]):=λR X=>by rw[Qi O];simp[HY,hsc,hbxc,hv,-Ob.clr]
      rw[hp1]at hstp;refine Qz 4 (λfr H3=>fr 0=.eptr [.sl S.isEmpty 14 (S.map Un.enc)]/\fr 3=.ptr H.length 0/\fr 7=YS u.n/\fr 8=.ptr (H.length+2) 0/\fr 15=YL true 1 (S.map λu=>[.str u.n])/\fr 17=YI j/\fr 16=YI S.length/\
       fr 29=YL u.sm.bs.isEmpty 4 (u.sm.bs.map Qw)/\fr 31=YI q/\fr 30=YI u.sm.bs.length/\∃R3,R3=R2++T.map (λt=>(u.n,atT u t))/\fr 5=.vsl (H.length+1) R3.length R3.length/\∃X,H3=H++(HY R3++bx::X)) ?_ ?_
      .have hmx:R2.length+T.length<=1099511627776:=by have g1:=Qwx (S:=S) (s:=s) (u:=u) (u.sm.bs.length-(q+1)) (q+1) (by omega);rw[hstp]at g1;have g2:=Q01 (S:=S) (T:=S) (s:=s) (j+1);rw[hst]at g2;rw[hR2];simp only[Q2l,Q2y]at g1 g2⊢;omega
       refine Q8 (H.length+4) T.length (λp fr H3=>fr 0=.eptr [.sl S.isEmpty 14 (S.map Un.enc)]/\fr 3=.ptr H.length 0/\fr 7=YS u.n/\fr 8=.ptr (H.length+2) 0/\fr 15=YL true 1 (S.map λu=>[.str u.n])/\fr 17=YI j/\fr 16=YI S.length/\
        fr 29=YL u.sm.bs.isEmpty 4 (u.sm.bs.map Qw)/\fr 31=YI q/\fr 30=YI u.sm.bs.length/\fr 45=YL false 1 (T.map encI)/\∃R3,R3=R2++(T.take p).map (λt=>(u.n,atT u t))/\fr 5=.vsl (H.length+1) R3.length R3.length/\H3=H++(HY R3++[bx,bd])) (by omega) (by decide) (by simp[lY]) (by simp) ?_ ?_ ?_
       .exact⟨by simp[f0],by simp[f3],by simp[f7],by simp[f8],by simp[f15],by simp[f17],by simp[f16],by simp[f29],by simp[gi],by simp[gn],by simp,R2,by simp,by simp[f5],hc4 R2 []⟩
       .rintro p fr H3 hp ki kn ⟨f0,f3,f7,f8,f15,f17,f16,f29,f31,f30,f45,R3,hR3,f5,rfl⟩;have hr3:=Qt encI hp;obtain⟨ht0,ht1⟩:=hTk _ (Q20 hp);have hstp3:R2++(T.take (p+1)).map (λt=>(u.n,atT u t))=R3++[(u.n,atT u T[p])]:=by rw[Q2e hp,hR3,Q28,Q2g];rfl
        have hR3l:R3.length=R2.length+p:=by rw[hR3];simp;omega
        generalize T[p]=t at hr3 ht0 ht1 hstp3;have htr:Zam.rowAt (u.tk.map Qp) t=some (Qp u.tk[t.toNat]):=by unfold Zam.rowAt;rw[if_pos ht0];simp[ht1]
        have hat:((u.tk[t.toNat]).a:Int)=atT u t:=by unfold atT;simp[ht1]
        generalize u.tk[t.toNat]=w at htr hat;simp only[Qp,encI]at htr hr3;have e1:∀X,(HY R3++X)[1]?=some (.vec 2 tSp R3.length (R3.map Wb)):=λX=>rfl;have e2:∀x X,(HY R3++x::X)[2]?=some x:=λx X=>rfl;have s1:∀X,(HY R3++X).set 1 (.vec 2 tSp (R3.length+1) (R3.map Wb++[[.str u.n,.int .i64 (w.a:Int)]]))=HY (R3++[(u.n,atT u t)])++X:=λX=>by show[sy,_]++X=[sy,_]++X;rw[<-hat];simp[Wb]
        have hfit:(R3.length+1)*24<=140737488355328:=by omega
        have htk:List.take R3.length (R3.map Wb)=R3.map Wb:=Q2f (by simp);have hlm:(R3.map Wb).length=R3.length:=Q2y _;have lY3:=lY R3;have lY4:=lY (R3++[(u.n,atT u t)]);have hcc:=hc4 (R3++[(u.n,atT u t)]);have hlen4:(R3++[(u.n,atT u t)]).length=R3.length+1:=by simp
        generalize hY2:HY (R3++[(u.n,atT u t)])=Y2 at s1 hcc lY4;generalize HY R3=Y at e1 e2 s1 lY3⊢;subst hbx;simp[ki,f45,hr3,f5,f7,f8,e1,e2,lY3,htr,Qkl,hfit,htk,hlm,s1,-getElem?_pos];refine Q3 (H.length+4) (Q14 _) (by simp[ki,kn,lY4]) ?_;refine⟨by simp[f0],by simp[f3],by simp[f7],by simp[f8],by simp[f15],by simp[f17],by simp[f16],by simp[f29],by simp[f31],by simp[f30],by simp[f45],R3++[(u.n,atT u t)],hstp3.symm,by simp[hlen4],?_⟩;rw[hY2];simpa using hcc []
       .rintro fr H3 ki kn ⟨f0,f3,f7,f8,f15,f17,f16,f29,f31,f30,f45,R3,hR3,f5,rfl⟩;rw[Q3x]at hR3;exact⟨by simp[f0],by simp[f3],by simp[f7],by simp[f8],by simp[f15],by simp[f17],by simp[f16],by simp[f29],by simp[f31],by simp[f30],R3,hR3,by simp[f5],_,rfl⟩
      .rintro fr H3 ⟨f0,f3,f7,f8,f15,f17,f16,f29,f31,f30,R3,hR3,f5,X,rfl⟩;simp;refine Q3 (H.length+3) (Q14 _) (by simp[f31,f30,lY];omega) ?_;exact⟨by simp[f0],by simp[f3],by simp[f7],by simp[f8],by simp[f15],by simp[f17],by simp[f16],by simp[f29],R3,by rw[hstp,hR3,hR2,Q2g],by simp[f5],hc5 _ _⟩
     .have hp0:qlB S s u q b=[]:=by unfold qlB;rw[<-hof,if_neg hos]
      have hne1:¬(ofS.1=s.1/\ofS.2=s.2):=λh=>hos (Prod.ext h.1 h.2);rw[hp0,Q2k]at hstp;by_cases o1:ofS.1=s.1
      .have o2:¬ofS.2=s.2:=λh=>hne1 ⟨o1,h⟩;simp[f3,e0,eqDs,eqD,o1,o2,-getElem?_pos];refine Q3 (H.length+3) (Q14 _) (by simp[gi,gn,lY2]) ?_;exact⟨by simp[f0],by simp[f3],by simp[f7],by simp[f8],by simp[f15],by simp[f17],by simp[f16],by simp[f29],R2,by rw[hstp];exact hR2,by simp[f5],(hcn _).trans (by rw[hYe])⟩
      .simp[f3,e0,eqDs,eqD,o1,-getElem?_pos];refine Q3 (H.length+3) (Q14 _) (by simp[gi,gn,lY2]) ?_;exact⟨by simp[f0],by simp[f3],by simp[f7],by simp[f8],by simp[f15],by simp[f17],by simp[f16],by simp[f29],R2,by rw[hstp];exact hR2,by simp[f5],(hcn _).trans (by rw[hYe])⟩
    .rintro fr H2 gi gn ⟨f0,f3,f7,f8,f15,f17,f16,f29,R2,hR2,f5,rfl⟩;have hU2:R2=R++qlU S s u:=hR2;rw[<-hU2];exact⟨by simp[f0],by simp[f3],by simp[f15],by simp[f17],by simp[f16],by simp[f5],_,rfl⟩
   .rintro fr H2 ⟨f0,f3,f15,f17,f16,f5,X,rfl⟩;simp;refine Q3 (H.length+2) (Q14 _) (by simp[f17,f16,lY]) ?_;refine⟨by simp[f0],by simp[f3],by simp[f15],by simp[f5,hst],?_⟩;rw[hst];exact hc _ _
  .rintro fr H' fi fn ⟨f0,f3,f15,f5,rfl⟩;rw[Q3x]at f5;simp[f5]
 .rintro fr H' ⟨f5,rfl⟩;have hcl1:Hp.Closed (H++[sy]):=Closed.snoc O λn _=>hsc n;have hsrt:=hx.ixSort hS hS0 (qlS S s S) hmax hcl1 (qlS S s S).length tSp;have hHY:H++HY (qlS S s S)=(H++[sy])++[.vec 2 tSp (qlS S s S).length ((qlS S s S).map Wb)]:=by show H++[sy,_]=_;rw[Q2g];rfl
  have hll:((qlS S s S).mergeSort le).length=(qlS S s S).length:=Q33 _;rw[hHY];rw[Qn2]at hsrt;generalize qlS S s S=L at f5 hsrt hll⊢;rw[show(H++[sy]).length=H.length+1 by simp]at hsrt;simp[f5,-List.append_assoc];refine Qa hsrt ?_;simp[f5,RetK,resA,-List.append_assoc];refine⟨[sy,.vec 2 tSp L.length ((L.mergeSort le).map Wb)],rfl,?_⟩;rw[Q2g,Qi O];simp[hsc,hv,-Ob.clr]
end
section
open Go.Proofs
def Toks.rise{s:Bs}{n:Nat}{l:List Tk}(h:Toks s n l):(∀t∈l,n<=t.a/\t.a+t.x.length<=n+s.length/\(t.k≠0->0<t.x.length))/\l.Pairwise λx y=>x.a<y.a/\x.a+x.x.length<=y.a:=by
 induction h with
 |@fin s n h h0=>have hl:Qo false s<=s.length:=Qbw false s;refine⟨λt ht=>?_,by simp⟩;rw[Q3t]at ht;subst ht;simp;omega
 |@tok s n l h h0 hr ih=>
  obtain⟨i1,i2⟩:=ih;obtain⟨t1,-,t3,-⟩:=Qey (s.drop (Qo false s));have t3:=t3 h h0;have hl:Qo false s<s.length:=by
   rcases Q4f (Qo false s) s.length with g|g
   .exact g
   .exact absurd (Q22 g) h0
  simp only[Q26]at i1 t1;refine⟨λt ht=>?_,Q4b.2 ⟨λt ht=>?_,i2⟩⟩
  .rcases Q2v.1 ht with rfl|ht
   .simp only[Q3p,Q26];omega
   .have:=i1 t ht;omega
  .have:=i1 t ht;simp only[Q3p,Q26];omega
structure GdX(u:Un):Prop where
 once:∀t,evB u.sm.bs t+evM u.sm.ms t<=1
 mt:∀m∈u.sm.ms,m.t=-1\/(0<=m.t/\m.t<u.sm.bs.length)
 uin:∀j,j<u.sm.bs.length->∀t∈Yv u.sm j,0<=t/\t.toNat<u.tk.length
 rise:u.tk.Pairwise λx y=>x.a<y.a/\x.a+x.x.length<=y.a
 ne:∀t∈u.tk,t.k≠0->0<t.x.length
 bnd:∀t∈u.tk,(t.a:Int)+t.x.length<=1099511627776
 kd:∀j,j<u.sm.bs.length->∀t∈Yv u.sm j,kdT u.tk t.toNat=1
def Quz(m:Mod):GdX (Wk m):=by
 by_cases h0:(Qx m.t).2.2.1=0
 .obtain⟨n,j,h1,h2,h3,h4,h5,hI,hj,h6⟩:=Qbj h0;have hsm:(Wk m).sm=V2 n:=by show(if _ then _ else _)=_;rw[if_pos h0,h2]
  have htk:(Wk m).tk=(lexS m.t).1:=h1;have hN:=named hI;have hall:=Qm3 n;have hbs:(V2 n).bs=(allR n).bs:=by rw[<-hall];rfl
  have hms:(V2 n).ms=(allR n).ms:=by rw[<-hall];rfl
  have hus:∀q,Yv (V2 n) q=Yv (allR n) q:=λq=>by unfold Yv;rw[hbs,hms]
  have hT:=((Qhv m.t).2 h5).1;have hr:=hT.rise;have hlen:m.t.length<=16384:=((Qhv m.t).1.1 h5).1;refine⟨λt=>?_,λx hx=>?_,λq hq t ht=>?_,?_,λt ht=>?_,λt ht=>?_,λq hq t ht=>?_⟩
  .rw[hsm,hbs,hms];have h1:=hN.once t;have h2:indS 0 j t<=1:=by unfold indS;split<;>omega
   omega
  .rw[hsm,hms]at hx;rw[hsm,hbs];obtain⟨_,_,-,-,-,-,hg⟩:=(hN.ms x hx).ex;rcases hg with g|⟨g1,g2,-⟩
   .exact .inl g
   .exact .inr ⟨g1,g2⟩
  .rw[hsm,hbs]at hq;rw[hsm,hus]at ht;have:=hN.uses_in hI hq ht;rw[htk];omega
  .rw[htk];exact hr.2
  .rw[htk]at ht;exact(hr.1 t ht).2.2
  .rw[htk]at ht;have:=(hr.1 t ht).2.1;omega
  .rw[hsm,hbs]at hq;rw[hsm,hus]at ht;rw[htk];exact hN.uses_kd hI hq ht
 .have hsm:(Wk m).sm=⟨[],[],[]⟩:=by show(if _ then _ else _)=_;rw[if_neg h0]
  have htk:(Wk m).tk=[]:=by
   show(Qx m.t).1=[];unfold Qx at h0⊢;split
   .rfl
   .rename_i g1;split
    .rfl
    .rename_i g2;rw[if_neg g1,if_neg g2]at h0;exact absurd rfl h0
  refine⟨λt=>?_,λx hx=>?_,λq hq=>?_,?_,λt ht=>?_,λt ht=>?_,λq hq=>?_⟩
  .rw[hsm];simp[evB,evM]
  .rw[hsm]at hx;simp at hx
  .rw[hsm]at hq;simp at hq
  .rw[htk];exact List.Pairwise.nil
  .rw[htk]at ht;simp at ht
  .rw[htk]at ht;simp at ht
  .rw[hsm]at hq;simp at hq
def Qht{S:SM}{k:Nat}(hk:k<S.bs.length){t:Int}:t∈Yv S k↔(∃b,S.bs[k]?=some b/\b.a=t)\/∃m∈S.ms,m.a=t/\m.t=(k:Int):=Qv4 hk t
def Qny{α:Type}{p:α->Bool}:∀{l:List α} {i:Int},(∀x∈l,p x=false)->fstI p l i=-1
 |[],_,_=>rfl
 |x::r,i,h=>by unfold fstI;rw[h x (by simp)];simpa using Qny (l:=r) (i:=i+1) λy hy=>h y (by simp[hy])
def Qqr{α:Type}{p:α->Bool}:∀{l:List α} {i:Int} {k:Nat} {x:α},l.countP p<=1->l[k]?=some x->p x=true->fstI p l i=i+k
 |[],_,_,_,_,h,_=>by simp at h
 |y::r,i,0,x,hc,h,hp=>by simp at h;subst h;unfold fstI;simp[hp]
 |y::r,i,k+1,x,hc,h,hp=>by
  simp at h;have h1:0<r.countP p:=Q36.2 ⟨x,Q2p h,hp⟩;rw[Q6b]at hc;have hy:p y=false:=by
   cases hpy:p y with
   |false=>rfl
   |true=>rw[hpy,if_pos rfl]at hc;omega
  rw[hy]at hc;unfold fstI;rw[hy];have:=Qqr (i:=i+1) (p:=p) (by simpa using hc) h hp;simp only[Q2c,if_false];rw[this];omega
def Qju{α:Type}{p:α->Bool}:∀{l:List α} {i:Int},fstI p l i=-1\/∃(k:Nat)(x:α),fstI p l i=i+k/\l[k]?=some x/\p x=true
 |[],_=>.inl rfl
 |y::r,i=>by
  unfold fstI;cases hp:p y with
  |true=>exact .inr ⟨0,y,by simp,rfl,hp⟩
  |false=>
   rcases Qju (p:=p) (l:=r) (i:=i+1)with h|⟨k,x,h1,h2,h3⟩
   .exact .inl (by simpa using h)
   .refine .inr ⟨k+1,x,?_,by simpa using h2,h3⟩;simp only[Q2c,if_false];rw[h1];omega
def Qmu{t:Int}:∀{l:List Mn},((∀m∈l,m.a≠t)/\fdM t l=-1)\/∃m∈l,m.a=t/\fdM t l=m.t
 |[]=>.inl ⟨by simp,rfl⟩
 |m::r=>by
  unfold fdM;by_cases h:m.a=t
  .exact .inr ⟨m,by simp,h,by rw[if_pos h]⟩
  .rw[if_neg h];rcases Qmu (t:=t) (l:=r)with⟨h1,h2⟩|⟨x,h1,h2,h3⟩
   .refine .inl ⟨λx hx=>?_,h2⟩;rcases Q2v.1 hx with rfl|hx
    .exact h
    .exact h1 x hx
   .exact .inr ⟨x,by simp[h1],h2,h3⟩
def Qvq{α:Type}{p:α->Bool}{l:List α}(hc:l.countP p<=1){x y:α}(hx:x∈l)(hy:y∈l)(px:p x=true)(py:p y=true):x=y:=by obtain⟨i,hi⟩:=Q4r hx;obtain⟨j,hj⟩:=Q4r hy;have:=Qn6 hc hi hj px py;subst this;rw[hi]at hj;cases hj;rfl
def GdX.mapAt{u:Un}(h:GdX u){k:Nat}(hk:k<u.sm.bs.length){t:Int}(ht:t∈Yv u.sm k):mapAt u.sm t=k:=by
 have ho:=h.once t;unfold Zam.mapAt;rcases(Qht hk).1 ht with⟨b,hb,hba⟩|⟨m,hm,hma,hmt⟩
 .have hc:u.sm.bs.countP (bdAt t)<=1:=by have:u.sm.bs.countP (bdAt t)=evB u.sm.bs t:=rfl;omega
  have:=Qqr (i:=0) hc hb (by simp[bdAt,hba]);rw[this];rw[if_neg (by omega)];omega
 .have h1:0<evM u.sm.ms t:=Q36.2 ⟨m,hm,by simp[hma]⟩;have h2:evB u.sm.bs t=0:=by omega
  have h3:fstI (bdAt t) u.sm.bs 0=-1:=Qny λb hb=>by
   cases hp:bdAt t b with
   |false=>rfl
   |true=>have:0<evB u.sm.bs t:=Q36.2 ⟨b,hb,hp⟩;omega
  rw[if_pos h3];rcases Qmu (t:=t) (l:=u.sm.ms)with⟨g,-⟩|⟨x,g1,g2,g3⟩
  .exact absurd hma (g m hm)
  .have:=Qvq (p:=λm:Mn=>decide (m.a=t)) (by show evM u.sm.ms t<=1;omega) hm g1 (by simp[hma]) (by simp[g2]);rw[g3,<-this,hmt]
def GdX.mapAt_none{u:Un}(h:GdX u){t:Int}(ht:∀k,k<u.sm.bs.length->t∉Yv u.sm k):Zam.mapAt u.sm t<0:=by
 unfold Zam.mapAt;rcases Qju (p:=bdAt t) (l:=u.sm.bs) (i:=0)with h1|⟨k,b,h1,h2,h3⟩
 .rw[if_pos h1];rcases Qmu (t:=t) (l:=u.sm.ms)with⟨-,g⟩|⟨m,g1,g2,g3⟩
  .omega
  .rcases h.mt m g1 with g|⟨g4,g5⟩
   .omega
   .refine absurd ?_ (ht m.t.toNat (by omega));exact(Qht (by omega)).2 (.inr ⟨m,g1,g2,by omega⟩)
 .refine absurd ?_ (ht k (Q11.1 h2).1);exact(Qht (Q11.1 h2).1).2 (.inl ⟨b,h2,by simpa[bdAt]using h3⟩)
def GdX.mapAt_some{u:Un}(h:GdX u){t:Int}(hn:0<=Zam.mapAt u.sm t):∃k:Nat,k<u.sm.bs.length/\Zam.mapAt u.sm t=k/\t∈Yv u.sm k:=by
 by_cases hx:∃k,k<u.sm.bs.length/\t∈Yv u.sm k
 .obtain⟨k,h1,h2⟩:=hx;exact⟨k,h1,h.mapAt h1 h2,h2⟩
 .have:=h.mapAt_none (t:=t) λk hk ht=>hx ⟨k,hk,ht⟩;omega
end
section
open Go.Proofs
def cSp(x y:Bs×Int):Int:=if Q7 x.1 y.1=0 then Vx x.2 y.2 else Q7 x.1 y.1
def Qar:Cmp cSp:=(Qa7.on Prod.fst).lex (Qm0.on Prod.snd)
def Qrd{a b:Int}:Vx a b=0↔a=b:=by
 unfold Vx;constructor
 .intro h;split at h
  .omega
  .split at h<;>omega
 .rintro rfl;simp
def Qre{x y:Bs×Int}(h:cSp x y=0):x=y:=by
 unfold cSp at h;split at h
 .rename_i h1;exact Prod.ext (Vt.1 h1) (Qrd.1 h)
 .rename_i h1;exact absurd h h1
def leSp(x y:Bs×Int):Bool:= !decide (cSp y x<0)
def Qhw{x y:Bs×Int}:leSp x y=true↔cSp x y<=0:=by unfold leSp;rw[<-Qar.not_lt];simp
def Qj7{A B:List (Bs×Int)}(hp:A.Perm B)(hB:B.Pairwise λx y=>cSp x y<=0):A.mergeSort leSp=B:=by
 have h1:(A.mergeSort leSp).Pairwise λx y=>leSp x y=true:=List.pairwise_mergeSort (λa b c h1 h2=>by
  rw[Qhw]at*;exact Qar.trans _ _ _ h1 h2) (λa b=>by
  rcases Qar.le_total a b with h|h
  .rw[Qhw.2 h];rfl
  .rw[Qhw.2 h,Bool.or_true]) A
 refine List.Perm.eq_of_pairwise (le:=λx y=>cSp x y<=0) (λa b _ _ h2 h3=>Qre (Qar.le_antisymm h2 h3)) (h1.imp λh=>Qhw.1 h) hB ((List.mergeSort_perm A leSp).trans hp)
def Qp9{α:Type}{R:α->α->Prop}:∀{l:List α},(∀x∈l,∀y∈l,R x y)->l.Pairwise R
 |[],_=>.nil
 |x::r,h=>Q4b.2 ⟨λy hy=>h x (by simp) y (by simp[hy]),Qp9 λa ha b hb=>h a (by simp[ha]) b (by simp[hb])⟩
def Qhu{S:List Un}{u:Un}{s x:Bs×Int}{k t:Nat}(h:x∈plT S u s k t):∃y,u.tk[t]?=some y/\x=(u.n,(y.a:Int)):=by
 unfold plT at h;obtain⟨j,-,hj⟩:=Q5j.1 h;unfold plB at hj;split at hj
 .rename_i b y h1 h2;split at hj
  .exact⟨y,h2,by simpa using hj⟩
  .simp at hj
 .simp at hj
def Qw3{S:List Un}{s:Bs×Int}{u:Un}(hx:GdX u):(plU S s u).Pairwise λx y=>cSp x y<=0:=by
 unfold plU plV;rw[List.pairwise_flatMap];refine⟨λt _=>Qp9 λx h1 y h2=>?_,List.pairwise_lt_range.imp λ{a b} hab x h1 y h2=>?_⟩
 .obtain⟨z,g1,rfl⟩:=Qhu h1;obtain⟨w,g2,rfl⟩:=Qhu h2;rw[g1]at g2;cases g2
  rw[Qar.refl];omega
 .obtain⟨z,g1,rfl⟩:=Qhu h1;obtain⟨w,g2,rfl⟩:=Qhu h2;obtain⟨i1,e1⟩:=Q11.1 g1;obtain⟨i2,e2⟩:=Q11.1 g2;have:=Q5y.1 hx.rise a b i1 i2 hab;rw[e1,e2]at this;have e:Q7 u.n u.n=0:=Qa7.refl _;unfold cSp;simp only[e,if_true];unfold Vx;rw[if_pos (by omega)];omega
def Qr5{S T:List Un}{s:Bs×Int}(hS:T.Pairwise λu v=>cU u v<0)(hx:∀u∈T,GdX u):(T.flatMap (plU S s)).Pairwise λx y=>cSp x y<=0:=by
 rw[List.pairwise_flatMap];refine⟨λu hu=>Qw3 (hx u hu),hS.imp λ{u v} huv x h1 y h2=>?_⟩;have g:∀{u:Un} {x:Bs×Int},x∈plU S s u->x.1=u.n:=λ{u x} h=>by unfold plU plV at h;obtain⟨t,-,ht⟩:=Q5j.1 h;obtain⟨y,-,rfl⟩:=Qhu ht;rfl
 have huv:Q7 u.n v.n<0:=huv;unfold cSp;rw[g h1,g h2,if_neg (by omega)];omega
def Qdw{α β:Type}(f g:α->List β):∀l:List α,(l.flatMap λx=>f x++g x).Perm (l.flatMap f++l.flatMap g)
 |[]=>by simp
 |x::r=>by have ih:=Qdw f g r;simp only[Q37,Q2g];refine List.Perm.append_left _ ?_;refine(List.Perm.append_left _ ih).trans ?_;exact List.perm_append_comm_assoc _ _ _
def Qha{α β:Type}{g:α->List β}{p:α->Bool}{f:α->β}:∀{l:List α},(∀t∈l,g t=if p t=true then[f t]else[])->l.flatMap g=(l.filter p).map f
 |[],_=>rfl
 |x::r,h=>by rw[Q37,Qha λt ht=>h t (by simp[ht]),h x (by simp)];cases hp:p x<;>simp[hp]
def GdX.nodup{u:Un}(hx:GdX u){j:Nat}(hj:j<u.sm.bs.length):(Yv u.sm j).Nodup:=by
 rw[List.nodup_iff_count];intro t;rw[Qsx _ _ hj];have h1:=hx.once t;have h2:(u.sm.ms.countP λm=>decide (m.t=(j:Int))&&decide (m.a=t))<=evM u.sm.ms t:=List.countP_mono_left λm _=>by simp
 have h3:(if(bAt u.sm.bs j).a=t then 1 else 0)<=evB u.sm.bs t:=by
  split
  .rename_i h;refine Q36.2 ⟨bAt u.sm.bs j,?_,by simp[h]⟩;unfold bAt;rw[Q31,Q3a,Q12 hj];exact Q20 hj
  .omega
 omega
def Qtw{u:Un}{j:Nat}{b:SBd}(hb:u.sm.bs[j]?=some b)(t:Int):hitK b u.sm.ms t j=true↔t∈Yv u.sm j:=by rw[Qht (Q11.1 hb).1];unfold hitK hitM;simp only[Q35,decide_eq_true_eq,Q5l];refine or_congr ⟨λh=>⟨b,hb,h⟩,?_⟩ Q3m;rintro⟨c,hc,h⟩;rw[hb]at hc;cases hc;exact h
def Qwy{S:List Un}{s:Bs×Int}{u:Un}(hx:GdX u){j:Nat}{b:SBd}(hb:u.sm.bs[j]?=some b):(qlB S s u j b).Perm ((List.range u.tk.length).flatMap λt=>plB S u s t j):=by
 have hj:=(Q11.1 hb).1;unfold qlB;by_cases ho:ofSy S u b=s
 .rw[if_pos ho];have h1:((List.range u.tk.length).flatMap λt=>plB S u s t j)=((List.range u.tk.length).filter λt:Nat=>hitK b u.sm.ms t j).map λt:Nat=>(u.n,atT u t):=Qha λt ht=>by
   have htl:=Q3y.1 ht;unfold plB;rw[hb,Q12 htl];simp only[ho,true_and];have:atT u (t:Int)=(u.tk[t].a:Int):=by unfold atT;simp[htl]
   rw[this]
  have h2:(((List.range u.tk.length).filter λt:Nat=>hitK b u.sm.ms t j).map λt:Nat=>(u.n,atT u t))=(((List.range u.tk.length).filter λt:Nat=>hitK b u.sm.ms t j).map λt:Nat=>(t:Int)).map λt=>(u.n,atT u t):=by rw[Q5c];rfl
  rw[h1,h2];refine List.Perm.map _ ((Qmd _).trans ?_);refine(List.perm_ext_iff_of_nodup (hx.nodup hj) ?_).2 λt=>?_
  .unfold List.Nodup;rw[Q6r];exact(List.Pairwise.filter _ (List.pairwise_lt_range)).imp λh e=>by omega
  .rw[Q3c];constructor
   .intro ht;obtain⟨g1,g2⟩:=hx.uin j hj t ht;refine⟨t.toNat,Q3l.2 ⟨Q3y.2 g2,?_⟩,by omega⟩;rw[show((t.toNat:Nat):Int)=t by omega];exact(Qtw hb t).2 ht
   .rintro⟨k,hk,rfl⟩;exact(Qtw hb _).1 (Q3l.1 hk).2
 .rw[if_neg ho];have h1:((List.range u.tk.length).flatMap λt=>plB S u s t j)=[]:=by rw[List.flatMap_eq_nil_iff];intro t ht;unfold plB;rw[hb,Q12 (Q3y.1 ht)];simp[ho]
  rw[h1]
def Qp4{S:List Un}{s:Bs×Int}{u:Un}(hx:GdX u):∀j,j<=u.sm.bs.length->(qlK S s u j).Perm ((List.range u.tk.length).flatMap λt=>plT S u s j t)
 |0,_=>by
  have:((List.range u.tk.length).flatMap λt=>plT S u s 0 t)=[]:=by rw[List.flatMap_eq_nil_iff];intro t _;rfl
  rw[this];exact List.Perm.refl _
 |j+1,h=>by have ih:=Qp4 (S:=S) (s:=s) hx j (by omega);have hb:=Q12 (show j<u.sm.bs.length by omega);rw[Qlz hb];simp only[Qw4];exact(ih.append (Qwy hx hb)).trans (Qdw _ _ _).symm
def Qw2{S:List Un}(hS:S.Pairwise λu v=>cU u v<0)(hx:∀u∈S,GdX u)(s:Bs×Int):(qlS S s S).mergeSort leSp=Qj8 S s:=by
 refine Qj7 ?_ (Qr5 hS hx);have:∀T:List Un,(∀u∈T,GdX u)->(qlS S s T).Perm (T.flatMap (plU S s)):=by
  intro T;induction T with
  |nil=>intro _;exact List.Perm.refl _
  |cons u r ih=>intro h;unfold qlS;simp only[Q37];exact(Qp4 (h u (by simp)) _ (Q14 _)).append (ih λv hv=>h v (by simp[hv]))
 exact this S hx
end
end Go.Zam
namespace Go.Proofs
open Go.Shelf
def Tryz.lays189_ren:Go.Shelf.Ren:=⟨λ|189=>55|125=>58|257=>75|128=>84|129=>85|294=>108|295=>109|296=>110|297=>111|298=>112|299=>113|216=>114|300=>115|301=>116|328=>155|329=>118|330=>119|331=>156|332=>157|215=>59|343=>177|n=>n,λ|28=>93|3=>3|46=>121|0=>0|51=>162|53=>164|4=>4|183=>156|182=>155|131=>95|5=>5|9=>9|218=>204|222=>208|228=>238|229=>239|n=>n,λ|n=>n⟩
def Tryz.lays189:Go.Proofs.Lays.n189 Tryz.prog Tryz.lays189_ren:={
 mixed:=by kernel_rfl
 f125:=Tryz.func58.trans (congrArg some (by kernel_rfl))
 f128:=Tryz.func84.trans (congrArg some (by kernel_rfl))
 f129:=Tryz.func85.trans (congrArg some (by kernel_rfl))
 f189:=Tryz.func55.trans (congrArg some (by kernel_rfl))
 f215:=Tryz.func59.trans (congrArg some (by kernel_rfl))
 f216:=Tryz.func114.trans (congrArg some (by kernel_rfl))
 f257:=Tryz.func75.trans (congrArg some (by kernel_rfl))
 f294:=Tryz.func108.trans (congrArg some (by kernel_rfl))
 f295:=Tryz.func109.trans (congrArg some (by kernel_rfl))
 f296:=Tryz.func110.trans (congrArg some (by kernel_rfl))
 f297:=Tryz.func111.trans (congrArg some (by kernel_rfl))
 f298:=Tryz.func112.trans (congrArg some (by kernel_rfl))
 f299:=Tryz.func113.trans (congrArg some (by kernel_rfl))
 f300:=Tryz.func115.trans (congrArg some (by kernel_rfl))
 f301:=Tryz.func116.trans (congrArg some (by kernel_rfl))
 f328:=Tryz.func155.trans (congrArg some (by kernel_rfl))
 f329:=Tryz.func118.trans (congrArg some (by kernel_rfl))
 f330:=Tryz.func119.trans (congrArg some (by kernel_rfl))
 f331:=Tryz.func156.trans (congrArg some (by kernel_rfl))
 f332:=Tryz.func157.trans (congrArg some (by kernel_rfl))
 f343:=Tryz.func177.trans (congrArg some (by kernel_rfl))
 t0:=Tryz.underlying0
 a0:=Tryz.isAgg0
 z0:=Tryz.sizeOf0
 v0:=Tryz.zeroValue0
 t3:=Tryz.underlying3
 a3:=Tryz.isAgg3
 z3:=Tryz.sizeOf3
 v3:=Tryz.zeroValue3
 t4:=Tryz.underlying4
 a4:=Tryz.isAgg4
 z4:=Tryz.sizeOf4
 v4:=Tryz.zeroValue4
 t5:=Tryz.underlying5
 a5:=Tryz.isAgg5
 z5:=Tryz.sizeOf5
 v5:=Tryz.zeroValue5
 t9:=Tryz.underlying9
 a9:=Tryz.isAgg9
 z9:=Tryz.sizeOf9
 v9:=Tryz.zeroValue9
 t28:=Tryz.underlying93
 a28:=Tryz.isAgg93
 z28:=Tryz.sizeOf93
 v28:=Tryz.zeroValue93
 t46:=Tryz.underlying121
 a46:=Tryz.isAgg121
 z46:=Tryz.sizeOf121
 v46:=Tryz.zeroValue121
 t51:=Tryz.underlying162
 a51:=Tryz.isAgg162
 z51:=Tryz.sizeOf162
 v51:=Tryz.zeroValue162
 t53:=Tryz.underlying164
 a53:=Tryz.isAgg164
 z53:=Tryz.sizeOf164
 v53:=Tryz.zeroValue164
 t131:=Tryz.underlying95
 a131:=Tryz.isAgg95
 z131:=Tryz.sizeOf95
 v131:=Tryz.zeroValue95
 t182:=Tryz.underlying155
 a182:=Tryz.isAgg155
 z182:=Tryz.sizeOf155
 v182:=Tryz.zeroValue155
 t183:=Tryz.underlying156
 a183:=Tryz.isAgg156
 z183:=Tryz.sizeOf156
 v183:=Tryz.zeroValue156
 t218:=Tryz.underlying204
 a218:=Tryz.isAgg204
 z218:=Tryz.sizeOf204
 v218:=Tryz.zeroValue204
 t222:=Tryz.underlying208
 a222:=Tryz.isAgg208
 z222:=Tryz.sizeOf208
 v222:=Tryz.zeroValue208
 t228:=Tryz.underlying238
 a228:=Tryz.isAgg238
 z228:=Tryz.sizeOf238
 v228:=Tryz.zeroValue238
 t229:=Tryz.underlying239
 a229:=Tryz.isAgg239
 z229:=Tryz.sizeOf239
 v229:=Tryz.zeroValue239}
def Tryz.sortF_ren:Go.Shelf.Ren:=⟨λ|6=>39|15=>58|14=>57|28=>84|29=>85|20=>76|21=>77|22=>78|23=>79|24=>80|25=>81|26=>82|27=>83|46=>117|47=>118|48=>119|49=>120|50=>121|57=>158|n=>n,λ|22=>55|24=>24|25=>104|3=>3|39=>121|0=>0|53=>162|55=>164|4=>4|46=>156|45=>155|50=>95|5=>5|9=>9|66=>204|70=>208|76=>238|77=>239|n=>n,λ|n=>n⟩
def Tryz.sortF:Go.Proofs.SlLaysF0.n6 Tryz.prog Tryz.sortF_ren:={
 mixed:=by kernel_rfl
 f6:=⟨Tryz.f39.name,by decide,Tryz.func39.trans (congrArg some (by kernel_rfl))⟩
 f14:=⟨Tryz.f57.name,by decide,Tryz.func57.trans (congrArg some (by kernel_rfl))⟩
 f15:=Tryz.func58.trans (congrArg some (by kernel_rfl))
 f20:=⟨Tryz.f76.name,by decide,Tryz.func76.trans (congrArg some (by kernel_rfl))⟩
 f21:=⟨Tryz.f77.name,by decide,Tryz.func77.trans (congrArg some (by kernel_rfl))⟩
 f22:=⟨Tryz.f78.name,by decide,Tryz.func78.trans (congrArg some (by kernel_rfl))⟩
 f23:=⟨Tryz.f79.name,by decide,Tryz.func79.trans (congrArg some (by kernel_rfl))⟩
 f24:=⟨Tryz.f80.name,by decide,Tryz.func80.trans (congrArg some (by kernel_rfl))⟩
 f25:=⟨Tryz.f81.name,by decide,Tryz.func81.trans (congrArg some (by kernel_rfl))⟩
 f26:=⟨Tryz.f82.name,by decide,Tryz.func82.trans (congrArg some (by kernel_rfl))⟩
 f27:=⟨Tryz.f83.name,by decide,Tryz.func83.trans (congrArg some (by kernel_rfl))⟩
 f28:=Tryz.func84.trans (congrArg some (by kernel_rfl))
 f29:=Tryz.func85.trans (congrArg some (by kernel_rfl))
 f46:=⟨Tryz.f117.name,by decide,Tryz.func117.trans (congrArg some (by kernel_rfl))⟩
 f47:=Tryz.func118.trans (congrArg some (by kernel_rfl))
 f48:=Tryz.func119.trans (congrArg some (by kernel_rfl))
 f49:=⟨Tryz.f120.name,by decide,Tryz.func120.trans (congrArg some (by kernel_rfl))⟩
 f50:=⟨Tryz.f121.name,by decide,Tryz.func121.trans (congrArg some (by kernel_rfl))⟩
 f57:=⟨Tryz.f158.name,by decide,Tryz.func158.trans (congrArg some (by kernel_rfl))⟩
 t0:=Tryz.underlying0
 a0:=Tryz.isAgg0
 z0:=Tryz.sizeOf0
 v0:=Tryz.zeroValue0
 t3:=Tryz.underlying3
 a3:=Tryz.isAgg3
 z3:=Tryz.sizeOf3
 v3:=Tryz.zeroValue3
 t4:=Tryz.underlying4
 a4:=Tryz.isAgg4
 z4:=Tryz.sizeOf4
 v4:=Tryz.zeroValue4
 t5:=Tryz.underlying5
 a5:=Tryz.isAgg5
 z5:=Tryz.sizeOf5
 v5:=Tryz.zeroValue5
 t9:=Tryz.underlying9
 a9:=Tryz.isAgg9
 z9:=Tryz.sizeOf9
 v9:=Tryz.zeroValue9
 t22:=Tryz.underlying55
 a22:=Tryz.isAgg55
 z22:=Tryz.sizeOf55
 v22:=Tryz.zeroValue55
 t25:=Tryz.underlying104
 a25:=Tryz.isAgg104
 z25:=Tryz.sizeOf104
 v25:=Tryz.zeroValue104
 t39:=Tryz.underlying121
 a39:=Tryz.isAgg121
 z39:=Tryz.sizeOf121
 v39:=Tryz.zeroValue121
 t45:=Tryz.underlying155
 a45:=Tryz.isAgg155
 z45:=Tryz.sizeOf155
 v45:=Tryz.zeroValue155
 t46:=Tryz.underlying156
 a46:=Tryz.isAgg156
 z46:=Tryz.sizeOf156
 v46:=Tryz.zeroValue156
 t50:=Tryz.underlying95
 a50:=Tryz.isAgg95
 z50:=Tryz.sizeOf95
 v50:=Tryz.zeroValue95
 t53:=Tryz.underlying162
 a53:=Tryz.isAgg162
 z53:=Tryz.sizeOf162
 v53:=Tryz.zeroValue162
 t55:=Tryz.underlying164
 a55:=Tryz.isAgg164
 z55:=Tryz.sizeOf164
 v55:=Tryz.zeroValue164
 t66:=Tryz.underlying204
 a66:=Tryz.isAgg204
 z66:=Tryz.sizeOf204
 v66:=Tryz.zeroValue204
 t70:=Tryz.underlying208
 a70:=Tryz.isAgg208
 z70:=Tryz.sizeOf208
 v70:=Tryz.zeroValue208
 t76:=Tryz.underlying238
 a76:=Tryz.isAgg238
 z76:=Tryz.sizeOf238
 v76:=Tryz.zeroValue238
 t77:=Tryz.underlying239
 a77:=Tryz.isAgg239
 z77:=Tryz.sizeOf239
 v77:=Tryz.zeroValue239}
namespace Zw
open Go Go.Zam Go.Proofs Go.RowKit Go.Lib Go.Sort
def nanS(a:ByteArray)(w:World):Calls Tryz.prog 56 #[.string a] w λe w'=>e=.returned (.bool false)/\w'=w:=by go_enter Tryz.func56,Tryz.ntmps56;go_wp2;go_ret;exact⟨by simp,rfl⟩
def nanI(a:Int)(w:World):Calls Tryz.prog 59 #[.int .i64 a] w λe w'=>e=.returned (.bool false)/\w'=w:=by go_enter Tryz.func59,Tryz.ntmps59;go_wp2;go_ret;exact⟨by simp,rfl⟩
def gtS(a b:List UInt8)(w:World):(binOp .gtr 9 (.string ⟨a.toArray⟩) (.string ⟨b.toArray⟩)).run Tryz.prog w=.ok (.bool (!(Op.bytesLess a b||decide (a=b)))) w:=by have h:(binOp .gtr 9 (.string ⟨a.toArray⟩) (.string ⟨b.toArray⟩)).run Tryz.prog w=.ok (.bool (!(Op.bytesLess (ByteArray.toList ⟨a.toArray⟩) (ByteArray.toList ⟨b.toArray⟩)||(ByteArray.toList ⟨a.toArray⟩==ByteArray.toList ⟨b.toArray⟩)))) w:=rfl;rw[h,Qdx,Y9,Y9]
def compS(a b:List UInt8)(w:World):Calls Tryz.prog 38 #[.string ⟨a.toArray⟩,.string ⟨b.toArray⟩] w λe w'=>e=.returned (.int .i64 (Q7 a b))/\w'=w:=by
 have hn:=nanS;go_enter Tryz.func38,Tryz.ntmps38;go_wp2_with (go_at_call 56;refine(hn _ _).mono ?_;rintro e w' ⟨rfl,rfl⟩)
 .go_ret
  refine⟨?_,rfl⟩;have hb:Op.bytesLess a b=true:=by assumption
  unfold Q7;rw[hb];rfl
 .rw[gtS]
  go_wp2;all_goals (go_ret;refine⟨?_,rfl⟩;unfold Q7;simp_all)
def compI(a b:Int)(w:World):Calls Tryz.prog 42 #[.int .i64 a,.int .i64 b] w λe w'=>e=.returned (.int .i64 (Vx a b))/\w'=w:=by have hn:=nanI;go_enter Tryz.func42,Tryz.ntmps42;go_wp2_with (go_at_call 59;refine(hn _ _).mono ?_;rintro e w' ⟨rfl,rfl⟩);all_goals (go_ret;refine⟨?_,rfl⟩;unfold Vx;(repeat' split)<;>first|rfl|(exfalso;omega))
def or2(b:Nat)(x y r:Int)(w:World)(hr0:x=0->r=y)(hr1:x≠0->r=x)(h0:w.cell? ⟨b,0,none⟩=some (.int .i64 x))(h1:w.cell? ⟨b,1,none⟩=some (.int .i64 y)):Calls Tryz.prog 41 #[.slice (some ⟨b,0,none⟩) 2 2] w λe w'=>e=.returned (.int .i64 r)/\w'=w:=by
 go_enter Tryz.func41,Tryz.ntmps41
 go_wp2
 go_loopw [8] (λi wr=>∃k:Nat,k<=2/\i=.int .i64 k/\wr=w/\(1<=k->x=0)/\(2<=k->y=0)) (λi _=>2-(intOf i).toNat)
 case atStart=>exact⟨0,by omega,rfl,rfl,by omega,by omega⟩
 case round=>
  obtain⟨k,hk,rfl,rfl,hx,hy⟩:=hrel;rcases(show k=0\/k=1\/k=2 from by omega)with rfl|rfl|rfl
  .go_wp2
   .have hb:(x != 0)=true:=by assumption
    have hb:x≠0:=by simpa using hb
    go_ret
    exact⟨by rw[hr1 hb];rfl,rfl⟩
   .have hb:(x != 0)=false:=by assumption
    have hb:x=0:=by simpa using hb
    exact⟨⟨1,by omega,rfl,trivial,λ_=>hb,by omega⟩,by simp[intOf]⟩
  .have hx:=hx (by omega)
   go_wp2
   .go_ret
    exact⟨by rw[hr0 hx];rfl,rfl⟩
   .have hb:(y != 0)=false:=by assumption
    have hb:y=0:=by simpa using hb
    exact⟨⟨2,by omega,rfl,trivial,λ_=>hx,λ_=>hb⟩,by simp[intOf]⟩
  .have hx:=hx (by omega);have hy:=hy (by omega)
   go_wp2
   go_ret
   exact⟨by rw[hr0 hx,hy];rfl,rfl⟩
def Qpb(W:World)(o:Array Value)(t:TypeId)(i:Nat):(W.alloc (.cells o t)).cell? ⟨W.heap.size,i,none⟩=o[i]?:=by unfold World.cell?;simp only[World.alloc_heap_new];simp
def Qz5(W:World)(o p:Array Value)(t u:TypeId)(i:Nat):((W.alloc (.cells o t)).alloc (.cells p u)).drew.cell? ⟨W.heap.size,i,none⟩=o[i]?:=by have h:Below (W.heap.size+1) (W.alloc (.cells o t)) ((W.alloc (.cells o t)).alloc (.cells p u)):=(Below.refl _ _).alloc (by simp) _;exact(h.cell (p:=⟨W.heap.size,i,none⟩) (by show W.heap.size<_;omega)).trans (Qpb W o t i)
def Qz4(W:World)(o p:Array Value)(t u:TypeId)(i:Nat):((W.alloc (.cells o t)).alloc (.cells p u)).drew.cell? ⟨W.heap.size+1,i,none⟩=p[i]?:=by have h:=Qpb (W.alloc (.cells o t)) p u i;simpa using h
def Qxy(x y:Bs×Int)(W:World):Calls Tryz.prog 40 #[.agg #[.string ⟨x.1.toArray⟩,.int .i64 x.2],.agg #[.string ⟨y.1.toArray⟩,.int .i64 y.2]] W λe w'=>e=.returned (.int .i64 (cSp x y))/\∃q os',w'=grow (W.drewN q) os':=by
 have hS:=compS x.1 y.1;have hI:=compI x.2 y.2;have hO:=λb W' c0 c1=>or2 b (Q7 x.1 y.1) (Vx x.2 y.2) (cSp x y) W' (λh=>by unfold cSp;rw[if_pos h]) (λh=>by unfold cSp;rw[if_neg h]) c0 c1;generalize cSp x y=r at hO⊢;generalize Q7 x.1 y.1=a at hS hO;generalize Vx x.2 y.2=b at hI hO;go_enter Tryz.func40,Tryz.ntmps40;go_wp2;obtain⟨W2,hW2⟩:∃W2,(W.alloc (.cells #[.string ⟨x.1.toArray⟩,.int .i64 x.2] 24)).alloc (.cells #[.string ⟨y.1.toArray⟩,.int .i64 y.2] 24)=W2:=⟨_,rfl⟩;have c0:W2.drew.cell? ⟨W.heap.size,0,none⟩=some (.string ⟨x.1.toArray⟩):=by rw[<-hW2,Qz5];rfl
 have c1:W2.drew.cell? ⟨W.heap.size,1,none⟩=some (.int .i64 x.2):=by rw[<-hW2,Qz5];rfl
 have c2:W2.drew.cell? ⟨W.heap.size+1,0,none⟩=some (.string ⟨y.1.toArray⟩):=by rw[<-hW2,Qz4];rfl
 have c3:W2.drew.cell? ⟨W.heap.size+1,1,none⟩=some (.int .i64 y.2):=by rw[<-hW2,Qz4];rfl
 have hg:∃os,W2.drew=grow (W.drewN 1) os:=⟨#[.cells #[.string ⟨x.1.toArray⟩,.int .i64 x.2] 24,.cells #[.string ⟨y.1.toArray⟩,.int .i64 y.2] 24],by rw[<-hW2,alloc_eq_grow,alloc_eq_grow,grow_grow];rfl⟩;rw[hW2];clear hW2;refine wp_region_still_tail 10 (by kernel_rfl) (by kernel_rfl) ?_;simp only[List.take_succ_cons,Q38,Q4v,Q4z];still_step;still_step;still_step;still_step;still_call (hS _);still_step;still_step;still_step;still_step;still_call (hI _);refine wpStill_nil ?_;change wpList _ _ _ _ _ W2.drew;generalize W2.drew=W3 at hg⊢;go_wp2_with (go_at_call 41;refine(hO _ _ (Qpb _ _ _ 0) (Qpb _ _ _ 1)).mono ?_;rintro e w' ⟨rfl,rfl⟩);go_ret;obtain⟨os,hg⟩:=hg;exact⟨rfl,1,_,by rw[hg,alloc_eq_grow,grow_grow]⟩
def swoSp:SWO (ltOf cSp) where
 irrefl x:=by unfold ltOf;rw[Qar.refl];rfl
 trans x y z h1 h2:=by unfold ltOf at*;simp only[decide_eq_true_eq]at*;exact Qar.lt_le h1 (by omega)
 ntrans x y z h1 h2:=by unfold ltOf at*;simp only[decide_eq_false_iff_not]at*;rw[Qar.not_lt]at*;exact Qar.trans _ _ _ h2 h1
def totSp(x y:Bs×Int)(h1:ltOf cSp x y=false)(h2:ltOf cSp y x=false):x=y:=by unfold ltOf at*;simp only[decide_eq_false_iff_not]at*;rw[Qar.not_lt]at*;exact Qre (Qar.le_antisymm h2 h1)
def Qut:Qph Tryz.prog 55:=λblk off cap ss w hH hblk hsz=>Any.slices_Sort_int Tryz.lays189 blk off cap ss w hH hblk hsz
def Qpv:Qm6 Tryz.prog 39 40 leSp:=λblk off cap ss w hH hblk hsz=>by have eg:∀args w,(callFunc 40 args).run Tryz.prog w=.ok (.enter 40 args) w:=enters_of Tryz.func40 (by kernel_rfl) rfl;have h:=AnyQ.slices_SortFunc_total Tryz.sortF 2 Tryz.isAgg24 Tryz.sizeOf24 spV (λ_=>rfl) Qwf cSp swoSp 40 #[] blk off cap ss.toArray w eg (λ_ _ _ _ x y=>Qxy x y _) hH hblk hsz totSp;exact h
def Qnk:Qi0 Tryz.prog 39 40:=λa cap w=>AnyF.slices_SortFunc_none Tryz.sortF a cap _ w
end Zw
end Go.Proofs
namespace Go.Zam
variable{P:Program}
section
open Go.Proofs
end
section
open Go.Proofs
def Has.ixTokAtR{f:Nat}(h:Has P f Qg5)(L:List Tk)(z:Bool)(a:Int)(ha:a<=9223372036854775807)(hl:L.length<=1099511627776)(hb:∀t∈L,(t.a:Int)+t.x.length<=1099511627776)(H:Hp):
 Qc P f [YL z 4 (L.map Qp),YI a] H (λr H'=>r=YI (tkAt L a)/\H'=H):=by
 refine Qe h (by simp[Qg5]) λO _=>?_;simp[Qg5];refine Qm 0 (λfr H'=>fr 0=YL z 4 (L.map Qp)/\fr 1=YI a/\fstI (tkIn a) L 0=-1/\H'=H) (λfr H'=>fr 4=YI (tkAt L a)/\∃X,H'=H++X) ?_ ?_ ?_
 .refine Vl H.length L.length (λj fr H'=>fr 0=YL z 4 (L.map Qp)/\fr 1=YI a/\fstI (tkIn a) L 0=fstI (tkIn a) (L.drop j) j/\H'=H) (by omega) (by decide) (by simp) (by simp) ?_ ?_
  .simp[Qb O]
  rintro j fr H' hj fi ⟨f0,f1,hd,rfl⟩;simp[fi,f0];refine Qh (λh=>?_) (λh=>?_)
  .have hj:j<L.length:=by simpa using h
   obtain⟨t,ht⟩:∃t,L[j]?=some t:=⟨_,Q12 hj⟩;have hdr:L.drop j=t::L.drop (j+1):=by rw[Q2o hj];congr 1;rw[Q12 hj]at ht;cases ht;rfl
   rw[hdr]at hd;simp only[fstI]at hd;have hr:Zam.rowAt (L.map Qp) (j:Int)=some [.int .i64 t.k,.int .i64 (t.a:Int),.str t.l,.str t.x]:=by simp[Zam.rowAt,ht,Qp]
   have hbt:=hb t (Q2p ht);have hw:IntKind.i64.wrap ((t.a:Int)+t.x.length)=t.a+t.x.length:=wi64 (by omega);by_cases hp:tkIn a t=true
   .rw[if_pos hp]at hd;have hat:tkAt L a=j:=by unfold tkAt;rw[hd,if_neg (by omega)]
    unfold tkIn at hp;simp at hp;obtain⟨p1,p2,p3⟩:=hp;have hw2:IntKind.i64.wrap (a-t.a)=a-t.a:=wi64 (by omega);have p3':a-(t.a:Int)<t.x.length:=by omega
    simp[fi,f0,hr,f1,p1,p2,p3',hw2,hat]
   .rw[if_neg hp]at hd;unfold tkIn at hp;by_cases p1:t.k=0
    .simp[fi,f0,hr,f1,p1];refine Wp H'.length (Q14 _) hj (by simp[fi]) ?_;simp[f0,f1,Qb O,hd]
    .by_cases p2:(t.a:Int)<=a
     .have p3:¬a<t.a+t.x.length:=λp3=>hp (by simp[p1,p2,p3]);have hw2:IntKind.i64.wrap (a-t.a)=a-t.a:=wi64 (by omega);have p3':¬a-(t.a:Int)<t.x.length:=by omega
      simp[fi,f0,hr,f1,p1,p2,p3',hw2];refine Wp H'.length (Q14 _) hj (by simp[fi]) ?_;simp[f0,f1,Qb O,hd]
     .simp[fi,f0,hr,f1,p1,p2];refine Wp H'.length (Q14 _) hj (by simp[fi]) ?_;simp[f0,f1,Qb O,hd]
  .have hia:L.length<=j:=by simpa using h
   rw[Q22 hia]at hd;simp[f0,f1];exact hd
 .rintro fr H' ⟨f4,X,rfl⟩;simp[f4];simp[RetK,Qd O]
 .rintro fr H' ⟨f0,f1,h1,rfl⟩;have hat:tkAt L a=fstI (Qbf a) L 0:=by unfold tkAt;rw[if_pos h1]
  rw[hat];simp[f0];refine Qm 2 (λfr H2=>fstI (Qbf a) L 0=-1/\H2=H') (λfr H2=>fr 4=YI (fstI (Qbf a) L 0)/\∃X,H2=H'++X) ?_ ?_ ?_
  .refine Vl H'.length L.length (λj fr H2=>fr 1=YI a/\fr 0=YL z 4 (L.map Qp)/\fstI (Qbf a) L 0=fstI (Qbf a) (L.drop j) j/\H2=H') (by omega) (by decide) (by simp) (by simp) ?_ ?_
   .simp[f0,f1,Qb O]
   rintro j fr H2 hj fi ⟨f1,f0,hd,rfl⟩;simp[fi,f0];refine Qh (λh=>?_) (λh=>?_)
   .have hj:j<L.length:=by simpa using h
    obtain⟨t,ht⟩:∃t,L[j]?=some t:=⟨_,Q12 hj⟩;have hdr:L.drop j=t::L.drop (j+1):=by rw[Q2o hj];congr 1;rw[Q12 hj]at ht;cases ht;rfl
    rw[hdr]at hd;simp only[fstI]at hd;have hr:Zam.rowAt (L.map Qp) (j:Int)=some [.int .i64 t.k,.int .i64 (t.a:Int),.str t.l,.str t.x]:=by simp[Zam.rowAt,ht,Qp]
    have hbt:=hb t (Q2p ht);have hw:IntKind.i64.wrap ((t.a:Int)+t.x.length)=t.a+t.x.length:=wi64 (by omega);by_cases p1:t.k=1
    .by_cases p2:a=t.a+t.x.length
     .rw[if_pos (by unfold Qbf;simp[p1,p2])]at hd;rw[hd];simp[fi,f0,hr,f1,p1,hw];refine Qh (λh=>?_) (λh=>absurd p2 (by simp at h;exactλe=>h e.symm));simp[fi]
     .rw[if_neg (by unfold Qbf;simp[p2])]at hd;have p2b:¬(t.a:Int)+t.x.length=a:=λe=>p2 e.symm;simp[fi,f0,hr,f1,p1,hw,p2b];refine Wp H2.length (Q14 _) hj (by simp[fi]) ?_;simp[f1,f0,Qb O,hd]
    .rw[if_neg (by unfold Qbf;simp[p1])]at hd;simp[fi,f0,hr,f1,p1];refine Wp H2.length (Q14 _) hj (by simp[fi]) ?_;simp[f1,f0,Qb O,hd]
   .have hia:L.length<=j:=by simpa using h
    rw[Q22 hia]at hd;simp;exact hd
  .rintro fr H2 ⟨f4,X,rfl⟩;simp[f4];simp[RetK,Qd O]
  .rintro fr H2 ⟨h2,rfl⟩;simp[h2];simp[RetK,Qb O,h2]
end
section
open Go.Proofs
def Un.encR_full(u:Un):∃z,u.encR=[.str u.n,.str u.t,.sl true 4 (u.tk.map Qp),.int .i64 u.tr.k,.int .i64 u.tr.f,.int .i64 u.tr.t,.str u.tr.w,.int .i64 u.tr.at_,.sl z 6 (u.tr.ks.map N.enc),.sl true 4 (u.sm.bs.map Qw),.sl true 4 (u.sm.ms.map Ya),.sl true 2 (u.sm.bad.map Q2),.int .i64 u.bad,.int .i64 u.pos]:=by obtain⟨n,t,tk,⟨k,f,to,w,a,z,ks⟩,sm,b,p⟩:=u;refine⟨z,?_⟩;simp[Un.encR,N.enc_mk,SM.encR,N.k,N.f,N.t,N.w,N.at_,N.ks]
def Qx7(P:Program)(f:Nat):Prop:=∀(L:List Tk)(z:Bool)(a:Int),a<=9223372036854775807->L.length<=1099511627776->(∀t∈L,(t.a:Int)+t.x.length<=1099511627776)->∀H,Qc P f [YL z 4 (L.map Qp),YI a] H (λr H'=>r=YI (tkAt L a)/\H'=H)
def syA(o:Option (Bs×Int)):A:=.tup [.agg [YS (o.elim [] Prod.fst),YI (o.elim 0 Prod.snd)],YB o.isSome]
end
section
open Go.Proofs
structure PrjX(S:List Un):Prop where
 ok:PrjOk S
 chk:chkU none S=0
 gx:∀u∈S,GdX u
 sx:∀u∈S,Sm16 u
 rd:∀u∈S,∃m,u=Wk m
def Qwt(m:Mod):Sm16 (Wk m):=by
 have hz:=Qbi m.t;by_cases h0:(Qx m.t).2.2.1=0
 .obtain⟨n,j,h1,h2,h3,h4,h5,hI,hj,h6⟩:=Qbj h0;have hsm:(Wk m).sm=V2 n:=by show(if _ then _ else _)=_;rw[if_pos h0,h2]
  have htk:(Wk m).tk=(lexS m.t).1:=h1;have hs:=Qls n;rw[h2]at hz;unfold SM.sz at hs;have h4000:(lexS m.t).1.length<=4000:=((Qhv m.t).2 h5).2;exact⟨by rw[htk];omega,by rw[hsm];omega,by rw[hsm];omega⟩
 .have hsm:(Wk m).sm=⟨[],[],[]⟩:=by show(if _ then _ else _)=_;rw[if_neg h0]
  have htk:(Wk m).tk=[]:=by
   show(Qx m.t).1=[];unfold Qx at h0⊢;split
   .rfl
   .rename_i g1;split
    .rfl
    .rename_i g2;rw[if_neg g1,if_neg g2]at h0;exact absurd rfl h0
  exact⟨by rw[htk];simp,by rw[hsm];simp,by rw[hsm];simp⟩
def Qz1{l:List Mod}(h:(ofU (l.map Wk)).2=0):PrjX (ofU (l.map Wk)).1:=by
 have hm:∀u∈(ofU (l.map Wk)).1,∃m,u=Wk m:=by
  intro u hu;have:u∈l.map Wk:=by
   unfold ofU at hu;split at hu
   .simp at hu
   .simp only at hu;split at hu
    .exact((Wi V8 _).2.mem V8).2 hu
    .simp at hu
  obtain⟨m,-,rfl⟩:=Q3c.1 this;exact⟨m,rfl⟩
 refine⟨Q03 l,(Qw6 h).2,λu hu=>?_,λu hu=>?_,hm⟩
 .obtain⟨m,rfl⟩:=hm u hu;exact Quz m
 .obtain⟨m,rfl⟩:=hm u hu;exact Qwt m
def PrjX.strict{S:List Un}(h:PrjX S):S.Pairwise λu v=>cU u v<0:=(Qhe h.ok.so h.chk).1
def PrjX.self{S:List Un}(h:PrjX S):Qt6 S:=λu hu=>by obtain⟨i,hi⟩:=Q4r hu;exact Quk h.ok.so h.chk hi
section
variable{P:Program}{H0:Hp}
def Qx9(P:Program)(H0:Hp)(f:Nat):Prop:=∀(l:List Mod)(z:Bool)(most:Int),0<=most/\most<=1048576->l.length<=1048576->(∀m∈l,m.n.length<=1048576/\m.t.length<=1048576)->∀H,Pre0 H0 H->Qc P f [YL z 2 (l.map encM),YI most] H (λr H'=>((∃d,r=.tup [.d .nilp,.d d,YB false])\/∃S,PrjX S/\r=.tup [pA S,YL true 14 (S.map Un.encR),YB true])/\H'=H)
def Qyb(P:Program)(f:Nat):Prop:=∀S,PrjX S->∀(m:Bs)(a:Int)(H:Hp),Qc P f [pA S,.agg [YS m,YI a]] H (λr H'=>r=syA (atSy S m a)/\H'=H)
def Qya(P:Program)(f:Nat):Prop:=∀S,PrjX S->∀(s:Bs×Int)(H:Hp),Qc P f [pA S,.agg [YS s.1,YI s.2]] H (λr H'=>r=YL (Qj8 S s).isEmpty 2 ((Qj8 S s).map Wb)/\H'=H)
def Has.ixLoaded{f light_ load rload:Nat}(h:Has P f (Qg6 light_ load rload))(hLi:Qud P light_)(hL:Qs9 P H0 load)(hR:Qt7 P H0 rload):Qx9 P H0 f:=by
 intro l z most hmo hl hm H hH;refine Qe h (by simp[Qg6]) λO _=>?_;have g1:=hLi l z most hmo hl hm H;have g2:=hL l z (λm h=>(hm m h).2) H hH;have g3:=hR l z (λm h=>(hm m h).2) H hH;have hx:=Qz1 (l:=l);unfold ofA at g2;unfold ofR at g3;generalize ofU (l.map Wk)=o at*;obtain⟨S,e⟩:=o;simp only at g2 g3 hx;simp[Qg6];refine Qa g1 ?_;cases light l most with
 |false=>simp;simp[RetK,Qb O]
 |true=>
  simp;refine Qa g2 ?_;by_cases he:e=0
  .subst he;simp[pA];refine Qa g3 ?_;simp;simp[RetK,Qb O];exact⟨S,hx rfl,⟨rfl,rfl⟩,rfl⟩
  .simp[he];refine Qa g3 ?_;simp[he];simp[RetK,Qb O]
def ixM:Mod:=⟨[109,97,105,110],[100,101,102,32,109,97,105,110,40,41,32,123,32,109,97,105,110,40,41,59,32,125]⟩
def ixU:Un:=Wk ixM
def Q1e:chkU none [ixU]=0:=by kernel_rfl
def Qz3:ofU ([ixM].map Wk)=([ixU],0):=by have h1:ssort cU [ixU]=[ixU]:=rfl;have h2:[ixM].map Wk=[ixU]:=rfl;unfold ofU;rw[h2,if_neg (by decide),h1,Q1e];rfl
def ix_at:atSy [ixU] [109,97,105,110] 5=some ([109,97,105,110],1):=by kernel_rfl
def ix_pl:(Qj8 [ixU] ([109,97,105,110],1)).length=2:=by kernel_rfl
def Has.ixAwake{f load ixAt places tSy:Nat}(h:Has P f (Qjs load ixAt places tSy))(hl:Qs9 P H0 load)(hA:Qyb P ixAt)(hP:Qya P places):Qyf P H0 f:=by
 intro H hH;refine Qe h (by simp[Qjs]) λO _=>?_;have g1:=hl [ixM] false (by intro m hm;simp at hm;subst hm;decide) H hH;have ho:ofA ([ixM].map Wk)=.tup [pA [ixU],YI 0]:=by unfold ofA;rw[Qz3];rfl
 have hx:PrjX [ixU]:=by have:=Qz1 (l:=[ixM]);rw[Qz3]at this;exact this rfl
 rw[ho]at g1;have g2:=hA [ixU] hx [109,97,105,110] 5 H;have g3:=λX=>hP [ixU] hx ([109,97,105,110],1) (H++X);rw[ix_at]at g2;have hk:=ix_pl;generalize Qj8 [ixU] ([109,97,105,110],1)=R at*;generalize[ixU]=S at*;simp only[Q2w,Q25,encM,ixM,pA,syA,Q4w,Q4m]at g1 g2 g3;simp[Qjs];refine Qa g1 ?_;simp;refine Qa g2 ?_;simp;refine Qa (g3 _) ?_;simp[hk];simp[RetK,Qd O]
end
end
section
open Go.Proofs
def isLb(k:Int):Bool:=decide (k=19\/k=27\/k=33)
mutual
def N.lb:N->List (Bs×Int)
 |.mk k _ _ w a _ ks=>(if isLb k=true then[(w,a)]else[])++N.lbs ks
def N.lbs:List N->List (Bs×Int)
 |[]=>[]
 |n::r=>n.lb++N.lbs r
end
def N.lb_mk(k f t:Int)(w:Bs)(a:Int)(z:Bool)(ks:List N):N.lb (.mk k f t w a z ks)=(if isLb k=true then[(w,a)]else[])++N.lbs ks:=by rw[N.lb]
def N.lbs_nil:N.lbs []=[]:=by rw[N.lbs]
def N.lbs_cons(n:N)(r:List N):N.lbs (n::r)=n.lb++N.lbs r:=by rw[N.lbs]
def N.lbs_app:∀a b:List N,N.lbs (a++b)=N.lbs a++N.lbs b
 |[],b=>by rw[Q2u,N.lbs_nil,Q2u]
 |x::a,b=>by rw[Q2m,N.lbs_cons,N.lbs_cons,N.lbs_app a b,Q2g]
structure LB(L:List Tk)(l:List (Bs×Int))(b e:Int):Prop where
 le:b<=e
 mem:∀p∈l,SWd L p.1 p.2/\b<=p.2/\p.2<e
 nd:(l.map Prod.snd).Nodup
section
variable{L:List Tk}
def LB.mono{l:List (Bs×Int)}{b e b' e':Int}(h:LB L l b e)(h1:b'<=b)(h2:e<=e'):LB L l b' e':=⟨by have:=h.le;omega,λp hp=>by obtain⟨g1,g2,g3⟩:=h.mem p hp;exact⟨g1,by omega,by omega⟩,h.nd⟩
def LB.nil{b e:Int}(h:b<=e):LB L [] b e:=⟨h,by simp,by simp⟩
def LB.app{l r:List (Bs×Int)}{b m m' e:Int}(h:LB L l b m)(hr:LB L r m' e)(hm:m<=m'):LB L (l++r) b e:=by
 have h1:=h.le;have h2:=hr.le;refine⟨by omega,λp hp=>?_,?_⟩
 .rcases Q2r.1 hp with hp|hp
  .obtain⟨g1,g2,g3⟩:=h.mem p hp;exact⟨g1,by omega,by omega⟩
  .obtain⟨g1,g2,g3⟩:=hr.mem p hp;exact⟨g1,by omega,by omega⟩
 .rw[Q28];refine List.nodup_append.2 ⟨h.nd,hr.nd,λx hx y hy e=>?_⟩;obtain⟨p,hp,rfl⟩:=Q3c.1 hx;obtain⟨q,hq,rfl⟩:=Q3c.1 hy;have:=(h.mem p hp).2.2;have:=(hr.mem q hq).2.1;omega
def LB.perm{l l':List (Bs×Int)}{b e:Int}(h:LB L l b e)(hp:l'.Perm l):LB L l' b e:=⟨h.le,λp hp'=>h.mem p (hp.mem_iff.1 hp'),(hp.map Prod.snd).nodup_iff.2 h.nd⟩
def LB.one{w:Bs}{a:Int}(h:SWd L w a):LB L [(w,a)] a (a+1):=⟨by omega,λp hp=>by rw[Q3t.1 hp];exact⟨h,by simp,by simp;omega⟩,by simp⟩
def LB.new{k f t:Int}{w:Bs}{a:Int}{ks:List N}{b e:Int}(h:isLb k=false)(hs:LB L (N.lbs ks) b e):LB L (N.new k f t w a ks).lb b e:=by unfold N.new;rw[N.lb_mk,if_neg (by rw[h];decide),Q2u];exact hs
def LB.lab{k f t:Int}{w:Bs}{a:Int}{ks:List N}{b e:Int}(h:isLb k=true)(hs:LB L ((w,a)::N.lbs ks) b e):LB L (N.new k f t w a ks).lb b e:=by unfold N.new;rw[N.lb_mk,if_pos h];exact hs
def LB.snil{b e:Int}(h:b<=e):LB L (N.lbs []) b e:=by rw[N.lbs_nil];exact LB.nil h
def LB.none{b e:Int}(h:b<=e):LB L N.none.lb b e:=LB.new (by decide) (LB.snil h)
def LB.cons{n:N}{r:List N}{b m m' e:Int}(h:LB L n.lb b m)(hr:LB L (N.lbs r) m' e)(hm:m<=m'):LB L (N.lbs (n::r)) b e:=by rw[N.lbs_cons];exact h.app hr hm
def LB.snoc{ks:List N}{x:N}{b e i j e':Int}(h:LB L (N.lbs ks) b e)(hx:LB L x.lb i j)(h1:e<=i)(h2:j<=e'):LB L (N.lbs (ks++[x])) b e':=by rw[N.lbs_app,N.lbs_cons,N.lbs_nil,Q2k];exact(h.app hx h1).mono (Q16 _) h2
def LbQ(L:List Tk)(i:Nat):G->N->Nat->Prop
 |.listL _ _ ks,m,j|.stmts ks,m,j=>∀b:Int,LB L (N.lbs ks) b i->LB L (N.lbs m.ks) b j
 |.file ks,m,j=>∀b:Int,LB L (N.lbs ks) b i->LB L m.lb b j
 |.list _ _,m,j=>LB L (N.lbs m.ks) i j
 |.sumL a,m,j|.termL a,m,j|.postL a,m,j=>∀b:Int,LB L a.lb b i->LB L m.lb b j
 |_,m,j=>LB L m.lb i j
def ApR.lastL{P:N->Nat->Prop}{n:Nat}(ih:∀g i,g.flat->ApR (LbQ L i g) (pp L n g i)){g:G}{k:Nat}(hg:g.flat)(hh:∀m j,k<=j->(g.strict=true->k<j)->LbQ L k g m j->P m j):ApR P (pp L n g k):=by
 have h1:=ih g k hg;have h2:=Yg (L:=L) n g k;generalize pp L n g k=r at h1 h2;cases r with
 |out=>trivial
 |bad j=>trivial
 |ok m j=>exact hh _ j h2.1 h2.2.1 h1
def ApR.thenL{P:N->Nat->Prop}{n:Nat}(ih:∀g i,g.flat->ApR (LbQ L i g) (pp L n g i)){g:G}{k:Nat}{h:N->Nat->PR}(hg:g.flat)(hh:∀m j,k<=j->(g.strict=true->k<j)->LbQ L k g m j->ApR P (h m j)):ApR P ((pp L n g k).then h):=by
 have h1:=ih g k hg;have h2:=Yg (L:=L) n g k;generalize pp L n g k=r at h1 h2;cases r with
 |out=>trivial
 |bad j=>trivial
 |ok m j=>exact hh m j h2.1 h2.2.1 h1
def Qw0:∀(n:Nat)(g:G)(i:Nat),g.flat->ApR (LbQ L i g) (pp L n g i)
 |0,g,i,_=>trivial
 |n+1,g,i,hg=>by
  have ih:=Qw0 n;cases g;case listL one e ks=>
   simp only[pp];cases one<;>simp only[G.flat,G.one,Q2c]at hg;all_goals
    refine ApR.thenL ih trivial λm j h1 h2 h3=>?_;refine ApR.ite (ApR.ok λb hb=>?_) (ApR.want (ApR.lastL ih rfl λx j' h1' h2' h3' b hb=>h3' b (LB.snoc hb h3 (Q16 _) (by omega))));exact LB.snoc hb h3 (Q16 _) (by omega)
  case list one e=>
   simp only[pp];cases one<;>simp only[G.flat,G.one,Q2c]at hg;all_goals
    refine ApR.ite (ApR.ok ?_) (ApR.lastL ih rfl λx j h1 h2 h3=>h3 i (LB.snil (Q16 _)));exact(show LB L (N.lbs []) _ _ from LB.snil (by omega))
  case stmts ks=>simp only[pp];refine ApR.ite (ApR.ok λb hb=>hb.mono (Q16 _) (by omega)) (ApR.thenL ih trivial λm j h1 h2 h3=>ApR.lastL ih trivial λx j' h1' h2' h3' b hb=>h3' b (LB.snoc hb h3 (Q16 _) (Q16 _)))
  case file ks=>simp only[pp];refine ApR.ite (ApR.ok λb hb=>LB.new (by decide) hb) (ApR.ite ?_ ?_);all_goals exact ApR.thenL ih trivial λm j h1 h2 h3=>ApR.lastL ih trivial λx j' h1' h2' h3' b hb=>h3' b (LB.snoc hb h3 (Q16 _) (Q16 _))
  case use=>simp only[pp];refine ApR.want (ApR.word (ApR.want (ApR.word (ApR.want (ApR.ok ?_)))));exact(show LB L _ _ _ from LB.new (by decide) (LB.cons (LB.new (by decide) (LB.snil (Q16 _))) (LB.snil (by omega)) (Q16 _)))
  case defn=>simp only[pp];refine ApR.want (ApR.word (ApR.thenL ih trivial λp j h1 h2 h3=>ApR.thenL ih trivial λt j' h1' h2' h3'=>ApR.thenL ih trivial λb k h1'' h2'' h3''=>ApR.ok ?_));exact(show LB L _ _ _ from LB.new (by decide) (LB.cons (LB.mono h3 (by omega) (Q16 _)) (LB.cons h3' (LB.cons h3'' (LB.snil (Q16 _)) (Q16 _)) (Q16 _)) (Q16 _)))
  case params=>simp only[pp];refine ApR.want (ApR.thenL ih rfl λm j h1 h2 h3=>ApR.ok ?_);have h3:LB L (N.lbs m.ks) _ _:=h3;exact(show LB L _ _ _ from LB.new (by decide) (h3.mono (by omega) (Q16 _)))
  case param=>simp only[pp];refine ApR.word (ApR.thenL ih trivial λt j h1 h2 h3=>ApR.ok ?_);have h3:LB L t.lb _ _:=h3;exact(show LB L _ _ _ from LB.new (by decide) (LB.cons (h3.mono (by omega) (Q16 _)) (LB.snil (Q16 _)) (Q16 _)))
  case typed=>simp only[pp];refine ApR.ite (ApR.lastL ih trivial λm j h1 h2 h3=>?_) (ApR.ok (show LB L _ _ _ from LB.none (Q16 _)));have h3:LB L m.lb _ _:=h3;exact h3.mono (by omega) (Q16 _)
  case sumL a=>
   simp only[pp];refine ApR.ite ?_ (ApR.ite ?_ (ApR.ok λb hb=>hb));all_goals
    refine ApR.thenL ih trivial λm j h1 h2 h3=>ApR.lastL ih trivial λx j' h1' h2' h3' b hb=>h3' b ?_;exact(show LB L _ _ _ from LB.new (by decide) (LB.cons hb (LB.cons h3 (LB.snil (Q16 _)) (Q16 _)) (by omega)))
  case termL a=>simp only[pp];refine ApR.ite ?_ (ApR.ok λb hb=>hb);refine ApR.thenL ih trivial λm j h1 h2 h3=>ApR.lastL ih trivial λx j' h1' h2' h3' b hb=>h3' b ?_;exact(show LB L _ _ _ from LB.new (by decide) (LB.cons hb (LB.cons h3 (LB.snil (Q16 _)) (Q16 _)) (by omega)))
  case postL a=>
   simp only[pp];refine ApR.ite (ApR.wordK λw1=>?_) (ApR.ite ?_ (ApR.ok λb hb=>hb))
   .refine ApR.lastL ih trivial λx j' h1' h2' h3' b hb=>h3' b ?_;refine(show LB L _ _ _ from LB.lab (by decide) ?_);have h1:=hb.app (LB.one (SWd.mk1 w1)) (by omega);rw[N.lbs_cons,N.lbs_nil,Q2k];exact(h1.perm (List.perm_append_comm (l₁:=[_]))).mono (Q16 _) (by omega)
   .refine ApR.thenL ih rfl λm j h1 h2 h3=>ApR.lastL ih trivial λx j' h1' h2' h3' b hb=>h3' b ?_;have h3:LB L (N.lbs m.ks) _ _:=h3;exact(show LB L _ _ _ from LB.new (by decide) (LB.cons hb h3 (by omega)))
  case block=>simp only[pp];refine ApR.want (ApR.thenL ih trivial λm j h1 h2 h3=>ApR.ok ?_);have h3:=h3 _ (LB.snil (Q16 _));exact(show LB L _ _ _ from LB.new (by decide) (h3.mono (by omega) (Q16 _)))
  case expr=>
   simp only[pp];refine ApR.thenL ih trivial λa j h1 h2 h3=>ApR.ite ?_ (ApR.ite ?_ (ApR.ok h3));all_goals
    refine ApR.thenL ih trivial λm j' h1' h2' h3'=>ApR.ok ?_;exact(show LB L _ _ _ from LB.new (by decide) (LB.cons h3 (LB.cons h3' (LB.snil (Q16 _)) (Q16 _)) (by omega)))
  case sum=>simp only[pp];exact ApR.thenL ih trivial λa j h1 h2 h3=>ApR.lastL ih trivial λx j' h1' h2' h3'=>h3' _ h3
  case term=>simp only[pp];exact ApR.thenL ih trivial λa j h1 h2 h3=>ApR.lastL ih trivial λx j' h1' h2' h3'=>h3' _ h3
  case post=>simp only[pp];exact ApR.thenL ih trivial λa j h1 h2 h3=>ApR.lastL ih trivial λx j' h1' h2' h3'=>h3' _ h3
  case kind=>
   simp only[pp];refine ApR.ite (ApR.ok (show LB L _ _ _ from LB.new (by decide) (LB.snil (by omega)))) (ApR.ite (ApR.ok (show LB L _ _ _ from LB.new (by decide) (LB.snil (by omega)))) (ApR.ite (ApR.ok (show LB L _ _ _ from LB.new (by decide) (LB.snil (by omega)))) (ApR.ite ?_ ?_)))
   .refine ApR.thenL ih rfl λm j h1 h2 h3=>ApR.ok ?_;have h3:LB L (N.lbs m.ks) _ _:=h3;exact(show LB L _ _ _ from LB.new (by decide) (h3.mono (by omega) (Q16 _)))
   .refine ApR.want (ApR.want (ApR.thenL ih rfl λm j h1 h2 h3=>ApR.want (ApR.thenL ih trivial λt j' h1' h2' h3'=>ApR.ok ?_)));have h3:LB L (N.lbs m.ks) _ _:=h3;exact(show LB L _ _ _ from LB.new (by decide) ((h3.mono (by omega) (Q16 _)).snoc h3' (by omega) (Q16 _)))
  case tfield=>simp only[pp];refine ApR.wordK λw1=>ApR.want (ApR.thenL ih trivial λm j h1 h2 h3=>ApR.ok ?_);have h3:LB L m.lb _ _:=h3;refine(show LB L _ _ _ from LB.lab (by decide) ?_);exact(LB.one (SWd.mk' w1)).app (LB.cons (h3.mono (Q16 _) (Q16 _)) (LB.snil (Q16 _)) (Q16 _)) (by omega)
  case stmt=>
   simp only[pp];refine ApR.ite (ApR.word (ApR.thenL ih trivial λt j h1 h2 h3=>ApR.want (ApR.thenL ih trivial λx j' h1' h2' h3'=>ApR.want (ApR.ok ?_)))) (ApR.ite ?_ (ApR.ite ?_ (ApR.ite ?_ (ApR.ite ?_ (ApR.ite ?_ ?_)))))
   .exact(show LB L _ _ _ from LB.new (by decide) (LB.cons (LB.mono h3 (by omega) (Q16 _)) (LB.cons h3' (LB.snil (by omega)) (Q16 _)) (by omega)))
   .refine ApR.thenL ih trivial λc j h1 h2 h3=>ApR.thenL ih trivial λb j' h1' h2' h3'=>ApR.ite (ApR.thenL ih trivial λo j'' h1'' h2'' h3''=>ApR.ok ?_) (ApR.ok ?_)
    .exact(show LB L _ _ _ from LB.new (by decide) (LB.cons (LB.mono h3 (by omega) (Q16 _)) (LB.cons h3' (LB.cons h3'' (LB.snil (Q16 _)) (Q16 _)) (by omega)) (Q16 _)))
    .exact(show LB L _ _ _ from LB.new (by decide) (LB.cons (LB.mono h3 (by omega) (Q16 _)) (LB.cons h3' (LB.cons (LB.none (Q16 _)) (LB.snil (Q16 _)) (Q16 _)) (Q16 _)) (Q16 _)))
   .refine ApR.thenL ih trivial λc j h1 h2 h3=>ApR.thenL ih trivial λb j' h1' h2' h3'=>ApR.ok ?_;exact(show LB L _ _ _ from LB.new (by decide) (LB.cons (LB.mono h3 (by omega) (Q16 _)) (LB.cons h3' (LB.snil (Q16 _)) (Q16 _)) (Q16 _)))
   .refine ApR.thenL ih trivial λc j h1 h2 h3=>ApR.want (ApR.ok ?_);exact(show LB L _ _ _ from LB.new (by decide) (LB.cons (LB.mono h3 (by omega) (Q16 _)) (LB.snil (by omega)) (Q16 _)))
   .refine ApR.thenL ih trivial λc j h1 h2 h3=>ApR.want (ApR.ok ?_);exact(show LB L _ _ _ from LB.new (by decide) (LB.cons (LB.mono h3 (by omega) (Q16 _)) (LB.snil (by omega)) (Q16 _)))
   .refine ApR.thenL ih trivial λc j h1 h2 h3=>ApR.want (ApR.ok ?_);exact(show LB L _ _ _ from LB.new (by decide) (LB.cons (LB.mono h3 (by omega) (Q16 _)) (LB.snil (by omega)) (Q16 _)))
   .refine ApR.thenL ih trivial λc j h1 h2 h3=>ApR.want (ApR.ok ?_);exact(show LB L _ _ _ from LB.new (by decide) (LB.cons h3 (LB.snil (by omega)) (Q16 _)))
  case atom=>
   simp only[pp];refine ApR.ite (ApR.ok (show LB L _ _ _ from LB.new (by decide) (LB.snil (by omega)))) (ApR.ite (ApR.ok (show LB L _ _ _ from LB.new (by decide) (LB.snil (by omega)))) (ApR.ite (ApR.ok (show LB L _ _ _ from LB.new (by decide) (LB.snil (by omega)))) (ApR.ite (ApR.ok (show LB L _ _ _ from LB.new (by decide) (LB.snil (by omega)))) (ApR.ite ?_ (ApR.ite ?_ ?_)))))
   .refine ApR.thenL ih trivial λc j h1 h2 h3=>ApR.want (ApR.ok ?_);exact(show LB L _ _ _ from LB.new (by decide) (LB.cons (LB.mono h3 (by omega) (Q16 _)) (LB.snil (by omega)) (Q16 _)))
   .refine ApR.thenL ih rfl λm j h1 h2 h3=>ApR.ok ?_;have h3:LB L (N.lbs m.ks) _ _:=h3;exact(show LB L _ _ _ from LB.new (by decide) (h3.mono (by omega) (Q16 _)))
   .refine ApR.want (ApR.thenL ih trivial λp j h1 h2 h3=>ApR.thenL ih trivial λt j' h1' h2' h3'=>ApR.thenL ih trivial λb j'' h1'' h2'' h3''=>ApR.ok ?_);exact(show LB L _ _ _ from LB.new (by decide) (LB.cons (LB.mono h3 (by omega) (Q16 _)) (LB.cons h3' (LB.cons h3'' (LB.snil (Q16 _)) (Q16 _)) (Q16 _)) (Q16 _)))
  case entry=>simp only[pp];refine ApR.wordK λw1=>ApR.want (ApR.thenL ih trivial λm j h1 h2 h3=>ApR.ok ?_);have h3:LB L m.lb _ _:=h3;refine(show LB L _ _ _ from LB.lab (by decide) ?_);exact(LB.one (SWd.mk' w1)).app (LB.cons (h3.mono (Q16 _) (Q16 _)) (LB.snil (Q16 _)) (Q16 _)) (by omega)
end
def Qsb(s:Bs):∃e,LB (Qx s).1 (Qx s).2.1.lb 0 e:=by
 by_cases h0:(Qx s).2.2.1=0
 .obtain⟨m,j,h1,h2,h3,-⟩:=Qbj h0;have hs:=Qw0 (L:=(lexS s).1) (16*(lexS s).1.length+8) (.file []) 0 trivial;unfold Qaz at h3;rw[h3]at hs;rw[h1,h2];exact⟨j,hs 0 (LB.snil (Q16 _))⟩
 .have h1:(Qx s).2.1=N.none:=by
   unfold Qx at h0⊢;split
   .rfl
   .rename_i g1;split
    .rfl
    .rename_i g2;rw[if_neg g1,if_neg g2]at h0;exact absurd rfl h0
  rw[h1];exact⟨0,LB.none (Q16 _)⟩
end
section
open Go.Proofs
section
variable{σ:Type}
mutual
def Qev(st:N->σ->σ)(ct:N->σ->Bool):N->σ->σ
 |.mk k f t w a z ks,s=>if ct (.mk k f t w a z ks) s=true then Qbv st ct ks (st (.mk k f t w a z ks) s)else st (.mk k f t w a z ks) s
def Qbv(st:N->σ->σ)(ct:N->σ->Bool):List N->σ->σ
 |[],s=>s
 |n::r,s=>Qbv st ct r (Qev st ct n s)
end
def Qhj(st:N->σ->σ)(ct:N->σ->Bool)(k f t:Int)(w:Bs)(a:Int)(z:Bool)(ks:List N)(s:σ):Qev st ct (.mk k f t w a z ks) s=if ct (.mk k f t w a z ks) s=true then Qbv st ct ks (st (.mk k f t w a z ks) s)else st (.mk k f t w a z ks) s:=by rw[Qev]
def Qb0(st:N->σ->σ)(ct:N->σ->Bool)(s:σ):Qbv st ct [] s=s:=by rw[Qbv]
def Qau(st:N->σ->σ)(ct:N->σ->Bool)(n:N)(r:List N)(s:σ):Qbv st ct (n::r) s=Qbv st ct r (Qev st ct n s):=by rw[Qbv]
def Qle(st:N->σ->σ)(ct:N->σ->Bool)(n:N):∀(r:List N)(s:σ),Qbv st ct (r++[n]) s=Qev st ct n (Qbv st ct r s)
 |[],s=>by rw[Q2u,Qau,Qb0,Qb0]
 |x::r,s=>by rw[Q2m,Qau,Qau,Qle st ct n r]
end
section
variable{σ:Type}{st:N->σ->σ}{ct:N->σ->Bool}{Rm:Nat->σ->Prop}
def Qkw(h0:∀k s,Rm (k+1) s->Rm k s){k:Nat}{s:σ}:∀j,Rm (k+j) s->Rm k s
 |0,h=>h
 |j+1,h=>Qkw h0 j (h0 _ _ h)
def Quh(h0:∀k s,Rm (k+1) s->Rm k s)(h1:∀n k s,Rm (k+1) s->Rm k (st n s))(n:N):∀k s,Rm (k+n.size) s->Rm k (Qev st ct n s):=by
 induction n using N.ind with
 |h k f t w a z ks ih=>
 intro q s h;rw[N.size_mk]at h;have hs:Rm (q+N.sizes ks) (st (.mk k f t w a z ks) s):=h1 _ _ _ (by rw[show q+N.sizes ks+1=q+(1+N.sizes ks) by omega];exact h);have hl:∀(l:List N),(∀x∈l,x∈ks)->∀s,Rm (q+N.sizes l) s->Rm q (Qbv st ct l s):=by
  intro l;induction l with
  |nil=>intro _ s h;rw[Qb0];exact h
  |cons x r ihl=>intro hm s h;rw[N.sizes_cons]at h;rw[Qau];refine ihl (λy hy=>hm y (by simp[hy])) _ (ih x (hm x (by simp)) _ _ ?_);rw[show q+N.sizes r+x.size=q+(x.size+N.sizes r) by omega];exact h
 rw[Qhj];split
 .exact hl ks (λ_ h=>h) _ hs
 .exact Qkw h0 _ hs
end
def Qfz{A B X:Hp}(hl:A.length=B.length)(hB:B.Closed)(h:Hp.Closed (A++X)):Hp.Closed (B++X):=λn hn=>by rw[Q2l]at hn;have h1:=h n (by rw[Q2l];omega);rw[Q28]at h1⊢;have h2:=List.append_inj_right h1 (by simp);rw[hB n (by omega),h2]
section
variable{P:Program}
def Has.ixIsLabel{f tN:Nat}(h:Has P f (Qfw tN))(n:N)(H:Hp):Qc P f [n.v] H (λr H'=>r=YB (isLb n.k)/\H'=H):=by
 refine Qe h (by simp[Qfw]) λO _=>?_;obtain⟨k,f,t,w,a,z,ks⟩:=n;rw[N.v_mk];simp[Qfw];by_cases h1:k=19
 .simp[h1];simp[RetK,Qd O,isLb,N.k,h1]
 by_cases h2:k=27
 .simp[h1,h2];simp[RetK,Qd O,isLb,N.k,h2]
 simp[h1,h2];simp[RetK,Qd O,isLb,N.k,h1,h2]
def Has.ixWalk{σ:Type}{M:σ->Hp}{st:N->σ->σ}{ct:N->σ->Bool}{G:N->Prop}{Rm:Nat->σ->Prop}{c walk tN m:Nat}{caps:List A}(h:Has P walk (Qfs walk tN))(hc:Wd P c=true)(hlen:∀s,(M s).length=m)(hM:∀s,(M s).Closed)(hcap:∀k,m<=k->caps.all (A.lo k)=true)(hG:∀n,G n->∀x∈n.ks,G x)(hr0:∀k s,Rm (k+1) s->Rm k s)(hr1:∀n k s,Rm (k+1) s->Rm k (st n s))(hv:∀n,G n->∀s X,Rm 1 s->Qc P c (n.v::caps) (M s++X) (λr H'=>r=YB (ct n s)/\H'=M (st n s)++X)):
 ∀n:N,G n->n.size<=1099511627776->∀s X,Rm n.size s->Qc P walk [n.v,.fn (.func c) [] caps] (M s++X) (λr H'=>r=.tup []/\H'=M (Qev st ct n s)++X):=by
 intro n;induction n using N.ind with
 |h k f t w a z ks ih=>
 intro hg hsz s X hrm;refine Qe h (by simp[Qfs]) λO _=>?_;have hkl:=N.sizes_len ks;rw[N.size_mk]at hsz hrm;have hrm1:Rm (N.sizes ks) (st (.mk k f t w a z ks) s):=hr1 _ _ _ (by rw[Q7c];exact hrm);have hX:∀s',Hp.Closed (M s'++X):=λs'=>Qfz (by rw[hlen,hlen]) (hM s') O;have gv:=λZ=>hv (.mk k f t w a z ks) hg s (X++Z) (Qkw hr0 _ hrm);have gk:∀x∈ks,∀s' Z,Rm x.size s'->Qc P walk [x.v,.fn (.func c) [] caps] (M s'++(X++Z)) (λr H'=>r=.tup []/\H'=M (Qev st ct x s')++(X++Z)):=λx hx s' Z hr=>ih x hx (hG _ hg x hx) (by have:=N.sizes_mem hx;omega) s' (X++Z) hr;rw[Qhj];generalize ct (.mk k f t w a z ks) s=b at gv⊢;generalize st (.mk k f t w a z ks) s=s1 at gv hrm1⊢;rw[N.v_mk]at gv⊢;obtain⟨Y,hY⟩:∃Y:σ->Hp,Y=λs=>M s++X:=⟨_,rfl⟩;have hYs:∀s',M s'++X=Y s':=λs'=>by rw[hY]
 simp only[<-Q2g,hYs]at gv gk hX⊢;obtain⟨q,hq⟩:∃q,q=m+X.length:=⟨_,rfl⟩;have lY:∀s',(Y s').length=q:=λs'=>by rw[hY,hq];simp[hlen]
 have hcut:∀s' Z,Hp.cut q (Y s'++Z)=Y s':=λs' Z=>by rw[<-lY s'];exact Qd (hX s') Z
 have hcut1:∀s' (b:Ob) Z,(∀n,b.clr n=b)->Hp.cut (q+1) (Y s'++b::Z)=Y s'++[b]:=λs' b Z hb=>by rw[<-lY s',Qi (hX s')];simp[hb,-Ob.clr]
 have e0:∀s' (b:Ob) Z,(Y s'++b::Z)[q]?=some b:=λs' b Z=>by rw[<-lY s'];simp
 have e1:∀s' (x b:Ob) Z,(Y s'++x::b::Z)[q+1]?=some b:=λs' x b Z=>by rw[<-lY s'];simp
 have sx:∀s' (x b y:Ob) Z,(Y s'++x::b::Z).set (q+1) y=Y s'++x::y::Z:=λs' x b y Z=>by rw[<-lY s',Q3j _ _ (by omega)];simp
 have hq':m<=q:=by omega
 rw[lY s];have hcapq:∀k,caps.all (A.lo (q+k))=true:=λk=>hcap _ (by omega);clear hY hYs;simp[Qfs,hc,lY,e0];refine Qa (gv _) ?_;cases b with
 |false=>simp;simp[RetK,hcut,lY]
 |true=>
  simp[e0];generalize hbx:Ob.box tN [A.d (D.int .i64 k),A.d (D.int .i64 f),A.d (D.int .i64 t),A.d (D.str w),A.d (D.int .i64 a),A.d (D.sl z 6 (ks.map N.enc))]=bx;have hbc:∀n,bx.clr n=bx:=λn=>by subst hbx;rfl
  refine Qz 0 (λfr H'=>∃Z,H'=Y (Qbv st ct ks s1)++Z) ?_ ?_
  .refine Q8 (q+1) ks.length (λj fr H'=>fr 1=.fn (.func c) [] caps/\fr 11=YL z 6 (ks.map N.enc)/\∃s',s'=Qbv st ct (ks.take j) s1/\Rm (N.sizes (ks.drop j)) s'/\H'=Y s'++[bx]) (by omega) (by decide) (by simp[lY]) (by simp) ?_ ?_ ?_
   .refine⟨?_,by simp,s1,by simp[Qb0],by simpa using hrm1,?_⟩
    .simp;exactλx hx=>Q2n.1 (hcapq 1) x hx
    .exact hcut1 s1 bx [] hbc
   .rintro j fr H' hj fi fn ⟨f1,f11,s',hs',hrs,rfl⟩;have hr:=Qt N.enc hj;rw[Q2o hj,N.sizes_cons]at hrs;have hst:Qbv st ct (ks.take (j+1)) s1=Qev st ct ks[j] s':=by rw[Q2e hj,Qle,hs']
    have gx:=gk _ (Q20 hj);have hrn:=Quh (ct:=ct) hr0 hr1 ks[j] (N.sizes (ks.drop (j+1))) s' (by rw[Q7c];exact hrs);have hrx:=Qkw hr0 _ hrs;generalize ks[j]=x at hr hst gx hrn hrx;have gx:=λZ=>gx s' Z hrx;obtain⟨k2,f2,t2,w2,a2,z2,ks2⟩:=x;rw[N.enc_mk]at hr;rw[N.v_mk]at gx;simp[fi,f11,hr,f1,lY,e1,sx,-getElem?_pos];refine Qa (gx _) ?_;simp;refine Q3 (q+1) (Q14 _) (by simp[fi,fn,lY]) ?_;refine⟨?_,by simp[f11],_,hst.symm,hrn,?_⟩
    .simp[f1];exactλx hx=>Q2n.1 (hcapq 1) x hx
    .exact hcut1 _ bx _ hbc
   .rintro fr H' fi fn ⟨f1,f11,s',hs',hrs,rfl⟩;rw[Q3x]at hs';subst hs';simp
  .rintro fr H' ⟨Z,rfl⟩;simp[RetK,hcut,lY]
end
end
section
open Go.Proofs
def lbSt(t:Int)(n:N)(s:Bs×Bool):Bs×Bool:=if isLb n.k=true/\n.at_=t then(n.w,true)else s
def lbCt(t:Int)(n:N)(s:Bs×Bool):Bool:= !(lbSt t n s).2
def Qdf(W:Bs)(b:Bool):Bs×Bool:=if b=true then(W,true)else([],false)
def Qyl{t:Int}{W:Bs}(n:N):(∀p∈n.lb,p.2=t->p.1=W)->∀b,Qev (lbSt t) (lbCt t) n (Qdf W b)=Qdf W (b||n.lb.any λp=>decide (p.2=t)):=by
 induction n using N.ind with
 |h k f to w a z ks ih=>
 intro hg b;rw[N.lb_mk]at hg⊢;rw[Qhj];have hl:∀(l:List N),(∀x∈l,x∈ks)->∀b,Qbv (lbSt t) (lbCt t) l (Qdf W b)=Qdf W (b||(N.lbs l).any λp=>decide (p.2=t)):=by
  intro l;induction l with
  |nil=>intro _ b;rw[Qb0,N.lbs_nil];simp
  |cons x r ihl=>
   intro hm b;have hx:∀p∈x.lb,p.2=t->p.1=W:=λp hp=>hg p (Q2r.2 (.inr (by
    have:∀(l:List N),x∈l->p∈N.lbs l:=by
     intro l;induction l with
     |nil=>simp
     |cons y l ihy=>
      intro h;rw[N.lbs_cons];rcases Q2v.1 h with rfl|h
      .exact Q2r.2 (.inl hp)
      .exact Q2r.2 (.inr (ihy h))
    exact this ks (hm x (by simp)))))
   rw[Qau,ih x (hm x (by simp)) hx,ihl λy hy=>hm y (by simp[hy]),N.lbs_cons,List.any_append,Bool.or_assoc]
 have hst:lbSt t (.mk k f to w a z ks) (Qdf W b)=Qdf W (b||(isLb k&&decide (a=t))):=by
  show(if isLb k=true/\a=t then(w,true)else Qdf W b)=_;by_cases h1:isLb k=true/\a=t
  .rw[if_pos h1];have:=hg (w,a) (by rw[if_pos h1.1];simp) h1.2;simp only at this;simp[Qdf,h1.1,h1.2,this]
  .rw[if_neg h1];have:(isLb k&&decide (a=t))=false:=by
    cases hk:isLb k with
    |false=>rfl
    |true=>simp only[Q69,decide_eq_false_iff_not];exactλe=>h1 ⟨hk,e⟩
   rw[this,Q5q]
 have h1:((if isLb k=true then[(w,a)]else[]).any λp:Bs×Int=>decide (p.2=t))=(isLb k&&decide (a=t)):=by cases isLb k<;>simp
 unfold lbCt;rw[hst,List.any_append,h1,<-Bool.or_assoc];generalize(b||(isLb k&&decide (a=t)))=c;cases c with
 |true=>simp[Qdf]
 |false=>have:=hl ks (λ_ h=>h) false;simp only[Qdf,Q2c,if_false,Bool.not_false,if_true,Bool.false_or]at this⊢;exact this
section
variable{P:Program}
def Has.ixLabelC{c isLabel tN t3 t9 t4:Nat}(h:Has P c (Qej isLabel tN))(hL:∀n H,Qc P isLabel [N.v n] H (λr H'=>r=YB (isLb n.k)/\H'=H))(B:Hp)(hB:B.Closed)(t:Int)(n:N)(s:Bs×Bool)(X:Hp):
 Qc P c [n.v,.ptr B.length 0,.ptr (B.length+1) 0,.ptr (B.length+2) 0] (B++[.box t3 [YI t],.box t9 [YS s.1],.box t4 [YB s.2]]++X)
  (λr H'=>r=YB (lbCt t n s)/\H'=B++[.box t3 [YI t],.box t9 [YS (lbSt t n s).1],.box t4 [YB (lbSt t n s).2]]++X):=by
 refine Qe h (by simp[Qej]) λO _=>?_;have gl:=λZ=>hL n (B++[.box t3 [YI t],.box t9 [YS s.1],.box t4 [YB s.2]]++X++Z);obtain⟨k,f,to,w,a,z,ks⟩:=n;have hls:lbSt t (.mk k f to w a z ks) s=if isLb k=true/\a=t then(w,true)else s:=rfl
 unfold lbCt;rw[hls];have gl:∀Z,Qc P isLabel [(N.mk k f to w a z ks).v] (B++[.box t3 [YI t],.box t9 [YS s.1],.box t4 [YB s.2]]++X++Z) (λr H'=>r=YB (isLb k)/\H'=B++[.box t3 [YI t],.box t9 [YS s.1],.box t4 [YB s.2]]++X++Z):=gl;have hB2:∀(x y:Ob),(∀n,x.clr n=x)->(∀n,y.clr n=y)->Hp.Closed (B++[.box t3 [YI t],x,y]++X):=λx y hx hy=>by refine Qfz (A:=B++[.box t3 [YI t],.box t9 [YS s.1],.box t4 [YB s.2]]) (by simp) ?_ O;intro n hn;rw[Q28,hB n (by simp at hn;omega)];simp[hx,hy,-Ob.clr];simp[Ob.clr]
 rw[N.v_mk]at gl⊢;simp only[Q2g,Q2m,Q2u]at gl⊢;have eN:∀(x y z b:Ob) Z,(B++x::y::z::(X++b::Z))[B.length+(X.length+1+1+1)]?=some b:=λx y z b Z=>by rw[Qs];simp only[Q4u];simp
 have hcut:∀(x y b:Ob) Z,(∀n,x.clr n=x)->(∀n,y.clr n=y)->Hp.cut (B.length+(X.length+1+1+1)) (B++.box t3 [YI t]::x::y::(X++b::Z))=B++.box t3 [YI t]::x::y::X:=λx y b Z hx hy=>by have:=Qd (hB2 x y hx hy) (b::Z);simpa[Q3r]using this
 simp[Qej,eN];refine Qa (gl _) ?_;by_cases h1:isLb k=true
 .by_cases h2:a=t
  .simp[h1,h2,eN];simp[RetK];rw[if_pos ⟨h1,h2⟩];exact⟨rfl,hcut _ _ _ _ (λ_=>rfl) (λ_=>rfl)⟩
  .simp[h1,h2,eN];simp[RetK];rw[if_neg (λh=>h2 h.2)];exact⟨rfl,hcut _ _ _ _ (λ_=>rfl) (λ_=>rfl)⟩
 .simp[h1,eN];simp[RetK];rw[if_neg (λh=>h1 h.1)];exact⟨rfl,hcut _ _ _ _ (λ_=>rfl) (λ_=>rfl)⟩
def Qhy(S:List Un)(m:Bs)(a:Int):Bs×Bool:=match Vo S m with
 |none=>([],false)
 |some u=>if tkAt u.tk a<0 then([],false)else Qdf (txT u.tk (tkAt u.tk a).toNat) (u.tr.lb.any λp=>decide (p.2=tkAt u.tk a))
def Has.ixLabel{f unit tokAt walk labelC isLabel tSp tU t3 t9 t4 tN:Nat}{S:List Un}(h:Has P f (Qjq unit tokAt walk labelC tSp tU t3 t9 t4))(hw:Has P walk (Qfs walk tN))(hc:Has P labelC (Qej isLabel tN))(hcOk:Wd P labelC=true)(hL:∀n H,Qc P isLabel [N.v n] H (λr H'=>r=YB (isLb n.k)/\H'=H))(hu:Qep P S unit)(hT:Qpg P tokAt)(hX:PrjX S)(hlb:∀u∈S,∀p∈u.tr.lb,SWd u.tk p.1 p.2)(hsz:∀u∈S,u.tr.size<=1099511627776)(m:Bs)(a:Int)(H:Hp):
 Qc P f [pA S,.agg [YS m,YI a]] H (λr H'=>r=.tup [YS (Qhy S m a).1,YB (Qhy S m a).2]/\H'=H):=by
 refine Qe h (by simp[Qjq]) λO _=>?_;have hun:=λX=>hu m (H++X);unfold Qhy;simp only[pA]at hun;simp[Qjq,pA];refine Qa (hun _) ?_;cases hv:Vo S m with
 |none=>have ht:=λX=>hT [] true a (by simp) (by simp) (H++X);simp only[Option.elim_none,Option.isSome_none,zU,Q2w,Q25]at ht⊢;simp;refine Qa (ht _) ?_;simp;simp[RetK,Qd O]
 |some u=>
  have huS:=Qi4 hv;obtain⟨s1,s2,s3⟩:=hX.sx u huS;have ht:=λX=>hT u.tk true a (by omega) (hX.gx u huS).bnd (H++X);have hlb:=hlb u huS;have hsz:=hsz u huS;obtain⟨zu,ms,-,he,-,hnv⟩:=u.both;simp only[Q4w,Q4m,he,Q2w,Q25];simp;refine Qa (ht _) ?_;generalize tkAt u.tk a=t at*;by_cases h1:t<0
  .simp[h1];simp[RetK,Qd O,h1]
  .simp[h1];rw[if_neg h1];obtain⟨B,hBe⟩:∃B:Hp,B=H++[Ob.box tSp [A.d (D.str m),A.d (D.int .i64 a)],Ob.box tU [A.d (.str u.n),A.d (.str u.t),A.d (.sl true 4 (u.tk.map Qp)),A.d (.int .i64 u.tr.k),A.d (.int .i64 u.tr.f),A.d (.int .i64 u.tr.t),A.d (.str u.tr.w),A.d (.int .i64 u.tr.at_),A.d (.sl zu 6 (u.tr.ks.map N.enc)),A.d (.sl u.sm.bs.isEmpty 4 (u.sm.bs.map Qw)),A.d ms,A.d (.sl u.sm.bad.isEmpty 2 (u.sm.bad.map Q2)),A.d (.int .i64 u.bad),A.d (.int .i64 u.pos)]]:=⟨_,rfl⟩;have hBl:B.length=H.length+2:=by rw[hBe];simp
   have hBc:B.Closed:=by rw[hBe];intro n hn;rw[Q28,O n (by simp at hn;omega)];simp[Ob.clr]
   have hMc:∀s:Bs×Bool,Hp.Closed (B++[.box t3 [YI t],.box t9 [YS s.1],.box t4 [YB s.2]]):=λs n hn=>by rw[Q28,hBc n (by simp at hn;omega)];simp[Ob.clr]
   have gw:=hw.ixWalk (M:=λs:Bs×Bool=>B++[.box t3 [YI t],.box t9 [YS s.1],.box t4 [YB s.2]]) (st:=lbSt t) (ct:=lbCt t) (G:=λ_=>True) (Rm:=λ_ _=>True) (caps:=[.ptr B.length 0,.ptr (B.length+1) 0,.ptr (B.length+2) 0]) (m:=B.length+3) hcOk (λs=>by simp) hMc
    (λk hk=>by simp[A.lo];omega) (λ_ _ _ _=>trivial) (λ_ _ h=>h) (λ_ _ _ h=>h) (λn _ s X _=>hc.ixLabelC hL B hBc t n s X) u.tr trivial hsz ([],false) [] trivial
   have hwl:=Qyl (t:=t) (W:=txT u.tk t.toNat) u.tr (λp hp hpt=>by have:=(hlb p hp).2.1;rw[hpt]at this;exact this) false;rw[Bool.false_or]at hwl;have h0:Qdf (txT u.tk t.toNat) false=([],false):=rfl;rw[h0]at hwl;rw[hwl,hnv]at gw;simp only[Q2k]at gw;generalize Qdf (txT u.tk t.toNat) (u.tr.lb.any λp=>decide (p.2=t))=e at gw;rw[hBe]at gw;simp at gw;refine Qa gw ?_;simp;simp[RetK,Qd O]
end
end
section
open Go.Proofs
def Qbx(isLabel tN tSp:Nat):IFn:=by
 have h:=Ix.J [2000026] Tryz.f27 [(24,isLabel)] [(37,tN),(24,tSp)];conv at h=>arg 1;reduce
 exact h.p
def lsSt(u:Un)(w:Bs)(n:N)(R:List (Bs×Int)):List (Bs×Int):=if isLb n.k=true/\n.w=w then R++[(u.n,atT u n.at_)]else R
def lsOf(u:Un)(w:Bs)(l:List (Bs×Int)):List (Bs×Int):=(l.filter λp=>decide (p.1=w)).map λp=>(u.n,atT u p.2)
def Qyk{u:Un}{w:Bs}(n:N):∀R,Qev (lsSt u w) (λ_ _=>true) n R=R++lsOf u w n.lb:=by
 induction n using N.ind with
 |h k f to w1 a z ks ih=>
 intro R;have hl:∀(l:List N),(∀x∈l,x∈ks)->∀R,Qbv (lsSt u w) (λ_ _=>true) l R=R++lsOf u w (N.lbs l):=by
  intro l;induction l with
  |nil=>intro _ R;rw[Qb0,N.lbs_nil];simp[lsOf]
  |cons x r ihl=>intro hm R;rw[Qau,ih x (hm x (by simp)),ihl λy hy=>hm y (by simp[hy]),N.lbs_cons];simp[lsOf]
 rw[Qhj,if_pos rfl,hl ks λ_ h=>h,N.lb_mk];show(if isLb k=true/\w1=w then R++[(u.n,atT u a)]else R)++_=_;by_cases h1:isLb k=true
 .by_cases h2:w1=w
  .rw[if_pos ⟨h1,h2⟩,if_pos h1];simp[lsOf,h2]
  .rw[if_neg (λh=>h2 h.2),if_pos h1];simp[lsOf,h2]
 .rw[if_neg (λh=>h1 h.1),if_neg h1];simp[lsOf]
def Zy(S:List Un)(w:Bs)(T:List Un):List (Bs×Int):=T.flatMap λu=>lsOf u w u.tr.lb
def HR.forget{κ:K}{H:Hp}{w:World}(h:HR κ H w)(i:Nat):HR κ (H.set i .dead) w:=by
 refine⟨h.below,h.st,λj x hx=>?_,λj hj=>h.dom j (by simpa using hj),h.ex,h.exσ,h.exd,λj x hx=>?_⟩
 .by_cases hij:i=j
  .subst hij;rw[Q17 (by have:=(Q11.1 hx).1;simpa using this)]at hx;cases hx
   trivial
  .rw[Q15 hij]at hx;exact h.ob j x hx
 .by_cases hij:i=j
  .subst hij;rw[Q17 (by have:=(Q11.1 hx).1;simpa using this)]at hx;cases hx
   rfl
  .rw[Q15 hij]at hx;exact h.fl j x hx
def Qc.forget{P:Program}{f:FuncId}{args:List A}{H:Hp}{Q:A->Hp->Prop}(i:Nat)(h:Qc P f args (H.set i .dead) Q):Qc P f args H Q:=λκ w vs hr hl hv=>h κ w vs (hr.forget i) hl hv
section
variable{P:Program}
def Qc.ghostV{f:FuncId}{args:List A}{H:Hp}{b tp e sz:Nat}{Q:A->Hp->Prop}(hb:H[b]?=some (.box tp [YL true sz []]))(h:Qc P f args (H.set b (.box tp [.vsl H.length 0 0])++[Ob.vec sz e 0 []]) Q):Qc P f args H Q:=by
 intro κ w vs hr hl hv;obtain⟨κ1,k1,k2,k3⟩:=hr.pushNilV sz e;have hbl:=(Q11.1 hb).1;obtain⟨b',hb',hsh,hc⟩:=k2.ob b _ (by rw[Q19 hbl];exact hb);obtain⟨u,hu1,hu2,hu3⟩:=hc 0 _ rfl;have hu:u=.slice none 0 0:=by
  rcases hu3.d_inv.sl_inv with⟨e1,-⟩|⟨_,_,_,e1,-⟩|⟨b,o,cap,f,e1,hz,-⟩
  .exact e1
  .cases e1
  .exact absurd rfl (hz rfl)
 subst hu;have hset:HR κ1 (H.set b (.box tp [.vsl H.length 0 0])++[Ob.vec sz e 0 []]) w:=by
  have hne:∀i,i≠b->(H.set b (.box tp [.vsl H.length 0 0])++[Ob.vec sz e 0 []])[i]?=(H++[Ob.vec sz e 0 []])[i]?:=λi hi=>by rw[<-Q18 b (Ob.box tp [.vsl H.length 0 0]) hbl,Q15 (Ne.symm hi)]
  have heq:(H.set b (.box tp [.vsl H.length 0 0])++[Ob.vec sz e 0 []])[b]?=some (.box tp [.vsl H.length 0 0]):=by rw[<-Q18 b (Ob.box tp [.vsl H.length 0 0]) hbl,Q17 (by simp;omega)]
  have hlen:(H.set b (.box tp [.vsl H.length 0 0])++[Ob.vec sz e 0 []]).length=(H++[Ob.vec sz e 0 []]).length:=by simp
  refine⟨k2.below,k2.st,λi x hx=>?_,λi hi=>k2.dom i (by rw[<-hlen];exact hi),k2.ex,k2.exσ,k2.exd,λi x hx=>?_⟩
  .by_cases hi:i=b
   .subst hi;rw[heq]at hx;cases hx;refine⟨b',hb',hsh,λk z hz=>?_⟩
    match k,hz with
    |0,hz=>cases hz;exact⟨_,hu1,hu2,k3⟩
   .rw[hne i hi]at hx;exact k2.ob i x hx
  .by_cases hi:i=b
   .subst hi;rw[heq]at hx;cases hx;rfl
   .rw[hne i hi]at hx;exact k2.fl i x hx
 refine(h κ1 w vs hset hl λi v a hi ha=>(hv i v a hi ha).mono k1).mono ?_;rintro e' w' ⟨v,κ',r,H',h1,h2,h3,h4,h5⟩;exact⟨v,κ',r,H',h1,k1.trans h2,h3,h4,h5⟩
def HasT.ixLabelsC{c isLabel tN tSp t9 t53 tU:Nat}(h:HasT P [2000026] c (Qbx isLabel tN tSp))(hL:∀n H,Qc P isLabel [N.v n] H (λr H'=>r=YB (isLb n.k)/\H'=H))(B:Hp)(hB:B.Closed)(u:Un)(w:Bs)(n:N)(hn:isLb n.k=true->0<=n.at_/\n.at_.toNat<u.tk.length)(R:List (Bs×Int))(hR:R.length+1<=1099511627776)(X:Hp):
 Qc P c [n.v,.ptr B.length 0,.ptr (B.length+1) 0,.ptr (B.length+3) 0,.ptr (B.length+4) 0] (B++[.box t9 [YS w],.box t53 [.vsl (B.length+2) R.length R.length],.vec 2 tSp R.length (R.map Wb),.box t9 [YS u.n],.box tU (u.enc.map .d)]++X)
  (λr H'=>r=YB true/\H'=B++[.box t9 [YS w],.box t53 [.vsl (B.length+2) (lsSt u w n R).length (lsSt u w n R).length],.vec 2 tSp (lsSt u w n R).length ((lsSt u w n R).map Wb),.box t9 [YS u.n],.box tU (u.enc.map .d)]++X):=by
 refine Qe h (by simp[Qbx]) λO _=>?_;obtain⟨z,ms,-,he,-,-⟩:=u.both;have hcc:∀(a:Nat)(b:Nat)(v:Ob),(∀n,v.clr n=v)->Hp.Closed (B++[.box t9 [YS w],.box t53 [.vsl (B.length+2) a b],v,.box t9 [YS u.n],.box tU (u.enc.map .d)]++X):=λa b v hv=>by
  refine Qfz (A:=B++[.box t9 [YS w],.box t53 [.vsl (B.length+2) R.length R.length],.vec 2 tSp R.length (R.map Wb),.box t9 [YS u.n],.box tU (u.enc.map .d)]) (by simp) ?_ O;intro n hn;rw[Q28,hB n (by simp at hn;omega)];simp at hn;have:B.length+2<n:=by omega
  simp[hv,-Ob.clr];simp[Ob.clr,A.clr0,this]
 have gl:=λZ=>hL n (B++[.box t9 [YS w],.box t53 [.vsl (B.length+2) R.length R.length],.vec 2 tSp R.length (R.map Wb),.box t9 [YS u.n],.box tU (u.enc.map .d)]++X++Z);obtain⟨R2,hR2⟩:∃R2,R2=lsSt u w n R:=⟨_,rfl⟩;rw[<-hR2];obtain⟨k,f,to,w1,a,zk,ks⟩:=n;have gl:∀Z,Qc P isLabel [(N.mk k f to w1 a zk ks).v] (B++[.box t9 [YS w],.box t53 [.vsl (B.length+2) R.length R.length],.vec 2 tSp R.length (R.map Wb),.box t9 [YS u.n],.box tU (u.enc.map .d)]++X++Z) (λr H'=>r=YB (isLb k)/\H'=B++[.box t9 [YS w],.box t53 [.vsl (B.length+2) R.length R.length],.vec 2 tSp R.length (R.map Wb),.box t9 [YS u.n],.box tU (u.enc.map .d)]++X++Z):=gl;have hn:isLb k=true->0<=a/\a.toNat<u.tk.length:=hn;rw[N.v_mk]at gl⊢;have hR2:R2=if isLb k=true/\w1=w then R++[(u.n,atT u a)]else R:=hR2
 simp only[Q2g,Q2m,Q2u,he,Q2w,Q25]at gl hcc⊢;have eN:∀(b1 b2 b3 b4 b5 b:Ob) Z,(B++b1::b2::b3::b4::b5::(X++b::Z))[B.length+(X.length+1+1+1+1+1)]?=some b:=λb1 b2 b3 b4 b5 b Z=>by rw[Qs];simp only[Q4u];simp
 have hcut:∀(a b:Nat)(v:Ob) Z,(∀n,v.clr n=v)->Hp.cut (B.length+(X.length+1+1+1+1+1)) (B++.box t9 [YS w]::.box t53 [.vsl (B.length+2) a b]::v::.box t9 [YS u.n]::.box tU [A.d (.str u.n),A.d (.str u.t),A.d (.sl true 4 (u.tk.map Qp)),A.d (.int .i64 u.tr.k),A.d (.int .i64 u.tr.f),A.d (.int .i64 u.tr.t),A.d (.str u.tr.w),A.d (.int .i64 u.tr.at_),A.d (.sl z 6 (u.tr.ks.map N.enc)),A.d (.sl u.sm.bs.isEmpty 4 (u.sm.bs.map Qw)),A.d ms,A.d (.sl u.sm.bad.isEmpty 2 (u.sm.bad.map Q2)),A.d (.int .i64 u.bad),A.d (.int .i64 u.pos)]::(X++Z))=B++.box t9 [YS w]::.box t53 [.vsl (B.length+2) a b]::v::.box t9 [YS u.n]::.box tU [A.d (.str u.n),A.d (.str u.t),A.d (.sl true 4 (u.tk.map Qp)),A.d (.int .i64 u.tr.k),A.d (.int .i64 u.tr.f),A.d (.int .i64 u.tr.t),A.d (.str u.tr.w),A.d (.int .i64 u.tr.at_),A.d (.sl z 6 (u.tr.ks.map N.enc)),A.d (.sl u.sm.bs.isEmpty 4 (u.sm.bs.map Qw)),A.d ms,A.d (.sl u.sm.bad.isEmpty 2 (u.sm.bad.map Q2)),A.d (.int .i64 u.bad),A.d (.int .i64 u.pos)]::X:=λa b v Z hv=>by have:=Qd (hcc a b v hv) Z;simpa[Q3r]using this
 simp[Qbx,eN];refine Qa (gl _) ?_;by_cases h1:isLb k=true
 .by_cases h2:w1=w
  .rw[if_pos ⟨h1,h2⟩]at hR2;obtain⟨a0,a1⟩:=hn h1;have htr:Zam.rowAt (u.tk.map Qp) a=some (Qp u.tk[a.toNat]):=by unfold Zam.rowAt;rw[if_pos a0];simp[a1]
   have hat:((u.tk[a.toNat]).a:Int)=atT u a:=by unfold atT;simp[a1]
   generalize u.tk[a.toNat]=y at htr hat;simp only[Qp]at htr;have hfit:(R.length+1)*24<=140737488355328:=by omega
   have htk:List.take R.length (R.map Wb)=R.map Wb:=Q2f (by simp);have hlm:(R.map Wb).length=R.length:=Q2y _;simp[h1,h2,eN,htr,Qkl,hfit,htk,hlm];simp[RetK];rw[hcut _ _ _ _ (λ_=>rfl)];subst hR2;simp[Wb,hat]
  .rw[if_neg (λh=>h2 h.2)]at hR2;subst hR2;simp[h1,h2,eN];simp[RetK];exact hcut _ _ _ _ (λ_=>rfl)
 .rw[if_neg (λh=>h1 h.1)]at hR2;subst hR2;simp[h1,eN];simp[RetK];exact hcut _ _ _ _ (λ_=>rfl)
end
end
section
open Go.Proofs
def Qtt{p:Bs×Int}{x:N}(hp:p∈x.lb):∀{l:List N},x∈l->p∈N.lbs l
 |[],h=>by simp at h
 |y::l,h=>by
  rw[N.lbs_cons];rcases Q2v.1 h with rfl|h
  .exact Q2r.2 (.inl hp)
  .exact Q2r.2 (.inr (Qtt hp h))
def Q1a{n x:N}(hx:x∈n.ks){p:Bs×Int}(hp:p∈x.lb):p∈n.lb:=by obtain⟨k,f,t,w,a,z,ks⟩:=n;rw[N.lb_mk];exact Q2r.2 (.inr (Qtt hp hx))
def Qy6{n:N}(h:isLb n.k=true):(n.w,n.at_)∈n.lb:=by obtain⟨k,f,t,w,a,z,ks⟩:=n;have h:isLb k=true:=h;rw[N.lb_mk,if_pos h];exact Q2r.2 (.inl (Q3t.2 rfl))
def Q09(n:N):n.lb.length<=n.size:=by
 induction n using N.ind with
 |h k f t w a z ks ih=>
 rw[N.lb_mk,N.size_mk];have hl:∀l:List N,(∀x∈l,x∈ks)->(N.lbs l).length<=N.sizes l:=by
  intro l;induction l with
  |nil=>intro _;rw[N.lbs_nil];simp
  |cons x r ihl=>intro hm;rw[N.lbs_cons,N.sizes_cons,Q2l];have h1:=ih x (hm x (by simp));have h2:=ihl λy hy=>hm y (by simp[hy]);omega
 have:=hl ks λ_ h=>h;rw[Q2l];split
 .simp;omega
 .simp;omega
def Qxd{u:Un}{w:Bs}(l:List (Bs×Int)):(lsOf u w l).length<=l.length:=by unfold lsOf;rw[Q2y];exact Q4n _ _
def Qqg{S T:List Un}{w:Bs}{j:Nat}{u:Un}(h:T[j]?=some u):Zy S w (T.take (j+1))=Zy S w (T.take j)++lsOf u w u.tr.lb:=by rw[Q39,h];simp[Zy]
section
variable{P:Program}
def Has.ixLabels{f names unit walk ixSort srt cmp labelsC isLabel t9 t53 tU tN tSp:Nat}{le:(Bs×Int)->(Bs×Int)->Bool}{S:List Un}(h:Has P f (Qg8 names unit walk ixSort labelsC t9 t53 tU))(hn:Qpl P S names)(hu:Qep P S unit)(hself:Qt6 S)(hw:Has P walk (Qfs walk tN))(hc:HasT P [2000026] labelsC (Qbx isLabel tN tSp))(hcOk:Wd P labelsC=true)(hL:∀n H,Qc P isLabel [N.v n] H (λr H'=>r=YB (isLb n.k)/\H'=H))(hx:Has P ixSort (Qft srt cmp))(hS:Qm6 P srt cmp le)(hS0:Qi0 P srt cmp)(hl:S.length<=8)(hlb:∀u∈S,∀p∈u.tr.lb,SWd u.tk p.1 p.2)(hsz:∀u∈S,u.tr.size<=1048576)(w:Bs)(H:Hp):
 Qc P f [pA S,YS w] H (λr H'=>r=YL (((Zy S w S).mergeSort le).map Wb).isEmpty 2 (((Zy S w S).mergeSort le).map Wb)/\H'=H):=by
 refine Qc.freezeVecE (j:=2) (k:=(Zy S w S).length) (e:=tSp) (λe=>?_) ?_
 .have h1:=congrArg List.length e;rw[Q2y,Q33]at h1;exact h1
 have hgl:∀u∈S,(lsOf u w u.tr.lb).length<=1048576:=λu hu=>by have h1:=Qxd (u:=u) (w:=w) u.tr.lb;have h2:=Q09 u.tr;have h3:=hsz u hu;omega
 have hmx:∀j,j<=S.length->(Zy S w (S.take j)).length<=8388608:=λj hj=>by
  have h1:=Qdv (g:=λu=>lsOf u w u.tr.lb) (T:=S.take j) (b:=1048576) λv hv=>hgl v (Q4q hv);have h2:(S.take j).length=j:=by simp;omega
  rw[h2]at h1;have h3:j*1048576<=8*1048576:=Q2z _ (by omega);exact Q3d h1 h3
 have hmax:(Zy S w S).length<=8388608:=by have:=hmx S.length (Q14 _);rwa[Q3x]at this
 obtain⟨fn,hf,hcf⟩:=h;refine Zu 3 hf hcf (by simp[Qg8]) λO _=>?_;have hnm:=λX=>hn (H++X);simp only[pA]at hnm;simp[Qg8,pA];refine Qa (Qc.ghostV (tp:=t53) (e:=tSp) (sz:=2) (b:=H.length+1) (by simp) (by simp;exact hnm _)) ?_;simp;let HY:List (Bs×Int)->Hp:=λR=>[.box t9 [YS w],.box t53 [.vsl (H.length+2) R.length R.length],.vec 2 tSp R.length (R.map Wb)];have hst:H++[Ob.box t9 [YS w],.box t53 [.vsl (H.length+2) 0 0],.vec 2 tSp 0 []]=H++HY []:=rfl;rw[hst];have lY:∀R,(HY R).length=3:=λR=>rfl;have hct:∀R X,Hp.cut (H.length+3) (H++(HY R++X))=H++HY R:=λR X=>by rw[Qi O];simp[HY,Ob.clr,A.clr0]
 refine Qz 0 (λfr H'=>fr 5=.ptr (H.length+1) 0/\H'=H++HY (Zy S w S)) ?_ ?_
 .refine Q8 (H.length+3) S.length (λj fr H'=>fr 0=.eptr [.sl S.isEmpty 14 (S.map Un.enc)]/\fr 3=.ptr H.length 0/\fr 5=.ptr (H.length+1) 0/\fr 11=YL true 1 (S.map λu=>[.str u.n])/\
   ∃R,R=Zy S w (S.take j)/\H'=H++HY R) (by omega) (by decide) (by simp[lY]) (by simp) ?_ ?_ ?_
  .exact⟨by simp,by simp,by simp,by simp,[],by simp[Zy],by have:=hct [] [];simpa using this⟩
  .rintro j fr H' hj fi fn ⟨f0,f3,f5,f11,R,hR,rfl⟩;obtain⟨u,hu'⟩:∃u,S[j]?=some u:=⟨_,Q12 hj⟩;have hum:=Q2p hu';have hrow:Zam.rowAt (S.map λu=>[D.str u.n]) (j:Int)=some [.str u.n]:=by simp[Zam.rowAt,hu']
   have hstp:=Qqg (S:=S) (w:=w) hu';rw[<-hR]at hstp;have hRl:=hmx j (by omega);rw[<-hR]at hRl;have hun:=λX=>hu u.n (H++X);rw[hself u hum]at hun;obtain⟨zu,ms,-,he,-,hnv⟩:=u.both;simp only[Q4w,Q4m,pA,he,Q2w,Q25]at hun;have lYj:=lY R;simp[fi,f11,hrow,f0,lYj];refine Qa (hun _) ?_;have hMc:∀R:List (Bs×Int),Hp.Closed (H++[.box t9 [YS w],.box t53 [.vsl (H.length+2) R.length R.length],.vec 2 tSp R.length (R.map Wb),.box t9 [YS u.n],.box tU (u.enc.map .d)]):=λR n hn=>by
    rw[Q28,O n (by simp at hn;omega)];simp at hn;have:H.length+2<n:=by omega
    simp[Ob.clr,A.clr0,this]
   have gw:=hw.ixWalk (M:=λR:List (Bs×Int)=>H++[.box t9 [YS w],.box t53 [.vsl (H.length+2) R.length R.length],.vec 2 tSp R.length (R.map Wb),.box t9 [YS u.n],.box tU (u.enc.map .d)]) (st:=lsSt u w) (ct:=λ_ _=>true) (G:=λn=>∀p∈n.lb,SWd u.tk p.1 p.2) (Rm:=λk R=>R.length+k<=16777216)
    (caps:=[.ptr H.length 0,.ptr (H.length+1) 0,.ptr (H.length+3) 0,.ptr (H.length+4) 0]) (m:=H.length+5) hcOk (λR=>by simp) hMc (λk hk=>by simp[A.lo];omega) (λn hn x hx p hp=>hn p (Q1a hx hp)) (λk R h=>by omega)
    (λn k R h=>by unfold lsSt;split<;>first|(simp;omega)|omega) (λn hn R X hr=>hc.ixLabelsC hL H O u w n (λh=>(hn _ (Qy6 h)).lt) R (by omega) X) u.tr (hlb u hum) (by have:=hsz u hum;omega) R [] (by have:=hsz u hum;omega)
   rw[Qyk,hnv,he]at gw;simp only[Q2k,Q2w,Q25]at gw;rw[<-hstp]at gw;have gw2:Qc P walk _ (H++(HY R++[_,_])) (λr H'=>r=.tup []/\H'=H++(HY (Zy S w (S.take (j+1)))++[_,_])):=gw;obtain⟨R2,hR2⟩:∃R2,R2=Zy S w (S.take (j+1)):=⟨_,rfl⟩;rw[<-hR2]at gw2;have lY2:=lY R2;have hct2:=hct R2;clear gw;generalize hY1:HY R=Y1 at gw2 lYj⊢;generalize hY2:HY R2=Y2 at gw2 lY2 hct2;simp[lYj,f3,f5];refine Qa gw2 ?_;simp;refine Q3 (H.length+3) (Q14 _) (by simp[fi,fn,lY2]) ?_;exact⟨by simp[f0],by simp[f3],by simp[f5],by simp[f11],R2,hR2,by rw[hY2];exact hct2 _⟩
  .rintro fr H' fi fn ⟨f0,f3,f5,f11,R,hR,rfl⟩;rw[Q3x]at hR;subst hR;simp;exact f5
 .rintro fr H' ⟨f5,rfl⟩;generalize hR:Zy S w S=R at*;have hcl1:Hp.Closed (H++[.box t9 [YS w],.dead]):=λn hn=>by rw[Q28,O n (by simp at hn;omega)];simp[Ob.clr]
  have hsrt:=hx.ixSort hS hS0 R (by omega) hcl1 R.length tSp;rw[Qn2]at hsrt;have hll:(R.mergeSort le).length=R.length:=Q33 _;simp[HY,f5];have hsrt2:Qc P ixSort [.vsl (H.length+2) R.length R.length] ((H++([Ob.box t9 [YS w],Ob.box t53 [.vsl (H.length+2) R.length R.length],Ob.vec 2 tSp R.length (R.map Wb)]:Hp)).set (H.length+1) Ob.dead) (λr H'=>r=.vsl (H.length+2) R.length R.length/\H'=H++[.box t9 [YS w],.dead,.vec 2 tSp R.length ((R.mergeSort le).map Wb)]):=by rw[Zd];simpa using hsrt
  refine Qa (Qc.forget (H.length+1) hsrt2) ?_;simp[f5,RetK,resA];refine⟨[.box t9 [YS w],.dead,.vec 2 tSp R.length ((R.mergeSort le).map Wb)],rfl,?_⟩;rw[Qi O];simp[Ob.clr]
end
end
section
open Go.Proofs
def Qg7(listN tN:Nat):IFn:=by
 have h:=Ix.J [6] Tryz.f25 [(25,listN)] [(37,tN)];conv at h=>arg 1;reduce
 exact h.p
mutual
def N.pre:N->List N
 |.mk k f t w a z ks=>.mk k f t w a z ks::N.pres ks
def N.pres:List N->List N
 |[]=>[]
 |n::r=>n.pre++N.pres r
end
def N.pre_mk(k f t:Int)(w:Bs)(a:Int)(z:Bool)(ks:List N):N.pre (.mk k f t w a z ks)=.mk k f t w a z ks::N.pres ks:=by rw[N.pre]
def N.pres_nil:N.pres []=[]:=by rw[N.pres]
def N.pres_cons(n:N)(r:List N):N.pres (n::r)=n.pre++N.pres r:=by rw[N.pres]
def N.pres_snoc(x:N):∀r:List N,N.pres (r++[x])=N.pres r++x.pre
 |[]=>by rw[Q2u,N.pres_cons,N.pres_nil,Q2k,Q2u]
 |y::r=>by rw[Q2m,N.pres_cons,N.pres_cons,N.pres_snoc x r,Q2g]
def N.pre_len(n:N):n.pre.length=n.size/\∀p∈n.pre,p.size<=n.size:=by
 induction n using N.ind with
 |h k f t w a z ks ih=>
 rw[N.pre_mk];have hl:∀l:List N,(∀x∈l,x∈ks)->(N.pres l).length=N.sizes l/\∀p∈N.pres l,p.size<=N.sizes l:=by
  intro l;induction l with
  |nil=>intro _;rw[N.pres_nil];simp[N.sizes_nil]
  |cons x r ihl=>
   intro hm;obtain⟨i1,i2⟩:=ih x (hm x (by simp));obtain⟨j1,j2⟩:=ihl λy hy=>hm y (by simp[hy]);rw[N.pres_cons,N.sizes_cons,Q2l];refine⟨by omega,λp hp=>?_⟩;rcases Q2r.1 hp with hp|hp
   .have:=i2 p hp;omega
   .have:=j2 p hp;omega
 obtain⟨h1,h2⟩:=hl ks λ_ h=>h;rw[N.size_mk,Q2i];refine⟨by omega,λp hp=>?_⟩;rcases Q2v.1 hp with rfl|hp
 .rw[N.size_mk];omega
 .have:=h2 p hp;omega
def Qp6:∀l:List N,(N.pres l).length=N.sizes l
 |[]=>by rw[N.pres_nil,N.sizes_nil];rfl
 |x::r=>by rw[N.pres_cons,N.sizes_cons,Q2l,Qp6 r,(N.pre_len x).1]
def Qu2{ks:List N}(j:Nat):(N.pres (ks.take j)).length<=N.sizes ks:=by rw[Qp6];have:=N.sizes_app (ks.take j) (ks.drop j);rw[Q2x]at this;omega
def N.lb_pre(n:N):n.lb=(n.pre.filter λx=>isLb x.k).map λx=>(x.w,x.at_):=by
 induction n using N.ind with
 |h k f t w a z ks ih=>
 rw[N.lb_mk,N.pre_mk];have hl:∀l:List N,(∀x∈l,x∈ks)->N.lbs l=((N.pres l).filter λx=>isLb x.k).map λx=>(x.w,x.at_):=by
  intro l;induction l with
  |nil=>intro _;rw[N.lbs_nil,N.pres_nil];rfl
  |cons x r ihl=>intro hm;rw[N.lbs_cons,N.pres_cons,ih x (hm x (by simp)),ihl λy hy=>hm y (by simp[hy])];simp
 rw[hl ks λ_ h=>h];have hk:(N.mk k f t w a z ks).k=k:=rfl;rw[List.filter_cons,hk];by_cases h:isLb k=true
 .rw[if_pos h,if_pos h];rfl
 .rw[if_neg h,if_neg h];rfl
section
variable{P:Program}
def HasT.ixListN{f tN:Nat}(h:HasT P [6] f (Qg7 f tN))(n:N):n.size<=1073741824->∀H,Qc P f [n.v] H (λr H'=>r=YL false 6 (n.pre.map N.enc)/\H'=H):=by
 induction n using N.ind with
 |h k f' t w a z ks ih=>
 intro hsz H;refine Qe h (by simp[Qg7]) λO _=>?_;rw[N.size_mk]at hsz;have hkl:=N.sizes_len ks;have gk:∀x∈ks,∀X,Qc P f [x.v] (H++X) (λr H'=>r=YL false 6 (x.pre.map N.enc)/\H'=H++X):=λx hx X=>ih x hx (by have:=N.sizes_mem hx;omega) (H++X);rw[N.pre_mk];have hen:=N.enc_mk k f' t w a z ks;have hv:=N.v_mk k f' t w a z ks;generalize N.mk k f' t w a z ks=n0 at hen hv⊢;rw[hv];simp[Qg7];generalize hbx:Ob.box tN [A.d (D.int .i64 k),A.d (D.int .i64 f'),A.d (D.int .i64 t),A.d (D.str w),A.d (D.int .i64 a),A.d (D.sl z 6 (ks.map N.enc))]=bx;have hst:[[D.int .i64 k,D.int .i64 f',D.int .i64 t,D.str w,D.int .i64 a,D.sl z 6 (ks.map N.enc)]]=([n0]:List N).map N.enc:=by rw[Q2w,Q25,hen]
 rw[hst];refine Qz 0 (λfr H'=>fr 3=.osl false 6 ((n0::N.pres ks).map N.enc) (H.length+1)/\∃X,H'=H++X) ?_ ?_
 .refine Vl (H.length+2) ks.length (λj fr H'=>fr 1=.ptr H.length 0/\∃R:List N,R=n0::N.pres (ks.take j)/\fr 3=.osl false 6 (R.map N.enc) (H.length+1)/\H'=H++[bx,.tok R.length 6 tN]) (by omega) (by decide) (by simp[<-hbx]) (by simp) ?_ ?_
  .exact⟨by simp,[n0],by simp[N.pres_nil],by simp,by simp[Qi O,<-hbx]⟩
  rintro j fr H' hj f4 ⟨f1,R,hR,f3,rfl⟩;simp[f4,f1,<-hbx];refine Qh (λh=>?_) (λh=>?_)
  .have hj:j<ks.length:=by simpa using h
   have hr:=Qt N.enc hj;have htk:N.pres (ks.take (j+1))=N.pres (ks.take j)++ks[j].pre:=by rw[Q2e hj,N.pres_snoc]
   have hml:=Qu2 (ks:=ks) (j+1);have gx:=gk _ (Q20 hj);generalize ks[j]=x at hr htk gx;obtain⟨k2,f2,t2,w2,a2,z2,ks2⟩:=x;generalize(N.mk k2 f2 t2 w2 a2 z2 ks2).pre=px at htk gx;rw[N.enc_mk]at hr;rw[N.v_mk]at gx;rw[htk,Q2l]at hml;have happ0:appA (H++[bx,Ob.tok R.length 6 tN]) 6 72 tN (px.map N.enc) (.osl false 6 (R.map N.enc) (H.length+1))=some (.osl false 6 (R.map N.enc++px.map N.enc) (H.length+1),H++[bx,Ob.tok (R.length+px.length) 6 tN]):=by have:=Qiy (H:=H++[bx,Ob.tok (R.map N.enc).length 6 tN]) (t:=H.length+1) (z:=false) (sz:=6) (b:=72) (e:=tN) (rows:=R.map N.enc) (new:=px.map N.enc) (by simp) (by simp only[Q2y];rw[hR];simp;omega);simpa using this
   simp[f3,f4,f1,hr,<-hbx];rw[hbx];refine Qa (gx _) ?_;simp[happ0];refine Wp (H.length+2) (Q14 _) hj (by simp[f4]) ?_;exact⟨by simp[f1],R++px,by rw[hR,htk];rfl,by simp,by simp[Qi O,<-hbx]⟩
  .have hia:ks.length<=j:=by simpa using h
   rw[Q2f hia]at hR;subst hR;simp;exact f3
 .rintro fr H' ⟨f3,X,rfl⟩;have hlt:¬H.length+1<H.length:=by omega
  simp[f3];simp[RetK,Qd O,hlt]
def islT(u:Un)(t:Int):Bool:=u.tr.lb.any λp=>decide (p.2=t)
def Has.ixRIsLabel{f listN tR:Nat}(h:Has P f (Qei listN tR))(hl:∀n:N,n.size<=1073741824->∀H,Qc P listN [n.v] H (λr H'=>r=YL false 6 (n.pre.map N.enc)/\H'=H))(u:Un)(hsz:u.tr.size<=1073741824)(t:Int)(H:Hp):
 Qc P f [.agg (u.encR.map .d),YI t] H (λr H'=>r=YB (islT u t)/\H'=H):=by
 refine Qe h (by simp[Qei]) λO _=>?_;obtain⟨zu,-,ms2,-,he,hnv⟩:=u.both;have gl:=λX=>hl u.tr hsz (H++X);have hpl:=(N.pre_len u.tr).1;have hisl:islT u t=u.tr.pre.any λx=>isLb x.k&&decide (x.at_=t):=by unfold islT;rw[N.lb_pre,List.any_map,List.any_filter];rfl
 rw[hisl];rw[hnv]at gl;generalize u.tr.pre=L at gl hpl⊢;simp[Qei,he];refine Qa (gl _) ?_;simp;refine Qm 0 (λfr H'=>(L.any λx=>isLb x.k&&decide (x.at_=t))=false/\∃X,H'=H++X) (λfr H'=>(L.any λx=>isLb x.k&&decide (x.at_=t))=true/\fr 4=YB true/\∃X,H'=H++X) ?_ ?_ ?_
 .refine Vl H.length L.length (λj fr H'=>fr 1=YI t/\fr 5=YL false 6 (L.map N.enc)/\(∀x∈L.take j,(isLb x.k&&decide (x.at_=t))=false)/\H'=H) (by omega) (by decide) (by simp) (by simp) ?_ ?_
  .exact⟨by simp,by simp,by simp,by simp[Qd O]⟩
  rintro j fr H' hj f6 ⟨f1,f5,hn,rfl⟩;simp[f6,f5];refine Qh (λh=>?_) (λh=>?_)
  .have hj:j<L.length:=by simpa using h
   have hr:=Qt N.enc hj;have htk:L.take (j+1)=L.take j++[L[j]]:=Q2e hj;have hmem:=Q20 hj;generalize L[j]=x at hr htk hmem;have hnx:(isLb x.k&&decide (x.at_=t))=false->∀y∈L.take (j+1),(isLb y.k&&decide (y.at_=t))=false:=λh y hy=>by
    rw[htk]at hy;rcases Q2r.1 hy with hy|hy
    .exact hn y hy
    .rw[Q3t.1 hy];exact h
   have hye:(isLb x.k&&decide (x.at_=t))=true->(L.any λx=>isLb x.k&&decide (x.at_=t))=true:=λh=>Q5l.2 ⟨x,hmem,h⟩;obtain⟨k,f',to,w,a,z,ks⟩:=x;rw[N.enc_mk]at hr;have hnx:(isLb k&&decide (a=t))=false->_:=hnx;have hye:(isLb k&&decide (a=t))=true->_:=hye;by_cases hk:isLb k=true
   .have hk3:k=19\/k=27\/k=33:=by simpa[isLb]using hk
    by_cases ha:a=t
    .have hy:=hye (by simp[hk,ha]);rcases hk3 with rfl|rfl|rfl
     all_goals
      simp[f6,f5,f1,hr,ha];exact by simpa using hy
    .have hx:=hnx (by simp[ha]);rcases hk3 with rfl|rfl|rfl
     all_goals
      simp[f6,f5,f1,hr,ha];refine Wp H'.length (Q14 _) hj (by simp[f6]) ?_;exact⟨by simp[f1],by simp[f5],hx,by simp[Qd O,Qb O]⟩
   .have hx:=hnx (by simp[hk]);have h1:¬k=19:=λe=>hk (by subst e;decide);have h2:¬k=27:=λe=>hk (by subst e;decide);have h3:¬k=33:=λe=>hk (by subst e;decide);simp[f6,f5,f1,hr,h1,h2,h3];refine Wp H'.length (Q14 _) hj (by simp[f6]) ?_;exact⟨by simp[f1],by simp[f5],hx,by simp[Qd O,Qb O]⟩
  .have hia:L.length<=j:=by simpa using h
   rw[Q2f hia]at hn;simp;simpa using hn
 .rintro fr H' ⟨h1,f4,X,rfl⟩;rw[h1];simp[f4];simp[RetK,Qd O]
 .rintro fr H' ⟨h1,X,rfl⟩;rw[h1];simp;simp[RetK,Qd O]
end
end
section
open Go.Proofs
def rlT(w:Bs)(all:Bool)(u:Un)(t:Nat):List (Bs×Int):=match u.tk[t]? with
 |some x=>if x.k=1/\x.x=w/\(all=true\/islT u t=true)then[(u.n,(x.a:Int))]else[]
 |none=>[]
def rlV(w:Bs)(all:Bool)(u:Un)(n:Nat):List (Bs×Int):=(List.range n).flatMap (rlT w all u)
def rlU(w:Bs)(all:Bool)(u:Un):List (Bs×Int):=rlV w all u u.tk.length
def rlSy(S:List Un)(w:Bs)(all:Bool):List (Bs×Int):=S.flatMap (rlU w all)
def Qlw(w:Bs)(all:Bool)(u:Un)(t:Nat):rlV w all u (t+1)=rlV w all u t++rlT w all u t:=by unfold rlV;rw[Q5t,Q42];simp
def Qyx(w:Bs)(all:Bool)(u:Un)(t:Nat):(rlT w all u t).length<=1:=by
 unfold rlT;split
 .split<;>simp
 .simp
def Qkx(w:Bs)(all:Bool)(u:Un):∀t,(rlV w all u t).length<=t
 |0=>by simp[rlV]
 |t+1=>by have h1:=Qkx w all u t;have h2:=Qyx w all u t;rw[Qlw,Q2l];omega
section
variable{P:Program}
def HasT.ixRLabels{f rIsLabel tTk tSp:Nat}{S:List Un}{z:Bool}(h:HasT P [7] f (Qfu rIsLabel tTk tSp))(hI:∀u∈S,∀(t:Int) (H:Hp),Qc P rIsLabel [.agg (u.encR.map .d),YI t] H (λr H'=>r=YB (islT u t)/\H'=H))(hl:S.length<=8)(hs:∀u∈S,Sm16 u)(w:Bs)(all:Bool)(H:Hp):
 Qc P f [YL z 14 (S.map Un.encR),YS w,YB all] H (λr H'=>r=YL true 2 ((rlSy S w all).map Wb)/\H'=H):=by
 refine Qe h (by simp[Qfu]) λO _=>?_;have hgl:∀u∈S,(rlU w all u).length<=65536:=λu hu=>by have h1:=Qkx w all u u.tk.length;have h2:=(hs u hu).1;unfold rlU;omega
 simp[Qfu];refine Qz 0 (λfr H'=>fr 7=.osl true 2 ((rlSy S w all).map Wb) H.length/\∃X,H'=H++X) ?_ ?_
 .refine Vl (H.length+1) S.length (λi fr H'=>fr 0=YL z 14 (S.map Un.encR)/\fr 1=YS w/\fr 2=YB all/\∃R,R=(S.take i).flatMap (rlU w all)/\fr 7=.osl true 2 (R.map Wb) H.length/\H'=H++[.tok R.length 2 tSp]) (by omega) (by decide) (by simp) (by simp) ?_ ?_
  .exact⟨by simp,by simp,by simp,[],by simp,by simp,by simp[Qi O]⟩
  rintro i fr H' hi f8 ⟨f0,f1,f2,R,hR,f7,rfl⟩;simp[f8,f0];refine Qh (λh=>?_) (λh=>?_)
  .have hj:i<S.length:=by simpa using h
   obtain⟨u,hu⟩:∃u,S[i]?=some u:=⟨_,Q12 hj⟩;have hum:=Q2p hu;obtain⟨g1,g2,g3⟩:=hs u hum;obtain⟨zu,he⟩:=u.encR_full;have hru:Zam.rowAt (S.map Un.encR) (i:Int)=some u.encR:=by simp[Zam.rowAt,hu]
   have gI:=λt X=>hI u hum t (H++X);rw[he]at hru gI;simp only[Q2w,Q25]at gI;have htk:=Qsj (g:=rlU w all) hu;rw[<-hR]at htk;have hRl:R.length<=8*65536:=by
    have h1:=Qdv (g:=rlU w all) (T:=S.take i) (b:=65536) λv hv=>hgl v (Q4q hv);rw[<-hR]at h1;have h2:(S.take i).length=i:=by simp;omega
    rw[h2]at h1;exact Q3d h1 (Q2z _ (by omega))
   simp;refine Qz 2 (λfr H2=>fr 0=YL z 14 (S.map Un.encR)/\fr 1=YS w/\fr 2=YB all/\fr 8=YI i/\fr 7=.osl true 2 ((R++rlU w all u).map Wb) H.length/\∃X,H2=H++.tok (R++rlU w all u).length 2 tSp::X) ?_ ?_
   .refine Vl (H.length+1) u.tk.length (λt fr H2=>fr 0=YL z 14 (S.map Un.encR)/\fr 1=YS w/\fr 2=YB all/\fr 8=YI i/\∃R2,R2=R++rlV w all u t/\fr 7=.osl true 2 (R2.map Wb) H.length/\H2=H++[.tok R2.length 2 tSp]) (by omega) (by decide) (by simp) (by simp) ?_ ?_
    .exact⟨by simp[f0],by simp[f1],by simp[f2],by simp[f8],R,by simp[rlV],by simp[f7],by simp[Qi O]⟩
    rintro t fr H2 ht f9 ⟨f0,f1,f2,f8,R2,hR2,f7,rfl⟩;simp[f9,f0,f8,hru];refine Qh (λh=>?_) (λh=>?_)
    .have htj:t<u.tk.length:=by simpa using h
     obtain⟨x,hx⟩:∃x,u.tk[t]?=some x:=⟨_,Q12 htj⟩;have hrx:Zam.rowAt (u.tk.map Qp) (t:Int)=some [.int .i64 x.k,.int .i64 (x.a:Int),.str x.l,.str x.x]:=by simp[Zam.rowAt,hx,Qp]
     have hR2l:R2.length<=9*65536:=by have h1:=Qkx w all u t;rw[hR2,Q2l];omega
     have hV:=Qlw w all u t;have hT:rlT w all u t=if x.k=1/\x.x=w/\(all=true\/islT u t=true)then[(u.n,(x.a:Int))]else[]:=by unfold rlT;rw[hx]
     have happ:=λX=>Qrn (H:=H) (X:=X) (R:=R2.map Wb) (n:=R2.length) (b:=24) (sz:=2) (e:=tSp) [[.str u.n,.int .i64 (x.a:Int)]] (by simp) (by simp;omega);simp only[Q3v]at happ;have gIt:=gI t;generalize islT u t=b at gIt hT;by_cases h1:x.k=1
     .by_cases h2:x.x=w
      .cases all with
       |true=>rw[if_pos ⟨h1,h2,.inl rfl⟩]at hT;simp[f0,f8,f9,f1,f2,f7,hru,hrx,h1,h2,happ];refine Wp (H.length+1) (Q14 _) htj (by simp[f9]) ?_;exact⟨by simp[f0],by simp[f1],by simp[f2],by simp[f8],R2++[(u.n,(x.a:Int))],by rw[hV,hT,hR2,Q2g],by simp[Wb],by simp[Qi O]⟩
       |false=>
        simp[f0,f8,f9,f1,f2,f7,hru,hrx,h1,h2,happ];refine Qa (gIt _) ?_;cases b with
        |true=>rw[if_pos ⟨h1,h2,.inr rfl⟩]at hT;simp[f0,f8,f9,f1,f2,f7,hru,hrx,h1,h2,happ];refine Wp (H.length+1) (Q14 _) htj (by simp[f9]) ?_;exact⟨by simp[f0],by simp[f1],by simp[f2],by simp[f8],R2++[(u.n,(x.a:Int))],by rw[hV,hT,hR2,Q2g],by simp[Wb],by simp[Qi O]⟩
        |false=>rw[if_neg (by simp)]at hT;simp;refine Wp (H.length+1) (Q14 _) htj (by simp[f9]) ?_;exact⟨by simp[f0],by simp[f1],by simp[f2],by simp[f8],R2,by rw[hV,hT,Q2k,hR2],by simp[f7],by simp[Qi O]⟩
      .rw[if_neg (λh=>h2 h.2.1)]at hT;simp[f0,f8,f9,f1,hru,hrx,h1,h2];refine Wp (H.length+1) (Q14 _) htj (by simp[f9]) ?_;exact⟨by simp[f0],by simp[f1],by simp[f2],by simp[f8],R2,by rw[hV,hT,Q2k,hR2],by simp[f7],by simp[Qi O]⟩
     .rw[if_neg (λh=>h1 h.1)]at hT;simp[f0,f8,f9,f1,hru,hrx,h1];refine Wp (H.length+1) (Q14 _) htj (by simp[f9]) ?_;exact⟨by simp[f0],by simp[f1],by simp[f2],by simp[f8],R2,by rw[hV,hT,Q2k,hR2],by simp[f7],by simp[Qi O]⟩
    .have hia:u.tk.length<=t:=by simpa using h
     obtain rfl:t=u.tk.length:=by omega
     have e:R2=R++rlU w all u:=hR2;rw[<-e];simp;exact⟨f0,f1,f2,f8,f7⟩
   .rintro fr H2 ⟨f0,f1,f2,f8,f7,X,rfl⟩;simp;refine Wp (H.length+1) (Q14 _) hj (by simp[f8]) ?_;exact⟨by simp[f0],by simp[f1],by simp[f2],R++rlU w all u,htk.symm,by simp[f7],by simp[Qi O]⟩
  .have hia:S.length<=i:=by simpa using h
   rw[Q2f hia]at hR;have e:R=rlSy S w all:=hR;rw[<-e];simp;exact f7
 .rintro fr H' ⟨f7,X,rfl⟩;simp[f7];simp[RetK,Qd O]
end
end
section
open Go.Proofs
def LabU(u:Un):Prop:=(∃e,LB u.tk u.tr.lb 0 e)/\u.tr.size<=16001
def Qr9(m:Mod):LabU (Wk m):=⟨Qsb m.t,Qbi m.t⟩
def Qgy{w:Bs}{all:Bool}(u:Un):rlU w all u=((List.range u.tk.length).filter λt:Nat=>match u.tk[t]? with|some x=>decide (x.k=1/\x.x=w/\(all=true\/islT u t=true))|none=>false).map λt:Nat=>(u.n,atT u t):=Qha λt ht=>by
 have htl:=Q3y.1 ht;unfold rlT;rw[Q12 htl];have:atT u (t:Int)=(u.tk[t].a:Int):=by unfold atT;simp[htl]
 simp only[this,decide_eq_true_eq]
def Qwm{w:Bs}{all:Bool}{u:Un}(hx:GdX u):(rlU w all u).Pairwise λx y=>cSp x y<=0:=by
 rw[Qgy,Q6r];refine(List.Pairwise.filter _ List.pairwise_lt_range).imp_of_mem λ{a b} ha hb hab=>?_;have ha:=Q3y.1 (Q3l.1 ha).1;have hb:=Q3y.1 (Q3l.1 hb).1;have h1:=(Q5y.1 hx.rise a b ha hb hab).1;have e:Q7 u.n u.n=0:=Qa7.refl _;have ea:atT u (a:Int)=(u.tk[a].a:Int):=by unfold atT;simp[ha]
 have eb:atT u (b:Int)=(u.tk[b].a:Int):=by unfold atT;simp[hb]
 unfold cSp;simp only[e,if_true,ea,eb];unfold Vx;rw[if_pos (by omega)];omega
def Qu8{w:Bs}{u:Un}(hl:LabU u):(lsOf u w u.tr.lb).Perm (rlU w false u):=by
 obtain⟨⟨e,hl⟩,-⟩:=hl;have h1:lsOf u w u.tr.lb=((u.tr.lb.filter λp=>decide (p.1=w)).map Prod.snd).map λt=>(u.n,atT u t):=by unfold lsOf;rw[Q5c];rfl
 have h2:rlU w false u=(((List.range u.tk.length).filter λt:Nat=>match u.tk[t]? with|some x=>decide (x.k=1/\x.x=w/\(false=true\/islT u t=true))|none=>false).map λt:Nat=>(t:Int)).map λt=>(u.n,atT u t):=by rw[Qgy,Q5c];rfl
 rw[h1,h2];refine List.Perm.map _ ((List.perm_ext_iff_of_nodup ?_ ?_).2 λt=>?_)
 .exact hl.nd.sublist ((List.filter_sublist).map _)
 .unfold List.Nodup;rw[Q6r];exact(List.Pairwise.filter _ (List.pairwise_lt_range)).imp λh e=>by omega
 .rw[Q3c,Q3c];constructor
  .rintro⟨p,hp,rfl⟩;obtain⟨hp,hw⟩:=Q3l.1 hp;obtain⟨⟨a0,a1,a2⟩,-,-⟩:=hl.mem p hp;have hlt:=(hl.mem p hp).1.lt.2;refine⟨p.2.toNat,Q3l.2 ⟨Q3y.2 hlt,?_⟩,by omega⟩;rw[Q12 hlt];have hk:(u.tk[p.2.toNat]).k=1:=by unfold kdT at a2;rw[Q12 hlt]at a2;exact a2
   have hx:(u.tk[p.2.toNat]).x=w:=by unfold txT at a1;rw[Q12 hlt]at a1;have a1:p.1=(u.tk[p.2.toNat]).x:=a1;rw[<-a1];simpa using hw
   have hi:islT u ((p.2.toNat:Nat):Int)=true:=Q5l.2 ⟨p,hp,by simp;omega⟩;simp only[decide_eq_true_eq];exact⟨hk,hx,.inr hi⟩
  .rintro⟨t,ht,rfl⟩;obtain⟨ht,hp⟩:=Q3l.1 ht;have htl:=Q3y.1 ht;rw[Q12 htl]at hp;simp only[decide_eq_true_eq]at hp;obtain⟨hk,hx,hi⟩:=hp;have hi:islT u t=true:=by simpa using hi
   obtain⟨p,hp,hpt⟩:=Q5l.1 hi;have hpt:p.2=(t:Int):=by simpa using hpt
   obtain⟨⟨a0,a1,a2⟩,-,-⟩:=hl.mem p hp;refine⟨p,Q3l.2 ⟨hp,?_⟩,hpt⟩;rw[a1,hpt,Q31];unfold txT;rw[Q12 htl];simp[hx]
def Qzw{w:Bs}{all:Bool}{u:Un}{x:Bs×Int}(h:x∈rlU w all u):x.1=u.n:=by rw[Qgy]at h;obtain⟨t,-,rfl⟩:=Q3c.1 h;rfl
def Q1d{S:List Un}(hS:S.Pairwise λu v=>cU u v<0)(hx:∀u∈S,GdX u)(hl:∀u∈S,LabU u)(w:Bs):(Zy S w S).mergeSort leSp=rlSy S w false:=by
 refine Qj7 ?_ ?_
 .unfold Zy rlSy;have:∀T:List Un,(∀u∈T,LabU u)->(T.flatMap λu=>lsOf u w u.tr.lb).Perm (T.flatMap (rlU w false)):=by
   intro T;induction T with
   |nil=>intro _;exact List.Perm.refl _
   |cons u r ih=>intro h;simp only[Q37];exact(Qu8 (h u (by simp))).append (ih λv hv=>h v (by simp[hv]))
  exact this S hl
 .unfold rlSy;rw[List.pairwise_flatMap];refine⟨λu hu=>Qwm (hx u hu),hS.imp λ{u v} huv x h1 y h2=>?_⟩;have huv:Q7 u.n v.n<0:=huv;unfold cSp;rw[Qzw h1,Qzw h2,if_neg (by omega)];omega
def Qyi(S:List Un)(w:Bs):Zg S w=rlSy S w true:=by
 unfold Zg rlSy;congr 1;funext u;have:∀n,n<=u.tk.length->tkP u.n w (u.tk.take n)=rlV w true u n:=by
  intro n;induction n with
  |zero=>intro _;rfl
  |succ n ih=>intro h;rw[Qlw,<-ih (by omega),Qpn (Q12 (show n<u.tk.length by omega))];unfold rlT;rw[Q12 (show n<u.tk.length by omega)];simp
 have h:=this u.tk.length (Q14 _);rw[Q3x]at h;exact h
end
section
open Go.Proofs
def Qym{L:List Tk}{a:Int}(h:0<=tkAt L a):(tkAt L a).toNat<L.length:=by
 have:∀p:Tk->Bool,0<=fstI p L 0->(fstI p L 0).toNat<L.length:=λp hp=>by
  rcases Qju (p:=p) (l:=L) (i:=0)with h|⟨k,x,h1,h2,-⟩
  .omega
  .have:=(Q11.1 h2).1;omega
 unfold tkAt at h⊢;split
 .rename_i g;rw[if_pos g]at h;exact this _ h
 .rename_i g;rw[if_neg g]at h;exact this _ h
def Qg2{m:Bs}{l:List SBd}{j:Nat}{b:SBd}(h:l[j]?=some b)(hk:b.k<=2):(Ws m l)[(Ws m (l.take j)).length]?=some [.str m,.int .i64 b.a]:=by
 have h1:Ws m l=Ws m (l.take (j+1))++Ws m (l.drop (j+1)):=by unfold Ws;rw[<-Q28,<-Q4o,Q2x]
 rw[h1,Qbl h,if_pos hk,Q2g];simp
section
variable{P:Program}{H0:Hp}
def Has.ixLWords{f loaded awake label rfind tokAtR rIsLabel items words rLabels same labels tSp tBe:Nat}(h:Has P f (Qg9 loaded awake label rfind tokAtR rIsLabel items words rLabels same labels tSp tBe))(hLd:Qx9 P H0 loaded)(hA:Qyf P H0 awake)(hLa:∀S,PrjX S->∀(m:Bs) (a:Int) (H:Hp),Qc P label [pA S,.agg [YS m,YI a]] H (λr H'=>r=.tup [YS (Qhy S m a).1,YB (Qhy S m a).2]/\H'=H))(hF:∀S,PrjX S->Qt8 P S true rfind)(hT:Qx7 P tokAtR)(hI:∀S,PrjX S->∀u∈S,∀(t:Int) (H:Hp),Qc P rIsLabel [.agg (u.encR.map .d),YI t] H (λr H'=>r=YB (islT u t)/\H'=H))(hIt:∀S,PrjX S->∀(m:Bs) (H:Hp),Qc P items [pA S,YS m] H (λr H'=>r=YL true 2 (Qec S m)/\H'=H))(hW:∀S,PrjX S->∀(w:Bs) (H:Hp),Qc P words [pA S,YS w] H (λr H'=>r=YL true 2 ((Zg S w).map Wb)/\H'=H))(hRL:∀S,PrjX S->∀(w:Bs) (all:Bool) (H:Hp),Qc P rLabels [YL true 14 (S.map Un.encR),YS w,YB all] H (λr H'=>r=YL true 2 ((rlSy S w all).map Wb)/\H'=H))(hSame:∀(a:List (Bs×Int)) (za zb:Bool) (H:Hp),a.length<=1099511627776->Qc P same [YL za 2 (a.map Wb),YL zb 2 (a.map Wb)] H (λr H'=>r=YB true/\H'=H))(hLs:∀S,PrjX S->∀(w:Bs) (H:Hp),Qc P labels [pA S,YS w] H (λr H'=>r=YL (rlSy S w false).isEmpty 2 ((rlSy S w false).map Wb)/\H'=H))(hlen:∀S,PrjX S->∀w all,(rlSy S w all).length<=1099511627776)(l:List Mod)(z:Bool)(w:Bs)(m:Bs)(a:Int)(ha:a<=9223372036854775807)(hl:l.length<=1048576)(hm:∀m∈l,m.n.length<=1048576/\m.t.length<=1048576)(H:Hp)(hH:Pre0 H0 H):
 Qc P f [YL z 2 (l.map encM),YS w,.agg [YS m,YI a]] H (λr H'=>r=YB true/\H'=H):=by
 refine Qe h (by simp[Qg9]) λO _=>?_;have g1:=hLd l z 3000 (by omega) hl hm;have hA:=λX=>hA (H++X) (hH.app X);simp[Qg9];refine Qf (g1 _ (hH.app _)) ?_;rintro r H' ⟨⟨d,rfl⟩|⟨S,hX,rfl⟩,rfl⟩
 .simp;refine Qa (hA _) ?_;simp;simp[RetK,Qd O]
 .have gL:=λX=>hLa S hX m a (H++X);have gF:=λX=>hF S hX m (H++X);have gIt:=λX=>hIt S hX m (H++X);have gW:=λX=>hW S hX w (H++X);have gRL:=λall X=>hRL S hX w all (H++X);have gLs:=λX=>hLs S hX w (H++X);have gS:=λall za zb X=>hSame (rlSy S w all) za zb (H++X) (hlen S hX w all);rw[Qyi]at gW;simp only[pA]at gL gIt gW gLs;obtain⟨L,hL⟩:∃L,L=Qhy S m a:=⟨_,rfl⟩;rw[<-hL]at gL;unfold Qhy at hL;simp[pA];refine Qa (gL _) ?_;simp;refine Qa (gF _) ?_;rcases Qzc hX.ok.so m with⟨h1,h2⟩|⟨j,u,h1,h2,h3⟩
  .rw[h1]at hL;rw[h2];subst hL;simp;refine Qa (hA _) ?_;simp;refine Qa (gW _) ?_;simp;refine Qa (gRL true _) ?_;simp;refine Qa (gS true _ _ _) ?_;simp;refine Qa (gLs _) ?_;simp;refine Qa (gRL false _) ?_;simp;refine Qa (gS false _ _ _) ?_;simp;simp[RetK,Qd O]
  .have hum:=Q2p h3;obtain⟨s1,s2,s3⟩:=hX.sx u hum;obtain⟨zu,he⟩:=u.encR_full;have hru:Zam.rowAt (S.map Un.encR) (j:Int)=some u.encR:=by simp[Zam.rowAt,h3]
   have gI:=λt X=>hI S hX u hum t (H++X);have gT:=λX=>hT u.tk true a ha (by omega) (hX.gx u hum).bnd (H++X);have hits:Qec S m=Ws m u.sm.bs:=by unfold Qec;rw[h1];rfl
   rw[he]at hru gI;simp only[Q2w,Q25]at gI;rw[h1]at hL;rw[hits]at gIt;rw[h2];have hj0:(0:Int)<=(j:Int):=by omega
   have htl:=Qym (L:=u.tk) (a:=a);simp[hj0,hru];refine Vj (gT _) ?_;have hc3:(¬0<=tkAt u.tk a/\L=([],false))\/(0<=tkAt u.tk a/\islT u (tkAt u.tk a)=false/\L=([],false))\/∃x:Tk,0<=tkAt u.tk a/\islT u (tkAt u.tk a)=true/\Zam.rowAt (u.tk.map Qp) (tkAt u.tk a)=some (Qp x)/\L=(x.x,true):=by
    by_cases h0:0<=tkAt u.tk a
    .have htl:=htl h0;simp only at hL;rw[if_neg (by omega)]at hL;have e:(u.tr.lb.any λp=>decide (p.2=tkAt u.tk a))=islT u (tkAt u.tk a):=rfl;rw[e]at hL;cases hi:islT u (tkAt u.tk a)with
     |false=>exact .inr (.inl ⟨h0,rfl,by rw[hL,hi];rfl⟩)
     |true=>
      refine .inr (.inr ⟨u.tk[(tkAt u.tk a).toNat],h0,rfl,?_,?_⟩)
      .unfold Zam.rowAt;rw[if_pos h0];simp[htl]
      .rw[hL,hi];unfold txT;rw[Q12 htl];rfl
    .simp only at hL;rw[if_pos (by omega)]at hL;exact .inl ⟨h0,hL⟩
   clear hL;generalize tkAt u.tk a=t at hc3 htl⊢;rcases hc3 with⟨c1,hL⟩|⟨c1,c2,hL⟩|⟨x,c1,c2,c3,hL⟩
   .simp[c1];refine Qa (gIt _) ?_;simp[hru];refine Qm 0 (λfr H'=>fr 1=YS w/\fr 7=.eptr [.sl S.isEmpty 14 (S.map Un.enc)]/\fr 8=YL true 14 (S.map Un.encR)/\fr 10=YS L.1/\fr 11=YB L.2/\fr 12=YS L.1/\fr 13=YB L.2/\fr 16=YI ((Ws m u.sm.bs).length:Int)/\fr 17=YL true 2 (Ws m u.sm.bs)/\∃X,H'=H++X) (λ_ _=>False) ?_ (λ_ _ h=>h.elim) ?_
    .refine Q8 (H.length+1) u.sm.bs.length (λq fr H2=>fr 1=YS w/\fr 7=.eptr [.sl S.isEmpty 14 (S.map Un.enc)]/\fr 8=YL true 14 (S.map Un.encR)/\fr 10=YS L.1/\fr 11=YB L.2/\fr 12=YS L.1/\fr 13=YB L.2/\fr 5=.ptr H.length 0/\fr 17=YL true 2 (Ws m u.sm.bs)/\fr 77=YL true 4 (u.sm.bs.map Qw)/\(∃n:Nat,n=(Ws m (u.sm.bs.take q)).length/\fr 16=YI n)/\H2=H++[Ob.box tSp [YS m,YI a]]) (by omega) (by decide) (by simp) (by simp) ?_ ?_ ?_
     .exact⟨by simp,by simp,by simp,by simp[hL],by simp[hL],by simp[hL],by simp[hL],by simp,by simp,by simp,⟨0,by simp[Ws],by simp⟩,by simp[Qi O]⟩
     .rintro q fr H2 hq fi fn ⟨f1,f7,f8,f10,f11,f12,f13,f5,f17,f77,⟨n,hn,f16⟩,rfl⟩;have hb:=Q12 hq;have hrb:=Qt Qw hq;have hrow:=Qg2 (m:=m) hb;have htk:=Qbl (m:=m) hb;generalize u.sm.bs[q]=b at hb hrb hrow htk;simp only[Qw]at hrb;rw[<-hn]at hrow;have hnl:n<=65536:=by
       have h1:=Qed m (u.sm.bs.take q);have h2:(u.sm.bs.take q).length<=q:=by simp;omega
       omega
      by_cases hk:b.k<=2
      .have hrow:=hrow hk;rw[if_pos hk]at htk;have hnlt:=(Q11.1 hrow).1;have hrr:Zam.rowAt (Ws m u.sm.bs) (n:Int)=some [.str m,.int .i64 b.a]:=by simp[Zam.rowAt,hrow]
       have hnk:¬(2:Int)<b.k:=by omega
       have hnn:¬((Ws m u.sm.bs).length:Int)<=(n:Int):=by omega
       have hw:IntKind.i64.wrap ((n:Int)+1)=(n:Int)+1:=wi64 (by omega);have hle:(Ws m (u.sm.bs.take (q+1))).length=n+1:=by rw[htk,Q2l,<-hn];rfl
       simp[fi,f77,hrb,hnk,f16,f17,hnn,hrr,f5,eqDs,eqD,hw];refine Q3 (H.length+1) (Q14 _) (by simp[fi,fn]) ?_;exact⟨by simp[f1],by simp[f7],by simp[f8],by simp[f10],by simp[f11],by simp[f12],by simp[f13],by simp[f5],by simp[f17],by simp[f77],⟨n+1,hle.symm,by simp⟩,by simp[Qi O]⟩
      .rw[if_neg hk,Q2k]at htk;have hnk:(2:Int)<b.k:=by omega
       simp[fi,f77,hrb,hnk];refine Q3 (H.length+1) (Q14 _) (by simp[fi,fn]) ?_;exact⟨by simp[f1],by simp[f7],by simp[f8],by simp[f10],by simp[f11],by simp[f12],by simp[f13],by simp[f5],by simp[f17],by simp[f77],⟨n,by rw[htk];exact hn,by simp[f16]⟩,by simp[Qi O]⟩
     .rintro fr H2 fi fn ⟨f1,f7,f8,f10,f11,f12,f13,f5,f17,f77,⟨n,hn,f16⟩,rfl⟩;rw[Q3x]at hn;subst hn;simp;exact⟨f1,f7,f8,f10,f11,f12,f13,f16,f17⟩
    .rintro fr H2 ⟨f1,f7,f8,f10,f11,f12,f13,f16,f17,X,rfl⟩;simp[f16,f17];refine Qa (hA _) ?_;simp[f1,f7,f8,f10,f11,f12,f13];refine Qa (gW _) ?_;simp[f1,f7,f8,f10,f11,f12,f13];refine Qa (gRL true _) ?_;simp;refine Qa (gS true _ _ _) ?_;simp[f1,f7,f8,f10,f11,f12,f13];refine Qa (gLs _) ?_;simp[f1,f7,f8,f10,f11,f12,f13];refine Qa (gRL false _) ?_;simp;refine Qa (gS false _ _ _) ?_;simp;simp[RetK,Qd O]
   .have gIt2:=gI t;rw[c2]at gIt2;simp[c1,hru];refine Qa (gIt2 _) ?_;simp;refine Qa (gIt _) ?_;simp[hru];refine Qm 0 (λfr H'=>fr 1=YS w/\fr 7=.eptr [.sl S.isEmpty 14 (S.map Un.enc)]/\fr 8=YL true 14 (S.map Un.encR)/\fr 10=YS L.1/\fr 11=YB L.2/\fr 12=YS L.1/\fr 13=YB L.2/\fr 16=YI ((Ws m u.sm.bs).length:Int)/\fr 17=YL true 2 (Ws m u.sm.bs)/\∃X,H'=H++X) (λ_ _=>False) ?_ (λ_ _ h=>h.elim) ?_
    .refine Q8 (H.length+1) u.sm.bs.length (λq fr H2=>fr 1=YS w/\fr 7=.eptr [.sl S.isEmpty 14 (S.map Un.enc)]/\fr 8=YL true 14 (S.map Un.encR)/\fr 10=YS L.1/\fr 11=YB L.2/\fr 12=YS L.1/\fr 13=YB L.2/\fr 5=.ptr H.length 0/\fr 17=YL true 2 (Ws m u.sm.bs)/\fr 77=YL true 4 (u.sm.bs.map Qw)/\(∃n:Nat,n=(Ws m (u.sm.bs.take q)).length/\fr 16=YI n)/\H2=H++[Ob.box tSp [YS m,YI a]]) (by omega) (by decide) (by simp) (by simp) ?_ ?_ ?_
     .exact⟨by simp,by simp,by simp,by simp[hL],by simp[hL],by simp[hL],by simp[hL],by simp,by simp,by simp,⟨0,by simp[Ws],by simp⟩,by simp[Qi O]⟩
     .rintro q fr H2 hq fi fn ⟨f1,f7,f8,f10,f11,f12,f13,f5,f17,f77,⟨n,hn,f16⟩,rfl⟩;have hb:=Q12 hq;have hrb:=Qt Qw hq;have hrow:=Qg2 (m:=m) hb;have htk:=Qbl (m:=m) hb;generalize u.sm.bs[q]=b at hb hrb hrow htk;simp only[Qw]at hrb;rw[<-hn]at hrow;have hnl:n<=65536:=by
       have h1:=Qed m (u.sm.bs.take q);have h2:(u.sm.bs.take q).length<=q:=by simp;omega
       omega
      by_cases hk:b.k<=2
      .have hrow:=hrow hk;rw[if_pos hk]at htk;have hnlt:=(Q11.1 hrow).1;have hrr:Zam.rowAt (Ws m u.sm.bs) (n:Int)=some [.str m,.int .i64 b.a]:=by simp[Zam.rowAt,hrow]
       have hnk:¬(2:Int)<b.k:=by omega
       have hnn:¬((Ws m u.sm.bs).length:Int)<=(n:Int):=by omega
       have hw:IntKind.i64.wrap ((n:Int)+1)=(n:Int)+1:=wi64 (by omega);have hle:(Ws m (u.sm.bs.take (q+1))).length=n+1:=by rw[htk,Q2l,<-hn];rfl
       simp[fi,f77,hrb,hnk,f16,f17,hnn,hrr,f5,eqDs,eqD,hw];refine Q3 (H.length+1) (Q14 _) (by simp[fi,fn]) ?_;exact⟨by simp[f1],by simp[f7],by simp[f8],by simp[f10],by simp[f11],by simp[f12],by simp[f13],by simp[f5],by simp[f17],by simp[f77],⟨n+1,hle.symm,by simp⟩,by simp[Qi O]⟩
      .rw[if_neg hk,Q2k]at htk;have hnk:(2:Int)<b.k:=by omega
       simp[fi,f77,hrb,hnk];refine Q3 (H.length+1) (Q14 _) (by simp[fi,fn]) ?_;exact⟨by simp[f1],by simp[f7],by simp[f8],by simp[f10],by simp[f11],by simp[f12],by simp[f13],by simp[f5],by simp[f17],by simp[f77],⟨n,by rw[htk];exact hn,by simp[f16]⟩,by simp[Qi O]⟩
     .rintro fr H2 fi fn ⟨f1,f7,f8,f10,f11,f12,f13,f5,f17,f77,⟨n,hn,f16⟩,rfl⟩;rw[Q3x]at hn;subst hn;simp;exact⟨f1,f7,f8,f10,f11,f12,f13,f16,f17⟩
    .rintro fr H2 ⟨f1,f7,f8,f10,f11,f12,f13,f16,f17,X,rfl⟩;simp[f16,f17];refine Qa (hA _) ?_;simp[f1,f7,f8,f10,f11,f12,f13];refine Qa (gW _) ?_;simp[f1,f7,f8,f10,f11,f12,f13];refine Qa (gRL true _) ?_;simp;refine Qa (gS true _ _ _) ?_;simp[f1,f7,f8,f10,f11,f12,f13];refine Qa (gLs _) ?_;simp[f1,f7,f8,f10,f11,f12,f13];refine Qa (gRL false _) ?_;simp;refine Qa (gS false _ _ _) ?_;simp;simp[RetK,Qd O]
   .have gIt2:=gI t;rw[c2]at gIt2;simp only[Qp]at c3;simp[c1,hru];refine Qa (gIt2 _) ?_;simp[hru,c3];refine Qa (gIt _) ?_;simp[hru];refine Qm 0 (λfr H'=>fr 1=YS w/\fr 7=.eptr [.sl S.isEmpty 14 (S.map Un.enc)]/\fr 8=YL true 14 (S.map Un.encR)/\fr 10=YS L.1/\fr 11=YB L.2/\fr 12=YS L.1/\fr 13=YB L.2/\fr 16=YI ((Ws m u.sm.bs).length:Int)/\fr 17=YL true 2 (Ws m u.sm.bs)/\∃X,H'=H++X) (λ_ _=>False) ?_ (λ_ _ h=>h.elim) ?_
    .refine Q8 (H.length+1) u.sm.bs.length (λq fr H2=>fr 1=YS w/\fr 7=.eptr [.sl S.isEmpty 14 (S.map Un.enc)]/\fr 8=YL true 14 (S.map Un.encR)/\fr 10=YS L.1/\fr 11=YB L.2/\fr 12=YS L.1/\fr 13=YB L.2/\fr 5=.ptr H.length 0/\fr 17=YL true 2 (Ws m u.sm.bs)/\fr 77=YL true 4 (u.sm.bs.map Qw)/\(∃n:Nat,n=(Ws m (u.sm.bs.take q)).length/\fr 16=YI n)/\H2=H++[Ob.box tSp [YS m,YI a]]) (by omega) (by decide) (by simp) (by simp) ?_ ?_ ?_
     .exact⟨by simp,by simp,by simp,by simp[hL],by simp[hL],by simp[hL],by simp[hL],by simp,by simp,by simp,⟨0,by simp[Ws],by simp⟩,by simp[Qi O]⟩
     .rintro q fr H2 hq fi fn ⟨f1,f7,f8,f10,f11,f12,f13,f5,f17,f77,⟨n,hn,f16⟩,rfl⟩;have hb:=Q12 hq;have hrb:=Qt Qw hq;have hrow:=Qg2 (m:=m) hb;have htk:=Qbl (m:=m) hb;generalize u.sm.bs[q]=b at hb hrb hrow htk;simp only[Qw]at hrb;rw[<-hn]at hrow;have hnl:n<=65536:=by
       have h1:=Qed m (u.sm.bs.take q);have h2:(u.sm.bs.take q).length<=q:=by simp;omega
       omega
      by_cases hk:b.k<=2
      .have hrow:=hrow hk;rw[if_pos hk]at htk;have hnlt:=(Q11.1 hrow).1;have hrr:Zam.rowAt (Ws m u.sm.bs) (n:Int)=some [.str m,.int .i64 b.a]:=by simp[Zam.rowAt,hrow]
       have hnk:¬(2:Int)<b.k:=by omega
       have hnn:¬((Ws m u.sm.bs).length:Int)<=(n:Int):=by omega
       have hw:IntKind.i64.wrap ((n:Int)+1)=(n:Int)+1:=wi64 (by omega);have hle:(Ws m (u.sm.bs.take (q+1))).length=n+1:=by rw[htk,Q2l,<-hn];rfl
       simp[fi,f77,hrb,hnk,f16,f17,hnn,hrr,f5,eqDs,eqD,hw];refine Q3 (H.length+1) (Q14 _) (by simp[fi,fn]) ?_;exact⟨by simp[f1],by simp[f7],by simp[f8],by simp[f10],by simp[f11],by simp[f12],by simp[f13],by simp[f5],by simp[f17],by simp[f77],⟨n+1,hle.symm,by simp⟩,by simp[Qi O]⟩
      .rw[if_neg hk,Q2k]at htk;have hnk:(2:Int)<b.k:=by omega
       simp[fi,f77,hrb,hnk];refine Q3 (H.length+1) (Q14 _) (by simp[fi,fn]) ?_;exact⟨by simp[f1],by simp[f7],by simp[f8],by simp[f10],by simp[f11],by simp[f12],by simp[f13],by simp[f5],by simp[f17],by simp[f77],⟨n,by rw[htk];exact hn,by simp[f16]⟩,by simp[Qi O]⟩
     .rintro fr H2 fi fn ⟨f1,f7,f8,f10,f11,f12,f13,f5,f17,f77,⟨n,hn,f16⟩,rfl⟩;rw[Q3x]at hn;subst hn;simp;exact⟨f1,f7,f8,f10,f11,f12,f13,f16,f17⟩
    .rintro fr H2 ⟨f1,f7,f8,f10,f11,f12,f13,f16,f17,X,rfl⟩;simp[f16,f17];refine Qa (hA _) ?_;simp[f1,f7,f8,f10,f11,f12,f13];refine Qa (gW _) ?_;simp[f1,f7,f8,f10,f11,f12,f13];refine Qa (gRL true _) ?_;simp;refine Qa (gS true _ _ _) ?_;simp[f1,f7,f8,f10,f11,f12,f13];refine Qa (gLs _) ?_;simp[f1,f7,f8,f10,f11,f12,f13];refine Qa (gRL false _) ?_;simp;refine Qa (gS false _ _ _) ?_;simp;simp[RetK,Qd O]
end
end
end Go.Zam
namespace Go.Proofs.Zw
section
open Go Go.Zam Go.Proofs
def Qr2:SortU Tryz.prog 45 46 66 96 97 145 172 47 38 56 76 where
 clone:=⟨_,Tryz.func45,by kernel_rfl⟩
 srt:=⟨_,Tryz.func46,by kernel_rfl⟩;stb:=⟨_,Tryz.func66,by kernel_rfl⟩;ins:=⟨_,Tryz.func96,by kernel_rfl⟩;sym:=⟨_,Tryz.func97,by kernel_rfl⟩;rot:=⟨_,Tryz.func145,by kernel_rfl⟩;swp:=⟨_,Tryz.func172,by kernel_rfl⟩;cmpU:=⟨_,Tryz.func47,by kernel_rfl⟩;kCmpU:=by kernel_rfl
 cmpS:=⟨_,Tryz.func38,by kernel_rfl⟩;nan:=⟨_,Tryz.func56,by kernel_rfl⟩
def pcfU:Qn Tryz.prog [] Tryz.f20=some (Qfl 36 37 76):=by kernel_rfl
def hUnit:Has Tryz.prog 20 (Qfl 36 37 76):=⟨_,Tryz.func20,pcfU⟩
def Q1k:Has Tryz.prog 37 (Qdr 38 76):=⟨_,Tryz.func37,by kernel_rfl⟩
def Qco:Qzo Tryz.prog 20:=λS hS s H=>Has.pjUnit hUnit ⟨_,Tryz.func36,by kernel_rfl⟩ Q1k (by kernel_rfl) Qr2.cmpS Qr2.nan S s (by have:=hS.len;omega) (λi j u v=>Qus hS.so i j u v s) H
def bs40{S:List Un}(hS:PrjOk S):∀v∈S,v.sm.bs.length<=1099511627776:=λv hv=>by have:=(hS.sm v hv).2.1;omega
def Qzb:Qzt Tryz.prog 54:=λS hS u hu b hb H=>Has.pjImp (unit:=20) (item:=74) (tU:=76) (tBd:=82) (tIm:=118) ⟨_,Tryz.func54,by kernel_rfl⟩ (Qco S hS) Q1h (bs40 hS) u (hS.gd u hu) b hb (by have:=(hS.sm u hu).2.2.2;omega) H
def pcfN:Qn Tryz.prog [3] Tryz.f26=some (Qgf 76 9):=by kernel_rfl
def Qor:Qzs Tryz.prog 26:=λS hl H=>Has.pjNames ⟨_,Tryz.func26,pcfN⟩ S hl H
def Q0x{H0:Hp}(hG:Qcm 0 1 2 3 H0):Qx8 Tryz.prog H0 29:=λm hm H hH=>Has.pjRead (pof:=43) (sof:=44) (tM:=66) (tU:=76) ⟨_,Tryz.func29,by kernel_rfl⟩ (λs hs H hH=>ofOk hG s hs H hH) Qyt m hm H hH
def Qyu{H0:Hp}:Qt9 Tryz.prog H0 31:=λm hm H hH=>Has.pjRread (rof:=49) (sofR:=50) (tM:=66) (tR:=44) ⟨_,Tryz.func31,by kernel_rfl⟩ (λs hs H _=>Qyz s hs H) Qr8 m hm H hH
def Qw7:OfOk Tryz.prog 30:=λl z hl hz H=>Has.pjOf (tP:=98) Qr2 ⟨_,Tryz.func30,by kernel_rfl⟩ Qxm l hl z hz
def Qxf{H0:Hp}(hG:Qcm 0 1 2 3 H0):Qs9 Tryz.prog H0 16:=λl z ht H hH=>HasT.pjLoad (tM:=66) (tU:=76) ⟨_,Tryz.func16,by kernel_rfl⟩ (Q0x hG) Qw7 l z ht H hH
def Qyw{H0:Hp}:Qt7 Tryz.prog H0 17:=λl z ht H hH=>HasT.pjRload (tR:=44) ⟨_,Tryz.func17,by kernel_rfl⟩ Qyu Qux l z ht H hH
def Qxh:Qud Tryz.prog 15:=λl z most hm hl hs H=>Qy5 (tM:=66) ⟨_,Tryz.func15,by kernel_rfl⟩ H z l most hm hl hs
def len20{S:List Un}(hS:PrjOk S):S.length<=1048576:=by have:=hS.len;omega
def Qyy{S:List Un}(hl:S.length<=1048576)(z:Bool):Qt8 Tryz.prog S z 7:=λs H=>Has.pjRfind ⟨_,Tryz.func7,by kernel_rfl⟩ S z s hl H
def bd40{S:List Un}(hX:PrjX S):∀u∈S,u.tk.length<=1099511627776/\(∀t∈u.tk,(t.a:Int)+t.x.length<=1099511627776)/\u.sm.sz<=1099511627776:=λu hu=>by obtain⟨h1,h2,h3⟩:=hX.sx u hu;obtain⟨h4,-⟩:=hX.ok.sm u hu;refine⟨by omega,(hX.gx u hu).bnd,?_⟩;unfold SM.sz;omega
def mt40{S:List Un}(hX:PrjX S):∀u∈S,∀t,mapAt u.sm t<u.sm.bs.length:=λu hu t=>by
 rcases Int.lt_or_le (mapAt u.sm t) 0 with h|h
 .omega
 .obtain⟨k,h1,h2,-⟩:=(hX.gx u hu).mapAt_some h;omega
def Qtf:Qpg Tryz.prog 21:=λL z a hl hb H=>Has.ixTokAt (tTk:=47) ⟨_,Tryz.func21,by kernel_rfl⟩ L z a hl hb H
def Qy4:Quc Tryz.prog 33:=λS t hl H=>Has.ixMapAt (tMap:=74) (tBd:=82) (tMn:=116) ⟨_,Tryz.func33,by kernel_rfl⟩ S t hl H
def Qxl{S:List Un}(hX:PrjX S):Qtb Tryz.prog S 34:=λu hu b hb H=>Has.ixOf (imp:=54) (unit:=20) (tU:=76) (tBd:=82) (tSy:=53) (tIm:=118) ⟨_,Tryz.func34,by kernel_rfl⟩ u (Qco S hX.ok) (λb hb H=>Qzb S hX.ok u hu b hb H) b hb H
def Q1g:Qyb Tryz.prog 18:=λS hX m a H=>Has.ixAt (unit:=20) (tokAt:=21) (mapAt_:=33) (ixOf:=34) (tSp:=24) (tSy:=53) (tU:=76) ⟨_,Tryz.func18,by kernel_rfl⟩ (Qco S hX.ok) Qtf Qy4 (Qxl hX) (bd40 hX) (mt40 hX) m a H
def Qxk{S:List Un}(hX:PrjX S):Qru Tryz.prog S 35:=λu hu i hi H=>by have hs:=hX.sx u hu;have:=Has.scUses (srt:=55) (tm:=74) (mn:=116) (tint:=3) ⟨_,Tryz.func35,by kernel_rfl⟩ Qut (S:=u.sm) (z1:=u.sm.bs.isEmpty) (z2:=u.sm.ms.isEmpty) (bad:=.sl u.sm.bad.isEmpty 2 (u.sm.bad.map Q2)) (by have:=hs.2.2;omega) i hi H;exact this
def Q0t{S:List Un}(hX:PrjX S)(s:Bs×Int):(Qj8 S s).length<=1099511627776:=by
 have h:=Qdv (g:=plU S s) (T:=S) (b:=4294967296) λu hu=>by obtain⟨g1,g2,-⟩:=hX.sx u hu;have:=Qtp S u s u.tk.length;have h2:u.tk.length*u.sm.bs.length<=65536*65536:=Nat.mul_le_mul g1 g2;unfold plU;omega
 have h8:=hX.ok.len;have:(Qj8 S s).length<=S.length*4294967296:=h;have h2:S.length*4294967296<=8*4294967296:=Q2z _ h8;omega
def Q1f:Qya Tryz.prog 19:=λS hX s H=>by
 have hp:=Qw2 hX.strict hX.gx s;have hl:(qlS S s S).length=(Qj8 S s).length:=by rw[<-hp,Q33]
 have h:=HasT.ixPlaces (names:=26) (unit:=20) (ixOf:=34) (uses:=35) (ixSort:=28) (srt:=39) (cmp:=40) (tSy:=53) (tU:=76) (tBd:=82) (tSp:=24) ⟨_,Tryz.func19,by kernel_rfl⟩ (λH=>Qor S (len20 hX.ok) H) (Qco S hX.ok) hX.self (Qxl hX) (Qxk hX)
  ⟨_,Tryz.func28,by kernel_rfl⟩ Qpv Qnk hX.ok.len (λu hu=>by have:=(hX.sx u hu).2.1;omega) (λu hu i hi t ht=>(hX.gx u hu).uin i hi t ((Qmd _).mem_iff.1 ht)) s (by rw[hl];exact Q0t hX s) H
 rw[hp]at h;simpa[Wb]using h
def Qxe{H0:Hp}(hG:Qcm 0 1 2 3 H0):Qx9 Tryz.prog H0 4:=Has.ixLoaded (light_:=15) (load:=16) (rload:=17) ⟨_,Tryz.func4,by kernel_rfl⟩ Qxh (Qxf hG) Qyw
def awkOk{H0:Hp}(hG:Qcm 0 1 2 3 H0):Qyf Tryz.prog H0 5:=Has.ixAwake (load:=16) (ixAt:=18) (places:=19) (tSy:=53) ⟨_,Tryz.func5,by kernel_rfl⟩ (Qxf hG) Q1g Q1f
def Q0r:∀(a:List (Bs×Int))(za zb:Bool)(H:Hp),a.length<=1099511627776->Qc Tryz.prog 11 [YL za 2 (a.map Wb),YL zb 2 (a.map Wb)] H (λr H'=>r=YB true/\H'=H):=λa za zb H hl=>by simpa using Has.ixSame ⟨_,Tryz.func11,by kernel_rfl⟩ a a za zb hl H
def Qyj:∀S,PrjX S->∀(w:Bs)(H:Hp),Qc Tryz.prog 12 [pA S,YS w] H (λr H'=>r=YL true 2 ((Zg S w).map Wb)/\H'=H):=λS hX w H=>HasT.ixWords (names:=26) (unit:=20) (tU:=76) (tTk:=47) (tSp:=24) ⟨_,Tryz.func12,by kernel_rfl⟩ (λH=>Qor S (len20 hX.ok) H) (Qco S hX.ok) hX.self hX.ok.len (λu hu=>by have:=(hX.sx u hu).1;omega) w H
def Ql8{S:List Un}(hX:PrjX S):∀u∈S,LabU u:=λu hu=>by obtain⟨m,rfl⟩:=hX.rd u hu;exact Qr9 m
def Qzv{S:List Un}(hX:PrjX S):∀u∈S,∀p∈u.tr.lb,SWd u.tk p.1 p.2:=λu hu p hp=>by obtain⟨⟨e,h⟩,-⟩:=Ql8 hX u hu;exact(h.mem p hp).1
def Qnx:∀n H,Qc Tryz.prog 24 [N.v n] H (λr H'=>r=YB (isLb n.k)/\H'=H):=λn H=>Has.ixIsLabel (tN:=37) ⟨_,Tryz.func24,by kernel_rfl⟩ n H
def Qve:∀S,PrjX S->∀(m:Bs)(a:Int)(H:Hp),Qc Tryz.prog 6 [pA S,.agg [YS m,YI a]] H (λr H'=>r=.tup [YS (Qhy S m a).1,YB (Qhy S m a).2]/\H'=H):=λS hX m a H=>Has.ixLabel (unit:=20) (tokAt:=21) (walk:=22) (labelC:=23) (tSp:=24) (tU:=76) (t3:=3) (t9:=9) (t4:=4) (isLabel:=24) (tN:=37) ⟨_,Tryz.func6,by kernel_rfl⟩ ⟨_,Tryz.func22,by kernel_rfl⟩ ⟨_,Tryz.func23,by kernel_rfl⟩ (by kernel_rfl) Qnx (Qco S hX.ok) Qtf hX (Qzv hX) (λu hu=>by have:=(Ql8 hX u hu).2;omega) m a H
def Qsf:∀S,PrjX S->∀(w:Bs)(H:Hp),Qc Tryz.prog 14 [pA S,YS w] H (λr H'=>r=YL (rlSy S w false).isEmpty 2 ((rlSy S w false).map Wb)/\H'=H):=λS hX w H=>by have h:=Has.ixLabels (names:=26) (unit:=20) (walk:=22) (ixSort:=28) (labelsC:=27) (t9:=9) (t53:=55) (tU:=76) (srt:=39) (cmp:=40) (isLabel:=24) (tN:=37) (tSp:=24) ⟨_,Tryz.func14,by kernel_rfl⟩ (λH=>Qor S (len20 hX.ok) H) (Qco S hX.ok) hX.self ⟨_,Tryz.func22,by kernel_rfl⟩ ⟨_,Tryz.func27,by kernel_rfl⟩ (by kernel_rfl) Qnx ⟨_,Tryz.func28,by kernel_rfl⟩ Qpv Qnk hX.ok.len (Qzv hX) (λu hu=>by have:=(Ql8 hX u hu).2;omega) w H;rw[Q1d hX.strict hX.gx (Ql8 hX)]at h;simpa using h
def Q06:∀n:N,n.size<=1073741824->∀H,Qc Tryz.prog 25 [n.v] H (λr H'=>r=YL false 6 (n.pre.map N.enc)/\H'=H):=λn hs H=>HasT.ixListN (tN:=37) ⟨_,Tryz.func25,by kernel_rfl⟩ n hs H
def Qly:∀S,PrjX S->∀u∈S,∀(t:Int)(H:Hp),Qc Tryz.prog 9 [.agg (u.encR.map .d),YI t] H (λr H'=>r=YB (islT u t)/\H'=H):=λS hX u hu t H=>Has.ixRIsLabel (listN:=25) (tR:=44) ⟨_,Tryz.func9,by kernel_rfl⟩ Q06 u (by have:=(Ql8 hX u hu).2;omega) t H
def Qu0:∀S,PrjX S->∀(w:Bs)(all:Bool)(H:Hp),Qc Tryz.prog 13 [YL true 14 (S.map Un.encR),YS w,YB all] H (λr H'=>r=YL true 2 ((rlSy S w all).map Wb)/\H'=H):=λS hX w all H=>HasT.ixRLabels (rIsLabel:=9) (tTk:=47) (tSp:=24) ⟨_,Tryz.func13,by kernel_rfl⟩ (Qly S hX) hX.ok.len hX.sx w all H
def rlLen:∀S,PrjX S->∀w all,(rlSy S w all).length<=1099511627776:=λS hX w all=>by
 have h:=Qdv (g:=rlU w all) (T:=S) (b:=65536) λu hu=>by have h1:=Qkx w all u u.tk.length;have h2:=(hX.sx u hu).1;unfold rlU;omega
 have h2:S.length*65536<=8*65536:=Q2z _ hX.ok.len;have:(rlSy S w all).length<=S.length*65536:=h;omega
def Qy8:∀S,PrjX S->∀(m:Bs)(H:Hp),Qc Tryz.prog 10 [pA S,YS m] H (λr H'=>r=YL true 2 (Qec S m)/\H'=H):=λS hX m H=>HasT.ixItems (unit:=20) (tU:=76) (tBd:=82) (tSy:=53) ⟨_,Tryz.func10,by kernel_rfl⟩ (Qco S hX.ok) (λu hu=>by have:=(hX.sx u hu).2.1;omega) m H
def Q0s:Qx7 Tryz.prog 8:=λL z a ha hl hb H=>Has.ixTokAtR ⟨_,Tryz.func8,by kernel_rfl⟩ L z a ha hl hb H
def lawOk{H0:Hp}(hG:Qcm 0 1 2 3 H0)(l:List Mod)(z:Bool)(w:Bs)(m:Bs)(a:Int)(ha:a<=9223372036854775807)(hl:l.length<=1048576)(hm:∀m∈l,m.n.length<=1048576/\m.t.length<=1048576)(H:Hp)(hH:Pre0 H0 H):
 Qc Tryz.prog 3 [YL z 2 (l.map encM),YS w,.agg [YS m,YI a]] H (λr H'=>r=YB true/\H'=H):=
 Has.ixLWords (loaded:=4) (awake:=5) (label:=6) (rfind:=7) (tokAtR:=8) (rIsLabel:=9) (items:=10) (words:=12) (rLabels:=13) (same:=11) (labels:=14) (tSp:=24) (tBe:=51) ⟨_,Tryz.func3,by kernel_rfl⟩ (Qxe hG) (awkOk hG) Qve (λS hX=>Qyy (len20 hX.ok) true) Q0s Qly Qy8 Qyj Qu0 Q0r Qsf rlLen l z w m a ha hl hm H hH
end
end Go.Proofs.Zw
namespace Go.Zam
def Qs6{P:Program}{t:TypeId}{fs:Array Field}{x y:D}{a:A}(hu:P.underlying t=some (.struct fs))(h:Qd4 P t [x,y] a):a=.agg [.d x,.d y]:=by unfold Qd4 at h;rw[hu]at h;exact h
end Go.Zam
namespace Go.Proofs.Zw
open Go Go.Zam Go.Proofs
def tyMod(n:Nat)(ds:List D)(h:Typed Tryz.prog n 66 ds):∃m:Mod,ds=encM m:=by obtain⟨m,h⟩:=Qhk Tryz.underlying66 h;obtain⟨a,r,rfl,ha,b,r,rfl,hb,rfl⟩:=h;obtain⟨s,rfl⟩:=Qf4 Tryz.underlying9 ha;obtain⟨t,rfl⟩:=Qf4 Tryz.underlying9 hb;exact⟨⟨s,t⟩,rfl⟩
def arg_mods{n:Nat}{ds:List D}{a:A}(h:Typed Tryz.prog n 22 ds)(ha:Qd4 Tryz.prog 22 ds a):∃z,∃l:List Mod,a=YL z 2 (l.map encM)/\(l.length<=D.bulkC ds/\∀m∈l,m.n.length<=D.bulkC ds/\m.t.length<=D.bulkC ds):=by obtain⟨z,l,rfl⟩:=Qv5 (sz:=2) Tryz.underlying22 (by kernel_rfl) tyMod h;refine⟨z,l,Qoa (by rw[Tryz.underlying22];simp) ha,?_⟩;have h1:=Qn8 (enc:=encM) (λm=>by simp only[encM,D.bulkC,D.bulk];omega) l;simp only[D.bulkC,D.bulk];refine⟨by omega,λm hm=>?_⟩;have h2:=Qvt (List.mem_map_of_mem (f:=encM) hm);simp only[encM,D.bulkC,D.bulk]at h2;omega
def arg_spot{n:Nat}{ds:List D}{a:A}(h:Typed Tryz.prog n 24 ds)(ha:Qd4 Tryz.prog 24 ds a):∃o:Bs×Int,a=.agg [YS o.1,YI o.2]/\o.2<=9223372036854775807:=by obtain⟨m,h⟩:=Qhk Tryz.underlying24 h;obtain⟨x,r,rfl,hx,y,r,rfl,hy,rfl⟩:=h;obtain⟨s,rfl⟩:=Qf4 Tryz.underlying9 hx;obtain⟨t,rfl,-,ht⟩:=Qul Tryz.underlying3 hy;exact⟨(s,t),Qs6 Tryz.underlying24 ha,ht⟩
end Go.Proofs.Zw
