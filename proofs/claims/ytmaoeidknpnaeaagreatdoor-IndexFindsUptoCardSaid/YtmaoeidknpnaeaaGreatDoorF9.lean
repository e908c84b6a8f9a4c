import Derived.Test.YtmaoeidknpnaeaaGreatDoorF8
import Derived.Test.YtmaoeidknpnaeaaGreatDoorF2
import Derived.Test.YtmaoeidknpnaeaaGreatDoorProg
import Derived.Test.YtmaoeidknpnaeaaGreatDoorF3
import Derived.Test.YtmaoeidknpnaeaaGreatDoorF6
import Derived.Test.YtmaoeidknpnaeaaGreatDoorF4
import Derived.Shelf.GgSortFunc.InsertionK
import Derived.Test.YtmaoeidknpnaeaaGreatDoorF5
import Derived.Shelf.Sort.Plain
import Derived.Shelf.Slices.In.SortNone
import Derived.Shelf.SlSortCmp.NoneTotal
import Derived.Shelf.SlSortCmp.WholeK
import Derived.Shelf.Small.Bits
import Derived.Shelf.Lays
import Derived.Ground.NamesProg
import Derived.Ground.SlsfProg
import Derived.Lib.Small
import Derived.Lib.Walk
import Derived.WalkKit
import Derived.Sort.Grow
import Derived.StillTailTactics
import Derived.RangeFuncRecord
import Derived.Test.YtmaoeidknpnaeaaGreatDoorF7
import Derived.KernelRfl
set_option linter.all false
set_option maxRecDepth 100000
set_option maxHeartbeats 4000000
namespace Go.Zam
variable{P:Program}
section
open Go.Proofs
def Zr(S:List Un)(m:Bs)(t:Int):Option SBd:=(Vd S m).bind λu=>u.sm.bs.find? λb=>decide (b.a=t)
def zBd:SBd:=⟨0,0,[],0⟩
theorem Has.ixBinding{f unit tU tBd tSy:Nat}{S:List Un}(h:Has P f (Qfi unit tSy tBd tU))(hu:Qgx P S unit)(hs:∀u∈S,u.sm.bs.length<=1073741824)(m:Bs)(t:Int)(H:Hp):
 Qc P f [pA S,.agg [YS m,YI t]] H (λr H'=>r=.tup [.agg ((Qq ((Zr S m t).getD zBd)).map .d),YB (Zr S m t).isSome]/\H'=H):=by
 refine Qe h (by simp[Qfi]) λhcl _=>?_;have hun:=λX=>hu m (H++X);obtain⟨u,hue,hul,hui⟩:∃u:Un,((Vd S m).elim zU Un.enc)=u.enc/\u.sm.bs.length<=1073741824/\Zr S m t=u.sm.bs.find? λb=>decide (b.a=t):=by
  unfold Zr;cases hv:Vd S m with
  |none=>exact⟨noU,Qx4.symm,by decide,rfl⟩
  |some u=>exact⟨u,rfl,hs u (Qfq hv),rfl⟩
 rw[hue]at hun;rw[hui];generalize(Vd S m).isSome=ok at hun;obtain⟨zu,ms,he⟩:=u.enc_all;rw[he]at hun;simp only[Q1q,Q10]at hun;simp[Qfi];refine Qa (hun _) ?_;simp;generalize hbx:Ob.box tU [A.d (.str u.n),A.d (.str u.t),A.d (.sl true 4 (u.tk.map Qp)),A.d (.int .i64 u.tr.k),A.d (.int .i64 u.tr.f),A.d (.int .i64 u.tr.t),A.d (.str u.tr.w),A.d (.int .i64 u.tr.at_),A.d (.sl zu 6 (u.tr.ks.map N.enc)),A.d (.sl u.sm.bs.isEmpty 4 (u.sm.bs.map Qq)),A.d ms,A.d (.sl u.sm.bad.isEmpty 2 (u.sm.bad.map Q2)),A.d (.int .i64 u.bad),A.d (.int .i64 u.pos)]=bx;generalize u.sm.bs=B at*;refine Qm 0 (λfr H'=>fr 4=.ptr (H.length+1) 0/\B.find? (λb=>decide (b.a=t))=none/\H'=H++[.box tSy [YS m,YI t],.box tBd [YI 0,YI 0,YS [],YI 0],bx])
  (λfr H'=>∃b X,B.find? (λb=>decide (b.a=t))=some b/\fr 4=.ptr (H.length+1) 0/\fr 5=YB true/\H'=H++.box tSy [YS m,YI t]::.box tBd [YI b.a,YI b.k,YS b.w,YI b.i]::X) ?_ ?_ ?_
 .refine Wt (H.length+3) B.length (λj fr H'=>fr 3=.ptr H.length 0/\fr 4=.ptr (H.length+1) 0/\fr 19=YL B.isEmpty 4 (B.map Qq)/\B.find? (λb=>decide (b.a=t))=(B.drop j).find? (λb=>decide (b.a=t))/\
   H'=H++[.box tSy [YS m,YI t],.box tBd [YI 0,YI 0,YS [],YI 0],bx]) (by omega) (by decide) (by simp[<-hbx]) (by simp[<-hbx]) ?_ ?_ ?_
  .simp[Qk hcl,<-hbx]
  .rintro j fr H' hj fi fn ⟨f3,f4,f19,hd,rfl⟩;obtain⟨b,hb⟩:∃b,B[j]?=some b:=⟨_,Q0x hj⟩;have hdr:B.drop j=b::B.drop (j+1):=by rw[Q1h hj];congr 1;rw[Q0x hj]at hb;cases hb;rfl
   rw[hdr]at hd;have hr:Zam.rowAt (B.map Qq) (j:Int)=some [.int .i64 b.a,.int .i64 b.k,.str b.w,.int .i64 b.i]:=by simp[Zam.rowAt,hb,Qq]
   by_cases hp:b.a=t
   .rw[Q3n (by simpa using hp)]at hd;simp[fi,f19,hr,f3,f4,hp];exact⟨b,hd,by simp[hp]⟩
   .rw[Q3h (by simpa using hp)]at hd;simp[fi,f19,hr,f3,hp];refine Wl (H.length+3) (Q00 _) (by simp[fi,fn]) ?_;refine⟨by simp[f3],by simp[f4],by simp[f19],hd,by simp[Qk hcl,<-hbx]⟩
  .rintro fr H' fi fn ⟨f3,f4,f19,hd,rfl⟩;rw[Q3x]at hd;refine⟨by simp[f4],by rw[hd];rfl,rfl⟩
 .rintro fr H' ⟨b,X,h1,f4,f5,rfl⟩;simp[f4,f5];simp[RetK,Qd hcl,h1,Qq]
 .rintro fr H' ⟨f4,h1,rfl⟩;simp[f4];simp[RetK,Qd hcl,h1,Qq,zBd]
end
section
open Go.Proofs
def Wr(p:Bs×Int):List D:=[.str p.1,.int .i64 p.2]
def Qyu(P:Program)(S:List Un)(f:Nat):Prop:=∀H:Hp,Qc P f [pA S] H (λr H'=>r=YL true 1 (S.map λu=>[.str u.n])/\H'=H)
def Qy7(S:List Un):Prop:=∀u∈S,Vd S u.n=some u
end
section
open Go.Proofs
def Qso(P:Program)(S:List Un)(f:Nat):Prop:=∀(m:Bs)(t:Int)(H:Hp),Qc P f [pA S,.agg [YS m,YI t]] H (λr H'=>r=.tup [.agg ((Qq ((Zr S m t).getD zBd)).map .d),YB (Zr S m t).isSome]/\H'=H)
def bySy(S:List Un)(m:Bs)(t:Int):Int:=match Vd S m with
 |some u=>spU u t
 |none=>0
theorem Qqu{S:List Un}{m:Bs}{t:Int}(h:(Zr S m t).isSome=true):∃u b,Vd S m=some u/\b∈u.sm.bs/\b.a=t:=by
 unfold Zr at h;cases hv:Vd S m with
 |none=>rw[hv]at h;simp at h
 |some u=>rw[hv]at h;simp only[Q5p,List.find?_isSome,decide_eq_true_eq]at h;obtain⟨b,h1,h2⟩:=h;exact⟨u,b,rfl,h1,h2⟩
theorem Has.ixPlace{f ixBinding unit tSy tSp tBd tU:Nat}{S:List Un}(h:Has P f (Qi7 ixBinding unit tSy tSp tBd tU))(hb:Qso P S ixBinding)(hu:Qgx P S unit)(hg:∀u∈S,GdU u)(hl:∀u∈S,u.tk.length≤1099511627776)(m:Bs)(t:Int)(H:Hp):
 Qc P f [pA S,.agg [YS m,YI t]] H (fun r H'=>r=.tup [.agg ((Wr (if(Zr S m t).isSome then(m,bySy S m t)else([],0))).map .d),YB (Zr S m t).isSome]∧H'=H):=by
 refine Qe h (by simp[Qi7]) fun hcl _=>?_;have hun:=fun X=>hu m (H++X);have hbi:=fun X=>hb m t (H++X);have hsm:=Qqu (S:=S) (m:=m) (t:=t);generalize hbb:Zr S m t=B at hbi hsm⊢;simp only[Qq,Q1q,Q10]at hbi;simp[Qi7];refine Qa (hbi _) ?_;cases B with
 |none=>
  simp;simp[RetK,Qd hcl,Wr]
 |some b0=>
  obtain⟨u,b,h1,h2,h3⟩:=hsm rfl;have huS:=Qfq h1;obtain⟨p1,p2⟩:=(hg u huS).pos b h2;rw[h3]at p1 p2;obtain⟨q,rfl⟩:∃q:Nat,t=q:=⟨t.toNat,by omega⟩;have hq:q<u.tk.length:=by omega
  have hr:Zam.rowAt (u.tk.map Qp) (q:Int)=some (Qp u.tk[q]):=Qt Qp hq;have hby:bySy S m q=(u.tk[q].a:Int):=by
   unfold bySy spU;rw[h1];simp[hq]
  obtain⟨zu,ms,he⟩:=u.enc_all;rw[h1]at hun;simp only[Q3v,Q3o,he,Q1q,Q10]at hun;rw[hby];generalize u.tk[q]=tk at*;simp only[Qp]at hr;simp;refine Qa (hun _) ?_;simp[hr];simp[RetK,Qd hcl,Wr]
end
section
open Go.Proofs
theorem Qlf{S:List Un}(hS:Sorted cU S)(u:Un)(b:SBd):((impR S u b).2<0/\ofSy S u b=(u.n,b.a))\/
 ∃(q j:Nat)(v:Un)(c:SBd),(impR S u b).2=q/\fdU (impR S u b).1 S 0=j/\S[j]?=some v/\v.sm.bs[q]?=some c/\ofSy S u b=((impR S u b).1,c.a):=by
 rw[<-Q0e hS];unfold impU ofSy;by_cases hk:b.k=1
 .rw[if_pos hk,if_pos hk];simp only;rcases Qib hS (modN u b).w with⟨h1,h2⟩|⟨j,v,h1,h2,h3⟩
  .rw[h1];exact .inl ⟨by simp,rfl⟩
  .rw[h1];simp only[Q3v];rcases Qhe (w:=b.w) (l:=v.sm.bs) (i:=0) (p:=-1)with h|⟨q,c,g1,g2,g3,g4⟩
   .refine .inl ⟨by rw[h];decide,?_⟩;rw[h];cases v.sm.bs[(-1:Int).toNat]?<;>simp
   .rw[Q4d]at g1;refine .inr ⟨q,j,v,c,g1,h2,h3,g2,?_⟩;rw[g1,Q2e,g2];simp
 .rw[if_neg hk,if_neg hk];exact .inl ⟨by decide,rfl⟩
def Qml(P:Program)(S:List Un)(z:Bool)(f:Nat):Prop:=∀u∈S,∀b∈u.sm.bs,∀H,Qc P f [YL z 14 (S.map Un.encR),.agg (u.encR.map .d),.agg ((Qq b).map .d)] H (λr H'=>r=.agg [YS (ofSy S u b).1,YI (ofSy S u b).2]/\H'=H)
theorem Has.ixRStands{f rimp rfind tR tBe tRy:Nat}{S:List Un}{z:Bool}(h:Has P f (Qff rimp rfind tR tBe tRy))(hS:Sorted cU S)(hi:Qxe P S z rimp)(hf':Qij P S z rfind)(u:Un)(hu:u∈S)(b:SBd)(hb:b∈u.sm.bs)(H:Hp):
 Qc P f [YL z 14 (S.map Un.encR),.agg (u.encR.map .d),.agg ((Qq b).map .d)] H (λr H'=>r=.agg [YS (ofSy S u b).1,YI (ofSy S u b).2]/\H'=H):=by
 refine Qe h (by simp[Qff]) λhcl _=>?_;obtain⟨zu,ms,he⟩:=u.encR_all;have him:=λX=>hi u hu b hb (H++X);have hfd:=λX=>hf' (impR S u b).1 (H++X);have hcs:=Qlf hS u b;rw[he]at him;simp only[Qq,Q1q,Q10]at him;generalize impR S u b=I at*;obtain⟨I1,I2⟩:=I;simp only at him hfd hcs;simp[Qff,he,Qq];refine Qa (him _) ?_;rcases hcs with⟨h1,h2⟩|⟨q,j,v,c,h1,h2,h3,h4,h5⟩
 .rw[h2];have h1':¬0<=I2:=by omega
  simp[h1'];simp[RetK,Qd hcl]
 .rw[h5];subst h1;rw[h2]at hfd;obtain⟨zv,mv,hve⟩:=v.encR_all;have hrv:Zam.rowAt (S.map Un.encR) (j:Int)=some v.encR:=by simp[Zam.rowAt,h3]
  have hrc:Zam.rowAt (v.sm.bs.map Qq) (q:Int)=some [.int .i64 c.a,.int .i64 c.k,.str c.w,.int .i64 c.i]:=by simp[Zam.rowAt,h4,Qq]
  rw[hve]at hrv;simp;refine Qa (hfd _) ?_;simp[hrv,hrc];simp[RetK,Qd hcl]
theorem Has.ixSame{f:Nat}(h:Has P f Qh6)(a b:List (Bs×Int))(za zb:Bool)(ha:a.length<=1099511627776)(H:Hp):
 Qc P f [YL za 2 (a.map Wr),YL zb 2 (b.map Wr)] H (λr H'=>r=YB (decide (a=b))/\H'=H):=by
 refine Qe h (by simp[Qh6]) λhcl _=>?_;by_cases hl:a.length=b.length
 .simp[Qh6,hl];refine Qm 0 (λfr H'=>a=b/\H'=H) (λfr H'=>fr 4=YB (decide (a=b))/\∃X,H'=H++X) ?_ ?_ ?_
  .refine Yw H.length a.length (λi fr H'=>fr 0=YL za 2 (a.map Wr)/\fr 1=YL zb 2 (b.map Wr)/\a.take i=b.take i/\H'=H) (by omega) (by decide) (by simp) (by simp) ?_ ?_
   .simp[Qb hcl]
   rintro i fr H' hi f5 ⟨f0,f1,hd,rfl⟩;simp[f5,f0];refine Qh (λh=>?_) (λh=>?_)
   .have hj:i<a.length:=by simpa using h
    obtain⟨x,hx⟩:∃x,a[i]?=some x:=⟨_,Q0x hj⟩;obtain⟨y,hy⟩:∃y,b[i]?=some y:=⟨_,Q0x (by omega)⟩;have hrx:Zam.rowAt (a.map Wr) (i:Int)=some [.str x.1,.int .i64 x.2]:=by simp[Zam.rowAt,hx,Wr]
    have hry:Zam.rowAt (b.map Wr) (i:Int)=some [.str y.1,.int .i64 y.2]:=by simp[Zam.rowAt,hy,Wr]
    by_cases e:x=y
    .subst e;simp[f0,f1,f5,hrx,hry,eqDs,eqD];refine Q8 H'.length (Q00 _) hj (by simp[f5]) ?_;simp[f0,f1,Qb hcl];rw[Q29,Q29,hd,hx,hy]
    .have hne:a≠b:=λh=>by subst h;rw[hx]at hy;cases hy;exact e rfl
     by_cases e1:x.1=y.1
     .have e2:x.2≠y.2:=λh=>e (Prod.ext e1 h);simp[f0,f1,f5,hrx,hry,hne,e1,e2,eqDs,eqD]
     .simp[f0,f1,f5,hrx,hry,hne,e1,eqDs,eqD]
   .have hia:a.length<=i:=by simpa using h
    rw[Q09 hia,Q09 (by omega)]at hd;simp;exact hd
  .rintro fr H' ⟨f4,X,rfl⟩;simp[f4];simp[RetK,Qd hcl]
  .rintro fr H' ⟨h1,rfl⟩;simp[h1];simp[RetK,Qb hcl,h1]
 .have hne:a≠b:=λh=>hl (by rw[h]);have hl':¬((a.length:Int)=b.length):=by omega
  simp[Qh6];refine Qh (λh=>?_) (λh=>?_)
  .simp;simp[RetK,Qb hcl,hne]
  .exact absurd (by simpa using h) hl'
end
section
open Go.Proofs
def hitM(ms:List Mn)(t k:Int):Bool:=ms.any λm=>decide (m.a=t/\m.t=k)
def hitK(b:SBd)(ms:List Mn)(t k:Int):Bool:=decide (b.a=t)||hitM ms t k
def plB(S:List Un)(u:Un)(s:Bs×Int)(t k:Nat):List (Bs×Int):=match u.sm.bs[k]?,u.tk[t]? with
 |some b,some x=>if ofSy S u b=s/\hitK b u.sm.ms t k=true then[(u.n,(x.a:Int))]else[]
 |_,_=>[]
def plT(S:List Un)(u:Un)(s:Bs×Int)(k t:Nat):List (Bs×Int):=(List.range k).flatMap (plB S u s t)
def plV(S:List Un)(u:Un)(s:Bs×Int)(t:Nat):List (Bs×Int):=(List.range t).flatMap (plT S u s u.sm.bs.length)
def plU(S:List Un)(s:Bs×Int)(u:Un):List (Bs×Int):=plV S u s u.tk.length
def Qb4(S:List Un)(s:Bs×Int):List (Bs×Int):=S.flatMap (plU S s)
theorem Qx2(S:List Un)(u:Un)(s:Bs×Int)(t k:Nat):(plB S u s t k).length<=1:=by
 unfold plB;split
 .split<;>simp
 .simp
theorem Qn2(S:List Un)(u:Un)(s:Bs×Int)(t:Nat):∀k,(plT S u s k t).length≤k
 |0=>by simp[plT]
 |k+1=>by
  have h1:=Qn2 S u s t k;have h2:=Qx2 S u s t k;unfold plT at h1⊢;rw[Q4p,Q30,Q1r];simp;simp at h1;omega
theorem Qkc(S:List Un)(u:Un)(s:Bs×Int):∀t,(plV S u s t).length≤t*u.sm.bs.length
 |0=>by simp[plV]
 |t+1=>by
  have h1:=Qkc S u s t;have h2:=Qn2 S u s t u.sm.bs.length;unfold plV at h1⊢;rw[Q4p,Q30,Q1r,Q16];simp;simp at h1;omega
theorem Qpi(S:List Un)(u:Un)(s:Bs×Int)(k t:Nat):plT S u s (k+1) t=plT S u s k t++plB S u s t k:=by unfold plT;rw[Q4p,Q30];simp
theorem Qv6(S:List Un)(u:Un)(s:Bs×Int)(t:Nat):plV S u s (t+1)=plV S u s t++plT S u s u.sm.bs.length t:=by unfold plV;rw[Q4p,Q30];simp
theorem Qrt{T:List Un}{g:Un->List (Bs×Int)}{j:Nat}{u:Un}(h:T[j]?=some u):(T.take (j+1)).flatMap g=(T.take j).flatMap g++g u:=by rw[Q29,h];simp
theorem Qjb{g:Un->List (Bs×Int)}{b:Nat}:∀{T:List Un},(∀u∈T,(g u).length<=b)->(T.flatMap g).length<=T.length*b
 |[],_=>by simp
 |u::r,h=>by have h1:=Qjb (g:=g) (T:=r) λv hv=>h v (by simp[hv]);have h2:=h u (by simp);rw[Q3f,Q1r,Q1d,Q16];omega
theorem Quh{ms:List Mn}{t k:Int}{j:Nat}{m:Mn}(h:ms[j]?=some m):hitM (ms.take (j+1)) t k=(hitM (ms.take j) t k||decide (m.a=t/\m.t=k)):=by unfold hitM;rw[Q29,h];simp
def Sm16(u:Un):Prop:=u.tk.length<=65536/\u.sm.bs.length<=65536/\u.sm.ms.length<=65536
theorem Un.encR_sm(u:Un):∃t c d e f g h i i' k,u.encR=[.str u.n,t,.sl true 4 (u.tk.map Qp),c,d,e,f,g,h,.sl true 4 (u.sm.bs.map Qq),.sl true 4 (u.sm.ms.map Wq),i,i',k]:=by obtain⟨n,t,tk,⟨k,f,to,w,a,z,ks⟩,sm,b,p⟩:=u;exact⟨_,_,_,_,_,_,_,_,_,_,by simp[Un.encR,N.enc_mk,SM.encR];exact⟨rfl,rfl,rfl,rfl,rfl,rfl,rfl,rfl,rfl,rfl⟩⟩
theorem HasT.ixRPlaces{f rStands tRy tBe tRMn tSp:Nat}{S:List Un}{z:Bool}(h:HasT P [5] f (Qfg rStands tRy tBe tRMn tSp))(hst:Qml P S z rStands)(hl:S.length<=8)(hs:∀u∈S,Sm16 u)(s:Bs×Int)(H:Hp):
 Qc P f [YL z 14 (S.map Un.encR),.agg ((Wr s).map .d)] H (λr H'=>r=YL true 2 ((Qb4 S s).map Wr)/\H'=H):=by
 refine Qe h (by simp[Qfg]) λhcl _=>?_;obtain⟨s1,s2⟩:=s;simp[Qfg,Wr];generalize hbx:Ob.box tRy [A.d (.str s1),A.d (.int .i64 s2)]=bx;have hgl:∀u∈S,(plU S (s1,s2) u).length<=4294967296:=λu hu=>by obtain⟨g1,g2,-⟩:=hs u hu;have:=Qkc S u (s1,s2) u.tk.length;have h2:u.tk.length*u.sm.bs.length<=65536*65536:=Q5x g1 g2;unfold plU;omega
 refine Qy 0 (λfr H'=>fr 5=.osl true 2 ((Qb4 S (s1,s2)).map Wr) (H.length+1)/\∃X,H'=H++X) ?_ ?_
 .refine Yw (H.length+2) S.length (λi fr H'=>fr 0=YL z 14 (S.map Un.encR)/\fr 3=.ptr H.length 0/\∃R,R=(S.take i).flatMap (plU S (s1,s2))/\fr 5=.osl true 2 (R.map Wr) (H.length+1)/\H'=H++[bx,.tok R.length 2 tSp]) (by omega) (by decide) (by simp[<-hbx]) (by simp) ?_ ?_
  .exact⟨by simp,by simp,[],by simp,by simp,by simp[Qk hcl,<-hbx]⟩
  rintro i fr H' hi f6 ⟨f0,f3,R,hR,f5,rfl⟩;simp[f6,f0];refine Qh (λh=>?_) (λh=>?_)
  .have hj:i<S.length:=by simpa using h
   obtain⟨u,hu⟩:∃u,S[i]?=some u:=⟨_,Q0x hj⟩;have hum:=Q1g hu;obtain⟨g1,g2,g3⟩:=hs u hum;obtain⟨t0,c0,d0,e0,f0',g0,h0,i0,i0',k0,he⟩:=u.encR_sm;have hru:Zam.rowAt (S.map Un.encR) (i:Int)=some u.encR:=by simp[Zam.rowAt,hu]
   have hstu:=λb hb X=>hst u hum b hb (H++X);rw[he]at hru hstu;simp only[Q1q,Q10]at hstu;have htk:=Qrt (g:=plU S (s1,s2)) hu;rw[<-hR]at htk;have hRl:R.length<=8*4294967296:=by
    have h1:=Qjb (g:=plU S (s1,s2)) (T:=S.take i) (b:=4294967296) λv hv=>hgl v (Q3s hv);rw[<-hR]at h1;have h2:(S.take i).length=i:=by simp;omega
    rw[h2]at h1;exact Q2b h1 (Q1y _ (by omega))
   simp;refine Qy 2 (λfr H2=>fr 0=YL z 14 (S.map Un.encR)/\fr 3=.ptr H.length 0/\fr 6=YI i/\fr 5=.osl true 2 ((R++plU S (s1,s2) u).map Wr) (H.length+1)/\H2=H++[bx,.tok (R++plU S (s1,s2) u).length 2 tSp]) ?_ ?_
   .refine Yw (H.length+2) u.tk.length (λt fr H2=>fr 0=YL z 14 (S.map Un.encR)/\fr 3=.ptr H.length 0/\fr 6=YI i/\∃R2,R2=R++plV S u (s1,s2) t/\fr 5=.osl true 2 (R2.map Wr) (H.length+1)/\H2=H++[bx,.tok R2.length 2 tSp]) (by omega) (by decide) (by simp[<-hbx]) (by simp) ?_ ?_
    .exact⟨by simp[f0],by simp[f3],by simp[f6],R,by simp[plV],by simp[f5],by simp[Qk hcl,<-hbx]⟩
    rintro t fr H2 ht f7 ⟨f0,f3,f6,R2,hR2,f5,rfl⟩;simp[f7,f0,f6,hru];refine Qh (λh=>?_) (λh=>?_)
    .have htj:t<u.tk.length:=by simpa using h
     obtain⟨x,hx⟩:∃x,u.tk[t]?=some x:=⟨_,Q0x htj⟩;have hrx:Zam.rowAt (u.tk.map Qp) (t:Int)=some [.int .i64 x.k,.int .i64 (x.a:Int),.str x.l,.str x.x]:=by simp[Zam.rowAt,hx,Qp]
     have hR2l:R2.length<=9*4294967296:=by have h1:=Qkc S u (s1,s2) t;have h2:t*u.sm.bs.length<=65536*65536:=Q5x (by omega) g2;rw[hR2,Q1r];omega
     have hV:=Qv6 S u (s1,s2) t;simp;refine Qy 4 (λfr H3=>fr 0=YL z 14 (S.map Un.encR)/\fr 3=.ptr H.length 0/\fr 6=YI i/\fr 7=YI t/\fr 5=.osl true 2 ((R2++plT S u (s1,s2) u.sm.bs.length t).map Wr) (H.length+1)/\H3=H++[bx,.tok (R2++plT S u (s1,s2) u.sm.bs.length t).length 2 tSp]) ?_ ?_
     .refine Yw (H.length+2) u.sm.bs.length (λk fr H3=>fr 0=YL z 14 (S.map Un.encR)/\fr 3=.ptr H.length 0/\fr 6=YI i/\fr 7=YI t/\∃R3,R3=R2++plT S u (s1,s2) k t/\fr 5=.osl true 2 (R3.map Wr) (H.length+1)/\H3=H++[bx,.tok R3.length 2 tSp]) (by omega) (by decide) (by simp[<-hbx]) (by simp) ?_ ?_
      .exact⟨by simp[f0],by simp[f3],by simp[f6],by simp[f7],R2,by simp[plT],by simp[f5],by simp[Qk hcl,<-hbx]⟩
      rintro k fr H3 hk f8 ⟨f0,f3,f6,f7,R3,hR3,f5,rfl⟩;simp[f8,f0,f6,hru];refine Qh (λh=>?_) (λh=>?_)
      .have hkj:k<u.sm.bs.length:=by simpa using h
       obtain⟨b,hb⟩:∃b,u.sm.bs[k]?=some b:=⟨_,Q0x hkj⟩;have hrb:Zam.rowAt (u.sm.bs.map Qq) (k:Int)=some [.int .i64 b.a,.int .i64 b.k,.str b.w,.int .i64 b.i]:=by simp[Zam.rowAt,hb,Qq]
       have hstb:=hstu b (Q1g hb);simp only[Qq,Q1q,Q10]at hstb;have hR3l:R3.length<=10*4294967296:=by have h1:=Qn2 S u (s1,s2) t k;rw[hR3,Q1r];omega
       have hT:=Qpi S u (s1,s2) k t;have hB:plB S u (s1,s2) t k=if ofSy S u b=(s1,s2)/\hitK b u.sm.ms t k=true then[(u.n,(x.a:Int))]else[]:=by unfold plB;rw[hb,hx]
       have happ:=λX=>Qw8 (H:=H++[bx]) (X:=X) (R:=R3.map Wr) (n:=R3.length) (b:=24) (sz:=2) (e:=tSp) [[.str u.n,.int .i64 (x.a:Int)]] (by simp) (by simp;omega);simp only[Q2t,Q1r,Q1f,Q59]at happ;have nxt:∀(fr2:Fr)(R4:List (Bs×Int))(X:Hp),R4=R2++plT S u (s1,s2) (k+1) t->fr2 8=YI k->fr2 0=YL z 14 (S.map Un.encR)->fr2 3=.ptr H.length 0->fr2 6=YI i->fr2 7=YI t->fr2 5=.osl true 2 (R4.map Wr) (H.length+1)->
        Qik (λk fr H3=>fr 0=YL z 14 (S.map Un.encR)/\fr 3=.ptr H.length 0/\fr 6=YI i/\fr 7=YI t/\∃R3,R3=R2++plT S u (s1,s2) k t/\fr 5=.osl true 2 (R3.map Wr) (H.length+1)/\H3=H++[bx,.tok R3.length 2 tSp]) .mk (H.length+2) u.sm.bs.length 8 38 39 k fr2 (H++(bx::.tok R4.length 2 tSp::X)):=λfr2 R4 X e1 u8 u0 u3 u6 u7 u5=>by
        refine Q8 (H.length+2) (Q00 _) hkj (by simp[u8]) ?_;exact⟨by simp[u0],by simp[u3],by simp[u6],by simp[u7],R4,e1,by simp[u5],by simp[Qk hcl,<-hbx]⟩
       simp[f0,f6,hru,f8,hrb];refine W5 (hstb _) ?_;by_cases hof:ofSy S u b=(s1,s2)
       .have o1:(ofSy S u b).1=s1:=by rw[hof]
        have o2:(ofSy S u b).2=s2:=by rw[hof]
        simp[o1,o2,f3,<-hbx,f7,eqDs,eqD];generalize hby:Ob.box tBe [A.d (.int .i64 b.a),A.d (.int .i64 b.k),A.d (.str b.w),A.d (.int .i64 b.i)]=bb;rw[hbx];refine Qy 6 (λfr H4=>fr 0=YL z 14 (S.map Un.encR)/\fr 3=.ptr H.length 0/\fr 6=YI i/\fr 7=YI t/\fr 8=YI k/\fr 5=.osl true 2 (R3.map Wr) (H.length+1)/\fr 10=YB (hitK b u.sm.ms t k)/\∃X,H4=H++(bx::.tok R3.length 2 tSp::X)) ?_ ?_
        .refine Yw (H.length+3) u.sm.ms.length (λq fr H4=>fr 0=YL z 14 (S.map Un.encR)/\fr 3=.ptr H.length 0/\fr 6=YI i/\fr 7=YI t/\fr 8=YI k/\fr 5=.osl true 2 (R3.map Wr) (H.length+1)/\fr 10=YB (decide (b.a=(t:Int))||hitM (u.sm.ms.take q) t k)/\H4=H++[bx,.tok R3.length 2 tSp,bb]) (by omega) (by decide) (by simp[<-hbx,<-hby]) (by simp) ?_ ?_
         .exact⟨by simp[f0],by simp[f3],by simp[f6],by simp[f7],by simp[f8],by simp[f5],by simp[hitM],by simp[Qk hcl,<-hbx,<-hby]⟩
         rintro q fr H4 hq f11 ⟨f0,f3,f6,f7,f8,f5,f10,rfl⟩;simp[f11,f0,f6,hru];refine Qh (λh=>?_) (λh=>?_)
         .have hqj:q<u.sm.ms.length:=by simpa using h
          obtain⟨mm,hm⟩:∃mm,u.sm.ms[q]?=some mm:=⟨_,Q0x hqj⟩;have hrm:Zam.rowAt (u.sm.ms.map Wq) (q:Int)=some [.int .i64 mm.a,.int .i64 mm.t,.bool mm.wr,.int .i64 mm.far]:=by simp[Zam.rowAt,hm,Wq]
          have hM:=Quh (t:=t) (k:=k) hm;have nx6:∀(fr2:Fr)(X:Hp),fr2 11=YI q->fr2 0=YL z 14 (S.map Un.encR)->fr2 3=.ptr H.length 0->fr2 6=YI i->fr2 7=YI t->fr2 8=YI k->fr2 5=.osl true 2 (R3.map Wr) (H.length+1)->fr2 10=YB (decide (b.a=(t:Int))||hitM (u.sm.ms.take (q+1)) t k)->
           Qik (λq fr H4=>fr 0=YL z 14 (S.map Un.encR)/\fr 3=.ptr H.length 0/\fr 6=YI i/\fr 7=YI t/\fr 8=YI k/\fr 5=.osl true 2 (R3.map Wr) (H.length+1)/\fr 10=YB (decide (b.a=(t:Int))||hitM (u.sm.ms.take q) t k)/\H4=H++[bx,.tok R3.length 2 tSp,bb]) .mk (H.length+3) u.sm.ms.length 11 71 72 q fr2 (H++(bx::.tok R3.length 2 tSp::bb::X)):=λfr2 X u11 u0 u3 u6 u7 u8 u5 u10=>by
           refine Q8 (H.length+3) (Q00 _) hqj (by simp[u11]) ?_;exact⟨by simp[u0],by simp[u3],by simp[u6],by simp[u7],by simp[u8],by simp[u5],by simp[u10],by simp[Qk hcl,<-hbx,<-hby]⟩
          generalize hacc:(decide (b.a=(t:Int))||hitM (u.sm.ms.take q) t k)=acc at f10;have hM2:(decide (b.a=(t:Int))||hitM (u.sm.ms.take (q+1)) t k)=(acc||decide (mm.a=(t:Int)/\mm.t=(k:Int))):=by rw[hM,<-Bool.or_assoc,hacc]
          cases acc with
          |true=>simp[f0,f6,f11,hru,hrm,f10];exact nx6 _ _ (by simp[f11]) (by simp[f0]) (by simp[f3]) (by simp[f6]) (by simp[f7]) (by simp[f8]) (by simp[f5]) (by rw[hM2];simp)
          |false=>
           by_cases e1:mm.a=(t:Int)
           .by_cases e2:mm.t=(k:Int)
            .simp[f0,f6,f11,hru,hrm,f10,e1,e2,f7,f8];exact nx6 _ _ (by simp[f11]) (by simp[f0]) (by simp[f3]) (by simp[f6]) (by simp[f7]) (by simp[f8]) (by simp[f5]) (by rw[hM2];simp[e1,e2])
            .simp[f0,f6,f11,hru,hrm,f10,e1,e2,f7,f8];exact nx6 _ _ (by simp[f11]) (by simp[f0]) (by simp[f3]) (by simp[f6]) (by simp[f7]) (by simp[f8]) (by simp[f5]) (by rw[hM2];simp[e1,e2])
           .simp[f0,f6,f11,hru,hrm,f10,e1,f7,f8];exact nx6 _ _ (by simp[f11]) (by simp[f0]) (by simp[f3]) (by simp[f6]) (by simp[f7]) (by simp[f8]) (by simp[f5]) (by rw[hM2];simp[e1])
         .have hia:u.sm.ms.length<=q:=by simpa using h
          rw[Q09 hia]at f10;simp;exact⟨f0,f3,f6,f7,f8,f5,f10⟩
        .rintro fr H4 ⟨f0,f3,f6,f7,f8,f5,f10,X,rfl⟩;cases hh:hitK b u.sm.ms t k with
         |true=>rw[hh]at f10;rw[if_pos ⟨hof,hh⟩]at hB;simp[f10,f0,f6,f7,hru,hrx,f5,happ];refine Q8 (H.length+2) (Q00 _) hkj (by simp[f8]) ?_;exact⟨by simp[f0],by simp[f3],by simp[f6],by simp[f7],R3++[(u.n,(x.a:Int))],by rw[hT,hB,hR3,Q1f],by simp[Wr],by simp[Qk hcl,<-hbx]⟩
         |false=>rw[hh]at f10;rw[if_neg (λh=>by rw[hh]at h;exact absurd h.2 (by simp))]at hB;simp[f10];exact nxt _ R3 _ (by rw[hT,hB,hR3,Q1i]) (by simp[f8]) (by simp[f0]) (by simp[f3]) (by simp[f6]) (by simp[f7]) (by simp[f5])
       .rw[if_neg (λh=>hof h.1)]at hB;have hne:¬((ofSy S u b).1=s1/\(ofSy S u b).2=s2):=λh=>hof (Prod.ext h.1 h.2);have nx:=λfr2 X h8 h0 h3 h6 h7 h5=>nxt fr2 R3 X (by rw[hT,hB,hR3,Q1i]) h8 h0 h3 h6 h7 h5;by_cases o1:(ofSy S u b).1=s1
        .have o2:(ofSy S u b).2≠s2:=λh=>hne ⟨o1,h⟩;simp[o1,o2,f3,<-hbx,eqDs,eqD];rw[hbx];exact nx _ _ (by simp[f8]) (by simp[f0]) (by simp[f3]) (by simp[f6]) (by simp[f7]) (by simp[f5])
        .simp[o1,f3,<-hbx,eqDs,eqD];rw[hbx];exact nx _ _ (by simp[f8]) (by simp[f0]) (by simp[f3]) (by simp[f6]) (by simp[f7]) (by simp[f5])
      .have hia:u.sm.bs.length<=k:=by simpa using h
       obtain rfl:k=u.sm.bs.length:=by omega
       rw[<-hR3];simp;exact⟨f0,f3,f6,f7,f5⟩
     .rintro fr H3 ⟨f0,f3,f6,f7,f5,rfl⟩;simp;refine Q8 (H.length+2) (Q00 _) htj (by simp[f7]) ?_;exact⟨by simp[f0],by simp[f3],by simp[f6],R2++plT S u (s1,s2) u.sm.bs.length t,by rw[hV,hR2,Q1f],by simp[f5],by simp[Qk hcl,<-hbx]⟩
    .have hia:u.tk.length<=t:=by simpa using h
     obtain rfl:t=u.tk.length:=by omega
     have e:R2=R++plU S (s1,s2) u:=hR2;rw[<-e];simp;exact⟨f0,f3,f6,f5⟩
   .rintro fr H2 ⟨f0,f3,f6,f5,rfl⟩;simp;refine Q8 (H.length+2) (Q00 _) hj (by simp[f6]) ?_;exact⟨by simp[f0],by simp[f3],R++plU S (s1,s2) u,htk.symm,by simp[f5],by simp[Qk hcl,<-hbx]⟩
  .have hia:S.length<=i:=by simpa using h
   rw[Q09 hia]at hR;have e:R=Qb4 S (s1,s2):=hR;rw[<-e];simp;exact f5
 .rintro fr H' ⟨f5,X,rfl⟩;simp[f5];simp[RetK,Qd hcl]
end
section
open Go.Proofs
def Qfh(names unit ixOf uses ixSort tSy tU tBd tSp:Nat):IFn:=by
 have h:=Ix.J [5,11000005,2000061] Tryz.f9 [(24,names),(17,unit),(20,ixOf),(25,uses),(26,ixSort)] [(26,tSy),(77,tU),(42,tBd),(24,tSp)];conv at h=>arg 1;reduce
 exact h.p
end
section
open Go.RowKit (Below)
open Go.Proofs Go.Sort
def spV(x:Bs×Int):List Value:=[.string ⟨x.1.toArray⟩,.int .i64 x.2]
def spA(x:Bs×Int):List A:=[YS x.1,YI x.2]
def Zu(L:List (Bs×Int)):List (List A):=L.map spA
theorem Qui(d:Array (Bs×Int))(i:Nat)(hi:i<d.size)(x:Bs×Int):((flatK spV 2 d).setIfInBounds (i*2) (.string ⟨x.1.toArray⟩)).setIfInBounds (i*2+1) (.int .i64 x.2)=flatK spV 2 (d.setIfInBounds i x):=by
 have h:((flatK spV 2 d).setIfInBounds (i*2) (.string ⟨x.1.toArray⟩)).setIfInBounds (i*2+1) (.int .i64 x.2)=setMany (flatK spV 2 d) (i*2) (spV x):=rfl;rw[h];refine ext_get! (by simp) λt ht=>?_;have ht':t<d.size*2:=by simpa using ht
 rw[get_setMany _ _ _ t (by simpa using ht'),get_flatK _ _ _ t ht',get_flatK _ _ _ t (by simpa using ht')];have hl:(spV x).length=2:=rfl;rw[hl];by_cases a:i*2<=t/\t<i*2+2
 .have e:t/2=i:=by omega
  rw[if_pos a,e];have e2:t-i*2=t%2:=by omega
  rw[e2];simp[hi]
 .have e:t/2≠i:=by omega
  rw[if_neg a];have ht2:t/2<d.size:=by omega
  simp[ht2,Ne.symm e,Array.getElem_setIfInBounds]
theorem HR.putSps{κ:K}{H:Hp}{w:World}(h:HR κ H w){i b:Nat}{s:Option (TypeId×Nat)}{L0 d:List (Bs×Int)}(hi:H[i]?=some (.arr 2 (Zu L0)))(hβ:κ.β i=.arr b 2 s)(hd:d.length=L0.length)(h0:HoldsK spV 2 w b 0 L0.toArray):∀k:Nat,k<=L0.length->HR κ (H.set i (.arr 2 (Zu (d.take k++L0.drop k)))) (putRowK spV 2 w b 0 (d.take k++L0.drop k).toArray)
 |0,_=>by
  have hH:H.set i (.arr 2 (Zu L0))=H:=by
   refine Q17 λj=>?_;by_cases hj:i=j
   .subst hj;rw[Q02 (Q0y.1 hi).1,hi]
   .rw[Q01 hj]
  rw[Q20,Q3u,Q1s,hH,putRowK_self _ _ _ _ _ _ h0];exact h
 |k+1,hk=>by
  have ih:=HR.putSps h hi hβ hd h0 k (by omega);have hil:i<H.length:=(Q0y.1 hi).1;have hx:d.take (k+1)++L0.drop (k+1)=(d.take k++L0.drop k).set k (d[k]'(by omega)):=by
   have e1:L0.drop k=L0[k]'(by omega)::L0.drop (k+1):=Q1h (by omega);have e2:d.take (k+1)=d.take k++[d[k]'(by omega)]:=Q1b (by omega);have hm:k-(d.take k).length=0:=by simp;omega
   rw[e2,Q2k _ _ (by simp;omega),hm,e1,List.set_cons_zero,Q1f];rfl
  have hlen:(d.take k++L0.drop k).length=L0.length:=by simp;omega
  generalize d.take k++L0.drop k=X at ih hx hlen;rw[hx];have hkX:k<X.length:=by omega
  have hXk:X[k]?=some (X[k]'hkX):=Q0x hkX;have hrow:(Zu X)[k]?=some [YS (X[k]'hkX).1,YI (X[k]'hkX).2]:=by rw[Zu,Q1a,hXk];rfl
  have hs:∀{κ:K},VR κ (.string ⟨(d[k]'(by omega)).1.toArray⟩) (YS (d[k]'(by omega)).1):=λ{κ}=>.d (DR.strOf _);have s1:=ih.setArr (i:=i) (k:=k) (j:=0) (by rw[Q02 hil]) hβ hrow (by simp) (v:=.string ⟨(d[k]'(by omega)).1.toArray⟩) (a:=YS (d[k]'(by omega)).1) rfl hs;rw[Q2s]at s1;have hrow2:((Zu X).set k [YS (d[k]'(by omega)).1,YI (X[k]'hkX).2])[k]?=some [YS (d[k]'(by omega)).1,YI (X[k]'hkX).2]:=by rw[Q02 (by simp[Zu];omega)]
  have s2:=s1.setArr (i:=i) (k:=k) (j:=1) (by rw[Q02 hil];rfl) hβ hrow2 (by simp) (v:=.int .i64 (d[k]'(by omega)).2) (a:=YI (d[k]'(by omega)).2) rfl (.d (DR.int _ _));rw[Q2s,Q2s]at s2;have e3:((putRowK spV 2 w b 0 X.toArray).setCell ⟨b,k*2+0,none⟩ (.string ⟨(d[k]'(by omega)).1.toArray⟩)).setCell ⟨b,k*2+1,none⟩ (.int .i64 (d[k]'(by omega)).2)=putRowK spV 2 w b 0 (X.set k (d[k]'(by omega))).toArray:=by have p1:=putRow_set id w b 0 (flatK spV 2 X.toArray) (k*2) (.string ⟨(d[k]'(by omega)).1.toArray⟩) (by simp;omega);have p2:=putRow_set id w b 0 ((flatK spV 2 X.toArray).setIfInBounds (k*2) (.string ⟨(d[k]'(by omega)).1.toArray⟩)) (k*2+1) (.int .i64 (d[k]'(by omega)).2) (by simp;omega);rw[Q2c]at p1 p2;unfold putRowK;rw[Q27];simp only[id]at p1 p2;rw[p1,p2,Qui _ _ (by simp;omega)];simp
  rw[e3]at s2;have e4:(Zu X).set k [YS (d[k]'(by omega)).1,YI (d[k]'(by omega)).2]=Zu (X.set k (d[k]'(by omega))):=by simp[Zu,Q4s,spA]
  simpa[e4]using s2
theorem Qvi(x:Bs×Int):∀v∈spV x,v.oneCell'=true:=λv hv=>by simp only[spV,Q1o,Q3i,or_false]at hv;rcases hv with rfl|rfl<;>rfl
def Qos(P:Program)(f g:FuncId)(le:(Bs×Int)->(Bs×Int)->Bool):Prop:=∀(blk off cap:Nat)(ss:List (Bs×Int))(w:World),HoldsK spV 2 w blk off ss.toArray->blk<w.heap.size->ss.length<4611686018427387904->
 Calls P f #[.slice (some ⟨blk,off,none⟩) ss.length cap,.func (.func g) #[] #[]] w λe w'=>e=.returned (.tuple #[])/\∃n os,w'=sortWorldK spV 2 w blk off n (ss.mergeSort le).toArray os
theorem Qnz{P:Program}{f g:FuncId}{le:(Bs×Int)->(Bs×Int)->Bool}(hS:Qos P f g le){L:List (Bs×Int)}(hne:L≠[])(hl:L.length<4611686018427387904){H:Hp}{i:Nat}(hi:H[i]?=some (.arr 2 (Zu L))) :
 Qc P f [.msl i 0 L.length,.d (.fn g)] H (λ r H'=>r=.tup []/\H'=H.set i (.arr 2 (Zu (L.mergeSort le)))):=by
 intro κ w vs hr hvl hv
 match vs,hvl with
 | [v,vf],_ =>
 have hv0:=hv 0 v _ rfl rfl;have hvf:=(hv 1 vf _ rfl rfl).fn_inv;subst hvf;have hpos:0<L.length:=Q19.2 hne;cases hv0 with
 | msl _ _ _ b sz o cap hb hcl ho hz =>
 obtain⟨b',s',hβ',hsh,hc⟩:=hr.ob i _ hi;obtain⟨rfl,rfl⟩:b=b'/\sz=2:=by
  rcases hb with⟨s,hb⟩|hb
  · rw[hβ']at hb;cases hb;exact⟨rfl,rfl⟩
  · rw[hβ']at hb;cases hb
 have ho':o=0:=by have:=ho hpos;omega
 subst ho';have hH0:∀ n,HoldsK spV 2 (Go.Sort.ahead w n) b 0 L.toArray:=λ n t ht=>by
  have ht':t<L.length*2:=by simpa using ht
  have hj:t / 2<L.length:=by omega
  have hrow:(Zu L)[t / 2]?=some (spA L[t / 2]):=by rw[Zu,Q1a,Q0x hj];rfl
  obtain⟨-,h2⟩:=hc (t / 2) _ hrow;have hg:=get_flatK spV 2 L.toArray t (by simpa using ht');rw[Q2c];have hLj:L.toArray[t / 2]! = L[t / 2]:=by simp[getElem!_pos,hj]
  rw[hLj]at hg;have hm:t % 2=0\/t % 2=1:=by omega
  rcases hm with hm|hm
  · obtain⟨u,u1,u2,u3⟩:=h2 0 _ rfl;have:=u3.d_inv.str_inv;subst this;have e:t / 2*2+0=t:=by omega
    rw[e]at u1 u2;refine⟨?_,u2⟩;rw[cell?_ahead,u1,id,hg,hm];rfl
  · obtain⟨u,u1,u2,u3⟩:=h2 1 _ rfl;have:=u3.d_inv.int_inv;subst this;have e:t / 2*2+1=t:=by omega
    rw[e]at u1 u2;refine⟨?_,u2⟩;rw[cell?_ahead,u1,id,hg,hm];rfl
 have hblk:=(hr.ex i b (by rw[hβ'];rfl)).2;refine (hS b 0 cap L w (hH0 0) hblk hl).mono ?_;rintro e w' ⟨rfl,n,os,rfl⟩;have h1:HR κ H (Go.Sort.ahead w n):=hr.later (Qjz w n);have hml:(L.mergeSort le).length=L.length:=Q3a L;have h2:=h1.putSps hi hβ' hml (hH0 n) L.length (Q00 _);rw[Q09 (by omega),Q47 (Q00 _),Q1i]at h2;have h3:=h2.later (Qmf _ os);exact⟨_,κ,.tup [],_,rfl,K.le_refl κ,h3,.tup [] [] rfl (by simp),rfl,rfl⟩
end
section
open Go.RowKit (Below)
open Go.Proofs Go.Sort
def Qaz(p:Bs×Int):List D:=[.str p.1,.int .i64 p.2]
theorem Qk0(L:List (Bs×Int)):Zu L=(L.map Qaz).map (List.map .d):=by simp[Zu,spA,Qaz]
def Qkq(P:Program)(f g:FuncId):Prop:=∀(a:Option Addr)(cap:Nat)(w:World),Calls P f #[.slice a 0 cap,.func (.func g) #[] #[]] w λe w'=>e=.returned (.tuple #[])/\w'=w
theorem Qmp{P:Program}{f g:FuncId}(hC:Qkq P f g){H:Hp}{i k:Nat}:Qc P f [.vsl i k 0,.d (.fn g)] H (λr H'=>r=.tup []/\H'=H):=by
 intro κ w vs hr hvl hv;match vs,hvl with
 |[v,vf],_=>
 have hv0:=hv 0 v _ rfl rfl;have hvf:=(hv 1 vf _ rfl rfl).fn_inv;subst hvf;cases hv0 with
 |vsl _ _ _ ad cap hl hf=>
 refine(hC ad cap w).mono ?_;rintro e w' ⟨rfl,rfl⟩;exact⟨_,κ,_,_,rfl,K.le_refl κ,hr,.tup [] [] rfl (by simp),rfl,rfl⟩
theorem Has.ixSort{P:Program}{f srt cmp:FuncId}{le:(Bs×Int)->(Bs×Int)->Bool}(h:Has P f (Qh5 srt cmp))(hS:Qos P srt cmp le)(h0:Qkq P srt cmp)(L:List (Bs×Int))(hl:L.length<=1099511627776){H1:Hp}(hcl1:H1.Closed)(k e:Nat):
 Qc P f [.vsl H1.length k L.length] (H1++[.vec 2 e k (L.map Qaz)]) (λr H'=>r=.vsl H1.length k L.length/\H'=H1++[.vec 2 e k ((L.mergeSort le).map Qaz)]):=by
 refine Qe h (by simp[Qh5]) λhcl _=>?_;have hcall:Qc P srt [.vsl H1.length k L.length,.d (.fn cmp)] (H1++[.vec 2 e k (L.map Qaz)]) (λr H'=>r=.tup []/\H'=H1++[.vec 2 e k ((L.mergeSort le).map Qaz)]):=by
  by_cases hne:L=[]
  .subst hne;simpa using Qmp h0 (H:=H1++[.vec 2 e k []]) (i:=H1.length) (k:=k)
  .have hsrt:=Qnz hS (L:=L) hne (by omega) (H:=H1++[.dead,.arr 2 ((L.map Qaz).map (List.map .d))]) (i:=H1.length+1) (by rw[Qv,Qk0];rfl);have hv:=Qc.vecCall (P:=P) (f:=srt) (k:=k) (e:=e) (sz:=2) (args:=[.d (.fn cmp)]) (rows:=L.map Qaz) (rows':=(L.mergeSort le).map Qaz) hcl1 (by simpa using hne) (by simp[Q3a]) (by rw[Q1v];refine hsrt.mono ?_;rintro r H' ⟨rfl,rfl⟩;refine⟨rfl,?_⟩;rw[Zh,Qk0];rfl)
   rw[Q1v]at hv;exact hv
 simp[Qh5];refine Qa hcall ?_;have hc2:Hp.cut (H1.length+1) (H1++[.vec 2 e k ((L.mergeSort le).map Qaz)])=H1++[.vec 2 e k ((L.mergeSort le).map Qaz)]:=by have:=Qk hcl1 1 [.vec 2 e k ((L.mergeSort le).map Qaz)];rw[this];rfl
 simp[RetK,hc2]
end
section
open Go.Proofs
def Qiz(srtI tm mn tint:Nat):IFn:=by
 have h:=Ix.J [2000039,9000023] Tryz.f25 [(36,srtI)] [(75,tm),(102,mn),(3,tint)];conv at h=>arg 1;reduce
 exact h.p
end
section
def encI(t:Int):List D:=[.int .i64 t]
def isort(L:List Int):List Int:=L.mergeSort λx y=>decide (x<=y)
theorem Qix(L:List Int):(isort L).length=L.length:=Q3a L
theorem Qlp(L:List Int):(isort L).Perm L:=List.mergeSort_perm L _
theorem Qjp(L:List Int):Ze L=(L.map encI).map (List.map .d):=by simp[Ze,encI]
section
variable{P:Program}{tn tm bd mn ed tint:Nat}
theorem Has.scUses{f srt:FuncId}(hf:HasT P [2000039,9000023] f (Qiz srt tm mn tint))(hS:Qot P srt){S:SM}{z1 z2:Bool}{bad:D}(hl:S.ms.length≤1099511627776)(i:Nat)(hi:i<S.bs.length)(H:Hp):
 Qc P f [.agg [YL z1 4 (S.bs.map Qq),YL z2 4 (S.ms.map Wq),.d bad],YI i] H (fun r H'=>r=YL false 1 ((isort (Wv S i)).map encI)∧H'=H):=by
 have hne:(isort (Wv S i)).map encI≠[]:=by
  intro h;have h1:=congrArg List.length h;rw[Q1v,Qix]at h1;simp[Wv]at h1
 have hle:(Wv S i).length≤S.ms.length+1:=by
  unfold Wv;have:=Q3r (fun m:Mn=>decide (m.t=(i:Int))) S.ms;simp only[Q1d,Q1v];omega
 refine Qc.freezeVec (j:=1) (k:=(Wv S i).length) (e:=tint) hne ?_;obtain⟨fn,hff,hcf⟩:=hf;refine Z8 2 hff hcf (by simp[Qiz]) fun hcl _=>?_;obtain⟨bs,ms,bd'⟩:=S;simp only at hl hi hle;obtain⟨bx,hbx⟩:∃bx,bx=Ob.box tm [YL z1 4 (bs.map Qq),YL z2 4 (ms.map Wq),.d bad]:=⟨_,rfl⟩;have hbc:∀n,bx.clr n=bx:=fun n=>by subst hbx;simp
 have hi0:¬(i:Int)<0:=by omega
 have hi1:¬(bs.length:Int)≤(i:Int):=by omega
 have hr:=Qt Qq hi;have hbi:bAt bs (i:Int)=bs[i]:=by unfold bAt;rw[Q2e,Q11,Q0x hi];rfl
 have hU:Wv ⟨bs,ms,bd'⟩ i=bs[i].a::(ms.filter fun m=>decide (m.t=(i:Int))).map Mn.a:=by unfold Wv;simp only;rw[hbi]
 generalize bs[i]=b at hr hU;obtain⟨ba,bk,bw,bi⟩:=b;simp only[Qq]at hr;simp only at hU;let U:Nat→List Int:=fun j=>ba::((ms.take j).filter fun m=>decide (m.t=(i:Int))).map Mn.a;have hU0:U 0=[ba]:=rfl;have hUn:U ms.length=Wv ⟨bs,ms,bd'⟩ i:=by rw[hU];show _::_=_;rw[Q09 (Q00 _)]
 have hUl:∀j,(U j).length≤ms.length+1:=fun j=>by
  have h1:=Q3r (fun m:Mn=>decide (m.t=(i:Int))) (ms.take j);have h2:(ms.take j).length≤ms.length:=by simp;omega
  show(_::List.map _ _).length≤_;simp only[Q1d,Q1v];omega
 let HY:Nat→Hp:=fun j=>[bx,.vec 1 tint (U j).length ((U j).map encI)];have hc:∀j X,Hp.cut (H.length+2) (H++(HY j++X))=H++HY j:=fun j X=>by
  rw[Qk hcl];have hv:∀n s e k r,(Ob.vec s e k r).clr n=Ob.vec s e k r:=fun _ _ _ _ _=>rfl;simp[HY,hbc,hv,-Ob.clr]
 have hc0:∀j,Hp.cut (H.length+2) (H++HY j)=H++HY j:=fun j=>by have:=hc j [];rwa[Q1i]at this
 have e0:∀j X,(HY j++X)[0]?=some (Ob.box tm [YL z1 4 (bs.map Qq),YL z2 4 (ms.map Wq),.d bad]):=fun j X=>by rw[←hbx];rfl
 have e1:∀j X,(HY j++X)[1]?=some (.vec 1 tint (U j).length ((U j).map encI)):=fun j X=>rfl;have e2:∀j x X,(HY j++x::X)[2]?=some x:=fun j x X=>rfl;have s2:∀j x y X,(HY j++x::X).set 2 y=HY j++y::X:=fun j x y X=>rfl;have lY:∀j,(HY j).length=2:=fun j=>rfl;have hst:H++[bx,Ob.vec 1 tint 1 [[D.int .i64 ba]]]=H++HY 0:=rfl;simp[Qiz,hi0,hi1,hr,Q35,-getElem?_pos];rw[←hbx,hst];refine Qy 0 (fun fr H'=>fr 5=.vsl (H.length+1) (U ms.length).length (U ms.length).length∧H'=H++HY ms.length) ?_ ?_
 .refine Wt (H.length+2) ms.length (fun j fr H'=>fr 1=YI i∧fr 5=.vsl (H.length+1) (U j).length (U j).length∧fr 25=YL z2 4 (ms.map Wq)∧H'=H++HY j) (by omega) (by decide) (by simp[lY]) (by simp) ?_ ?_ ?_
  .exact⟨by simp,by simp[hU0],by simp,hc0 0⟩
  .rintro j fr H' hj f27 f26 ⟨f1,f5,f25,rfl⟩;have hr2:=Qt Wq hj;have hstep:U (j+1)=if ms[j].t=(i:Int)then U j++[ms[j].a]else U j:=by
    show _::_=_;rw[Q1b hj,Q3p,Q2v];by_cases h:ms[j].t=(i:Int)
    .rw[if_pos h];simp[h,U]
    .rw[if_neg h];simp[h,U]
   generalize ms[j]=x at hr2 hstep;obtain⟨xa,xt,xw,xf⟩:=x;simp only[Wq]at hr2;simp only at hstep;have hfit:((U j).length+1)*8≤140737488355328:=by have:=hUl j;omega
   have htk:List.take (U j).length ((U j).map encI)=(U j).map encI:=Q09 (by simp);have hlm:((U j).map encI).length=(U j).length:=Q1v _;have e1':=e1 j;have e2':=e2 j;have s2':=s2 j;have lY':=lY j;by_cases h:xt=(i:Int)
   .rw[if_pos h]at hstep;have hs1:∀X,(HY j++X).set 1 (.vec 1 tint ((U j).length+1) ((U j).map encI++[[D.int .i64 xa]]))=HY (j+1)++X:=fun X=>by
     show[bx,_]++X=[bx,_]++X;rw[hstep];simp[encI]
    have hlU:(U (j+1)).length=(U j).length+1:=by rw[hstep];simp
    have hcj:=hc (j+1);have lY2:=lY (j+1);generalize hY2:HY (j+1)=Y2 at hs1 hcj lY2⊢;generalize HY j=Y at e1' e2' s2' lY' hs1⊢;simp[f27,f25,f1,f5,hr2,h,e2',s2',lY',Qmh,e1',hfit,htk,hlm,hs1,-getElem?_pos];refine Wl (H.length+2) (Q00 _) (by simp[lY2,f27,f26]) ?_;exact⟨by simp[f1],by simp[hlU],by simp[f25],(hcj _).trans (by rw[hY2])⟩
   .rw[if_neg h]at hstep;have hlU:(U (j+1)).length=(U j).length:=by rw[hstep]
    have hYY:HY (j+1)=HY j:=by show[bx,_]=[bx,_];rw[hstep]
    have hcj:=hc j;rw[←hYY]at e1' e2' s2' lY' hcj;rw[←hYY];generalize hY2:HY (j+1)=Y at e1' e2' s2' lY' hcj⊢;simp[f27,f25,f1,hr2,h,e2',s2',lY',-getElem?_pos];refine Wl (H.length+2) (Q00 _) (by simp[lY',f27,f26]) ?_;exact⟨by simp[f1],by simp[f5,hlU],by simp[f25],(hcj _).trans (by rw[hY2])⟩
  .rintro fr H' f27 f26 ⟨f1,f5,f25,rfl⟩;simp;exact f5
 .rintro fr H' ⟨f5,rfl⟩;rw[hUn]at f5;have hHY:H++HY ms.length=(H++[bx])++[.vec 1 tint (Wv ⟨bs,ms,bd'⟩ i).length ((Wv ⟨bs,ms,bd'⟩ i).map encI)]:=by
   show H++[bx,_]=_;rw[hUn];simp
  rw[hHY];generalize Wv ⟨bs,ms,bd'⟩ i=L at f5 hne hle⊢;have hLne:L≠[]:=fun h=>hne (by subst h;simp[isort]);have hcl1:Hp.Closed (H++[bx]):=Closed.snoc hcl fun n _=>hbc n;have hsrt:=Qmq hS (L:=L) hLne (by omega) (H:=(H++[bx])++[.dead,.arr 1 ((L.map encI).map (List.map .d))]) (i:=(H++[bx]).length+1) (by rw[Qv,Qjp];rfl);have hv:=Qc.vecCall (P:=P) (f:=srt) (k:=L.length) (e:=tint) (args:=[]) (rows:=L.map encI) (rows':=(isort L).map encI) hcl1 (by simpa using hLne) (by simp[Qix]) (by
   rw[Q1v];refine hsrt.mono ?_;rintro r H' ⟨rfl,rfl⟩;refine⟨rfl,?_⟩;rw[Zh,←isort,Qjp];rfl)
  rw[Q1v,show(H++[bx]).length=H.length+1 by simp]at hv;simp[f5,-List.append_assoc];refine Qa hv ?_;simp[f5,RetK,resA,-List.append_assoc];refine⟨[bx,.vec 1 tint L.length ((isort L).map encI)],rfl,(Qix L).symm,?_⟩;have hv:∀n s e k r,(Ob.vec s e k r).clr n=Ob.vec s e k r:=fun _ _ _ _ _=>rfl;rw[Q1f,Qk hcl];simp[hbc,hv,-Ob.clr]
end
end
section
open Go.Proofs
theorem Qc.freezeVecE{P:Program}{f:FuncId}{args:List A}{H:Hp}{j k sz e:Nat}{rows:List (List D)}(hk:rows=[]->k=0)(h:Qc P f args H (λr H'=>∃X:Hp,X[j]?=some (.vec sz e k rows)/\r=.vsl (H.length+j) k rows.length/\H'=H++X)):Qc P f args H (λr H'=>r=YL rows.isEmpty sz rows/\H'=H):=by
 by_cases hne:rows=[]
 .subst hne;have hk:=hk rfl;subst hk;intro κ w vs hr hl hv;refine(h κ w vs hr hl hv).mono ?_;rintro ev w' ⟨v,κ',r,H',h1,h2,h3,h4,X,hX,rfl,rfl⟩;have ho:=h3.ob (H.length+j) _ (by rw[Qv];exact hX);have hn:κ'.β (H.length+j)=.nilV:=by
   rcases ho with⟨h,-,-⟩|⟨b,c,cur,-,h,-⟩
   .exact h
   .exact absurd rfl (h rfl)
  cases h4 with
  |vsl _ _ _ ad cap hlc hf=>
  rw[hn]at hf;obtain⟨-,-,hv'⟩:=hf;have g:=h3.cut H.length (by simp);rw[Qd hr.closed]at g;refine⟨_,κ'.cut H.length,YL true sz [],H,h1,K.le_cut h2 hr.dom,g,?_,rfl,rfl⟩;rw[hv'];exact .d (.nilsl sz)
 .have hb:rows.isEmpty=false:=by cases rows with
   |nil=>exact absurd rfl hne
   |cons=>rfl
  rw[hb];exact Qc.freezeVec hne h
theorem Qum:Qaz=Wr:=rfl
def atT(u:Un)(t:Int):Int:=((u.tk[t.toNat]?).map λt=>(t.a:Int)).getD 0
def qlB(S:List Un)(s:Bs×Int)(u:Un)(i:Nat)(b:SBd):List (Bs×Int):=if ofSy S u b=s then(isort (Wv u.sm i)).map λt=>(u.n,atT u t)else[]
def qlK(S:List Un)(s:Bs×Int)(u:Un)(j:Nat):List (Bs×Int):=((u.sm.bs.take j).mapIdx (qlB S s u)).flatten
def qlU(S:List Un)(s:Bs×Int)(u:Un):List (Bs×Int):=qlK S s u u.sm.bs.length
def qlS(S:List Un)(s:Bs×Int)(T:List Un):List (Bs×Int):=T.flatMap (qlU S s)
theorem Qlc{S:List Un}{s:Bs×Int}{u:Un}{j:Nat}{b:SBd}(h:u.sm.bs[j]?=some b):qlK S s u (j+1)=qlK S s u j++qlB S s u j b:=by have hj:=(Q0y.1 h).1;unfold qlK;rw[Q29,h];simp only[Option.toList_some];rw[List.mapIdx_append];simp[Q4o (Nat.le_of_lt hj)]
theorem Qv0{S T:List Un}{s:Bs×Int}{j:Nat}{u:Un}(h:T[j]?=some u):qlS S s (T.take (j+1))=qlS S s (T.take j)++qlU S s u:=by rw[Q29,h];simp[qlS]
theorem Qz2{S T:List Un}{s:Bs×Int}(j:Nat):(qlS S s (T.take j)).length<=(qlS S s T).length:=by
 have h:qlS S s T=qlS S s (T.take j)++qlS S s (T.drop j):=by unfold qlS;rw[<-Q30,Q1t]
 rw[h];simp
theorem Qv1{S:List Un}{s:Bs×Int}{u:Un}:∀(n j:Nat),j+n=u.sm.bs.length->(qlK S s u j).length<=(qlU S s u).length
 |0,j,h=>by rw[Q27]at h;subst h;exact Q00 _
 |n+1,j,h=>by have h1:=Qv1 (S:=S) (s:=s) (u:=u) n (j+1) (by omega);rw[Qlc (Q0x (show j<u.sm.bs.length by omega))]at h1;simp only[Q1r]at h1;omega
def Qq6(P:Program)(S:List Un)(f:Nat):Prop:=∀u∈S,∀i,i<u.sm.bs.length->∀H,Qc P f [.agg (u.sm.enc.map .d),YI i] H (λr H'=>r=YL false 1 ((isort (Wv u.sm i)).map encI)/\H'=H)
theorem HasT.ixPlaces{f names unit ixOf uses ixSort srt cmp tSy tU tBd tSp:Nat}{le:(Bs×Int)→(Bs×Int)→Bool}{S:List Un}(h:HasT P [5,11000005,2000061] f (Qfh names unit ixOf uses ixSort tSy tU tBd tSp))(hn:Qyu P S names)(hu:Qgx P S unit)(hself:Qy7 S)(hO:Qsk P S ixOf)(hU:Qq6 P S uses)(hx:Has P ixSort (Qh5 srt cmp))(hS:Qos P srt cmp le)(hS0:Qkq P srt cmp)(hl:S.length≤8)(hb:∀u∈S,u.sm.bs.length≤1048576)(hus:∀u∈S,∀i,i<u.sm.bs.length→∀t∈isort (Wv u.sm i),0≤t∧t.toNat<u.tk.length)(s:Bs×Int)(hmax:(qlS S s S).length≤1099511627776)(H:Hp):
 Qc P f [pA S,.agg [YS s.1,YI s.2]] H (fun r H'=>r=YL (((qlS S s S).mergeSort le).map Wr).isEmpty 2 (((qlS S s S).mergeSort le).map Wr)∧H'=H):=by
 refine Qc.freezeVecE (j:=1) (k:=(qlS S s S).length) (e:=tSp) (fun e=>?_) ?_
 .have h1:=congrArg List.length e;rw[Q1v,Q3a]at h1;exact h1
 obtain⟨fn,hf,hcf⟩:=h;refine Z8 2 hf hcf (by simp[Qfh]) fun hcl _=>?_;obtain⟨sy,hsy⟩:∃sy,sy=Ob.box tSy [YS s.1,YI s.2]:=⟨_,rfl⟩;have hsc:∀n,sy.clr n=sy:=fun n=>by subst hsy;rfl
 have hnm:=fun X=>hn (H++X);simp only[pA]at hnm;simp[Qfh,pA];refine Qa (hnm _) ?_;simp;rw[←hsy];let HY:List (Bs×Int)→Hp:=fun R=>[sy,.vec 2 tSp R.length (R.map Wr)];have hv:∀n s e k r,(Ob.vec s e k r).clr n=Ob.vec s e k r:=fun _ _ _ _ _=>rfl;have hc:∀R X,Hp.cut (H.length+2) (H++(HY R++X))=H++HY R:=fun R X=>by
  rw[Qk hcl];simp[HY,hsc,hv,-Ob.clr]
 have hst:H++[sy,Ob.vec 2 tSp 0 []]=H++HY []:=rfl;rw[hst];have lY:∀R,(HY R).length=2:=fun R=>rfl;refine Qy 0 (fun fr H'=>fr 5=.vsl (H.length+1) (qlS S s S).length (qlS S s S).length∧H'=H++HY (qlS S s S)) ?_ ?_
 .refine Wt (H.length+2) S.length (fun j fr H'=>fr 0=.eptr [.sl S.isEmpty 14 (S.map Un.enc)]∧fr 3=.ptr H.length 0∧fr 15=YL true 1 (S.map fun u=>[.str u.n])∧fr 5=.vsl (H.length+1) (qlS S s (S.take j)).length (qlS S s (S.take j)).length∧
   H'=H++HY (qlS S s (S.take j))) (by omega) (by decide) (by simp[lY]) (by simp) ?_ ?_ ?_
  .exact⟨by simp,by simp,by simp,by simp[qlS],by have:=hc [] [];simpa[qlS]using this⟩
  .rintro j fr H' hj fi fn ⟨f0,f3,f15,f5,rfl⟩;obtain⟨u,hu'⟩:∃u,S[j]?=some u:=⟨_,Q0x hj⟩;have hum:=Q1g hu';have hrow:Zam.rowAt (S.map fun u=>[D.str u.n]) (j:Int)=some [.str u.n]:=by simp[Zam.rowAt,hu']
   have hst:=Qv0 (S:=S) (s:=s) hu';have hun:=fun X=>hu u.n (H++X);rw[hself u hum]at hun;obtain⟨zu,ms,he⟩:=u.enc_all;simp only[Q3v,Q3o,he,Q1q,Q10,pA]at hun;have lYj:=lY (qlS S s (S.take j));simp[fi,f15,hrow,f0];refine Qa (hun _) ?_;simp[lYj];generalize hbx:Ob.box tU [A.d (.str u.n),A.d (.str u.t),A.d (.sl true 4 (u.tk.map Qp)),A.d (.int .i64 u.tr.k),A.d (.int .i64 u.tr.f),A.d (.int .i64 u.tr.t),A.d (.str u.tr.w),A.d (.int .i64 u.tr.at_),A.d (.sl zu 6 (u.tr.ks.map N.enc)),A.d (.sl u.sm.bs.isEmpty 4 (u.sm.bs.map Qq)),A.d ms,A.d (.sl u.sm.bad.isEmpty 2 (u.sm.bad.map Q2)),A.d (.int .i64 u.bad),A.d (.int .i64 u.pos)]=bx;have hbc:∀n,bx.clr n=bx:=fun n=>by subst hbx;rfl
   obtain⟨R,hR⟩:∃R,R=qlS S s (S.take j):=⟨_,rfl⟩;rw[←hR]at hst f5⊢;have hc3:∀R X,Hp.cut (H.length+3) (H++(HY R++bx::X))=H++(HY R++[bx]):=fun R X=>by
    rw[Qk hcl];simp[HY,hsc,hbc,hv,-Ob.clr]
   refine Qy 2 (fun fr H2=>fr 0=.eptr [.sl S.isEmpty 14 (S.map Un.enc)]∧fr 3=.ptr H.length 0∧fr 15=YL true 1 (S.map fun u=>[.str u.n])∧fr 17=YI j∧fr 16=YI S.length∧
    fr 5=.vsl (H.length+1) (R++qlU S s u).length (R++qlU S s u).length∧∃X,H2=H++(HY (R++qlU S s u)++X)) ?_ ?_
   .refine Wt (H.length+3) u.sm.bs.length (fun q fr H2=>fr 0=.eptr [.sl S.isEmpty 14 (S.map Un.enc)]∧fr 3=.ptr H.length 0∧fr 7=YS u.n∧fr 8=.ptr (H.length+2) 0∧fr 15=YL true 1 (S.map fun u=>[.str u.n])∧fr 17=YI j∧fr 16=YI S.length∧
     fr 29=YL u.sm.bs.isEmpty 4 (u.sm.bs.map Qq)∧∃R2,R2=R++qlK S s u q∧fr 5=.vsl (H.length+1) R2.length R2.length∧H2=H++(HY R2++[bx])) (by have:=hb u hum;omega) (by decide) (by simp[lY]) (by simp) ?_ ?_ ?_
    .refine⟨by simp[f0],by simp[f3],by simp,by simp,by simp[f15],by simp[fi],by simp[fn],by simp,R,by simp[qlK],by simp[f5],hc3 R []⟩
    .rintro q fr H2 hq gi gn ⟨f0,f3,f7,f8,f15,f17,f16,f29,R2,hR2,f5,rfl⟩;have hr2:=Qt Qq hq;have hbm:=Q1u hq;have hstp:=Qlc (S:=S) (s:=s) (Q0x hq);have hOb:=fun X=>hO u hum _ hbm (H++X);rw[he]at hOb;have hUs:=fun X=>hU u hum q hq (H++X);generalize u.sm.bs[q]=b at hr2 hstp hOb;obtain⟨ofS,hof⟩:∃o,o=ofSy S u b:=⟨_,rfl⟩;rw[←hof]at hOb;have e0:∀X,(HY R2++X)[0]?=some (Ob.box tSy [YS s.1,YI s.2]):=fun X=>by rw[←hsy];rfl
     have e2:∀x X,(HY R2++x::X)[2]?=some x:=fun x X=>rfl;have e3:∀x y X,(HY R2++x::y::X)[3]?=some y:=fun x y X=>rfl;have s3:∀x y z X,(HY R2++x::y::X).set 3 z=HY R2++x::z::X:=fun x y z X=>rfl;have lY2:=lY R2;have hc3':=hc3 R2;simp only[Qq,pA,Q1q,Q10]at hr2 hOb;generalize hYe:HY R2=Y at e0 e2 e3 s3 lY2 hc3'⊢;subst hbx;simp[gi,f29,hr2,f0,f3,f8,lY2,e0,e2,e3,s3,-getElem?_pos];refine W5 (hOb _) ?_;have hms:ms=.sl u.sm.ms.isEmpty 4 (u.sm.ms.map Wq):=by
      obtain⟨a1,a2,a3,a4,a5,a6,a7,a8,a9,a10,-,h,-⟩:=u.enc_sm;rw[he]at h;simp at h;exact h.2.2.2.2.2.2.2.2.1
     have hcn:∀X,Hp.cut (H.length+3) (H++(Y++Ob.box tU [A.d (.str u.n),A.d (.str u.t),A.d (.sl true 4 (u.tk.map Qp)),A.d (.int .i64 u.tr.k),A.d (.int .i64 u.tr.f),A.d (.int .i64 u.tr.t),A.d (.str u.tr.w),A.d (.int .i64 u.tr.at_),A.d (.sl zu 6 (u.tr.ks.map N.enc)),A.d (.sl u.sm.bs.isEmpty 4 (u.sm.bs.map Qq)),A.d ms,A.d (.sl u.sm.bad.isEmpty 2 (u.sm.bad.map Q2)),A.d (.int .i64 u.bad),A.d (.int .i64 u.pos)]::X))=_:=hc3';by_cases hos:ofS=s
     .have hp1:qlB S s u q b=(isort (Wv u.sm q)).map fun t=>(u.n,atT u t):=by unfold qlB;rw[←hof,if_pos hos]
      have o1:ofS.1=s.1:=by rw[hos]
      have o2:ofS.2=s.2:=by rw[hos]
      have hTk:=hus u hum q hq;simp only[SM.enc,←hms,Q1q,Q10]at hUs;generalize isort (Wv u.sm q)=T at hp1 hUs hTk;simp[f3,f8,e0,e2,eqDs,eqD,o1,o2,-getElem?_pos];refine Qa (hUs _) ?_;simp;subst hYe;generalize hbd:Ob.box tBd [A.d (.int .i64 b.a),A.d (.int .i64 b.k),A.d (.str b.w),A.d (.int .i64 b.i)]=bd;generalize hbx:Ob.box tU [A.d (.str u.n),A.d (.str u.t),A.d (.sl true 4 (u.tk.map Qp)),A.d (.int .i64 u.tr.k),A.d (.int .i64 u.tr.f),A.d (.int .i64 u.tr.t),A.d (.str u.tr.w),A.d (.int .i64 u.tr.at_),A.d (.sl zu 6 (u.tr.ks.map N.enc)),A.d (.sl u.sm.bs.isEmpty 4 (u.sm.bs.map Qq)),A.d ms,A.d (.sl u.sm.bad.isEmpty 2 (u.sm.bad.map Q2)),A.d (.int .i64 u.bad),A.d (.int .i64 u.pos)]=bx;have hbdc:∀n,bd.clr n=bd:=fun n=>by subst hbd;rfl
      have hbxc:∀n,bx.clr n=bx:=fun n=>by subst hbx;rfl
      have hc4:∀R X,Hp.cut (H.length+4) (H++(HY R++bx::bd::X))=H++(HY R++[bx,bd]):=fun R X=>by
       rw[Qk hcl];simp[HY,hsc,hbdc,hbxc,hv,-Ob.clr]
      have hc5:∀R X,Hp.cut (H.length+3) (H++(HY R++bx::X))=H++(HY R++[bx]):=fun R X=>by
       rw[Qk hcl];simp[HY,hsc,hbxc,hv,-Ob.clr]
      rw[hp1]at hstp;refine Qy 4 (fun fr H3=>fr 0=.eptr [.sl S.isEmpty 14 (S.map Un.enc)]∧fr 3=.ptr H.length 0∧fr 7=YS u.n∧fr 8=.ptr (H.length+2) 0∧fr 15=YL true 1 (S.map fun u=>[.str u.n])∧fr 17=YI j∧fr 16=YI S.length∧
       fr 29=YL u.sm.bs.isEmpty 4 (u.sm.bs.map Qq)∧fr 31=YI q∧fr 30=YI u.sm.bs.length∧∃R3,R3=R2++T.map (fun t=>(u.n,atT u t))∧fr 5=.vsl (H.length+1) R3.length R3.length∧∃X,H3=H++(HY R3++bx::X)) ?_ ?_
      .have hmx:R2.length+T.length≤1099511627776:=by
        have g1:=Qv1 (S:=S) (s:=s) (u:=u) (u.sm.bs.length-(q+1)) (q+1) (by omega);rw[hstp]at g1;have g2:=Qz2 (S:=S) (T:=S) (s:=s) (j+1);rw[hst]at g2;rw[hR2];simp only[Q1r,Q1v]at g1 g2⊢;omega
       refine Wt (H.length+4) T.length (fun p fr H3=>fr 0=.eptr [.sl S.isEmpty 14 (S.map Un.enc)]∧fr 3=.ptr H.length 0∧fr 7=YS u.n∧fr 8=.ptr (H.length+2) 0∧fr 15=YL true 1 (S.map fun u=>[.str u.n])∧fr 17=YI j∧fr 16=YI S.length∧
        fr 29=YL u.sm.bs.isEmpty 4 (u.sm.bs.map Qq)∧fr 31=YI q∧fr 30=YI u.sm.bs.length∧fr 45=YL false 1 (T.map encI)∧∃R3,R3=R2++(T.take p).map (fun t=>(u.n,atT u t))∧fr 5=.vsl (H.length+1) R3.length R3.length∧H3=H++(HY R3++[bx,bd])) (by omega) (by decide) (by simp[lY]) (by simp) ?_ ?_ ?_
       .exact⟨by simp[f0],by simp[f3],by simp[f7],by simp[f8],by simp[f15],by simp[f17],by simp[f16],by simp[f29],by simp[gi],by simp[gn],by simp,R2,by simp,by simp[f5],hc4 R2 []⟩
       .rintro p fr H3 hp ki kn ⟨f0,f3,f7,f8,f15,f17,f16,f29,f31,f30,f45,R3,hR3,f5,rfl⟩;have hr3:=Qt encI hp;obtain⟨ht0,ht1⟩:=hTk _ (Q1u hp);have hstp3:R2++(T.take (p+1)).map (fun t=>(u.n,atT u t))=R3++[(u.n,atT u T[p])]:=by
         rw[Q1b hp,hR3,Q2v,Q1f];rfl
        have hR3l:R3.length=R2.length+p:=by rw[hR3];simp;omega
        generalize T[p]=t at hr3 ht0 ht1 hstp3;have htr:Zam.rowAt (u.tk.map Qp) t=some (Qp u.tk[t.toNat]):=by
         unfold Zam.rowAt;rw[if_pos ht0];simp[ht1]
        have hat:((u.tk[t.toNat]).a:Int)=atT u t:=by unfold atT;simp[ht1]
        generalize u.tk[t.toNat]=w at htr hat;simp only[Qp,encI]at htr hr3;have e1:∀X,(HY R3++X)[1]?=some (.vec 2 tSp R3.length (R3.map Wr)):=fun X=>rfl;have e2:∀x X,(HY R3++x::X)[2]?=some x:=fun x X=>rfl;have s1:∀X,(HY R3++X).set 1 (.vec 2 tSp (R3.length+1) (R3.map Wr++[[.str u.n,.int .i64 (w.a:Int)]]))=HY (R3++[(u.n,atT u t)])++X:=fun X=>by
         show[sy,_]++X=[sy,_]++X;rw[←hat];simp[Wr]
        have hfit:(R3.length+1)*24≤140737488355328:=by omega
        have htk:List.take R3.length (R3.map Wr)=R3.map Wr:=Q09 (by simp);have hlm:(R3.map Wr).length=R3.length:=Q1v _;have lY3:=lY R3;have lY4:=lY (R3++[(u.n,atT u t)]);have hcc:=hc4 (R3++[(u.n,atT u t)]);have hlen4:(R3++[(u.n,atT u t)]).length=R3.length+1:=by simp
        generalize hY2:HY (R3++[(u.n,atT u t)])=Y2 at s1 hcc lY4;generalize HY R3=Y at e1 e2 s1 lY3⊢;subst hbx;simp[ki,f45,hr3,f5,f7,f8,e1,e2,lY3,htr,Qmh,hfit,htk,hlm,s1,-getElem?_pos];refine Wl (H.length+4) (Q00 _) (by simp[ki,kn,lY4]) ?_;refine⟨by simp[f0],by simp[f3],by simp[f7],by simp[f8],by simp[f15],by simp[f17],by simp[f16],by simp[f29],by simp[f31],by simp[f30],by simp[f45],R3++[(u.n,atT u t)],hstp3.symm,by simp[hlen4],?_⟩;rw[hY2];simpa using hcc []
       .rintro fr H3 ki kn ⟨f0,f3,f7,f8,f15,f17,f16,f29,f31,f30,f45,R3,hR3,f5,rfl⟩;rw[Q3w]at hR3;exact⟨by simp[f0],by simp[f3],by simp[f7],by simp[f8],by simp[f15],by simp[f17],by simp[f16],by simp[f29],by simp[f31],by simp[f30],R3,hR3,by simp[f5],_,rfl⟩
      .rintro fr H3 ⟨f0,f3,f7,f8,f15,f17,f16,f29,f31,f30,R3,hR3,f5,X,rfl⟩;simp;refine Wl (H.length+3) (Q00 _) (by simp[f31,f30,lY];omega) ?_;exact⟨by simp[f0],by simp[f3],by simp[f7],by simp[f8],by simp[f15],by simp[f17],by simp[f16],by simp[f29],R3,by rw[hstp,hR3,hR2,Q1f],by simp[f5],hc5 _ _⟩
     .have hp0:qlB S s u q b=[]:=by unfold qlB;rw[←hof,if_neg hos]
      have hne1:¬(ofS.1=s.1∧ofS.2=s.2):=fun h=>hos (Prod.ext h.1 h.2);rw[hp0,Q1i]at hstp;by_cases o1:ofS.1=s.1
      .have o2:¬ofS.2=s.2:=fun h=>hne1 ⟨o1,h⟩;simp[f3,e0,eqDs,eqD,o1,o2,-getElem?_pos];refine Wl (H.length+3) (Q00 _) (by simp[gi,gn,lY2]) ?_;exact⟨by simp[f0],by simp[f3],by simp[f7],by simp[f8],by simp[f15],by simp[f17],by simp[f16],by simp[f29],R2,by rw[hstp];exact hR2,by simp[f5],(hcn _).trans (by rw[hYe])⟩
      .simp[f3,e0,eqDs,eqD,o1,-getElem?_pos];refine Wl (H.length+3) (Q00 _) (by simp[gi,gn,lY2]) ?_;exact⟨by simp[f0],by simp[f3],by simp[f7],by simp[f8],by simp[f15],by simp[f17],by simp[f16],by simp[f29],R2,by rw[hstp];exact hR2,by simp[f5],(hcn _).trans (by rw[hYe])⟩
    .rintro fr H2 gi gn ⟨f0,f3,f7,f8,f15,f17,f16,f29,R2,hR2,f5,rfl⟩;have hU2:R2=R++qlU S s u:=hR2;rw[←hU2];exact⟨by simp[f0],by simp[f3],by simp[f15],by simp[f17],by simp[f16],by simp[f5],_,rfl⟩
   .rintro fr H2 ⟨f0,f3,f15,f17,f16,f5,X,rfl⟩;simp;refine Wl (H.length+2) (Q00 _) (by simp[f17,f16,lY]) ?_;refine⟨by simp[f0],by simp[f3],by simp[f15],by simp[f5,hst],?_⟩;rw[hst];exact hc _ _
  .rintro fr H' fi fn ⟨f0,f3,f15,f5,rfl⟩;rw[Q3w]at f5;simp[f5]
 .rintro fr H' ⟨f5,rfl⟩;have hcl1:Hp.Closed (H++[sy]):=Closed.snoc hcl fun n _=>hsc n;have hsrt:=hx.ixSort hS hS0 (qlS S s S) hmax hcl1 (qlS S s S).length tSp;have hHY:H++HY (qlS S s S)=(H++[sy])++[.vec 2 tSp (qlS S s S).length ((qlS S s S).map Wr)]:=by
   show H++[sy,_]=_;rw[Q1f];rfl
  have hll:((qlS S s S).mergeSort le).length=(qlS S s S).length:=Q3a _;rw[hHY];rw[Qum]at hsrt;generalize qlS S s S=L at f5 hsrt hll⊢;rw[show(H++[sy]).length=H.length+1 by simp]at hsrt;simp[f5,-List.append_assoc];refine Qa hsrt ?_;simp[f5,RetK,resA,-List.append_assoc];refine⟨[sy,.vec 2 tSp L.length ((L.mergeSort le).map Wr)],rfl,?_⟩;rw[Q1f,Qk hcl];simp[hsc,hv,-Ob.clr]
end
section
open Go.Proofs
theorem Toks.rise{s:Bs}{n:Nat}{l:List Tk}(h:Toks s n l):(∀t∈l,n<=t.a/\t.a+t.x.length<=n+s.length/\(t.k≠0->0<t.x.length))/\l.Pairwise λx y=>x.a<y.a/\x.a+x.x.length<=y.a:=by
 induction h with
 |@fin s n h h0=>have hl:Qo false s<=s.length:=Qbn false s;refine⟨λt ht=>?_,by simp⟩;rw[Q2u]at ht;subst ht;simp;omega
 |@tok s n l h h0 hr ih=>
  obtain⟨i1,i2⟩:=ih;obtain⟨t1,-,t3,-⟩:=Qel (s.drop (Qo false s));have t3:=t3 h h0;have hl:Qo false s<s.length:=by
   rcases Q26 (Qo false s) s.length with g|g
   .exact g
   .exact absurd (Q1w g) h0
  simp only[Q13]at i1 t1;refine⟨λt ht=>?_,Q22.2 ⟨λt ht=>?_,i2⟩⟩
  .rcases Q1o.1 ht with rfl|ht
   .simp only[Q2i,Q13];omega
   .have:=i1 t ht;omega
  .have:=i1 t ht;simp only[Q2i,Q13];omega
structure GdX(u:Un):Prop where
 once:∀t,evB u.sm.bs t+evM u.sm.ms t<=1
 mt:∀m∈u.sm.ms,m.t=-1\/(0<=m.t/\m.t<u.sm.bs.length)
 uin:∀j,j<u.sm.bs.length->∀t∈Wv u.sm j,0<=t/\t.toNat<u.tk.length
 rise:u.tk.Pairwise λx y=>x.a<y.a/\x.a+x.x.length<=y.a
 ne:∀t∈u.tk,t.k≠0->0<t.x.length
 bnd:∀t∈u.tk,(t.a:Int)+t.x.length<=1099511627776
 kd:∀j,j<u.sm.bs.length->∀t∈Wv u.sm j,kdT u.tk t.toNat=1
theorem Qt4(m:Mod):GdX (Wi m):=by
 by_cases h0:(Q0 m.t).2.2.1=0
 .obtain⟨n,j,h1,h2,h3,h4,h5,hI,hj,h6⟩:=Qcl h0;have hsm:(Wi m).sm=Vz n:=by
   show(if _ then _ else _)=_;rw[if_pos h0,h2]
  have htk:(Wi m).tk=(lexS m.t).1:=h1;have hN:=named hI;have hall:=Qmi n;have hbs:(Vz n).bs=(allR n).bs:=by rw[←hall];rfl
  have hms:(Vz n).ms=(allR n).ms:=by rw[←hall];rfl
  have hus:∀q,Wv (Vz n) q=Wv (allR n) q:=fun q=>by unfold Wv;rw[hbs,hms]
  have hT:=((Qhb m.t).2 h5).1;have hr:=hT.rise;have hlen:m.t.length≤16384:=((Qhb m.t).1.1 h5).1;refine⟨fun t=>?_,fun x hx=>?_,fun q hq t ht=>?_,?_,fun t ht=>?_,fun t ht=>?_,fun q hq t ht=>?_⟩
  .rw[hsm,hbs,hms];have h1:=hN.once t;have h2:indS 0 j t≤1:=by unfold indS;split<;>omega
   omega
  .rw[hsm,hms]at hx;rw[hsm,hbs];obtain⟨_,_,-,-,-,-,hg⟩:=(hN.ms x hx).ex;rcases hg with g|⟨g1,g2,-⟩
   .exact .inl g
   .exact .inr ⟨g1,g2⟩
  .rw[hsm,hbs]at hq;rw[hsm,hus]at ht;have:=hN.uses_in hI hq ht;rw[htk];omega
  .rw[htk];exact hr.2
  .rw[htk]at ht;exact(hr.1 t ht).2.2
  .rw[htk]at ht;have:=(hr.1 t ht).2.1;omega
  .rw[hsm,hbs]at hq;rw[hsm,hus]at ht;rw[htk];exact hN.uses_kd hI hq ht
 .have hsm:(Wi m).sm=⟨[],[],[]⟩:=by
   show(if _ then _ else _)=_;rw[if_neg h0]
  have htk:(Wi m).tk=[]:=by
   show(Q0 m.t).1=[];unfold Q0 at h0⊢;split
   .rfl
   .rename_i g1;split
    .rfl
    .rename_i g2;rw[if_neg g1,if_neg g2]at h0;exact absurd rfl h0
  refine⟨fun t=>?_,fun x hx=>?_,fun q hq=>?_,?_,fun t ht=>?_,fun t ht=>?_,fun q hq=>?_⟩
  .rw[hsm];simp[evB,evM]
  .rw[hsm]at hx;simp at hx
  .rw[hsm]at hq;simp at hq
  .rw[htk];exact List.Pairwise.nil
  .rw[htk]at ht;simp at ht
  .rw[htk]at ht;simp at ht
  .rw[hsm]at hq;simp at hq
theorem Qg9{S:SM}{k:Nat}(hk:k<S.bs.length){t:Int}:t∈Wv S k↔(∃b,S.bs[k]?=some b/\b.a=t)\/∃m∈S.ms,m.a=t/\m.t=(k:Int):=Qu7 hk t
theorem Qnc{α:Type}{p:α->Bool}:∀{l:List α} {i:Int},(∀x∈l,p x=false)->fstI p l i=-1
 |[],_,_=>rfl
 |x::r,i,h=>by unfold fstI;rw[h x (by simp)];simpa using Qnc (l:=r) (i:=i+1) λy hy=>h y (by simp[hy])
theorem Qp1{α:Type}{p:α->Bool}:∀{l:List α} {i:Int} {k:Nat} {x:α},l.countP p<=1->l[k]?=some x->p x=true->fstI p l i=i+k
 |[],_,_,_,_,h,_=>by simp at h
 |y::r,i,0,x,hc,h,hp=>by simp at h;subst h;unfold fstI;simp[hp]
 |y::r,i,k+1,x,hc,h,hp=>by
  simp at h;have h1:0<r.countP p:=Q2z.2 ⟨x,Q1g h,hp⟩;rw[Q46]at hc;have hy:p y=false:=by
   cases hpy:p y with
   |false=>rfl
   |true=>rw[hpy,if_pos rfl]at hc;omega
  rw[hy]at hc;unfold fstI;rw[hy];have:=Qp1 (i:=i+1) (p:=p) (by simpa using hc) h hp;simp only[Q07,if_false];rw[this];omega
theorem Qnb{α:Type}{p:α->Bool}:∀{l:List α} {i:Int},fstI p l i=-1\/∃(k:Nat)(x:α),fstI p l i=i+k/\l[k]?=some x/\p x=true
 |[],_=>.inl rfl
 |y::r,i=>by
  unfold fstI;cases hp:p y with
  |true=>exact .inr ⟨0,y,by simp,rfl,hp⟩
  |false=>
   rcases Qnb (p:=p) (l:=r) (i:=i+1)with h|⟨k,x,h1,h2,h3⟩
   .exact .inl (by simpa using h)
   .refine .inr ⟨k+1,x,?_,by simpa using h2,h3⟩;simp only[Q07,if_false];rw[h1];omega
theorem Ql7{t:Int}:∀{l:List Mn},((∀m∈l,m.a≠t)/\fdM t l=-1)\/∃m∈l,m.a=t/\fdM t l=m.t
 |[]=>.inl ⟨by simp,rfl⟩
 |m::r=>by
  unfold fdM;by_cases h:m.a=t
  .exact .inr ⟨m,by simp,h,by rw[if_pos h]⟩
  .rw[if_neg h];rcases Ql7 (t:=t) (l:=r)with⟨h1,h2⟩|⟨x,h1,h2,h3⟩
   .refine .inl ⟨λx hx=>?_,h2⟩;rcases Q1o.1 hx with rfl|hx
    .exact h
    .exact h1 x hx
   .exact .inr ⟨x,by simp[h1],h2,h3⟩
theorem Qje{α:Type}{p:α->Bool}{l:List α}(hc:l.countP p<=1){x y:α}(hx:x∈l)(hy:y∈l)(px:p x=true)(py:p y=true):x=y:=by obtain⟨i,hi⟩:=Q3c hx;obtain⟨j,hj⟩:=Q3c hy;have:=Qnj hc hi hj px py;subst this;rw[hi]at hj;cases hj;rfl
theorem GdX.mapAt{u:Un}(h:GdX u){k:Nat}(hk:k<u.sm.bs.length){t:Int}(ht:t∈Wv u.sm k):mapAt u.sm t=k:=by
 have ho:=h.once t;unfold Zam.mapAt;rcases(Qg9 hk).1 ht with⟨b,hb,hba⟩|⟨m,hm,hma,hmt⟩
 .have hc:u.sm.bs.countP (bdAt t)<=1:=by have:u.sm.bs.countP (bdAt t)=evB u.sm.bs t:=rfl;omega
  have:=Qp1 (i:=0) hc hb (by simp[bdAt,hba]);rw[this];rw[if_neg (by omega)];omega
 .have h1:0<evM u.sm.ms t:=Q2z.2 ⟨m,hm,by simp[hma]⟩;have h2:evB u.sm.bs t=0:=by omega
  have h3:fstI (bdAt t) u.sm.bs 0=-1:=Qnc λb hb=>by
   cases hp:bdAt t b with
   |false=>rfl
   |true=>have:0<evB u.sm.bs t:=Q2z.2 ⟨b,hb,hp⟩;omega
  rw[if_pos h3];rcases Ql7 (t:=t) (l:=u.sm.ms)with⟨g,-⟩|⟨x,g1,g2,g3⟩
  .exact absurd hma (g m hm)
  .have:=Qje (p:=λm:Mn=>decide (m.a=t)) (by show evM u.sm.ms t<=1;omega) hm g1 (by simp[hma]) (by simp[g2]);rw[g3,<-this,hmt]
theorem GdX.mapAt_none{u:Un}(h:GdX u){t:Int}(ht:∀k,k<u.sm.bs.length->t∉Wv u.sm k):Zam.mapAt u.sm t<0:=by
 unfold Zam.mapAt;rcases Qnb (p:=bdAt t) (l:=u.sm.bs) (i:=0)with h1|⟨k,b,h1,h2,h3⟩
 .rw[if_pos h1];rcases Ql7 (t:=t) (l:=u.sm.ms)with⟨-,g⟩|⟨m,g1,g2,g3⟩
  .omega
  .rcases h.mt m g1 with g|⟨g4,g5⟩
   .omega
   .refine absurd ?_ (ht m.t.toNat (by omega));exact(Qg9 (by omega)).2 (.inr ⟨m,g1,g2,by omega⟩)
 .refine absurd ?_ (ht k (Q0y.1 h2).1);exact(Qg9 (Q0y.1 h2).1).2 (.inl ⟨b,h2,by simpa[bdAt]using h3⟩)
theorem GdX.mapAt_some{u:Un}(h:GdX u){t:Int}(hn:0<=Zam.mapAt u.sm t):∃k:Nat,k<u.sm.bs.length/\Zam.mapAt u.sm t=k/\t∈Wv u.sm k:=by
 by_cases hx:∃k,k<u.sm.bs.length/\t∈Wv u.sm k
 .obtain⟨k,h1,h2⟩:=hx;exact⟨k,h1,h.mapAt h1 h2,h2⟩
 .have:=h.mapAt_none (t:=t) λk hk ht=>hx ⟨k,hk,ht⟩;omega
end
section
open Go.Proofs
def cSp(x y:Bs×Int):Int:=if Wa x.1 y.1=0 then V5 x.2 y.2 else Wa x.1 y.1
theorem Qao:Cmp cSp:=(Qcc.on Prod.fst).lex (Qmd.on Prod.snd)
theorem Qqo{a b:Int}:V5 a b=0↔a=b:=by
 unfold V5;constructor
 .intro h;split at h
  .omega
  .split at h<;>omega
 .rintro rfl;simp
theorem Qqp{x y:Bs×Int}(h:cSp x y=0):x=y:=by
 unfold cSp at h;split at h
 .rename_i h1;exact Prod.ext (Vr.1 h1) (Qqo.1 h)
 .rename_i h1;exact absurd h h1
def leSp(x y:Bs×Int):Bool:= !decide (cSp y x<0)
theorem Qhc{x y:Bs×Int}:leSp x y=true↔cSp x y<=0:=by unfold leSp;rw[<-Qao.not_lt];simp
theorem Qo6{A B:List (Bs×Int)}(hp:A.Perm B)(hB:B.Pairwise λx y=>cSp x y<=0):A.mergeSort leSp=B:=by
 have h1:(A.mergeSort leSp).Pairwise λx y=>leSp x y=true:=List.pairwise_mergeSort (λa b c h1 h2=>by
  rw[Qhc]at*;exact Qao.trans _ _ _ h1 h2) (λa b=>by
  rcases Qao.le_total a b with h|h
  .rw[Qhc.2 h];rfl
  .rw[Qhc.2 h,Bool.or_true]) A
 refine List.Perm.eq_of_pairwise (le:=λx y=>cSp x y<=0) (λa b _ _ h2 h3=>Qqp (Qao.le_antisymm h2 h3)) (h1.imp λh=>Qhc.1 h) hB ((List.mergeSort_perm A leSp).trans hp)
theorem Qpk{α:Type}{R:α->α->Prop}:∀{l:List α},(∀x∈l,∀y∈l,R x y)->l.Pairwise R
 |[],_=>.nil
 |x::r,h=>Q22.2 ⟨λy hy=>h x (by simp) y (by simp[hy]),Qpk λa ha b hb=>h a (by simp[ha]) b (by simp[hb])⟩
theorem Qha{S:List Un}{u:Un}{s x:Bs×Int}{k t:Nat}(h:x∈plT S u s k t):∃y,u.tk[t]?=some y/\x=(u.n,(y.a:Int)):=by
 unfold plT at h;obtain⟨j,-,hj⟩:=Q4i.1 h;unfold plB at hj;split at hj
 .rename_i b y h1 h2;split at hj
  .exact⟨y,h2,by simpa using hj⟩
  .simp at hj
 .simp at hj
theorem Qv7{S:List Un}{s:Bs×Int}{u:Un}(hx:GdX u):(plU S s u).Pairwise λx y=>cSp x y<=0:=by
 unfold plU plV;rw[List.pairwise_flatMap];refine⟨λt _=>Qpk λx h1 y h2=>?_,List.pairwise_lt_range.imp λ{a b} hab x h1 y h2=>?_⟩
 .obtain⟨z,g1,rfl⟩:=Qha h1;obtain⟨w,g2,rfl⟩:=Qha h2;rw[g1]at g2;cases g2
  rw[Qao.refl];omega
 .obtain⟨z,g1,rfl⟩:=Qha h1;obtain⟨w,g2,rfl⟩:=Qha h2;obtain⟨i1,e1⟩:=Q0y.1 g1;obtain⟨i2,e2⟩:=Q0y.1 g2;have:=Q5y.1 hx.rise a b i1 i2 hab;rw[e1,e2]at this;have e:Wa u.n u.n=0:=Qcc.refl _;unfold cSp;simp only[e,if_true];unfold V5;rw[if_pos (by omega)];omega
theorem Qri{S T:List Un}{s:Bs×Int}(hS:T.Pairwise λu v=>cU u v<0)(hx:∀u∈T,GdX u):(T.flatMap (plU S s)).Pairwise λx y=>cSp x y<=0:=by
 rw[List.pairwise_flatMap];refine⟨λu hu=>Qv7 (hx u hu),hS.imp λ{u v} huv x h1 y h2=>?_⟩;have g:∀{u:Un} {x:Bs×Int},x∈plU S s u->x.1=u.n:=λ{u x} h=>by unfold plU plV at h;obtain⟨t,-,ht⟩:=Q4i.1 h;obtain⟨y,-,rfl⟩:=Qha ht;rfl
 have huv:Wa u.n v.n<0:=huv;unfold cSp;rw[g h1,g h2,if_neg (by omega)];omega
theorem Qdn{α β:Type}(f g:α->List β):∀l:List α,(l.flatMap λx=>f x++g x).Perm (l.flatMap f++l.flatMap g)
 |[]=>by simp
 |x::r=>by have ih:=Qdn f g r;simp only[Q3f,Q1f];refine List.Perm.append_left _ ?_;refine(List.Perm.append_left _ ih).trans ?_;exact List.perm_append_comm_assoc _ _ _
theorem Ql2{α β:Type}{g:α->List β}{p:α->Bool}{f:α->β}:∀{l:List α},(∀t∈l,g t=if p t=true then[f t]else[])->l.flatMap g=(l.filter p).map f
 |[],_=>rfl
 |x::r,h=>by rw[Q3f,Ql2 λt ht=>h t (by simp[ht]),h x (by simp)];cases hp:p x<;>simp[hp]
theorem GdX.nodup{u:Un}(hx:GdX u){j:Nat}(hj:j<u.sm.bs.length):(Wv u.sm j).Nodup:=by
 rw[List.nodup_iff_count];intro t;rw[Qr7 _ _ hj];have h1:=hx.once t;have h2:(u.sm.ms.countP λm=>decide (m.t=(j:Int))&&decide (m.a=t))<=evM u.sm.ms t:=List.countP_mono_left λm _=>by simp
 have h3:(if(bAt u.sm.bs j).a=t then 1 else 0)<=evB u.sm.bs t:=by
  split
  .rename_i h;refine Q2z.2 ⟨bAt u.sm.bs j,?_,by simp[h]⟩;unfold bAt;rw[Q2e,Q11,Q0x hj];exact Q1u hj
  .omega
 omega
theorem Qs2{u:Un}{j:Nat}{b:SBd}(hb:u.sm.bs[j]?=some b)(t:Int):hitK b u.sm.ms t j=true↔t∈Wv u.sm j:=by rw[Qg9 (Q0y.1 hb).1];unfold hitK hitM;simp only[Q2x,decide_eq_true_eq,List.any_eq_true];refine or_congr ⟨λh=>⟨b,hb,h⟩,?_⟩ Q2f;rintro⟨c,hc,h⟩;rw[hb]at hc;cases hc;exact h
theorem Qv2{S:List Un}{s:Bs×Int}{u:Un}(hx:GdX u){j:Nat}{b:SBd}(hb:u.sm.bs[j]?=some b):(qlB S s u j b).Perm ((List.range u.tk.length).flatMap λt=>plB S u s t j):=by
 have hj:=(Q0y.1 hb).1;unfold qlB;by_cases ho:ofSy S u b=s
 .rw[if_pos ho];have h1:((List.range u.tk.length).flatMap λt=>plB S u s t j)=((List.range u.tk.length).filter λt:Nat=>hitK b u.sm.ms t j).map λt:Nat=>(u.n,atT u t):=Ql2 λt ht=>by
   have htl:=Q3e.1 ht;unfold plB;rw[hb,Q0x htl];simp only[ho,true_and];have:atT u (t:Int)=(u.tk[t].a:Int):=by unfold atT;simp[htl]
   rw[this]
  have h2:(((List.range u.tk.length).filter λt:Nat=>hitK b u.sm.ms t j).map λt:Nat=>(u.n,atT u t))=(((List.range u.tk.length).filter λt:Nat=>hitK b u.sm.ms t j).map λt:Nat=>(t:Int)).map λt=>(u.n,atT u t):=by rw[Q49];rfl
  rw[h1,h2];refine List.Perm.map _ ((Qlp _).trans ?_);refine(List.perm_ext_iff_of_nodup (hx.nodup hj) ?_).2 λt=>?_
  .unfold List.Nodup;rw[List.pairwise_map];exact(List.Pairwise.filter _ (List.pairwise_lt_range)).imp λh e=>by omega
  .rw[Q2l];constructor
   .intro ht;obtain⟨g1,g2⟩:=hx.uin j hj t ht;refine⟨t.toNat,Q23.2 ⟨Q3e.2 g2,?_⟩,by omega⟩;rw[show((t.toNat:Nat):Int)=t by omega];exact(Qs2 hb t).2 ht
   .rintro⟨k,hk,rfl⟩;exact(Qs2 hb _).1 (Q23.1 hk).2
 .rw[if_neg ho];have h1:((List.range u.tk.length).flatMap λt=>plB S u s t j)=[]:=by rw[List.flatMap_eq_nil_iff];intro t ht;unfold plB;rw[hb,Q0x (Q3e.1 ht)];simp[ho]
  rw[h1]
theorem Qpf{S:List Un}{s:Bs×Int}{u:Un}(hx:GdX u):∀j,j<=u.sm.bs.length->(qlK S s u j).Perm ((List.range u.tk.length).flatMap λt=>plT S u s j t)
 |0,_=>by
  have:((List.range u.tk.length).flatMap λt=>plT S u s 0 t)=[]:=by rw[List.flatMap_eq_nil_iff];intro t _;rfl
  rw[this];exact List.Perm.refl _
 |j+1,h=>by have ih:=Qpf (S:=S) (s:=s) hx j (by omega);have hb:=Q0x (show j<u.sm.bs.length by omega);rw[Qlc hb];simp only[Qpi];exact(ih.append (Qv2 hx hb)).trans (Qdn _ _ _).symm
theorem Qv5{S:List Un}(hS:S.Pairwise λu v=>cU u v<0)(hx:∀u∈S,GdX u)(s:Bs×Int):(qlS S s S).mergeSort leSp=Qb4 S s:=by
 refine Qo6 ?_ (Qri hS hx);have:∀T:List Un,(∀u∈T,GdX u)->(qlS S s T).Perm (T.flatMap (plU S s)):=by
  intro T;induction T with
  |nil=>intro _;exact List.Perm.refl _
  |cons u r ih=>intro h;unfold qlS;simp only[Q3f];exact(Qpf (h u (by simp)) _ (Q00 _)).append (ih λv hv=>h v (by simp[hv]))
 exact this S hx
end
end Go.Zam
namespace Go.Proofs
open Go.Shelf
def Tryz.lays189_ren:Go.Shelf.Ren:=⟨λ|189=>36|125=>56|257=>55|128=>83|129=>84|294=>74|295=>75|296=>76|297=>77|298=>78|299=>79|216=>80|300=>81|301=>82|328=>115|329=>116|330=>117|331=>118|332=>119|215=>58|343=>155|n=>n,λ|28=>83|3=>3|46=>123|0=>0|51=>169|53=>171|4=>4|183=>162|182=>161|131=>96|5=>5|9=>9|218=>208|222=>212|228=>240|229=>241|n=>n,λ|n=>n⟩
theorem Tryz.lays189:Go.Proofs.Lays.n189 Tryz.prog Tryz.lays189_ren:={
 mixed:=by kernel_rfl
 f125:=Tryz.func56.trans (congrArg some (by kernel_rfl))
 f128:=Tryz.func83.trans (congrArg some (by kernel_rfl))
 f129:=Tryz.func84.trans (congrArg some (by kernel_rfl))
 f189:=Tryz.func36.trans (congrArg some (by kernel_rfl))
 f215:=Tryz.func58.trans (congrArg some (by kernel_rfl))
 f216:=Tryz.func80.trans (congrArg some (by kernel_rfl))
 f257:=Tryz.func55.trans (congrArg some (by kernel_rfl))
 f294:=Tryz.func74.trans (congrArg some (by kernel_rfl))
 f295:=Tryz.func75.trans (congrArg some (by kernel_rfl))
 f296:=Tryz.func76.trans (congrArg some (by kernel_rfl))
 f297:=Tryz.func77.trans (congrArg some (by kernel_rfl))
 f298:=Tryz.func78.trans (congrArg some (by kernel_rfl))
 f299:=Tryz.func79.trans (congrArg some (by kernel_rfl))
 f300:=Tryz.func81.trans (congrArg some (by kernel_rfl))
 f301:=Tryz.func82.trans (congrArg some (by kernel_rfl))
 f328:=Tryz.func115.trans (congrArg some (by kernel_rfl))
 f329:=Tryz.func116.trans (congrArg some (by kernel_rfl))
 f330:=Tryz.func117.trans (congrArg some (by kernel_rfl))
 f331:=Tryz.func118.trans (congrArg some (by kernel_rfl))
 f332:=Tryz.func119.trans (congrArg some (by kernel_rfl))
 f343:=Tryz.func155.trans (congrArg some (by kernel_rfl))
 t0:=Tryz.underlying0
 a0:=Tryz.isAgg0
 z0:=Tryz.sizeOf0
 v0:=Tryz.zeroValue0
 t3:=Tryz.underlying3
 a3:=Tryz.isAgg3
 z3:=Tryz.sizeOf3
 v3:=Tryz.zeroValue3
 t4:=Tryz.underlying4
 a4:=Tryz.isAgg4
 z4:=Tryz.sizeOf4
 v4:=Tryz.zeroValue4
 t5:=Tryz.underlying5
 a5:=Tryz.isAgg5
 z5:=Tryz.sizeOf5
 v5:=Tryz.zeroValue5
 t9:=Tryz.underlying9
 a9:=Tryz.isAgg9
 z9:=Tryz.sizeOf9
 v9:=Tryz.zeroValue9
 t28:=Tryz.underlying83
 a28:=Tryz.isAgg83
 z28:=Tryz.sizeOf83
 v28:=Tryz.zeroValue83
 t46:=Tryz.underlying123
 a46:=Tryz.isAgg123
 z46:=Tryz.sizeOf123
 v46:=Tryz.zeroValue123
 t51:=Tryz.underlying169
 a51:=Tryz.isAgg169
 z51:=Tryz.sizeOf169
 v51:=Tryz.zeroValue169
 t53:=Tryz.underlying171
 a53:=Tryz.isAgg171
 z53:=Tryz.sizeOf171
 v53:=Tryz.zeroValue171
 t131:=Tryz.underlying96
 a131:=Tryz.isAgg96
 z131:=Tryz.sizeOf96
 v131:=Tryz.zeroValue96
 t182:=Tryz.underlying161
 a182:=Tryz.isAgg161
 z182:=Tryz.sizeOf161
 v182:=Tryz.zeroValue161
 t183:=Tryz.underlying162
 a183:=Tryz.isAgg162
 z183:=Tryz.sizeOf162
 v183:=Tryz.zeroValue162
 t218:=Tryz.underlying208
 a218:=Tryz.isAgg208
 z218:=Tryz.sizeOf208
 v218:=Tryz.zeroValue208
 t222:=Tryz.underlying212
 a222:=Tryz.isAgg212
 z222:=Tryz.sizeOf212
 v222:=Tryz.zeroValue212
 t228:=Tryz.underlying240
 a228:=Tryz.isAgg240
 z228:=Tryz.sizeOf240
 v228:=Tryz.zeroValue240
 t229:=Tryz.underlying241
 a229:=Tryz.isAgg241
 z229:=Tryz.sizeOf241
 v229:=Tryz.zeroValue241}
def Tryz.sortF_ren:Go.Shelf.Ren:=⟨λ|6=>37|15=>56|14=>57|28=>83|29=>84|20=>85|21=>86|22=>87|23=>88|24=>89|25=>90|26=>91|27=>92|46=>120|47=>116|48=>117|49=>121|50=>122|57=>156|n=>n,λ|22=>38|24=>24|25=>112|3=>3|39=>123|0=>0|53=>169|55=>171|4=>4|46=>162|45=>161|50=>96|5=>5|9=>9|66=>208|70=>212|76=>240|77=>241|n=>n,λ|n=>n⟩
theorem Tryz.sortF:Go.Proofs.SlLaysF0.n6 Tryz.prog Tryz.sortF_ren:={
 mixed:=by kernel_rfl
 f6:=⟨Tryz.f37.name,by decide,Tryz.func37.trans (congrArg some (by kernel_rfl))⟩
 f14:=⟨Tryz.f57.name,by decide,Tryz.func57.trans (congrArg some (by kernel_rfl))⟩
 f15:=Tryz.func56.trans (congrArg some (by kernel_rfl))
 f20:=⟨Tryz.f85.name,by decide,Tryz.func85.trans (congrArg some (by kernel_rfl))⟩
 f21:=⟨Tryz.f86.name,by decide,Tryz.func86.trans (congrArg some (by kernel_rfl))⟩
 f22:=⟨Tryz.f87.name,by decide,Tryz.func87.trans (congrArg some (by kernel_rfl))⟩
 f23:=⟨Tryz.f88.name,by decide,Tryz.func88.trans (congrArg some (by kernel_rfl))⟩
 f24:=⟨Tryz.f89.name,by decide,Tryz.func89.trans (congrArg some (by kernel_rfl))⟩
 f25:=⟨Tryz.f90.name,by decide,Tryz.func90.trans (congrArg some (by kernel_rfl))⟩
 f26:=⟨Tryz.f91.name,by decide,Tryz.func91.trans (congrArg some (by kernel_rfl))⟩
 f27:=⟨Tryz.f92.name,by decide,Tryz.func92.trans (congrArg some (by kernel_rfl))⟩
 f28:=Tryz.func83.trans (congrArg some (by kernel_rfl))
 f29:=Tryz.func84.trans (congrArg some (by kernel_rfl))
 f46:=⟨Tryz.f120.name,by decide,Tryz.func120.trans (congrArg some (by kernel_rfl))⟩
 f47:=Tryz.func116.trans (congrArg some (by kernel_rfl))
 f48:=Tryz.func117.trans (congrArg some (by kernel_rfl))
 f49:=⟨Tryz.f121.name,by decide,Tryz.func121.trans (congrArg some (by kernel_rfl))⟩
 f50:=⟨Tryz.f122.name,by decide,Tryz.func122.trans (congrArg some (by kernel_rfl))⟩
 f57:=⟨Tryz.f156.name,by decide,Tryz.func156.trans (congrArg some (by kernel_rfl))⟩
 t0:=Tryz.underlying0
 a0:=Tryz.isAgg0
 z0:=Tryz.sizeOf0
 v0:=Tryz.zeroValue0
 t3:=Tryz.underlying3
 a3:=Tryz.isAgg3
 z3:=Tryz.sizeOf3
 v3:=Tryz.zeroValue3
 t4:=Tryz.underlying4
 a4:=Tryz.isAgg4
 z4:=Tryz.sizeOf4
 v4:=Tryz.zeroValue4
 t5:=Tryz.underlying5
 a5:=Tryz.isAgg5
 z5:=Tryz.sizeOf5
 v5:=Tryz.zeroValue5
 t9:=Tryz.underlying9
 a9:=Tryz.isAgg9
 z9:=Tryz.sizeOf9
 v9:=Tryz.zeroValue9
 t22:=Tryz.underlying38
 a22:=Tryz.isAgg38
 z22:=Tryz.sizeOf38
 v22:=Tryz.zeroValue38
 t25:=Tryz.underlying112
 a25:=Tryz.isAgg112
 z25:=Tryz.sizeOf112
 v25:=Tryz.zeroValue112
 t39:=Tryz.underlying123
 a39:=Tryz.isAgg123
 z39:=Tryz.sizeOf123
 v39:=Tryz.zeroValue123
 t45:=Tryz.underlying161
 a45:=Tryz.isAgg161
 z45:=Tryz.sizeOf161
 v45:=Tryz.zeroValue161
 t46:=Tryz.underlying162
 a46:=Tryz.isAgg162
 z46:=Tryz.sizeOf162
 v46:=Tryz.zeroValue162
 t50:=Tryz.underlying96
 a50:=Tryz.isAgg96
 z50:=Tryz.sizeOf96
 v50:=Tryz.zeroValue96
 t53:=Tryz.underlying169
 a53:=Tryz.isAgg169
 z53:=Tryz.sizeOf169
 v53:=Tryz.zeroValue169
 t55:=Tryz.underlying171
 a55:=Tryz.isAgg171
 z55:=Tryz.sizeOf171
 v55:=Tryz.zeroValue171
 t66:=Tryz.underlying208
 a66:=Tryz.isAgg208
 z66:=Tryz.sizeOf208
 v66:=Tryz.zeroValue208
 t70:=Tryz.underlying212
 a70:=Tryz.isAgg212
 z70:=Tryz.sizeOf212
 v70:=Tryz.zeroValue212
 t76:=Tryz.underlying240
 a76:=Tryz.isAgg240
 z76:=Tryz.sizeOf240
 v76:=Tryz.zeroValue240
 t77:=Tryz.underlying241
 a77:=Tryz.isAgg241
 z77:=Tryz.sizeOf241
 v77:=Tryz.zeroValue241}
namespace Zq
open Go Go.Zam Go.Proofs Go.RowKit Go.Lib Go.Sort
theorem nanS(a:ByteArray)(w:World):Calls Tryz.prog 52 #[.string a] w λe w'=>e=.returned (.bool false)/\w'=w:=by go_enter Tryz.func52,Tryz.ntmps52;go_wp2;go_ret;exact⟨by simp,rfl⟩
theorem nanI(a:Int)(w:World):Calls Tryz.prog 58 #[.int .i64 a] w λe w'=>e=.returned (.bool false)/\w'=w:=by go_enter Tryz.func58,Tryz.ntmps58;go_wp2;go_ret;exact⟨by simp,rfl⟩
theorem gtS(a b:List UInt8)(w:World):(binOp .gtr 9 (.string ⟨a.toArray⟩) (.string ⟨b.toArray⟩)).run Tryz.prog w=.ok (.bool (!(Op.bytesLess a b||decide (a=b)))) w:=by have h:(binOp .gtr 9 (.string ⟨a.toArray⟩) (.string ⟨b.toArray⟩)).run Tryz.prog w=.ok (.bool (!(Op.bytesLess (ByteArray.toList ⟨a.toArray⟩) (ByteArray.toList ⟨b.toArray⟩)||(ByteArray.toList ⟨a.toArray⟩==ByteArray.toList ⟨b.toArray⟩)))) w:=rfl;rw[h,Qdo,Y9,Y9]
theorem compS(a b:List UInt8)(w:World):Calls Tryz.prog 33 #[.string ⟨a.toArray⟩,.string ⟨b.toArray⟩] w λe w'=>e=.returned (.int .i64 (Wa a b))/\w'=w:=by
 have hn:=nanS;go_enter Tryz.func33,Tryz.ntmps33;go_wp2_with (go_at_call 52;refine(hn _ _).mono ?_;rintro e w' ⟨rfl,rfl⟩)
 .go_ret
  refine⟨?_,rfl⟩;have hb:Op.bytesLess a b=true:=by assumption
  unfold Wa;rw[hb];rfl
 .rw[gtS]
  go_wp2;all_goals (go_ret;refine⟨?_,rfl⟩;unfold Wa;simp_all)
theorem compI(a b:Int)(w:World):Calls Tryz.prog 40 #[.int .i64 a,.int .i64 b] w λe w'=>e=.returned (.int .i64 (V5 a b))/\w'=w:=by have hn:=nanI;go_enter Tryz.func40,Tryz.ntmps40;go_wp2_with (go_at_call 58;refine(hn _ _).mono ?_;rintro e w' ⟨rfl,rfl⟩);all_goals (go_ret;refine⟨?_,rfl⟩;unfold V5;(repeat' split)<;>first|rfl|(exfalso;omega))
theorem or2(b:Nat)(x y r:Int)(w:World)(hr0:x=0->r=y)(hr1:x≠0->r=x)(h0:w.cell? ⟨b,0,none⟩=some (.int .i64 x))(h1:w.cell? ⟨b,1,none⟩=some (.int .i64 y)):Calls Tryz.prog 39 #[.slice (some ⟨b,0,none⟩) 2 2] w λe w'=>e=.returned (.int .i64 r)/\w'=w:=by
 go_enter Tryz.func39,Tryz.ntmps39
 go_wp2
 go_loopw [8] (λi wr=>∃k:Nat,k<=2/\i=.int .i64 k/\wr=w/\(1<=k->x=0)/\(2<=k->y=0)) (λi _=>2-(intOf i).toNat)
 case atStart=>exact⟨0,by omega,rfl,rfl,by omega,by omega⟩
 case round=>
  obtain⟨k,hk,rfl,rfl,hx,hy⟩:=hrel;rcases(show k=0\/k=1\/k=2 from by omega)with rfl|rfl|rfl
  .go_wp2
   .have hb:(x != 0)=true:=by assumption
    have hb:x≠0:=by simpa using hb
    go_ret
    exact⟨by rw[hr1 hb];rfl,rfl⟩
   .have hb:(x != 0)=false:=by assumption
    have hb:x=0:=by simpa using hb
    exact⟨⟨1,by omega,rfl,trivial,λ_=>hb,by omega⟩,by simp[intOf]⟩
  .have hx:=hx (by omega)
   go_wp2
   .go_ret
    exact⟨by rw[hr0 hx];rfl,rfl⟩
   .have hb:(y != 0)=false:=by assumption
    have hb:y=0:=by simpa using hb
    exact⟨⟨2,by omega,rfl,trivial,λ_=>hx,λ_=>hb⟩,by simp[intOf]⟩
  .have hx:=hx (by omega);have hy:=hy (by omega)
   go_wp2
   go_ret
   exact⟨by rw[hr0 hx,hy];rfl,rfl⟩
theorem Qon(W:World)(o:Array Value)(t:TypeId)(i:Nat):(W.alloc (.cells o t)).cell? ⟨W.heap.size,i,none⟩=o[i]?:=by unfold World.cell?;simp only[World.alloc_heap_new];simp
theorem Qy5(W:World)(o p:Array Value)(t u:TypeId)(i:Nat):((W.alloc (.cells o t)).alloc (.cells p u)).drew.cell? ⟨W.heap.size,i,none⟩=o[i]?:=by have h:Below (W.heap.size+1) (W.alloc (.cells o t)) ((W.alloc (.cells o t)).alloc (.cells p u)):=(Below.refl _ _).alloc (by simp) _;exact(h.cell (p:=⟨W.heap.size,i,none⟩) (by show W.heap.size<_;omega)).trans (Qon W o t i)
theorem Qy4(W:World)(o p:Array Value)(t u:TypeId)(i:Nat):((W.alloc (.cells o t)).alloc (.cells p u)).drew.cell? ⟨W.heap.size+1,i,none⟩=p[i]?:=by have h:=Qon (W.alloc (.cells o t)) p u i;simpa using h
theorem Qw2(x y:Bs×Int)(W:World):Calls Tryz.prog 38 #[.agg #[.string ⟨x.1.toArray⟩,.int .i64 x.2],.agg #[.string ⟨y.1.toArray⟩,.int .i64 y.2]] W fun e w'=>e=.returned (.int .i64 (cSp x y))∧∃q os',w'=grow (W.drewN q) os':=by
 have hS:=compS x.1 y.1;have hI:=compI x.2 y.2;have hO:=fun b W' c0 c1=>or2 b (Wa x.1 y.1) (V5 x.2 y.2) (cSp x y) W' (fun h=>by unfold cSp;rw[if_pos h]) (fun h=>by unfold cSp;rw[if_neg h]) c0 c1;generalize cSp x y=r at hO⊢;generalize Wa x.1 y.1=a at hS hO;generalize V5 x.2 y.2=b at hI hO
 go_enter Tryz.func38,Tryz.ntmps38
 go_wp2
 obtain⟨W2,hW2⟩:∃W2,(W.alloc (.cells #[.string ⟨x.1.toArray⟩,.int .i64 x.2] 24)).alloc (.cells #[.string ⟨y.1.toArray⟩,.int .i64 y.2] 24)=W2:=⟨_,rfl⟩;have c0:W2.drew.cell? ⟨W.heap.size,0,none⟩=some (.string ⟨x.1.toArray⟩):=by rw[←hW2,Qy5];rfl
 have c1:W2.drew.cell? ⟨W.heap.size,1,none⟩=some (.int .i64 x.2):=by rw[←hW2,Qy5];rfl
 have c2:W2.drew.cell? ⟨W.heap.size+1,0,none⟩=some (.string ⟨y.1.toArray⟩):=by rw[←hW2,Qy4];rfl
 have c3:W2.drew.cell? ⟨W.heap.size+1,1,none⟩=some (.int .i64 y.2):=by rw[←hW2,Qy4];rfl
 have hg:∃os,W2.drew=grow (W.drewN 1) os:=⟨#[.cells #[.string ⟨x.1.toArray⟩,.int .i64 x.2] 24,.cells #[.string ⟨y.1.toArray⟩,.int .i64 y.2] 24],by rw[←hW2,alloc_eq_grow,alloc_eq_grow,grow_grow];rfl⟩;rw[hW2];clear hW2;refine wp_region_still_tail 10 (by kernel_rfl) (by kernel_rfl) ?_;simp only[List.take_succ_cons,Q20,Q3m,Q3u]
 still_step
 still_step
 still_step
 still_step
 still_call (hS _)
 still_step
 still_step
 still_step
 still_step
 still_call (hI _)
 refine wpStill_nil ?_;change wpList _ _ _ _ _ W2.drew;generalize W2.drew=W3 at hg⊢
 go_wp2_with (go_at_call 39;refine(hO _ _ (Qon _ _ _ 0) (Qon _ _ _ 1)).mono ?_;rintro e w' ⟨rfl,rfl⟩)
 go_ret
 obtain⟨os,hg⟩:=hg;exact⟨rfl,1,_,by rw[hg,alloc_eq_grow,grow_grow]⟩
theorem swoSp:SWO (ltOf cSp) where
 irrefl x:=by unfold ltOf;rw[Qao.refl];rfl
 trans x y z h1 h2:=by unfold ltOf at*;simp only[decide_eq_true_eq]at*;exact Qao.lt_le h1 (by omega)
 ntrans x y z h1 h2:=by unfold ltOf at*;simp only[decide_eq_false_iff_not]at*;rw[Qao.not_lt]at*;exact Qao.trans _ _ _ h2 h1
theorem totSp(x y:Bs×Int)(h1:ltOf cSp x y=false)(h2:ltOf cSp y x=false):x=y:=by unfold ltOf at*;simp only[decide_eq_false_iff_not]at*;rw[Qao.not_lt]at*;exact Qqp (Qao.le_antisymm h2 h1)
theorem Qty:Qot Tryz.prog 36:=λblk off cap ss w hH hblk hsz=>Any.slices_Sort_int Tryz.lays189 blk off cap ss w hH hblk hsz
theorem Qvj:Qos Tryz.prog 37 38 leSp:=λblk off cap ss w hH hblk hsz=>by have eg:∀args w,(callFunc 38 args).run Tryz.prog w=.ok (.enter 38 args) w:=enters_of Tryz.func38 (by kernel_rfl) rfl;have h:=AnyQ.slices_SortFunc_total Tryz.sortF 2 Tryz.isAgg24 Tryz.sizeOf24 spV (λ_=>rfl) Qvi cSp swoSp 38 #[] blk off cap ss.toArray w eg (λ_ _ _ _ x y=>Qw2 x y _) hH hblk hsz totSp;exact h
theorem Qtx:Qkq Tryz.prog 37 38:=λa cap w=>AnyF.slices_SortFunc_none Tryz.sortF a cap _ w
end Zq
end Go.Proofs
namespace Go.Zam
variable{P:Program}
section
open Go.Proofs
def Qcf(S:SM)(i j:Nat):List Int:=Wv ⟨S.bs,S.ms.take j,S.bad⟩ i
theorem Qq9{S:SM}{i j:Nat}{m:Mn}(h:S.ms[j]?=some m):Qcf S i (j+1)=Qcf S i j++if m.t=(i:Int)then[m.a]else[]:=by unfold Qcf Wv;rw[Q29,h];by_cases e:m.t=(i:Int)<;>simp[e]
def IsPm(l:List Int)(r:A):Prop:=∃(z:Bool)(L:List Int),L.Perm l/\r=YL z 1 (L.map encI)
theorem HasT.ixMapTokens{f tM t3:Nat}(h:HasT P [8,5] f (Qcz tM t3))(S:SM)(i:Nat)(hi:i<S.bs.length)(hl:S.ms.length<=1073741824)(H:Hp):
 Qc P f [.agg (S.encR.map .d),YI i] H (λr H'=>IsPm (Wv S i) r/\H'=H):=by
 refine Qe h (by simp[Qcz]) λhcl _=>?_;have hi0:¬(i:Int)<0:=by omega
 have hi1:¬(S.bs.length:Int)<=(i:Int):=by omega
 have hr:=Qt Qq hi;have h0:Qcf S i 0=[S.bs[i].a]:=by unfold Qcf Wv bAt;rw[Q2e,Q11,Q0x hi];simp
 have hU:Wv S i=Qcf S i S.ms.length:=by unfold Qcf;rw[Q3w]
 generalize S.bs[i]=b at hr h0;simp only[Qq]at hr;rw[hU];simp[Qcz,SM.encR,hi0,hi1,hr];generalize hbx:Ob.box tM [A.d (.sl true 4 (S.bs.map Qq)),A.d (.sl true 4 (S.ms.map Wq)),A.d (.sl true 2 (S.bad.map Q2))]=bx;refine Qy 0 (λfr H'=>IsPm (Qcf S i S.ms.length) (fr 5)/\∃X,H'=H++X) ?_ ?_
 .refine Yw (H.length+1) S.ms.length (λj fr H'=>fr 1=YI i/\fr 2=.ptr H.length 0/\IsPm (Qcf S i j) (fr 5)/\H'=H++[bx]) (by omega) (by decide) (by simp[<-hbx]) (by simp) ?_ ?_
  .refine⟨by simp,by simp,⟨false,[b.a],by rw[h0],by simp[encI]⟩,by simp[Qk hcl,<-hbx]⟩
  rintro j fr H' hj f6 ⟨f1,f2,⟨z,L,hL,f5⟩,rfl⟩;simp[f6,f2,<-hbx];refine Qh (λh=>?_) (λh=>?_)
  .have hj:j<S.ms.length:=by simpa using h
   have hm:=Qt Wq hj;have hst:=Qq9 (i:=i) (Q0x hj);generalize S.ms[j]=m at hm hst;simp only[Wq]at hm;have hLl:L.length<=j+1:=by
    have h1:=hL.length_eq;have h2:(Qcf S i j).length<=j+1:=by
     unfold Qcf Wv;have:=Q3r (λm:Mn=>decide (m.t=(i:Int))) (S.ms.take j);have h3:(S.ms.take j).length<=j:=by simp;omega
     simp only[Q1d,Q1v];omega
    omega
   by_cases hmt:m.t=(i:Int)
   .rw[if_pos hmt]at hst;simp[f1,f2,f6,hm,hmt,<-hbx,f5];rw[hbx];refine Qy 2 (λfr H2=>∃a:Nat,a<=L.length/\fr 1=YI i/\fr 2=.ptr H.length 0/\fr 5=YL z 1 (L.map encI)/\fr 6=YI j/\fr 7=YI a/\H2=H++[bx]) ?_ ?_
    .refine Q3 (H.length+1) (λd fr H2=>∃a:Nat,a<d/\a<=L.length/\fr 1=YI i/\fr 2=.ptr H.length 0/\fr 5=YL z 1 (L.map encI)/\fr 6=YI j/\fr 7=YI a/\H2=H++[bx]) (L.length+1) (by simp[<-hbx]) ⟨L.length,by omega,Q00 _,by simp[f1],by simp[f2],by simp[f5],by simp[f6],by simp,by simp[Qk hcl,<-hbx]⟩ ?_;rintro d fr H2 ⟨a,hd,ha,f1,f2,f5,f6,f7,rfl⟩;rcases Nat.eq_zero_or_pos a with rfl|hpos
     .simp[f7];exact⟨0,by omega,by simp[f1],by simp[f2],by simp[f5],by simp[f6],by simp[f7]⟩
     .obtain⟨b,rfl⟩:∃b,a=b+1:=⟨a-1,by omega⟩;have hbs:b<L.length:=by omega
      have hrb:=Qt encI hbs;have hw:IntKind.i64.wrap ((b:Int)+1-1)=b:=by rw[wi64 (by omega)];omega
      have hw':IntKind.i64.wrap (b:Int)=b:=wi64 (by omega);have hp:(0:Int)<(b:Int)+1:=by omega
      generalize L[b]=y at hrb;simp only[encI]at hrb;simp[f1,f2,f5,f6,f7,hp,hw,hw',hm,hrb,<-hbx];rw[hbx];refine Qh (λh2=>?_) (λh2=>?_)
      .simp[f7,hw,hw'];obtain⟨d',rfl⟩:∃d',d=d'+1:=⟨d-1,by omega⟩;exact Qg (H.length+1) d' (Q00 _) (by simp[<-hbx]) (by omega) ⟨b,by omega,by omega,by simp[f1],by simp[f2],by simp[f5],by simp[f6],by simp,by simp[Qk hcl,<-hbx]⟩
      .simp;exact⟨b+1,ha,by simp[f1],by simp[f2],by simp[f5],by simp[f6],by simp[f7]⟩
    .rintro fr H2 ⟨a,ha,f1,f2,f5,f6,f7,rfl⟩;have s1:subL (L.map encI) 0 (a:Int)=some ((L.take a).map encI):=by simp[subL,ha,Q33]
     have s2:subL (L.map encI) (a:Int) (L.length:Int)=some ((L.drop a).map encI):=by
      have:(L.length-a)=(L.drop a).length:=by simp
      simp[subL,ha,Q34];rw[Q09 (by simp)]
     have la:(L.take a).length=a:=by simp;omega
     have lb:(L.drop a).length=L.length-a:=by simp
     simp[f1,f2,f5,f6,f7,s1,s2,hm,appA,<-hbx];rw[if_pos (by omega)];simp[f1,f2,f5,f6,f7,s1,s2,hm,appA,<-hbx];rw[if_pos (by omega)];simp[f1,f2,f5,f6,f7,s1,s2,hm,appA,<-hbx];rw[if_pos (by omega)];simp;rw[hbx];refine Q8 (H.length+1) (Q00 _) hj (by simp[f6]) ?_;refine⟨by simp[f1],by simp[f2],⟨true,L.take a++m.a::L.drop a,?_,?_⟩,by simp[Qk hcl,<-hbx]⟩
     .rw[hst];refine(List.perm_middle.trans ?_).trans (List.perm_append_comm (l₁:=[m.a]));rw[Q1t];exact List.Perm.cons _ hL
     .simp[encI,Q33,Q34]
   .rw[if_neg hmt,Q1i]at hst;simp[f1,f2,f6,hm,hmt,<-hbx];rw[hbx];refine Q8 (H.length+1) (Q00 _) hj (by simp[f6]) ?_;exact⟨by simp[f1],by simp[f2],⟨z,L,by rw[hst];exact hL,by simp[f5]⟩,by simp[Qk hcl,<-hbx]⟩
  .have hia:S.ms.length<=j:=by simpa using h
   have e:Qcf S i j=Qcf S i S.ms.length:=by unfold Qcf;rw[Q09 hia,Q3w]
   rw[e]at hL;simp;exact⟨z,L,hL,f5⟩
 .rintro fr H' ⟨⟨z,L,hL,f5⟩,X,rfl⟩;simp[RetK,f5,Qd hcl];exact⟨z,L,hL,rfl⟩
end
section
open Go.Proofs
theorem Has.ixTokAtR{f:Nat}(h:Has P f Qgq)(L:List Tk)(z:Bool)(a:Int)(ha:a<=9223372036854775807)(hl:L.length<=1099511627776)(hb:∀t∈L,(t.a:Int)+t.x.length<=1099511627776)(H:Hp):
 Qc P f [YL z 4 (L.map Qp),YI a] H (λr H'=>r=YI (tkAt L a)/\H'=H):=by
 refine Qe h (by simp[Qgq]) λhcl _=>?_;simp[Qgq];refine Qm 0 (λfr H'=>fr 0=YL z 4 (L.map Qp)/\fr 1=YI a/\fstI (tkIn a) L 0=-1/\H'=H) (λfr H'=>fr 4=YI (tkAt L a)/\∃X,H'=H++X) ?_ ?_ ?_
 .refine Yw H.length L.length (λj fr H'=>fr 0=YL z 4 (L.map Qp)/\fr 1=YI a/\fstI (tkIn a) L 0=fstI (tkIn a) (L.drop j) j/\H'=H) (by omega) (by decide) (by simp) (by simp) ?_ ?_
  .simp[Qb hcl]
  rintro j fr H' hj fi ⟨f0,f1,hd,rfl⟩;simp[fi,f0];refine Qh (λh=>?_) (λh=>?_)
  .have hj:j<L.length:=by simpa using h
   obtain⟨t,ht⟩:∃t,L[j]?=some t:=⟨_,Q0x hj⟩;have hdr:L.drop j=t::L.drop (j+1):=by rw[Q1h hj];congr 1;rw[Q0x hj]at ht;cases ht;rfl
   rw[hdr]at hd;simp only[fstI]at hd;have hr:Zam.rowAt (L.map Qp) (j:Int)=some [.int .i64 t.k,.int .i64 (t.a:Int),.str t.l,.str t.x]:=by simp[Zam.rowAt,ht,Qp]
   have hbt:=hb t (Q1g ht);have hw:IntKind.i64.wrap ((t.a:Int)+t.x.length)=t.a+t.x.length:=wi64 (by omega);by_cases hp:tkIn a t=true
   .rw[if_pos hp]at hd;have hat:tkAt L a=j:=by unfold tkAt;rw[hd,if_neg (by omega)]
    unfold tkIn at hp;simp at hp;obtain⟨p1,p2,p3⟩:=hp;have hw2:IntKind.i64.wrap (a-t.a)=a-t.a:=wi64 (by omega);have p3':a-(t.a:Int)<t.x.length:=by omega
    simp[fi,f0,hr,f1,p1,p2,p3',hw2,hat]
   .rw[if_neg hp]at hd;unfold tkIn at hp;by_cases p1:t.k=0
    .simp[fi,f0,hr,f1,p1];refine Q8 H'.length (Q00 _) hj (by simp[fi]) ?_;simp[f0,f1,Qb hcl,hd]
    .by_cases p2:(t.a:Int)<=a
     .have p3:¬a<t.a+t.x.length:=λp3=>hp (by simp[p1,p2,p3]);have hw2:IntKind.i64.wrap (a-t.a)=a-t.a:=wi64 (by omega);have p3':¬a-(t.a:Int)<t.x.length:=by omega
      simp[fi,f0,hr,f1,p1,p2,p3',hw2];refine Q8 H'.length (Q00 _) hj (by simp[fi]) ?_;simp[f0,f1,Qb hcl,hd]
     .simp[fi,f0,hr,f1,p1,p2];refine Q8 H'.length (Q00 _) hj (by simp[fi]) ?_;simp[f0,f1,Qb hcl,hd]
  .have hia:L.length<=j:=by simpa using h
   rw[Q1w hia]at hd;simp[f0,f1];exact hd
 .rintro fr H' ⟨f4,X,rfl⟩;simp[f4];simp[RetK,Qd hcl]
 .rintro fr H' ⟨f0,f1,h1,rfl⟩;have hat:tkAt L a=fstI (Qa9 a) L 0:=by unfold tkAt;rw[if_pos h1]
  rw[hat];simp[f0];refine Qm 2 (λfr H2=>fstI (Qa9 a) L 0=-1/\H2=H') (λfr H2=>fr 4=YI (fstI (Qa9 a) L 0)/\∃X,H2=H'++X) ?_ ?_ ?_
  .refine Yw H'.length L.length (λj fr H2=>fr 1=YI a/\fr 0=YL z 4 (L.map Qp)/\fstI (Qa9 a) L 0=fstI (Qa9 a) (L.drop j) j/\H2=H') (by omega) (by decide) (by simp) (by simp) ?_ ?_
   .simp[f0,f1,Qb hcl]
   rintro j fr H2 hj fi ⟨f1,f0,hd,rfl⟩;simp[fi,f0];refine Qh (λh=>?_) (λh=>?_)
   .have hj:j<L.length:=by simpa using h
    obtain⟨t,ht⟩:∃t,L[j]?=some t:=⟨_,Q0x hj⟩;have hdr:L.drop j=t::L.drop (j+1):=by rw[Q1h hj];congr 1;rw[Q0x hj]at ht;cases ht;rfl
    rw[hdr]at hd;simp only[fstI]at hd;have hr:Zam.rowAt (L.map Qp) (j:Int)=some [.int .i64 t.k,.int .i64 (t.a:Int),.str t.l,.str t.x]:=by simp[Zam.rowAt,ht,Qp]
    have hbt:=hb t (Q1g ht);have hw:IntKind.i64.wrap ((t.a:Int)+t.x.length)=t.a+t.x.length:=wi64 (by omega);by_cases p1:t.k=1
    .by_cases p2:a=t.a+t.x.length
     .rw[if_pos (by unfold Qa9;simp[p1,p2])]at hd;rw[hd];simp[fi,f0,hr,f1,p1,hw];refine Qh (λh=>?_) (λh=>absurd p2 (by simp at h;exactλe=>h e.symm));simp[fi]
     .rw[if_neg (by unfold Qa9;simp[p2])]at hd;have p2b:¬(t.a:Int)+t.x.length=a:=λe=>p2 e.symm;simp[fi,f0,hr,f1,p1,hw,p2b];refine Q8 H2.length (Q00 _) hj (by simp[fi]) ?_;simp[f1,f0,Qb hcl,hd]
    .rw[if_neg (by unfold Qa9;simp[p1])]at hd;simp[fi,f0,hr,f1,p1];refine Q8 H2.length (Q00 _) hj (by simp[fi]) ?_;simp[f1,f0,Qb hcl,hd]
   .have hia:L.length<=j:=by simpa using h
    rw[Q1w hia]at hd;simp;exact hd
  .rintro fr H2 ⟨f4,X,rfl⟩;simp[f4];simp[RetK,Qd hcl]
  .rintro fr H2 ⟨h2,rfl⟩;simp[h2];simp[RetK,Qb hcl,h2]
end
section
open Go.Proofs
theorem Un.encR_full(u:Un):∃z,u.encR=[.str u.n,.str u.t,.sl true 4 (u.tk.map Qp),.int .i64 u.tr.k,.int .i64 u.tr.f,.int .i64 u.tr.t,.str u.tr.w,.int .i64 u.tr.at_,.sl z 6 (u.tr.ks.map N.enc),.sl true 4 (u.sm.bs.map Qq),.sl true 4 (u.sm.ms.map Wq),.sl true 2 (u.sm.bad.map Q2),.int .i64 u.bad,.int .i64 u.pos]:=by obtain⟨n,t,tk,⟨k,f,to,w,a,z,ks⟩,sm,b,p⟩:=u;refine⟨z,?_⟩;simp[Un.encR,N.enc_mk,SM.encR,N.k,N.f,N.t,N.w,N.at_,N.ks]
def Qy8(P:Program)(f:Nat):Prop:=∀(S:SM)(i:Nat),i<S.bs.length->S.ms.length<=1073741824->∀H,Qc P f [.agg (S.encR.map .d),YI i] H (λr H'=>IsPm (Wv S i) r/\H'=H)
def Qxd(P:Program)(f:Nat):Prop:=∀(L:List Tk)(z:Bool)(a:Int),a<=9223372036854775807->L.length<=1099511627776->(∀t∈L,(t.a:Int)+t.x.length<=1099511627776)->∀H,Qc P f [YL z 4 (L.map Qp),YI a] H (λr H'=>r=YI (tkAt L a)/\H'=H)
def syA(o:Option (Bs×Int)):A:=.tup [.agg [YS (o.elim [] Prod.fst),YI (o.elim 0 Prod.snd)],YB o.isSome]
theorem Has.ixRAt{f rfind tokAtR mapTokens rStands tRy tR:Nat}{S:List Un}{z:Bool}(h:Has P f (Qob rfind tokAtR mapTokens rStands tRy tR))(hS:Sorted cU S)(hfi:Qij P S z rfind)(hT:Qxd P tokAtR)(hM:Qy8 P mapTokens)(hSt:Qml P S z rStands)(hg:∀u∈S,GdX u)(hs:∀u∈S,Sm16 u)(m:Bs)(a:Int)(ha:a≤9223372036854775807)(H:Hp):
 Qc P f [YL z 14 (S.map Un.encR),YS m,YI a] H (fun r H'=>r=syA (atSy S m a)∧H'=H):=by
 refine Qe h (by simp[Qob]) fun hcl _=>?_;have hfd:=fun X=>hfi m (H++X);simp[Qob];refine Qa (hfd _) ?_;rcases Qib hS m with⟨h1,h2⟩|⟨j,u,h1,h2,h3⟩
 .have he:atSy S m a=none:=by unfold atSy;rw[h1]
  rw[he,h2];simp;simp[RetK,Qd hcl,syA]
 .have hum:=Q1g h3;obtain⟨b1,b2,b3⟩:=hs u hum;have hx:=hg u hum;obtain⟨zu,he⟩:=u.encR_full;have hru:Zam.rowAt (S.map Un.encR) (j:Int)=some u.encR:=by simp[Zam.rowAt,h3]
  have hst:=fun b hb X=>hSt u hum b hb (H++X);have hmt:=fun k hk X=>hM u.sm k hk (by omega) (H++X);have htk:=fun X=>hT u.tk true a ha (by omega) hx.bnd (H++X);rw[he]at hru hst;simp only[Q1q,Q10,SM.encR]at hst hmt;have hj0:¬(j:Int)<0:=by omega
  rw[h2];simp[hru,hj0];refine Qa (htk _) ?_;by_cases g1:tkAt u.tk a<0
  .have he:atSy S m a=none:=by unfold atSy;rw[h1];simp[g1]
   rw[he];simp[g1];simp[RetK,Qd hcl,syA]
  .have hno:(∀k,k<u.sm.bs.length→tkAt u.tk a∉Wv u.sm k)→atSy S m a=none:=fun h=>by
    have:=hx.mapAt_none h;unfold atSy;rw[h1];simp[g1,this]
   have hye:∀k b,u.sm.bs[k]?=some b→tkAt u.tk a∈Wv u.sm k→atSy S m a=some (ofSy S u b):=fun k b hb h=>by
    have:=hx.mapAt (Q0y.1 hb).1 h;unfold atSy;rw[h1];simp[g1,this,hb]
   generalize tkAt u.tk a=t at g1 hno hye⊢;generalize atSy S m a=o at hno hye⊢;simp[g1];generalize hbx:Ob.box tR [A.d (.str u.n),A.d (.str u.t),A.d (.sl true 4 (u.tk.map Qp)),A.d (.int .i64 u.tr.k),A.d (.int .i64 u.tr.f),A.d (.int .i64 u.tr.t),A.d (.str u.tr.w),A.d (.int .i64 u.tr.at_),A.d (.sl zu 6 (u.tr.ks.map N.enc)),A.d (.sl true 4 (u.sm.bs.map Qq)),A.d (.sl true 4 (u.sm.ms.map Wq)),A.d (.sl true 2 (u.sm.bad.map Q2)),A.d (.int .i64 u.bad),A.d (.int .i64 u.pos)]=bx;refine Qm 0 (fun fr H'=>(∀k,k<u.sm.bs.length→t∉Wv u.sm k)∧fr 6=.ptr H.length 0∧∃X,H'=H++Ob.box tRy [YS [],YI 0]::X)
    (fun fr H'=>fr 6=.ptr H.length 0∧fr 7=YB true∧∃p,o=some p∧∃X,H'=H++Ob.box tRy [YS p.1,YI p.2]::X) ?_ ?_ ?_
   .refine Yw (H.length+2) u.sm.bs.length (fun k fr H'=>fr 0=YL z 14 (S.map Un.encR)∧fr 6=.ptr H.length 0∧fr 9=.ptr (H.length+1) 0∧fr 10=YI t∧(∀q,q<k→t∉Wv u.sm q)∧H'=H++[Ob.box tRy [YS [],YI 0],bx]) (by omega) (by decide) (by simp[←hbx]) (by simp) ?_ ?_
    .exact⟨by simp,by simp,by simp,by simp,by omega,by simp[Qk hcl,←hbx]⟩
    rintro k fr H' hk f11 ⟨f0,f6,f9,f10,hq,rfl⟩;simp[f11,f9,←hbx];refine Qh (fun h=>?_) (fun h=>?_)
    .have hk:k<u.sm.bs.length:=by simpa using h
     have hb:=Q0x hk;have hrb:=Qt Qq hk;have hye:=hye k _ hb;have hst:=hst _ (Q1u hk);generalize u.sm.bs[k]=b at hb hrb hye hst;simp only[Qq,Q1q,Q10]at hrb hst;simp[f9,f11];refine Qf (hmt k hk _) ?_;rintro x H' ⟨⟨zl,L,hL,rfl⟩,rfl⟩;have hmem:∀x,x∈L↔x∈Wv u.sm k:=fun x=>hL.mem_iff;simp;rw[hbx];have hLl:L.length≤1073741824:=by
      rw[hL.length_eq];unfold Wv;have:=Q3r (fun m:Mn=>decide (m.t=(k:Int))) u.sm.ms;simp only[Q1d,Q1v];omega
     refine Qm 2 (fun fr H'=>fr 0=YL z 14 (S.map Un.encR)∧fr 6=.ptr H.length 0∧fr 9=.ptr (H.length+1) 0∧fr 10=YI t∧fr 11=YI k∧(∀x∈L,x≠t)∧H'=H++[Ob.box tRy [YS [],YI 0],bx])
      (fun fr H'=>fr 6=.ptr H.length 0∧fr 7=YB true∧∃p,o=some p∧∃X,H'=H++Ob.box tRy [YS p.1,YI p.2]::X) ?_ (fun _ _ h=>by simpa using h) ?_
     .refine Yw (H.length+2) L.length (fun q fr H'=>fr 0=YL z 14 (S.map Un.encR)∧fr 6=.ptr H.length 0∧fr 9=.ptr (H.length+1) 0∧fr 10=YI t∧fr 11=YI k∧fr 12=YL zl 1 (L.map encI)∧(∀x∈L.take q,x≠t)∧H'=H++[Ob.box tRy [YS [],YI 0],bx]) (by omega) (by decide) (by simp[←hbx]) (by simp) ?_ ?_
      .exact⟨by simp[f0],by simp[f6],by simp[f9],by simp[f10],by simp[f11],by simp,by simp,by simp[Qk hcl,←hbx]⟩
      rintro q fr H' hq f13 ⟨f0,f6,f9,f10,f11,f12,hn,rfl⟩;simp[f13,f12];refine Qh (fun h=>?_) (fun h=>?_)
      .have hq:q<L.length:=by simpa using h
       have hrq:=Qt encI hq;have htq:L.take (q+1)=L.take q++[L[q]]:=Q1b hq;have hmq:=Q1u hq;generalize L[q]=y at hrq htq hmq;simp only[encI]at hrq;by_cases hy:y=t
       .subst hy;have ho:=hye ((hmem _).1 hmq);simp[f0,f6,f9,f10,f11,f12,f13,hrq,hrb,←hbx];refine W5 (hst _) ?_;simp[f6];exact ho
       .simp[f12,f13,f10,hrq,hy];refine Q8 (H.length+2) (Q00 _) hq (by simp[f13]) ?_;refine⟨by simp[f0],by simp[f6],by simp[f9],by simp[f10],by simp[f11],by simp[f12],?_,by simp[Qk hcl,←hbx]⟩;rw[htq];intro x hx;rcases Q1p.1 hx with hx|hx
        .exact hn x hx
        .rw[Q2u.1 hx];exact hy
      .have hia:L.length≤q:=by simpa using h
       rw[Q09 hia]at hn;simp;exact⟨f0,f6,f9,f10,f11,hn⟩
     .rintro fr H' ⟨f0,f6,f9,f10,f11,hn,rfl⟩;simp;refine Q8 (H.length+2) (Q00 _) hk (by simp[f11]) ?_;refine⟨by simp[f0],by simp[f6],by simp[f9],by simp[f10],fun q hq' ht=>?_,by simp[Qk hcl,←hbx]⟩;by_cases e:q=k
      .subst e;exact hn t ((hmem t).2 ht) rfl
      .exact hq q (by omega) ht
    .have hia:u.sm.bs.length≤k:=by simpa using h
     simp;exact⟨fun q hq'=>hq q (by omega),f6⟩
   .rintro fr H' ⟨f6,f7,p,rfl,X,rfl⟩;simp[f6,f7];simp[RetK,Qd hcl,syA]
   .rintro fr H' ⟨hn,f6,X,rfl⟩;have ho:=hno hn;subst ho;simp[f6];simp[RetK,Qd hcl,syA]
end
section
open Go.Proofs
structure PrjX(S:List Un):Prop where
 ok:PrjOk S
 chk:chkU none S=0
 gx:∀u∈S,GdX u
 sx:∀u∈S,Sm16 u
 rd:∀u∈S,∃m,u=Wi m
theorem Qvx(m:Mod):Sm16 (Wi m):=by
 have hz:=Qck m.t;by_cases h0:(Q0 m.t).2.2.1=0
 .obtain⟨n,j,h1,h2,h3,h4,h5,hI,hj,h6⟩:=Qcl h0;have hsm:(Wi m).sm=Vz n:=by
   show(if _ then _ else _)=_;rw[if_pos h0,h2]
  have htk:(Wi m).tk=(lexS m.t).1:=h1;have hs:=Qk7 n;rw[h2]at hz;unfold SM.sz at hs;have h4000:(lexS m.t).1.length≤4000:=((Qhb m.t).2 h5).2;exact⟨by rw[htk];omega,by rw[hsm];omega,by rw[hsm];omega⟩
 .have hsm:(Wi m).sm=⟨[],[],[]⟩:=by
   show(if _ then _ else _)=_;rw[if_neg h0]
  have htk:(Wi m).tk=[]:=by
   show(Q0 m.t).1=[];unfold Q0 at h0⊢;split
   .rfl
   .rename_i g1;split
    .rfl
    .rename_i g2;rw[if_neg g1,if_neg g2]at h0;exact absurd rfl h0
  exact⟨by rw[htk];simp,by rw[hsm];simp,by rw[hsm];simp⟩
theorem Qy1{l:List Mod}(h:(ofU (l.map Wi)).2=0):PrjX (ofU (l.map Wi)).1:=by
 have hm:∀u∈(ofU (l.map Wi)).1,∃m,u=Wi m:=by
  intro u hu;have:u∈l.map Wi:=by
   unfold ofU at hu;split at hu
   .simp at hu
   .simp only at hu;split at hu
    .exact((Wf V6 _).2.mem V6).2 hu
    .simp at hu
  obtain⟨m,-,rfl⟩:=Q2l.1 this;exact⟨m,rfl⟩
 refine⟨Qz4 l,(Qv9 h).2,λu hu=>?_,λu hu=>?_,hm⟩
 .obtain⟨m,rfl⟩:=hm u hu;exact Qt4 m
 .obtain⟨m,rfl⟩:=hm u hu;exact Qvx m
theorem PrjX.strict{S:List Un}(h:PrjX S):S.Pairwise λu v=>cU u v<0:=(Qgw h.ok.so h.chk).1
theorem PrjX.self{S:List Un}(h:PrjX S):Qy7 S:=λu hu=>by obtain⟨i,hi⟩:=Q3c hu;exact Qtp h.ok.so h.chk hi
section
variable{P:Program}{H0:Hp}
def Qxg(P:Program)(H0:Hp)(f:Nat):Prop:=∀(l:List Mod)(z:Bool)(most:Int),0<=most/\most<=1048576->l.length<=1048576->(∀m∈l,m.n.length<=1048576/\m.t.length<=1048576)->∀H,Pre0 H0 H->Qc P f [YL z 2 (l.map encM),YI most] H (λr H'=>((∃d,r=.tup [.d .nilp,.d d,YB false])\/∃S,PrjX S/\r=.tup [pA S,YL true 14 (S.map Un.encR),YB true])/\H'=H)
def Qsl(P:Program)(f:Nat):Prop:=∀S,PrjX S->∀(m:Bs)(a:Int)(H:Hp),Qc P f [pA S,.agg [YS m,YI a]] H (λr H'=>r=syA (atSy S m a)/\H'=H)
def Qsj(P:Program)(f:Nat):Prop:=∀S,PrjX S->∀(s:Bs×Int)(H:Hp),Qc P f [pA S,.agg [YS s.1,YI s.2]] H (λr H'=>r=YL (Qb4 S s).isEmpty 2 ((Qb4 S s).map Wr)/\H'=H)
theorem Has.ixLoaded{f light_ load rload:Nat}(h:Has P f (Qgr light_ load rload))(hLi:Qtj P light_)(hL:Qsh P H0 load)(hR:Qtd P H0 rload):Qxg P H0 f:=by
 intro l z most hmo hl hm H hH;refine Qe h (by simp[Qgr]) λhcl _=>?_;have g1:=hLi l z most hmo hl hm H;have g2:=hL l z (λm h=>(hm m h).2) H hH;have g3:=hR l z (λm h=>(hm m h).2) H hH;have hx:=Qy1 (l:=l);unfold ofA at g2;unfold ofR at g3;generalize ofU (l.map Wi)=o at*;obtain⟨S,e⟩:=o;simp only at g2 g3 hx;simp[Qgr];refine Qa g1 ?_;cases light l most with
 |false=>simp;simp[RetK,Qb hcl]
 |true=>
  simp;refine Qa g2 ?_;by_cases he:e=0
  .subst he;simp[pA];refine Qa g3 ?_;simp;simp[RetK,Qb hcl];exact⟨S,hx rfl,⟨rfl,rfl⟩,rfl⟩
  .simp[he];refine Qa g3 ?_;simp[he];simp[RetK,Qb hcl]
def ixM:Mod:=⟨[109,97,105,110],[100,101,102,32,109,97,105,110,40,41,32,123,32,109,97,105,110,40,41,59,32,125]⟩
def ixU:Un:=Wi ixM
theorem Q0b:chkU none [ixU]=0:=by kernel_rfl
theorem Qy3:ofU ([ixM].map Wi)=([ixU],0):=by have h1:ssort cU [ixU]=[ixU]:=rfl;have h2:[ixM].map Wi=[ixU]:=rfl;unfold ofU;rw[h2,if_neg (by decide),h1,Q0b];rfl
theorem ix_at:atSy [ixU] [109,97,105,110] 5=some ([109,97,105,110],1):=by kernel_rfl
theorem ix_pl:(Qb4 [ixU] ([109,97,105,110],1)).length=2:=by kernel_rfl
theorem Has.ixAwake{f load ixAt places tSy:Nat}(h:Has P f (Qi9 load ixAt places tSy))(hl:Qsh P H0 load)(hA:Qsl P ixAt)(hP:Qsj P places):Qxk P H0 f:=by
 intro H hH;refine Qe h (by simp[Qi9]) λhcl _=>?_;have g1:=hl [ixM] false (by intro m hm;simp at hm;subst hm;decide) H hH;have ho:ofA ([ixM].map Wi)=.tup [pA [ixU],YI 0]:=by unfold ofA;rw[Qy3];rfl
 have hx:PrjX [ixU]:=by have:=Qy1 (l:=[ixM]);rw[Qy3]at this;exact this rfl
 rw[ho]at g1;have g2:=hA [ixU] hx [109,97,105,110] 5 H;have g3:=λX=>hP [ixU] hx ([109,97,105,110],1) (H++X);rw[ix_at]at g2;have hk:=ix_pl;generalize Qb4 [ixU] ([109,97,105,110],1)=R at*;generalize[ixU]=S at*;simp only[Q1q,Q10,encM,ixM,pA,syA,Q3v,Q3o]at g1 g2 g3;simp[Qi9];refine Qa g1 ?_;simp;refine Qa g2 ?_;simp;refine Qa (g3 _) ?_;simp[hk];simp[RetK,Qd hcl]
end
end
section
open Go.Proofs
theorem sy_of{S:List Un}(hX:PrjX S){u:Un}(hu:u∈S){b:SBd}(hb:b∈u.sm.bs):∃(j:Nat)(v:Un)(c:SBd),fdU (ofSy S u b).1 S 0=j/\Vd S (ofSy S u b).1=some v/\S[j]?=some v/\c∈v.sm.bs/\c.a=(ofSy S u b).2:=by
 have hS:=hX.ok.so;have h1:∃v c,Vd S (ofSy S u b).1=some v/\c∈v.sm.bs/\c.a=(ofSy S u b).2:=by
  rcases Qlf hS u b with⟨-,h⟩|⟨q,j,v,c,h1,h2,h3,h4,h5⟩
  .rw[h];exact⟨u,b,hX.self u hu,hb,rfl⟩
  .rw[h5];rcases Qib hS (impR S u b).1 with⟨g1,g2⟩|⟨j',v',g1,g2,g3⟩
   .omega
   .obtain rfl:j'=j:=by omega
    rw[h3]at g3;cases g3;exact⟨v,c,g1,Q1g h4,rfl⟩
 obtain⟨v,c,h1,h2,h3⟩:=h1;rcases Qib hS (ofSy S u b).1 with⟨g1,g2⟩|⟨j',v',g1,g2,g3⟩
 .rw[g1]at h1;cases h1
 .rw[g1]at h1;cases h1;exact⟨j',v,c,g2,g1,g3,h2,h3⟩
theorem Qyl{S:List Un}(hX:PrjX S){m:Bs}{a:Int}{s:Bs×Int}(h:atSy S m a=some s):∃u∈S,∃b∈u.sm.bs,s=ofSy S u b:=by
 unfold atSy at h;cases hv:Vd S m with
 |none=>rw[hv]at h;cases h
 |some u=>
  rw[hv]at h;simp only at h;split at h
  .cases h
  split at h
  .cases h
  rw[Q0z]at h;obtain⟨b,h1,h2⟩:=h;exact⟨u,Qfq hv,b,Q1g h1,h2.symm⟩
theorem GdX.find{u:Un}(hx:GdX u){c:SBd}(hc:c∈u.sm.bs):(u.sm.bs.find? λb=>decide (b.a=c.a))=some c:=by
 cases h:u.sm.bs.find? λb=>decide (b.a=c.a)with
 |none=>exact absurd (Q5i.1 h c hc) (by simp)
 |some d=>have h1:=Q3t h;have h2:=Q5b h;have:=hx.once c.a;rw[Qje (p:=λb:SBd=>decide (b.a=c.a)) (by show evB _ _<=1;omega) h1 hc h2 (by simp)]
section
variable{P:Program}{H0:Hp}
theorem Has.ixLFinds{f loaded awake ixAt rAt places rPlaces same ixBinding rfind place tSp tSy tRy tBd tR tBe:Nat}(h:Has P f (Qgs loaded awake ixAt rAt places rPlaces same ixBinding rfind place tSp tSy tRy tBd tR tBe))(hLd:Qxg P H0 loaded)(hA:Qxk P H0 awake)(hAt:Qsl P ixAt)(hPl:Qsj P places)(hRAt:∀S,PrjX S->∀(m:Bs) (a:Int),a<=9223372036854775807->∀H,Qc P rAt [YL true 14 (S.map Un.encR),YS m,YI a] H (λr H'=>r=syA (atSy S m a)/\H'=H))(hRPl:∀S,PrjX S->∀(s:Bs×Int) (H:Hp),Qc P rPlaces [YL true 14 (S.map Un.encR),.agg ((Wr s).map .d)] H (λr H'=>r=YL true 2 ((Qb4 S s).map Wr)/\H'=H))(hSame:∀(a:List (Bs×Int)) (za zb:Bool) (H:Hp),a.length<=1099511627776->Qc P same [YL za 2 (a.map Wr),YL zb 2 (a.map Wr)] H (λr H'=>r=YB true/\H'=H))(hB:∀S,PrjX S->Qso P S ixBinding)(hF:∀S,PrjX S->Qij P S true rfind)(hPc:∀S,PrjX S->∀(m:Bs) (t:Int) (H:Hp),Qc P place [pA S,.agg [YS m,YI t]] H (λr H'=>r=.tup [.agg ((Wr (if(Zr S m t).isSome then(m,bySy S m t)else([],0))).map .d),YB (Zr S m t).isSome]/\H'=H))(hlen:∀S,PrjX S->∀s,(Qb4 S s).length<=1099511627776)(l:List Mod)(z:Bool)(m:Bs)(a:Int)(ha:a<=9223372036854775807)(o:Bs×Int)(hl:l.length<=1048576)(hm:∀m∈l,m.n.length<=1048576/\m.t.length<=1048576)(H:Hp)(hH:Pre0 H0 H):
 Qc P f [YL z 2 (l.map encM),.agg [YS m,YI a],.agg [YS o.1,YI o.2]] H (λr H'=>r=YB true/\H'=H):=by
 refine Qe h (by simp[Qgs]) λhcl _=>?_;have g1:=hLd l z 3000 (by omega) hl hm;have hA:=λX=>hA (H++X) (hH.app X);simp[Qgs];refine Qf (g1 _ (hH.app _)) ?_;rintro r H' ⟨⟨d,rfl⟩|⟨S,hX,rfl⟩,rfl⟩
 .simp;refine Qa (hA _) ?_;simp;simp[RetK,Qd hcl]
 .have gAt:=λX=>hAt S hX m a (H++X);have gR:=λX=>hRAt S hX m a ha (H++X);have gP:=λs X=>hPl S hX s (H++X);have gRP:=λs X=>hRPl S hX s (H++X);have gS:=λs za zb X=>hSame (Qb4 S s) za zb (H++X) (hlen S hX s);have hsy:=λs=>Qyl hX (m:=m) (a:=a) (s:=s);simp only[syA]at gAt gR;simp only[pA,Wr,Q1q,Q10]at gAt gP gRP;generalize atSy S m a=q at gAt gR hsy;simp[pA];refine Qa (gAt _) ?_;simp;refine Qa (gR _) ?_;simp[eqDs,eqD];refine W5 (gP o _) ?_;simp;refine W5 (gRP o _) ?_;simp;refine W5 (gS o _ _ _) ?_;simp;cases q with
  |none=>simp;refine Qa (hA _) ?_;simp;simp[RetK,Qd hcl]
  |some s=>
   obtain⟨u,hu,b,hb,rfl⟩:=hsy s rfl;obtain⟨j,v,c,h1,h2,h3,h4,h5⟩:=sy_of hX hu hb;generalize ofSy S u b=s at*;have hvm:=Q1g h3;have hgv:=hX.gx v hvm;obtain⟨s1,s2,s3⟩:=hX.sx v hvm;have gB:=λX=>hB S hX s.1 s.2 (H++X);have gF:=λX=>hF S hX s.1 (H++X);have gC:=λX=>hPc S hX s.1 s.2 (H++X);have hbs:Zr S s.1 s.2=some c:=by unfold Zr;rw[h2,<-h5];exact hgv.find h4
   have hby:bySy S s.1 s.2=spU v s.2:=by unfold bySy;rw[h2]
   obtain⟨p1,p2⟩:=(hX.ok.gd v hvm).pos c h4;rw[h5]at p1 p2;have hnd:∀k x,v.sm.bs[k]?=some x->x.a=s.2->x=c:=λk x hk hx=>by have:=hgv.once s.2;exact Qje (p:=λb:SBd=>decide (b.a=s.2)) (by show evB _ _<=1;omega) (Q1g hk) h4 (by simp[hx]) (by simp[h5])
   rw[hbs,hby]at gC;rw[hbs]at gB;rw[h1]at gF;obtain⟨zv,hve⟩:=v.encR_full;have hrv:Zam.rowAt (S.map Un.encR) (j:Int)=some v.encR:=by simp[Zam.rowAt,h3]
   rw[hve]at hrv;have hlt:s.2.toNat<v.tk.length:=by omega
   have hrt:Zam.rowAt (v.tk.map Qp) s.2=some (Qp v.tk[s.2.toNat]):=by unfold Zam.rowAt;rw[if_pos p1];simp[hlt]
   have hsp:spU v s.2=(v.tk[s.2.toNat]).a:=by unfold spU;rw[if_pos p1,Q0x hlt]
   generalize v.tk[s.2.toNat]=w at hrt hsp;rw[hsp]at gC;simp only[Q2y,Q3o,Qq,Wr,Qp,pA,Q1q,Q10,if_true]at gB gC hrt;simp;refine Qa (gB _) ?_;simp;refine Qa (gF _) ?_;simp[hrv];have h60:((v.sm.bs.take 0).find? λb=>decide (b.a=s.2))=none:=rfl;have hst:∀k x,v.sm.bs[k]?=some x->((v.sm.bs.take (k+1)).find? λb=>decide (b.a=s.2))=if x.a=s.2 then some c else((v.sm.bs.take k).find? λb=>decide (b.a=s.2)):=λk x hk=>by
    rw[Q29,hk,List.find?_append];have hf:∀y,((v.sm.bs.take k).find? λb=>decide (b.a=s.2))=some y->y=c:=λy hy=>by obtain⟨i,hi⟩:=Q3c (Q3s (Q3t hy));exact hnd i y hi (by simpa using Q5b hy)
    by_cases hx:x.a=s.2
    .rw[if_pos hx];obtain rfl:=hnd k x hk hx;cases hq:(v.sm.bs.take k).find? λb=>decide (b.a=s.2)with
     |none=>simp[hx]
     |some y=>rw[hf y hq];rfl
    .rw[if_neg hx];simp[hx]
   have hend:((v.sm.bs.take v.sm.bs.length).find? λb=>decide (b.a=s.2))=some c:=by rw[Q3w,<-h5];exact hgv.find h4
   obtain⟨Y,hY⟩:∃Y:Option SBd->Hp,Y=λq=>[Ob.box tSp [A.d (D.str m),A.d (D.int IntKind.i64 a)],Ob.box tSy [A.d (D.str o.1),A.d (D.int IntKind.i64 o.2)],Ob.box tSy [A.d (D.str s.1),A.d (D.int IntKind.i64 s.2)],Ob.box tRy [A.d (D.str s.1),A.d (D.int IntKind.i64 s.2)],Ob.box tBd [A.d (D.int IntKind.i64 c.a),A.d (D.int IntKind.i64 c.k),A.d (D.str c.w),A.d (D.int IntKind.i64 c.i)],
    Ob.box tR [A.d (D.str v.n),A.d (D.str v.t),A.d (D.sl true 4 (List.map Qp v.tk)),A.d (D.int IntKind.i64 v.tr.k),A.d (D.int IntKind.i64 v.tr.f),A.d (D.int IntKind.i64 v.tr.t),A.d (D.str v.tr.w),A.d (D.int IntKind.i64 v.tr.at_),A.d (D.sl zv 6 (List.map N.enc v.tr.ks)),A.d (D.sl true 4 (List.map Qq v.sm.bs)),A.d (D.sl true 4 (List.map Wq v.sm.ms)),A.d (D.sl true 2 (List.map Q2 v.sm.bad)),A.d (D.int IntKind.i64 v.bad),A.d (D.int IntKind.i64 v.pos)],
    Ob.box tBe [A.d (D.int IntKind.i64 (q.getD zBd).a),A.d (D.int IntKind.i64 (q.getD zBd).k),A.d (D.str (q.getD zBd).w),A.d (D.int IntKind.i64 (q.getD zBd).i)]]:=⟨_,rfl⟩
   have lY:∀q,(Y q).length=7:=λq=>by subst hY;rfl
   have hc:∀q X,Hp.cut (H.length+7) (H++(Y q++X))=H++Y q:=λq X=>by subst hY;simp[Qk hcl]
   have hc0:∀q,Hp.cut (H.length+7) (H++Y q)=H++Y q:=λq=>by simpa using hc q []
   have e3:∀q X,(Y q++X)[3]?=some (Ob.box tRy [A.d (D.str s.1),A.d (D.int IntKind.i64 s.2)]):=λq X=>by subst hY;rfl
   have e6:∀q X,(Y q++X)[6]?=some (Ob.box tBe [A.d (D.int IntKind.i64 (q.getD zBd).a),A.d (D.int IntKind.i64 (q.getD zBd).k),A.d (D.str (q.getD zBd).w),A.d (D.int IntKind.i64 (q.getD zBd).i)]):=λq X=>by subst hY;rfl
   have e7:∀q x X,(Y q++x::X)[7]?=some x:=λq x X=>by subst hY;rfl
   have s7:∀q x y X,(Y q++x::X).set 7 y=Y q++y::X:=λq x y X=>by subst hY;rfl
   have hst0:H++[Ob.box tSp [A.d (D.str m),A.d (D.int IntKind.i64 a)],Ob.box tSy [A.d (D.str o.1),A.d (D.int IntKind.i64 o.2)],Ob.box tSy [A.d (D.str s.1),A.d (D.int IntKind.i64 s.2)],Ob.box tRy [A.d (D.str s.1),A.d (D.int IntKind.i64 s.2)],Ob.box tBd [A.d (D.int IntKind.i64 c.a),A.d (D.int IntKind.i64 c.k),A.d (D.str c.w),A.d (D.int IntKind.i64 c.i)],
    Ob.box tR [A.d (D.str v.n),A.d (D.str v.t),A.d (D.sl true 4 (List.map Qp v.tk)),A.d (D.int IntKind.i64 v.tr.k),A.d (D.int IntKind.i64 v.tr.f),A.d (D.int IntKind.i64 v.tr.t),A.d (D.str v.tr.w),A.d (D.int IntKind.i64 v.tr.at_),A.d (D.sl zv 6 (List.map N.enc v.tr.ks)),A.d (D.sl true 4 (List.map Qq v.sm.bs)),A.d (D.sl true 4 (List.map Wq v.sm.ms)),A.d (D.sl true 2 (List.map Q2 v.sm.bad)),A.d (D.int IntKind.i64 v.bad),A.d (D.int IntKind.i64 v.pos)],
    Ob.box tBe [A.d (D.int IntKind.i64 0),A.d (D.int IntKind.i64 0),A.d (D.str []),A.d (D.int IntKind.i64 0)]]=H++Y none:=by subst hY;rfl
   rw[hst0];refine Qy 0 (λfr H'=>fr 7=.eptr [.sl S.isEmpty 14 (S.map Un.enc)]/\fr 8=YL true 14 (S.map Un.encR)/\fr 10=.ptr (H.length+2) 0/\fr 12=.ptr (H.length+3) 0/\fr 14=.ptr (H.length+4) 0/\fr 15=YB true/\fr 16=.ptr (H.length+5) 0/\fr 17=.ptr (H.length+6) 0/\fr 18=YB true/\H'=H++Y (some c)) ?_ ?_
   .refine Wt (H.length+7) v.sm.bs.length (λk fr H'=>fr 7=.eptr [.sl S.isEmpty 14 (S.map Un.enc)]/\fr 8=YL true 14 (S.map Un.encR)/\fr 10=.ptr (H.length+2) 0/\fr 12=.ptr (H.length+3) 0/\fr 14=.ptr (H.length+4) 0/\fr 15=YB true/\fr 16=.ptr (H.length+5) 0/\fr 17=.ptr (H.length+6) 0/\fr 84=YL true 4 (v.sm.bs.map Qq)/\
     ∃q,q=((v.sm.bs.take k).find? λb=>decide (b.a=s.2))/\fr 18=YB q.isSome/\H'=H++Y q) (by omega) (by decide) (by simp[lY]) (by simp) ?_ ?_ ?_
    .exact⟨by simp,by simp,by simp,by simp,by simp,by simp,by simp,by simp,by simp,none,h60.symm,by simp,hc0 none⟩
    .rintro k fr H' hk fi fn ⟨f7,f8,f10,f12,f14,f15,f16,f17,f84,q,hq,f18,rfl⟩;have hb:=Q0x hk;have hrb:=Qt Qq hk;have hst:=hst k _ hb;have hnd:=hnd k _ hb;generalize v.sm.bs[k]=x at hb hrb hst hnd;simp only[Qq]at hrb;rw[<-hq]at hst;have lq:=lY q;by_cases hx:x.a=s.2
     .obtain rfl:=hnd hx;rw[if_pos hx]at hst;have s6:(Y q).set 6 (Ob.box tBe [A.d (D.int IntKind.i64 s.2),A.d (D.int IntKind.i64 x.k),A.d (D.str x.w),A.d (D.int IntKind.i64 x.i)])=Y (some x):=by rw[<-hx];subst hY;rfl
      simp[fi,f84,hrb,f12,f17,lq,e3,e6,e7,s7,s6,hx,-getElem?_pos];refine Wl (H.length+7) (Q00 _) (by simp[fi,fn,lY]) ?_;exact⟨by simp[f7],by simp[f8],by simp[f10],by simp[f12],by simp[f14],by simp[f15],by simp[f16],by simp[f17],by simp[f84],some x,hst.symm,by simp,hc _ _⟩
     .rw[if_neg hx]at hst;simp[fi,f84,hrb,f12,f17,lq,e3,e7,s7,hx,-getElem?_pos];refine Wl (H.length+7) (Q00 _) (by simp[fi,fn,lY]) ?_;exact⟨by simp[f7],by simp[f8],by simp[f10],by simp[f12],by simp[f14],by simp[f15],by simp[f16],by simp[f17],by simp[f84],q,hst.symm,by simp[f18],hc _ _⟩
    .rintro fr H' fi fn ⟨f7,f8,f10,f12,f14,f15,f16,f17,f84,q,hq,f18,rfl⟩;rw[hend]at hq;subst hq;simp;exact⟨f7,f8,f10,f12,f14,f15,f16,f17,by simpa using f18⟩
   .rintro fr H' ⟨f7,f8,f10,f12,f14,f15,f16,f17,f18,rfl⟩;subst hY;simp[f7,f8,f10,f12,f14,f15,f16,f17,f18];refine Qa (gC _) ?_;simp[f7,f8,f10,f12,f14,f15,f16,f17,f18];refine W5 (hA _) ?_;simp[f7,f8,f10,f12,f14,f15,f16,f17,f18,hrt,eqDs,eqD];refine W5 (gP s _) ?_;simp[f8,f12];refine W5 (gRP s _) ?_;simp;refine W5 (gS s _ _ _) ?_;simp;simp[RetK,Qd hcl]
end
end
end Go.Zam
namespace Go.Proofs.Zq
section
open Go Go.Zam Go.Proofs
theorem Qrf:SortU Tryz.prog 43 44 65 103 104 146 170 45 33 52 77 where
 clone:=⟨_,Tryz.func43,by kernel_rfl⟩
 srt:=⟨_,Tryz.func44,by kernel_rfl⟩;stb:=⟨_,Tryz.func65,by kernel_rfl⟩;ins:=⟨_,Tryz.func103,by kernel_rfl⟩;sym:=⟨_,Tryz.func104,by kernel_rfl⟩;rot:=⟨_,Tryz.func146,by kernel_rfl⟩;swp:=⟨_,Tryz.func170,by kernel_rfl⟩;cmpU:=⟨_,Tryz.func45,by kernel_rfl⟩;kCmpU:=by kernel_rfl
 cmpS:=⟨_,Tryz.func33,by kernel_rfl⟩;nan:=⟨_,Tryz.func52,by kernel_rfl⟩
theorem pcfU:Qn Tryz.prog [] Tryz.f17=some (Qe8 31 32 77):=by kernel_rfl
theorem hUnit:Has Tryz.prog 17 (Qe8 31 32 77):=⟨_,Tryz.func17,pcfU⟩
theorem Q0g:Has Tryz.prog 32 (Qdj 33 77):=⟨_,Tryz.func32,by kernel_rfl⟩
theorem Qfp:Qyo Tryz.prog 17:=λS hS s H=>Has.pjUnit hUnit ⟨_,Tryz.func31,by kernel_rfl⟩ Q0g (by kernel_rfl) Qrf.cmpS Qrf.nan S s (by have:=hS.len;omega) (λi j u v=>Qtw hS.so i j u v s) H
theorem bs40{S:List Un}(hS:PrjOk S):∀v∈S,v.sm.bs.length<=1099511627776:=λv hv=>by have:=(hS.sm v hv).2.1;omega
theorem Qyc:Qyv Tryz.prog 34:=λS hS u hu b hb H=>Has.pjImp (unit:=17) (item:=53) (tU:=77) (tBd:=42) (tIm:=104) ⟨_,Tryz.func34,by kernel_rfl⟩ (Qfp S hS) Q0c (bs40 hS) u (hS.gd u hu) b hb (by have:=(hS.sm u hu).2.2.2;omega) H
theorem pcfN:Qn Tryz.prog [3] Tryz.f24=some (Qf2 77 9):=by kernel_rfl
theorem Qx6:Qyt Tryz.prog 24:=λS hl H=>Has.pjNames ⟨_,Tryz.func24,pcfN⟩ S hl H
theorem Qzy{H0:Hp}(hG:Qcd 0 1 2 3 H0):Qxf Tryz.prog H0 27:=λm hm H hH=>Has.pjRead (pof:=41) (sof:=42) (tM:=70) (tU:=77) ⟨_,Tryz.func27,by kernel_rfl⟩ (λs hs H hH=>ofOk hG s hs H hH) Qxu m hm H hH
theorem Qxv{H0:Hp}:Qtf Tryz.prog H0 29:=λm hm H hH=>Has.pjRread (rof:=47) (sofR:=48) (tM:=70) (tR:=55) ⟨_,Tryz.func29,by kernel_rfl⟩ (λs hs H _=>Qx0 s hs H) Qrl m hm H hH
theorem Qwa:OfOk Tryz.prog 28:=λl z hl hz H=>Has.pjOf (tP:=99) Qrf ⟨_,Tryz.func28,by kernel_rfl⟩ Qwq l hl z hz
theorem Qwh{H0:Hp}(hG:Qcd 0 1 2 3 H0):Qsh Tryz.prog H0 15:=λl z ht H hH=>HasT.pjLoad (tM:=70) (tU:=77) ⟨_,Tryz.func15,by kernel_rfl⟩ (Qzy hG) Qwa l z ht H hH
theorem Qxx{H0:Hp}:Qtd Tryz.prog H0 16:=λl z ht H hH=>HasT.pjRload (tR:=55) ⟨_,Tryz.func16,by kernel_rfl⟩ Qxv Qt2 l z ht H hH
theorem Qwj:Qtj Tryz.prog 14:=λl z most hm hl hs H=>Qx8 (tM:=70) ⟨_,Tryz.func14,by kernel_rfl⟩ H z l most hm hl hs
theorem len20{S:List Un}(hS:PrjOk S):S.length<=1048576:=by have:=hS.len;omega
theorem Qka{S:List Un}(hl:S.length<=1048576)(z:Bool):Qij Tryz.prog S z 12:=λs H=>Has.pjRfind ⟨_,Tryz.func12,by kernel_rfl⟩ S z s hl H
theorem Qxy:Qte Tryz.prog 54:=λu w hl H=>Has.pjRitem (tR:=55) ⟨_,Tryz.func54,by kernel_rfl⟩ u w hl H
theorem Qxz:Qyq Tryz.prog 35:=λS hS z u hu b hb H=>Has.pjRimp (rfind:=12) (ritem:=54) (tR:=55) (tBe:=57) ⟨_,Tryz.func35,by kernel_rfl⟩ (Qka (len20 hS) z) Qxy (bs40 hS) u (hS.gd u hu) b hb (by have:=(hS.sm u hu).2.2.2;omega) H
theorem bd40{S:List Un}(hX:PrjX S):∀u∈S,u.tk.length<=1099511627776/\(∀t∈u.tk,(t.a:Int)+t.x.length<=1099511627776)/\u.sm.sz<=1099511627776:=λu hu=>by obtain⟨h1,h2,h3⟩:=hX.sx u hu;obtain⟨h4,-⟩:=hX.ok.sm u hu;refine⟨by omega,(hX.gx u hu).bnd,?_⟩;unfold SM.sz;omega
theorem mt40{S:List Un}(hX:PrjX S):∀u∈S,∀t,mapAt u.sm t<u.sm.bs.length:=λu hu t=>by
 rcases Int.lt_or_le (mapAt u.sm t) 0 with h|h
 .omega
 .obtain⟨k,h1,h2,-⟩:=(hX.gx u hu).mapAt_some h;omega
theorem Qxn:Qtb Tryz.prog 18:=λL z a hl hb H=>Has.ixTokAt (tTk:=61) ⟨_,Tryz.func18,by kernel_rfl⟩ L z a hl hb H
theorem Qx7:Qti Tryz.prog 19:=λS t hl H=>Has.ixMapAt (tMap:=75) (tBd:=42) (tMn:=102) ⟨_,Tryz.func19,by kernel_rfl⟩ S t hl H
theorem Qwo{S:List Un}(hX:PrjX S):Qsk Tryz.prog S 20:=λu hu b hb H=>Has.ixOf (imp:=34) (unit:=17) (tU:=77) (tBd:=42) (tSy:=26) (tIm:=104) ⟨_,Tryz.func20,by kernel_rfl⟩ u (Qfp S hX.ok) (λb hb H=>Qyc S hX.ok u hu b hb H) b hb H
theorem Qwp:Qsl Tryz.prog 6:=λS hX m a H=>Has.ixAt (unit:=17) (tokAt:=18) (mapAt_:=19) (ixOf:=20) (tSp:=24) (tSy:=26) (tU:=77) ⟨_,Tryz.func6,by kernel_rfl⟩ (Qfp S hX.ok) Qxn Qx7 (Qwo hX) (bd40 hX) (mt40 hX) m a H
theorem Qwm{S:List Un}(hX:PrjX S):Qq6 Tryz.prog S 25:=λu hu i hi H=>by have hs:=hX.sx u hu;have:=Has.scUses (srt:=36) (tm:=75) (mn:=102) (tint:=3) ⟨_,Tryz.func25,by kernel_rfl⟩ Qty (S:=u.sm) (z1:=u.sm.bs.isEmpty) (z2:=u.sm.ms.isEmpty) (bad:=.sl u.sm.bad.isEmpty 2 (u.sm.bad.map Q2)) (by have:=hs.2.2;omega) i hi H;exact this
theorem Qvp{S:List Un}(hX:PrjX S)(s:Bs×Int):(Qb4 S s).length<=1099511627776:=by
 have h:=Qjb (g:=plU S s) (T:=S) (b:=4294967296) λu hu=>by obtain⟨g1,g2,-⟩:=hX.sx u hu;have:=Qkc S u s u.tk.length;have h2:u.tk.length*u.sm.bs.length<=65536*65536:=Q5x g1 g2;unfold plU;omega
 have h8:=hX.ok.len;have:(Qb4 S s).length<=S.length*4294967296:=h;have h2:S.length*4294967296<=8*4294967296:=Q1y _ h8;omega
theorem Qwn:Qsj Tryz.prog 9:=λS hX s H=>by
 have hp:=Qv5 hX.strict hX.gx s;have hl:(qlS S s S).length=(Qb4 S s).length:=by rw[<-hp,Q3a]
 have h:=HasT.ixPlaces (names:=24) (unit:=17) (ixOf:=20) (uses:=25) (ixSort:=26) (srt:=37) (cmp:=38) (tSy:=26) (tU:=77) (tBd:=42) (tSp:=24) ⟨_,Tryz.func9,by kernel_rfl⟩ (λH=>Qx6 S (len20 hX.ok) H) (Qfp S hX.ok) hX.self (Qwo hX) (Qwm hX)
  ⟨_,Tryz.func26,by kernel_rfl⟩ Qvj Qtx hX.ok.len (λu hu=>by have:=(hX.sx u hu).2.1;omega) (λu hu i hi t ht=>(hX.gx u hu).uin i hi t ((Qlp _).mem_iff.1 ht)) s (by rw[hl];exact Qvp hX s) H
 rw[hp]at h;simpa[Wr]using h
theorem Qwg{H0:Hp}(hG:Qcd 0 1 2 3 H0):Qxg Tryz.prog H0 4:=Has.ixLoaded (light_:=14) (load:=15) (rload:=16) ⟨_,Tryz.func4,by kernel_rfl⟩ Qwj (Qwh hG) Qxx
theorem awkOk{H0:Hp}(hG:Qcd 0 1 2 3 H0):Qxk Tryz.prog H0 5:=Has.ixAwake (load:=15) (ixAt:=6) (places:=9) (tSy:=26) ⟨_,Tryz.func5,by kernel_rfl⟩ (Qwh hG) Qwp Qwn
theorem Qzu:Qxd Tryz.prog 21:=λL z a ha hl hb H=>Has.ixTokAtR ⟨_,Tryz.func21,by kernel_rfl⟩ L z a ha hl hb H
theorem rmtOk:Qy8 Tryz.prog 22:=λS i hi hl H=>HasT.ixMapTokens (tM:=53) (t3:=3) ⟨_,Tryz.func22,by kernel_rfl⟩ S i hi hl H
theorem Qo1{S:List Un}(hX:PrjX S)(z:Bool):Qml Tryz.prog S z 23:=λu hu b hb H=>Has.ixRStands (rimp:=35) (rfind:=12) (tR:=55) (tBe:=57) (tRy:=34) ⟨_,Tryz.func23,by kernel_rfl⟩ hX.ok.so (λu hu b hb H=>Qxz S hX.ok z u hu b hb H) (Qka (len20 hX.ok) z) u hu b hb H
theorem rAtOk:∀S,PrjX S->∀(m:Bs)(a:Int),a<=9223372036854775807->∀H,Qc Tryz.prog 7 [YL true 14 (S.map Un.encR),YS m,YI a] H (λr H'=>r=syA (atSy S m a)/\H'=H):=λS hX m a ha H=>Has.ixRAt (rfind:=12) (tokAtR:=21) (mapTokens:=22) (rStands:=23) (tRy:=34) (tR:=55) ⟨_,Tryz.func7,by kernel_rfl⟩ hX.ok.so (Qka (len20 hX.ok) true) Qzu rmtOk (Qo1 hX true) hX.gx hX.sx m a ha H
theorem rPlOk:∀S,PrjX S->∀(s:Bs×Int)(H:Hp),Qc Tryz.prog 10 [YL true 14 (S.map Un.encR),.agg ((Wr s).map .d)] H (λr H'=>r=YL true 2 ((Qb4 S s).map Wr)/\H'=H):=λS hX s H=>HasT.ixRPlaces (rStands:=23) (tRy:=34) (tBe:=57) (tRMn:=90) (tSp:=24) ⟨_,Tryz.func10,by kernel_rfl⟩ (Qo1 hX true) hX.ok.len hX.sx s H
theorem Qzt:∀(a:List (Bs×Int))(za zb:Bool)(H:Hp),a.length<=1099511627776->Qc Tryz.prog 8 [YL za 2 (a.map Wr),YL zb 2 (a.map Wr)] H (λr H'=>r=YB true/\H'=H):=λa za zb H hl=>by simpa using Has.ixSame ⟨_,Tryz.func8,by kernel_rfl⟩ a a za zb hl H
theorem Qw4:∀S,PrjX S->Qso Tryz.prog S 11:=λS hX m t H=>Has.ixBinding (unit:=17) (tSy:=26) (tBd:=42) (tU:=77) ⟨_,Tryz.func11,by kernel_rfl⟩ (Qfp S hX.ok) (λu hu=>by have:=(hX.sx u hu).2.1;omega) m t H
theorem Qx1:∀S,PrjX S->∀(m:Bs)(t:Int)(H:Hp),Qc Tryz.prog 13 [pA S,.agg [YS m,YI t]] H (λr H'=>r=.tup [.agg ((Wr (if(Zr S m t).isSome then(m,bySy S m t)else([],0))).map .d),YB (Zr S m t).isSome]/\H'=H):=λS hX m t H=>Has.ixPlace (ixBinding:=11) (unit:=17) (tSy:=26) (tSp:=24) (tBd:=42) (tU:=77) ⟨_,Tryz.func13,by kernel_rfl⟩ (Qw4 S hX) (Qfp S hX.ok) hX.ok.gd (λu hu=>by have:=(hX.sx u hu).1;omega) m t H
theorem lawOk{H0:Hp}(hG:Qcd 0 1 2 3 H0)(l:List Mod)(z:Bool)(m:Bs)(a:Int)(ha:a<=9223372036854775807)(o:Bs×Int)(hl:l.length<=1048576)(hm:∀m∈l,m.n.length<=1048576/\m.t.length<=1048576)(H:Hp)(hH:Pre0 H0 H):
 Qc Tryz.prog 3 [YL z 2 (l.map encM),.agg [YS m,YI a],.agg [YS o.1,YI o.2]] H (λr H'=>r=YB true/\H'=H):=
 Has.ixLFinds (loaded:=4) (awake:=5) (ixAt:=6) (rAt:=7) (places:=9) (rPlaces:=10) (same:=8) (ixBinding:=11) (rfind:=12) (place:=13) (tSp:=24) (tSy:=26) (tRy:=34) (tBd:=42) (tR:=55) (tBe:=57) ⟨_,Tryz.func3,by kernel_rfl⟩ (Qwg hG) (awkOk hG) Qwp Qwn rAtOk rPlOk Qzt Qw4 (λS hX=>Qka (len20 hX.ok) true) Qx1 (λS hX s=>Qvp hX s) l z m a ha o hl hm H hH
end
end Go.Proofs.Zq
namespace Go.Zam
theorem Qmg{P:Program}{t:TypeId}{fs:Array Field}{x y:D}{a:A}(hu:P.underlying t=some (.struct fs))(h:Qei P t [x,y] a):a=.agg [.d x,.d y]:=by unfold Qei at h;rw[hu]at h;exact h
end Go.Zam
namespace Go.Proofs.Zq
open Go Go.Zam Go.Proofs
theorem tyMod(n:Nat)(ds:List D)(h:Typed Tryz.prog n 70 ds):∃m:Mod,ds=encM m:=by obtain⟨m,h⟩:=Qdw Tryz.underlying70 h;obtain⟨a,r,rfl,ha,b,r,rfl,hb,rfl⟩:=h;obtain⟨s,rfl⟩:=Qfr Tryz.underlying9 ha;obtain⟨t,rfl⟩:=Qfr Tryz.underlying9 hb;exact⟨⟨s,t⟩,rfl⟩
theorem arg_mods{n:Nat}{ds:List D}{a:A}(h:Typed Tryz.prog n 22 ds)(ha:Qei Tryz.prog 22 ds a):∃z,∃l:List Mod,a=YL z 2 (l.map encM)/\(l.length<=D.bulkC ds/\∀m∈l,m.n.length<=D.bulkC ds/\m.t.length<=D.bulkC ds):=by obtain⟨z,l,rfl⟩:=Qu8 (sz:=2) Tryz.underlying22 (by kernel_rfl) tyMod h;refine⟨z,l,Qux (by rw[Tryz.underlying22];simp) ha,?_⟩;have h1:=Qnl (enc:=encM) (λm=>by simp only[encM,D.bulkC,D.bulk];omega) l;simp only[D.bulkC,D.bulk];refine⟨by omega,λm hm=>?_⟩;have h2:=Quv (List.mem_map_of_mem (f:=encM) hm);simp only[encM,D.bulkC,D.bulk]at h2;omega
theorem arg_spot{n:Nat}{ds:List D}{a:A}(h:Typed Tryz.prog n 24 ds)(ha:Qei Tryz.prog 24 ds a):∃o:Bs×Int,a=.agg [YS o.1,YI o.2]/\o.2<=9223372036854775807:=by obtain⟨m,h⟩:=Qdw Tryz.underlying24 h;obtain⟨x,r,rfl,hx,y,r,rfl,hy,rfl⟩:=h;obtain⟨s,rfl⟩:=Qfr Tryz.underlying9 hx;obtain⟨t,rfl,-,ht⟩:=Qmt Tryz.underlying3 hy;exact⟨(s,t),Qmg Tryz.underlying24 ha,ht⟩
theorem arg_sym{n:Nat}{ds:List D}{a:A}(h:Typed Tryz.prog n 26 ds)(ha:Qei Tryz.prog 26 ds a):∃o:Bs×Int,a=.agg [YS o.1,YI o.2]/\o.2<=9223372036854775807:=by obtain⟨m,h⟩:=Qdw Tryz.underlying26 h;obtain⟨x,r,rfl,hx,y,r,rfl,hy,rfl⟩:=h;obtain⟨s,rfl⟩:=Qfr Tryz.underlying9 hx;obtain⟨t,rfl,-,ht⟩:=Qmt Tryz.underlying3 hy;exact⟨(s,t),Qmg Tryz.underlying26 ha,ht⟩
end Go.Proofs.Zq
