import Derived.Test.YtppagloobdflbabGreatDoorW7
import Derived.Test.YtppagloobdflbabGreatDoorW6
import Derived.Sort.Row
import Derived.Sort.Grow
import Derived.Test.YtppagloobdflbabGreatDoorW5
import Derived.Test.YtppagloobdflbabGreatDoorW3
import Derived.Test.YtppagloobdflbabGreatDoorW4
import Derived.Test.YtppagloobdflbabGreatDoorProg
import Derived.KernelRfl
import Derived.Test.YtppagloobdflbabGreatDoorW2
set_option linter.all false
set_option maxRecDepth 100000
set_option maxHeartbeats 4000000
namespace Go.Zam
variable{P:Program}
section
def LG(one:G)(e:Bs):List N->G
 |[]=>.list one e
 |k::ks=>.listL one e (k::ks)
def Qi2{L:List Tk}{d:Nat}{one:G}{e:Bs}{ks:List N}{p:Nat}(hd:2<=d)(h:ks=[]->isT L p e=false):∃m,m<d/\d<=m+2/\pp L d (LG one e ks) p=(pp L m one p).then λx j=>if isT L j e then .ok (N.bag (ks++[x])) (j+1)else Qv L j [44] λj=>pp L m (.listL one e (ks++[x])) j:=by
 cases ks with
 |nil=>obtain⟨m,rfl⟩:∃m,d=m+2:=⟨d-2,by omega⟩;refine⟨m,by omega,by omega,?_⟩;simp only[LG,pp,h rfl];rfl
 |cons k ks=>obtain⟨m,rfl⟩:∃m,d=m+1:=⟨d-1,by omega⟩;refine⟨m,by omega,by omega,?_⟩;simp only[LG,pp]
def Qgo(one:G)(e:Bs)(ks:List N)(x:N):LG one e (ks++[x])=.listL one e (ks++[x]):=by cases ks<;>rfl
def Qwo{L:List Tk}(hE:Wz L){n p:Nat}{t:N}{s3:PSt}(h:Rel L n .typed (W7 L (p,none)) t s3)(hb:s3.1<=L.length+(n+1)):Rel L (n+1) .param (p,none) (N.new 5 p s3.1 (if Q0 L (p,none)then txT L p else[]) (if Q0 L (p,none)then(p:Int)else 0) [t]) s3:=by
 by_cases c:kdT L p=1
 .simp only[Wu,c,if_true]at h;simp only[Rel,pp,Yn,c,if_true];rcases h.none' with⟨q,a,e,rfl,e3⟩|⟨k,e,rfl⟩
  .simp[e,PR.then];omega
  .simp[e,PR.then,c]
 .simp only[Wu,c,if_false]at h;obtain⟨a,rfl,e3⟩:=h.some';simp only[Rel,pp,Yn,c,if_false];simp only[G.wt]at e3;simp;omega
section
variable{P:Program}{R:RF}{z:Bool}{L:List Tk}
def RHas.params'(hR:RHas P R)(hx:HasT P [7] R.params (Qeh R.want R.is R.word R.typed R.ended R.tn))(hE:Wz L)(hL:L.length<=1048576)(n:Nat)(hn:n<=1099511627776)(hS:∀m,m<n->UR P R.tr z L m .typed R.typed):UR P R.tr z L (n+1) .params R.params:=by
 refine Qiz λH i s hi hpp=>?_;refine Ye (Qe hx (by simp[Qeh]) λO _=>?_);have hp1:=hpp.1.1;simp only[G.c]at hp1;have g1:=λX=>hR.wantA (z:=z) (s:=s) (X:=X) hi hpp.2 (by omega) [40];generalize h1:Qr L [40] s=s1 at g1;have b1:=W8 h1;simp[Qeh];refine Qa (g1 _) ?_;simp;obtain⟨XX,hXX⟩:∃XX:List N->Hp,XX=λks=>[zbx R.tn,.tok ks.length 6 R.tn]:=⟨_,rfl⟩;have hXl:∀a,(XX a).length=2:=λa=>by rw[hXX];rfl
 obtain⟨E,hE0⟩:∃E:Fr->Hp->Prop,E=λfr H'=>∃(ks:List N)(s':PSt)(X:Hp),(fr 0=.ptr i 0/\fr 1=YI s.1/\fr 4=.ptr H.length 0/\fr 6=YI s'.1/\fr 7=.osl true 6 (ks.map N.enc) (H.length+1))/\(s'.2=none->s'.1<L.length)/\s'.1<=1125899906842624/\Rel L (n+1) .params s (N.new 4 s.1 (Qr L [41] s').1 [] 0 ks) (Qr L [41] s')/\H'=H.set i (rst R.tr z L s'.2)++(XX ks++X):=⟨_,rfl⟩;refine Qm 0 E (λ_ _=>False) ?_ (λ_ _ h=>h.elim) ?_;rotate_left
 .intro fr H' h;subst hE0;obtain⟨ks,s',X,⟨f0,f1,f4,f6,f7⟩,hlt,hb,hr,rfl⟩:=h;have g2:=λX=>hR.wantA (z:=z) (s:=s') (X:=X) hi hlt hb [41];generalize Qr L [41] s'=s2 at g2 hr;simp[f0,f6];refine Qa (g2 _) ?_;have g5:=λH0=>hR.ended.rendedT 4 (s.1:Int) 0 [] 0 true [] (s2.1:Int) true (ks.map N.enc) H0 (H.length+1);simp only[ag]at g5;simp[f1,f7,hXl];refine Qa (g5 _ (by simp[hXl];omega)) ?_;subst hXX;simp[f4,zbx];simp[RetK,rcut O,nl];exact Wq (z':=true) ks rfl (λ_=>rfl) hr
 have hE1:∀fr (ks:List N) (s':PSt) (X:Hp),(fr 0=.ptr i 0/\fr 1=YI s.1/\fr 4=.ptr H.length 0/\fr 6=YI s'.1/\fr 7=.osl true 6 (ks.map N.enc) (H.length+1))->(s'.2=none->s'.1<L.length)->s'.1<=1125899906842624->Rel L (n+1) .params s (N.new 4 s.1 (Qr L [41] s').1 [] 0 ks) (Qr L [41] s')->E fr (H.set i (rst R.tr z L s'.2)++(XX ks++X)):=λfr ks s' X a b c d=>by subst hE0;exact⟨ks,s',X,a,b,c,d,rfl⟩
 clear hE0;have hF:=lfs (KT:=1) (m0:=2) (m1:=3) (λn=>n) O hi [zbx R.tn] hXX rfl rfl rfl λ_=>rfl;obtain⟨hcut,hcut0,hg0,hgT,hgT1,hgB,hgC,hsT⟩:=hF;rw[show H.set i (rst R.tr z L s1.2)++[Ob.box R.tn [YI 0,YI 0,YI 0,YS [],YI 0,YL true 6 []],.tok 0 6 R.tn]=H.set i (rst R.tr z L s1.2)++XX [] by rw[hXX];rfl];refine Q4 (H.length+2) (λd fr H'=>∃(ks:List N)(s':PSt),(fr 0=.ptr i 0/\fr 1=YI s.1/\fr 4=.ptr H.length 0/\fr 6=YI s'.1/\fr 7=.osl true 6 (ks.map N.enc) (H.length+1))/\H'=H.set i (rst R.tr z L s'.2)++XX ks/\
  ((d=0/\s'.2≠none/\s'.1<=1125899906842624/\∀m,Rel L (n+1) .params s m s')\/∃p1,s'=(p1,none)/\s.2=none/\d<=n/\pp L (n+1) .params s.1=(pp L d (LG .param [41] ks) p1).then (λm j=>.ok (N.new 4 s.1 j [] 0 m.ks) j)/\p1<L.length/\16*(L.length-p1)+9<=d/\ks.length<=p1)) (match s1.2 with|none=>n|some _=>0) (by simp[hXl]) ⟨[],s1,?_⟩ ?_
 .have hil2:i<H.length+2:=by omega
  refine⟨by simp[hil2],hcut0 _ _,?_⟩;subst h1;obtain⟨p,st⟩:=s;cases st with
  |some q=>exact .inl ⟨rfl,by simp,by simp only[Yo];simp only at hp1;omega,λm=>by simp[Rel]⟩
  |none=>
   obtain⟨hp2,hp3⟩:=hpp.1.2.2 rfl;simp only[G.c]at hp2 hp3;by_cases c1:isT L p [40]=true
   .have l1:=Q6 hE c1;simp[c1];refine⟨by simp[pp,Qv,c1,LG],l1,by omega⟩
   .simp[c1];refine⟨by omega,λm=>?_⟩;simp[Rel,pp,Qv,c1];omega
 .rintro d fr H' ⟨ks,s',⟨f0,f1,f4,f6,f7⟩,rfl,hd⟩;have hil2:i<H.length+2:=by omega
  have hE1':=λfr ks s' a b c d=>by simpa using hE1 fr ks s' [] a b c d
  rcases hd with⟨rfl,q1,qb,q2⟩|⟨p1,rfl,hs2,hdn,hpe,hp1',hrk,hks⟩
  .obtain⟨p',st'⟩:=s';cases st' with
   |none=>simp at q1
   |some q=>
    have hg1:=hg0 (some q);have hq:¬(q:Int)<0:=by omega
    have hE2:=λfr h=>hE1' fr ks (p',some q) h (λe=>by cases e) qb (q2 _);simp only[rst]at hg1 hE2;simp[f0,f6,rst,hg1,hq];exact hE2 _ (by simp[f0,f1,f4,f6,f7,hXl])
  .have hRel:∀m s',(match(pp L d (LG .param [41] ks) p1).then (λm j=>.ok (N.new 4 s.1 j [] 0 m.ks) j)with|.out=>False|.bad q=>s'.2=some q/\s'.1<=L.length+(n+1)|.ok m' k=>m=m'/\s'=(k,none))->Rel L (n+1) .params s m s':=λm s' h=>by unfold Rel;rw[hs2];simp only;rw[hpe];exact h
   have hg1:=hg0 none;have gi:=λX=>hR.isA (z:=z) (st:=none) (X:=X) hi hp1' [41];by_cases hend:ks=[]/\isT L p1 [41]=true
   .obtain⟨rfl,hjb⟩:=hend;obtain⟨d',rfl⟩:∃d',d=d'+1:=⟨d-1,by omega⟩;have hE2:=λfr h=>hE1' fr [] (p1,none) h (λ_=>hp1') (by simp only;omega) (hRel _ _ (by simp[LG,pp,PR.then,hjb,N.bag,N.new,N.ks]));rw[hjb]at gi;simp only[rst]at hg1 gi hE2;simp[f0,f6,f7,rst,hg1];refine Qa (gi _) ?_;simp;exact hE2 _ (by simp[f0,f1,f4,f6,f7,hXl])
   .have hstep:=Qi2 (L:=L) (d:=d) (one:=.param) (e:=[41]) (ks:=ks) (p:=p1) (by omega) (λe=>by
     cases h:isT L p1 [41]with
     |false=>rfl
     |true=>exact absurd ⟨e,h⟩ hend)
    obtain⟨m,hm1,hm2,hpp2⟩:=hstep;obtain⟨m',rfl⟩:∃m',m=m'+1:=⟨m-1,by omega⟩;have gw:=λX=>hR.wordA (z:=z) (s:=(p1,none)) (X:=X) hi (λ_=>hp1') (by simp only;omega) 5 p1 0 [] 0 true [];have hrp:=λt s3=>Qwo (L:=L) hE (n:=m') (p:=p1) (t:=t) (s3:=s3);generalize h2:W7 L (p1,none)=s2 at gw hrp;have b2:=Vc h2;have m2:=Qat hE h2;have hlt2:=m2.lt (λ_=>hp1');have gt:=λX=>hS m' (by omega) H X i s2 hi ⟨⟨by simp only[G.c];simp only at b2;omega,by simp only[G.c];omega,λe=>by obtain⟨a1,a2,a3⟩:=m2 e;have:=hlt2 e;simp only at a2;simp only[G.c];exact⟨by omega,by omega⟩⟩,hlt2⟩;simp only at gw b2;generalize(if Q0 L (p1,none)=true then txT L p1 else[])=W at gw hrp;generalize(if Q0 L (p1,none)=true then(p1:Int)else 0)=Q at gw hrp;simp only[rst,ag]at hg1 gi gw gt;rcases Q4i ks with hk0|⟨kk,kx,hk0⟩
    .have hjb:isT L p1 [41]=false:=by
      cases h:isT L p1 [41]with
      |false=>rfl
      |true=>exact absurd ⟨hk0,h⟩ hend
     rw[hjb]at gi;simp[f0,f6,f7,rst,hg1,hk0];refine Qa (gi _) ?_;rw[<-hk0];simp[f0,f6];refine Qa (gw _) ?_;simp[f0];refine Qf (gt _) ?_;rintro _ _ ⟨t,s3,rfl,rfl,r3⟩;obtain⟨kt,ft,tt',wt',qt,zt,kst,hft,het,hvt,hbt⟩:=Wo R.tn t;rw[hvt];obtain⟨bo,hbo⟩:∃bo:Ob,bo=.box R.tn [YI 5,YI p1,YI 0,YS W,YI Q,YL true 6 []]:=⟨_,rfl⟩;obtain⟨co,hco⟩:∃co:Ob,co=.box R.tn [YI kt,YI ft,YI tt',YS wt',YI qt,YL zt 6 (kst.map N.enc)]:=⟨_,rfl⟩;have hB:=λX=>hgB ks bo X;have hC:=λX=>hgC ks bo co X;rw[hbo]at hB;rw[hbo,hco]at hC;have hT:=hgT ks;have hT1:=hgT1 ks;have g5:=λH0=>hR.ended.rended 5 p1 0 W Q true [] (s3.1:Int) false [t.enc] H0;rw[het]at g5;simp only[ag]at g5;simp[f0,f7,hXl,hB,hC];refine Qa (g5 _) ?_;have hsx:=r3.wt0 rfl;have hs3b:s3.1<=L.length+(m'+1):=by omega
     obtain⟨x,hx⟩:∃x:N,x=N.new 5 p1 s3.1 W Q [t]:=⟨_,rfl⟩;have hrx:Rel L (m'+1) .param (p1,none) x s3:=by rw[hx];exact hrp t s3 r3 hs3b
     have hs1:=hsT ks x;have hbd:(ks.length+1)*72<=140737488355328:=by omega
     have hmap:ks.map N.enc++[[.int .i64 5,.int .i64 (p1:Int),.int .i64 (s3.1:Int),.str W,.int .i64 Q,.sl false 6 [[.int .i64 kt,.int .i64 ft,.int .i64 tt',.str wt',.int .i64 qt,.sl zt 6 (kst.map N.enc)]]]]=(ks++[x]).map N.enc:=by rw[Q28,hx];simp[N.new,N.enc_mk,het]
     clear hrp hx r3 g5 gt gw;simp[f0,f7,hXl,hT,hT1,appA,slOf,hbd,hs1,hmap];obtain⟨p3,st3⟩:=s3;simp only at hs3b;cases st3 with
     |some q=>
      have hg2:=hg0 (some q);have hq':(0:Int)<=q:=by omega
      have hbad:pp L (m'+1) .param p1=.bad q:=by
       rcases hrx.none' with⟨q',a,e,e2,e3⟩|⟨k,e,e2⟩
       .simp only[prdI,somI]at e2;rw[e,e2.2]
       .simp at e2
      have hE2:=λfr X h=>hE1 fr (ks++[x]) (p3,some q) X h (λe=>by cases e) (by simp only;omega) (hRel _ _ (by rw[hpp2,hbad];simp[PR.then];omega));simp only[rst]at hg2 hE2;simp[f0,rst,hg2,hq'];exact hE2 _ _ (by simp[f0,f1,f4,hXl])
     |none=>
      have hok:pp L (m'+1) .param p1=.ok x p3:=by
       rcases hrx.none' with⟨q',a,e,e2,e3⟩|⟨k,e,e2⟩
       .simp at e2
       .simp only[prdI]at e2;rw[e,e2.1]
      have hadv:=Yr hE (m'+1) .param p1;rw[hok]at hadv;obtain⟨v1,v2,v3⟩:=hadv;have v2:=v2 rfl;have v3:=v3 v2;have gi3:=λX=>hR.isA (z:=z) (st:=none) (X:=X) hi v3 [41];have gw3:=λX=>hR.wantA (z:=z) (s:=(p3,none)) (X:=X) hi (λ_=>v3) (by simp only;omega) [44];have hg2:=hg0 none;cases hc:isT L p3 [41]with
      |true=>have hE2:=λfr X h=>hE1 fr (ks++[x]) (p3,none) X h (λ_=>v3) (by simp only;omega) (hRel _ _ (by rw[hpp2,hok];simp[PR.then,hc,N.bag,N.new,N.ks]));rw[hc]at gi3;simp only[rst]at hg2 gi3 hE2;simp[f0,rst,hg2];refine Qa (gi3 _) ?_;simp;exact hE2 _ _ (by simp[f0,f1,f4,hXl])
      |false=>
       rw[hc]at gi3;have hstp:=hpp2;rw[hok]at hstp;simp only[PR.then,hc,Qv]at hstp;by_cases hcm:isT L p3 [44]=true
       .have hl4:=Q6 hE hcm;simp only[Qq,hcm,if_true]at gw3;simp only[rst]at hg2 gi3 gw3;simp[f0,rst,hg2];refine Qa (gi3 _) ?_;simp[f0];refine Qa (gw3 _) ?_;simp;refine Qg (H.length+2) (m'+1) (Q14 _) (by simp[hXl]) (by omega) ⟨ks++[x],(p3+1,none),by simp[f0,f1,f4,hil2],by simpa[rst]using hcut (ks++[x]) none _,.inr ⟨p3+1,rfl,hs2,by omega,?_,hl4,by omega,by simp;omega⟩⟩;rw[hpe,hstp,hcm,Qgo];simp
       .have hcm':isT L p3 [44]=false:=by simpa using hcm
        simp only[Qq,hcm',Q2c,if_false]at gw3;simp only[rst]at hg2 gi3 gw3;simp[f0,rst,hg2];refine Qa (gi3 _) ?_;simp[f0];refine Qa (gw3 _) ?_;simp;refine Qg (H.length+2) 0 (Q14 _) (by simp[hXl]) (by omega) ⟨ks++[x],(p3,some p3),by simp[f0,f1,f4,hil2],by simpa[rst]using hcut (ks++[x]) (some p3) _,.inl ⟨rfl,by simp,by simp only;omega,λmm=>hRel _ _ ?_⟩⟩;rw[hstp,hcm'];simp[PR.then];omega
    .have hkn:¬ks=[]:=λe=>by rw[e]at hk0;simp at hk0
     simp[f0,f6,f7,rst,hg1,hkn];refine Qa (gw _) ?_;simp[f0];refine Qf (gt _) ?_;rintro _ _ ⟨t,s3,rfl,rfl,r3⟩;obtain⟨kt,ft,tt',wt',qt,zt,kst,hft,het,hvt,hbt⟩:=Wo R.tn t;rw[hvt];obtain⟨bo,hbo⟩:∃bo:Ob,bo=.box R.tn [YI 5,YI p1,YI 0,YS W,YI Q,YL true 6 []]:=⟨_,rfl⟩;obtain⟨co,hco⟩:∃co:Ob,co=.box R.tn [YI kt,YI ft,YI tt',YS wt',YI qt,YL zt 6 (kst.map N.enc)]:=⟨_,rfl⟩;have hB:=λX=>hgB ks bo X;have hC:=λX=>hgC ks bo co X;rw[hbo]at hB;rw[hbo,hco]at hC;have hT:=hgT ks;have hT1:=hgT1 ks;have g5:=λH0=>hR.ended.rended 5 p1 0 W Q true [] (s3.1:Int) false [t.enc] H0;rw[het]at g5;simp only[ag]at g5;simp[f0,f7,hXl,hB,hC];refine Qa (g5 _) ?_;have hsx:=r3.wt0 rfl;have hs3b:s3.1<=L.length+(m'+1):=by omega
     obtain⟨x,hx⟩:∃x:N,x=N.new 5 p1 s3.1 W Q [t]:=⟨_,rfl⟩;have hrx:Rel L (m'+1) .param (p1,none) x s3:=by rw[hx];exact hrp t s3 r3 hs3b
     have hs1:=hsT ks x;have hbd:(ks.length+1)*72<=140737488355328:=by omega
     have hmap:ks.map N.enc++[[.int .i64 5,.int .i64 (p1:Int),.int .i64 (s3.1:Int),.str W,.int .i64 Q,.sl false 6 [[.int .i64 kt,.int .i64 ft,.int .i64 tt',.str wt',.int .i64 qt,.sl zt 6 (kst.map N.enc)]]]]=(ks++[x]).map N.enc:=by rw[Q28,hx];simp[N.new,N.enc_mk,het]
     clear hrp hx r3 g5 gt gw;simp[f0,f7,hXl,hT,hT1,appA,slOf,hbd,hs1,hmap];obtain⟨p3,st3⟩:=s3;simp only at hs3b;cases st3 with
     |some q=>
      have hg2:=hg0 (some q);have hq':(0:Int)<=q:=by omega
      have hbad:pp L (m'+1) .param p1=.bad q:=by
       rcases hrx.none' with⟨q',a,e,e2,e3⟩|⟨k,e,e2⟩
       .simp only[prdI,somI]at e2;rw[e,e2.2]
       .simp at e2
      have hE2:=λfr X h=>hE1 fr (ks++[x]) (p3,some q) X h (λe=>by cases e) (by simp only;omega) (hRel _ _ (by rw[hpp2,hbad];simp[PR.then];omega));simp only[rst]at hg2 hE2;simp[f0,rst,hg2,hq'];exact hE2 _ _ (by simp[f0,f1,f4,hXl])
     |none=>
      have hok:pp L (m'+1) .param p1=.ok x p3:=by
       rcases hrx.none' with⟨q',a,e,e2,e3⟩|⟨k,e,e2⟩
       .simp at e2
       .simp only[prdI]at e2;rw[e,e2.1]
      have hadv:=Yr hE (m'+1) .param p1;rw[hok]at hadv;obtain⟨v1,v2,v3⟩:=hadv;have v2:=v2 rfl;have v3:=v3 v2;have gi3:=λX=>hR.isA (z:=z) (st:=none) (X:=X) hi v3 [41];have gw3:=λX=>hR.wantA (z:=z) (s:=(p3,none)) (X:=X) hi (λ_=>v3) (by simp only;omega) [44];have hg2:=hg0 none;cases hc:isT L p3 [41]with
      |true=>have hE2:=λfr X h=>hE1 fr (ks++[x]) (p3,none) X h (λ_=>v3) (by simp only;omega) (hRel _ _ (by rw[hpp2,hok];simp[PR.then,hc,N.bag,N.new,N.ks]));rw[hc]at gi3;simp only[rst]at hg2 gi3 hE2;simp[f0,rst,hg2];refine Qa (gi3 _) ?_;simp;exact hE2 _ _ (by simp[f0,f1,f4,hXl])
      |false=>
       rw[hc]at gi3;have hstp:=hpp2;rw[hok]at hstp;simp only[PR.then,hc,Qv]at hstp;by_cases hcm:isT L p3 [44]=true
       .have hl4:=Q6 hE hcm;simp only[Qq,hcm,if_true]at gw3;simp only[rst]at hg2 gi3 gw3;simp[f0,rst,hg2];refine Qa (gi3 _) ?_;simp[f0];refine Qa (gw3 _) ?_;simp;refine Qg (H.length+2) (m'+1) (Q14 _) (by simp[hXl]) (by omega) ⟨ks++[x],(p3+1,none),by simp[f0,f1,f4,hil2],by simpa[rst]using hcut (ks++[x]) none _,.inr ⟨p3+1,rfl,hs2,by omega,?_,hl4,by omega,by simp;omega⟩⟩;rw[hpe,hstp,hcm,Qgo];simp
       .have hcm':isT L p3 [44]=false:=by simpa using hcm
        simp only[Qq,hcm',Q2c,if_false]at gw3;simp only[rst]at hg2 gi3 gw3;simp[f0,rst,hg2];refine Qa (gi3 _) ?_;simp[f0];refine Qa (gw3 _) ?_;simp;refine Qg (H.length+2) 0 (Q14 _) (by simp[hXl]) (by omega) ⟨ks++[x],(p3,some p3),by simp[f0,f1,f4,hil2],by simpa[rst]using hcut (ks++[x]) (some p3) _,.inl ⟨rfl,by simp,by simp only;omega,λmm=>hRel _ _ ?_⟩⟩;rw[hstp,hcm'];simp[PR.then];omega
end
end
def Qhp{L:List Tk}(hE:Wz L){n p p0 K:Nat}{Q:Int}{W:Bs}{x:N}{s1:PSt}(hn:1<=n)(hpe:pp L (n+1) .stmt p=(pp L n .expr p0).then λx j=>Qv L j [59] λ_=>.ok (N.new K p ((j+1:Nat):Int) W Q [x]) (j+1))(r:Rel L n .expr (p0,none) x s1):Rel L (n+1) .stmt (p,none) (N.new K p (Qr L [59] s1).1 W Q [x]) (Qr L [59] s1):=by
 simp only[Rel,hpe];rcases r.none' with⟨q,a,e,rfl,e3⟩|⟨k,e,rfl⟩
 .simp[e,PR.then];omega
 .have ha:=Yr hE n .expr p0;rw[e]at ha;have hk:=ha.2.2 (ha.2.1 rfl);by_cases c:isT L k [59]=true
  .simp[e,PR.then,Qv,c]
  .simp[e,PR.then,Qv,c];omega
def Qwp{L:List Tk}(hE:Wz L){n p:Nat}{c b o:N}{s1 s2 s3:PSt}(hT:isT L p kIf=true)(hl:isT L p kLet=false)(r1:Rel L n .expr (p+1,none) c s1)(r2:Rel L n .block s1 b s2)(h3:s3=s2/\o=N.none/\(s2.2=none->isT L s2.1 Qgs=false)\/s2.2=none/\isT L s2.1 Qgs=true/\Rel L n .block (s2.1+1,none) o s3):Rel L (n+1) .stmt (p,none) (N.new 9 p s3.1 [] 0 [c,b,o]) s3:=by
 simp only[Rel,pp,hT,hl];rcases r1.none' with⟨q,a,e,rfl,e3⟩|⟨k,e,rfl⟩
 .obtain⟨a2,rfl,e4⟩:=r2.some';simp only[G.wt]at e4;rcases h3 with⟨rfl,rfl,h3⟩|⟨h3,-⟩
  .simp[e,PR.then];omega
  .simp at h3
 rcases r2.none' with⟨q,a,e',rfl,e4⟩|⟨k',e',rfl⟩
 .rcases h3 with⟨rfl,rfl,h3⟩|⟨h3,-⟩
  .simp[e,e',PR.then];omega
  .simp at h3
 rcases h3 with⟨rfl,rfl,h3⟩|⟨-,h3,r3⟩
 .have:=h3 rfl;simp only at this;simp[e,e',PR.then,this]
 .simp only at h3 r3;rcases r3.none' with⟨q,a,e'',rfl,e5⟩|⟨k'',e'',rfl⟩
  .simp[e,e',e'',PR.then,h3];omega
  .simp[e,e',e'',PR.then,h3]
def Qwn{L:List Tk}(hE:Wz L){n p:Nat}{c b:N}{s1 s2:PSt}(hT:isT L p Y3=true)(hl:isT L p kLet=false)(hi:isT L p kIf=false)(r1:Rel L n .expr (p+1,none) c s1)(r2:Rel L n .block s1 b s2):Rel L (n+1) .stmt (p,none) (N.new 10 p s2.1 [] 0 [c,b]) s2:=by
 simp only[Rel,pp,hT,hl,hi];rcases r1.none' with⟨q,a,e,rfl,e3⟩|⟨k,e,rfl⟩
 .obtain⟨a2,rfl,e4⟩:=r2.some';simp only[G.wt]at e4;simp[e,PR.then];omega
 rcases r2.none' with⟨q,a,e',rfl,e4⟩|⟨k',e',rfl⟩
 .simp[e,e',PR.then];omega
 .simp[e,e',PR.then]
def Q0u{L:List Tk}(hE:Wz L){n p:Nat}{t x:N}{s1 s2 s3 s4 s5:PSt}(hn:4<=n)(hl:isT L p kLet=true)(h1:W7 L (p+1,none)=s1)(r1:Rel L n .typed s1 t s2)(h3:Qr L [61] s2=s3)(r2:Rel L n .expr s3 x s4)(h5:Qr L [59] s4=s5):
 Rel L (n+1) .stmt (p,none) (N.new 7 p s5.1 (if Q0 L (p+1,none)then txT L (p+1)else[]) (if Q0 L (p+1,none)then((p+1:Nat):Int)else 0) [t,x]) s5:=by
 have hpl:=Q6 hE hl;subst h1;simp only[Rel,pp,hl,Yn,if_true];by_cases c1:kdT L (p+1)=1
 case neg=>simp only[Wu,c1,if_false]at r1;obtain⟨a,rfl,e3⟩:=r1.some';subst h3;simp only[Yo]at r2;obtain⟨b,rfl,e4⟩:=r2.some';subst h5;simp only[G.wt]at e3 e4;simp[c1];omega
 simp only[Wu,c1,if_true]at r1;have hpl2:=Z5 hE (i:=p+1) (by omega);rcases r1.none' with⟨q,a,e,rfl,e3⟩|⟨k,e,rfl⟩
 .subst h3;simp only[Yo]at r2;obtain⟨b,rfl,e4⟩:=r2.some';subst h5;simp only[G.wt]at e4;simp[c1,e,PR.then];omega
 have ha:=Yr hE n .typed (p+1+1);rw[e]at ha;have hk:k<L.length:=by
  rcases Q4f (p+1+1) k with h|h
  .exact ha.2.2 h
  .omega
 by_cases c2:isT L k [61]=true
 case neg=>simp only[Qq,c2]at h3;subst h3;simp only[Q2c,if_false]at r2;obtain⟨b,rfl,e4⟩:=r2.some';subst h5;simp only[G.wt]at e4;simp[c1,c2,e,PR.then,Qv];omega
 simp only[Qq,c2,if_true]at h3;subst h3;rcases r2.none' with⟨q,a,e',rfl,e3⟩|⟨k',e',rfl⟩
 .subst h5;simp[c1,c2,e,e',PR.then,Qv];omega
 have ha':=Yr hE n .expr (k+1);rw[e']at ha';have hk':=ha'.2.2 (ha'.2.1 rfl);by_cases c3:isT L k' [59]=true
 .simp only[Qq,c3,if_true]at h5;subst h5;simp[c1,c2,c3,e,e',PR.then,Qv]
 .simp only[Qq,c3]at h5;subst h5;simp[c1,c2,c3,e,e',PR.then,Qv];omega
section
def Qc5{L:List Tk}{n:Nat}{g:G}{q p:Nat}{s:PSt}(hL:L.length<=1048576)(hn:n<=1099511627776)(hp:p<L.length)(hgc:g.c<=6)(h:16*(L.length-p)+6<=n+1)(hb:s.1<=L.length+n+5)(hm:MoE L (p+1,none) s)(hl:s.2=none->s.1<L.length):Qet L n g s:=by refine⟨⟨by omega,by omega,λe=>?_⟩,hl⟩;obtain⟨-,a2,-⟩:=hm e;have:=hl e;simp only at a2;exact⟨by omega,by omega⟩
def Qto{L:List Tk}{n:Nat}{p:Nat}(h:Qet L (n+1) .stmt (p,none)):Qet L n .expr (p,none):=by obtain⟨⟨h1,h2,h3⟩,h4⟩:=h;obtain⟨h5,h6⟩:=h3 rfl;simp only[G.c]at*;exact⟨⟨by simp only[G.c]at*;omega,by simp only[G.c];omega,λ_=>⟨h5,by simp only[G.c];omega⟩⟩,λ_=>h4 trivial⟩
def Rel.bnd{L:List Tk}{n:Nat}{g:G}{m:N}{s s':PSt}(h:Rel L n g s m s'){B:Nat}(hb:s.1+1<=B)(hB:L.length+n<=B):s'.1<=B:=by rcases h.le with h|h|h|h<;>omega
section
variable{P:Program}{R:RF}{z:Bool}{L:List Tk}
def RHas.stmt'(hR:RHas P R)(hx:HasT P [8,47] R.stmt (Zo R.is R.expr R.block R.ended R.word R.typed R.want R.tn))(hE:Wz L)(hL:L.length<=1048576)(n:Nat)(hn:n<=1099511627776)(hEx:UR P R.tr z L n .expr R.expr)(hTy:UR P R.tr z L n .typed R.typed)(hBl:UR P R.tr z L n .block R.block):US P R.tr z L (n+1) .stmt R.stmt:=by
 refine US_of λH i p hi hpp=>?_;refine Ye (Qe hx (by simp[Zo]) λO _=>?_);have hp:p<L.length:=hpp.2 rfl;obtain⟨hp1,hp2⟩:=hpp.1.2.2 rfl;simp only[G.c]at hp1 hp2;have hw:IntKind.i64.wrap ((p:Int)+1)=((p+1:Nat):Int):=by rw[wi64 (by omega)];omega
 have hget:∀st X,(H.set i (rst R.tr z L st)++X)[i]?=some (rst R.tr z L st):=λst X=>upG hi;have hcc:∀st' X,Hp.cut H.length (H.set i (rst R.tr z L st')++X)=H.set i (rst R.tr z L st'):=λst' X=>rcut O;have gi:=λX x=>hR.isA (z:=z) (st:=none) (X:=X) hi hp x;have no:∀{x y:Bs},x≠y->isT L p x=true->isT L p y=false:=λ{x y} hxy h=>by
  cases h':isT L p y with
  |false=>rfl
  |true=>exact absurd (Qme h h') hxy
 have hX1:∀X q,(H.set i (rst R.tr z L q)++X).length=H.length+X.length:=λX q=>by simp
 simp only[rst]at gi hget;by_cases hIf:isT L p kIf=true
 .simp[Zo,rst];refine Qa (gi _ kIf) ?_;simp[hIf];have l1:=Q6 hE hIf;have gE:=λX=>hEx H X i (p+1,none) hi (Qc5 (q:=0) hL hn hp (by decide) (by omega) (by simp only;omega) (.refl _) (λ_=>l1));simp only[rst]at gE;refine Qa (gi _ kIf) ?_;simp[hIf,hw];refine Qf (gE _) ?_;rintro _ _ ⟨c,s1,rfl,rfl,r1⟩;have m1:=r1.moE hE;have hs1:=m1.lt (λ_=>l1);have b1:=r1.bnd (B:=L.length+n+2) (by simp only;omega) (by omega);have gB:=λX=>hBl H X i s1 hi (Qc5 (q:=0) hL hn hp (by decide) (by omega) (by omega) m1 hs1);obtain⟨kc,fc,tc,wc,qc,zc,ksc,hfc,hec,hvc,hbc⟩:=Wo R.tn c;rw[hvc];simp;refine Qf (gB _) ?_;rintro _ _ ⟨b,s2,rfl,rfl,r2⟩;have m2:=m1.trans (r2.moE hE);have hs2:=m2.lt (λ_=>l1);have b2:=r2.bnd (B:=L.length+n+4) (by omega) (by omega);obtain⟨kb,fb,tb,wb,qb,zb,ksb,hfb,heb,hvb,hbb⟩:=Wo R.tn b;rw[hvb];simp;obtain⟨p2,st2⟩:=s2;simp only at hs2 b2;have hno:([.int .i64 0,.int .i64 0,.int .i64 0,.str [],.int .i64 0,.sl true 6 []]:List D)=N.none.enc:=rfl;cases st2 with
  |some q=>
   have hg1:=hget (some q);simp only at hg1;have hq:¬(q:Int)<0:=by omega
   have heo:=hno;simp[rst,hg1,hq];have g5:=λH0=>hR.ended.rendedT 9 p 0 [] 0 true [] (((p2,some q):PSt).1:Int) false [[.int .i64 kc,.int .i64 fc,.int .i64 tc,.str wc,.int .i64 qc,.sl zc 6 (ksc.map N.enc)],[.int .i64 kb,.int .i64 fb,.int .i64 tb,.str wb,.int .i64 qb,.sl zb 6 (ksb.map N.enc)],[.int .i64 0,.int .i64 0,.int .i64 0,.str [],.int .i64 0,.sl true 6 []]] H0 (H.length+5);simp only[ag]at g5;simp[appA,slOf];refine Qa (g5 _ (by simp)) ?_;simp;have hc1:=λX=>hcc ((p2,some q):PSt).2 X;simp only[rst]at hc1;simp[RetK,hc1,rst,nl];have hrel:=Wq (tr:=R.tr) (z:=z) (H:=H) (i:=i) (z':=false) (t:=(((p2,some q):PSt).1:Int)) [c,b,.none] (rows:=[[.int .i64 kc,.int .i64 fc,.int .i64 tc,.str wc,.int .i64 qc,.sl zc 6 (ksc.map N.enc)],[.int .i64 kb,.int .i64 fb,.int .i64 tb,.str wb,.int .i64 qb,.sl zb 6 (ksb.map N.enc)],[.int .i64 0,.int .i64 0,.int .i64 0,.str [],.int .i64 0,.sl true 6 []]]) (by simp[hec,heb,heo]) (by simp) (Qwp hE hIf (no (by decide) hIf) r1 r2 (.inl ⟨rfl,rfl,by simp⟩));simpa[rst]using hrel
  |none=>
   have hg1:=hget none;simp only at hg1;have hp2l:=hs2 rfl;have gi2:=λX=>hR.isA (z:=z) (st:=none) (X:=X) hi hp2l Qgs;have hw2:IntKind.i64.wrap ((p2:Int)+1)=((p2+1:Nat):Int):=by rw[wi64 (by omega)];omega
   simp only[rst]at gi2;simp[rst,hg1];refine Qa (gi2 _) ?_;cases hel:isT L p2 Qgs with
   |false=>have heo:=hno;simp[hel];have g5:=λH0=>hR.ended.rendedT 9 p 0 [] 0 true [] (((p2,none):PSt).1:Int) false [[.int .i64 kc,.int .i64 fc,.int .i64 tc,.str wc,.int .i64 qc,.sl zc 6 (ksc.map N.enc)],[.int .i64 kb,.int .i64 fb,.int .i64 tb,.str wb,.int .i64 qb,.sl zb 6 (ksb.map N.enc)],[.int .i64 0,.int .i64 0,.int .i64 0,.str [],.int .i64 0,.sl true 6 []]] H0 (H.length+5);simp only[ag]at g5;simp[appA,slOf];refine Qa (g5 _ (by simp)) ?_;simp;have hc1:=λX=>hcc ((p2,none):PSt).2 X;simp only[rst]at hc1;simp[RetK,hc1,rst,nl];have hrel:=Wq (tr:=R.tr) (z:=z) (H:=H) (i:=i) (z':=false) (t:=(((p2,none):PSt).1:Int)) [c,b,.none] (rows:=[[.int .i64 kc,.int .i64 fc,.int .i64 tc,.str wc,.int .i64 qc,.sl zc 6 (ksc.map N.enc)],[.int .i64 kb,.int .i64 fb,.int .i64 tb,.str wb,.int .i64 qb,.sl zb 6 (ksb.map N.enc)],[.int .i64 0,.int .i64 0,.int .i64 0,.str [],.int .i64 0,.sl true 6 []]]) (by simp[hec,heb,heo]) (by simp) (Qwp hE hIf (no (by decide) hIf) r1 r2 (.inl ⟨rfl,rfl,λ_=>hel⟩));simpa[rst]using hrel
   |true=>have l2:=Q6 hE hel;have gB:=λX=>hBl H X i (p2+1,none) hi (Qc5 (q:=0) hL hn hp (by decide) (by omega) (by simp only;omega) (m2.trans (by intro e;exact⟨rfl,by simp,λ_=>l2⟩)) (λ_=>l2));simp only[rst]at gB;simp[hel,hw2];refine Qf (gB _) ?_;rintro _ _ ⟨o,s3,rfl,rfl,r3⟩;obtain⟨ko,fo,to,wo,qo,zo,kso,hfo,heo,hvo,hbo⟩:=Wo R.tn o;rw[hvo];simp;have g5:=λH0=>hR.ended.rendedT 9 p 0 [] 0 true [] (s3.1:Int) false [[.int .i64 kc,.int .i64 fc,.int .i64 tc,.str wc,.int .i64 qc,.sl zc 6 (ksc.map N.enc)],[.int .i64 kb,.int .i64 fb,.int .i64 tb,.str wb,.int .i64 qb,.sl zb 6 (ksb.map N.enc)],[.int .i64 ko,.int .i64 fo,.int .i64 to,.str wo,.int .i64 qo,.sl zo 6 (kso.map N.enc)]] H0 (H.length+5);simp only[ag]at g5;simp[appA,slOf];refine Qa (g5 _ (by simp)) ?_;simp;have hc1:=λX=>hcc s3.2 X;simp only[rst]at hc1;simp[RetK,hc1,rst,nl];have hrel:=Wq (tr:=R.tr) (z:=z) (H:=H) (i:=i) (z':=false) (t:=(s3.1:Int)) [c,b,o] (rows:=[[.int .i64 kc,.int .i64 fc,.int .i64 tc,.str wc,.int .i64 qc,.sl zc 6 (ksc.map N.enc)],[.int .i64 kb,.int .i64 fb,.int .i64 tb,.str wb,.int .i64 qb,.sl zb 6 (ksb.map N.enc)],[.int .i64 ko,.int .i64 fo,.int .i64 to,.str wo,.int .i64 qo,.sl zo 6 (kso.map N.enc)]]) (by simp[hec,heb,heo]) (by simp) (Qwp hE hIf (no (by decide) hIf) r1 r2 (.inr ⟨rfl,hel,r3⟩));simpa[rst]using hrel
 have hIf:isT L p kIf=false:=by simpa using hIf
 by_cases hWh:isT L p Y3=true
 .simp[Zo,rst];refine Qa (gi _ kIf) ?_;simp[hIf];refine Qa (gi _ Y3) ?_;simp[hWh];have l1:=Q6 hE hWh;have gE:=λX=>hEx H X i (p+1,none) hi (Qc5 (q:=0) hL hn hp (by decide) (by omega) (by simp only;omega) (.refl _) (λ_=>l1));simp only[rst]at gE;refine Qa (gi _ kIf) ?_;simp[hIf,hw];refine Qf (gE _) ?_;rintro _ _ ⟨c,s1,rfl,rfl,r1⟩;have m1:=r1.moE hE;have hs1:=m1.lt (λ_=>l1);have b1:=r1.bnd (B:=L.length+n+2) (by simp only;omega) (by omega);have gB:=λX=>hBl H X i s1 hi (Qc5 (q:=0) hL hn hp (by decide) (by omega) (by omega) m1 hs1);obtain⟨kc,fc,tc,wc,qc,zc,ksc,hfc,hec,hvc,hbc⟩:=Wo R.tn c;rw[hvc];simp;refine Qf (gB _) ?_;rintro _ _ ⟨b,s2,rfl,rfl,r2⟩;obtain⟨kb,fb,tb,wb,qb,zb,ksb,hfb,heb,hvb,hbb⟩:=Wo R.tn b;rw[hvb];simp;have g5:=λH0=>hR.ended.rendedT 10 p 0 [] 0 true [] (s2.1:Int) false [[.int .i64 kc,.int .i64 fc,.int .i64 tc,.str wc,.int .i64 qc,.sl zc 6 (ksc.map N.enc)],[.int .i64 kb,.int .i64 fb,.int .i64 tb,.str wb,.int .i64 qb,.sl zb 6 (ksb.map N.enc)]] H0 (H.length+5);simp only[ag]at g5;have hc1:=λX=>hcc s2.2 X;simp only[rst]at hc1;refine Qa (g5 _ (by simp)) ?_;simp;simp[RetK,hc1,rst,nl];have hrel:=Wq (tr:=R.tr) (z:=z) (H:=H) (i:=i) (z':=false) (t:=(s2.1:Int)) [c,b] (rows:=[[.int .i64 kc,.int .i64 fc,.int .i64 tc,.str wc,.int .i64 qc,.sl zc 6 (ksc.map N.enc)],[.int .i64 kb,.int .i64 fb,.int .i64 tb,.str wb,.int .i64 qb,.sl zb 6 (ksb.map N.enc)]]) (by simp[hec,heb]) (by simp) (Qwn hE hWh (no (by decide) hWh) hIf r1 r2);simpa[rst]using hrel
 have hWh:isT L p Y3=false:=by simpa using hWh
 by_cases hLe:isT L p kLet=true
 .have l1:=Q6 hE hLe;simp[Zo,rst];refine Qa (gi _ kIf) ?_;simp[hIf];refine Qa (gi _ Y3) ?_;simp[hWh];refine Qa (gi _ kLet) ?_;simp[hLe,hw];have hp1w:(((p+1:Nat),none):PSt).2=none->(((p+1:Nat),none):PSt).1<L.length:=λ_=>l1;have gW:=λX=>hR.wordA (z:=z) (s:=(p+1,none)) (X:=X) hi hp1w (by simp only;omega) 7 p 0 [] 0 true [];simp only[rst,ag]at gW;have hrel0:=λt x s2 s3 s4 s5=>Q0u hE (n:=n) (p:=p) (t:=t) (x:=x) (s1:=W7 L (p+1,none)) (s2:=s2) (s3:=s3) (s4:=s4) (s5:=s5) (by omega) hLe rfl;have m1:=Qat hE (rfl:W7 L (p+1,none)=_);have b1:=Vc (rfl:W7 L (p+1,none)=_);generalize W7 L (p+1,none)=s1 at gW hrel0 m1 b1;generalize(if Q0 L (p+1,none)=true then txT L (p+1)else[])=W at gW hrel0;generalize(if Q0 L (p+1,none)=true then((p+1:Nat):Int)else 0)=Q at gW hrel0;have hs1:=m1.lt (λ_=>l1);simp only at b1;have gT:=λX=>hTy H X i s1 hi (Qc5 (q:=0) hL hn hp (by decide) (by omega) (by omega) m1 hs1);refine Qa (gW _) ?_;simp;refine Qf (gT _) ?_;rintro _ _ ⟨c,s2,rfl,rfl,r1⟩;have m2:=m1.trans (r1.moE hE);have hs2:=m2.lt (λ_=>l1);have b2:=r1.bnd (B:=L.length+n+3) (by omega) (by omega);obtain⟨kc,fc,tc,wc,qc,zc,ksc,hfc,hec,hvc,hbc⟩:=Wo R.tn c;rw[hvc];have gw:=λX=>hR.wantA (z:=z) (s:=s2) (X:=X) hi hs2 (by omega) [61];have m3:=m2.trans (V0 hE (rfl:Qr L [61] s2=_));have b3:=W8 (rfl:Qr L [61] s2=_);have hrel0:=λx s4 s5=>hrel0 c x s2 (Qr L [61] s2) s4 s5 r1 rfl;generalize Qr L [61] s2=s3 at gw hrel0 m3 b3;have hs3:=m3.lt (λ_=>l1);have gE:=λX=>hEx H X i s3 hi (Qc5 (q:=0) hL hn hp (by decide) (by omega) (by omega) m3 hs3);simp[appA,slOf];refine Qa (gw _) ?_;simp;refine Qf (gE _) ?_;rintro _ _ ⟨b,s4,rfl,rfl,r2⟩;have m4:=m3.trans (r2.moE hE);have hs4:=m4.lt (λ_=>l1);have b4:=r2.bnd (B:=L.length+n+5) (by omega) (by omega);obtain⟨kb,fb,tb,wb,qb,zb,ksb,hfb,heb,hvb,hbb⟩:=Wo R.tn b;rw[hvb];have gw:=λX=>hR.wantA (z:=z) (s:=s4) (X:=X) hi hs4 (by omega) [59];have hrel0:=λs5=>hrel0 b s4 s5 r2;generalize Qr L [59] s4=s5 at gw hrel0;have hrel0:=hrel0 s5 rfl;simp;refine Qa (gw _) ?_;simp;have g5:=λH0=>hR.ended.rendedT 7 p 0 W Q true [] (s5.1:Int) true [[.int .i64 kc,.int .i64 fc,.int .i64 tc,.str wc,.int .i64 qc,.sl zc 6 (ksc.map N.enc)],[.int .i64 kb,.int .i64 fb,.int .i64 tb,.str wb,.int .i64 qb,.sl zb 6 (ksb.map N.enc)]] H0 (H.length+2);simp only[ag]at g5;have hc1:=λX=>hcc s5.2 X;simp only[rst]at hc1;simp[appA,slOf];refine Vj (g5 _ (by simp)) ?_;simp;simp[RetK,hc1,rst,nl];have hrel:=Wq (tr:=R.tr) (z:=z) (H:=H) (i:=i) (z':=true) (t:=(s5.1:Int)) [c,b] (rows:=[[.int .i64 kc,.int .i64 fc,.int .i64 tc,.str wc,.int .i64 qc,.sl zc 6 (ksc.map N.enc)],[.int .i64 kb,.int .i64 fb,.int .i64 tb,.str wb,.int .i64 qb,.sl zb 6 (ksb.map N.enc)]]) (by simp[hec,heb]) (by simp) (hrel0);simpa[rst]using hrel
 have hLe:isT L p kLet=false:=by simpa using hLe
 by_cases hPr:isT L p V4=true
 .have l1:=Q6 hE hPr;simp[Zo,rst];refine Qa (gi _ kIf) ?_;simp[hIf];refine Qa (gi _ Y3) ?_;simp[hWh];refine Qa (gi _ kLet) ?_;simp[hLe];refine Qa (gi _ V4) ?_;simp[hPr,hw];have gE:=λX=>hEx H X i (p+1,none) hi (Qc5 (q:=0) hL hn hp (by decide) (by omega) (by simp only;omega) (.refl _) (λ_=>l1));simp only[rst]at gE;refine Qf (gE _) ?_;rintro _ _ ⟨x,s1,rfl,rfl,r1⟩;have m1:=r1.moE hE;have hs1:=m1.lt (λ_=>l1);have b1:=r1.bnd (B:=L.length+n+2) (by simp only;omega) (by omega);obtain⟨kx,fx,tx,wx,qx,zx,ksx,hfx,hex,hvx,hbx⟩:=Wo R.tn x;rw[hvx];have gw:=λX=>hR.wantA (z:=z) (s:=s1) (X:=X) hi hs1 (by omega) [59];have hrel0:=Qhp hE (n:=n) (p:=p) (p0:=p+1) (K:=11) (Q:=0) (W:=[]) (x:=x) (by omega) (by simp[pp,hIf,hWh,hLe,hPr]) r1;generalize Qr L [59] s1=s2 at gw hrel0;simp;refine Qa (gw _) ?_;simp;have g5:=λH0=>hR.ended.rendedT 11 p 0 [] 0 true [] (s2.1:Int) true [[.int .i64 kx,.int .i64 fx,.int .i64 tx,.str wx,.int .i64 qx,.sl zx 6 (ksx.map N.enc)]] H0 (H.length+2);simp only[ag]at g5;have hc1:=λX=>hcc s2.2 X;simp only[rst]at hc1;simp[appA,slOf];refine Vj (g5 _ (by simp)) ?_;simp;simp[RetK,hc1,rst,nl];have hrel:=Wq (tr:=R.tr) (z:=z) (H:=H) (i:=i) (z':=true) (t:=(s2.1:Int)) [x] (rows:=[[.int .i64 kx,.int .i64 fx,.int .i64 tx,.str wx,.int .i64 qx,.sl zx 6 (ksx.map N.enc)]]) (by simp[hex]) (by simp) (hrel0);simpa[rst]using hrel
 have hPr:isT L p V4=false:=by simpa using hPr
 by_cases hRe:isT L p Vz=true
 .have l1:=Q6 hE hRe;simp[Zo,rst];refine Qa (gi _ kIf) ?_;simp[hIf];refine Qa (gi _ Y3) ?_;simp[hWh];refine Qa (gi _ kLet) ?_;simp[hLe];refine Qa (gi _ V4) ?_;simp[hPr];refine Qa (gi _ Vz) ?_;simp[hRe,hw];have gE:=λX=>hEx H X i (p+1,none) hi (Qc5 (q:=0) hL hn hp (by decide) (by omega) (by simp only;omega) (.refl _) (λ_=>l1));simp only[rst]at gE;refine Qf (gE _) ?_;rintro _ _ ⟨x,s1,rfl,rfl,r1⟩;have m1:=r1.moE hE;have hs1:=m1.lt (λ_=>l1);have b1:=r1.bnd (B:=L.length+n+2) (by simp only;omega) (by omega);obtain⟨kx,fx,tx,wx,qx,zx,ksx,hfx,hex,hvx,hbx⟩:=Wo R.tn x;rw[hvx];have gw:=λX=>hR.wantA (z:=z) (s:=s1) (X:=X) hi hs1 (by omega) [59];have hrel0:=Qhp hE (n:=n) (p:=p) (p0:=p+1) (K:=12) (Q:=0) (W:=[]) (x:=x) (by omega) (by simp[pp,hIf,hWh,hLe,hPr,hRe]) r1;generalize Qr L [59] s1=s2 at gw hrel0;simp;refine Qa (gw _) ?_;simp;have g5:=λH0=>hR.ended.rendedT 12 p 0 [] 0 true [] (s2.1:Int) true [[.int .i64 kx,.int .i64 fx,.int .i64 tx,.str wx,.int .i64 qx,.sl zx 6 (ksx.map N.enc)]] H0 (H.length+2);simp only[ag]at g5;have hc1:=λX=>hcc s2.2 X;simp only[rst]at hc1;simp[appA,slOf];refine Vj (g5 _ (by simp)) ?_;simp;simp[RetK,hc1,rst,nl];have hrel:=Wq (tr:=R.tr) (z:=z) (H:=H) (i:=i) (z':=true) (t:=(s2.1:Int)) [x] (rows:=[[.int .i64 kx,.int .i64 fx,.int .i64 tx,.str wx,.int .i64 qx,.sl zx 6 (ksx.map N.enc)]]) (by simp[hex]) (by simp) (hrel0);simpa[rst]using hrel
 have hRe:isT L p Vz=false:=by simpa using hRe
 have hA:=Wj (Qf8 hi (rst R.tr z L none));have hr:=Qt Qp hp;have hg:L[p]?=some L[p]:=Q12 hp;have hkd:kdT L p=L[p].k:=by unfold kdT;rw[hg]
 generalize L[p]=tk at hr hkd;obtain⟨kk,ta,tl,y⟩:=tk;simp only[Qp]at hr hkd;have hget1:=λX=>hget none X;simp only at hget1;by_cases h1:kk=1
 .subst h1;have l1:=Z5 hE (i:=p) (by omega);have gi1:=λX=>hR.isA (z:=z) (st:=none) (X:=X) hi l1 [61];simp only[rst]at gi1;by_cases hSe:isT L (p+1) [61]=true
  .have l2:=Q6 hE hSe;have hw2:IntKind.i64.wrap ((p:Int)+1+1)=((p+2:Nat):Int):=by rw[wi64 (by omega)];omega
   have hpw:(((p:Nat),none):PSt).2=none->(((p:Nat),none):PSt).1<L.length:=λ_=>hp;have gW:=λX=>hR.wordA (z:=z) (s:=(p,none)) (X:=X) hi hpw (by simp only;omega) 8 p 0 [] 0 true [];simp only[Wu,Qhi,hkd,if_true,decide_true,rst,ag]at gW;have gE:=λX=>hEx H X i (p+2,none) hi (Qc5 (q:=0) hL hn hp (by decide) (by omega) (by simp only;omega) (by intro e;exact⟨rfl,by simp,λ_=>l2⟩) (λ_=>l2));simp only[rst]at gE;simp[Zo,rst];refine Qa (gi _ kIf) ?_;simp[hIf];refine Qa (gi _ Y3) ?_;simp[hWh];refine Qa (gi _ kLet) ?_;simp[hLe];refine Qa (gi _ V4) ?_;simp[hPr];refine Qa (gi _ Vz) ?_;simp[hRe,hget1,hr,hw];refine Qa (gi1 _) ?_;simp[hSe];refine Qa (gW _) ?_;simp[hw2];refine Qf (gE _) ?_;rintro _ _ ⟨x,s1,rfl,rfl,r1⟩;have m1:=r1.moE hE;have hs1:=m1.lt (λ_=>l2);have b1:=r1.bnd (B:=L.length+n+3) (by simp only;omega) (by omega);obtain⟨kx,fx,tx,wx,qx,zx,ksx,hfx,hex,hvx,hbx⟩:=Wo R.tn x;rw[hvx];have gw:=λX=>hR.wantA (z:=z) (s:=s1) (X:=X) hi hs1 (by omega) [59];have hrel0:=Qhp hE (n:=n) (p:=p) (p0:=p+2) (K:=8) (Q:=(p:Int)) (W:=txT L p) (x:=x) (by omega) (by simp[pp,hIf,hWh,hLe,hPr,hRe,hkd,hSe]) r1;generalize Qr L [59] s1=s2 at gw hrel0;simp;refine Qa (gw _) ?_;simp;have g5:=λH0=>hR.ended.rendedT 8 p 0 (txT L p) p true [] (s2.1:Int) true [[.int .i64 kx,.int .i64 fx,.int .i64 tx,.str wx,.int .i64 qx,.sl zx 6 (ksx.map N.enc)]] H0 (H.length+2);simp only[ag]at g5;have hc1:=λX=>hcc s2.2 X;simp only[rst]at hc1;simp[appA,slOf];refine Vj (g5 _ (by simp)) ?_;simp;simp[RetK,hc1,rst,nl];have hrel:=Wq (tr:=R.tr) (z:=z) (H:=H) (i:=i) (z':=true) (t:=(s2.1:Int)) [x] (rows:=[[.int .i64 kx,.int .i64 fx,.int .i64 tx,.str wx,.int .i64 qx,.sl zx 6 (ksx.map N.enc)]]) (by simp[hex]) (by simp) (hrel0);simpa[rst]using hrel
  .have hSe:isT L (p+1) [61]=false:=by simpa using hSe
   have gE:=λX=>hEx H X i (p,none) hi (Qto hpp);simp only[rst]at gE;simp[Zo,rst];refine Qa (gi _ kIf) ?_;simp[hIf];refine Qa (gi _ Y3) ?_;simp[hWh];refine Qa (gi _ kLet) ?_;simp[hLe];refine Qa (gi _ V4) ?_;simp[hPr];refine Qa (gi _ Vz) ?_;simp[hRe,hget1,hr,hw];refine Qa (gi1 _) ?_;simp[hSe];refine Qf (gE _) ?_;rintro _ _ ⟨x,s1,rfl,rfl,r1⟩;have m1:=r1.moE hE;have hs1:=m1.lt (λ_=>hp);have b1:=r1.bnd (B:=L.length+n+3) (by simp only;omega) (by omega);obtain⟨kx,fx,tx,wx,qx,zx,ksx,hfx,hex,hvx,hbx⟩:=Wo R.tn x;rw[hvx];have gw:=λX=>hR.wantA (z:=z) (s:=s1) (X:=X) hi hs1 (by omega) [59];have hrel0:=Qhp hE (n:=n) (p:=p) (p0:=p) (K:=13) (Q:=0) (W:=[]) (x:=x) (by omega) (by simp[pp,hIf,hWh,hLe,hPr,hRe,hkd,hSe]) r1;generalize Qr L [59] s1=s2 at gw hrel0;simp;refine Qa (gw _) ?_;simp;have g5:=λH0=>hR.ended.rendedT 13 p 0 [] 0 true [] (s2.1:Int) true [[.int .i64 kx,.int .i64 fx,.int .i64 tx,.str wx,.int .i64 qx,.sl zx 6 (ksx.map N.enc)]] H0 (H.length+2);simp only[ag]at g5;have hc1:=λX=>hcc s2.2 X;simp only[rst]at hc1;simp[appA,slOf];refine Vj (g5 _ (by simp)) ?_;simp;simp[RetK,hc1,rst,nl];have hrel:=Wq (tr:=R.tr) (z:=z) (H:=H) (i:=i) (z':=true) (t:=(s2.1:Int)) [x] (rows:=[[.int .i64 kx,.int .i64 fx,.int .i64 tx,.str wx,.int .i64 qx,.sl zx 6 (ksx.map N.enc)]]) (by simp[hex]) (by simp) (hrel0);simpa[rst]using hrel
 .have hk1:¬kdT L p=1:=by rw[hkd];exact h1
  have gE:=λX=>hEx H X i (p,none) hi (Qto hpp);simp only[rst]at gE;simp[Zo,rst];refine Qa (gi _ kIf) ?_;simp[hIf];refine Qa (gi _ Y3) ?_;simp[hWh];refine Qa (gi _ kLet) ?_;simp[hLe];refine Qa (gi _ V4) ?_;simp[hPr];refine Qa (gi _ Vz) ?_;simp[hRe,hget1,hr,h1];refine Qf (gE _) ?_;rintro _ _ ⟨x,s1,rfl,rfl,r1⟩;have m1:=r1.moE hE;have hs1:=m1.lt (λ_=>hp);have b1:=r1.bnd (B:=L.length+n+3) (by simp only;omega) (by omega);obtain⟨kx,fx,tx,wx,qx,zx,ksx,hfx,hex,hvx,hbx⟩:=Wo R.tn x;rw[hvx];have gw:=λX=>hR.wantA (z:=z) (s:=s1) (X:=X) hi hs1 (by omega) [59];have hrel0:=Qhp hE (n:=n) (p:=p) (p0:=p) (K:=13) (Q:=0) (W:=[]) (x:=x) (by omega) (by simp[pp,hIf,hWh,hLe,hPr,hRe,hk1]) r1;generalize Qr L [59] s1=s2 at gw hrel0;simp;refine Qa (gw _) ?_;simp;have g5:=λH0=>hR.ended.rendedT 13 p 0 [] 0 true [] (s2.1:Int) true [[.int .i64 kx,.int .i64 fx,.int .i64 tx,.str wx,.int .i64 qx,.sl zx 6 (ksx.map N.enc)]] H0 (H.length+2);simp only[ag]at g5;have hc1:=λX=>hcc s2.2 X;simp only[rst]at hc1;simp[appA,slOf];refine Vj (g5 _ (by simp)) ?_;simp;simp[RetK,hc1,rst,nl];have hrel:=Wq (tr:=R.tr) (z:=z) (H:=H) (i:=i) (z':=true) (t:=(s2.1:Int)) [x] (rows:=[[.int .i64 kx,.int .i64 fx,.int .i64 tx,.str wx,.int .i64 qx,.sl zx 6 (ksx.map N.enc)]]) (by simp[hex]) (by simp) (hrel0);simpa[rst]using hrel
end
end
def Ex.mid(M:Fr->Hp->Prop)(Q:Ex->Fr->Hp->Prop):Ex->Fr->Hp->Prop
 |.normal=>M
 |e=>Q e
@[simp↓]theorem Q05{M:Fr->Hp->Prop}{Q:Ex->Fr->Hp->Prop}{fr:Fr}{H:Hp}:Ex.mid M Q .normal fr H=M fr H:=rfl
@[simp↓]theorem mid_ret{M:Fr->Hp->Prop}{Q:Ex->Fr->Hp->Prop}{fr:Fr}{H:Hp}:Ex.mid M Q .ret fr H=Q .ret fr H:=rfl
@[simp↓]theorem mid_exit{M:Fr->Hp->Prop}{Q:Ex->Fr->Hp->Prop}{j:Nat}{fr:Fr}{H:Hp}:Ex.mid M Q (.exit j) fr H=Q (.exit j) fr H:=rfl
theorem Qlc{P:Program}{n0:Nat}{Q:Ex->Fr->Hp->Prop}{fr:Fr}{H:Hp}{a b:C}(M:Fr->Hp->Prop)(h:AWp P n0 a (Ex.mid M Q) fr H)(hm:∀fr H,M fr H->AWp P n0 b Q fr H):AWp P n0 (.seq a b) Q fr H:=
 AWp.mono a (λe fr H h=>by
  cases e with
  |normal=>exact hm fr H h
  |ret=>exact h
  |exit j=>exact h) fr H h
def Qtl{L:List Tk}(hE:Wz L){n p:Nat}{one sub:G}{K:Int}{t:N}{s3:PSt}(h0:1<=n)(hpe:pp L (n+1) one p=Yn L p λw _=>Qv L (p+1) [58] λ_=>(pp L n sub (p+2)).then λt j=>.ok (N.new K p j w p [t]) j)(hp:p<L.length)(h:Rel L n sub (Qr L [58] (W7 L (p,none))) t s3)(hb:s3.1<=L.length+(n+1)):Rel L (n+1) one (p,none) (N.new K p s3.1 (if Q0 L (p,none)then txT L p else[]) (if Q0 L (p,none)then(p:Int)else 0) [t]) s3:=by
 simp only[Rel,hpe,Yn];by_cases c:kdT L p=1
 .simp only[Wu,c,if_true]at h⊢;have l1:=Z5 hE (i:=p) (by omega);by_cases c2:isT L (p+1) [58]=true
  .simp only[Qq,c2,if_true]at h;rcases h.none' with⟨q,a,e,rfl,e3⟩|⟨k,e,rfl⟩
   .simp[e,PR.then,Qv,c2];omega
   .simp[e,PR.then,Qv,c2,c]
  .simp only[Qq,c2]at h;obtain⟨a,rfl,e3⟩:=h.some';simp[Qv,c2];omega
 .simp only[Wu,c,if_false,Yo]at h;obtain⟨a,rfl,e3⟩:=h.some';simp only[c,if_false];simp;omega
def Quy{L:List Tk}(hE:Wz L){n p:Nat}{t:N}{s3:PSt}(h0:1<=n)(hp:p<L.length)(h:Rel L n .kind (Qr L [58] (W7 L (p,none))) t s3)(hb:s3.1<=L.length+(n+1)):Rel L (n+1) .tfield (p,none) (N.new 33 p s3.1 (if Q0 L (p,none)then txT L p else[]) (if Q0 L (p,none)then(p:Int)else 0) [t]) s3:=Qtl hE h0 (by simp only[pp]) hp h hb
def Qwr{L:List Tk}(hE:Wz L){n p:Nat}{t:N}{s3:PSt}(h0:1<=n)(hp:p<L.length)(h:Rel L n .expr (Qr L [58] (W7 L (p,none))) t s3)(hb:s3.1<=L.length+(n+1)):Rel L (n+1) .entry (p,none) (N.new 27 p s3.1 (if Q0 L (p,none)then txT L p else[]) (if Q0 L (p,none)then(p:Int)else 0) [t]) s3:=Qtl hE h0 (by simp only[pp]) hp h hb
def Qzx{L:List Tk}{n p:Nat}{g one:G}{e:Bs}{K:Int}{ks:List N}{s2:PSt}(hpe:pp L (n+1) g p=(pp L n (.list one e) (p+1)).then λm j=>.ok (N.new K p j [] 0 m.ks) j)(h:Rel L n (.list one e) (p+1,none) (N.bag ks) s2):Rel L (n+1) g (p,none) (N.new K p s2.1 [] 0 ks) s2:=by
 simp only[Rel,hpe];rcases h.none' with⟨q,a,e,rfl,e3⟩|⟨k,e,rfl⟩
 .simp[e,PR.then];omega
 .simp[e,PR.then,N.bag,N.new,N.ks]
def Q0w{L:List Tk}(hE:Wz L){n p:Nat}{ks:List N}{t:N}{s1 s2 s3 s4 s5:PSt}(hp:p<L.length)(i1:isT L p kInt=false)(i2:isT L p kStr=false)(i3:isT L p kDyn=false)(i4:isT L p [123]=false)(h1:Qr L kFn (p,none)=s1)(h2:Qr L [40] s1=s2)(h3:Rel L n (.list .kind [41]) s2 (N.bag ks) s3)(h4:Qr L [58] s3=s4)(h5:Rel L n .kind s4 t s5):Rel L (n+1) .kind (p,none) (N.new 34 p s5.1 [] 0 (ks++[t])) s5:=by
 simp only[Rel,pp,i1,i2,i3,i4,Qv,Q2c,if_false];by_cases c1:isT L p kFn=true
 case neg=>simp only[Qq,c1]at h1;subst h1;simp only[Q2c,if_false,Yo]at h2;subst h2;obtain⟨a,rfl,e3⟩:=h3.some';simp only[Yo]at h4;subst h4;obtain⟨b,rfl,e5⟩:=h5.some';simp only[G.wt]at e3 e5;simp[c1];omega
 have l1:=Q6 hE c1;simp only[Qq,c1,if_true]at h1;subst h1;by_cases c2:isT L (p+1) [40]=true
 case neg=>simp only[Qq,c2]at h2;subst h2;simp only[Q2c,if_false]at h3;obtain⟨a,rfl,e3⟩:=h3.some';simp only[Yo]at h4;subst h4;obtain⟨b,rfl,e5⟩:=h5.some';simp only[G.wt]at e3 e5;simp[c1,c2];omega
 have l2:=Q6 hE c2;simp only[Qq,c2,if_true]at h2;subst h2;rcases h3.none' with⟨q,a,e,rfl,e3⟩|⟨k,e,rfl⟩
 .simp only[Yo]at h4;subst h4;obtain⟨b,rfl,e5⟩:=h5.some';simp only[G.wt]at e5;simp[c1,c2,e,PR.then];omega
 have ha:=Yr hE n (.list .kind [41]) (p+1+1);rw[e]at ha;have hk:k<L.length:=by
  rcases Q4f (p+1+1) k with h|h
  .exact ha.2.2 h
  .omega
 by_cases c3:isT L k [58]=true
 case neg=>simp only[Qq,c3]at h4;subst h4;simp only[Q2c,if_false]at h5;obtain⟨b,rfl,e5⟩:=h5.some';simp only[G.wt]at e5;simp[c1,c2,c3,e,PR.then];omega
 simp only[Qq,c3,if_true]at h4;subst h4;rcases h5.none' with⟨q,a,e',rfl,e5⟩|⟨k',e',rfl⟩
 .simp[c1,c2,c3,e,e',PR.then];omega
 .simp[c1,c2,c3,e,e',PR.then,N.bag,N.new,N.ks]
section
def Q02:Nat->Bs
 |0=>kInt
 |1=>kStr
 |_=>kDyn
section
variable{P:Program}{R:RF}{z:Bool}{L:List Tk}
def RHas.kind'(hR:RHas P R)(hx:HasT P [9] R.kind (Qfk R.is R.word R.want R.kind R.ended R.tn))(hE:Wz L)(hL:L.length<=1048576)(n:Nat)(hn:n<=1099511627776)(hS:∀m,m<n+1->UR P R.tr z L m .kind R.kind):UR P R.tr z L (n+1) .kind R.kind:=by
 refine Qiz λH i s hi hpp=>?_;refine Ye (Qe hx (by simp[Qfk]) λO _=>?_);have hp0:=hpp.1.1;simp only[G.c]at hp0;obtain⟨p,st⟩:=s;have hget:∀st X,(H.set i (rst R.tr z L st)++X)[i]?=some (rst R.tr z L st):=λst X=>upG hi;have hcc:∀st' X,Hp.cut H.length (H.set i (rst R.tr z L st')++X)=H.set i (rst R.tr z L st'):=λst' X=>rcut O;cases st with
 |some q=>
  have hq':(0:Int)<=q:=by omega
  have hg1:=hget (some q);have hc1:=hcc (some q);simp only[rst]at hg1 hc1;simp[Qfk,rst,hg1,hq'];simp[RetK,hc1,rst,nl];have hrel:=Wq (tr:=R.tr) (z:=z) (L:=L) (H:=H) (i:=i) (z':=true) (n:=n+1) (g:=.kind) (s:=(p,some q)) (s':=(p,some q)) (k:=0) (f:=0) (t:=0) (a:=0) (w:=[]) [] (rows:=[]) rfl (by simp) (by simp[Rel]);simpa[rst]using hrel
 |none=>
  have hp:p<L.length:=hpp.2 rfl;obtain⟨hp1,hp2⟩:=hpp.1.2.2 rfl;simp only[G.c]at hp1 hp2;have hw:IntKind.i64.wrap ((p:Int)+1)=((p+1:Nat):Int):=by rw[wi64 (by omega)];omega
  have hg1:=hget none;simp only[rst]at hg1;have gi:=λx X=>hR.isA (z:=z) (st:=none) (X:=X) hi hp x;simp only[rst]at gi;simp[Qfk,rst,hg1];obtain⟨E,hE0⟩:∃E:Fr->Hp->Prop,E=λfr H'=>(fr 0=.ptr i 0/\fr 1=YI p/\fr 4=.ptr H.length 0/\fr 6=YI p)/\(isT L p kInt=false/\isT L p kStr=false/\isT L p kDyn=false)/\H'=H.set i (rst R.tr z L none)++[zbx R.tn]:=⟨_,rfl⟩;obtain⟨RR,hRR⟩:∃RR:Fr->Hp->Prop,RR=λfr H'=>∃K:Nat,fr 4=.ptr H.length 0/\fr 5=YI ((p+1:Nat):Int)/\pp L (n+1) .kind p=.ok (N.new K p (p+1) [] 0 []) (p+1)/\H'=H.set i (rst R.tr z L none)++[.box R.tn [YI K,YI p,YI ((p+1:Nat):Int),YS [],YI 0,YL true 6 []]]:=⟨_,rfl⟩;refine Qm 0 E RR ?_ ?_ ?_;rotate_left
  .intro fr H' h;subst hRR;obtain⟨K,f4,f5,hr,rfl⟩:=h;simp[f4,f5];simp[RetK,hcc,nl];have hrel:=Wq (tr:=R.tr) (z:=z) (L:=L) (H:=H) (i:=i) (z':=true) (n:=n+1) (g:=.kind) (s:=(p,none)) (s':=(p+1,none)) (k:=K) (f:=p) (t:=((p+1:Nat):Int)) (a:=0) (w:=[]) [] (rows:=[]) rfl (by simp) (by simp[Rel,hr]);simpa using hrel
  .intro fr H' h;subst hE0;clear hRR;obtain⟨⟨f0,f1,f4,f6⟩,⟨i1,i2,i3⟩,rfl⟩:=h;have gi4:=λX=>gi [123] X;cases i4:isT L p [123]with
   |true=>
    rw[i4]at gi4;have l1:=Q6 hE i4;simp[f0,f1,f4,f6,rst,zbx];refine Qa (gi4 _) ?_;simp[f6,hw];have hs0l:(((p+1,none):PSt)).2=none->((p+1,none):PSt).1<L.length:=λ_=>l1;have hs0c:((p+1,none):PSt).2=none->16*(L.length-((p+1,none):PSt).1)+9<=n:=λ_=>by simp only;omega
    obtain⟨XX,hXX⟩:∃XX:List N->Hp,XX=λks=>[zbx R.tn,.tok ks.length 6 R.tn]:=⟨_,rfl⟩;have hXl:∀a,(XX a).length=2:=λa=>by rw[hXX];rfl
    obtain⟨E,hE0⟩:∃E:Fr->Hp->Prop,E=λfr H'=>∃(ks:List N)(s':PSt)(X:Hp),(fr 0=.ptr i 0/\fr 1=YI p/\fr 4=.ptr H.length 0/\fr 6=YI s'.1/\fr 9=.osl true 6 (ks.map N.enc) (H.length+1))/\(s'.2=none->s'.1<L.length)/\s'.1<=1125899906842624/\ks.length*72<=70368744177664/\Rel L n (.list .tfield [125]) ((p+1,none):PSt) (N.bag ks) (Qr L [125] s')/\H'=H.set i (rst R.tr z L s'.2)++(XX ks++X):=⟨_,rfl⟩;refine Qm 2 E (λ_ _=>False) ?_ (λ_ _ h=>h.elim) ?_;rotate_left
    .intro fr H' h;subst hE0;obtain⟨ks,s',X,⟨f0,f1,f4,f6,f9⟩,hlt,hb,hkb,hr,rfl⟩:=h;have g2:=λX=>hR.wantA (z:=z) (s:=s') (X:=X) hi hlt hb [125];generalize Qr L [125] s'=s2 at g2 hr;simp[f0,f6];refine Qa (g2 _) ?_;have g5:=λH0=>hR.ended.rendedT 32 (p:Int) 0 [] 0 true [] (s2.1:Int) true (ks.map N.enc) H0 (H.length+1);simp only[ag]at g5;simp[f1,f9,hXl];refine Qa (g5 _ (by simp[hXl];omega)) ?_;subst hXX;simp[f4,zbx];simp[RetK,rcut O,nl];exact Wq (z':=true) ks rfl (λ_=>rfl) (Qzx (by simp[pp,i1,i2,i3,i4]) hr)
    have hE1:∀fr (ks:List N) (s':PSt) (X:Hp),(fr 0=.ptr i 0/\fr 1=YI p/\fr 4=.ptr H.length 0/\fr 6=YI s'.1/\fr 9=.osl true 6 (ks.map N.enc) (H.length+1))->(s'.2=none->s'.1<L.length)->s'.1<=1125899906842624->ks.length*72<=70368744177664->Rel L n (.list .tfield [125]) ((p+1,none):PSt) (N.bag ks) (Qr L [125] s')->E fr (H.set i (rst R.tr z L s'.2)++(XX ks++X)):=λfr ks s' X a b c d e=>by subst hE0;exact⟨ks,s',X,a,b,c,d,e,rfl⟩
    clear hE0;have hF:=lfs (KT:=1) (m0:=2) (m1:=3) (λn=>n) O hi [zbx R.tn] hXX rfl rfl rfl λ_=>rfl;obtain⟨hcut,hcut0,hg0,hgT,hgT1,hgB,hgC,hsT⟩:=hF;have hil2:i<H.length+2:=by omega
    rw[show H.set i (.box R.tr [YL z 4 (L.map Qp),YI (-1)])++[Ob.box R.tn [YI 0,YI 0,YI 0,YS [],YI 0,YL true 6 []],.tok 0 6 R.tn]=H.set i (rst R.tr z L none)++XX [] by rw[hXX];rfl];refine Q4 (H.length+2) (λd fr H'=>∃(ks:List N)(s':PSt),(fr 0=.ptr i 0/\fr 1=YI p/\fr 4=.ptr H.length 0/\fr 6=YI s'.1/\fr 9=.osl true 6 (ks.map N.enc) (H.length+1))/\H'=H.set i (rst R.tr z L s'.2)++XX ks/\
     ((d=0/\s'.2≠none/\s'.1<=1125899906842624/\ks.length*72<=70368744177664/\∀m,Rel L n (.list .tfield [125]) ((p+1,none):PSt) m s')\/∃p1,s'=(p1,none)/\((p+1,none):PSt).2=none/\d<=n/\pp L n (.list .tfield [125]) ((p+1,none):PSt).1=pp L d (LG .tfield [125] ks) p1/\p1<L.length/\16*(L.length-p1)+9<=d/\ks.length<=p1)) (match((p+1,none):PSt).2 with|none=>n|some _=>0) (by simp[hXl]) ⟨[],((p+1,none):PSt),?_⟩ ?_
    .refine⟨by simp[hil2,f0,f1,f4],hcut0 _ _,?_⟩;cases h0:((p+1,none):PSt).2 with
     |some q=>first|exact absurd h0 (by simp;done)|exact .inl ⟨rfl,by simp[h0],by omega,by simp,λm=>by simp[Rel,h0,G.wt]⟩
     |none=>exact .inr ⟨((p+1,none):PSt).1,by rw[<-h0],rfl,Q14 _,by simp[LG],hs0l h0,by have:=hs0c h0;omega,by simp⟩
    .rintro d fr H' ⟨ks,s',⟨f0,f1,f4,f6,f9⟩,rfl,hd⟩;rcases hd with⟨rfl,q1,qb,qk,q2⟩|⟨p1,rfl,hs2,hdn,hpe,hp1',hrk,hks⟩
     .obtain⟨p',st'⟩:=s';cases st' with
      |none=>simp at q1
      |some q=>
       have hg1:=hg0 (some q);have hq:¬(q:Int)<0:=by omega
       have hE2:=λfr h=>hE1 fr ks (p',some q) [] h (λe=>by cases e) qb qk (q2 _);simp only[rst,Q2k]at hg1 hE2;simp[f0,f6,rst,hg1,hq];exact hE2 _ (by simp[f0,f1,f4,f6,f9,hXl])
     .have hRel:∀m s',(match pp L d (LG .tfield [125] ks) p1 with|.out=>False|.bad q=>s'.2=some q/\s'.1<=L.length+n|.ok m' k=>m=m'/\s'=(k,none))->Rel L n (.list .tfield [125]) ((p+1,none):PSt) m s':=λm s' h=>by unfold Rel;rw[hs2];simp only;rw[hpe];exact h
      have hg1:=hg0 none;have gi:=λX=>hR.isA (z:=z) (st:=none) (X:=X) hi hp1' [125];by_cases hend:ks=[]/\isT L p1 [125]=true
      .obtain⟨rfl,hjb⟩:=hend;obtain⟨d',rfl⟩:∃d',d=d'+1:=⟨d-1,by omega⟩;have hE2:=λfr h=>hE1 fr [] (p1,none) [] h (λ_=>hp1') (by simp only;omega) (by simp) (hRel _ _ (by simp[LG,pp,hjb,N.bag,N.new]));rw[hjb]at gi;simp only[rst,Q2k]at hg1 gi hE2;simp[f0,f6,f9,rst,hg1];refine Qa (gi _) ?_;simp;exact hE2 _ (by simp[f0,f1,f4,f6,f9,hXl])
      .have hje:ks=[]->isT L p1 [125]=false:=λe=>by
        cases h:isT L p1 [125]with
        |false=>rfl
        |true=>exact absurd ⟨e,h⟩ hend
       obtain⟨M,hM⟩:∃M:Fr->Hp->Prop,M=λfr H'=>(fr 0=.ptr i 0/\fr 1=YI p/\fr 4=.ptr H.length 0/\fr 6=YI (((p1,none):PSt).1:Int)/\fr 9=.osl true 6 (ks.map N.enc) (H.length+1))/\H'=H.set i (rst R.tr z L none)++XX ks:=⟨_,rfl⟩;have hM1:∀fr,(fr 0=.ptr i 0/\fr 1=YI p/\fr 4=.ptr H.length 0/\fr 6=YI (((p1,none):PSt).1:Int)/\fr 9=.osl true 6 (ks.map N.enc) (H.length+1))->M fr (H.set i (rst R.tr z L none)++XX ks):=λfr h=>by subst hM;exact⟨h,rfl⟩
       refine Qlc M ?_ ?_
       .clear hM;simp only[rst]at hg1 gi hM1;rcases Q4i ks with hk0|⟨kk,kx,hk0⟩
        .rw[hje hk0]at gi;simp[f0,f6,f9,rst,hg1,hk0];refine Qa (gi _) ?_;rw[<-hk0];simp[f0,f6];exact hM1 _ (by simp[f0,f1,f4,f6,f9,hXl])
        .have hkn:¬ks=[]:=λe=>by rw[e]at hk0;simp at hk0
         simp[f0,f6,f9,rst,hg1,hkn];exact hM1 _ (by simp[f0,f1,f4,f6,f9,hXl])
       .intro fr H' h;subst hM;obtain⟨⟨f0,f1,f4,f6,f9⟩,rfl⟩:=h;have hstep:=Qi2 (L:=L) (d:=d) (one:=.tfield) (e:=[125]) (ks:=ks) (p:=p1) (by omega) hje;obtain⟨m,hm1,hm2,hpp2⟩:=hstep;obtain⟨m',rfl⟩:∃m',m=m'+1:=⟨m-1,by omega⟩;have gw:=λX=>hR.wordA (z:=z) (s:=(p1,none)) (X:=X) hi (λ_=>hp1') (by simp only;omega) 33 p1 0 [] 0 true [];have hrp:=λt s3=>Quy (L:=L) hE (n:=m') (p:=p1) (t:=t) (s3:=s3) (by omega) hp1';generalize h2:W7 L (p1,none)=s2 at gw hrp;have b2:=Vc h2;have m2:=Qat hE h2;have hlt2:=m2.lt (λ_=>hp1');simp only at gw b2;have gv:=λX=>hR.wantA (z:=z) (s:=s2) (X:=X) hi hlt2 (by omega) [58];generalize h2v:Qr L [58] s2=s2v at gv hrp;have b2:=Q3d (W8 h2v) (Nat.succ_le_succ b2);have m2:=m2.trans (V0 hE h2v);have hlt2:=m2.lt (λ_=>hp1');simp only[rst]at gv;have gt:=λX=>hS m' (by omega) H X i s2v hi ⟨⟨by simp only[G.c];omega,by simp only[G.c];omega,λe=>by obtain⟨a1,a2,a3⟩:=m2 e;have:=hlt2 e;simp only at a2;simp only[G.c];exact⟨by omega,by omega⟩⟩,hlt2⟩
        generalize(if Q0 L (p1,none)=true then txT L p1 else[])=W at gw hrp;generalize(if Q0 L (p1,none)=true then(p1:Int)else 0)=Q at gw hrp;simp only[rst,ag]at hg1 gw gt;simp[f0,f6,rst];refine Qa (gw _) ?_;simp[f0];refine Qa (gv _) ?_;simp[f0];refine Qf (gt _) ?_;rintro _ _ ⟨t,s3,rfl,rfl,r3⟩;obtain⟨kt,ft,tt',wt',qt,zt,kst,hft,het,hvt,hbt⟩:=Wo R.tn t;rw[hvt];obtain⟨bo,hbo⟩:∃bo:Ob,bo=.box R.tn [YI 33,YI p1,YI 0,YS W,YI Q,YL true 6 []]:=⟨_,rfl⟩;obtain⟨co,hco⟩:∃co:Ob,co=.box R.tn [YI kt,YI ft,YI tt',YS wt',YI qt,YL zt 6 (kst.map N.enc)]:=⟨_,rfl⟩;have hB:=λX=>hgB ks bo X;have hC:=λX=>hgC ks bo co X;rw[hbo]at hB;rw[hbo,hco]at hC;have hT:=hgT ks;have hT1:=hgT1 ks;have g5:=λH0=>hR.ended.rended 33 p1 0 W Q true [] (s3.1:Int) false [t.enc] H0;rw[het]at g5;simp only[ag]at g5;simp[f0,f9,hXl,hB,hC];refine Qa (g5 _) ?_;have hs3b:s3.1<=L.length+(m'+1):=by have:=r3.bnd (B:=L.length+(m'+1)) (by omega) (by omega);omega
        obtain⟨x,hx⟩:∃x:N,x=N.new 33 p1 s3.1 W Q [t]:=⟨_,rfl⟩;have hrx:Rel L (m'+1) .tfield (p1,none) x s3:=by rw[hx];exact hrp t s3 r3 hs3b
        have hs1:=hsT ks x;have hbd:(ks.length+1)*72<=140737488355328:=by omega
        have hmap:ks.map N.enc++[[.int .i64 33,.int .i64 (p1:Int),.int .i64 (s3.1:Int),.str W,.int .i64 Q,.sl false 6 [[.int .i64 kt,.int .i64 ft,.int .i64 tt',.str wt',.int .i64 qt,.sl zt 6 (kst.map N.enc)]]]]=(ks++[x]).map N.enc:=by rw[Q28,hx];simp[N.new,N.enc_mk,het]
        clear hrp hx r3 g5 gt gw;simp[f0,f9,hXl,hT,hT1,appA,slOf,hbd,hs1,hmap];obtain⟨p3,st3⟩:=s3;simp only at hs3b;cases st3 with
        |some q=>
         have hg2:=hg0 (some q);have hq':(0:Int)<=q:=by omega
         have hbad:pp L (m'+1) .tfield p1=.bad q:=by
          rcases hrx.none' with⟨q',a,e,e2,e3⟩|⟨k,e,e2⟩
          .simp only[prdI,somI]at e2;rw[e,e2.2]
          .simp at e2
         have hE2:=λfr X h=>hE1 fr (ks++[x]) (p3,some q) X h (λe=>by cases e) (by simp only;omega) (by simp;omega) (hRel _ _ (by rw[hpp2,hbad];simp[PR.then];omega));simp only[rst]at hg2 hE2;simp[f0,rst,hg2,hq'];exact hE2 _ _ (by simp[f0,f1,f4,hXl])
        |none=>
         have hok:pp L (m'+1) .tfield p1=.ok x p3:=by
          rcases hrx.none' with⟨q',a,e,e2,e3⟩|⟨k,e,e2⟩
          .simp at e2
          .simp only[prdI]at e2;rw[e,e2.1]
         have hadv:=Yr hE (m'+1) .tfield p1;rw[hok]at hadv;obtain⟨v1,v2,v3⟩:=hadv;have v2:=v2 rfl;have v3:=v3 v2;have gi3:=λX=>hR.isA (z:=z) (st:=none) (X:=X) hi v3 [125];have gw3:=λX=>hR.wantA (z:=z) (s:=(p3,none)) (X:=X) hi (λ_=>v3) (by simp only;omega) [44];have hg2:=hg0 none;cases hc:isT L p3 [125]with
         |true=>have hE2:=λfr X h=>hE1 fr (ks++[x]) (p3,none) X h (λ_=>v3) (by simp only;omega) (by simp;omega) (hRel _ _ (by rw[hpp2,hok];simp[PR.then,hc,N.bag,N.new]));rw[hc]at gi3;simp only[rst]at hg2 gi3 hE2;simp[f0,rst,hg2];refine Qa (gi3 _) ?_;simp;exact hE2 _ _ (by simp[f0,f1,f4,hXl])
         |false=>
          rw[hc]at gi3;have hstp:=hpp2;rw[hok]at hstp;simp only[PR.then,hc,Qv]at hstp;by_cases hcm:isT L p3 [44]=true
          .have hl4:=Q6 hE hcm;simp only[Qq,hcm,if_true]at gw3;simp only[rst]at hg2 gi3 gw3;simp[f0,rst,hg2];refine Qa (gi3 _) ?_;simp[f0];refine Qa (gw3 _) ?_;simp;refine Qg (H.length+2) (m'+1) (Q14 _) (by simp[hXl]) (by omega) ⟨ks++[x],(p3+1,none),by simp[f0,f1,f4,hil2],by simpa[rst]using hcut (ks++[x]) none _,.inr ⟨p3+1,rfl,hs2,by omega,?_,hl4,by omega,by simp;omega⟩⟩;rw[hpe,hstp,hcm,Qgo];simp
          .have hcm':isT L p3 [44]=false:=by simpa using hcm
           simp only[Qq,hcm',Q2c,if_false]at gw3;simp only[rst]at hg2 gi3 gw3;simp[f0,rst,hg2];refine Qa (gi3 _) ?_;simp[f0];refine Qa (gw3 _) ?_;simp;refine Qg (H.length+2) 0 (Q14 _) (by simp[hXl]) (by omega) ⟨ks++[x],(p3,some p3),by simp[f0,f1,f4,hil2],by simpa[rst]using hcut (ks++[x]) (some p3) _,.inl ⟨rfl,by simp,by simp only;omega,by simp;omega,λmm=>hRel _ _ ?_⟩⟩;rw[hstp,hcm'];simp[PR.then];omega
   |false=>
    rw[i4]at gi4;have g1:=λX=>hR.wantA (z:=z) (s:=(p,none)) (X:=X) hi (λ_=>hp) (by simp only;omega) kFn;have m1:=V0 hE (rfl:Qr L kFn (p,none)=_);have b1:=W8 (rfl:Qr L kFn (p,none)=_);have hrel0:=λks t s2 s3 s4 s5=>Q0w hE (n:=n) (p:=p) (ks:=ks) (t:=t) (s2:=s2) (s3:=s3) (s4:=s4) (s5:=s5) hp i1 i2 i3 i4 rfl;have q1:(Qr L kFn (p,none)).2=none->(Qr L kFn (p,none)).1=p+1:=by rw[Qq];split<;>simp
    generalize Qr L kFn (p,none)=s1 at g1 m1 b1 hrel0 q1;have g2:=λX=>hR.wantA (z:=z) (s:=s1) (X:=X) hi (m1.lt (λ_=>hp)) (by simp only at b1;omega) [40];have m2:=m1.trans (V0 hE (rfl:Qr L [40] s1=_));have b2:=W8 (rfl:Qr L [40] s1=_);have hrel0:=λks t s3 s4 s5=>hrel0 ks t (Qr L [40] s1) s3 s4 s5 rfl;have mo:=V0 hE (rfl:Qr L [40] s1=_);have hs0c:(Qr L [40] s1).2=none->16*(L.length-(Qr L [40] s1).1)+9<=n:=λe=>by obtain⟨a1,a2,-⟩:=mo e;have:=q1 a1;omega
    clear mo;generalize Qr L [40] s1=s2 at g2 m2 b2 hrel0 hs0c;have hs0l:=m2.lt (λ_=>hp);simp only[rst]at g1;simp[f0,f1,f4,f6,rst,zbx];refine Qa (gi4 _) ?_;simp[f0,f6];refine Qa (g1 _) ?_;simp[f0];refine Qa (g2 _) ?_;simp[f0];obtain⟨XX,hXX⟩:∃XX:List N->Hp,XX=λks=>[zbx R.tn,.tok ks.length 6 R.tn]:=⟨_,rfl⟩;have hXl:∀a,(XX a).length=2:=λa=>by rw[hXX];rfl
    obtain⟨E,hE0⟩:∃E:Fr->Hp->Prop,E=λfr H'=>∃(ks:List N)(s':PSt)(X:Hp),(fr 0=.ptr i 0/\fr 1=YI p/\fr 4=.ptr H.length 0/\fr 6=YI s'.1/\fr 9=.osl true 6 (ks.map N.enc) (H.length+1))/\(s'.2=none->s'.1<L.length)/\s'.1<=1125899906842624/\ks.length*72<=70368744177664/\Rel L n (.list .kind [41]) s2 (N.bag ks) (Qr L [41] s')/\H'=H.set i (rst R.tr z L s'.2)++(XX ks++X):=⟨_,rfl⟩;refine Qm 4 E (λ_ _=>False) ?_ (λ_ _ h=>h.elim) ?_;rotate_left
    .intro fr H' h;subst hE0;obtain⟨ks,s',X,⟨f0,f1,f4,f6,f9⟩,hlt,hb,hkb,hr,rfl⟩:=h;have m3:=m2.trans (hr.moE hE);have hl3:=m3.lt (λ_=>hp);have b3:=hr.bnd (B:=L.length+n+3) (by simp only at b1;omega) (by omega);have g3:=λX=>hR.wantA (z:=z) (s:=s') (X:=X) hi hlt hb [41];have hrel0:=λt s4 s5=>hrel0 ks t _ s4 s5 hr;generalize Qr L [41] s'=s3 at g3 hr m3 hl3 b3 hrel0;have g4:=λX=>hR.wantA (z:=z) (s:=s3) (X:=X) hi hl3 (by omega) [58];have m24:=(hr.moE hE).trans (V0 hE (rfl:Qr L [58] s3=_));have m4:=m3.trans (V0 hE (rfl:Qr L [58] s3=_));have b4:=W8 (rfl:Qr L [58] s3=_);have hrel0:=λt s5=>hrel0 t _ s5 rfl;generalize Qr L [58] s3=s4 at g4 m4 b4 hrel0 m24;have hl4:=m4.lt (λ_=>hp);have g6:=λX=>hS n (by omega) H X i s4 hi ⟨⟨by simp only[G.c];omega,by simp only[G.c];omega,λe=>by obtain⟨a1,a2,a3⟩:=m4 e;have:=hl4 e;obtain⟨a4,a5,-⟩:=m24 e;have:=hs0c a4;simp only[G.c];exact⟨by omega,by omega⟩⟩,hl4⟩
     simp[f0,f6];refine Qa (g3 _) ?_;simp[f0];refine Qa (g4 _) ?_;simp[f0];refine Qf (g6 _) ?_;rintro _ _ ⟨t,s5,rfl,rfl,r5⟩;have hrel0:=hrel0 t s5 r5;obtain⟨kt,ft,tt',wt',qt,zt,kst,hft,het,hvt,hbt⟩:=Wo R.tn t;rw[hvt];obtain⟨bo,hbo⟩:∃bo:Ob,bo=.box R.tn [YI kt,YI ft,YI tt',YS wt',YI qt,YL zt 6 (kst.map N.enc)]:=⟨_,rfl⟩;have g5:=λH0=>hR.ended.rendedT 34 (p:Int) 0 [] 0 true [] (s5.1:Int) true (ks.map N.enc++[[.int .i64 kt,.int .i64 ft,.int .i64 tt',.str wt',.int .i64 qt,.sl zt 6 (kst.map N.enc)]]) H0 (H.length+1);simp only[ag]at g5;simp[f1,f4,f9];subst hXX;have hbd:(ks.length+1)*72<=140737488355328:=by omega
     have hi2:i<H.length+2:=by omega
     simp[appA,slOf,hbd];refine Qa (g5 _ (by simp)) ?_;simp[f4,zbx];simp[RetK,rcut O,nl];exact Wq (z':=true) (ks++[t]) (by simp[het]) (by simp) hrel0
    have hE1:∀fr (ks:List N) (s':PSt) (X:Hp),(fr 0=.ptr i 0/\fr 1=YI p/\fr 4=.ptr H.length 0/\fr 6=YI s'.1/\fr 9=.osl true 6 (ks.map N.enc) (H.length+1))->(s'.2=none->s'.1<L.length)->s'.1<=1125899906842624->ks.length*72<=70368744177664->Rel L n (.list .kind [41]) s2 (N.bag ks) (Qr L [41] s')->E fr (H.set i (rst R.tr z L s'.2)++(XX ks++X)):=λfr ks s' X a b c d e=>by subst hE0;exact⟨ks,s',X,a,b,c,d,e,rfl⟩
    clear hE0;have hF:=lfs (KT:=1) (m0:=2) (m1:=3) (λn=>n) O hi [zbx R.tn] hXX rfl rfl rfl λ_=>rfl;obtain⟨hcut,hcut0,hg0,hgT,hgT1,hgB,hgC,hsT⟩:=hF;have hil2:i<H.length+2:=by omega
    rw[show H.set i (rst R.tr z L s2.2)++[Ob.box R.tn [YI 0,YI 0,YI 0,YS [],YI 0,YL true 6 []],.tok 0 6 R.tn]=H.set i (rst R.tr z L s2.2)++XX [] by rw[hXX];rfl];refine Q4 (H.length+2) (λd fr H'=>∃(ks:List N)(s':PSt),(fr 0=.ptr i 0/\fr 1=YI p/\fr 4=.ptr H.length 0/\fr 6=YI s'.1/\fr 9=.osl true 6 (ks.map N.enc) (H.length+1))/\H'=H.set i (rst R.tr z L s'.2)++XX ks/\
     ((d=0/\s'.2≠none/\s'.1<=1125899906842624/\ks.length*72<=70368744177664/\∀m,Rel L n (.list .kind [41]) s2 m s')\/∃p1,s'=(p1,none)/\s2.2=none/\d<=n/\pp L n (.list .kind [41]) s2.1=pp L d (LG .kind [41] ks) p1/\p1<L.length/\16*(L.length-p1)+9<=d/\ks.length<=p1)) (match s2.2 with|none=>n|some _=>0) (by simp[hXl]) ⟨[],s2,?_⟩ ?_
    .refine⟨by simp[hil2,f0,f1,f4],hcut0 _ _,?_⟩;cases h0:s2.2 with
     |some q=>first|exact absurd h0 (by simp;done)|exact .inl ⟨rfl,by simp[h0],by omega,by simp,λm=>by simp[Rel,h0,G.wt]⟩
     |none=>exact .inr ⟨s2.1,by rw[<-h0],rfl,Q14 _,by simp[LG],hs0l h0,by have:=hs0c h0;omega,by simp⟩
    .rintro d fr H' ⟨ks,s',⟨f0,f1,f4,f6,f9⟩,rfl,hd⟩;rcases hd with⟨rfl,q1,qb,qk,q2⟩|⟨p1,rfl,hs2,hdn,hpe,hp1',hrk,hks⟩
     .obtain⟨p',st'⟩:=s';cases st' with
      |none=>simp at q1
      |some q=>
       have hg1:=hg0 (some q);have hq:¬(q:Int)<0:=by omega
       have hE2:=λfr h=>hE1 fr ks (p',some q) [] h (λe=>by cases e) qb qk (q2 _);simp only[rst,Q2k]at hg1 hE2;simp[f0,f6,rst,hg1,hq];exact hE2 _ (by simp[f0,f1,f4,f6,f9,hXl])
     .have hRel:∀m s',(match pp L d (LG .kind [41] ks) p1 with|.out=>False|.bad q=>s'.2=some q/\s'.1<=L.length+n|.ok m' k=>m=m'/\s'=(k,none))->Rel L n (.list .kind [41]) s2 m s':=λm s' h=>by unfold Rel;rw[hs2];simp only;rw[hpe];exact h
      have hg1:=hg0 none;have gi:=λX=>hR.isA (z:=z) (st:=none) (X:=X) hi hp1' [41];by_cases hend:ks=[]/\isT L p1 [41]=true
      .obtain⟨rfl,hjb⟩:=hend;obtain⟨d',rfl⟩:∃d',d=d'+1:=⟨d-1,by omega⟩;have hE2:=λfr h=>hE1 fr [] (p1,none) [] h (λ_=>hp1') (by simp only;omega) (by simp) (hRel _ _ (by simp[LG,pp,hjb,N.bag,N.new]));rw[hjb]at gi;simp only[rst,Q2k]at hg1 gi hE2;simp[f0,f6,f9,rst,hg1];refine Qa (gi _) ?_;simp;exact hE2 _ (by simp[f0,f1,f4,f6,f9,hXl])
      .have hje:ks=[]->isT L p1 [41]=false:=λe=>by
        cases h:isT L p1 [41]with
        |false=>rfl
        |true=>exact absurd ⟨e,h⟩ hend
       obtain⟨M,hM⟩:∃M:Fr->Hp->Prop,M=λfr H'=>(fr 0=.ptr i 0/\fr 1=YI p/\fr 4=.ptr H.length 0/\fr 6=YI (((p1,none):PSt).1:Int)/\fr 9=.osl true 6 (ks.map N.enc) (H.length+1))/\H'=H.set i (rst R.tr z L none)++XX ks:=⟨_,rfl⟩;have hM1:∀fr,(fr 0=.ptr i 0/\fr 1=YI p/\fr 4=.ptr H.length 0/\fr 6=YI (((p1,none):PSt).1:Int)/\fr 9=.osl true 6 (ks.map N.enc) (H.length+1))->M fr (H.set i (rst R.tr z L none)++XX ks):=λfr h=>by subst hM;exact⟨h,rfl⟩
       refine Qlc M ?_ ?_
       .clear hM;simp only[rst]at hg1 gi hM1;rcases Q4i ks with hk0|⟨kk,kx,hk0⟩
        .rw[hje hk0]at gi;simp[f0,f6,f9,rst,hg1,hk0];refine Qa (gi _) ?_;rw[<-hk0];simp[f0,f6];exact hM1 _ (by simp[f0,f1,f4,f6,f9,hXl])
        .have hkn:¬ks=[]:=λe=>by rw[e]at hk0;simp at hk0
         simp[f0,f6,f9,rst,hg1,hkn];exact hM1 _ (by simp[f0,f1,f4,f6,f9,hXl])
       .intro fr H' h;subst hM;obtain⟨⟨f0,f1,f4,f6,f9⟩,rfl⟩:=h;have hstep:=Qi2 (L:=L) (d:=d) (one:=.kind) (e:=[41]) (ks:=ks) (p:=p1) (by omega) hje;obtain⟨m,hm1,hm2,hpp2⟩:=hstep;have gt:=λX=>hS m (by omega) H X i (p1,none) hi ⟨⟨by simp only[G.c];omega,by simp only[G.c];omega,λ_=>⟨by simp only;omega,by simp only[G.c];omega⟩⟩,λ_=>hp1'⟩;simp only[rst]at hg1 gt;simp[f0,f6,rst];refine Qf (gt _) ?_;rintro _ _ ⟨x,s3,rfl,rfl,hrx⟩;obtain⟨kt,ft,tt',wt',qt,zt,kst,hft,het,hvt,hbt⟩:=Wo R.tn x;rw[hvt];obtain⟨bo,hbo⟩:∃bo:Ob,bo=.box R.tn [YI kt,YI ft,YI tt',YS wt',YI qt,YL zt 6 (kst.map N.enc)]:=⟨_,rfl⟩;have hB:=λX=>hgB ks bo X;rw[hbo]at hB;have hT:=hgT ks;have hT1:=hgT1 ks;have hs3b:s3.1<=L.length+n:=hrx.bnd (by simp only;omega) (by omega);have hs1:=hsT ks x;have hbd:(ks.length+1)*72<=140737488355328:=by omega
        have hmap:ks.map N.enc++[[.int .i64 kt,.int .i64 ft,.int .i64 tt',.str wt',.int .i64 qt,.sl zt 6 (kst.map N.enc)]]=(ks++[x]).map N.enc:=by rw[Q28];simp[het]
        clear gt;simp[f9,hXl,hB,hT,hT1,appA,slOf,hbd,hs1,hmap];obtain⟨p3,st3⟩:=s3;simp only at hs3b;cases st3 with
        |some q=>
         have hg2:=hg0 (some q);have hq':(0:Int)<=q:=by omega
         have hbad:pp L m .kind p1=.bad q:=by
          rcases hrx.none' with⟨q',a,e,e2,e3⟩|⟨k,e,e2⟩
          .simp only[prdI,somI]at e2;rw[e,e2.2]
          .simp at e2
         have hE2:=λfr X h=>hE1 fr (ks++[x]) (p3,some q) X h (λe=>by cases e) (by simp only;omega) (by simp;omega) (hRel _ _ (by rw[hpp2,hbad];simp[PR.then];omega));simp only[rst]at hg2 hE2;simp[f0,rst,hg2,hq'];exact hE2 _ _ (by simp[f0,f1,f4,hXl])
        |none=>
         have hok:pp L m .kind p1=.ok x p3:=by
          rcases hrx.none' with⟨q',a,e,e2,e3⟩|⟨k,e,e2⟩
          .simp at e2
          .simp only[prdI]at e2;rw[e,e2.1]
         have hadv:=Yr hE m .kind p1;rw[hok]at hadv;obtain⟨v1,v2,v3⟩:=hadv;have v2:=v2 rfl;have v3:=v3 v2;have gi3:=λX=>hR.isA (z:=z) (st:=none) (X:=X) hi v3 [41];have gw3:=λX=>hR.wantA (z:=z) (s:=(p3,none)) (X:=X) hi (λ_=>v3) (by simp only;omega) [44];have hg2:=hg0 none;cases hc:isT L p3 [41]with
         |true=>have hE2:=λfr X h=>hE1 fr (ks++[x]) (p3,none) X h (λ_=>v3) (by simp only;omega) (by simp;omega) (hRel _ _ (by rw[hpp2,hok];simp[PR.then,hc,N.bag,N.new]));rw[hc]at gi3;simp only[rst]at hg2 gi3 hE2;simp[f0,rst,hg2];refine Qa (gi3 _) ?_;simp;exact hE2 _ _ (by simp[f0,f1,f4,hXl])
         |false=>
          rw[hc]at gi3;have hstp:=hpp2;rw[hok]at hstp;simp only[PR.then,hc,Qv]at hstp;by_cases hcm:isT L p3 [44]=true
          .have hl4:=Q6 hE hcm;simp only[Qq,hcm,if_true]at gw3;simp only[rst]at hg2 gi3 gw3;simp[f0,rst,hg2];refine Qa (gi3 _) ?_;simp[f0];refine Qa (gw3 _) ?_;simp;refine Qg (H.length+2) m (Q14 _) (by simp[hXl]) (by omega) ⟨ks++[x],(p3+1,none),by simp[f0,f1,f4,hil2],by simpa[rst]using hcut (ks++[x]) none _,.inr ⟨p3+1,rfl,hs2,by omega,?_,hl4,by omega,by simp;omega⟩⟩;rw[hpe,hstp,hcm,Qgo];simp
          .have hcm':isT L p3 [44]=false:=by simpa using hcm
           simp only[Qq,hcm',Q2c,if_false]at gw3;simp only[rst]at hg2 gi3 gw3;simp[f0,rst,hg2];refine Qa (gi3 _) ?_;simp[f0];refine Qa (gw3 _) ?_;simp;refine Qg (H.length+2) 0 (Q14 _) (by simp[hXl]) (by omega) ⟨ks++[x],(p3,some p3),by simp[f0,f1,f4,hil2],by simpa[rst]using hcut (ks++[x]) (some p3) _,.inl ⟨rfl,by simp,by simp only;omega,by simp;omega,λmm=>hRel _ _ ?_⟩⟩;rw[hstp,hcm'];simp[PR.then];omega
  have hE1:∀fr,(fr 0=.ptr i 0/\fr 1=YI p/\fr 4=.ptr H.length 0/\fr 6=YI p)->(isT L p kInt=false/\isT L p kStr=false/\isT L p kDyn=false)->E fr (H.set i (rst R.tr z L none)++[zbx R.tn]):=λfr a b=>by subst hE0;exact⟨a,b,rfl⟩
  have hR1:∀fr (K:Nat),fr 4=.ptr H.length 0->fr 5=YI ((p+1:Nat):Int)->pp L (n+1) .kind p=.ok (N.new K p (p+1) [] 0 []) (p+1)->RR fr (H.set i (rst R.tr z L none)++[.box R.tn [YI K,YI p,YI ((p+1:Nat):Int),YS [],YI 0,YL true 6 []]]):=λfr K a b c=>by subst hRR;exact⟨K,a,b,c,rfl⟩
  clear hE0 hRR;have hil1:i<H.length+1:=by omega
  have hcut1:Hp.cut (H.length+1) (H.set i (rst R.tr z L none)++[zbx R.tn])=H.set i (rst R.tr z L none)++[zbx R.tn]:=by rw[rcutk O];rfl
  refine Q4 (H.length+1) (λd fr H'=>∃j:Nat,d=3-j/\j<=3/\(fr 0=.ptr i 0/\fr 1=YI p/\fr 4=.ptr H.length 0/\fr 6=YI p/\fr 7=YL false 1 [[.str kInt],[.str kStr],[.str kDyn]]/\fr 8=YI j)/\(∀k,k<j->isT L p (Q02 k)=false)/\H'=H.set i (rst R.tr z L none)++[zbx R.tn]) 3 (by simp) ⟨0,rfl,by omega,by simp[hil1,kInt,kStr,kDyn],by simp,?_⟩ ?_
  .exact hcut1
  .rintro d fr H' ⟨j,rfl,hj,⟨f0,f1,f4,f6,f7,f8⟩,hno,rfl⟩;have hgz:∀X,(H.set i (rst R.tr z L none)++X)[i]?=some (rst R.tr z L none):=λX=>hget none X
   match j,hj with
   |0,_=>
    have gj:=λX=>gi kInt X;have hrw:Zam.rowAt [[.str kInt],[.str kStr],[.str kDyn]] (0:Int)=some [.str kInt]:=rfl;cases c:isT L p kInt with
    |true=>rw[c]at gj;have hR2:=λfr a b=>hR1 fr 29 a b (by simp[pp,c]);simp only[rst,zbx]at hR2 gj;simp[f0,f6,f7,f8,rst,zbx,hrw];refine Qa (gj _) ?_;simp[f1,f4,f6,f8,hw];exact hR2 _ (by simp[f4]) (by simp)
    |false=>
     rw[c]at gj;simp[f0,f6,f7,f8,rst,zbx,hrw];refine Qa (gj _) ?_;simp[f8];refine Qg (H.length+1) (3-1) (Q14 _) (by simp) (by omega) ⟨1,rfl,by omega,by simp[f0,f1,f4,f6,f7,hil1,show IntKind.i64.wrap 1=1 from rfl],?_,by simpa[rst,zbx]using hcut1⟩;intro k hk;match k,hk with
     |0,_=>exact c
   |1,_=>
    have hno0:isT L p kInt=false:=hno 0 (by omega);have gj:=λX=>gi kStr X;have hrw:Zam.rowAt [[.str kInt],[.str kStr],[.str kDyn]] (1:Int)=some [.str kStr]:=rfl;cases c:isT L p kStr with
    |true=>rw[c]at gj;have hR2:=λfr a b=>hR1 fr 30 a b (by simp[pp,hno0,c]);simp only[rst,zbx]at hR2 gj;simp[f0,f6,f7,f8,rst,zbx,hrw];refine Qa (gj _) ?_;simp[f1,f4,f6,f8,hw];exact hR2 _ (by simp[f4]) (by simp)
    |false=>
     rw[c]at gj;simp[f0,f6,f7,f8,rst,zbx,hrw];refine Qa (gj _) ?_;simp[f8];refine Qg (H.length+1) (3-2) (Q14 _) (by simp) (by omega) ⟨2,rfl,by omega,by simp[f0,f1,f4,f6,f7,hil1,show IntKind.i64.wrap 2=2 from rfl],?_,by simpa[rst,zbx]using hcut1⟩;intro k hk;match k,hk with
     |0,_=>exact hno0
     |1,_=>exact c
   |2,_=>
    have hno0:isT L p kInt=false:=hno 0 (by omega);have hno1:isT L p kStr=false:=hno 1 (by omega);have gj:=λX=>gi kDyn X;have hrw:Zam.rowAt [[.str kInt],[.str kStr],[.str kDyn]] (2:Int)=some [.str kDyn]:=rfl;cases c:isT L p kDyn with
    |true=>rw[c]at gj;have hR2:=λfr a b=>hR1 fr 31 a b (by simp[pp,hno0,hno1,c]);simp only[rst,zbx]at hR2 gj;simp[f0,f6,f7,f8,rst,zbx,hrw];refine Qa (gj _) ?_;simp[f1,f4,f6,f8,hw];exact hR2 _ (by simp[f4]) (by simp)
    |false=>
     rw[c]at gj;simp[f0,f6,f7,f8,rst,zbx,hrw];refine Qa (gj _) ?_;simp[f8];refine Qg (H.length+1) (3-3) (Q14 _) (by simp) (by omega) ⟨3,rfl,by omega,by simp[f0,f1,f4,f6,f7,hil1,show IntKind.i64.wrap 3=3 from rfl],?_,by simpa[rst,zbx]using hcut1⟩;intro k hk;match k,hk with
     |0,_=>exact hno0
     |1,_=>exact hno1
     |2,_=>exact c
   |3,_=>have hE2:=λfr a=>hE1 fr a ⟨hno 0 (by omega),hno 1 (by omega),hno 2 (by omega)⟩;simp only[rst,zbx]at hE2;simp[f8,rst,zbx];exact hE2 _ (by simp[f0,f1,f4,f6])
end
end
section
def Qwq{L:List Tk}(hE:Wz L){n p:Nat}{x:N}{s1:PSt}(hn:1<=n)(hpe:pp L (n+1) .atom p=(pp L n .expr (p+1)).then λx j=>Qv L j [41] λ_=>.ok (N.new 25 p ((j+1:Nat):Int) [] 0 [x]) (j+1))(r:Rel L n .expr (p+1,none) x s1):Rel L (n+1) .atom (p,none) (N.new 25 p (Qr L [41] s1).1 [] 0 [x]) (Qr L [41] s1):=by
 simp only[Rel,hpe];rcases r.none' with⟨q,a,e,rfl,e3⟩|⟨k,e,rfl⟩
 .simp[e,PR.then];omega
 .have ha:=Yr hE n .expr (p+1);rw[e]at ha;have hk:=ha.2.2 (ha.2.1 rfl);by_cases c:isT L k [41]=true
  .simp[e,PR.then,Qv,c]
  .simp[e,PR.then,Qv,c];omega
def Q0v{L:List Tk}(hE:Wz L){n p:Nat}{t1 t2 t3:N}{s1 s2:PSt}(hp:p<L.length)(hn:1<=n)(hpe:pp L (n+1) .atom p=Qv L p kFn λ_=>(pp L n .params (p+1)).then λp' j=>(pp L n .typed j).then λt j=>(pp L n .block j).then λb j=>.ok (N.new 28 p j [] 0 [p',t,b]) j)(h1:Qr L kFn (p,none)=s1)(h2:Qta L n s1 t1 t2 t3 s2):Rel L (n+1) .atom (p,none) (N.new 28 p s2.1 [] 0 [t1,t2,t3]) s2:=by
 obtain⟨u1,u2,r1,r2,r3⟩:=h2;simp only[Rel,hpe,Qv];by_cases c1:isT L p kFn=true
 case neg=>simp only[Qq,c1]at h1;subst h1;simp only[Q2c,if_false]at r1;obtain⟨a,rfl,e3⟩:=r1.some';obtain⟨b,rfl,e4⟩:=r2.some';obtain⟨c,rfl,e5⟩:=r3.some';simp only[G.wt]at e3 e4 e5;simp[c1];omega
 simp only[Qq,c1,if_true]at h1;subst h1;rcases r1.none' with⟨q,a,e,rfl,e3⟩|⟨k,e,rfl⟩
 .obtain⟨b,rfl,e4⟩:=r2.some';obtain⟨c,rfl,e5⟩:=r3.some';simp only[G.wt]at e4 e5;simp[c1,e,PR.then];omega
 rcases r2.none' with⟨q,a,e',rfl,e4⟩|⟨k',e',rfl⟩
 .obtain⟨c,rfl,e5⟩:=r3.some';simp only[G.wt]at e5;simp[c1,e,e',PR.then];omega
 rcases r3.none' with⟨q,a,e'',rfl,e5⟩|⟨k'',e'',rfl⟩
 .simp[c1,e,e',e'',PR.then];omega
 .simp[c1,e,e',e'',PR.then]
section
variable{P:Program}{R:RF}{z:Bool}{L:List Tk}
def RHas.atom'(hR:RHas P R)(hx:HasT P [11] R.atom (Zp R.is R.expr R.want R.ended R.word R.lambda R.tn R.tt))(hE:Wz L)(hL:L.length<=1048576)(n:Nat)(hn:n<=1099511627776)(hS:∀m,m<n+1->UR P R.tr z L m .expr R.expr)(hPa:UR P R.tr z L n .params R.params)(hTy:UR P R.tr z L n .typed R.typed)(hBl:UR P R.tr z L n .block R.block):UR P R.tr z L (n+1) .atom R.atom:=by
 refine Qiz λH i s hi hpp=>?_;refine Ye (Qe hx (by simp[Zp]) λO _=>?_);have hp0:=hpp.1.1;simp only[G.c]at hp0;obtain⟨p,st⟩:=s;have hget:∀st X,(H.set i (rst R.tr z L st)++X)[i]?=some (rst R.tr z L st):=λst X=>upG hi;have hcc:∀st' X,Hp.cut H.length (H.set i (rst R.tr z L st')++X)=H.set i (rst R.tr z L st'):=λst' X=>rcut O;simp only at hp0;have hw:IntKind.i64.wrap ((p:Int)+1)=((p+1:Nat):Int):=by rw[wi64 (by omega)];omega
 cases st with
 |some q=>
  have hq':(0:Int)<=q:=by omega
  have hg1:=hget (some q);have hc1:=hcc (some q);simp only[rst]at hg1 hc1;simp[Zp,rst,hg1,hq'];simp[RetK,hc1,rst,nl];have hrel:=Wq (tr:=R.tr) (z:=z) (L:=L) (H:=H) (i:=i) (z':=true) (n:=n+1) (g:=.atom) (s:=(p,some q)) (s':=(p,some q)) (k:=0) (f:=0) (t:=0) (a:=0) (w:=[]) [] (rows:=[]) rfl (by simp) (by simp[Rel]);simpa[rst]using hrel
 |none=>
  have hp:p<L.length:=hpp.2 rfl;obtain⟨hp1,hp2⟩:=hpp.1.2.2 rfl;simp only[G.c]at hp1 hp2;have hg1:=hget none;have hc1:=hcc none;simp only[rst]at hg1 hc1;have gi:=λx X=>hR.isA (z:=z) (st:=none) (X:=X) hi hp x;simp only[rst]at gi;have hA:=Wj (Qf8 hi (rst R.tr z L none));simp only[rst]at hA;have hr:=Qt Qp hp;have hg:L[p]?=some L[p]:=Q12 hp;have hkd:kdT L p=L[p].k:=by unfold kdT;rw[hg]
  have htx:txT L p=L[p].x:=by unfold txT;rw[hg]
  generalize L[p]=tk at hr hkd htx;obtain⟨kk,ta,tl,y⟩:=tk;simp only[Qp]at hr hkd htx;by_cases k3:kk=3
  .subst k3;simp[Zp,rst,hg1,hr,hw];simp[RetK,hc1,rst,nl];have hrel:=Wq (tr:=R.tr) (z:=z) (L:=L) (H:=H) (i:=i) (z':=true) (n:=n+1) (g:=.atom) (s:=(p,none)) (s':=(p+1,none)) (k:=21) (f:=p) (t:=((p+1:Nat):Int)) (a:=p) (w:=y) [] (rows:=[]) rfl (by simp) (by simp[Rel,pp,hkd,htx]);simpa[rst]using hrel
  by_cases k4:kk=4
  .subst k4;simp[Zp,rst,hg1,hr,hw];simp[RetK,hc1,rst,nl];have hrel:=Wq (tr:=R.tr) (z:=z) (L:=L) (H:=H) (i:=i) (z':=true) (n:=n+1) (g:=.atom) (s:=(p,none)) (s':=(p+1,none)) (k:=22) (f:=p) (t:=((p+1:Nat):Int)) (a:=p) (w:=y) [] (rows:=[]) rfl (by simp) (by simp[Rel,pp,hkd,htx]);simpa[rst]using hrel
  by_cases k1:kk=1
  .subst k1;simp[Zp,rst,hg1,hr,hw];simp[RetK,hc1,rst,nl];have hrel:=Wq (tr:=R.tr) (z:=z) (L:=L) (H:=H) (i:=i) (z':=true) (n:=n+1) (g:=.atom) (s:=(p,none)) (s':=(p+1,none)) (k:=23) (f:=p) (t:=((p+1:Nat):Int)) (a:=p) (w:=y) [] (rows:=[]) rfl (by simp) (by simp[Rel,pp,hkd,htx]);simpa[rst]using hrel
  have hno:¬kdT L p=3/\¬kdT L p=4/\¬kdT L p=1:=by rw[hkd];exact⟨k3,k4,k1⟩
  obtain⟨n3,n4,n1⟩:=hno;by_cases cI:isT L p Zf=true
  .simp[Zp,rst,hg1,hr,hw,k1,k3,k4];refine Qa (gi Zf _) ?_;simp[cI,hw];simp[RetK,hc1,rst,nl];have hrel:=Wq (tr:=R.tr) (z:=z) (L:=L) (H:=H) (i:=i) (z':=true) (n:=n+1) (g:=.atom) (s:=(p,none)) (s':=(p+1,none)) (k:=24) (f:=p) (t:=((p+1:Nat):Int)) (a:=0) (w:=[]) [] (rows:=[]) rfl (by simp) (by simp[Rel,pp,n3,n4,n1,cI]);simpa[rst]using hrel
  have cI:isT L p Zf=false:=by simpa using cI
  by_cases cG:isT L p [40]=true
  .have l1:=Q6 hE cG;have gE:=λX=>hS n (by omega) H X i (p+1,none) hi ⟨⟨by simp only[G.c];omega,by simp only[G.c];omega,λ_=>⟨by simp only;omega,by simp only[G.c];omega⟩⟩,λ_=>l1⟩;simp only[rst]at gE;simp[Zp,rst,hg1,hr,hw,k1,k3,k4];refine Qa (gi Zf _) ?_;simp[cI];refine Qa (gi [40] _) ?_;simp[cG,hw];refine Qf (gE _) ?_;rintro _ _ ⟨x,s1,rfl,rfl,r1⟩;have hs1:=(r1.moE hE).lt (λ_=>l1);have b1:=r1.bnd (B:=L.length+n+3) (by simp only;omega) (by omega);obtain⟨kx,fx,tx,wx,qx,zx,ksx,hfx,hex,hvx,hbx⟩:=Wo R.tn x;rw[hvx];have gw:=λX=>hR.wantA (z:=z) (s:=s1) (X:=X) hi hs1 (by omega) [41];have hrel0:=Qwq hE (by omega) (by simp[pp,n3,n4,n1,cI,cG]) r1;generalize Qr L [41] s1=s2 at gw hrel0;simp;refine Qa (gw _) ?_;simp;have g5:=λH0=>hR.ended.rended 25 p 0 [] 0 true [] (s2.1:Int) false [[.int .i64 kx,.int .i64 fx,.int .i64 tx,.str wx,.int .i64 qx,.sl zx 6 (ksx.map N.enc)]] H0;simp only[ag]at g5;refine Qa (g5 _) ?_;simp;simp[RetK,hcc,nl];exact Wq (z':=false) [x] (by simp[hex]) (by simp) hrel0
  have cG:isT L p [40]=false:=by simpa using cG
  by_cases cR:isT L p [123]=true
  .have l1:=Q6 hE cR;simp[Zp,rst,hg1,hr,hw,k1,k3,k4];refine Qa (gi Zf _) ?_;simp[cI];refine Qa (gi [40] _) ?_;simp[cG];refine Qa (gi [123] _) ?_;simp[cR,hw];have hs0l:(((p+1,none):PSt)).2=none->((p+1,none):PSt).1<L.length:=λ_=>l1;have hs0c:((p+1,none):PSt).2=none->16*(L.length-((p+1,none):PSt).1)+9<=n:=λ_=>by simp only;omega
   obtain⟨XX,hXX⟩:∃XX:List N->Hp,XX=λks=>[.box R.tn [YI 0,YI 0,YI 0,YS [],YI 0,YL true 6 []],.box R.tn [YI 0,YI p,YI ((p:Int)+1),YS y,YI p,YL true 6 []],.box R.tt [YI kk,YI ta,YS tl,YS y],.tok ks.length 6 R.tn]:=⟨_,rfl⟩;have hXl:∀a,(XX a).length=4:=λa=>by rw[hXX];rfl
   obtain⟨E,hE0⟩:∃E:Fr->Hp->Prop,E=λfr H'=>∃(ks:List N)(s':PSt)(X:Hp),(fr 0=.ptr i 0/\fr 1=YI p/\fr 4=.ptr H.length 0/\fr 6=YI s'.1/\fr 11=.osl true 6 (ks.map N.enc) (H.length+3))/\(s'.2=none->s'.1<L.length)/\s'.1<=1125899906842624/\ks.length*72<=70368744177664/\Rel L n (.list .entry [125]) ((p+1,none):PSt) (N.bag ks) (Qr L [125] s')/\H'=H.set i (rst R.tr z L s'.2)++(XX ks++X):=⟨_,rfl⟩;refine Qm 1 E (λ_ _=>False) ?_ (λ_ _ h=>h.elim) ?_;rotate_left
   .intro fr H' h;subst hE0;obtain⟨ks,s',X,⟨f0,f1,f4,f6,f11⟩,hlt,hb,hkb,hr,rfl⟩:=h;have g2:=λX=>hR.wantA (z:=z) (s:=s') (X:=X) hi hlt hb [125];generalize Qr L [125] s'=s2 at g2 hr;simp[f0,f6];refine Qa (g2 _) ?_;have g5:=λH0=>hR.ended.rendedT 26 (p:Int) 0 [] 0 true [] (s2.1:Int) true (ks.map N.enc) H0 (H.length+3);simp only[ag]at g5;simp[f1,f11,hXl];refine Qa (g5 _ (by simp[hXl];omega)) ?_;subst hXX;simp[f4];simp[RetK,hcc,nl];exact Wq (z':=true) ks rfl (λ_=>rfl) (Qzx (by simp[pp,n3,n4,n1,cI,cG,cR]) hr)
   have hE1:∀fr (ks:List N) (s':PSt) (X:Hp),(fr 0=.ptr i 0/\fr 1=YI p/\fr 4=.ptr H.length 0/\fr 6=YI s'.1/\fr 11=.osl true 6 (ks.map N.enc) (H.length+3))->(s'.2=none->s'.1<L.length)->s'.1<=1125899906842624->ks.length*72<=70368744177664->Rel L n (.list .entry [125]) ((p+1,none):PSt) (N.bag ks) (Qr L [125] s')->E fr (H.set i (rst R.tr z L s'.2)++(XX ks++X)):=λfr ks s' X a b c d e=>by subst hE0;exact⟨ks,s',X,a,b,c,d,e,rfl⟩
   clear hE0;have hF:=lfs (KT:=3) (m0:=4) (m1:=5) (λn=>n) O hi [.box R.tn [YI 0,YI 0,YI 0,YS [],YI 0,YL true 6 []],.box R.tn [YI 0,YI p,YI ((p:Int)+1),YS y,YI p,YL true 6 []],.box R.tt [YI kk,YI ta,YS tl,YS y]] hXX rfl rfl rfl λ_=>rfl;obtain⟨hcut,hcut0,hg0,hgT,hgT1,hgB,hgC,hsT⟩:=hF;have hil2:i<H.length+4:=by omega
   rw[show H.set i (.box R.tr [YL z 4 (L.map Qp),YI (-1)])++[.box R.tn [YI 0,YI 0,YI 0,YS [],YI 0,YL true 6 []],.box R.tn [YI 0,YI p,YI ((p:Int)+1),YS y,YI p,YL true 6 []],.box R.tt [YI kk,YI ta,YS tl,YS y],.tok 0 6 R.tn]=H.set i (rst R.tr z L none)++XX [] by rw[hXX];rfl];refine Q4 (H.length+4) (λd fr H'=>∃(ks:List N)(s':PSt),(fr 0=.ptr i 0/\fr 1=YI p/\fr 4=.ptr H.length 0/\fr 6=YI s'.1/\fr 11=.osl true 6 (ks.map N.enc) (H.length+3))/\H'=H.set i (rst R.tr z L s'.2)++XX ks/\
    ((d=0/\s'.2≠none/\s'.1<=1125899906842624/\ks.length*72<=70368744177664/\∀m,Rel L n (.list .entry [125]) ((p+1,none):PSt) m s')\/∃p1,s'=(p1,none)/\((p+1,none):PSt).2=none/\d<=n/\pp L n (.list .entry [125]) ((p+1,none):PSt).1=pp L d (LG .entry [125] ks) p1/\p1<L.length/\16*(L.length-p1)+9<=d/\ks.length<=p1)) (match((p+1,none):PSt).2 with|none=>n|some _=>0) (by simp[hXl]) ⟨[],((p+1,none):PSt),?_⟩ ?_
   .refine⟨by simp[hil2,id],hcut0 _ _,?_⟩;cases h0:((p+1,none):PSt).2 with
    |some q=>first|exact absurd h0 (by simp;done)|exact .inl ⟨rfl,by simp[h0],by omega,by simp,λm=>by simp[Rel,h0,G.wt]⟩
    |none=>exact .inr ⟨((p+1,none):PSt).1,by rw[<-h0],rfl,Q14 _,by simp[LG],hs0l h0,by have:=hs0c h0;omega,by simp⟩
   .rintro d fr H' ⟨ks,s',⟨f0,f1,f4,f6,f11⟩,rfl,hd⟩;rcases hd with⟨rfl,q1,qb,qk,q2⟩|⟨p1,rfl,hs2,hdn,hpe,hp1',hrk,hks⟩
    .obtain⟨p',st'⟩:=s';cases st' with
     |none=>simp at q1
     |some q=>
      have hg1:=hg0 (some q);have hq:¬(q:Int)<0:=by omega
      have hE2:=λfr h=>hE1 fr ks (p',some q) [] h (λe=>by cases e) qb qk (q2 _);simp only[rst,Q2k]at hg1 hE2;simp[f0,f6,rst,hg1,hq];exact hE2 _ (by simp[f0,f1,f4,f6,f11,hXl])
    .have hRel:∀m s',(match pp L d (LG .entry [125] ks) p1 with|.out=>False|.bad q=>s'.2=some q/\s'.1<=L.length+n|.ok m' k=>m=m'/\s'=(k,none))->Rel L n (.list .entry [125]) ((p+1,none):PSt) m s':=λm s' h=>by unfold Rel;rw[hs2];simp only;rw[hpe];exact h
     have hg1:=hg0 none;have gi:=λX=>hR.isA (z:=z) (st:=none) (X:=X) hi hp1' [125];by_cases hend:ks=[]/\isT L p1 [125]=true
     .obtain⟨rfl,hjb⟩:=hend;obtain⟨d',rfl⟩:∃d',d=d'+1:=⟨d-1,by omega⟩;have hE2:=λfr h=>hE1 fr [] (p1,none) [] h (λ_=>hp1') (by simp only;omega) (by simp) (hRel _ _ (by simp[LG,pp,hjb,N.bag,N.new]));rw[hjb]at gi;simp only[rst,Q2k]at hg1 gi hE2;simp[f0,f6,f11,rst,hg1];refine Qa (gi _) ?_;simp;exact hE2 _ (by simp[f0,f1,f4,f6,f11,hXl])
     .have hje:ks=[]->isT L p1 [125]=false:=λe=>by
       cases h:isT L p1 [125]with
       |false=>rfl
       |true=>exact absurd ⟨e,h⟩ hend
      obtain⟨M,hM⟩:∃M:Fr->Hp->Prop,M=λfr H'=>(fr 0=.ptr i 0/\fr 1=YI p/\fr 4=.ptr H.length 0/\fr 6=YI (((p1,none):PSt).1:Int)/\fr 11=.osl true 6 (ks.map N.enc) (H.length+3))/\H'=H.set i (rst R.tr z L none)++XX ks:=⟨_,rfl⟩;have hM1:∀fr,(fr 0=.ptr i 0/\fr 1=YI p/\fr 4=.ptr H.length 0/\fr 6=YI (((p1,none):PSt).1:Int)/\fr 11=.osl true 6 (ks.map N.enc) (H.length+3))->M fr (H.set i (rst R.tr z L none)++XX ks):=λfr h=>by subst hM;exact⟨h,rfl⟩
      refine Qlc M ?_ ?_
      .clear hM;simp only[rst]at hg1 gi hM1;rcases Q4i ks with hk0|⟨kk,kx,hk0⟩
       .rw[hje hk0]at gi;simp[f0,f6,f11,rst,hg1,hk0];refine Qa (gi _) ?_;rw[<-hk0];simp[f0,f6];exact hM1 _ (by simp[f0,f1,f4,f6,f11,hXl])
       .have hkn:¬ks=[]:=λe=>by rw[e]at hk0;simp at hk0
        simp[f0,f6,f11,rst,hg1,hkn];exact hM1 _ (by simp[f0,f1,f4,f6,f11,hXl])
      .intro fr H' h;subst hM;obtain⟨⟨f0,f1,f4,f6,f11⟩,rfl⟩:=h;have hstep:=Qi2 (L:=L) (d:=d) (one:=.entry) (e:=[125]) (ks:=ks) (p:=p1) (by omega) hje;obtain⟨m,hm1,hm2,hpp2⟩:=hstep;obtain⟨m',rfl⟩:∃m',m=m'+1:=⟨m-1,by omega⟩;have gw:=λX=>hR.wordA (z:=z) (s:=(p1,none)) (X:=X) hi (λ_=>hp1') (by simp only;omega) 27 p1 0 [] 0 true [];have hrp:=λt s3=>Qwr (L:=L) hE (n:=m') (p:=p1) (t:=t) (s3:=s3) (by omega) hp1';generalize h2:W7 L (p1,none)=s2 at gw hrp;have b2:=Vc h2;have m2:=Qat hE h2;have hlt2:=m2.lt (λ_=>hp1');simp only at gw b2;have gv:=λX=>hR.wantA (z:=z) (s:=s2) (X:=X) hi hlt2 (by omega) [58];generalize h2v:Qr L [58] s2=s2v at gv hrp;have b2:=Q3d (W8 h2v) (Nat.succ_le_succ b2);have m2:=m2.trans (V0 hE h2v);have hlt2:=m2.lt (λ_=>hp1');simp only[rst]at gv;have gt:=λX=>hS m' (by omega) H X i s2v hi ⟨⟨by simp only[G.c];omega,by simp only[G.c];omega,λe=>by obtain⟨a1,a2,a3⟩:=m2 e;have:=hlt2 e;simp only at a2;simp only[G.c];exact⟨by omega,by omega⟩⟩,hlt2⟩
       generalize(if Q0 L (p1,none)=true then txT L p1 else[])=W at gw hrp;generalize(if Q0 L (p1,none)=true then(p1:Int)else 0)=Q at gw hrp;simp only[rst,ag]at hg1 gw gt;simp[f0,f6,rst];refine Qa (gw _) ?_;simp[f0];refine Qa (gv _) ?_;simp[f0];refine Qf (gt _) ?_;rintro _ _ ⟨t,s3,rfl,rfl,r3⟩;obtain⟨kt,ft,tt',wt',qt,zt,kst,hft,het,hvt,hbt⟩:=Wo R.tn t;rw[hvt];obtain⟨bo,hbo⟩:∃bo:Ob,bo=.box R.tn [YI 27,YI p1,YI 0,YS W,YI Q,YL true 6 []]:=⟨_,rfl⟩;obtain⟨co,hco⟩:∃co:Ob,co=.box R.tn [YI kt,YI ft,YI tt',YS wt',YI qt,YL zt 6 (kst.map N.enc)]:=⟨_,rfl⟩;have hB:=λX=>hgB ks bo X;have hC:=λX=>hgC ks bo co X;rw[hbo]at hB;rw[hbo,hco]at hC;have hT:=hgT ks;have hT1:=hgT1 ks;have g5:=λH0=>hR.ended.rended 27 p1 0 W Q true [] (s3.1:Int) false [t.enc] H0;rw[het]at g5;simp only[ag]at g5;simp[f0,f11,hXl,hB,hC];refine Qa (g5 _) ?_;have hs3b:s3.1<=L.length+(m'+1):=by have:=r3.bnd (B:=L.length+(m'+1)) (by omega) (by omega);omega
       obtain⟨x,hx⟩:∃x:N,x=N.new 27 p1 s3.1 W Q [t]:=⟨_,rfl⟩;have hrx:Rel L (m'+1) .entry (p1,none) x s3:=by rw[hx];exact hrp t s3 r3 hs3b
       have hs1:=hsT ks x;have hbd:(ks.length+1)*72<=140737488355328:=by omega
       have hmap:ks.map N.enc++[[.int .i64 27,.int .i64 (p1:Int),.int .i64 (s3.1:Int),.str W,.int .i64 Q,.sl false 6 [[.int .i64 kt,.int .i64 ft,.int .i64 tt',.str wt',.int .i64 qt,.sl zt 6 (kst.map N.enc)]]]]=(ks++[x]).map N.enc:=by rw[Q28,hx];simp[N.new,N.enc_mk,het]
       clear hrp hx r3 g5 gt gw;simp[f0,f11,hXl,hT,hT1,appA,slOf,hbd,hs1,hmap];obtain⟨p3,st3⟩:=s3;simp only at hs3b;cases st3 with
       |some q=>
        have hg2:=hg0 (some q);have hq':(0:Int)<=q:=by omega
        have hbad:pp L (m'+1) .entry p1=.bad q:=by
         rcases hrx.none' with⟨q',a,e,e2,e3⟩|⟨k,e,e2⟩
         .simp only[prdI,somI]at e2;rw[e,e2.2]
         .simp at e2
        have hE2:=λfr X h=>hE1 fr (ks++[x]) (p3,some q) X h (λe=>by cases e) (by simp only;omega) (by simp;omega) (hRel _ _ (by rw[hpp2,hbad];simp[PR.then];omega));simp only[rst]at hg2 hE2;simp[f0,rst,hg2,hq'];exact hE2 _ _ (by simp[f0,f1,f4,hXl])
       |none=>
        have hok:pp L (m'+1) .entry p1=.ok x p3:=by
         rcases hrx.none' with⟨q',a,e,e2,e3⟩|⟨k,e,e2⟩
         .simp at e2
         .simp only[prdI]at e2;rw[e,e2.1]
        have hadv:=Yr hE (m'+1) .entry p1;rw[hok]at hadv;obtain⟨v1,v2,v3⟩:=hadv;have v2:=v2 rfl;have v3:=v3 v2;have gi3:=λX=>hR.isA (z:=z) (st:=none) (X:=X) hi v3 [125];have gw3:=λX=>hR.wantA (z:=z) (s:=(p3,none)) (X:=X) hi (λ_=>v3) (by simp only;omega) [44];have hg2:=hg0 none;cases hc:isT L p3 [125]with
        |true=>have hE2:=λfr X h=>hE1 fr (ks++[x]) (p3,none) X h (λ_=>v3) (by simp only;omega) (by simp;omega) (hRel _ _ (by rw[hpp2,hok];simp[PR.then,hc,N.bag,N.new]));rw[hc]at gi3;simp only[rst]at hg2 gi3 hE2;simp[f0,rst,hg2];refine Qa (gi3 _) ?_;simp;exact hE2 _ _ (by simp[f0,f1,f4,hXl])
        |false=>
         rw[hc]at gi3;have hstp:=hpp2;rw[hok]at hstp;simp only[PR.then,hc,Qv]at hstp;by_cases hcm:isT L p3 [44]=true
         .have hl4:=Q6 hE hcm;simp only[Qq,hcm,if_true]at gw3;simp only[rst]at hg2 gi3 gw3;simp[f0,rst,hg2];refine Qa (gi3 _) ?_;simp[f0];refine Qa (gw3 _) ?_;simp;refine Qg (H.length+4) (m'+1) (Q14 _) (by simp[hXl]) (by omega) ⟨ks++[x],(p3+1,none),by simp[f0,f1,f4,hil2],by simpa[rst]using hcut (ks++[x]) none _,.inr ⟨p3+1,rfl,hs2,by omega,?_,hl4,by omega,by simp;omega⟩⟩;rw[hpe,hstp,hcm,Qgo];simp
         .have hcm':isT L p3 [44]=false:=by simpa using hcm
          simp only[Qq,hcm',Q2c,if_false]at gw3;simp only[rst]at hg2 gi3 gw3;simp[f0,rst,hg2];refine Qa (gi3 _) ?_;simp[f0];refine Qa (gw3 _) ?_;simp;refine Qg (H.length+4) 0 (Q14 _) (by simp[hXl]) (by omega) ⟨ks++[x],(p3,some p3),by simp[f0,f1,f4,hil2],by simpa[rst]using hcut (ks++[x]) (some p3) _,.inl ⟨rfl,by simp,by simp only;omega,by simp;omega,λmm=>hRel _ _ ?_⟩⟩;rw[hstp,hcm'];simp[PR.then];omega
  have cR:isT L p [123]=false:=by simpa using cR
  have g1:=λX=>hR.wantA (z:=z) (s:=(p,none)) (X:=X) hi (λ_=>hp) (by simp only;omega) kFn;have m1:=V0 hE (rfl:Qr L kFn (p,none)=_);have b1:=W8 (rfl:Qr L kFn (p,none)=_);have hrel0:=λt1 t2 t3 s2=>Q0v hE (n:=n) (p:=p) (t1:=t1) (t2:=t2) (t3:=t3) (s2:=s2) hp (by omega) (by simp[pp,n3,n4,n1,cI,cG,cR]) rfl;have q1:(Qr L kFn (p,none)).2=none->(Qr L kFn (p,none)).1=p+1:=by rw[Qq];split<;>simp
  generalize Qr L kFn (p,none)=s1 at g1 m1 b1 hrel0 q1;have hl1:=m1.lt (λ_=>hp);simp only[rst]at g1;simp[Zp,rst,hg1,hr,hw,k1,k3,k4];refine Qa (gi Zf _) ?_;simp[cI];refine Qa (gi [40] _) ?_;simp[cG];refine Qa (gi [123] _) ?_;simp[cR];refine Qa (g1 _) ?_;simp;have gl:=λX=>hR.lambda' (z:=z) (X:=X) (s:=s1) hE hL n hn hPa hTy hBl hi (by simp only at b1;omega) (by omega) (λe=>by obtain⟨a1,a2,a3⟩:=m1 e;have:=hl1 e;have:=q1 e;exact⟨by omega,by omega⟩);simp only[rst]at gl;refine Qf (gl _) ?_;rintro _ _ ⟨t1,t2,t3,s2,rfl,rfl,r2⟩;have hrel0:=hrel0 t1 t2 t3 s2 r2;have g5:=λH0=>hR.ended.rended 28 p 0 [] 0 true [] (s2.1:Int) false [t1.enc,t2.enc,t3.enc] H0;simp only[ag]at g5;have hc2:=λX=>hcc s2.2 X;simp only[rst]at hc2;simp;refine Qa (g5 _) ?_;simp;simp[RetK,hc2,nl];have hrel:=Wq (tr:=R.tr) (z:=z) (H:=H) (i:=i) (z':=false) [t1,t2,t3] (rows:=[t1.enc,t2.enc,t3.enc]) (by simp) (by simp) hrel0;simpa[rst]using hrel
end
end
section
section
variable{P:Program}{R:RF}{z:Bool}{L:List Tk}
def RHas.post'(hR:RHas P R)(hx:HasT P [10,56] R.post (Qh3 R.atom R.is R.word R.ended R.expr R.want R.tn))(hE:Wz L)(hL:L.length<=1048576)(n:Nat)(hn:n<=1099511627776)(hA0:UR P R.tr z L n .atom R.atom)(hS:∀m,m<n+1->UR P R.tr z L m .expr R.expr):UR P R.tr z L (n+1) .post R.post:=by
 refine Qiz λH i s hi hpp=>?_;refine Qe hx (by simp[Qh3]) λO _=>?_;have hp1:=hpp.1.1;simp only[G.c]at hp1;simp[Qh3];refine Qf (hA0 H _ i s hi ((MoE.refl s).pre hpp (by decide) (by simp only[G.c];omega))) ?_;rintro _ _ ⟨a0,s1,rfl,rfl,r1⟩;have b1:=r1.le;have m1:=r1.moE hE;obtain⟨OX,hOX⟩:∃OX:N->Hp,OX=λa=>[zbx R.tn,abx R.tn a]:=⟨_,rfl⟩;have hOl:∀a,(OX a).length=2:=λa=>by rw[hOX];rfl
 obtain⟨E,hE0⟩:∃E:Fr->Hp->Prop,E=λfr H'=>∃a s',(fr 0=.ptr i 0/\fr 4=.ptr H.length 0/\fr 6=.ptr (H.length+1) 0/\fr 7=YI s'.1)/\Rel L (n+1) .post s a s'/\∃Y,H'=H.set i (rst R.tr z L s'.2)++(OX a++Y):=⟨_,rfl⟩;have hE1:∀fr a s',(fr 0=.ptr i 0/\fr 4=.ptr H.length 0/\fr 6=.ptr (H.length+1) 0/\fr 7=YI s'.1)->Rel L (n+1) .post s a s'->E fr (H.set i (rst R.tr z L s'.2)++OX a):=λfr a s' h h'=>by subst hE0;exact⟨a,s',h,h',[],by simp⟩
 obtain⟨k,f,t,w,q,za,ks,hf0,he,hv,hb⟩:=Wo R.tn a0;rw[hv];simp;rw[show H.set i (rst R.tr z L s1.2)++[Ob.box R.tn [YI 0,YI 0,YI 0,YS [],YI 0,YL true 6 []],.box R.tn [YI k,YI f,YI t,YS w,YI q,YL za 6 (ks.map N.enc)]]=H.set i (rst R.tr z L s1.2)++OX a0 by rw[hOX,<-hb];rfl];refine Qm 0 E (λ_ _=>False) ?_ (λ_ _ h=>h.elim) ?_;rotate_left
 .intro fr H' h;subst hE0;obtain⟨a,s',⟨f0,f4,f6,f7⟩,hr,Y,rfl⟩:=h;obtain⟨k,f,t,w,q,za,ks,-,-,hv,hb⟩:=Wo R.tn a;subst hOX;simp[f0,f4,f6,f7,hb,zbx];simp[RetK,rcut O];exact⟨a,s',by rw[hv],by simp,hr⟩
 clear hE0;have hcutO:∀a st' X,Hp.cut (H.length+2) (H.set i (rst R.tr z L st')++(OX a++X))=H.set i (rst R.tr z L st')++OX a:=λa st' X=>by rw[rcutk O,hOX];change H.set i (rst R.tr z L st')++[(zbx R.tn).clr _,(abx R.tn a).clr _]=_;rw[Qgn];rfl
 have hcutO0:∀a st',Hp.cut (H.length+2) (H.set i (rst R.tr z L st')++OX a)=H.set i (rst R.tr z L st')++OX a:=λa st'=>by simpa using hcutO a st' []
 have hgO:∀st X,(H.set i (rst R.tr z L st)++X)[i]?=some (rst R.tr z L st):=λst X=>upG hi;have hset:∀a a' X,(OX a++X).set 1 (abx R.tn a')=OX a'++X:=λa a' X=>by rw[hOX];simp
 have hgA:∀a X,(OX a++X)[1]?=some (abx R.tn a):=λa X=>by rw[hOX];simp
 have hgB:∀a b X,(OX a++b::X)[2]?=some b:=λa b X=>by rw[hOX];simp
 refine Q4 (H.length+2) (λd fr H'=>∃a s',(fr 0=.ptr i 0/\fr 4=.ptr H.length 0/\fr 6=.ptr (H.length+1) 0/\fr 7=YI s'.1)/\H'=H.set i (rst R.tr z L s'.2)++OX a/\
  ((d=0/\s'.2≠none/\∀m,Rel L (n+1) .post s m s')\/∃o1,s'=(o1,none)/\s.2=none/\d<=n/\pp L (n+1) .post s.1=pp L d (.postL a) o1/\o1<L.length/\16*(L.length-o1)+1<=d)) (match s1.2 with|none=>n|some _=>0) (by simp[hOl]) ⟨a0,s1,?_⟩ ?_
 .have hil2:i<H.length+2:=by omega
  refine⟨by simp[hil2],hcutO0 _ _,?_⟩;obtain⟨p,st⟩:=s;cases st with
  |some q=>obtain⟨b,rfl,e⟩:=r1.some';simp only[G.wt]at e;exact .inl ⟨rfl,by simp,λm=>by simp[Rel,G.wt];omega⟩
  |none=>
   obtain⟨hp2,hp3⟩:=hpp.1.2.2 rfl;simp only[G.c]at hp2 hp3;have hpl:=hpp.2 rfl;rcases r1.none' with⟨q',b,hq,rfl,e3⟩|⟨j,hj,rfl⟩
   .exact .inl ⟨rfl,by simp,λm=>by simp[Rel,pp,hq,PR.then];omega⟩
   .have:=Yr hE n .atom p;rw[hj]at this;obtain⟨v1,v2,v3⟩:=this;have v2:=v2 rfl;have v3:=v3 v2;exact .inr ⟨j,rfl,rfl,by simp,by simp[pp,hj,PR.then],v3,by(try simp only at hp3⊢);omega⟩
 .rintro d fr H' ⟨a,s',⟨f0,f4,f6,f7⟩,rfl,hd⟩;have hil2O:i<H.length+2:=by omega
  rcases hd with⟨rfl,q1,q2⟩|⟨o1,rfl,hsn,hdn,hpeO,ho1,hrk⟩
  .obtain⟨p',st'⟩:=s';cases st' with
   |none=>simp at q1
   |some q=>
    have hg1:=hgO (some q);have hq:¬(q:Int)<0:=by omega
    have hE2:=λfr h=>hE1 fr a (p',some q) h (q2 _);simp only[rst]at hg1 hE2;simp[f0,f7,rst,hg1,hq];exact hE2 _ (by simp[f0,f4,f6,f7])
  .obtain⟨d',rfl⟩:∃d',d=d'+1:=⟨d-1,by omega⟩;have hRelO:∀m s',(match pp L (d'+1) (.postL a) o1 with|.out=>False|.bad q=>s'.2=some q/\s'.1<=L.length+(n+1)|.ok m' k=>m=m'/\s'=(k,none))->Rel L (n+1) .post s m s':=λm s' h=>by unfold Rel;rw[hsn];simp only;rw[hpeO];exact h
   have hg1:=hgO none;have gi:=λX=>hR.isA (z:=z) (st:=none) (X:=X) hi ho1 [46];have gi2:=λX=>hR.isA (z:=z) (st:=none) (X:=X) hi ho1 [40];have hw:IntKind.i64.wrap ((o1:Int)+1)=((o1+1:Nat):Int):=by rw[wi64 (by omega)];omega
   simp only[rst]at hg1 gi gi2;obtain⟨k,f,t,w,q,za,kse,hf,he,hv,hb⟩:=Wo R.tn a;have hA:=hgA a;rw[hb]at hA;have hA1:∀h,(OX a)[1]'h=.box R.tn [YI k,YI f,YI t,YS w,YI q,YL za 6 (kse.map N.enc)]:=λh=>by rw[<-hb];simp[hOX]
   cases hjb:isT L o1 [46]with
   |true=>
    have l1:=Q6 hE hjb;rw[hjb]at gi;have gW:=λX=>hR.wordA (z:=z) (s:=(o1+1,none)) (X:=X) hi (λ_=>l1) (by simp only;omega) 19 f 0 [] 0 true [];simp only[rst,ag]at gW;have b2:=Vc (rfl:W7 L (o1+1,none)=_);have hsw:(∃q',W7 L (o1+1,none)=(o1+1,some q')/\pp L (d'+1) (.postL a) o1=.bad q')\/(W7 L (o1+1,none)=(o1+1+1,none)/\o1+1+1<L.length/\pp L (d'+1) (.postL a) o1=pp L d' (.postL (N.new 19 a.f ((o1+1+1:Nat):Int) (if Q0 L (o1+1,none)then txT L (o1+1)else[]) (if Q0 L (o1+1,none)then((o1+1:Nat):Int)else 0) [a])) (o1+1+1)):=by
     by_cases c:kdT L (o1+1)=1
     .exact .inr ⟨by simp[c],Z5 hE (by omega),by simp[pp,hjb,Yn,c]⟩
     .exact .inl ⟨o1+1,by simp[c],by simp[pp,hjb,Yn,c]⟩
    generalize W7 L (o1+1,none)=s2 at gW b2 hsw;generalize(if Q0 L (o1+1,none)=true then txT L (o1+1)else[])=W at gW hsw;generalize(if Q0 L (o1+1,none)=true then((o1+1:Nat):Int)else 0)=Q at gW hsw;simp only at b2;have g5:=hR.ended.rended 19 f 0 W Q true [] (s2.1:Int) false [[.int .i64 k,.int .i64 f,.int .i64 t,.str w,.int .i64 q,.sl za 6 (kse.map N.enc)]];simp only[ag]at g5;obtain⟨bo,hbo⟩:∃bo:Ob,bo=.box R.tn [YI 19,YI f,YI 0,YS W,YI Q,YL true 6 []]:=⟨_,rfl⟩;have hB:=λX=>hgB a bo X;rw[hbo]at hB;simp[f0,f7,rst,hg1];refine Qa (gi _) ?_;simp[f0,f7];refine Qa (gi _) ?_;simp[f0,f6,f7,hw,hA,hA1,hOl];refine Qa (gW _) ?_;simp[f6,hA,hA1,hOl,hB];refine Qa (g5 _) ?_;have hnew:abx R.tn (N.new 19 a.f s2.1 W Q [a])=.box R.tn [YI 19,YI f,YI s2.1,YS W,YI Q,YL false 6 [[.int .i64 k,.int .i64 f,.int .i64 t,.str w,.int .i64 q,.sl za 6 (kse.map N.enc)]]]:=by rw[abx,N.new,N.enc_mk];simp[he,hf]
    have hs1:=λY=>hset a (N.new 19 a.f s2.1 W Q [a]) Y;rw[hnew]at hs1;simp[f6,hOl,hA,hA1,hs1];rcases hsw with⟨q',rfl,hq⟩|⟨rfl,l2,hq⟩
    .refine Qg (H.length+2) 0 (Q14 _) (by simp[hOl]) (by omega) ⟨_,(o1+1,some q'),by simp[f0,f4,f6,hil2O],by simpa[rst]using hcutO (N.new 19 a.f ((o1+1:Nat):Int) W Q [a]) (some q') _,.inl ⟨rfl,by simp,λm=>hRelO _ _ ?_⟩⟩;rw[hq];simp;omega
    .refine Qg (H.length+2) d' (Q14 _) (by simp[hOl]) (by omega) ⟨_,(o1+1+1,none),by simp[f0,f4,f6,hil2O],by simpa[rst]using hcutO (N.new 19 a.f ((o1+1+1:Nat):Int) W Q [a]) none _,.inr ⟨o1+1+1,rfl,hsn,by omega,?_,l2,by omega⟩⟩;rw[hpeO,hq];simp
   |false=>
    rw[hjb]at gi;cases hjc:isT L o1 [40]with
    |false=>rw[hjc]at gi2;have hE2:=λfr h=>hE1 fr a (o1,none) h (hRelO _ _ (by simp[pp,hjb,hjc]));simp only[rst]at hE2;simp[f0,f7,rst,hg1];refine Qa (gi _) ?_;simp[f0,f7];refine Qa (gi2 _) ?_;simp;exact hE2 _ (by simp[f0,f4,f6,f7])
    |true=>
     rw[hjc]at gi2;have l1:=Q6 hE hjc;simp[f0,f7,rst,hg1];refine Qa (gi _) ?_;simp[f0,f7];refine Qa (gi2 _) ?_;simp[f0,f7];refine Qa (gi _) ?_;simp[f6,f7,hw,hA,hA1,hOl];have hs0l:(((o1+1,none):PSt)).2=none->((o1+1,none):PSt).1<L.length:=λ_=>l1;have hs0c:((o1+1,none):PSt).2=none->16*(L.length-((o1+1,none):PSt).1)+9<=d':=λ_=>by simp only;omega
     obtain⟨XX,hXX⟩:∃XX:List N->Hp,XX=λks=>[zbx R.tn,.box R.tn [YI k,YI f,YI t,YS w,YI q,YL za 6 (kse.map N.enc)],.tok (ks.length+1) 6 R.tn]:=⟨_,rfl⟩;have hXl:∀a,(XX a).length=3:=λa=>by rw[hXX];rfl
     obtain⟨E,hE0⟩:∃E:Fr->Hp->Prop,E=λfr H'=>∃(ks:List N)(s':PSt)(X:Hp),(fr 0=.ptr i 0/\fr 4=.ptr H.length 0/\fr 6=.ptr (H.length+1) 0/\fr 7=YI s'.1/\fr 10=.osl false 6 ([.int .i64 k,.int .i64 f,.int .i64 t,.str w,.int .i64 q,.sl za 6 (kse.map N.enc)]::ks.map N.enc) (H.length+2))/\(s'.2=none->s'.1<L.length)/\s'.1<=1125899906842624/\ks.length*72<=70368744177664/\Rel L d' (.list .expr [41]) ((o1+1,none):PSt) (N.bag ks) (Qr L [41] s')/\H'=H.set i (rst R.tr z L s'.2)++(XX ks++X):=⟨_,rfl⟩;refine Qm 2 E (λ_ _=>False) ?_ (λ_ _ h=>h.elim) ?_;rotate_left
     .intro fr H' h;subst hE0;obtain⟨ks,s',X,⟨f0,f4,f6,f7,f10⟩,hlt,hb,hkb,hr,rfl⟩:=h;have b2:=hr.bnd (B:=L.length+d'+3) (by simp only;omega) (by omega);have g2:=λX=>hR.wantA (z:=z) (s:=s') (X:=X) hi hlt hb [41];generalize Qr L [41] s'=s2 at g2 hr b2;have g5:=λH0=>hR.ended.rendedT 20 f 0 [] 0 true [] (s2.1:Int) false ([.int .i64 k,.int .i64 f,.int .i64 t,.str w,.int .i64 q,.sl za 6 (kse.map N.enc)]::ks.map N.enc) H0 (H.length+2);simp only[ag]at g5;subst hXX;simp[f0,f7];refine Qa (g2 _) ?_;simp[f6,f10];refine Qa (g5 _ (by simp)) ?_;simp[f6];have hfin:Hp.cut (H.length+2) (H.set i (rst R.tr z L s2.2)++zbx R.tn::.box R.tn [YI 20,YI f,YI s2.1,YS [],YI 0,.osl false 6 ([.int .i64 k,.int .i64 f,.int .i64 t,.str w,.int .i64 q,.sl za 6 (kse.map N.enc)]::ks.map N.enc) (H.length+2)]::.tok (ks.length+1) 6 R.tn::X)=H.set i (rst R.tr z L s2.2)++OX (N.new 20 a.f s2.1 [] 0 (a::ks)):=by rw[rcutk O,hOX];simp[abx,N.new,N.enc_mk,he,hf,zbx]
      rcases hr.none' with⟨q',b',hq,rfl,e3⟩|⟨j,hj,rfl⟩
      .refine Qg (H.length+2) 0 (Q14 _) (by simp) (by omega) ⟨N.new 20 a.f b' [] 0 (a::ks),(b',some q'),by simp[f0,f4,f6,hil2O],hfin,.inl ⟨rfl,by simp,λm=>hRelO _ _ ?_⟩⟩;simp[pp,hjb,hjc,hq,PR.then];omega
      .have:=Yr hE d' (.list .expr [41]) (o1+1);rw[hj]at this;obtain⟨v1,v2,v3⟩:=this;have v2:=v2 rfl;have v3:=v3 v2;refine Qg (H.length+2) d' (Q14 _) (by simp) (by omega) ⟨N.new 20 a.f j [] 0 (a::ks),(j,none),by simp[f0,f4,f6,hil2O],hfin,.inr ⟨j,rfl,hsn,by omega,?_,v3,by omega⟩⟩;rw[hpeO];simp[pp,hjb,hjc,hj,PR.then,N.bag,N.new,N.ks]
     have hE1:∀fr (ks:List N) (s':PSt) (X:Hp),(fr 0=.ptr i 0/\fr 4=.ptr H.length 0/\fr 6=.ptr (H.length+1) 0/\fr 7=YI s'.1/\fr 10=.osl false 6 ([.int .i64 k,.int .i64 f,.int .i64 t,.str w,.int .i64 q,.sl za 6 (kse.map N.enc)]::ks.map N.enc) (H.length+2))->(s'.2=none->s'.1<L.length)->s'.1<=1125899906842624->ks.length*72<=70368744177664->Rel L d' (.list .expr [41]) ((o1+1,none):PSt) (N.bag ks) (Qr L [41] s')->E fr (H.set i (rst R.tr z L s'.2)++(XX ks++X)):=λfr ks s' X a b c d e=>by subst hE0;exact⟨ks,s',X,a,b,c,d,e,rfl⟩
     clear hE0;have hF:=lfs (KT:=2) (m0:=3) (m1:=4) (λn=>n+1) O hi [zbx R.tn,.box R.tn [YI k,YI f,YI t,YS w,YI q,YL za 6 (kse.map N.enc)]] hXX rfl rfl rfl λ_=>rfl;obtain⟨hcut,hcut0,hg0,hgT,hgT1,hgB,hgC,hsT⟩:=hF;have hil2:i<H.length+3:=by omega
     rw[show H.set i (.box R.tr [YL z 4 (L.map Qp),YI (-1)])++(OX a++[.tok 1 6 R.tn])=H.set i (rst R.tr z L none)++XX [] by rw[hXX,hOX];simp[hb,rst]];refine Q4 (H.length+3) (λd fr H'=>∃(ks:List N)(s':PSt),(fr 0=.ptr i 0/\fr 4=.ptr H.length 0/\fr 6=.ptr (H.length+1) 0/\fr 7=YI s'.1/\fr 10=.osl false 6 ([.int .i64 k,.int .i64 f,.int .i64 t,.str w,.int .i64 q,.sl za 6 (kse.map N.enc)]::ks.map N.enc) (H.length+2))/\H'=H.set i (rst R.tr z L s'.2)++XX ks/\
      ((d=0/\s'.2≠none/\s'.1<=1125899906842624/\ks.length*72<=70368744177664/\∀m,Rel L d' (.list .expr [41]) ((o1+1,none):PSt) m s')\/∃p1,s'=(p1,none)/\((o1+1,none):PSt).2=none/\d<=d'/\pp L d' (.list .expr [41]) ((o1+1,none):PSt).1=pp L d (LG .expr [41] ks) p1/\p1<L.length/\16*(L.length-p1)+9<=d/\ks.length<=p1)) (match((o1+1,none):PSt).2 with|none=>d'|some _=>0) (by simp[hXl]) ⟨[],((o1+1,none):PSt),?_⟩ ?_
     .refine⟨by simp[hil2,f0,f4,f6],hcut0 _ _,?_⟩;cases h0:((o1+1,none):PSt).2 with
      |some q=>first|exact absurd h0 (by simp;done)|exact .inl ⟨rfl,by simp[h0],by omega,by simp,λm=>by simp[Rel,h0,G.wt]⟩
      |none=>exact .inr ⟨((o1+1,none):PSt).1,by rw[<-h0],rfl,Q14 _,by simp[LG],hs0l h0,by have:=hs0c h0;omega,by simp⟩
     .rintro d fr H' ⟨ks,s',⟨f0,f4,f6,f7,f10⟩,rfl,hd⟩;rcases hd with⟨rfl,q1,qb,qk,q2⟩|⟨p1,rfl,hs2,hdn,hpe,hp1',hrk,hks⟩
      .obtain⟨p',st'⟩:=s';cases st' with
       |none=>simp at q1
       |some q=>
        have hg1:=hg0 (some q);have hq:¬(q:Int)<0:=by omega
        have hE2:=λfr h=>hE1 fr ks (p',some q) [] h (λe=>by cases e) qb qk (q2 _);simp only[rst,Q2k]at hg1 hE2;simp[f0,f7,rst,hg1,hq];exact hE2 _ (by simp[f0,f4,f6,f7,f10,hXl])
      .have hRel:∀m s',(match pp L d (LG .expr [41] ks) p1 with|.out=>False|.bad q=>s'.2=some q/\s'.1<=L.length+d'|.ok m' k=>m=m'/\s'=(k,none))->Rel L d' (.list .expr [41]) ((o1+1,none):PSt) m s':=λm s' h=>by unfold Rel;rw[hs2];simp only;rw[hpe];exact h
       have hg1:=hg0 none;have gi:=λX=>hR.isA (z:=z) (st:=none) (X:=X) hi hp1' [41];by_cases hend:ks=[]/\isT L p1 [41]=true
       .obtain⟨rfl,hjb⟩:=hend;obtain⟨d',rfl⟩:∃d',d=d'+1:=⟨d-1,by omega⟩;have hE2:=λfr h=>hE1 fr [] (p1,none) [] h (λ_=>hp1') (by simp only;omega) (by simp) (hRel _ _ (by simp[LG,pp,hjb,N.bag,N.new]));rw[hjb]at gi;simp only[rst,Q2k]at hg1 gi hE2;simp[f0,f7,f10,rst,hg1];refine Qa (gi _) ?_;simp;exact hE2 _ (by simp[f0,f4,f6,f7,f10,hXl])
       .have hje:ks=[]->isT L p1 [41]=false:=λe=>by
         cases h:isT L p1 [41]with
         |false=>rfl
         |true=>exact absurd ⟨e,h⟩ hend
        obtain⟨M,hM⟩:∃M:Fr->Hp->Prop,M=λfr H'=>(fr 0=.ptr i 0/\fr 4=.ptr H.length 0/\fr 6=.ptr (H.length+1) 0/\fr 7=YI (((p1,none):PSt).1:Int)/\fr 10=.osl false 6 ([.int .i64 k,.int .i64 f,.int .i64 t,.str w,.int .i64 q,.sl za 6 (kse.map N.enc)]::ks.map N.enc) (H.length+2))/\H'=H.set i (rst R.tr z L none)++XX ks:=⟨_,rfl⟩;have hM1:∀fr,(fr 0=.ptr i 0/\fr 4=.ptr H.length 0/\fr 6=.ptr (H.length+1) 0/\fr 7=YI (((p1,none):PSt).1:Int)/\fr 10=.osl false 6 ([.int .i64 k,.int .i64 f,.int .i64 t,.str w,.int .i64 q,.sl za 6 (kse.map N.enc)]::ks.map N.enc) (H.length+2))->M fr (H.set i (rst R.tr z L none)++XX ks):=λfr h=>by subst hM;exact⟨h,rfl⟩
        refine Qlc M ?_ ?_
        .clear hM;simp only[rst]at hg1 gi hM1;rcases Q4i ks with hk0|⟨kk,kx,hk0⟩
         .rw[hje hk0]at gi;simp[f0,f7,f10,rst,hg1,hk0];refine Qa (gi _) ?_;rw[<-hk0];simp[f0,f7];exact hM1 _ (by simp[f0,f4,f6,f7,f10,hXl])
         .have hkn:¬ks=[]:=λe=>by rw[e]at hk0;simp at hk0
          have hk1:¬((ks.length:Int)+1=1):=by
           have:ks.length≠0:=by simpa using hkn
           omega
          simp[f0,f7,f10,rst,hg1,hkn,hk1];exact hM1 _ (by simp[f0,f4,f6,f7,f10,hXl])
        .intro fr H' h;subst hM;obtain⟨⟨f0,f4,f6,f7,f10⟩,rfl⟩:=h;have hstep:=Qi2 (L:=L) (d:=d) (one:=.expr) (e:=[41]) (ks:=ks) (p:=p1) (by omega) hje;obtain⟨m,hm1,hm2,hpp2⟩:=hstep;have gt:=λX=>hS m (by omega) H X i (p1,none) hi ⟨⟨by simp only[G.c];omega,by simp only[G.c];omega,λ_=>⟨by simp only;omega,by simp only[G.c];omega⟩⟩,λ_=>hp1'⟩;simp only[rst]at hg1 gt;simp[f0,f7,rst];refine Qf (gt _) ?_;rintro _ _ ⟨x,s3,rfl,rfl,hrx⟩;obtain⟨kt,ft,tt',wt',qt,zt,kst,hft,het,hvt,hbt⟩:=Wo R.tn x;rw[hvt];obtain⟨bo,hbo⟩:∃bo:Ob,bo=.box R.tn [YI kt,YI ft,YI tt',YS wt',YI qt,YL zt 6 (kst.map N.enc)]:=⟨_,rfl⟩;have hB:=λX=>hgB ks bo X;rw[hbo]at hB;have hT:=hgT ks;have hT1:=hgT1 ks;have hs3b:s3.1<=L.length+d':=hrx.bnd (by simp only;omega) (by omega);have hs1:=hsT ks x;have hbd:(ks.length+2)*72<=140737488355328:=by omega
         have hmap:ks.map N.enc++[[.int .i64 kt,.int .i64 ft,.int .i64 tt',.str wt',.int .i64 qt,.sl zt 6 (kst.map N.enc)]]=(ks++[x]).map N.enc:=by rw[Q28];simp[het]
         clear gt;simp[f10,hXl,hB,hT,hT1,appA,slOf,hbd,hs1,hmap];obtain⟨p3,st3⟩:=s3;simp only at hs3b;cases st3 with
         |some q=>
          have hg2:=hg0 (some q);have hq':(0:Int)<=q:=by omega
          have hbad:pp L m .expr p1=.bad q:=by
           rcases hrx.none' with⟨q',a,e,e2,e3⟩|⟨k,e,e2⟩
           .simp only[prdI,somI]at e2;rw[e,e2.2]
           .simp at e2
          have hE2:=λfr X h=>hE1 fr (ks++[x]) (p3,some q) X h (λe=>by cases e) (by simp only;omega) (by simp;omega) (hRel _ _ (by rw[hpp2,hbad];simp[PR.then];omega));simp only[rst]at hg2 hE2;simp[f0,rst,hg2,hq'];exact hE2 _ _ (by simp[f0,f4,f6,hXl])
         |none=>
          have hok:pp L m .expr p1=.ok x p3:=by
           rcases hrx.none' with⟨q',a,e,e2,e3⟩|⟨k,e,e2⟩
           .simp at e2
           .simp only[prdI]at e2;rw[e,e2.1]
          have hadv:=Yr hE m .expr p1;rw[hok]at hadv;obtain⟨v1,v2,v3⟩:=hadv;have v2:=v2 rfl;have v3:=v3 v2;have gi3:=λX=>hR.isA (z:=z) (st:=none) (X:=X) hi v3 [41];have gw3:=λX=>hR.wantA (z:=z) (s:=(p3,none)) (X:=X) hi (λ_=>v3) (by simp only;omega) [44];have hg2:=hg0 none;cases hc:isT L p3 [41]with
          |true=>have hE2:=λfr X h=>hE1 fr (ks++[x]) (p3,none) X h (λ_=>v3) (by simp only;omega) (by simp;omega) (hRel _ _ (by rw[hpp2,hok];simp[PR.then,hc,N.bag,N.new]));rw[hc]at gi3;simp only[rst]at hg2 gi3 hE2;simp[f0,rst,hg2];refine Qa (gi3 _) ?_;simp;exact hE2 _ _ (by simp[f0,f4,f6,hXl])
          |false=>
           rw[hc]at gi3;have hstp:=hpp2;rw[hok]at hstp;simp only[PR.then,hc,Qv]at hstp;by_cases hcm:isT L p3 [44]=true
           .have hl4:=Q6 hE hcm;simp only[Qq,hcm,if_true]at gw3;simp only[rst]at hg2 gi3 gw3;simp[f0,rst,hg2];refine Qa (gi3 _) ?_;simp[f0];refine Qa (gw3 _) ?_;simp;refine Qg (H.length+3) m (Q14 _) (by simp[hXl]) (by omega) ⟨ks++[x],(p3+1,none),by simp[f0,f4,f6,hil2],by simpa[rst]using hcut (ks++[x]) none _,.inr ⟨p3+1,rfl,hs2,by omega,?_,hl4,by omega,by simp;omega⟩⟩;rw[hpe,hstp,hcm,Qgo];simp
           .have hcm':isT L p3 [44]=false:=by simpa using hcm
            simp only[Qq,hcm',Q2c,if_false]at gw3;simp only[rst]at hg2 gi3 gw3;simp[f0,rst,hg2];refine Qa (gi3 _) ?_;simp[f0];refine Qa (gw3 _) ?_;simp;refine Qg (H.length+3) 0 (Q14 _) (by simp[hXl]) (by omega) ⟨ks++[x],(p3,some p3),by simp[f0,f4,f6,hil2],by simpa[rst]using hcut (ks++[x]) (some p3) _,.inl ⟨rfl,by simp,by simp only;omega,by simp;omega,λmm=>hRel _ _ ?_⟩⟩;rw[hstp,hcm'];simp[PR.then];omega
end
end
section
structure RHasA(P:Program)(R:RF):Prop extends RHas P R where
 params:HasT P [7] R.params (Qeh R.want R.is R.word R.typed R.ended R.tn)
 kind:HasT P [9] R.kind (Qfk R.is R.word R.want R.kind R.ended R.tn)
 block:HasT P [7] R.block (Qge R.want R.is R.stmt R.ended R.tn)
 stmt:HasT P [8,47] R.stmt (Zo R.is R.expr R.block R.ended R.word R.typed R.want R.tn)
 expr:Has P R.expr (Qh4 R.sum R.is R.ended R.tn)
 sum:Has P R.sum (Qk3 R.term R.is R.ended R.tn)
 term:Has P R.term (Qh2 R.post R.is R.ended R.tn)
 post:HasT P [10,56] R.post (Qh3 R.atom R.is R.word R.ended R.expr R.want R.tn)
 atom:HasT P [11] R.atom (Zp R.is R.expr R.want R.ended R.word R.lambda R.tn R.tt)
 file:HasT P [4] R.file (Qmi R.is R.use_ R.def_ R.ended R.tn)
structure RAll(P:Program)(R:RF)(z:Bool)(L:List Tk)(n:Nat):Prop where
 params:UR P R.tr z L n .params R.params
 typed:UR P R.tr z L n .typed R.typed
 kind:UR P R.tr z L n .kind R.kind
 block:UR P R.tr z L n .block R.block
 stmt:US P R.tr z L n .stmt R.stmt
 expr:UR P R.tr z L n .expr R.expr
 sum:UR P R.tr z L n .sum R.sum
 term:UR P R.tr z L n .term R.term
 post:UR P R.tr z L n .post R.post
 atom:UR P R.tr z L n .atom R.atom
def Qbz{P:Program}{z:Bool}{L:List Tk}{tr:TypeId}{g:G}{f:FuncId}(hg:0<g.c):UR P tr z L 0 g f:=λH X i s hi hp=>absurd hp.1.2.1 (by omega)
def Qzp{P:Program}{z:Bool}{L:List Tk}{tr:TypeId}{g:G}{f:FuncId}(hg:0<g.c):US P tr z L 0 g f:=λH X i p hi hp=>absurd hp.1.2.1 (by omega)
section
variable{P:Program}{R:RF}{z:Bool}{L:List Tk}
def RHasA.all(hR:RHasA P R)(hE:Wz L)(hL:L.length<=1048576):∀n,n<=1099511627776->RAll P R z L n:=by
 intro n;induction n using Nat.strongRecOn with
 |ind n ih=>
 intro hn;cases n with
 |zero=>exact⟨Qbz (by decide),Qbz (by decide),Qbz (by decide),Qbz (by decide),Qzp (by decide),Qbz (by decide),Qbz (by decide),Qbz (by decide),Qbz (by decide),Qbz (by decide)⟩
 |succ n=>
  have a:∀m,m<n+1->RAll P R z L m:=λm hm=>ih m hm (by omega);have b:=a n (by omega);have hn':n<=1099511627776:=by omega
  have h0:=hR.toRHas;exact⟨h0.params' hR.params hE hL n hn' (λm hm=>(a m (by omega)).typed),h0.typed' hE hL n hn' b.kind,h0.kind' hR.kind hE hL n hn' (λm hm=>(a m hm).kind),h0.block' hR.block hE hL n hn' (λm hm=>(a m (by omega)).stmt),
   h0.stmt' hR.stmt hE hL n hn' b.expr b.typed b.block,h0.expr' hR.expr hE hL n hn' b.sum,h0.sum' hR.sum hE hL n hn' (λm hm=>(a m hm).term),h0.term' hR.term hE hL n hn' (λm hm=>(a m hm).post),
   h0.post' hR.post hE hL n hn' b.atom (λm hm=>(a m hm).expr),h0.atom' hR.atom hE hL n hn' (λm hm=>(a m hm).expr) b.params b.typed b.block⟩
def RQF(tr:TypeId)(z:Bool)(L:List Tk)(n:Nat)(H:Hp)(i:Nat):A->Hp->Prop:=λr H'=>∃m s',r=m.v/\H'=H.set i (rst tr z L s'.2)/\Rel L n (.file []) (0,none) m s'
def Qvh{tr:TypeId}{z z':Bool}{L:List Tk}{n:Nat}{H:Hp}{i:Nat}{s':PSt}{k f t a:Int}{w:Bs}{rows:List (List D)}(ks:List N)(hrows:rows=ks.map N.enc)(hz:rows=[]->z'=true)(hr:Rel L n (.file []) (0,none) (N.new k f t w a ks) s'):
 ∃r',Nrm (.agg [YI k,YI f,YI t,YS w,YI a,YL z' 6 rows]) r'/\RQF tr z L n H i r' (H.set i (rst tr z L s'.2)):=by
 refine⟨_,Ql2 hz,_,s',?_,rfl,hr⟩;rw[N.v_new,hrows];cases ks<;>rfl
def RHasA.file'(hR:RHasA P R)(hE:Wz L)(h0l:0<L.length)(hL:L.length<=1048576)(n:Nat)(hn:n<=1099511627776)(hr0:16*L.length+7<=n+1){H:Hp}{i:Nat}(hi:i<H.length):
 Qc P R.file [.ptr i 0] (H.set i (rst R.tr z L none)) (RQF R.tr z L (n+1) H i):=by
 obtain⟨fn,hf,hcf⟩:=hR.file;have h0:=hR.toRHas;refine Ye (Qy hf hcf (by simp[Qmi]) λO _=>?_);simp[Qmi];obtain⟨XX,hXX⟩:∃XX:List N->Hp,XX=λks=>[zbx R.tn,.tok ks.length 6 R.tn]:=⟨_,rfl⟩;have hXl:∀a,(XX a).length=2:=λa=>by rw[hXX];rfl
 obtain⟨E,hE0⟩:∃E:Fr->Hp->Prop,E=λfr H'=>∃(ks:List N)(s':PSt),(fr 0=.ptr i 0/\fr 2=.ptr H.length 0/\fr 3=YI s'.1/\fr 4=.osl true 6 (ks.map N.enc) (H.length+1))/\Rel L (n+1) (.file []) (0,none) (N.new 1 0 s'.1 [] 0 ks) s'/\H'=H.set i (rst R.tr z L s'.2)++XX ks:=⟨_,rfl⟩;have hE1:∀fr (ks:List N) (s':PSt),(fr 0=.ptr i 0/\fr 2=.ptr H.length 0/\fr 3=YI s'.1/\fr 4=.osl true 6 (ks.map N.enc) (H.length+1))->Rel L (n+1) (.file []) (0,none) (N.new 1 0 s'.1 [] 0 ks) s'->E fr (H.set i (rst R.tr z L s'.2)++XX ks):=λfr ks s' a b=>by subst hE0;exact⟨ks,s',a,b,rfl⟩
 refine Qm 0 E (λ_ _=>False) ?_ (λ_ _ h=>h.elim) ?_;rotate_left
 .intro fr H' h;subst hE0;obtain⟨ks,s',⟨f0,f2,f3,f4⟩,hr,rfl⟩:=h;have g5:=λH0=>h0.ended.rendedT 1 0 0 [] 0 true [] (s'.1:Int) true (ks.map N.enc) H0 (H.length+1);simp only[ag]at g5;subst hXX;simp[f3,f4,zbx];refine Qa (g5 _ (by simp)) ?_;simp[f2];simp[RetK,rcut O,nl];exact Qvh (z':=true) ks rfl (λ_=>rfl) hr
 clear hE0;have hF:=lfs (KT:=1) (m0:=2) (m1:=3) (λn=>n) O hi [zbx R.tn] hXX rfl rfl rfl λ_=>rfl;obtain⟨hcut,hcut0,hg0,hgT,hgT1,hgB,hgC,hsT⟩:=hF;have hsB:∀(ks:List N) b b' X,(XX ks++b::X).set 2 b'=XX ks++b'::X:=λks b b' X=>by rw[hXX];simp
 have hil2:i<H.length+2:=by omega
 rw[show H.set i (rst R.tr z L none)++[Ob.box R.tn [YI 0,YI 0,YI 0,YS [],YI 0,YL true 6 []],.tok 0 6 R.tn]=H.set i (rst R.tr z L none)++XX [] by rw[hXX];rfl];refine Q4 (H.length+2) (λd fr H'=>∃(ks:List N)(s':PSt),(fr 0=.ptr i 0/\fr 2=.ptr H.length 0/\fr 3=YI s'.1/\fr 4=.osl true 6 (ks.map N.enc) (H.length+1))/\H'=H.set i (rst R.tr z L s'.2)++XX ks/\
  ((d=0/\s'.2≠none/\∀m,Rel L (n+1) (.file []) (0,none) m s')\/∃p1,s'=(p1,none)/\d<=n+1/\pp L (n+1) (.file []) 0=pp L d (.file ks) p1/\p1<L.length/\16*(L.length-p1)+7<=d/\ks.length<=p1)) (n+1) (by simp[hXl]) ⟨[],(0,none),by simp[hil2],hcut0 _ _,.inr ⟨0,rfl,by omega,rfl,h0l,by omega,by simp⟩⟩ ?_
 rintro d fr H' ⟨ks,s',⟨f0,f2,f3,f4⟩,rfl,hd⟩;rcases hd with⟨rfl,q1,q2⟩|⟨p1,rfl,hdn,hpp,hp1',hrk,hks⟩
 .obtain⟨p',st'⟩:=s';cases st' with
  |none=>simp at q1
  |some q=>
   have hg1:=hg0 (some q);have hq:¬(q:Int)<0:=by omega
   have hE2:=λfr h=>hE1 fr ks (p',some q) h (q2 _);simp only[rst]at hg1 hE2;simp[f0,f3,rst,hg1,hq];exact hE2 _ (by simp[f0,f2,f3,f4])
 obtain⟨d',rfl⟩:∃d',d=d'+1:=⟨d-1,by omega⟩;have hRel:∀m s',(match pp L (d'+1) (.file ks) p1 with|.out=>False|.bad q=>s'.2=some q/\s'.1<=L.length+(n+1)|.ok m' k=>m=m'/\s'=(k,none))->Rel L (n+1) (.file []) (0,none) m s':=λm s' h=>by unfold Rel;simp only;rw[hpp];exact h
 have hg1:=hg0 none;have gi:=λX=>h0.isA (z:=z) (st:=none) (X:=X) hi hp1' kUse;have hr:=Qt Qp hp1';have hg:L[p1]?=some L[p1]:=Q12 hp1';have hkd:kdT L p1=L[p1].k:=by unfold kdT;rw[hg]
 generalize L[p1]=tk at hr hkd;obtain⟨kk,ta,tl,y⟩:=tk;simp only[Qp]at hr hkd;simp only[rst]at hg1 gi;by_cases hk0:kk=0
 .subst hk0;have hE2:=λfr h=>hE1 fr ks (p1,none) h (hRel _ _ (by simp[pp,hkd]));simp only[rst]at hE2;simp[f0,f3,rst,hg1,hr];exact hE2 _ (by simp[f0,f2,f3,f4])
 have hk0':¬kdT L p1=0:=by rw[hkd];exact hk0
 obtain⟨n',rfl⟩:∃n',d'=n'+1:=⟨d'-1,by omega⟩;have ha:=hR.all (z:=z) hE hL n' (by omega);cases hu:isT L p1 kUse with
 |true=>
  have hpf:pp L (n'+1+1) (.file ks) p1=(pp L (n'+1) .use p1).then λm j=>pp L (n'+1) (.file (ks++[m])) j:=by rw[pp];simp only[hk0',hu,if_true,if_false]
  rw[hu]at gi;have gU:∀X,Qc P R.use_ [.ptr i 0,YI p1] (H.set i (rst R.tr z L none)++X) (RQ R.tr z L (n'+1) .use H i X (p1,none)):=λX=>by have:=h0.use' (z:=z) hE hL n' (H:=H++X) (i:=i) (by simp;omega) p1 hu;rw[Q18 _ _ hi]at this;refine this.mono ?_;rintro r H' ⟨m,s',rfl,rfl,hr⟩;exact⟨m,s',rfl,by rw[Q2k,Q18 _ _ hi],hr⟩
  simp only[rst]at gU;simp[f0,f3,rst,hg1,hr,hk0];refine Qa (gi _) ?_;simp[f0,f3];refine Qf (gU _) ?_;rintro _ _ ⟨m,s3,rfl,rfl,r3⟩;obtain⟨kt,ft,tt',wt',qt,zt,kst,hft,het,hvt,hbt⟩:=Wo R.tn m;rw[hvt];obtain⟨bo,hbo⟩:∃bo:Ob,bo=.box R.tn [YI kt,YI ft,YI tt',YS wt',YI qt,YL zt 6 (kst.map N.enc)]:=⟨_,rfl⟩;have hB:=λX=>hgB ks bo X;rw[hbo]at hB;have hB0:=λX=>hgB ks (.box R.tn [YI 0,YI 0,YI 0,YS [],YI 0,YL true 6 []]) X;have hT:=hgT ks;have hT1:=hgT1 ks;have hs1:=hsT ks m;have hsb:=hsB ks;have hbd:(ks.length+1)*72<=140737488355328:=by omega
  have hmap:ks.map N.enc++[[.int .i64 kt,.int .i64 ft,.int .i64 tt',.str wt',.int .i64 qt,.sl zt 6 (kst.map N.enc)]]=(ks++[m]).map N.enc:=by rw[Q28];simp[het]
  simp[f4,hXl,hB,hB0,hT,hT1,appA,slOf,hbd,hs1,hsb,hmap];rcases r3.none' with⟨q,b,hq,rfl,e3⟩|⟨j,hj,rfl⟩
  .refine Qg (H.length+2) 0 (Q14 _) (by simp[hXl]) (by omega) ⟨ks++[m],(b,some q),by simp[f0,f2,hil2],by simpa[rst]using hcut (ks++[m]) (some q) _,.inl ⟨rfl,by simp,λm=>hRel _ _ ?_⟩⟩;rw[hpf,hq];simp[PR.then];omega
  .have:=Yr hE (n'+1) .use p1;rw[hj]at this;obtain⟨v1,v2,v3⟩:=this;have v2:=v2 rfl;have v3:=v3 v2;refine Qg (H.length+2) (n'+1) (Q14 _) (by simp[hXl]) (by omega) ⟨ks++[m],(j,none),by simp[f0,f2,hil2],by simpa[rst]using hcut (ks++[m]) none _,.inr ⟨j,rfl,by omega,?_,v3,by omega,by simp;omega⟩⟩;rw[hpp,hpf,hj];simp[PR.then]
 |false=>
  have hpf:pp L (n'+1+1) (.file ks) p1=(pp L (n'+1) .defn p1).then λm j=>pp L (n'+1) (.file (ks++[m])) j:=by rw[pp];simp only[hk0',hu,if_false,Q2c]
  rw[hu]at gi;have gU:∀X,Qc P R.def_ [.ptr i 0,YI p1] (H.set i (rst R.tr z L none)++X) (RQ R.tr z L (n'+1) .defn H i X (p1,none)):=λX=>by have:=h0.def' (z:=z) hE hL n' (by omega) ha.params ha.typed ha.block (H:=H++X) (i:=i) (by simp;omega) p1 ⟨⟨by simp only[G.c];omega,by simp only[G.c];omega,λ_=>⟨by simp only;omega,by simp only[G.c];omega⟩⟩,λ_=>hp1'⟩;rw[Q18 _ _ hi]at this;refine this.mono ?_;rintro r H' ⟨m,s',rfl,rfl,hr⟩;exact⟨m,s',rfl,by rw[Q2k,Q18 _ _ hi],hr⟩
  simp only[rst]at gU;simp[f0,f3,rst,hg1,hr,hk0];refine Qa (gi _) ?_;simp[f0,f3];refine Qf (gU _) ?_;rintro _ _ ⟨m,s3,rfl,rfl,r3⟩;obtain⟨kt,ft,tt',wt',qt,zt,kst,hft,het,hvt,hbt⟩:=Wo R.tn m;rw[hvt];obtain⟨bo,hbo⟩:∃bo:Ob,bo=.box R.tn [YI kt,YI ft,YI tt',YS wt',YI qt,YL zt 6 (kst.map N.enc)]:=⟨_,rfl⟩;have hB:=λX=>hgB ks bo X;rw[hbo]at hB;have hB0:=λX=>hgB ks (.box R.tn [YI 0,YI 0,YI 0,YS [],YI 0,YL true 6 []]) X;have hT:=hgT ks;have hT1:=hgT1 ks;have hs1:=hsT ks m;have hsb:=hsB ks;have hbd:(ks.length+1)*72<=140737488355328:=by omega
  have hmap:ks.map N.enc++[[.int .i64 kt,.int .i64 ft,.int .i64 tt',.str wt',.int .i64 qt,.sl zt 6 (kst.map N.enc)]]=(ks++[m]).map N.enc:=by rw[Q28];simp[het]
  simp[f4,hXl,hB,hB0,hT,hT1,appA,slOf,hbd,hs1,hsb,hmap];rcases r3.none' with⟨q,b,hq,rfl,e3⟩|⟨j,hj,rfl⟩
  .refine Qg (H.length+2) 0 (Q14 _) (by simp[hXl]) (by omega) ⟨ks++[m],(b,some q),by simp[f0,f2,hil2],by simpa[rst]using hcut (ks++[m]) (some q) _,.inl ⟨rfl,by simp,λm=>hRel _ _ ?_⟩⟩;rw[hpf,hq];simp[PR.then];omega
  .have:=Yr hE (n'+1) .defn p1;rw[hj]at this;obtain⟨v1,v2,v3⟩:=this;have v2:=v2 rfl;have v3:=v3 v2;refine Qg (H.length+2) (n'+1) (Q14 _) (by simp[hXl]) (by omega) ⟨ks++[m],(j,none),by simp[f0,f2,hil2],by simpa[rst]using hcut (ks++[m]) none _,.inr ⟨j,rfl,by omega,?_,v3,by omega,by simp;omega⟩⟩;rw[hpp,hpf,hj];simp[PR.then]
def RHasA.fileA(hR:RHasA P R)(hE:Wz L)(h0l:0<L.length)(hL:L.length<=1048576){H:Hp}{i:Nat}(hi:i<H.length):
 Qc P R.file [.ptr i 0] (H.set i (rst R.tr z L none)) (RQF R.tr z L (16*L.length+8) H i):=hR.file' hE h0l hL (16*L.length+7) (by omega) (by omega) hi
end
end
section
def Has.depth6{f:FuncId}{tn:TypeId}(h:Has P f (Qdp f tn)):∀(n:N),n.size<=1125899906842624->∀H,Qc P f [n.v] H (λr H'=>r=YI n.depth/\H'=H):=by
 refine N.ind λk f' t w a z ks ih=>?_;intro hs H;refine Qe h (by simp[Qdp]) λO _=>?_;rw[N.size_mk]at hs;rw[N.v_mk,N.depth_mk];have hlen:=N.sizes_len ks;have hds:∀i,N.depths (ks.take i)<=1125899906842624:=λi=>by refine N.depths_le _ λp hp=>?_;have:=N.depth_size p;have:=N.sizes_mem (Q4q hp);omega
 simp[Qdp];refine Vl (H.length+1) ks.length (λi fr H'=>fr 1=.ptr H.length 0/\fr 3=YI ((N.depths (ks.take i):Int)+1)/\H'=H++[.box tn [YI k,YI f',YI t,YS w,YI a,YL z 6 (ks.map N.enc)]]) (by omega) (by decide) (by simp) (by simp) ?_ ?_
 .simp[N.depths,Qi O]
 rintro i fr H' hi f4 ⟨f1,f3,rfl⟩;simp[f4,f1];refine Qh (λh=>?_) (λh=>?_)
 .have hlt:i<ks.length:=by simpa using h
  have hr:=Qt N.enc hlt;have hm:=Q20 hlt;have hsz:=N.sizes_mem hm;have hx:=ih _ hm (by omega);have hdt:=N.depths_take_succ hlt;have hd0:=hds i;have hdd:=N.depth_size (ks[i]);generalize ks[i]=p at hr hx hdt hsz hdd;obtain⟨k2,f2,t2,w2,a2,z2,ks2⟩:=p;generalize hdp:(N.mk k2 f2 t2 w2 a2 z2 ks2).depth=dd at hx hdt hdd;rw[N.enc_mk]at hr;rw[N.v_mk]at hx;have hw:IntKind.i64.wrap ((dd:Int)+1)=(dd:Int)+1:=wi64 (by omega);simp[f4,f1,hr];refine Qa (hx _) ?_;by_cases hm:N.depths (ks.take i)<dd
  .simp[hw,f3,hm];refine Wp (H.length+1) (Q14 _) hlt (by simp[f4]) ?_;rw[hdt];simp[f1,Qi O];omega
  .simp[hw,f3,hm];refine Wp (H.length+1) (Q14 _) hlt (by simp[f4]) ?_;rw[hdt];simp[f1,f3,Qi O];omega
 .have hii:i=ks.length:=by
   have:¬i<ks.length:=by simpa using h
   omega
  rw[hii,Q2f (Q14 _)]at f3;simp[f3];simp[RetK,Qd O];omega
section
variable{P:Program}{R:RF}{z:Bool}{L:List Tk}
def Has.parse7{f fd}(h:Has P f (Qa1 R.file fd R.tn R.tr))(hR:RHasA P R)(hd:Has P fd (Qdp fd R.tn))(hL:L.length<=1048576)(H:Hp):
 Qc P f [YL z 4 (L.map Qp)] H (λr H'=>r=.tup [(Q5 L).1.v,YI (Q5 L).2.1,YI (Q5 L).2.2]/\H'=H):=by
 refine Qe h (by simp[Qa1]) λO _=>?_;obtain⟨Q,hQ⟩:∃Q:A->Hp->Prop,Q=λr H'=>r=.tup [(Q5 L).1.v,YI (Q5 L).2.1,YI (Q5 L).2.2]/\H'=H:=⟨_,rfl⟩;rw[<-hQ];have hnone:∀e b:Int,Q5 L=(N.none,e,b)->Q (.tup [.agg [YI 0,YI 0,YI 0,YS [],YI 0,YL true 6 []],YI e,YI b]) H:=λe b h=>by subst hQ;rw[h];exact⟨rfl,rfl⟩
 by_cases h0:L=[]
 .subst h0;simp[Qa1];simp[RetK,Qd O];exact hnone 1 0 (by simp[Q5])
 have hl0:0<L.length:=Q3g.2 h0;have h0':¬(L.length:Int)=0:=by omega
 have hw:IntKind.i64.wrap ((L.length:Int)-1)=((L.length-1:Nat):Int):=by rw[wi64 (by omega)];omega
 have hr:=Qt Qp (l:=L) (i:=L.length-1) (by omega);have hg:L[L.length-1]?=some (L[L.length-1]'(by omega)):=Q12 (by omega);have hkd:kdT L (L.length-1)=(L[L.length-1]'(by omega)).k:=by unfold kdT;rw[hg]
 generalize L[L.length-1]'(by omega)=tk at hr hkd;obtain⟨k,a,l,x⟩:=tk;simp only[Qp]at hr hkd;by_cases h1:k=0
 case neg=>simp[Qa1,h0,h0',hw,hr,h1];simp[RetK,Qd O];exact hnone 1 0 (by simp[Q5,hkd,h1])
 by_cases h2:4000<L.length
 case pos=>
  have h2':(4000:Int)<L.length:=by omega
  simp[Qa1,h0,h0',hw,hr,h1,h2'];simp[RetK,Qd O];exact hnone 1 0 (by simp[Q5,h2])
 have h2':¬(4000:Int)<L.length:=by omega
 have hE:Wz L:=λi hi=>by
  have:i=L.length-1:=by omega
  rw[this,hkd,h1]
 have hpp:Q5 L=match Qaz L with
  |.ok n _=>if 60<n.depth then(N.none,25,0)else(n,0,0)
  |.bad q=>(N.none,24,(q:Int))
  |.out=>(N.none,24,0):=by
  unfold Q5;split
  .rename_i h;rw[hkd,h1]at h;rcases h with h|h|h
   .exact absurd h h0
   .exact absurd rfl h
   .exact absurd h h2
  .rfl
 simp[Qa1,h0,h0',hw,hr,h1,h2'];obtain⟨r0,hr0⟩:∃r0:Ob,r0=.box R.tn [YI 0,YI 0,YI 0,YS [],YI 0,YL true 6 []]:=⟨_,rfl⟩;have g:=hR.fileA (z:=z) hE hl0 hL (H:=H++[r0,rst R.tr z L none]) (i:=H.length+1) (by simp);have e1:∀s,(H++[r0,rst R.tr z L none]).set (H.length+1) (rst R.tr z L s)=H++[r0,rst R.tr z L s]:=λs=>by simp
 rw[e1]at g;rw[hr0]at g;simp only[rst]at g;refine Qf g ?_;rintro _ _ ⟨m,s',rfl,rfl,hrel⟩;have e2:∀s,(H++[r0,.box R.tr [YL z 4 (L.map Qp),YI (-1)]]).set (H.length+1) (rst R.tr z L s)=H++[r0,rst R.tr z L s]:=λs=>by simp
 rw[<-hr0,e2];rw[hr0];rcases hrel.none' with⟨q,b,hq,rfl,e3⟩|⟨k',hk,rfl⟩
 .have hq':Qaz L=.bad q:=hq;rw[hq']at hpp;obtain⟨k2,f2,t2,w2,a2,z2,ks2⟩:=m;have hqn:(0:Int)<=q:=by omega
  rw[N.v_mk];simp[rst,hqn]
  repeat' apply And.intro
  all_goals
   simp[RetK,Qd O]
   try exact hnone 24 q hpp
 .have hk':Qaz L=.ok m k':=hk;rw[hk']at hpp;have hsz:=Qky (L:=L) (16*L.length+8) (.file []) 0 trivial;rw[show pp L (16*L.length+8) (.file []) 0=.ok m k' from hk]at hsz;simp only[Sz,G.k1,G.sz,N.sizes_nil]at hsz;have hadv:=Yg (L:=L) (16*L.length+8) (.file []) 0;rw[show pp L (16*L.length+8) (.file []) 0=.ok m k' from hk]at hadv;obtain⟨v1,-,v3⟩:=hadv;have hdep:=N.depth_size m;have hd':=hd.depth6 m (by omega);obtain⟨k2,f2,t2,w2,a2,z2,ks2⟩:=m;rw[N.v_mk]at hd';rw[N.v_mk];simp[rst];refine Qa (hd' _) ?_;by_cases h60:60<N.depth (.mk k2 f2 t2 w2 a2 z2 ks2)
  .have h60':(60:Int)<N.depth (.mk k2 f2 t2 w2 a2 z2 ks2):=by omega
   simp[h60'];simp[RetK,Qd O];exact hnone 25 0 (by rw[hpp];simp[h60])
  .have h60':¬(60:Int)<N.depth (.mk k2 f2 t2 w2 a2 z2 ks2):=by omega
   simp[h60'];simp[RetK,Qd O];subst hQ;rw[hpp];simp[h60,N.v_mk]
def Has.of7{f fl fp tn}(h:Has P f (Qoy fl fp tn))(hl:∀(s:Bs),s.length<=1048576->∀H,Qc P fl [YS s] H (λr H'=>r=.tup [YL true 4 ((lexS s).1.map Qp),YI (lexS s).2.1,YI (lexS s).2.2]/\H'=H))(hp:∀(z:Bool) (L:List Tk),L.length<=1048576->∀H,Qc P fp [YL z 4 (L.map Qp)] H (λr H'=>r=.tup [(Q5 L).1.v,YI (Q5 L).2.1,YI (Q5 L).2.2]/\H'=H))(s:Bs)(hs:s.length<=1048576)(H:Hp):
 Qc P f [YS s] H (λr H'=>r=.tup [YL true 4 ((Qx s).1.map Qp),(Qx s).2.1.v,YI (Qx s).2.2.1,YI (Qx s).2.2.2]/\H'=H):=by
 refine Qe h (by simp[Qoy]) λO _=>?_;obtain⟨Q,hQ⟩:∃Q:A->Hp->Prop,Q=λr H'=>r=.tup [YL true 4 ((Qx s).1.map Qp),(Qx s).2.1.v,YI (Qx s).2.2.1,YI (Qx s).2.2.2]/\H'=H:=⟨_,rfl⟩;rw[<-hQ];have hnone:∀e b:Int,Qx s=([],N.none,e,b)->Q (.tup [YL true 4 [],.agg [YI 0,YI 0,YI 0,YS [],YI 0,YL true 6 []],YI e,YI b]) H:=λe b h=>by subst hQ;rw[h];exact⟨rfl,rfl⟩
 have hO:Qx s=if(lexS s).2.1≠0 then([],N.none,(lexS s).2.1,(lexS s).2.2)
  else if(Q5 (lexS s).1).2.1≠0 then([],N.none,(Q5 (lexS s).1).2.1,match(lexS s).1[(Q5 (lexS s).1).2.2.toNat]? with|some t=>(t.a:Int)|none=>0)
  else((lexS s).1,(Q5 (lexS s).1).1,0,0):=rfl
 have hlk:=Qje (s:=s);have g1:=hl s hs (H++[Ob.box tn [YI 0,YI 0,YI 0,YS [],YI 0,YL true 6 []]]);generalize lexS s=LS at hO hlk g1;obtain⟨L,e,b⟩:=LS;simp only at hO hlk g1;simp[Qoy];refine Qa g1 ?_;by_cases he:e=0
 case neg=>rw[if_pos he]at hO;simp[he];simp[RetK,Qd O];exact hnone e b hO
 rw[if_neg (by simp[he])]at hO;obtain⟨l1,l2,l3,l4,l5⟩:=hlk he;have hat:=Qnt l2 l1;have g2:=hp true L (by omega);generalize Q5 L=PS at hO hat g2;obtain⟨m,e2,b2⟩:=PS;simp only at hO hat g2;simp[he];refine Qa (g2 _) ?_;obtain⟨k,f',t,w,a,z,ks⟩:=m;rw[N.v_mk];obtain⟨hb0,hb1⟩:=hat;obtain⟨q,rfl⟩:∃q:Nat,b2=(q:Int):=⟨b2.toNat,by omega⟩;simp only[Q31]at hO hb1;have hr:=Qt Qp hb1;rw[Q12 hb1]at hO;generalize L[q]=tk at hr hO;obtain⟨tk,ta,tl,tx⟩:=tk;simp only[Qp]at hr;simp;by_cases he2:e2=0
 case neg=>
  rw[if_pos he2]at hO;simp[he2,hr]
  repeat' apply And.intro
  all_goals
   simp[RetK,Qd O]
   try exact hnone e2 ta hO
 rw[if_neg (by simp[he2])]at hO;simp[he2];simp[RetK,Qd O];subst hQ;rw[hO];exact⟨by rw[N.v_mk],rfl⟩
end
end
section
section
variable{P:Program}{F:SF}{H:Hp}
def SHas.of'(hF:SHas P F)(hW:HasW P F){fof:FuncId}(hof:HasT P [5000003,8200003,6000034,6000043] fof (Qmf F.bind F.closed F.srt F.cmp F.tn F.tm F.tb F.bd F.mn F.ed))(hs:∀(H:Hp) (i:Nat) (L:List (Int×Int)),H[i]?=some (arrE Q2 2 L)->L.length<=1099511627776->Qc P F.srt [.msl i 0 L.length,.d (.fn F.cmp)] H (λr H'=>r=.tup []/\H'=H.set i (arrE Q2 2 (ssort cBad L))))(hs0:∀(H:Hp),Qc P F.srt [YL true 2 [],.d (.fn F.cmp)] H (λr H'=>r=.tup []/\H'=H))(n:N)(hn:n.size<=68719476736)(H:Hp):
 Qc P fof [n.v] H (λr H'=>r=.agg ((V2 n).enc.map .d)/\H'=H):=by
 obtain⟨k,f,t,w,a,z,ks⟩:=n;rw[N.size_mk]at hn;have hsl:=N.sizes_len ks;have hall:allP (.mk k f t w a z ks)=Zr (W5 0 ks [] ⟨[],[],[]⟩).1 0 ks (W5 0 ks [] ⟨[],[],[]⟩).2:=rfl;have hall2:(Zr (W5 0 ks [] ⟨[],[],[]⟩).1 0 ks (W5 0 ks [] ⟨[],[],[]⟩).2).sz<=4*N.sizes ks:=by have h1:=(Qb1 ks 0 [] ⟨[],[],[]⟩ (FOk.nil _)).sz;have h2:=(Qdy (W5 0 ks [] ⟨[],[],[]⟩).1 ks 0 (W5 0 ks [] ⟨[],[],[]⟩).2).2;have h3:SM.sz ⟨[],[],[]⟩=0:=rfl;omega
 have hw:=hF.ofW hW hof (H:=H) (k:=k) (f:=f) (t:=t) (w:=w) (a:=a) (z:=z) (ks:=ks) (by omega);unfold V2;rw[hall];obtain⟨bx,hbx⟩:∃bx,bx=Ob.box F.tn [YI k,YI f,YI t,YS w,YI a,YL z 6 (ks.map N.enc)]:=⟨_,rfl⟩;have hbc:∀n,bx.clr n=bx:=λn=>by subst hbx;simp
 rw[<-hbx]at hw;generalize Zr (W5 0 ks [] ⟨[],[],[]⟩).1 0 ks (W5 0 ks [] ⟨[],[],[]⟩).2=S at hw hall2⊢;generalize(W5 0 ks [] ⟨[],[],[]⟩).1=G at hw;have hbl:S.bad.length<=1099511627776:=by unfold SM.sz at hall2;omega
 obtain⟨bs,ms,bad⟩:=S;simp only at hbl;by_cases hb:bad=[]
 .subst hb;have hso:ssort cBad ([]:List (Int×Int))=[]:=rfl;rw[hso];have hgoal:(SM.enc ⟨bs,ms,[]⟩).map A.d=[YL (bs.map Qw).isEmpty 4 (bs.map Qw),YL (ms.map Ya).isEmpty 4 (ms.map Ya),YL true 2 []]:=by simp[SM.enc]
  rw[hgoal];refine Qc.freeze3n (k:=4) (e:=F.ed) (Qkz (t:=H.length+2)) (Qkz (t:=H.length+3)) ?_;refine hw 5 _ λO it fr f3 f2=>?_;have y5:(scY F H.length bx ⟨bs,ms,[]⟩ G it)[5]?=some (.box F.tm [.osl true 4 (bs.map Qw) (H.length+2),.osl true 4 (ms.map Ya) (H.length+3),.vsl (H.length+4) 0 0]):=rfl;have y1:(scY F H.length bx ⟨bs,ms,[]⟩ G it)[1]?=some (.box F.tm [YL true 4 [],YL true 4 [],YL true 2 []]):=rfl;have y4:(H++scY F H.length bx ⟨bs,ms,[]⟩ G it)[H.length+4]?=some (.vec 2 F.ed 0 []):=by rw[Qs];rfl
  simp[Qr3,f3,y5,-getElem?_pos];refine Qa (Qc.vecNil y4 (hs0 _)) ?_;simp[f3,f2,y5,y1,-getElem?_pos];have lY:(scY F H.length bx ⟨bs,ms,[]⟩ G it).length=8:=rfl;have y1':((scY F H.length bx ⟨bs,ms,[]⟩ G it).set 1 (.box F.tm [.osl true 4 (bs.map Qw) (H.length+2),.osl true 4 (ms.map Ya) (H.length+3),.vsl (H.length+4) 0 0]))[1]?=some (.box F.tm [.osl true 4 (bs.map Qw) (H.length+2),.osl true 4 (ms.map Ya) (H.length+3),.vsl (H.length+4) 0 0]):=rfl;have hcut:∃X:Hp,X[4]?=some (.vec 2 F.ed 0 [])/\Hp.cut (H.length+5) (H++(scY F H.length bx ⟨bs,ms,[]⟩ G it).set 1 (.box F.tm [.osl true 4 (bs.map Qw) (H.length+2),.osl true 4 (ms.map Ya) (H.length+3),.vsl (H.length+4) 0 0]))=H++X:=⟨_,rfl,Qi O _ _⟩;simp[RetK,resA,f2,y1',lY,-getElem?_pos];exact hcut
 .have hne:bad.map Q2≠[]:=by simpa using hb
  have hbz:bad.length=(ssort cBad bad).length:=(Ww Z4 bad).symm;have hbe:(ssort cBad bad).isEmpty=false:=by
   cases hq:ssort cBad bad with
   |nil=>rw[hq]at hbz;simp at hbz;exact absurd hbz hb
   |cons x r=>rfl
  have hgoal:(SM.enc ⟨bs,ms,ssort cBad bad⟩).map A.d=[YL (bs.map Qw).isEmpty 4 (bs.map Qw),YL (ms.map Ya).isEmpty 4 (ms.map Ya),YL false 2 ((ssort cBad bad).map Q2)]:=by simp[SM.enc,hbe]
  rw[hgoal];refine Qc.freeze3 (k:=8) (Qkz (t:=H.length+2)) (Qkz (t:=H.length+3)) ?_;refine hw 9 _ λO it fr f3 f2=>?_;have y5:(scY F H.length bx ⟨bs,ms,bad⟩ G it)[5]?=some (.box F.tm [.osl true 4 (bs.map Qw) (H.length+2),.osl true 4 (ms.map Ya) (H.length+3),.vsl (H.length+4) bad.length bad.length]):=rfl;have y4:(H++scY F H.length bx ⟨bs,ms,bad⟩ G it)[H.length+4]?=some (.vec 2 F.ed bad.length (bad.map Q2)):=by rw[Qs];rfl
  have y5':(H++scY F H.length bx ⟨bs,ms,bad⟩ G it)[H.length+5]?=some (.box F.tm [.osl true 4 (bs.map Qw) (H.length+2),.osl true 4 (ms.map Ya) (H.length+3),.vsl (H.length+4) bad.length bad.length]):=by rw[Qs];rfl
  have hl8:(H++scY F H.length bx ⟨bs,ms,bad⟩ G it).length=H.length+8:=by simp[scY]
  have gs:=hs ((((H++scY F H.length bx ⟨bs,ms,bad⟩ G it).set (H.length+4) .dead).set (H.length+5) (.box F.tm [.osl true 4 (bs.map Qw) (H.length+2),.osl true 4 (ms.map Ya) (H.length+3),.msl (H.length+8) 0 bad.length]))++[arrE Q2 2 bad]) (H.length+8) bad
   (by rw[Q2j (by simp[scY]),show H.length+8-_=0 by simp[scY]];rfl) hbl
  have gv:=Qc.vecArr (P:=P) (f:=F.srt) (q:=2) (args:=[.d (.fn F.cmp)]) (Q:=λr H'=>r=.tup []/\H'=((((H++scY F H.length bx ⟨bs,ms,bad⟩ G it).set (H.length+4) .dead).set (H.length+5) (.box F.tm [.osl true 4 (bs.map Qw) (H.length+2),.osl true 4 (ms.map Ya) (H.length+3),.msl (H.length+8) 0 bad.length]))++[arrE Q2 2 (ssort cBad bad)]))
   y4 hne y5' (by simp) (by rw[hl8,Q2y,<-Qrm];refine gs.mono ?_;rintro r H' ⟨rfl,rfl⟩;refine⟨rfl,?_⟩;rw[Q3j _ _ (by simp[scY]),show H.length+8-_=0 by simp[scY]];rfl)
  rw[Q2y]at gv;simp[Qr3,f3,y5,-getElem?_pos];refine Qa gv ?_;rw[Q3j _ _ (by omega),Q3j _ _ (by simp)];simp only[Q4a];obtain⟨Z,hZ⟩:∃Z,Z=(((scY F H.length bx ⟨bs,ms,bad⟩ G it).set 4 .dead).set 5 (.box F.tm [.osl true 4 (bs.map Qw) (H.length+2),.osl true 4 (ms.map Ya) (H.length+3),.msl (H.length+8) 0 bad.length])++[arrE Q2 2 (ssort cBad bad)]):=⟨_,rfl⟩;have z5:Z[5]?=some (.box F.tm [.osl true 4 (bs.map Qw) (H.length+2),.osl true 4 (ms.map Ya) (H.length+3),.msl (H.length+8) 0 bad.length]):=by subst hZ;rfl
  have z1:Z[1]?=some (.box F.tm [YL true 4 [],YL true 4 [],YL true 2 []]):=by subst hZ;rfl
  have z1':(Z.set 1 (.box F.tm [.osl true 4 (bs.map Qw) (H.length+2),.osl true 4 (ms.map Ya) (H.length+3),.msl (H.length+8) 0 bad.length]))[1]?=some (.box F.tm [.osl true 4 (bs.map Qw) (H.length+2),.osl true 4 (ms.map Ya) (H.length+3),.msl (H.length+8) 0 bad.length]):=by subst hZ;rfl
  have lZ:Z.length=9:=by subst hZ;rfl
  have hcut:∃X:Hp,X[8]?=some (.arr 2 (((ssort cBad bad).map Q2).map (List.map .d)))/\Hp.cut (H.length+9) (H++Z.set 1 (.box F.tm [.osl true 4 (bs.map Qw) (H.length+2),.osl true 4 (ms.map Ya) (H.length+3),.msl (H.length+8) 0 bad.length]))=H++X:=by
   refine⟨_,?_,Qi O _ _⟩;subst hZ;have:(Ob.clr (H.length+9) (arrE Q2 2 (ssort cBad bad)))=.arr 2 (((ssort cBad bad).map Q2).map (List.map .d)):=by rw[<-Qrm];exact Wn ..
   rw[<-this];rfl
  rw[Q2g,<-hZ];simp[f3,f2,z5,z1,-getElem?_pos];simp[RetK,resA,f2,z1',lZ,hbz,-getElem?_pos];rw[hbz]at hcut;simpa using hcut
end
end
section
open Go.RowKit (Below)
open Go.Proofs Go.Sort
def Zi(L:List Int):List (List A):=L.map λx=>[YI x]
def Qqn(L:List Int)(k:Nat)(x:Int):Zi (L.set k x)=(Zi L).set k [YI x]:=by rw[Zi,Q5w];rfl
def HR.putInts{κ:K}{H:Hp}{w:World}(h:HR κ H w){i b:Nat}{s:Option (TypeId×Nat)}{L0 d:List Int}(hi:H[i]?=some (.arr 1 (Zi L0)))(hβ:κ.β i=.arr b 1 s)(hd:d.length=L0.length)(h0:Holds (Value.int .i64) w b 0 L0.toArray):∀k:Nat,k<=L0.length->HR κ (H.set i (.arr 1 (Zi (d.take k++L0.drop k)))) (putRow (Value.int .i64) w b 0 (d.take k++L0.drop k).toArray)
 |0,_=>by
  have hH:H.set i (.arr 1 (Zi L0))=H:=by
   refine Q3e λj=>?_;by_cases hj:i=j
   .subst hj;rw[Q17 (Q11.1 hi).1,hi]
   .rw[Q15 hj]
  rw[Q38,Q4z,Q2u,hH,putRow_self _ _ _ _ _ h0];exact h
 |k+1,hk=>by
  have ih:=HR.putInts h hi hβ hd h0 k (by omega);have hil:i<H.length:=(Q11.1 hi).1;have hx:d.take (k+1)++L0.drop (k+1)=(d.take k++L0.drop k).set k (d[k]'(by omega)):=by
   have e1:L0.drop k=L0[k]'(by omega)::L0.drop (k+1):=Q2o (by omega);have e2:d.take (k+1)=d.take k++[d[k]'(by omega)]:=Q2e (by omega);have hm:k-(d.take k).length=0:=by simp;omega
   rw[e2,Q3j _ _ (by simp;omega),hm,e1,List.set_cons_zero,Q2g];rfl
  have hlen:(d.take k++L0.drop k).length=L0.length:=by simp;omega
  generalize d.take k++L0.drop k=X at ih hx hlen;rw[hx];have hXk:X[k]?=some (X[k]'(by omega)):=Q12 (by omega);have hrow:(Zi X)[k]?=some [YI (X[k]'(by omega))]:=by rw[Zi,Q2d,hXk];rfl
  have:=ih.setArr (i:=i) (k:=k) (j:=0) (by rw[Q17 hil]) hβ hrow (by simp) (v:=(Value.int .i64) (d[k]'(by omega))) (a:=YI (d[k]'(by omega))) rfl (.d (DR.int _ _));rw[Q32]at this;have e3:=putRow_set (Value.int .i64) w b 0 X.toArray k (d[k]'(by omega)) (by simp;omega);rw[Q3i]at e3;rw[Nat.mul_one,Q4g,e3]at this;rw[Qqn];simpa using this
def Qph(P:Program)(f:FuncId):Prop:=∀(blk off cap:Nat)(ss:List Int)(w:World),Holds (Value.int .i64) w blk off ss.toArray->blk<w.heap.size->ss.length<4611686018427387904->
 Calls P f #[.slice (some ⟨blk,off,none⟩) ss.length cap] w λe w'=>e=.returned (.tuple #[])/\∃n os,w'=grow (putRow (Value.int .i64) (Go.Sort.ahead w n) blk off (ss.mergeSort λx y=>decide (x<=y)).toArray) os
def Qnc{P:Program}{f:FuncId}(hS:Qph P f){L:List Int}(hne:L≠[])(hl:L.length<4611686018427387904){H:Hp}{i:Nat}(hi:H[i]?=some (.arr 1 (Zi L))):
 Qc P f [.msl i 0 L.length] H (λr H'=>r=.tup []/\H'=H.set i (.arr 1 (Zi (L.mergeSort λx y=>decide (x<=y))))):=by
 intro κ w vs hr hvl hv;match vs,hvl with
 |[v],_=>
 have hv0:=hv 0 v _ rfl rfl;have hpos:0<L.length:=Q3g.2 hne;cases hv0 with
 |msl _ _ _ b sz o cap hb O ho hz=>
 obtain⟨b',s',hβ',hsh,hc⟩:=hr.ob i _ hi;obtain⟨rfl,rfl⟩:b=b'/\sz=1:=by
  rcases hb with⟨s,hb⟩|hb
  .rw[hβ']at hb;cases hb;exact⟨rfl,rfl⟩
  .rw[hβ']at hb;cases hb
 have ho':o=0:=by have:=ho hpos;omega
 subst ho';have hH0:∀n,Holds (Value.int .i64) (Go.Sort.ahead w n) b 0 L.toArray:=λn j hj=>by
  have hj':j<L.length:=by simpa using hj
  have hrow:(Zi L)[j]?=some [YI L[j]]:=by rw[Zi,Q2d,Q12 hj'];rfl
  obtain⟨-,h2⟩:=hc j _ hrow;obtain⟨u,u1,u2,u3⟩:=h2 0 _ rfl;have:=u3.d_inv.int_inv;subst this;rw[Nat.mul_one,Q4g]at u1 u2;rw[Q3i];refine⟨?_,u2⟩;rw[cell?_ahead,u1];simp[getElem!_pos,hj']
 have hblk:=(hr.ex i b (by rw[hβ'];rfl)).2;refine(hS b 0 cap L w (hH0 0) hblk hl).mono ?_;rintro e w' ⟨rfl,n,os,rfl⟩;have h1:HR κ H (Go.Sort.ahead w n):=hr.later (Qkk w n);have hml:(L.mergeSort λx y=>decide (x<=y)).length=L.length:=Q33 L;have h2:=h1.putInts hi hβ' hml (hH0 n) L.length (Q14 _);rw[Q2f (by omega),Q6c (Q14 _),Q2k]at h2;have h3:=h2.later (Qm2 _ os);exact⟨_,κ,.tup [],_,rfl,K.le_refl κ,h3,.tup [] [] rfl (by simp),rfl,rfl⟩
end
section
section
variable{P:Program}{tn tm bd mn ed tint:Nat}
def Has.scCmp{f cmpI:FuncId}(hf:Has P f (Qk2 cmpI ed))(hc:∀(a b:Int) (H:Hp),Qc P cmpI [YI a,YI b] H (λr H'=>r=YI (Vx a b)/\H'=H))(x y:Int×Int)(H:Hp):
 Qc P f [.agg (rowE Q2 x),.agg (rowE Q2 y)] H (λr H'=>r=YI (cBad x y)/\H'=H):=by
 obtain⟨fn,hff,hcf⟩:=hf;refine Qy hff hcf (by simp[Qk2]) λO _=>?_;obtain⟨a1,c1⟩:=x;obtain⟨a2,c2⟩:=y;simp[Qk2,rowE,Q2];refine Qa (hc _ _ _) ?_;simp[RetK,resA,Qd O,cBad]
end
end
end Go.Zam
namespace Go.Proofs.Zw
section
open Go Go.Zam Go.Proofs
def rcf70:Qn Tryz.prog [6] Tryz.f70=some (Qh5 100 101 102 47):=by kernel_rfl
def rcf100:Qn Tryz.prog [] Tryz.f100=some (Qk5 147):=by kernel_rfl
def rcf147:Qn Tryz.prog [] Tryz.f147=some (Y5 173):=by kernel_rfl
def rcf173:Qn Tryz.prog [] Tryz.f173=some (Qh7):=by kernel_rfl
def rcf101:Qn Tryz.prog [] Tryz.f101=some (Qh6):=by kernel_rfl
def rcf102:Qn Tryz.prog [] Tryz.f102=some (Qk4 53 52 51 148):=by kernel_rfl
def rcf148:Qn Tryz.prog [] Tryz.f148=some (Zq):=by kernel_rfl
def rcf49:Qn Tryz.prog [] Tryz.f49=some (Qoy 70 71 37):=by kernel_rfl
def rcf71:Qn Tryz.prog [] Tryz.f71=some (Qa1 103 104 37 190):=by kernel_rfl
def rcf104:Qn Tryz.prog [] Tryz.f104=some (Qdp 104 37):=by kernel_rfl
def rcf64:Qn Tryz.prog [] Tryz.f64=some (Vs 95):=by kernel_rfl
def rcf95:Qn Tryz.prog [] Tryz.f95=some (Qao 143 144):=by kernel_rfl
def rcf143:Qn Tryz.prog [] Tryz.f143=some (Vg 2):=by kernel_rfl
def rcf171:Qn Tryz.prog [] Tryz.f171=some (Z2 189):=by kernel_rfl
def rcf189:Qn Tryz.prog [] Tryz.f189=some (Y4 2):=by kernel_rfl
def rcf42:Qn Tryz.prog [] Tryz.f42=some (V5 59):=by kernel_rfl
def rcf59:Qn Tryz.prog [] Tryz.f59=some (Qap):=by kernel_rfl
def rcf65:Qn Tryz.prog [] Tryz.f65=some (Qk2 42 139):=by kernel_rfl
def rcf144:Qn Tryz.prog [] Tryz.f144=some (Zn 2 171 144):=by kernel_rfl
def rcf44:Qn Tryz.prog [5000003,8200003,6000034,6000043] Tryz.f44=some (Qmf 62 63 64 65 37 74 134 82 116 139):=by kernel_rfl
def rcf50:Qn Tryz.prog [10,11] Tryz.f50=some (Qk1 72 73 37 42 151 51 254):=by kernel_rfl
def Q07(s:Bs)(hs:s.length<=1048576)(H:Hp):
 Qc Tryz.prog 70 [YS s] H (λr H'=>r=.tup [YL true 4 ((lexS s).1.map Qp),YI (lexS s).2.1,YI (lexS s).2.2]/\H'=H):=
 HasT.lex4 ⟨_,Tryz.func70,rcf70⟩
  (λs H hs=>Has.bad3 ⟨_,Tryz.func100,rcf100⟩ (λs n hn hl H=>Has.next3 ⟨_,Tryz.func147,rcf147⟩ (Has.more3 ⟨_,Tryz.func173,rcf173⟩) s n hn hl H) s hs H)
  (λs n hn hl H=>Has.lead4 ⟨_,Tryz.func101,rcf101⟩ s n hn hl H)
  (λs n hn hl H=>Has.one4 ⟨_,Tryz.func102,rcf102⟩ Qnr Qp2 Qp0 (λs H hs=>Has.unquote3 ⟨_,Tryz.func148,rcf148⟩ s hs H) s n hn hl H) s hs H
def Rf:RF:={is:=149,word:=174,want:=175,ended:=152,use_:=150,def_:=151,lambda:=176,typed:=191,params:=190,kind:=204,block:=192,stmt:=205,expr:=213,sum:=216,term:=219,post:=225,atom:=231,file:=103,tn:=37,tt:=47,tr:=190}
def rHas:RHasA Tryz.prog Rf where
 is:=⟨_,Tryz.func149,by kernel_rfl⟩
 word:=⟨_,Tryz.func174,by kernel_rfl⟩;want:=⟨_,Tryz.func175,by kernel_rfl⟩;ended:=⟨_,Tryz.func152,by kernel_rfl⟩;use_:=⟨_,Tryz.func150,by kernel_rfl⟩;def_:=⟨_,Tryz.func151,by kernel_rfl⟩;lambda:=⟨_,Tryz.func176,by kernel_rfl⟩;typed:=⟨_,Tryz.func191,by kernel_rfl⟩;params:=⟨_,Tryz.func190,by kernel_rfl⟩;kind:=⟨_,Tryz.func204,by kernel_rfl⟩;block:=⟨_,Tryz.func192,by kernel_rfl⟩;stmt:=⟨_,Tryz.func205,by kernel_rfl⟩;expr:=⟨_,Tryz.func213,by kernel_rfl⟩;sum:=⟨_,Tryz.func216,by kernel_rfl⟩;term:=⟨_,Tryz.func219,by kernel_rfl⟩;post:=⟨_,Tryz.func225,by kernel_rfl⟩;atom:=⟨_,Tryz.func231,by kernel_rfl⟩;file:=⟨_,Tryz.func103,by kernel_rfl⟩
def Qyz(s:Bs)(hs:s.length<=1048576)(H:Hp):
 Qc Tryz.prog 49 [YS s] H (λr H'=>r=.tup [YL true 4 ((Qx s).1.map Qp),(Qx s).2.1.v,YI (Qx s).2.2.1,YI (Qx s).2.2.2]/\H'=H):=
 Has.of7 ⟨_,Tryz.func49,rcf49⟩ (λs hs H=>Q07 s hs H) (λz L hL H=>Has.parse7 (R:=Rf) ⟨_,Tryz.func71,rcf71⟩ rHas ⟨_,Tryz.func104,rcf104⟩ hL H) s hs H
def Sf:SF:={wrong:=91,bind:=62,within:=92,res:=139,node:=94,nodeC:=140,kids:=141,mention:=142,find:=170,closed:=63,closedC:=93,cmp:=65,srt:=64,cmpI:=42,tn:=37,tp:=129,ts:=35,tfp:=132,tf:=179,tb:=134,tm:=74,bd:=82,mn:=116,ed:=139}
def sHas:SHas Tryz.prog Sf where
 wrong:=⟨_,Tryz.func91,by kernel_rfl⟩
 bind:=⟨_,Tryz.func62,by kernel_rfl⟩;res:=⟨_,Tryz.func139,by kernel_rfl⟩;kRes:=by kernel_rfl
 node:=⟨_,Tryz.func94,by kernel_rfl⟩;nodeC:=⟨_,Tryz.func140,by kernel_rfl⟩;kNodeC:=by kernel_rfl
 kids:=⟨_,Tryz.func141,by kernel_rfl⟩;mention:=⟨_,Tryz.func142,by kernel_rfl⟩;find:=⟨_,Tryz.func170,by kernel_rfl⟩;closed:=⟨_,Tryz.func63,by kernel_rfl⟩;closedC:=⟨_,Tryz.func93,by kernel_rfl⟩;kClosedC:=by kernel_rfl
def sHasW:HasW Tryz.prog Sf:=⟨_,Tryz.func92,by kernel_rfl⟩
def Rs:RSF:={rbind:=72,rclosed:=73,rbegin:=105,rnode:=106,rmention:=153,tn:=37,rtm:=42,rnm:=192,red:=151,rbd:=51,rmn:=254}
def rsHas:RSHas Tryz.prog Rs where
 rbind:=⟨_,Tryz.func72,by kernel_rfl⟩
 rclosed:=⟨_,Tryz.func73,by kernel_rfl⟩;rbegin:=⟨_,Tryz.func105,by kernel_rfl⟩;rnode:=⟨_,Tryz.func106,by kernel_rfl⟩;rmention:=⟨_,Tryz.func153,by kernel_rfl⟩
def Qsm:∀x,(Q2 x).length=2:=λ_=>rfl
def cmpB:CmpA Tryz.prog Q2 cBad (.d (.fn 65)):=λH x y Q t hq=>by simp only[Qx5];exact⟨by kernel_rfl,Vj (Has.scCmp (ed:=139) (cmpI:=42) ⟨_,Tryz.func65,rcf65⟩ (λa b H=>Qjx Tryz.func42 rcf42 Tryz.func59 rcf59 a b) x y H) hq⟩
def srtOk(H:Hp)(i:Nat)(L:List (Int×Int))(hi:H[i]?=some (arrE Q2 2 L))(hl:L.length<=1099511627776):Qc Tryz.prog 64 [.msl i 0 L.length,.d (.fn 65)] H (λr H'=>r=.tup []/\H'=H.set i (arrE Q2 2 (ssort cBad L))):=Qda Qsm Z4 Tryz.func64 rcf64 Tryz.func95 rcf95 Tryz.func143 rcf143 Tryz.func144 rcf144 Tryz.func171 rcf171 Tryz.func189 rcf189 cmpB (λm _=>by simp) hi hl
def Q0q(H:Hp):Qc Tryz.prog 64 [YL true 2 [],.d (.fn 65)] H (λr H'=>r=.tup []/\H'=H):=Qcp (sz:=2) Tryz.func64 rcf64 Tryz.func95 rcf95 Tryz.func143 rcf143 (λm _=>by simp)
def Qyt(n:N)(hn:n.size<=68719476736)(H:Hp):Qc Tryz.prog 44 [n.v] H (λr H'=>r=.agg ((V2 n).enc.map .d)/\H'=H):=sHas.of' sHasW ⟨_,Tryz.func44,rcf44⟩ srtOk Q0q n hn H
def Qr8(n:N)(hn:n.size<=68719476736)(H:Hp):Qc Tryz.prog 50 [n.v] H (λr H'=>r=.agg ((V2 n).encR.map .d)/\H'=H):=by have:=rsHas.of' ⟨_,Tryz.func50,rcf50⟩ n hn H;rw[<-Qm3]at this;exact this
end
end Go.Proofs.Zw
namespace Go.Zam
variable{P:Program}
section
open Go.Proofs
def Qg9(loaded awake label rfind tokAtR rIsLabel items words rLabels same labels tSp tBe:Nat):IFn:=by
 have h:=Ix.J [] Tryz.f3 [(4,loaded),(5,awake),(6,label),(7,rfind),(8,tokAtR),(9,rIsLabel),(10,items),(12,words),(13,rLabels),(11,same),(14,labels)] [(24,tSp),(51,tBe)];conv at h=>arg 1;reduce
 exact h.p
def Qg6(light load rload:Nat):IFn:=by
 have h:=Ix.J [] Tryz.f4 [(15,light),(16,load),(17,rload)] [];conv at h=>arg 1;reduce
 exact h.p
def Qjs(load ixAt places tSy:Nat):IFn:=by
 have h:=Ix.J [] Tryz.f5 [(16,load),(18,ixAt),(19,places)] [(53,tSy)];conv at h=>arg 1;reduce
 exact h.p
def Qsi(unit tokAt mapAt ixOf tSp tSy tU:Nat):IFn:=by
 have h:=Ix.J [] Tryz.f18 [(20,unit),(21,tokAt),(33,mapAt),(34,ixOf)] [(24,tSp),(53,tSy),(76,tU)];conv at h=>arg 1;reduce
 exact h.p
def Qjn(names unit tU tTk tSp:Nat):IFn:=by
 have h:=Ix.J [5] Tryz.f12 [(26,names),(20,unit)] [(76,tU),(47,tTk),(24,tSp)];conv at h=>arg 1;reduce
 exact h.p
def Qio:IFn:=by
 have h:=Ix.J [] Tryz.f11 [] [];conv at h=>arg 1;reduce
 exact h.p
def Qjq(unit tokAt walk labelC tSp tU t3 t9 t4:Nat):IFn:=by
 have h:=Ix.J [] Tryz.f6 [(20,unit),(21,tokAt),(22,walk),(23,labelC)] [(24,tSp),(76,tU),(3,t3),(9,t9),(4,t4)];conv at h=>arg 1;reduce
 exact h.p
def Qg5:IFn:=by
 have h:=Ix.J [] Tryz.f8 [] [];conv at h=>arg 1;reduce
 exact h.p
def Qei(listN tR:Nat):IFn:=by
 have h:=Ix.J [] Tryz.f9 [(25,listN)] [(44,tR)];conv at h=>arg 1;reduce
 exact h.p
def Qjr(unit tU tBd tSy:Nat):IFn:=by
 have h:=Ix.J [7] Tryz.f10 [(20,unit)] [(76,tU),(82,tBd),(53,tSy)];conv at h=>arg 1;reduce
 exact h.p
def Qfu(rIsLabel tTk tSp:Nat):IFn:=by
 have h:=Ix.J [7] Tryz.f13 [(9,rIsLabel)] [(47,tTk),(24,tSp)];conv at h=>arg 1;reduce
 exact h.p
def Qg8(names unit walk ixSort labelsC t9 t53 tU:Nat):IFn:=by
 have h:=Ix.J [] Tryz.f14 [(26,names),(20,unit),(22,walk),(28,ixSort),(27,labelsC)] [(9,t9),(55,t53),(76,tU)];conv at h=>arg 1;reduce
 exact h.p
def Qjo(tTk:Nat):IFn:=by
 have h:=Ix.J [] Tryz.f21 [] [(47,tTk)];conv at h=>arg 1;reduce
 exact h.p
def Qjp(tMap tBd tMn:Nat):IFn:=by
 have h:=Ix.J [] Tryz.f33 [] [(74,tMap),(82,tBd),(116,tMn)];conv at h=>arg 1;reduce
 exact h.p
def Qo0(imp unit tU tBd tSy tIm:Nat):IFn:=by
 have h:=Ix.J [] Tryz.f34 [(54,imp),(20,unit)] [(76,tU),(82,tBd),(53,tSy),(118,tIm)];conv at h=>arg 1;reduce
 exact h.p
def Qft(sortFn Qxy:Nat):IFn:=by
 have h:=Ix.J [] Tryz.f28 [(39,sortFn),(40,Qxy)] [];conv at h=>arg 1;reduce
 exact h.p
def Qfs(walk tN:Nat):IFn:=by
 have h:=Ix.J [] Tryz.f22 [(22,walk)] [(37,tN)];conv at h=>arg 1;reduce
 exact h.p
def Qej(isLabel tN:Nat):IFn:=by
 have h:=Ix.J [] Tryz.f23 [(24,isLabel)] [(37,tN)];conv at h=>arg 1;reduce
 exact h.p
def Qfw(tN:Nat):IFn:=by
 have h:=Ix.J [] Tryz.f24 [] [(37,tN)];conv at h=>arg 1;reduce
 exact h.p
end
section
open Go.Proofs
def fstI{α:Type}(p:α->Bool):List α->Int->Int
 |[],_=>-1
 |x::r,i=>if p x then i else fstI p r (i+1)
def tkIn(a:Int)(t:Tk):Bool:=decide (t.k≠0/\(t.a:Int)<=a/\a<t.a+t.x.length)
def Qbf(a:Int)(t:Tk):Bool:=decide (t.k=1/\a=t.a+t.x.length)
def tkAt(L:List Tk)(a:Int):Int:=if fstI (tkIn a) L 0=-1 then fstI (Qbf a) L 0 else fstI (tkIn a) L 0
def Has.ixTokAt{f tTk:Nat}(h:Has P f (Qjo tTk))(L:List Tk)(z:Bool)(a:Int)(hl:L.length<=1099511627776)(hb:∀t∈L,(t.a:Int)+t.x.length<=1099511627776)(H:Hp):
 Qc P f [YL z 4 (L.map Qp),YI a] H (λr H'=>r=YI (tkAt L a)/\H'=H):=by
 refine Qe h (by simp[Qjo]) λO _=>?_;simp[Qjo];refine Qm 0 (λfr H'=>fr 0=YL z 4 (L.map Qp)/\fr 1=YI a/\fstI (tkIn a) L 0=-1/\H'=H) (λfr H'=>fr 4=YI (tkAt L a)/\∃X,H'=H++X) ?_ ?_ ?_
 .refine Q8 H.length L.length (λj fr H'=>fr 0=YL z 4 (L.map Qp)/\fr 1=YI a/\fr 9=YL z 4 (L.map Qp)/\fstI (tkIn a) L 0=fstI (tkIn a) (L.drop j) j/\H'=H) (by omega) (by decide) (by simp) (by simp) ?_ ?_ ?_
  .simp[Qb O]
  .rintro j fr H' hj fi fn ⟨f0,f1,f9,hd,rfl⟩;obtain⟨t,ht⟩:∃t,L[j]?=some t:=⟨_,Q12 hj⟩;have hdr:L.drop j=t::L.drop (j+1):=by rw[Q2o hj];congr 1;rw[Q12 hj]at ht;cases ht;rfl
   rw[hdr]at hd;simp only[fstI]at hd;have hr:Zam.rowAt (L.map Qp) (j:Int)=some [.int .i64 t.k,.int .i64 (t.a:Int),.str t.l,.str t.x]:=by simp[Zam.rowAt,ht,Qp]
   have hbt:=hb t (Q2p ht);have hw:IntKind.i64.wrap ((t.a:Int)+t.x.length)=t.a+t.x.length:=wi64 (by omega);by_cases hp:tkIn a t=true
   .rw[if_pos hp]at hd;have hat:tkAt L a=j:=by unfold tkAt;rw[hd,if_neg (by omega)]
    unfold tkIn at hp;simp at hp;obtain⟨p1,p2,p3⟩:=hp;simp[fi,f9,hr,f1,p1,p2,p3,hw,hat]
   .rw[if_neg hp]at hd;have hnext:∀fr2:Fr,fr2 0=YL z 4 (L.map Qp)->fr2 1=YI a->fr2 9=YL z 4 (L.map Qp)->True:=λ_ _ _ _=>trivial;unfold tkIn at hp;by_cases p1:t.k=0
    .simp[fi,f9,hr,f1,p1];refine Q3 H'.length (Q14 _) (by simp[fi,fn]) ?_;simp[f0,f1,f9,Qd O,hd]
    .by_cases p2:(t.a:Int)<=a
     .have p3:¬a<t.a+t.x.length:=λp3=>hp (by simp[p1,p2,p3]);simp[fi,f9,hr,f1,p1,p2,p3,hw];refine Q3 H'.length (Q14 _) (by simp[fi,fn]) ?_;simp[f0,f1,f9,Qd O,hd]
     .simp[fi,f9,hr,f1,p1,p2];refine Q3 H'.length (Q14 _) (by simp[fi,fn]) ?_;simp[f0,f1,f9,Qd O,hd]
  .rintro fr H' fi fn ⟨f0,f1,f9,hd,rfl⟩;rw[Q5k]at hd;simp[f0,f1];exact hd
 .rintro fr H' ⟨f4,X,rfl⟩;simp[f4];simp[RetK,Qd O]
 .rintro fr H' ⟨f0,f1,h1,rfl⟩;have hat:tkAt L a=fstI (Qbf a) L 0:=by unfold tkAt;rw[if_pos h1]
  rw[hat];simp[f0];refine Qm 2 (λfr H2=>fstI (Qbf a) L 0=-1/\H2=H') (λfr H2=>fr 4=YI (fstI (Qbf a) L 0)/\∃X,H2=H'++X) ?_ ?_ ?_
  .refine Q8 H'.length L.length (λj fr H2=>fr 1=YI a/\fr 37=YL z 4 (L.map Qp)/\fstI (Qbf a) L 0=fstI (Qbf a) (L.drop j) j/\H2=H') (by omega) (by decide) (by simp) (by simp) ?_ ?_ ?_
   .simp[f1,Qb O]
   .rintro j fr H2 hj fi fn ⟨f1,f37,hd,rfl⟩;obtain⟨t,ht⟩:∃t,L[j]?=some t:=⟨_,Q12 hj⟩;have hdr:L.drop j=t::L.drop (j+1):=by rw[Q2o hj];congr 1;rw[Q12 hj]at ht;cases ht;rfl
    rw[hdr]at hd;simp only[fstI]at hd;have hr:Zam.rowAt (L.map Qp) (j:Int)=some [.int .i64 t.k,.int .i64 (t.a:Int),.str t.l,.str t.x]:=by simp[Zam.rowAt,ht,Qp]
    have hbt:=hb t (Q2p ht);have hw:IntKind.i64.wrap ((t.a:Int)+t.x.length)=t.a+t.x.length:=wi64 (by omega);by_cases p1:t.k=1
    .by_cases p2:a=t.a+t.x.length
     .rw[if_pos (by unfold Qbf;simp[p1,p2])]at hd;rw[hd];simp[fi,f37,hr,f1,p1,hw];refine Qh (λh=>?_) (λh=>absurd p2 (by simpa using h));simp
     .rw[if_neg (by unfold Qbf;simp[p2])]at hd;simp[fi,f37,hr,f1,p1,hw,p2];refine Q3 H2.length (Q14 _) (by simp[fi,fn]) ?_;simp[f1,f37,Qd O,hd]
    .rw[if_neg (by unfold Qbf;simp[p1])]at hd;simp[fi,f37,hr,f1,p1];refine Q3 H2.length (Q14 _) (by simp[fi,fn]) ?_;simp[f1,f37,Qd O,hd]
   .rintro fr H2 fi fn ⟨f1,f37,hd,rfl⟩;rw[Q5k]at hd;simp;exact hd
  .rintro fr H2 ⟨f4,X,rfl⟩;simp[f4];simp[RetK,Qd O]
  .rintro fr H2 ⟨h2,rfl⟩;simp[h2];simp[RetK,Qb O,h2]
end
section
open Go.Proofs
def fdM(t:Int):List Mn->Int
 |[]=>-1
 |m::r=>if m.a=t then m.t else fdM t r
def bdAt(t:Int)(b:SBd):Bool:=decide (b.a=t)
def mapAt(S:SM)(t:Int):Int:=if fstI (bdAt t) S.bs 0=-1 then fdM t S.ms else fstI (bdAt t) S.bs 0
def Has.ixMapAt{f tMap tBd tMn:Nat}(h:Has P f (Qjp tMap tBd tMn))(S:SM)(t:Int)(hl:S.sz<=1099511627776)(H:Hp):
 Qc P f [.agg (S.enc.map .d),YI t] H (λr H'=>r=YI (mapAt S t)/\H'=H):=by
 refine Qe h (by simp[Qjp]) λO _=>?_;unfold SM.sz at hl;simp[Qjp,SM.enc];generalize hbx:Ob.box tMap [A.d (.sl S.bs.isEmpty 4 (S.bs.map Qw)),A.d (.sl S.ms.isEmpty 4 (S.ms.map Ya)),A.d (.sl S.bad.isEmpty 2 (S.bad.map Q2))]=bx;refine Qm 0 (λfr H'=>fr 1=YI t/\fr 2=.ptr H.length 0/\fstI (bdAt t) S.bs 0=-1/\H'=H++[bx]) (λfr H'=>fr 4=YI (mapAt S t)/\∃X,H'=H++X) ?_ ?_ ?_
 .refine Q8 (H.length+1) S.bs.length (λj fr H'=>fr 1=YI t/\fr 2=.ptr H.length 0/\fr 10=YL S.bs.isEmpty 4 (S.bs.map Qw)/\fstI (bdAt t) S.bs 0=fstI (bdAt t) (S.bs.drop j) j/\H'=H++[bx]) (by omega) (by decide) (by simp[<-hbx]) (by simp[<-hbx]) ?_ ?_ ?_
  .simp[Qi O,<-hbx]
  .rintro j fr H' hj fi fn ⟨f1,f2,f10,hd,rfl⟩;obtain⟨b,hb⟩:∃b,S.bs[j]?=some b:=⟨_,Q12 hj⟩;have hdr:S.bs.drop j=b::S.bs.drop (j+1):=by rw[Q2o hj];congr 1;rw[Q12 hj]at hb;cases hb;rfl
   rw[hdr]at hd;simp only[fstI]at hd;have hr:Zam.rowAt (S.bs.map Qw) (j:Int)=some [.int .i64 b.a,.int .i64 b.k,.str b.w,.int .i64 b.i]:=by simp[Zam.rowAt,hb,Qw]
   by_cases hp:b.a=t
   .rw[if_pos (by simpa[bdAt]using hp)]at hd;have hat:mapAt S t=j:=by unfold mapAt;rw[hd,if_neg (by omega)]
    simp[fi,f10,hr,f1,hp,hat]
   .rw[if_neg (by simpa[bdAt]using hp)]at hd;simp[fi,f10,hr,f1,hp];refine Q3 (H.length+1) (Q14 _) (by simp[fi,fn]) ?_;simp[f1,f2,f10,Qi O,hd,<-hbx]
  .rintro fr H' fi fn ⟨f1,f2,f10,hd,rfl⟩;rw[Q5k]at hd;simp[f1,f2];exact hd
 .rintro fr H' ⟨f4,X,rfl⟩;simp[f4];simp[RetK,Qd O]
 .rintro fr H' ⟨f1,f2,h1,rfl⟩;have hat:mapAt S t=fdM t S.ms:=by unfold mapAt;rw[if_pos h1]
  rw[hat];simp[f2,<-hbx];refine Qm 2 (λfr H2=>fdM t S.ms=-1/\∃X,H2=H++X) (λfr H2=>fr 4=YI (fdM t S.ms)/\∃X,H2=H++X) ?_ ?_ ?_
  .refine Q8 (H.length+1) S.ms.length (λj fr H2=>fr 1=YI t/\fr 24=YL S.ms.isEmpty 4 (S.ms.map Ya)/\fdM t S.ms=fdM t (S.ms.drop j)/\H2=H++[bx]) (by omega) (by decide) (by simp) (by simp) ?_ ?_ ?_
   .simp[f1,Qi O,<-hbx]
   .rintro j fr H2 hj fi fn ⟨f1,f24,hd,rfl⟩;obtain⟨m,hm⟩:∃m,S.ms[j]?=some m:=⟨_,Q12 hj⟩;have hdr:S.ms.drop j=m::S.ms.drop (j+1):=by rw[Q2o hj];congr 1;rw[Q12 hj]at hm;cases hm;rfl
    rw[hdr]at hd;simp only[fdM]at hd;have hr:Zam.rowAt (S.ms.map Ya) (j:Int)=some [.int .i64 m.a,.int .i64 m.t,.bool m.wr,.int .i64 m.far]:=by simp[Zam.rowAt,hm,Ya]
    by_cases hp:m.a=t
    .rw[if_pos hp]at hd;rw[hd];simp[fi,f24,hr,f1,hp]
    .rw[if_neg hp]at hd;simp[fi,f24,hr,f1,hp];refine Q3 (H.length+1) (Q14 _) (by simp[fi,fn]) ?_;simp[f1,f24,Qi O,hd,<-hbx]
   .rintro fr H2 fi fn ⟨f1,f24,hd,rfl⟩;rw[Q5k]at hd;simp;exact hd
  .rintro fr H2 ⟨f4,X,rfl⟩;simp[f4];simp[RetK,Qd O]
  .rintro fr H2 ⟨h2,X,rfl⟩;simp[h2];simp[RetK,Qd O,h2]
end
section
open Go.Proofs
def ofSy(S:List Un)(u:Un)(b:SBd):Bs×Int:=
 if b.k=1 then(match Vo S (modN u b).w with
  |some v=>match v.sm.bs[(itU b.w v.sm.bs 0 (-1)).toNat]? with
   |some c=>if 0<=itU b.w v.sm.bs 0 (-1)then((modN u b).w,c.a)else(u.n,b.a)
   |none=>(u.n,b.a)
  |none=>(u.n,b.a))else(u.n,b.a)
def Has.ixOf{f imp unit tU tBd tSy tIm:Nat}{S:List Un}(h:Has P f (Qo0 imp unit tU tBd tSy tIm))(u:Un)(hu:Qep P S unit)(hi:Q0d P S u imp)(b:SBd)(hb:b∈u.sm.bs)(H:Hp):
 Qc P f [pA S,.agg (u.enc.map .d),.agg ((Qw b).map .d)] H (λr H'=>r=.agg [YS (ofSy S u b).1,YI (ofSy S u b).2]/\H'=H):=by
 refine Qe h (by simp[Qo0]) λO _=>?_;obtain⟨zu,ms,he⟩:=u.enc_all;have him:=λX=>hi b hb (H++X);rw[he]at him;simp only[Qw,Q2w,Q25]at him;by_cases hk:b.k=1
 .have hI1:(impU S u b).1=(modN u b).w:=by rw[impU,if_pos hk]
  have hI2:(impU S u b).2=(Vo S (modN u b).w).elim (-1) λv=>itU b.w v.sm.bs 0 (-1):=by rw[impU,if_pos hk]
  rw[hI1,hI2,hk]at him;have hun:=hu (modN u b).w;unfold ofSy;rw[if_pos hk];generalize modN u b=m at*;simp[Qo0,he,Qw,hk];refine Qa (him _) ?_;simp;refine Qa (hun _) ?_;cases hv:Vo S m.w with
  |none=>simp[zU];simp[RetK,Qd O]
  |some v=>
   obtain⟨zv,mv,hve⟩:=v.enc_all;simp only[hve,Q4w,Q4m];rcases Qmb (w:=b.w) (l:=v.sm.bs) (i:=0) (p:=-1)with h|⟨q,c,g1,g2,g3,g4⟩
   .have hres:(match v.sm.bs[(itU b.w v.sm.bs 0 (-1)).toNat]? with
     |some c=>if 0<=itU b.w v.sm.bs 0 (-1)then(m.w,c.a)else(u.n,b.a)
     |none=>(u.n,b.a))=(u.n,b.a):=by
     rw[h];cases v.sm.bs[(-1:Int).toNat]?<;>simp
    rw[hres];simp[h];simp[RetK,Qd O]
   .rw[Q6g]at g1;have hrc:Zam.rowAt (v.sm.bs.map Qw) (q:Int)=some [.int .i64 c.a,.int .i64 c.k,.str c.w,.int .i64 c.i]:=by simp[Zam.rowAt,g2,Qw]
    have hres:(match v.sm.bs[(itU b.w v.sm.bs 0 (-1)).toNat]? with
     |some c=>if 0<=itU b.w v.sm.bs 0 (-1)then(m.w,c.a)else(u.n,b.a)
     |none=>(u.n,b.a))=(m.w,c.a):=by
     rw[g1,Q31,g2];simp
    rw[hres];simp[g1,hrc];simp[RetK,Qd O]
 .have hI:ofSy S u b=(u.n,b.a):=by rw[ofSy,if_neg hk]
  rw[hI];simp[Qo0,he,Qw,hk];simp[RetK,Qd O]
end
section
open Go.Proofs
def atSy(S:List Un)(m:Bs)(a:Int):Option (Bs×Int):=match Vo S m with
 |none=>none
 |some u=>if tkAt u.tk a<0 then none else if mapAt u.sm (tkAt u.tk a)<0 then none else(u.sm.bs[(mapAt u.sm (tkAt u.tk a)).toNat]?).map λb=>ofSy S u b
def Qpg(P:Program)(f:Nat):Prop:=∀(L:List Tk)(z:Bool)(a:Int),L.length<=1099511627776->(∀t∈L,(t.a:Int)+t.x.length<=1099511627776)->∀H,Qc P f [YL z 4 (L.map Qp),YI a] H (λr H'=>r=YI (tkAt L a)/\H'=H)
def Quc(P:Program)(f:Nat):Prop:=∀(S:SM)(t:Int),S.sz<=1099511627776->∀H,Qc P f [.agg (S.enc.map .d),YI t] H (λr H'=>r=YI (mapAt S t)/\H'=H)
def Qtb(P:Program)(S:List Un)(f:Nat):Prop:=∀u∈S,∀b∈u.sm.bs,∀H,Qc P f [pA S,.agg (u.enc.map .d),.agg ((Qw b).map .d)] H (λr H'=>r=.agg [YS (ofSy S u b).1,YI (ofSy S u b).2]/\H'=H)
def Un.enc_sm(u:Un):∃a b c d e f g h i k m,u.enc=[a,b,.sl true 4 (u.tk.map Qp),c,d,e,f,g,h,.sl u.sm.bs.isEmpty 4 (u.sm.bs.map Qw),.sl u.sm.ms.isEmpty 4 (u.sm.ms.map Ya),.sl u.sm.bad.isEmpty 2 (u.sm.bad.map Q2),i,k]/\m=0:=by obtain⟨n,t,tk,⟨k,f,to,w,a,z,ks⟩,sm,b,p⟩:=u;exact⟨_,_,_,_,_,_,_,_,_,_,0,by simp[Un.enc,N.enc_mk,SM.enc];exact⟨rfl,rfl,rfl,rfl,rfl,rfl,rfl,rfl,rfl,rfl⟩,rfl⟩
def Has.ixAt{f unit tokAt mapAt_ ixOf tSp tSy tU:Nat}{S:List Un}(h:Has P f (Qsi unit tokAt mapAt_ ixOf tSp tSy tU))(hu:Qep P S unit)(hT:Qpg P tokAt)(hM:Quc P mapAt_)(hO:Qtb P S ixOf)(hs:∀u∈S,u.tk.length<=1099511627776/\(∀t∈u.tk,(t.a:Int)+t.x.length<=1099511627776)/\u.sm.sz<=1099511627776)(hmt:∀u∈S,∀t,mapAt u.sm t<u.sm.bs.length)(m:Bs)(a:Int)(H:Hp):
 Qc P f [pA S,.agg [YS m,YI a]] H (λr H'=>r=.tup [.agg [YS ((atSy S m a).elim [] Prod.fst),YI ((atSy S m a).elim 0 Prod.snd)],YB (atSy S m a).isSome]/\H'=H):=by
 refine Qe h (by simp[Qsi]) λO _=>?_;have hun:=λX=>hu m (H++X);unfold atSy;simp[Qsi];cases hv:Vo S m with
 |none=>rw[hv]at hun;simp only[Option.elim_none,Option.isSome_none,zU,Q2w,Q25]at hun;refine Qa (hun _) ?_;simp;simp[RetK,Qd O]
 |some u=>
  have huS:=Qi4 hv;obtain⟨s1,s2,s3⟩:=hs u huS;rw[hv]at hun;have ht:=λX=>hT u.tk true a s1 s2 (H++X);have hmm:=λX=>hM u.sm (tkAt u.tk a) s3 (H++X);have hlt:=hmt u huS (tkAt u.tk a);have hof:=λb hb X=>hO u huS b hb (H++X);obtain⟨x1,x2,x3,x4,x5,x6,x7,x8,x9,x10,-,he,-⟩:=u.enc_sm;simp only[Q4w,Q4m]at hun;rw[he]at hun hof;simp only[Q2w,Q25,SM.enc,Qw]at hun hof hmm;refine Qa (hun _) ?_;simp;refine Qa (ht _) ?_;by_cases h1:tkAt u.tk a<0
  .simp[h1];simp[RetK,Qd O,h1]
  .simp[h1];refine Qa (hmm _) ?_;by_cases h2:mapAt u.sm (tkAt u.tk a)<0
   .simp[h2];simp[RetK,Qd O,h1,h2]
   .obtain⟨q,hq⟩:∃q:Nat,mapAt u.sm (tkAt u.tk a)=q:=⟨(mapAt u.sm (tkAt u.tk a)).toNat,by omega⟩;rw[hq]at hlt h2⊢;obtain⟨b,hb⟩:∃b,u.sm.bs[q]?=some b:=⟨_,Q12 (by omega)⟩;have hrb:Zam.rowAt (u.sm.bs.map Qw) (q:Int)=some [.int .i64 b.a,.int .i64 b.k,.str b.w,.int .i64 b.i]:=by simp[Zam.rowAt,hb,Qw]
    have hof:=hof b (Q2p hb);simp[h2,hrb,hb];refine Vj (hof _) ?_;simp;simp[RetK,Qd O,h1,hb]
end
section
open Go.Proofs
def Ws(m:Bs)(l:List SBd):List (List D):=(l.filter λb=>decide (b.k<=2)).map λb=>[.str m,.int .i64 b.a]
def Qec(S:List Un)(m:Bs):List (List D):=(Vo S m).elim [] λu=>Ws m u.sm.bs
def Qbl{m:Bs}{l:List SBd}{j:Nat}{b:SBd}(h:l[j]?=some b):Ws m (l.take (j+1))=Ws m (l.take j)++if b.k<=2 then[[.str m,.int .i64 b.a]]else[]:=by rw[Q39,h];unfold Ws;by_cases hk:b.k<=2<;>simp[hk]
def Qed(m:Bs)(l:List SBd):(Ws m l).length<=l.length:=by unfold Ws;rw[Q2y];exact Q4n _ _
def HasT.ixItems{f unit tU tBd tSy:Nat}{S:List Un}(h:HasT P [7] f (Qjr unit tU tBd tSy))(hu:Qep P S unit)(hs:∀u∈S,u.sm.bs.length<=1073741824)(m:Bs)(H:Hp):
 Qc P f [pA S,YS m] H (λr H'=>r=YL true 2 (Qec S m)/\H'=H):=by
 refine Qe h (by simp[Qjr]) λO _=>?_;have hun:=hu m H;obtain⟨u,hue,hul,hui⟩:∃u:Un,((Vo S m).elim zU Un.enc)=u.enc/\u.sm.bs.length<=1073741824/\Qec S m=Ws m u.sm.bs:=by
  unfold Qec;cases hv:Vo S m with
  |none=>exact⟨noU,Qy2.symm,by decide,rfl⟩
  |some u=>exact⟨u,rfl,hs u (Qi4 hv),rfl⟩
 rw[hue]at hun;rw[hui];generalize(Vo S m).isSome=ok at hun;obtain⟨zu,ms,he⟩:=u.enc_all;rw[he]at hun;simp only[Q2w,Q25]at hun;simp[Qjr];refine Qa hun ?_;simp;generalize hbx:Ob.box tU [A.d (.str u.n),A.d (.str u.t),A.d (.sl true 4 (u.tk.map Qp)),A.d (.int .i64 u.tr.k),A.d (.int .i64 u.tr.f),A.d (.int .i64 u.tr.t),A.d (.str u.tr.w),A.d (.int .i64 u.tr.at_),A.d (.sl zu 6 (u.tr.ks.map N.enc)),A.d (.sl u.sm.bs.isEmpty 4 (u.sm.bs.map Qw)),A.d ms,A.d (.sl u.sm.bad.isEmpty 2 (u.sm.bad.map Q2)),A.d (.int .i64 u.bad),A.d (.int .i64 u.pos)]=bx;generalize u.sm.bs=B at*;refine Qz 0 (λfr H'=>fr 7=.osl true 2 (Ws m B) (H.length+1)/\∃X,H'=H++X) ?_ ?_
 .refine Q8 (H.length+2) B.length (λj fr H'=>fr 1=YS m/\fr 18=YL B.isEmpty 4 (B.map Qw)/\∃R,R=Ws m (B.take j)/\fr 7=.osl true 2 R (H.length+1)/\H'=H++[bx,.tok R.length 2 tSy]) (by omega) (by decide) (by simp[<-hbx]) (by simp[<-hbx]) ?_ ?_ ?_
  .refine⟨by simp,by simp[<-hbx],[],by simp[Ws],by simp,by simp[Qi O,<-hbx]⟩
  .rintro j fr H' hj fi fn ⟨f1,f18,R,hR,f7,rfl⟩;obtain⟨b,hb⟩:∃b,B[j]?=some b:=⟨_,Q12 hj⟩;have hr:Zam.rowAt (B.map Qw) (j:Int)=some [.int .i64 b.a,.int .i64 b.k,.str b.w,.int .i64 b.i]:=by simp[Zam.rowAt,hb,Qw]
   have htk:=Qbl (m:=m) hb;rw[<-hR]at htk;have hlen:=Qed m (B.take j);rw[<-hR]at hlen;have hlj:(B.take j).length<=B.length:=by simp;omega
   have happ:=λX=>Qzm (H:=H) (X:=X) (bx:=bx) (R:=R) (n:=R.length) (b:=24) (sz:=2) (e:=tSy) [.str m,.int .i64 b.a] rfl (by omega);by_cases hk:b.k<=2
   .rw[if_pos hk]at htk;simp[fi,f18,hr,f1,hk,f7,happ];refine Q3 (H.length+2) (Q14 _) (by simp[fi,fn]) ?_;refine⟨by simp[f1],by simp[f18],_,htk.symm,by simp,by simp[Qi O,<-hbx]⟩
   .rw[if_neg hk,Q2k]at htk;simp[fi,f18,hr,hk];refine Q3 (H.length+2) (Q14 _) (by simp[fi,fn]) ?_;refine⟨by simp[f1],by simp[f18],R,htk.symm,by simp[f7],by simp[Qi O,<-hbx]⟩
  .rintro fr H' fi fn ⟨f1,f18,R,hR,f7,rfl⟩;rw[Q3x]at hR;simp[f7,hR]
 .rintro fr H' ⟨f7,X,rfl⟩;simp[f7];simp[RetK,Qd O]
end
section
open Go.Proofs
end
section
open Go.Proofs
def Wb(p:Bs×Int):List D:=[.str p.1,.int .i64 p.2]
def tkP(m w:Bs)(l:List Tk):List (Bs×Int):=(l.filter λt=>decide (t.k=1/\t.x=w)).map λt=>(m,(t.a:Int))
def Zg(S:List Un)(w:Bs):List (Bs×Int):=S.flatMap λu=>tkP u.n w u.tk
def Qpn{m w:Bs}{l:List Tk}{j:Nat}{t:Tk}(h:l[j]?=some t):tkP m w (l.take (j+1))=tkP m w (l.take j)++if t.k=1/\t.x=w then[(m,(t.a:Int))]else[]:=by rw[Q39,h];unfold tkP;by_cases hk:t.k=1/\t.x=w<;>simp[hk]
def Qtg(m w:Bs)(l:List Tk):(tkP m w l).length<=l.length:=by unfold tkP;rw[Q2y];exact Q4n _ _
def Qoi{S:List Un}{w:Bs}{j:Nat}{u:Un}(h:S[j]?=some u):Zg (S.take (j+1)) w=Zg (S.take j) w++tkP u.n w u.tk:=by rw[Q39,h];simp[Zg]
def Qj3{w:Bs}{b:Nat}:∀{S:List Un},(∀u∈S,u.tk.length<=b)->(Zg S w).length<=S.length*b
 |[],_=>by simp[Zg]
 |u::r,h=>by have h1:=Qj3 (w:=w) (S:=r) λv hv=>h v (by simp[hv]);have h2:=h u (by simp);have h3:=Qtg u.n w u.tk;unfold Zg at h1⊢;rw[Q37,Q2l,Q2i,Q29];omega
def Qpl(P:Program)(S:List Un)(f:Nat):Prop:=∀H:Hp,Qc P f [pA S] H (λr H'=>r=YL true 1 (S.map λu=>[.str u.n])/\H'=H)
def Qt6(S:List Un):Prop:=∀u∈S,Vo S u.n=some u
def HasT.ixWords{f names unit tU tTk tSp:Nat}{S:List Un}(h:HasT P [5] f (Qjn names unit tU tTk tSp))(hn:Qpl P S names)(hu:Qep P S unit)(hself:Qt6 S)(hl:S.length<=8)(hs:∀u∈S,u.tk.length<=1073741824)(w:Bs)(H:Hp):
 Qc P f [pA S,YS w] H (λr H'=>r=YL true 2 ((Zg S w).map Wb)/\H'=H):=by
 refine Qe h (by simp[Qjn]) λO _=>?_;have hun:=λs X=>hu s (H++X);have hnm:=λX=>hn (H++X);simp only[pA]at hun hnm;simp[Qjn,pA];refine Qa (hnm _) ?_;simp;refine Qz 0 (λfr H'=>fr 5=.osl true 2 ((Zg S w).map Wb) H.length/\∃X,H'=H++X) ?_ ?_
 .refine Q8 (H.length+1) S.length (λj fr H'=>fr 0=.eptr [.sl S.isEmpty 14 (S.map Un.enc)]/\fr 1=YS w/\fr 13=YL true 1 (S.map λu=>[.str u.n])/\∃R,R=Zg (S.take j) w/\fr 5=.osl true 2 (R.map Wb) H.length/\
   H'=H++[.tok R.length 2 tSp]) (by omega) (by decide) (by simp) (by simp) ?_ ?_ ?_
  .refine⟨by simp,by simp,by simp,[],by simp[Zg],by simp,by simp[Qi O]⟩
  .rintro j fr H' hj fi fn ⟨f0,f1,f13,R,hR,f5,rfl⟩;obtain⟨u,hu'⟩:∃u,S[j]?=some u:=⟨_,Q12 hj⟩;have hum:=Q2p hu';have hst:=hs u hum;have hrow:Zam.rowAt (S.map λu=>[D.str u.n]) (j:Int)=some [.str u.n]:=by simp[Zam.rowAt,hu']
   have htk:=Qoi (w:=w) hu';rw[<-hR]at htk;have hlen:=Qj3 (w:=w) (S:=S.take j) (b:=1073741824) λv hv=>hs v (Q4q hv);rw[<-hR]at hlen;have hlj:(S.take j).length=j:=by simp;omega
   rw[hlj]at hlen;have hlen8:j*1073741824<=8*1073741824:=Q2z _ (by omega);have hunn:=hun u.n;rw[hself u hum]at hunn;obtain⟨zu,ms,he⟩:=u.enc_all;simp only[Q4w,Q4m,he,Q2w,Q25]at hunn;simp[fi,f13,hrow,f0];refine Qa (hunn _) ?_;simp;generalize hbx:Ob.box tU [A.d (.str u.n),A.d (.str u.t),A.d (.sl true 4 (u.tk.map Qp)),A.d (.int .i64 u.tr.k),A.d (.int .i64 u.tr.f),A.d (.int .i64 u.tr.t),A.d (.str u.tr.w),A.d (.int .i64 u.tr.at_),A.d (.sl zu 6 (u.tr.ks.map N.enc)),A.d (.sl u.sm.bs.isEmpty 4 (u.sm.bs.map Qw)),A.d ms,A.d (.sl u.sm.bad.isEmpty 2 (u.sm.bad.map Q2)),A.d (.int .i64 u.bad),A.d (.int .i64 u.pos)]=bx;generalize u.tk=L at*;refine Qz 2 (λfr H2=>fr 0=.eptr [.sl S.isEmpty 14 (S.map Un.enc)]/\fr 1=YS w/\fr 13=YL true 1 (S.map λu=>[.str u.n])/\fr 15=YI j/\fr 14=YI S.length/\
    fr 5=.osl true 2 ((R++tkP u.n w L).map Wb) H.length/\∃X,H2=H++.tok (R++tkP u.n w L).length 2 tSp::X) ?_ ?_
   .refine Q8 (H.length+2) L.length (λq fr H2=>fr 0=.eptr [.sl S.isEmpty 14 (S.map Un.enc)]/\fr 1=YS w/\fr 7=YS u.n/\fr 13=YL true 1 (S.map λu=>[.str u.n])/\fr 15=YI j/\fr 14=YI S.length/\fr 26=YL true 4 (L.map Qp)/\
     ∃R2,R2=R++tkP u.n w (L.take q)/\fr 5=.osl true 2 (R2.map Wb) H.length/\H2=H++[.tok R2.length 2 tSp,bx]) (by omega) (by decide) (by simp[<-hbx]) (by simp[<-hbx]) ?_ ?_ ?_
    .refine⟨by simp[f0],by simp[f1],by simp,by simp[f13],by simp[fi],by simp[fn],by simp[<-hbx],R,by simp[tkP],by simp[f5],by simp[Qi O,<-hbx]⟩
    .rintro q fr H2 hq gi gn ⟨f0,f1,f7,f13,f15,f14,f26,R2,hR2,f5,rfl⟩;obtain⟨t,ht⟩:∃t,L[q]?=some t:=⟨_,Q12 hq⟩;have hrt:Zam.rowAt (L.map Qp) (q:Int)=some [.int .i64 t.k,.int .i64 (t.a:Int),.str t.l,.str t.x]:=by simp[Zam.rowAt,ht,Qp]
     have htq:=Qpn (m:=u.n) (w:=w) ht;have hlq:=Qtg u.n w (L.take q);have hlq2:(L.take q).length<=1073741824:=by simp;omega
     have hlR2:R2.length<=9*1073741824:=by rw[hR2,Q2l];omega
     have happ:=λX=>Qrn (H:=H) (X:=X) (R:=R2.map Wb) (n:=R2.length) (b:=24) (sz:=2) (e:=tSp) [[.str u.n,.int .i64 (t.a:Int)]] (by simp) (by simp;omega);simp only[Q3v]at happ;have hstep:R++tkP u.n w (L.take (q+1))=R2++if t.k=1/\t.x=w then[(u.n,(t.a:Int))]else[]:=by rw[htq,hR2,Q2g]
     by_cases h1:t.k=1
     .by_cases h2:t.x=w
      .rw[if_pos ⟨h1,h2⟩]at hstep;simp[gi,f26,hrt,h1,h2,f1,f5,f7,happ];refine Q3 (H.length+2) (Q14 _) (by simp[gi,gn]) ?_;refine⟨by simp[f0],by simp[f1],by simp[f7],by simp[f13],by simp[f15],by simp[f14],by simp[f26],_,hstep.symm,by simp[Wb],by simp[Qi O,<-hbx]⟩
      .rw[if_neg (λh=>h2 h.2),Q2k]at hstep;simp[gi,f26,hrt,h1,h2,f1];refine Q3 (H.length+2) (Q14 _) (by simp[gi,gn]) ?_;refine⟨by simp[f0],by simp[f1],by simp[f7],by simp[f13],by simp[f15],by simp[f14],by simp[f26],R2,hstep.symm,by simp[f5],by simp[Qi O,<-hbx]⟩
     .rw[if_neg (λh=>h1 h.1),Q2k]at hstep;simp[gi,f26,hrt,h1];refine Q3 (H.length+2) (Q14 _) (by simp[gi,gn]) ?_;refine⟨by simp[f0],by simp[f1],by simp[f7],by simp[f13],by simp[f15],by simp[f14],by simp[f26],R2,hstep.symm,by simp[f5],by simp[Qi O,<-hbx]⟩
    .rintro fr H2 gi gn ⟨f0,f1,f7,f13,f15,f14,f26,R2,hR2,f5,rfl⟩;rw[Q3x]at hR2;rw[<-hR2];exact⟨by simp[f0],by simp[f1],by simp[f13],by simp[f15],by simp[f14],by simp[f5],_,rfl⟩
   .rintro fr H2 ⟨f0,f1,f13,f15,f14,f5,X,rfl⟩;simp;refine Q3 (H.length+1) (Q14 _) (by simp[f14,f15]) ?_;exact⟨by simp[f0],by simp[f1],by simp[f13],_,htk.symm,by simp[f5],by simp[Qi O]⟩
  .rintro fr H' fi fn ⟨f0,f1,f13,R,hR,f5,rfl⟩;rw[Q3x]at hR;simp[f5,hR]
 .rintro fr H' ⟨f5,X,rfl⟩;simp[f5];simp[RetK,Qd O]
end
end Go.Zam
