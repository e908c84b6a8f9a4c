import Derived.Test.YtmaoeidknpnaeaaGreatDoorF7
import Derived.Test.YtmaoeidknpnaeaaGreatDoorF6
import Derived.Sort.Row
import Derived.Sort.Grow
import Derived.Test.YtmaoeidknpnaeaaGreatDoorF5
import Derived.Test.YtmaoeidknpnaeaaGreatDoorF3
import Derived.Test.YtmaoeidknpnaeaaGreatDoorF4
import Derived.Test.YtmaoeidknpnaeaaGreatDoorProg
import Derived.KernelRfl
import Derived.Test.YtmaoeidknpnaeaaGreatDoorF2
set_option linter.all false
set_option maxRecDepth 100000
set_option maxHeartbeats 4000000
namespace Go.Zam
variable{P:Program}
section
theorem Wo{tr:TypeId}{z z':Bool}{L:List Tk}{n:Nat}{g:G}{H:Hp}{i:Nat}{s s':PSt}{k f t a:Int}{w:Bs}{rows:List (List D)}(ks:List N)(hrows:rows=ks.map N.enc)(hz:rows=[]->z'=true)(hr:Rel L n g s (N.new k f t w a ks) s'):
 ∃r',Nrm (.tup [.agg [YI k,YI f,YI t,YS w,YI a,YL z' 6 rows],YI s'.1]) r'/\RQ tr z L n g H i [] s r' (H.set i (rst tr z L s'.2)):=by
 refine⟨.tup [.agg [YI k,YI f,YI t,YS w,YI a,YL rows.isEmpty 6 rows],YI s'.1],?_,N.new k f t w a ks,s',?_,by simp,hr⟩
 .intro κ v h;cases h with
  |tup vs _ hl hh=>
   refine .tup vs _ (by simpa using hl) λj v a hv ha=>?_;match j with
   |0=>simp at ha;subst ha;exact Qlg hz κ v (hh 0 v _ hv rfl)
   |1=>exact hh 1 v _ hv ha
   |j+2=>simp at ha
 .rw[N.v_new,hrows];cases ks<;>rfl
def US(P:Program)(tr:TypeId)(z:Bool)(L:List Tk)(n:Nat)(g:G)(f:FuncId):Prop:=∀(H X:Hp)(i p:Nat),i<H.length->Qeg L n g (p,none)->Qc P f [.ptr i 0,YI p] (H.set i (rst tr z L none)++X) (RQ tr z L n g H i X (p,none))
theorem US_of{P:Program}{tr:TypeId}{z:Bool}{L:List Tk}{n:Nat}{g:G}{f:FuncId}(h:∀(H:Hp) (i p:Nat),i<H.length->Qeg L n g (p,none)->Qc P f [.ptr i 0,YI p] (H.set i (rst tr z L none)) (RQ tr z L n g H i [] (p,none))):US P tr z L n g f:=by intro H X i p hi hp;have:=h (H++X) i p (by simp;omega) hp;rw[Q05 _ _ hi]at this;refine this.mono ?_;rintro r H' ⟨m,s',rfl,rfl,hr⟩;refine⟨m,s',rfl,?_,hr⟩;rw[Q1i,Q05 _ _ hi]
section
variable{P:Program}{R:RF}{z:Bool}{L:List Tk}
theorem RHas.block'(hR:RHas P R)(hx:HasT P [7] R.block (Qf1 R.want R.is R.stmt R.ended R.tn))(hE:W4 L)(hL:L.length<=1048576)(n:Nat)(hn:n<=1099511627776)(hS:∀m,m<n->US P R.tr z L m .stmt R.stmt):UR P R.tr z L (n+1) .block R.block:=by
 refine Qih λH i s hi hpp=>?_;refine Yf (Qe hx (by simp[Qf1]) λhcl _=>?_);have hp1:=hpp.1.1;simp only[G.c]at hp1;have g1:=λX=>hR.wantA (z:=z) (s:=s) (X:=X) hi hpp.2 (by omega) [123];generalize h1:Qs L [123] s=s1 at g1;have b1:=Ya h1;simp[Qf1];refine Qa (g1 _) ?_;simp;obtain⟨XX,hXX⟩:∃XX:List N->Hp,XX=λks=>[zbx R.tn,.tok ks.length 6 R.tn]:=⟨_,rfl⟩;have hXl:∀a,(XX a).length=2:=λa=>by rw[hXX];rfl
 obtain⟨E,hE0⟩:∃E:Fr->Hp->Prop,E=λfr H'=>∃(ks:List N)(s':PSt),(fr 0=.ptr i 0/\fr 1=YI s.1/\fr 4=.ptr H.length 0/\fr 6=YI s'.1/\fr 7=.osl true 6 (ks.map N.enc) (H.length+1))/\(s'.2=none->s'.1<L.length)/\s'.1<=1125899906842624/\Rel L (n+1) .block s (N.new 6 s.1 (Qs L [125] s').1 [] 0 ks) (Qs L [125] s')/\H'=H.set i (rst R.tr z L s'.2)++XX ks:=⟨_,rfl⟩;refine Qm 0 E (λ_ _=>False) ?_ (λ_ _ h=>h.elim) ?_;rotate_left
 .intro fr H' h;subst hE0;obtain⟨ks,s',⟨f0,f1,f4,f6,f7⟩,hlt,hb,hr,rfl⟩:=h;have g2:=λX=>hR.wantA (z:=z) (s:=s') (X:=X) hi hlt hb [125];generalize Qs L [125] s'=s2 at g2 hr;simp[f0,f6];refine Qa (g2 _) ?_;have g5:=λH0=>hR.ended.rendedT 6 (s.1:Int) 0 [] 0 true [] (s2.1:Int) true (ks.map N.enc) H0 (H.length+1);simp only[ag]at g5;simp[f1,f7,hXl];refine Qa (g5 _ (by simp[hXl])) ?_;subst hXX;simp[f4,zbx];simp[RetK,rcut hcl,nl];exact Wo (z':=true) ks rfl (λ_=>rfl) hr
 have hE1:∀fr (ks:List N) (s':PSt),(fr 0=.ptr i 0/\fr 1=YI s.1/\fr 4=.ptr H.length 0/\fr 6=YI s'.1/\fr 7=.osl true 6 (ks.map N.enc) (H.length+1))->(s'.2=none->s'.1<L.length)->s'.1<=1125899906842624->Rel L (n+1) .block s (N.new 6 s.1 (Qs L [125] s').1 [] 0 ks) (Qs L [125] s')->E fr (H.set i (rst R.tr z L s'.2)++XX ks):=λfr ks s' a b c d=>by subst hE0;exact⟨ks,s',a,b,c,d,rfl⟩
 clear hE0;have hF:=lfs (KT:=1) (m0:=2) (m1:=3) (λn=>n) hcl hi [zbx R.tn] hXX rfl rfl rfl λ_=>rfl;obtain⟨hcut,hcut0,hg0,hgT,hgT1,hgB,hgC,hsT⟩:=hF;rw[show H.set i (rst R.tr z L s1.2)++[Ob.box R.tn [YI 0,YI 0,YI 0,YS [],YI 0,YL true 6 []],.tok 0 6 R.tn]=H.set i (rst R.tr z L s1.2)++XX [] by rw[hXX];rfl];refine Q3 (H.length+2) (λd fr H'=>∃(ks:List N)(s':PSt),(fr 0=.ptr i 0/\fr 1=YI s.1/\fr 4=.ptr H.length 0/\fr 6=YI s'.1/\fr 7=.osl true 6 (ks.map N.enc) (H.length+1))/\H'=H.set i (rst R.tr z L s'.2)++XX ks/\
  ((d=0/\s'.2≠none/\s'.1<=1125899906842624/\∀m,Rel L (n+1) .block s m s')\/∃p1,s'=(p1,none)/\s.2=none/\d<=n/\pp L (n+1) .block s.1=(pp L d (.stmts ks) p1).then (λm j=>.ok (N.new 6 s.1 j [] 0 m.ks) j)/\p1<L.length/\16*(L.length-p1)+7<=d/\ks.length<=p1)) (match s1.2 with|none=>n|some _=>0) (by simp[hXl]) ⟨[],s1,?_⟩ ?_
 .have hil2:i<H.length+2:=by omega
  refine⟨by simp[hil2],hcut0 _ _,?_⟩;subst h1;obtain⟨p,st⟩:=s;cases st with
  |some q=>exact .inl ⟨rfl,by simp,by simp only[Yp];simp only at hp1;omega,λm=>by simp[Rel]⟩
  |none=>
   obtain⟨hp2,hp3⟩:=hpp.1.2.2 rfl;simp only[G.c]at hp2 hp3;by_cases c1:isT L p [123]=true
   .have l1:=Q5 hE c1;simp[c1];refine⟨by simp[pp,Qw,c1],l1,by omega⟩
   .simp[c1];refine⟨by omega,λm=>?_⟩;simp[Rel,pp,Qw,c1];omega
 .rintro d fr H' ⟨ks,s',⟨f0,f1,f4,f6,f7⟩,rfl,hd⟩;have hil2:i<H.length+2:=by omega
  rcases hd with⟨rfl,q1,qb,q2⟩|⟨p1,rfl,hs2,hdn,hpe,hp1',hrk,hks⟩
  .obtain⟨p',st'⟩:=s';cases st' with
   |none=>simp at q1
   |some q=>
    have hg1:=hg0 (some q);have hq:¬(q:Int)<0:=by omega
    have hE2:=λfr h=>hE1 fr ks (p',some q) h (λe=>by cases e) qb (q2 _);simp only[rst]at hg1 hE2;simp[f0,f6,rst,hg1,hq];exact hE2 _ (by simp[f0,f1,f4,f6,f7,hXl])
  .obtain⟨d',rfl⟩:∃d',d=d'+1:=⟨d-1,by omega⟩;have hRel:∀m s',(match(pp L (d'+1) (.stmts ks) p1).then (λm j=>.ok (N.new 6 s.1 j [] 0 m.ks) j)with|.out=>False|.bad q=>s'.2=some q/\s'.1<=L.length+(n+1)|.ok m' k=>m=m'/\s'=(k,none))->Rel L (n+1) .block s m s':=λm s' h=>by unfold Rel;rw[hs2];simp only;rw[hpe];exact h
   have hg1:=hg0 none;have gi:=λX=>hR.isA (z:=z) (st:=none) (X:=X) hi hp1' [125];cases hjb:isT L p1 [125]with
   |true=>have hE2:=λfr h=>hE1 fr ks (p1,none) h (λ_=>hp1') (by simp only;omega) (hRel _ _ (by simp[pp,PR.then,hjb,N.bag,N.new,N.ks]));rw[hjb]at gi;simp only[rst]at hg1 gi hE2;simp[f0,f6,rst,hg1];refine Qa (gi _) ?_;simp;exact hE2 _ (by simp[f0,f1,f4,f6,f7,hXl])
   |false=>
    have gp:=λX=>hS d' (by omega) H X i p1 hi ⟨⟨by simp only[G.c];omega,by simp only[G.c];omega,λ_=>⟨by simp only;omega,by simp only[G.c];omega⟩⟩,λ_=>hp1'⟩;rw[hjb]at gi;simp only[rst]at hg1 gi gp;simp[f0,f6,rst,hg1];refine Qa (gi _) ?_;simp[f0,f6];refine Qf (gp _) ?_;rintro _ _ ⟨b,s2,rfl,rfl,r2⟩;obtain⟨kb,fb,tb,wb,qb,zb,ksb,hfb,heb,hvb,hbb⟩:=Wm R.tn b;rw[hvb];obtain⟨bo,hbo⟩:∃bo:Ob,bo=.box R.tn [YI kb,YI fb,YI tb,YS wb,YI qb,YL zb 6 (ksb.map N.enc)]:=⟨_,rfl⟩;have hB:=λX=>hgB ks bo X;rw[hbo]at hB;have hT:=hgT ks;have hT1:=hgT1 ks;have hs1:=hsT ks b;have hbd:(ks.length+1)*72<=140737488355328:=by omega
    have hmap:ks.map N.enc++[[.int .i64 kb,.int .i64 fb,.int .i64 tb,.str wb,.int .i64 qb,.sl zb 6 (ksb.map N.enc)]]=(ks++[b]).map N.enc:=by simp[heb]
    simp[f7,hXl,hB,hT,hT1,appA,slOf,hbd,hs1,hmap];rcases r2.none' with⟨q',b',hq,rfl,e3⟩|⟨j,hj,rfl⟩
    .refine Qg (H.length+2) 0 (Q00 _) (by simp[hXl]) (by omega) ⟨ks++[b],(b',some q'),by simp[f0,f1,f4,hil2],hcut _ _ _,.inl ⟨rfl,by simp,by simp only;omega,λm=>hRel _ _ ?_⟩⟩;simp[pp,hjb,hq,PR.then];omega
    .have:=Ys hE d' .stmt p1;rw[hj]at this;obtain⟨v1,v2,v3⟩:=this;have v2:=v2 rfl;refine Qg (H.length+2) d' (Q00 _) (by simp[hXl]) (by omega) ⟨ks++[b],(j,none),by simp[f0,f1,f4,hil2],hcut _ _ _,.inr ⟨j,rfl,hs2,by omega,?_,v3 v2,by have:=v3 v2;omega,by simp;omega⟩⟩;rw[hpe];simp[pp,hjb,hj,PR.then]
end
end
section
def LG(one:G)(e:Bs):List N->G
 |[]=>.list one e
 |k::ks=>.listL one e (k::ks)
theorem Qil{L:List Tk}{d:Nat}{one:G}{e:Bs}{ks:List N}{p:Nat}(hd:2<=d)(h:ks=[]->isT L p e=false):∃m,m<d/\d<=m+2/\pp L d (LG one e ks) p=(pp L m one p).then λx j=>if isT L j e then .ok (N.bag (ks++[x])) (j+1)else Qw L j [44] λj=>pp L m (.listL one e (ks++[x])) j:=by
 cases ks with
 |nil=>obtain⟨m,rfl⟩:∃m,d=m+2:=⟨d-2,by omega⟩;refine⟨m,by omega,by omega,?_⟩;simp only[LG,pp,h rfl];rfl
 |cons k ks=>obtain⟨m,rfl⟩:∃m,d=m+1:=⟨d-1,by omega⟩;refine⟨m,by omega,by omega,?_⟩;simp only[LG,pp]
theorem Qgb(one:G)(e:Bs)(ks:List N)(x:N):LG one e (ks++[x])=.listL one e (ks++[x]):=by cases ks<;>rfl
theorem Qvs{L:List Tk}(hE:W4 L){n p:Nat}{t:N}{s3:PSt}(h:Rel L n .typed (W9 L (p,none)) t s3)(hb:s3.1<=L.length+(n+1)):Rel L (n+1) .param (p,none) (N.new 5 p s3.1 (if Qz L (p,none)then txT L p else[]) (if Qz L (p,none)then(p:Int)else 0) [t]) s3:=by
 by_cases c:kdT L p=1
 .simp only[Wu,c,if_true]at h;simp only[Rel,pp,Yo,c,if_true];rcases h.none' with⟨q,a,e,rfl,e3⟩|⟨k,e,rfl⟩
  .simp[e,PR.then];omega
  .simp[e,PR.then,c]
 .simp only[Wu,c,if_false]at h;obtain⟨a,rfl,e3⟩:=h.some';simp only[Rel,pp,Yo,c,if_false];simp only[G.wt]at e3;simp;omega
section
variable{P:Program}{R:RF}{z:Bool}{L:List Tk}
theorem RHas.params'(hR:RHas P R)(hx:HasT P [7] R.params (Qd7 R.want R.is R.word R.typed R.ended R.tn))(hE:W4 L)(hL:L.length<=1048576)(n:Nat)(hn:n<=1099511627776)(hS:∀m,m<n->UR P R.tr z L m .typed R.typed):UR P R.tr z L (n+1) .params R.params:=by
 refine Qih λH i s hi hpp=>?_;refine Yf (Qe hx (by simp[Qd7]) λhcl _=>?_);have hp1:=hpp.1.1;simp only[G.c]at hp1;have g1:=λX=>hR.wantA (z:=z) (s:=s) (X:=X) hi hpp.2 (by omega) [40];generalize h1:Qs L [40] s=s1 at g1;have b1:=Ya h1;simp[Qd7];refine Qa (g1 _) ?_;simp;obtain⟨XX,hXX⟩:∃XX:List N->Hp,XX=λks=>[zbx R.tn,.tok ks.length 6 R.tn]:=⟨_,rfl⟩;have hXl:∀a,(XX a).length=2:=λa=>by rw[hXX];rfl
 obtain⟨E,hE0⟩:∃E:Fr->Hp->Prop,E=λfr H'=>∃(ks:List N)(s':PSt)(X:Hp),(fr 0=.ptr i 0/\fr 1=YI s.1/\fr 4=.ptr H.length 0/\fr 6=YI s'.1/\fr 7=.osl true 6 (ks.map N.enc) (H.length+1))/\(s'.2=none->s'.1<L.length)/\s'.1<=1125899906842624/\Rel L (n+1) .params s (N.new 4 s.1 (Qs L [41] s').1 [] 0 ks) (Qs L [41] s')/\H'=H.set i (rst R.tr z L s'.2)++(XX ks++X):=⟨_,rfl⟩;refine Qm 0 E (λ_ _=>False) ?_ (λ_ _ h=>h.elim) ?_;rotate_left
 .intro fr H' h;subst hE0;obtain⟨ks,s',X,⟨f0,f1,f4,f6,f7⟩,hlt,hb,hr,rfl⟩:=h;have g2:=λX=>hR.wantA (z:=z) (s:=s') (X:=X) hi hlt hb [41];generalize Qs L [41] s'=s2 at g2 hr;simp[f0,f6];refine Qa (g2 _) ?_;have g5:=λH0=>hR.ended.rendedT 4 (s.1:Int) 0 [] 0 true [] (s2.1:Int) true (ks.map N.enc) H0 (H.length+1);simp only[ag]at g5;simp[f1,f7,hXl];refine Qa (g5 _ (by simp[hXl];omega)) ?_;subst hXX;simp[f4,zbx];simp[RetK,rcut hcl,nl];exact Wo (z':=true) ks rfl (λ_=>rfl) hr
 have hE1:∀fr (ks:List N) (s':PSt) (X:Hp),(fr 0=.ptr i 0/\fr 1=YI s.1/\fr 4=.ptr H.length 0/\fr 6=YI s'.1/\fr 7=.osl true 6 (ks.map N.enc) (H.length+1))->(s'.2=none->s'.1<L.length)->s'.1<=1125899906842624->Rel L (n+1) .params s (N.new 4 s.1 (Qs L [41] s').1 [] 0 ks) (Qs L [41] s')->E fr (H.set i (rst R.tr z L s'.2)++(XX ks++X)):=λfr ks s' X a b c d=>by subst hE0;exact⟨ks,s',X,a,b,c,d,rfl⟩
 clear hE0;have hF:=lfs (KT:=1) (m0:=2) (m1:=3) (λn=>n) hcl hi [zbx R.tn] hXX rfl rfl rfl λ_=>rfl;obtain⟨hcut,hcut0,hg0,hgT,hgT1,hgB,hgC,hsT⟩:=hF;rw[show H.set i (rst R.tr z L s1.2)++[Ob.box R.tn [YI 0,YI 0,YI 0,YS [],YI 0,YL true 6 []],.tok 0 6 R.tn]=H.set i (rst R.tr z L s1.2)++XX [] by rw[hXX];rfl];refine Q3 (H.length+2) (λd fr H'=>∃(ks:List N)(s':PSt),(fr 0=.ptr i 0/\fr 1=YI s.1/\fr 4=.ptr H.length 0/\fr 6=YI s'.1/\fr 7=.osl true 6 (ks.map N.enc) (H.length+1))/\H'=H.set i (rst R.tr z L s'.2)++XX ks/\
  ((d=0/\s'.2≠none/\s'.1<=1125899906842624/\∀m,Rel L (n+1) .params s m s')\/∃p1,s'=(p1,none)/\s.2=none/\d<=n/\pp L (n+1) .params s.1=(pp L d (LG .param [41] ks) p1).then (λm j=>.ok (N.new 4 s.1 j [] 0 m.ks) j)/\p1<L.length/\16*(L.length-p1)+9<=d/\ks.length<=p1)) (match s1.2 with|none=>n|some _=>0) (by simp[hXl]) ⟨[],s1,?_⟩ ?_
 .have hil2:i<H.length+2:=by omega
  refine⟨by simp[hil2],hcut0 _ _,?_⟩;subst h1;obtain⟨p,st⟩:=s;cases st with
  |some q=>exact .inl ⟨rfl,by simp,by simp only[Yp];simp only at hp1;omega,λm=>by simp[Rel]⟩
  |none=>
   obtain⟨hp2,hp3⟩:=hpp.1.2.2 rfl;simp only[G.c]at hp2 hp3;by_cases c1:isT L p [40]=true
   .have l1:=Q5 hE c1;simp[c1];refine⟨by simp[pp,Qw,c1,LG],l1,by omega⟩
   .simp[c1];refine⟨by omega,λm=>?_⟩;simp[Rel,pp,Qw,c1];omega
 .rintro d fr H' ⟨ks,s',⟨f0,f1,f4,f6,f7⟩,rfl,hd⟩;have hil2:i<H.length+2:=by omega
  have hE1':=λfr ks s' a b c d=>by simpa using hE1 fr ks s' [] a b c d
  rcases hd with⟨rfl,q1,qb,q2⟩|⟨p1,rfl,hs2,hdn,hpe,hp1',hrk,hks⟩
  .obtain⟨p',st'⟩:=s';cases st' with
   |none=>simp at q1
   |some q=>
    have hg1:=hg0 (some q);have hq:¬(q:Int)<0:=by omega
    have hE2:=λfr h=>hE1' fr ks (p',some q) h (λe=>by cases e) qb (q2 _);simp only[rst]at hg1 hE2;simp[f0,f6,rst,hg1,hq];exact hE2 _ (by simp[f0,f1,f4,f6,f7,hXl])
  .have hRel:∀m s',(match(pp L d (LG .param [41] ks) p1).then (λm j=>.ok (N.new 4 s.1 j [] 0 m.ks) j)with|.out=>False|.bad q=>s'.2=some q/\s'.1<=L.length+(n+1)|.ok m' k=>m=m'/\s'=(k,none))->Rel L (n+1) .params s m s':=λm s' h=>by unfold Rel;rw[hs2];simp only;rw[hpe];exact h
   have hg1:=hg0 none;have gi:=λX=>hR.isA (z:=z) (st:=none) (X:=X) hi hp1' [41];by_cases hend:ks=[]/\isT L p1 [41]=true
   .obtain⟨rfl,hjb⟩:=hend;obtain⟨d',rfl⟩:∃d',d=d'+1:=⟨d-1,by omega⟩;have hE2:=λfr h=>hE1' fr [] (p1,none) h (λ_=>hp1') (by simp only;omega) (hRel _ _ (by simp[LG,pp,PR.then,hjb,N.bag,N.new,N.ks]));rw[hjb]at gi;simp only[rst]at hg1 gi hE2;simp[f0,f6,f7,rst,hg1];refine Qa (gi _) ?_;simp;exact hE2 _ (by simp[f0,f1,f4,f6,f7,hXl])
   .have hstep:=Qil (L:=L) (d:=d) (one:=.param) (e:=[41]) (ks:=ks) (p:=p1) (by omega) (λe=>by
     cases h:isT L p1 [41]with
     |false=>rfl
     |true=>exact absurd ⟨e,h⟩ hend)
    obtain⟨m,hm1,hm2,hpp2⟩:=hstep;obtain⟨m',rfl⟩:∃m',m=m'+1:=⟨m-1,by omega⟩;have gw:=λX=>hR.wordA (z:=z) (s:=(p1,none)) (X:=X) hi (λ_=>hp1') (by simp only;omega) 5 p1 0 [] 0 true [];have hrp:=λt s3=>Qvs (L:=L) hE (n:=m') (p:=p1) (t:=t) (s3:=s3);generalize h2:W9 L (p1,none)=s2 at gw hrp;have b2:=Vc h2;have m2:=Qaq hE h2;have hlt2:=m2.lt (λ_=>hp1');have gt:=λX=>hS m' (by omega) H X i s2 hi ⟨⟨by simp only[G.c];simp only at b2;omega,by simp only[G.c];omega,λe=>by obtain⟨a1,a2,a3⟩:=m2 e;have:=hlt2 e;simp only at a2;simp only[G.c];exact⟨by omega,by omega⟩⟩,hlt2⟩;simp only at gw b2;generalize(if Qz L (p1,none)=true then txT L p1 else[])=W at gw hrp;generalize(if Qz L (p1,none)=true then(p1:Int)else 0)=Q at gw hrp;simp only[rst,ag]at hg1 gi gw gt;rcases Q3b ks with hk0|⟨kk,kx,hk0⟩
    .have hjb:isT L p1 [41]=false:=by
      cases h:isT L p1 [41]with
      |false=>rfl
      |true=>exact absurd ⟨hk0,h⟩ hend
     rw[hjb]at gi;simp[f0,f6,f7,rst,hg1,hk0];refine Qa (gi _) ?_;rw[<-hk0];simp[f0,f6];refine Qa (gw _) ?_;simp[f0];refine Qf (gt _) ?_;rintro _ _ ⟨t,s3,rfl,rfl,r3⟩;obtain⟨kt,ft,tt',wt',qt,zt,kst,hft,het,hvt,hbt⟩:=Wm R.tn t;rw[hvt];obtain⟨bo,hbo⟩:∃bo:Ob,bo=.box R.tn [YI 5,YI p1,YI 0,YS W,YI Q,YL true 6 []]:=⟨_,rfl⟩;obtain⟨co,hco⟩:∃co:Ob,co=.box R.tn [YI kt,YI ft,YI tt',YS wt',YI qt,YL zt 6 (kst.map N.enc)]:=⟨_,rfl⟩;have hB:=λX=>hgB ks bo X;have hC:=λX=>hgC ks bo co X;rw[hbo]at hB;rw[hbo,hco]at hC;have hT:=hgT ks;have hT1:=hgT1 ks;have g5:=λH0=>hR.ended.rended 5 p1 0 W Q true [] (s3.1:Int) false [t.enc] H0;rw[het]at g5;simp only[ag]at g5;simp[f0,f7,hXl,hB,hC];refine Qa (g5 _) ?_;have hsx:=r3.wt0 rfl;have hs3b:s3.1<=L.length+(m'+1):=by omega
     obtain⟨x,hx⟩:∃x:N,x=N.new 5 p1 s3.1 W Q [t]:=⟨_,rfl⟩;have hrx:Rel L (m'+1) .param (p1,none) x s3:=by rw[hx];exact hrp t s3 r3 hs3b
     have hs1:=hsT ks x;have hbd:(ks.length+1)*72<=140737488355328:=by omega
     have hmap:ks.map N.enc++[[.int .i64 5,.int .i64 (p1:Int),.int .i64 (s3.1:Int),.str W,.int .i64 Q,.sl false 6 [[.int .i64 kt,.int .i64 ft,.int .i64 tt',.str wt',.int .i64 qt,.sl zt 6 (kst.map N.enc)]]]]=(ks++[x]).map N.enc:=by rw[Q2v,hx];simp[N.new,N.enc_mk,het]
     clear hrp hx r3 g5 gt gw;simp[f0,f7,hXl,hT,hT1,appA,slOf,hbd,hs1,hmap];obtain⟨p3,st3⟩:=s3;simp only at hs3b;cases st3 with
     |some q=>
      have hg2:=hg0 (some q);have hq':(0:Int)<=q:=by omega
      have hbad:pp L (m'+1) .param p1=.bad q:=by
       rcases hrx.none' with⟨q',a,e,e2,e3⟩|⟨k,e,e2⟩
       .simp only[prdI,somI]at e2;rw[e,e2.2]
       .simp at e2
      have hE2:=λfr X h=>hE1 fr (ks++[x]) (p3,some q) X h (λe=>by cases e) (by simp only;omega) (hRel _ _ (by rw[hpp2,hbad];simp[PR.then];omega));simp only[rst]at hg2 hE2;simp[f0,rst,hg2,hq'];exact hE2 _ _ (by simp[f0,f1,f4,hXl])
     |none=>
      have hok:pp L (m'+1) .param p1=.ok x p3:=by
       rcases hrx.none' with⟨q',a,e,e2,e3⟩|⟨k,e,e2⟩
       .simp at e2
       .simp only[prdI]at e2;rw[e,e2.1]
      have hadv:=Ys hE (m'+1) .param p1;rw[hok]at hadv;obtain⟨v1,v2,v3⟩:=hadv;have v2:=v2 rfl;have v3:=v3 v2;have gi3:=λX=>hR.isA (z:=z) (st:=none) (X:=X) hi v3 [41];have gw3:=λX=>hR.wantA (z:=z) (s:=(p3,none)) (X:=X) hi (λ_=>v3) (by simp only;omega) [44];have hg2:=hg0 none;cases hc:isT L p3 [41]with
      |true=>have hE2:=λfr X h=>hE1 fr (ks++[x]) (p3,none) X h (λ_=>v3) (by simp only;omega) (hRel _ _ (by rw[hpp2,hok];simp[PR.then,hc,N.bag,N.new,N.ks]));rw[hc]at gi3;simp only[rst]at hg2 gi3 hE2;simp[f0,rst,hg2];refine Qa (gi3 _) ?_;simp;exact hE2 _ _ (by simp[f0,f1,f4,hXl])
      |false=>
       rw[hc]at gi3;have hstp:=hpp2;rw[hok]at hstp;simp only[PR.then,hc,Qw]at hstp;by_cases hcm:isT L p3 [44]=true
       .have hl4:=Q5 hE hcm;simp only[Qr,hcm,if_true]at gw3;simp only[rst]at hg2 gi3 gw3;simp[f0,rst,hg2];refine Qa (gi3 _) ?_;simp[f0];refine Qa (gw3 _) ?_;simp;refine Qg (H.length+2) (m'+1) (Q00 _) (by simp[hXl]) (by omega) ⟨ks++[x],(p3+1,none),by simp[f0,f1,f4,hil2],by simpa[rst]using hcut (ks++[x]) none _,.inr ⟨p3+1,rfl,hs2,by omega,?_,hl4,by omega,by simp;omega⟩⟩;rw[hpe,hstp,hcm,Qgb];simp
       .have hcm':isT L p3 [44]=false:=by simpa using hcm
        simp only[Qr,hcm',Q07,if_false]at gw3;simp only[rst]at hg2 gi3 gw3;simp[f0,rst,hg2];refine Qa (gi3 _) ?_;simp[f0];refine Qa (gw3 _) ?_;simp;refine Qg (H.length+2) 0 (Q00 _) (by simp[hXl]) (by omega) ⟨ks++[x],(p3,some p3),by simp[f0,f1,f4,hil2],by simpa[rst]using hcut (ks++[x]) (some p3) _,.inl ⟨rfl,by simp,by simp only;omega,λmm=>hRel _ _ ?_⟩⟩;rw[hstp,hcm'];simp[PR.then];omega
    .have hkn:¬ks=[]:=λe=>by rw[e]at hk0;simp at hk0
     simp[f0,f6,f7,rst,hg1,hkn];refine Qa (gw _) ?_;simp[f0];refine Qf (gt _) ?_;rintro _ _ ⟨t,s3,rfl,rfl,r3⟩;obtain⟨kt,ft,tt',wt',qt,zt,kst,hft,het,hvt,hbt⟩:=Wm R.tn t;rw[hvt];obtain⟨bo,hbo⟩:∃bo:Ob,bo=.box R.tn [YI 5,YI p1,YI 0,YS W,YI Q,YL true 6 []]:=⟨_,rfl⟩;obtain⟨co,hco⟩:∃co:Ob,co=.box R.tn [YI kt,YI ft,YI tt',YS wt',YI qt,YL zt 6 (kst.map N.enc)]:=⟨_,rfl⟩;have hB:=λX=>hgB ks bo X;have hC:=λX=>hgC ks bo co X;rw[hbo]at hB;rw[hbo,hco]at hC;have hT:=hgT ks;have hT1:=hgT1 ks;have g5:=λH0=>hR.ended.rended 5 p1 0 W Q true [] (s3.1:Int) false [t.enc] H0;rw[het]at g5;simp only[ag]at g5;simp[f0,f7,hXl,hB,hC];refine Qa (g5 _) ?_;have hsx:=r3.wt0 rfl;have hs3b:s3.1<=L.length+(m'+1):=by omega
     obtain⟨x,hx⟩:∃x:N,x=N.new 5 p1 s3.1 W Q [t]:=⟨_,rfl⟩;have hrx:Rel L (m'+1) .param (p1,none) x s3:=by rw[hx];exact hrp t s3 r3 hs3b
     have hs1:=hsT ks x;have hbd:(ks.length+1)*72<=140737488355328:=by omega
     have hmap:ks.map N.enc++[[.int .i64 5,.int .i64 (p1:Int),.int .i64 (s3.1:Int),.str W,.int .i64 Q,.sl false 6 [[.int .i64 kt,.int .i64 ft,.int .i64 tt',.str wt',.int .i64 qt,.sl zt 6 (kst.map N.enc)]]]]=(ks++[x]).map N.enc:=by rw[Q2v,hx];simp[N.new,N.enc_mk,het]
     clear hrp hx r3 g5 gt gw;simp[f0,f7,hXl,hT,hT1,appA,slOf,hbd,hs1,hmap];obtain⟨p3,st3⟩:=s3;simp only at hs3b;cases st3 with
     |some q=>
      have hg2:=hg0 (some q);have hq':(0:Int)<=q:=by omega
      have hbad:pp L (m'+1) .param p1=.bad q:=by
       rcases hrx.none' with⟨q',a,e,e2,e3⟩|⟨k,e,e2⟩
       .simp only[prdI,somI]at e2;rw[e,e2.2]
       .simp at e2
      have hE2:=λfr X h=>hE1 fr (ks++[x]) (p3,some q) X h (λe=>by cases e) (by simp only;omega) (hRel _ _ (by rw[hpp2,hbad];simp[PR.then];omega));simp only[rst]at hg2 hE2;simp[f0,rst,hg2,hq'];exact hE2 _ _ (by simp[f0,f1,f4,hXl])
     |none=>
      have hok:pp L (m'+1) .param p1=.ok x p3:=by
       rcases hrx.none' with⟨q',a,e,e2,e3⟩|⟨k,e,e2⟩
       .simp at e2
       .simp only[prdI]at e2;rw[e,e2.1]
      have hadv:=Ys hE (m'+1) .param p1;rw[hok]at hadv;obtain⟨v1,v2,v3⟩:=hadv;have v2:=v2 rfl;have v3:=v3 v2;have gi3:=λX=>hR.isA (z:=z) (st:=none) (X:=X) hi v3 [41];have gw3:=λX=>hR.wantA (z:=z) (s:=(p3,none)) (X:=X) hi (λ_=>v3) (by simp only;omega) [44];have hg2:=hg0 none;cases hc:isT L p3 [41]with
      |true=>have hE2:=λfr X h=>hE1 fr (ks++[x]) (p3,none) X h (λ_=>v3) (by simp only;omega) (hRel _ _ (by rw[hpp2,hok];simp[PR.then,hc,N.bag,N.new,N.ks]));rw[hc]at gi3;simp only[rst]at hg2 gi3 hE2;simp[f0,rst,hg2];refine Qa (gi3 _) ?_;simp;exact hE2 _ _ (by simp[f0,f1,f4,hXl])
      |false=>
       rw[hc]at gi3;have hstp:=hpp2;rw[hok]at hstp;simp only[PR.then,hc,Qw]at hstp;by_cases hcm:isT L p3 [44]=true
       .have hl4:=Q5 hE hcm;simp only[Qr,hcm,if_true]at gw3;simp only[rst]at hg2 gi3 gw3;simp[f0,rst,hg2];refine Qa (gi3 _) ?_;simp[f0];refine Qa (gw3 _) ?_;simp;refine Qg (H.length+2) (m'+1) (Q00 _) (by simp[hXl]) (by omega) ⟨ks++[x],(p3+1,none),by simp[f0,f1,f4,hil2],by simpa[rst]using hcut (ks++[x]) none _,.inr ⟨p3+1,rfl,hs2,by omega,?_,hl4,by omega,by simp;omega⟩⟩;rw[hpe,hstp,hcm,Qgb];simp
       .have hcm':isT L p3 [44]=false:=by simpa using hcm
        simp only[Qr,hcm',Q07,if_false]at gw3;simp only[rst]at hg2 gi3 gw3;simp[f0,rst,hg2];refine Qa (gi3 _) ?_;simp[f0];refine Qa (gw3 _) ?_;simp;refine Qg (H.length+2) 0 (Q00 _) (by simp[hXl]) (by omega) ⟨ks++[x],(p3,some p3),by simp[f0,f1,f4,hil2],by simpa[rst]using hcut (ks++[x]) (some p3) _,.inl ⟨rfl,by simp,by simp only;omega,λmm=>hRel _ _ ?_⟩⟩;rw[hstp,hcm'];simp[PR.then];omega
end
end
theorem Qg5{L:List Tk}(hE:W4 L){n p p0 K:Nat}{Q:Int}{W:Bs}{x:N}{s1:PSt}(hn:1<=n)(hpe:pp L (n+1) .stmt p=(pp L n .expr p0).then λx j=>Qw L j [59] λ_=>.ok (N.new K p ((j+1:Nat):Int) W Q [x]) (j+1))(r:Rel L n .expr (p0,none) x s1):Rel L (n+1) .stmt (p,none) (N.new K p (Qs L [59] s1).1 W Q [x]) (Qs L [59] s1):=by
 simp only[Rel,hpe];rcases r.none' with⟨q,a,e,rfl,e3⟩|⟨k,e,rfl⟩
 .simp[e,PR.then];omega
 .have ha:=Ys hE n .expr p0;rw[e]at ha;have hk:=ha.2.2 (ha.2.1 rfl);by_cases c:isT L k [59]=true
  .simp[e,PR.then,Qw,c]
  .simp[e,PR.then,Qw,c];omega
theorem Qvt{L:List Tk}(hE:W4 L){n p:Nat}{c b o:N}{s1 s2 s3:PSt}(hT:isT L p kIf=true)(hl:isT L p kLet=false)(r1:Rel L n .expr (p+1,none) c s1)(r2:Rel L n .block s1 b s2)(h3:s3=s2/\o=N.none/\(s2.2=none->isT L s2.1 Qgf=false)\/s2.2=none/\isT L s2.1 Qgf=true/\Rel L n .block (s2.1+1,none) o s3):Rel L (n+1) .stmt (p,none) (N.new 9 p s3.1 [] 0 [c,b,o]) s3:=by
 simp only[Rel,pp,hT,hl];rcases r1.none' with⟨q,a,e,rfl,e3⟩|⟨k,e,rfl⟩
 .obtain⟨a2,rfl,e4⟩:=r2.some';simp only[G.wt]at e4;rcases h3 with⟨rfl,rfl,h3⟩|⟨h3,-⟩
  .simp[e,PR.then];omega
  .simp at h3
 rcases r2.none' with⟨q,a,e',rfl,e4⟩|⟨k',e',rfl⟩
 .rcases h3 with⟨rfl,rfl,h3⟩|⟨h3,-⟩
  .simp[e,e',PR.then];omega
  .simp at h3
 rcases h3 with⟨rfl,rfl,h3⟩|⟨-,h3,r3⟩
 .have:=h3 rfl;simp only at this;simp[e,e',PR.then,this]
 .simp only at h3 r3;rcases r3.none' with⟨q,a,e'',rfl,e5⟩|⟨k'',e'',rfl⟩
  .simp[e,e',e'',PR.then,h3];omega
  .simp[e,e',e'',PR.then,h3]
theorem Qvr{L:List Tk}(hE:W4 L){n p:Nat}{c b:N}{s1 s2:PSt}(hT:isT L p Y3=true)(hl:isT L p kLet=false)(hi:isT L p kIf=false)(r1:Rel L n .expr (p+1,none) c s1)(r2:Rel L n .block s1 b s2):Rel L (n+1) .stmt (p,none) (N.new 10 p s2.1 [] 0 [c,b]) s2:=by
 simp only[Rel,pp,hT,hl,hi];rcases r1.none' with⟨q,a,e,rfl,e3⟩|⟨k,e,rfl⟩
 .obtain⟨a2,rfl,e4⟩:=r2.some';simp only[G.wt]at e4;simp[e,PR.then];omega
 rcases r2.none' with⟨q,a,e',rfl,e4⟩|⟨k',e',rfl⟩
 .simp[e,e',PR.then];omega
 .simp[e,e',PR.then]
theorem Qzv{L:List Tk}(hE:W4 L){n p:Nat}{t x:N}{s1 s2 s3 s4 s5:PSt}(hn:4<=n)(hl:isT L p kLet=true)(h1:W9 L (p+1,none)=s1)(r1:Rel L n .typed s1 t s2)(h3:Qs L [61] s2=s3)(r2:Rel L n .expr s3 x s4)(h5:Qs L [59] s4=s5):
 Rel L (n+1) .stmt (p,none) (N.new 7 p s5.1 (if Qz L (p+1,none)then txT L (p+1)else[]) (if Qz L (p+1,none)then((p+1:Nat):Int)else 0) [t,x]) s5:=by
 have hpl:=Q5 hE hl;subst h1;simp only[Rel,pp,hl,Yo,if_true];by_cases c1:kdT L (p+1)=1
 case neg=>simp only[Wu,c1,if_false]at r1;obtain⟨a,rfl,e3⟩:=r1.some';subst h3;simp only[Yp]at r2;obtain⟨b,rfl,e4⟩:=r2.some';subst h5;simp only[G.wt]at e3 e4;simp[c1];omega
 simp only[Wu,c1,if_true]at r1;have hpl2:=Z1 hE (i:=p+1) (by omega);rcases r1.none' with⟨q,a,e,rfl,e3⟩|⟨k,e,rfl⟩
 .subst h3;simp only[Yp]at r2;obtain⟨b,rfl,e4⟩:=r2.some';subst h5;simp only[G.wt]at e4;simp[c1,e,PR.then];omega
 have ha:=Ys hE n .typed (p+1+1);rw[e]at ha;have hk:k<L.length:=by
  rcases Q26 (p+1+1) k with h|h
  .exact ha.2.2 h
  .omega
 by_cases c2:isT L k [61]=true
 case neg=>simp only[Qr,c2]at h3;subst h3;simp only[Q07,if_false]at r2;obtain⟨b,rfl,e4⟩:=r2.some';subst h5;simp only[G.wt]at e4;simp[c1,c2,e,PR.then,Qw];omega
 simp only[Qr,c2,if_true]at h3;subst h3;rcases r2.none' with⟨q,a,e',rfl,e3⟩|⟨k',e',rfl⟩
 .subst h5;simp[c1,c2,e,e',PR.then,Qw];omega
 have ha':=Ys hE n .expr (k+1);rw[e']at ha';have hk':=ha'.2.2 (ha'.2.1 rfl);by_cases c3:isT L k' [59]=true
 .simp only[Qr,c3,if_true]at h5;subst h5;simp[c1,c2,c3,e,e',PR.then,Qw]
 .simp only[Qr,c3]at h5;subst h5;simp[c1,c2,c3,e,e',PR.then,Qw];omega
section
theorem Qcy{L:List Tk}{n:Nat}{g:G}{q p:Nat}{s:PSt}(hL:L.length<=1048576)(hn:n<=1099511627776)(hp:p<L.length)(hgc:g.c<=6)(h:16*(L.length-p)+6<=n+1)(hb:s.1<=L.length+n+5)(hm:MoE L (p+1,none) s)(hl:s.2=none->s.1<L.length):Qeg L n g s:=by refine⟨⟨by omega,by omega,λe=>?_⟩,hl⟩;obtain⟨-,a2,-⟩:=hm e;have:=hl e;simp only at a2;exact⟨by omega,by omega⟩
theorem Qsx{L:List Tk}{n:Nat}{p:Nat}(h:Qeg L (n+1) .stmt (p,none)):Qeg L n .expr (p,none):=by obtain⟨⟨h1,h2,h3⟩,h4⟩:=h;obtain⟨h5,h6⟩:=h3 rfl;simp only[G.c]at*;exact⟨⟨by simp only[G.c]at*;omega,by simp only[G.c];omega,λ_=>⟨h5,by simp only[G.c];omega⟩⟩,λ_=>h4 trivial⟩
theorem Rel.bnd{L:List Tk}{n:Nat}{g:G}{m:N}{s s':PSt}(h:Rel L n g s m s'){B:Nat}(hb:s.1+1<=B)(hB:L.length+n<=B):s'.1<=B:=by rcases h.le with h|h|h|h<;>omega
section
variable{P:Program}{R:RF}{z:Bool}{L:List Tk}
theorem RHas.stmt'(hR:RHas P R)(hx:HasT P [8,47] R.stmt (Zl R.is R.expr R.block R.ended R.word R.typed R.want R.tn))(hE:W4 L)(hL:L.length<=1048576)(n:Nat)(hn:n<=1099511627776)(hEx:UR P R.tr z L n .expr R.expr)(hTy:UR P R.tr z L n .typed R.typed)(hBl:UR P R.tr z L n .block R.block):US P R.tr z L (n+1) .stmt R.stmt:=by
 refine US_of λH i p hi hpp=>?_;refine Yf (Qe hx (by simp[Zl]) λhcl _=>?_);have hp:p<L.length:=hpp.2 rfl;obtain⟨hp1,hp2⟩:=hpp.1.2.2 rfl;simp only[G.c]at hp1 hp2;have hw:IntKind.i64.wrap ((p:Int)+1)=((p+1:Nat):Int):=by rw[wi64 (by omega)];omega
 have hget:∀st X,(H.set i (rst R.tr z L st)++X)[i]?=some (rst R.tr z L st):=λst X=>upG hi;have hcc:∀st' X,Hp.cut H.length (H.set i (rst R.tr z L st')++X)=H.set i (rst R.tr z L st'):=λst' X=>rcut hcl;have gi:=λX x=>hR.isA (z:=z) (st:=none) (X:=X) hi hp x;have no:∀{x y:Bs},x≠y->isT L p x=true->isT L p y=false:=λ{x y} hxy h=>by
  cases h':isT L p y with
  |false=>rfl
  |true=>exact absurd (Qlq h h') hxy
 have hX1:∀X q,(H.set i (rst R.tr z L q)++X).length=H.length+X.length:=λX q=>by simp
 simp only[rst]at gi hget;by_cases hIf:isT L p kIf=true
 .simp[Zl,rst];refine Qa (gi _ kIf) ?_;simp[hIf];have l1:=Q5 hE hIf;have gE:=λX=>hEx H X i (p+1,none) hi (Qcy (q:=0) hL hn hp (by decide) (by omega) (by simp only;omega) (.refl _) (λ_=>l1));simp only[rst]at gE;refine Qa (gi _ kIf) ?_;simp[hIf,hw];refine Qf (gE _) ?_;rintro _ _ ⟨c,s1,rfl,rfl,r1⟩;have m1:=r1.moE hE;have hs1:=m1.lt (λ_=>l1);have b1:=r1.bnd (B:=L.length+n+2) (by simp only;omega) (by omega);have gB:=λX=>hBl H X i s1 hi (Qcy (q:=0) hL hn hp (by decide) (by omega) (by omega) m1 hs1);obtain⟨kc,fc,tc,wc,qc,zc,ksc,hfc,hec,hvc,hbc⟩:=Wm R.tn c;rw[hvc];simp;refine Qf (gB _) ?_;rintro _ _ ⟨b,s2,rfl,rfl,r2⟩;have m2:=m1.trans (r2.moE hE);have hs2:=m2.lt (λ_=>l1);have b2:=r2.bnd (B:=L.length+n+4) (by omega) (by omega);obtain⟨kb,fb,tb,wb,qb,zb,ksb,hfb,heb,hvb,hbb⟩:=Wm R.tn b;rw[hvb];simp;obtain⟨p2,st2⟩:=s2;simp only at hs2 b2;have hno:([.int .i64 0,.int .i64 0,.int .i64 0,.str [],.int .i64 0,.sl true 6 []]:List D)=N.none.enc:=rfl;cases st2 with
  |some q=>
   have hg1:=hget (some q);simp only at hg1;have hq:¬(q:Int)<0:=by omega
   have heo:=hno;simp[rst,hg1,hq];have g5:=λH0=>hR.ended.rendedT 9 p 0 [] 0 true [] (((p2,some q):PSt).1:Int) false [[.int .i64 kc,.int .i64 fc,.int .i64 tc,.str wc,.int .i64 qc,.sl zc 6 (ksc.map N.enc)],[.int .i64 kb,.int .i64 fb,.int .i64 tb,.str wb,.int .i64 qb,.sl zb 6 (ksb.map N.enc)],[.int .i64 0,.int .i64 0,.int .i64 0,.str [],.int .i64 0,.sl true 6 []]] H0 (H.length+5);simp only[ag]at g5;simp[appA,slOf];refine Qa (g5 _ (by simp)) ?_;simp;have hc1:=λX=>hcc ((p2,some q):PSt).2 X;simp only[rst]at hc1;simp[RetK,hc1,rst,nl];have hrel:=Wo (tr:=R.tr) (z:=z) (H:=H) (i:=i) (z':=false) (t:=(((p2,some q):PSt).1:Int)) [c,b,.none] (rows:=[[.int .i64 kc,.int .i64 fc,.int .i64 tc,.str wc,.int .i64 qc,.sl zc 6 (ksc.map N.enc)],[.int .i64 kb,.int .i64 fb,.int .i64 tb,.str wb,.int .i64 qb,.sl zb 6 (ksb.map N.enc)],[.int .i64 0,.int .i64 0,.int .i64 0,.str [],.int .i64 0,.sl true 6 []]]) (by simp[hec,heb,heo]) (by simp) (Qvt hE hIf (no (by decide) hIf) r1 r2 (.inl ⟨rfl,rfl,by simp⟩));simpa[rst]using hrel
  |none=>
   have hg1:=hget none;simp only at hg1;have hp2l:=hs2 rfl;have gi2:=λX=>hR.isA (z:=z) (st:=none) (X:=X) hi hp2l Qgf;have hw2:IntKind.i64.wrap ((p2:Int)+1)=((p2+1:Nat):Int):=by rw[wi64 (by omega)];omega
   simp only[rst]at gi2;simp[rst,hg1];refine Qa (gi2 _) ?_;cases hel:isT L p2 Qgf with
   |false=>have heo:=hno;simp[hel];have g5:=λH0=>hR.ended.rendedT 9 p 0 [] 0 true [] (((p2,none):PSt).1:Int) false [[.int .i64 kc,.int .i64 fc,.int .i64 tc,.str wc,.int .i64 qc,.sl zc 6 (ksc.map N.enc)],[.int .i64 kb,.int .i64 fb,.int .i64 tb,.str wb,.int .i64 qb,.sl zb 6 (ksb.map N.enc)],[.int .i64 0,.int .i64 0,.int .i64 0,.str [],.int .i64 0,.sl true 6 []]] H0 (H.length+5);simp only[ag]at g5;simp[appA,slOf];refine Qa (g5 _ (by simp)) ?_;simp;have hc1:=λX=>hcc ((p2,none):PSt).2 X;simp only[rst]at hc1;simp[RetK,hc1,rst,nl];have hrel:=Wo (tr:=R.tr) (z:=z) (H:=H) (i:=i) (z':=false) (t:=(((p2,none):PSt).1:Int)) [c,b,.none] (rows:=[[.int .i64 kc,.int .i64 fc,.int .i64 tc,.str wc,.int .i64 qc,.sl zc 6 (ksc.map N.enc)],[.int .i64 kb,.int .i64 fb,.int .i64 tb,.str wb,.int .i64 qb,.sl zb 6 (ksb.map N.enc)],[.int .i64 0,.int .i64 0,.int .i64 0,.str [],.int .i64 0,.sl true 6 []]]) (by simp[hec,heb,heo]) (by simp) (Qvt hE hIf (no (by decide) hIf) r1 r2 (.inl ⟨rfl,rfl,λ_=>hel⟩));simpa[rst]using hrel
   |true=>have l2:=Q5 hE hel;have gB:=λX=>hBl H X i (p2+1,none) hi (Qcy (q:=0) hL hn hp (by decide) (by omega) (by simp only;omega) (m2.trans (by intro e;exact⟨rfl,by simp,λ_=>l2⟩)) (λ_=>l2));simp only[rst]at gB;simp[hel,hw2];refine Qf (gB _) ?_;rintro _ _ ⟨o,s3,rfl,rfl,r3⟩;obtain⟨ko,fo,to,wo,qo,zo,kso,hfo,heo,hvo,hbo⟩:=Wm R.tn o;rw[hvo];simp;have g5:=λH0=>hR.ended.rendedT 9 p 0 [] 0 true [] (s3.1:Int) false [[.int .i64 kc,.int .i64 fc,.int .i64 tc,.str wc,.int .i64 qc,.sl zc 6 (ksc.map N.enc)],[.int .i64 kb,.int .i64 fb,.int .i64 tb,.str wb,.int .i64 qb,.sl zb 6 (ksb.map N.enc)],[.int .i64 ko,.int .i64 fo,.int .i64 to,.str wo,.int .i64 qo,.sl zo 6 (kso.map N.enc)]] H0 (H.length+5);simp only[ag]at g5;simp[appA,slOf];refine Qa (g5 _ (by simp)) ?_;simp;have hc1:=λX=>hcc s3.2 X;simp only[rst]at hc1;simp[RetK,hc1,rst,nl];have hrel:=Wo (tr:=R.tr) (z:=z) (H:=H) (i:=i) (z':=false) (t:=(s3.1:Int)) [c,b,o] (rows:=[[.int .i64 kc,.int .i64 fc,.int .i64 tc,.str wc,.int .i64 qc,.sl zc 6 (ksc.map N.enc)],[.int .i64 kb,.int .i64 fb,.int .i64 tb,.str wb,.int .i64 qb,.sl zb 6 (ksb.map N.enc)],[.int .i64 ko,.int .i64 fo,.int .i64 to,.str wo,.int .i64 qo,.sl zo 6 (kso.map N.enc)]]) (by simp[hec,heb,heo]) (by simp) (Qvt hE hIf (no (by decide) hIf) r1 r2 (.inr ⟨rfl,hel,r3⟩));simpa[rst]using hrel
 have hIf:isT L p kIf=false:=by simpa using hIf
 by_cases hWh:isT L p Y3=true
 .simp[Zl,rst];refine Qa (gi _ kIf) ?_;simp[hIf];refine Qa (gi _ Y3) ?_;simp[hWh];have l1:=Q5 hE hWh;have gE:=λX=>hEx H X i (p+1,none) hi (Qcy (q:=0) hL hn hp (by decide) (by omega) (by simp only;omega) (.refl _) (λ_=>l1));simp only[rst]at gE;refine Qa (gi _ kIf) ?_;simp[hIf,hw];refine Qf (gE _) ?_;rintro _ _ ⟨c,s1,rfl,rfl,r1⟩;have m1:=r1.moE hE;have hs1:=m1.lt (λ_=>l1);have b1:=r1.bnd (B:=L.length+n+2) (by simp only;omega) (by omega);have gB:=λX=>hBl H X i s1 hi (Qcy (q:=0) hL hn hp (by decide) (by omega) (by omega) m1 hs1);obtain⟨kc,fc,tc,wc,qc,zc,ksc,hfc,hec,hvc,hbc⟩:=Wm R.tn c;rw[hvc];simp;refine Qf (gB _) ?_;rintro _ _ ⟨b,s2,rfl,rfl,r2⟩;obtain⟨kb,fb,tb,wb,qb,zb,ksb,hfb,heb,hvb,hbb⟩:=Wm R.tn b;rw[hvb];simp;have g5:=λH0=>hR.ended.rendedT 10 p 0 [] 0 true [] (s2.1:Int) false [[.int .i64 kc,.int .i64 fc,.int .i64 tc,.str wc,.int .i64 qc,.sl zc 6 (ksc.map N.enc)],[.int .i64 kb,.int .i64 fb,.int .i64 tb,.str wb,.int .i64 qb,.sl zb 6 (ksb.map N.enc)]] H0 (H.length+5);simp only[ag]at g5;have hc1:=λX=>hcc s2.2 X;simp only[rst]at hc1;refine Qa (g5 _ (by simp)) ?_;simp;simp[RetK,hc1,rst,nl];have hrel:=Wo (tr:=R.tr) (z:=z) (H:=H) (i:=i) (z':=false) (t:=(s2.1:Int)) [c,b] (rows:=[[.int .i64 kc,.int .i64 fc,.int .i64 tc,.str wc,.int .i64 qc,.sl zc 6 (ksc.map N.enc)],[.int .i64 kb,.int .i64 fb,.int .i64 tb,.str wb,.int .i64 qb,.sl zb 6 (ksb.map N.enc)]]) (by simp[hec,heb]) (by simp) (Qvr hE hWh (no (by decide) hWh) hIf r1 r2);simpa[rst]using hrel
 have hWh:isT L p Y3=false:=by simpa using hWh
 by_cases hLe:isT L p kLet=true
 .have l1:=Q5 hE hLe;simp[Zl,rst];refine Qa (gi _ kIf) ?_;simp[hIf];refine Qa (gi _ Y3) ?_;simp[hWh];refine Qa (gi _ kLet) ?_;simp[hLe,hw];have hp1w:(((p+1:Nat),none):PSt).2=none->(((p+1:Nat),none):PSt).1<L.length:=λ_=>l1;have gW:=λX=>hR.wordA (z:=z) (s:=(p+1,none)) (X:=X) hi hp1w (by simp only;omega) 7 p 0 [] 0 true [];simp only[rst,ag]at gW;have hrel0:=λt x s2 s3 s4 s5=>Qzv hE (n:=n) (p:=p) (t:=t) (x:=x) (s1:=W9 L (p+1,none)) (s2:=s2) (s3:=s3) (s4:=s4) (s5:=s5) (by omega) hLe rfl;have m1:=Qaq hE (rfl:W9 L (p+1,none)=_);have b1:=Vc (rfl:W9 L (p+1,none)=_);generalize W9 L (p+1,none)=s1 at gW hrel0 m1 b1;generalize(if Qz L (p+1,none)=true then txT L (p+1)else[])=W at gW hrel0;generalize(if Qz L (p+1,none)=true then((p+1:Nat):Int)else 0)=Q at gW hrel0;have hs1:=m1.lt (λ_=>l1);simp only at b1;have gT:=λX=>hTy H X i s1 hi (Qcy (q:=0) hL hn hp (by decide) (by omega) (by omega) m1 hs1);refine Qa (gW _) ?_;simp;refine Qf (gT _) ?_;rintro _ _ ⟨c,s2,rfl,rfl,r1⟩;have m2:=m1.trans (r1.moE hE);have hs2:=m2.lt (λ_=>l1);have b2:=r1.bnd (B:=L.length+n+3) (by omega) (by omega);obtain⟨kc,fc,tc,wc,qc,zc,ksc,hfc,hec,hvc,hbc⟩:=Wm R.tn c;rw[hvc];have gw:=λX=>hR.wantA (z:=z) (s:=s2) (X:=X) hi hs2 (by omega) [61];have m3:=m2.trans (Vx hE (rfl:Qs L [61] s2=_));have b3:=Ya (rfl:Qs L [61] s2=_);have hrel0:=λx s4 s5=>hrel0 c x s2 (Qs L [61] s2) s4 s5 r1 rfl;generalize Qs L [61] s2=s3 at gw hrel0 m3 b3;have hs3:=m3.lt (λ_=>l1);have gE:=λX=>hEx H X i s3 hi (Qcy (q:=0) hL hn hp (by decide) (by omega) (by omega) m3 hs3);simp[appA,slOf];refine Qa (gw _) ?_;simp;refine Qf (gE _) ?_;rintro _ _ ⟨b,s4,rfl,rfl,r2⟩;have m4:=m3.trans (r2.moE hE);have hs4:=m4.lt (λ_=>l1);have b4:=r2.bnd (B:=L.length+n+5) (by omega) (by omega);obtain⟨kb,fb,tb,wb,qb,zb,ksb,hfb,heb,hvb,hbb⟩:=Wm R.tn b;rw[hvb];have gw:=λX=>hR.wantA (z:=z) (s:=s4) (X:=X) hi hs4 (by omega) [59];have hrel0:=λs5=>hrel0 b s4 s5 r2;generalize Qs L [59] s4=s5 at gw hrel0;have hrel0:=hrel0 s5 rfl;simp;refine Qa (gw _) ?_;simp;have g5:=λH0=>hR.ended.rendedT 7 p 0 W Q true [] (s5.1:Int) true [[.int .i64 kc,.int .i64 fc,.int .i64 tc,.str wc,.int .i64 qc,.sl zc 6 (ksc.map N.enc)],[.int .i64 kb,.int .i64 fb,.int .i64 tb,.str wb,.int .i64 qb,.sl zb 6 (ksb.map N.enc)]] H0 (H.length+2);simp only[ag]at g5;have hc1:=λX=>hcc s5.2 X;simp only[rst]at hc1;simp[appA,slOf];refine W5 (g5 _ (by simp)) ?_;simp;simp[RetK,hc1,rst,nl];have hrel:=Wo (tr:=R.tr) (z:=z) (H:=H) (i:=i) (z':=true) (t:=(s5.1:Int)) [c,b] (rows:=[[.int .i64 kc,.int .i64 fc,.int .i64 tc,.str wc,.int .i64 qc,.sl zc 6 (ksc.map N.enc)],[.int .i64 kb,.int .i64 fb,.int .i64 tb,.str wb,.int .i64 qb,.sl zb 6 (ksb.map N.enc)]]) (by simp[hec,heb]) (by simp) (hrel0);simpa[rst]using hrel
 have hLe:isT L p kLet=false:=by simpa using hLe
 by_cases hPr:isT L p V1=true
 .have l1:=Q5 hE hPr;simp[Zl,rst];refine Qa (gi _ kIf) ?_;simp[hIf];refine Qa (gi _ Y3) ?_;simp[hWh];refine Qa (gi _ kLet) ?_;simp[hLe];refine Qa (gi _ V1) ?_;simp[hPr,hw];have gE:=λX=>hEx H X i (p+1,none) hi (Qcy (q:=0) hL hn hp (by decide) (by omega) (by simp only;omega) (.refl _) (λ_=>l1));simp only[rst]at gE;refine Qf (gE _) ?_;rintro _ _ ⟨x,s1,rfl,rfl,r1⟩;have m1:=r1.moE hE;have hs1:=m1.lt (λ_=>l1);have b1:=r1.bnd (B:=L.length+n+2) (by simp only;omega) (by omega);obtain⟨kx,fx,tx,wx,qx,zx,ksx,hfx,hex,hvx,hbx⟩:=Wm R.tn x;rw[hvx];have gw:=λX=>hR.wantA (z:=z) (s:=s1) (X:=X) hi hs1 (by omega) [59];have hrel0:=Qg5 hE (n:=n) (p:=p) (p0:=p+1) (K:=11) (Q:=0) (W:=[]) (x:=x) (by omega) (by simp[pp,hIf,hWh,hLe,hPr]) r1;generalize Qs L [59] s1=s2 at gw hrel0;simp;refine Qa (gw _) ?_;simp;have g5:=λH0=>hR.ended.rendedT 11 p 0 [] 0 true [] (s2.1:Int) true [[.int .i64 kx,.int .i64 fx,.int .i64 tx,.str wx,.int .i64 qx,.sl zx 6 (ksx.map N.enc)]] H0 (H.length+2);simp only[ag]at g5;have hc1:=λX=>hcc s2.2 X;simp only[rst]at hc1;simp[appA,slOf];refine W5 (g5 _ (by simp)) ?_;simp;simp[RetK,hc1,rst,nl];have hrel:=Wo (tr:=R.tr) (z:=z) (H:=H) (i:=i) (z':=true) (t:=(s2.1:Int)) [x] (rows:=[[.int .i64 kx,.int .i64 fx,.int .i64 tx,.str wx,.int .i64 qx,.sl zx 6 (ksx.map N.enc)]]) (by simp[hex]) (by simp) (hrel0);simpa[rst]using hrel
 have hPr:isT L p V1=false:=by simpa using hPr
 by_cases hRe:isT L p Vw=true
 .have l1:=Q5 hE hRe;simp[Zl,rst];refine Qa (gi _ kIf) ?_;simp[hIf];refine Qa (gi _ Y3) ?_;simp[hWh];refine Qa (gi _ kLet) ?_;simp[hLe];refine Qa (gi _ V1) ?_;simp[hPr];refine Qa (gi _ Vw) ?_;simp[hRe,hw];have gE:=λX=>hEx H X i (p+1,none) hi (Qcy (q:=0) hL hn hp (by decide) (by omega) (by simp only;omega) (.refl _) (λ_=>l1));simp only[rst]at gE;refine Qf (gE _) ?_;rintro _ _ ⟨x,s1,rfl,rfl,r1⟩;have m1:=r1.moE hE;have hs1:=m1.lt (λ_=>l1);have b1:=r1.bnd (B:=L.length+n+2) (by simp only;omega) (by omega);obtain⟨kx,fx,tx,wx,qx,zx,ksx,hfx,hex,hvx,hbx⟩:=Wm R.tn x;rw[hvx];have gw:=λX=>hR.wantA (z:=z) (s:=s1) (X:=X) hi hs1 (by omega) [59];have hrel0:=Qg5 hE (n:=n) (p:=p) (p0:=p+1) (K:=12) (Q:=0) (W:=[]) (x:=x) (by omega) (by simp[pp,hIf,hWh,hLe,hPr,hRe]) r1;generalize Qs L [59] s1=s2 at gw hrel0;simp;refine Qa (gw _) ?_;simp;have g5:=λH0=>hR.ended.rendedT 12 p 0 [] 0 true [] (s2.1:Int) true [[.int .i64 kx,.int .i64 fx,.int .i64 tx,.str wx,.int .i64 qx,.sl zx 6 (ksx.map N.enc)]] H0 (H.length+2);simp only[ag]at g5;have hc1:=λX=>hcc s2.2 X;simp only[rst]at hc1;simp[appA,slOf];refine W5 (g5 _ (by simp)) ?_;simp;simp[RetK,hc1,rst,nl];have hrel:=Wo (tr:=R.tr) (z:=z) (H:=H) (i:=i) (z':=true) (t:=(s2.1:Int)) [x] (rows:=[[.int .i64 kx,.int .i64 fx,.int .i64 tx,.str wx,.int .i64 qx,.sl zx 6 (ksx.map N.enc)]]) (by simp[hex]) (by simp) (hrel0);simpa[rst]using hrel
 have hRe:isT L p Vw=false:=by simpa using hRe
 have hA:=Wg (Qfv hi (rst R.tr z L none));have hr:=Qt Qp hp;have hg:L[p]?=some L[p]:=Q0x hp;have hkd:kdT L p=L[p].k:=by unfold kdT;rw[hg]
 generalize L[p]=tk at hr hkd;obtain⟨kk,ta,tl,y⟩:=tk;simp only[Qp]at hr hkd;have hget1:=λX=>hget none X;simp only at hget1;by_cases h1:kk=1
 .subst h1;have l1:=Z1 hE (i:=p) (by omega);have gi1:=λX=>hR.isA (z:=z) (st:=none) (X:=X) hi l1 [61];simp only[rst]at gi1;by_cases hSe:isT L (p+1) [61]=true
  .have l2:=Q5 hE hSe;have hw2:IntKind.i64.wrap ((p:Int)+1+1)=((p+2:Nat):Int):=by rw[wi64 (by omega)];omega
   have hpw:(((p:Nat),none):PSt).2=none->(((p:Nat),none):PSt).1<L.length:=λ_=>hp;have gW:=λX=>hR.wordA (z:=z) (s:=(p,none)) (X:=X) hi hpw (by simp only;omega) 8 p 0 [] 0 true [];simp only[Wu,Qg0,hkd,if_true,decide_true,rst,ag]at gW;have gE:=λX=>hEx H X i (p+2,none) hi (Qcy (q:=0) hL hn hp (by decide) (by omega) (by simp only;omega) (by intro e;exact⟨rfl,by simp,λ_=>l2⟩) (λ_=>l2));simp only[rst]at gE;simp[Zl,rst];refine Qa (gi _ kIf) ?_;simp[hIf];refine Qa (gi _ Y3) ?_;simp[hWh];refine Qa (gi _ kLet) ?_;simp[hLe];refine Qa (gi _ V1) ?_;simp[hPr];refine Qa (gi _ Vw) ?_;simp[hRe,hget1,hr,hw];refine Qa (gi1 _) ?_;simp[hSe];refine Qa (gW _) ?_;simp[hw2];refine Qf (gE _) ?_;rintro _ _ ⟨x,s1,rfl,rfl,r1⟩;have m1:=r1.moE hE;have hs1:=m1.lt (λ_=>l2);have b1:=r1.bnd (B:=L.length+n+3) (by simp only;omega) (by omega);obtain⟨kx,fx,tx,wx,qx,zx,ksx,hfx,hex,hvx,hbx⟩:=Wm R.tn x;rw[hvx];have gw:=λX=>hR.wantA (z:=z) (s:=s1) (X:=X) hi hs1 (by omega) [59];have hrel0:=Qg5 hE (n:=n) (p:=p) (p0:=p+2) (K:=8) (Q:=(p:Int)) (W:=txT L p) (x:=x) (by omega) (by simp[pp,hIf,hWh,hLe,hPr,hRe,hkd,hSe]) r1;generalize Qs L [59] s1=s2 at gw hrel0;simp;refine Qa (gw _) ?_;simp;have g5:=λH0=>hR.ended.rendedT 8 p 0 (txT L p) p true [] (s2.1:Int) true [[.int .i64 kx,.int .i64 fx,.int .i64 tx,.str wx,.int .i64 qx,.sl zx 6 (ksx.map N.enc)]] H0 (H.length+2);simp only[ag]at g5;have hc1:=λX=>hcc s2.2 X;simp only[rst]at hc1;simp[appA,slOf];refine W5 (g5 _ (by simp)) ?_;simp;simp[RetK,hc1,rst,nl];have hrel:=Wo (tr:=R.tr) (z:=z) (H:=H) (i:=i) (z':=true) (t:=(s2.1:Int)) [x] (rows:=[[.int .i64 kx,.int .i64 fx,.int .i64 tx,.str wx,.int .i64 qx,.sl zx 6 (ksx.map N.enc)]]) (by simp[hex]) (by simp) (hrel0);simpa[rst]using hrel
  .have hSe:isT L (p+1) [61]=false:=by simpa using hSe
   have gE:=λX=>hEx H X i (p,none) hi (Qsx hpp);simp only[rst]at gE;simp[Zl,rst];refine Qa (gi _ kIf) ?_;simp[hIf];refine Qa (gi _ Y3) ?_;simp[hWh];refine Qa (gi _ kLet) ?_;simp[hLe];refine Qa (gi _ V1) ?_;simp[hPr];refine Qa (gi _ Vw) ?_;simp[hRe,hget1,hr,hw];refine Qa (gi1 _) ?_;simp[hSe];refine Qf (gE _) ?_;rintro _ _ ⟨x,s1,rfl,rfl,r1⟩;have m1:=r1.moE hE;have hs1:=m1.lt (λ_=>hp);have b1:=r1.bnd (B:=L.length+n+3) (by simp only;omega) (by omega);obtain⟨kx,fx,tx,wx,qx,zx,ksx,hfx,hex,hvx,hbx⟩:=Wm R.tn x;rw[hvx];have gw:=λX=>hR.wantA (z:=z) (s:=s1) (X:=X) hi hs1 (by omega) [59];have hrel0:=Qg5 hE (n:=n) (p:=p) (p0:=p) (K:=13) (Q:=0) (W:=[]) (x:=x) (by omega) (by simp[pp,hIf,hWh,hLe,hPr,hRe,hkd,hSe]) r1;generalize Qs L [59] s1=s2 at gw hrel0;simp;refine Qa (gw _) ?_;simp;have g5:=λH0=>hR.ended.rendedT 13 p 0 [] 0 true [] (s2.1:Int) true [[.int .i64 kx,.int .i64 fx,.int .i64 tx,.str wx,.int .i64 qx,.sl zx 6 (ksx.map N.enc)]] H0 (H.length+2);simp only[ag]at g5;have hc1:=λX=>hcc s2.2 X;simp only[rst]at hc1;simp[appA,slOf];refine W5 (g5 _ (by simp)) ?_;simp;simp[RetK,hc1,rst,nl];have hrel:=Wo (tr:=R.tr) (z:=z) (H:=H) (i:=i) (z':=true) (t:=(s2.1:Int)) [x] (rows:=[[.int .i64 kx,.int .i64 fx,.int .i64 tx,.str wx,.int .i64 qx,.sl zx 6 (ksx.map N.enc)]]) (by simp[hex]) (by simp) (hrel0);simpa[rst]using hrel
 .have hk1:¬kdT L p=1:=by rw[hkd];exact h1
  have gE:=λX=>hEx H X i (p,none) hi (Qsx hpp);simp only[rst]at gE;simp[Zl,rst];refine Qa (gi _ kIf) ?_;simp[hIf];refine Qa (gi _ Y3) ?_;simp[hWh];refine Qa (gi _ kLet) ?_;simp[hLe];refine Qa (gi _ V1) ?_;simp[hPr];refine Qa (gi _ Vw) ?_;simp[hRe,hget1,hr,h1];refine Qf (gE _) ?_;rintro _ _ ⟨x,s1,rfl,rfl,r1⟩;have m1:=r1.moE hE;have hs1:=m1.lt (λ_=>hp);have b1:=r1.bnd (B:=L.length+n+3) (by simp only;omega) (by omega);obtain⟨kx,fx,tx,wx,qx,zx,ksx,hfx,hex,hvx,hbx⟩:=Wm R.tn x;rw[hvx];have gw:=λX=>hR.wantA (z:=z) (s:=s1) (X:=X) hi hs1 (by omega) [59];have hrel0:=Qg5 hE (n:=n) (p:=p) (p0:=p) (K:=13) (Q:=0) (W:=[]) (x:=x) (by omega) (by simp[pp,hIf,hWh,hLe,hPr,hRe,hk1]) r1;generalize Qs L [59] s1=s2 at gw hrel0;simp;refine Qa (gw _) ?_;simp;have g5:=λH0=>hR.ended.rendedT 13 p 0 [] 0 true [] (s2.1:Int) true [[.int .i64 kx,.int .i64 fx,.int .i64 tx,.str wx,.int .i64 qx,.sl zx 6 (ksx.map N.enc)]] H0 (H.length+2);simp only[ag]at g5;have hc1:=λX=>hcc s2.2 X;simp only[rst]at hc1;simp[appA,slOf];refine W5 (g5 _ (by simp)) ?_;simp;simp[RetK,hc1,rst,nl];have hrel:=Wo (tr:=R.tr) (z:=z) (H:=H) (i:=i) (z':=true) (t:=(s2.1:Int)) [x] (rows:=[[.int .i64 kx,.int .i64 fx,.int .i64 tx,.str wx,.int .i64 qx,.sl zx 6 (ksx.map N.enc)]]) (by simp[hex]) (by simp) (hrel0);simpa[rst]using hrel
end
end
def Ex.mid(M:Fr->Hp->Prop)(Q:Ex->Fr->Hp->Prop):Ex->Fr->Hp->Prop
 |.normal=>M
 |e=>Q e
@[simp↓]theorem Qz6{M:Fr->Hp->Prop}{Q:Ex->Fr->Hp->Prop}{fr:Fr}{H:Hp}:Ex.mid M Q .normal fr H=M fr H:=rfl
@[simp↓]theorem mid_ret{M:Fr->Hp->Prop}{Q:Ex->Fr->Hp->Prop}{fr:Fr}{H:Hp}:Ex.mid M Q .ret fr H=Q .ret fr H:=rfl
@[simp↓]theorem mid_exit{M:Fr->Hp->Prop}{Q:Ex->Fr->Hp->Prop}{j:Nat}{fr:Fr}{H:Hp}:Ex.mid M Q (.exit j) fr H=Q (.exit j) fr H:=rfl
theorem Qkr{P:Program}{n0:Nat}{Q:Ex->Fr->Hp->Prop}{fr:Fr}{H:Hp}{a b:C}(M:Fr->Hp->Prop)(h:AWp P n0 a (Ex.mid M Q) fr H)(hm:∀fr H,M fr H->AWp P n0 b Q fr H):AWp P n0 (.seq a b) Q fr H:=
 AWp.mono a (λe fr H h=>by
  cases e with
  |normal=>exact hm fr H h
  |ret=>exact h
  |exit j=>exact h) fr H h
theorem Qsu{L:List Tk}(hE:W4 L){n p:Nat}{one sub:G}{K:Int}{t:N}{s3:PSt}(h0:1≤n)(hpe:pp L (n+1) one p=Yo L p fun w _=>Qw L (p+1) [58] fun _=>(pp L n sub (p+2)).then fun t j=>.ok (N.new K p j w p [t]) j)(hp:p<L.length)(h:Rel L n sub (Qs L [58] (W9 L (p,none))) t s3)(hb:s3.1≤L.length+(n+1)):Rel L (n+1) one (p,none) (N.new K p s3.1 (if Qz L (p,none)then txT L p else[]) (if Qz L (p,none)then(p:Int)else 0) [t]) s3:=by
 simp only[Rel,hpe,Yo];by_cases c:kdT L p=1
 .simp only[Wu,c,if_true]at h⊢;have l1:=Z1 hE (i:=p) (by omega);by_cases c2:isT L (p+1) [58]=true
  .simp only[Qr,c2,if_true]at h;rcases h.none' with⟨q,a,e,rfl,e3⟩|⟨k,e,rfl⟩
   .simp[e,PR.then,Qw,c2];omega
   .simp[e,PR.then,Qw,c2,c]
  .simp only[Qr,c2]at h;obtain⟨a,rfl,e3⟩:=h.some';simp[Qw,c2];omega
 .simp only[Wu,c,if_false,Yp]at h;obtain⟨a,rfl,e3⟩:=h.some';simp only[c,if_false];simp;omega
theorem Qt3{L:List Tk}(hE:W4 L){n p:Nat}{t:N}{s3:PSt}(h0:1<=n)(hp:p<L.length)(h:Rel L n .kind (Qs L [58] (W9 L (p,none))) t s3)(hb:s3.1<=L.length+(n+1)):Rel L (n+1) .tfield (p,none) (N.new 33 p s3.1 (if Qz L (p,none)then txT L p else[]) (if Qz L (p,none)then(p:Int)else 0) [t]) s3:=Qsu hE h0 (by simp only[pp]) hp h hb
theorem Qvv{L:List Tk}(hE:W4 L){n p:Nat}{t:N}{s3:PSt}(h0:1<=n)(hp:p<L.length)(h:Rel L n .expr (Qs L [58] (W9 L (p,none))) t s3)(hb:s3.1<=L.length+(n+1)):Rel L (n+1) .entry (p,none) (N.new 27 p s3.1 (if Qz L (p,none)then txT L p else[]) (if Qz L (p,none)then(p:Int)else 0) [t]) s3:=Qsu hE h0 (by simp only[pp]) hp h hb
theorem Qyx{L:List Tk}{n p:Nat}{g one:G}{e:Bs}{K:Int}{ks:List N}{s2:PSt}(hpe:pp L (n+1) g p=(pp L n (.list one e) (p+1)).then λm j=>.ok (N.new K p j [] 0 m.ks) j)(h:Rel L n (.list one e) (p+1,none) (N.bag ks) s2):Rel L (n+1) g (p,none) (N.new K p s2.1 [] 0 ks) s2:=by
 simp only[Rel,hpe];rcases h.none' with⟨q,a,e,rfl,e3⟩|⟨k,e,rfl⟩
 .simp[e,PR.then];omega
 .simp[e,PR.then,N.bag,N.new,N.ks]
theorem Qzx{L:List Tk}(hE:W4 L){n p:Nat}{ks:List N}{t:N}{s1 s2 s3 s4 s5:PSt}(hp:p<L.length)(i1:isT L p kInt=false)(i2:isT L p kStr=false)(i3:isT L p kDyn=false)(i4:isT L p [123]=false)(h1:Qs L kFn (p,none)=s1)(h2:Qs L [40] s1=s2)(h3:Rel L n (.list .kind [41]) s2 (N.bag ks) s3)(h4:Qs L [58] s3=s4)(h5:Rel L n .kind s4 t s5):Rel L (n+1) .kind (p,none) (N.new 34 p s5.1 [] 0 (ks++[t])) s5:=by
 simp only[Rel,pp,i1,i2,i3,i4,Qw,Q07,if_false];by_cases c1:isT L p kFn=true
 case neg=>simp only[Qr,c1]at h1;subst h1;simp only[Q07,if_false,Yp]at h2;subst h2;obtain⟨a,rfl,e3⟩:=h3.some';simp only[Yp]at h4;subst h4;obtain⟨b,rfl,e5⟩:=h5.some';simp only[G.wt]at e3 e5;simp[c1];omega
 have l1:=Q5 hE c1;simp only[Qr,c1,if_true]at h1;subst h1;by_cases c2:isT L (p+1) [40]=true
 case neg=>simp only[Qr,c2]at h2;subst h2;simp only[Q07,if_false]at h3;obtain⟨a,rfl,e3⟩:=h3.some';simp only[Yp]at h4;subst h4;obtain⟨b,rfl,e5⟩:=h5.some';simp only[G.wt]at e3 e5;simp[c1,c2];omega
 have l2:=Q5 hE c2;simp only[Qr,c2,if_true]at h2;subst h2;rcases h3.none' with⟨q,a,e,rfl,e3⟩|⟨k,e,rfl⟩
 .simp only[Yp]at h4;subst h4;obtain⟨b,rfl,e5⟩:=h5.some';simp only[G.wt]at e5;simp[c1,c2,e,PR.then];omega
 have ha:=Ys hE n (.list .kind [41]) (p+1+1);rw[e]at ha;have hk:k<L.length:=by
  rcases Q26 (p+1+1) k with h|h
  .exact ha.2.2 h
  .omega
 by_cases c3:isT L k [58]=true
 case neg=>simp only[Qr,c3]at h4;subst h4;simp only[Q07,if_false]at h5;obtain⟨b,rfl,e5⟩:=h5.some';simp only[G.wt]at e5;simp[c1,c2,c3,e,PR.then];omega
 simp only[Qr,c3,if_true]at h4;subst h4;rcases h5.none' with⟨q,a,e',rfl,e5⟩|⟨k',e',rfl⟩
 .simp[c1,c2,c3,e,e',PR.then];omega
 .simp[c1,c2,c3,e,e',PR.then,N.bag,N.new,N.ks]
section
def Qz3:Nat->Bs
 |0=>kInt
 |1=>kStr
 |_=>kDyn
section
variable{P:Program}{R:RF}{z:Bool}{L:List Tk}
theorem RHas.kind'(hR:RHas P R)(hx:HasT P [9] R.kind (Qe7 R.is R.word R.want R.kind R.ended R.tn))(hE:W4 L)(hL:L.length<=1048576)(n:Nat)(hn:n<=1099511627776)(hS:∀m,m<n+1->UR P R.tr z L m .kind R.kind):UR P R.tr z L (n+1) .kind R.kind:=by
 refine Qih λH i s hi hpp=>?_;refine Yf (Qe hx (by simp[Qe7]) λhcl _=>?_);have hp0:=hpp.1.1;simp only[G.c]at hp0;obtain⟨p,st⟩:=s;have hget:∀st X,(H.set i (rst R.tr z L st)++X)[i]?=some (rst R.tr z L st):=λst X=>upG hi;have hcc:∀st' X,Hp.cut H.length (H.set i (rst R.tr z L st')++X)=H.set i (rst R.tr z L st'):=λst' X=>rcut hcl;cases st with
 |some q=>
  have hq':(0:Int)<=q:=by omega
  have hg1:=hget (some q);have hc1:=hcc (some q);simp only[rst]at hg1 hc1;simp[Qe7,rst,hg1,hq'];simp[RetK,hc1,rst,nl];have hrel:=Wo (tr:=R.tr) (z:=z) (L:=L) (H:=H) (i:=i) (z':=true) (n:=n+1) (g:=.kind) (s:=(p,some q)) (s':=(p,some q)) (k:=0) (f:=0) (t:=0) (a:=0) (w:=[]) [] (rows:=[]) rfl (by simp) (by simp[Rel]);simpa[rst]using hrel
 |none=>
  have hp:p<L.length:=hpp.2 rfl;obtain⟨hp1,hp2⟩:=hpp.1.2.2 rfl;simp only[G.c]at hp1 hp2;have hw:IntKind.i64.wrap ((p:Int)+1)=((p+1:Nat):Int):=by rw[wi64 (by omega)];omega
  have hg1:=hget none;simp only[rst]at hg1;have gi:=λx X=>hR.isA (z:=z) (st:=none) (X:=X) hi hp x;simp only[rst]at gi;simp[Qe7,rst,hg1];obtain⟨E,hE0⟩:∃E:Fr->Hp->Prop,E=λfr H'=>(fr 0=.ptr i 0/\fr 1=YI p/\fr 4=.ptr H.length 0/\fr 6=YI p)/\(isT L p kInt=false/\isT L p kStr=false/\isT L p kDyn=false)/\H'=H.set i (rst R.tr z L none)++[zbx R.tn]:=⟨_,rfl⟩;obtain⟨RR,hRR⟩:∃RR:Fr->Hp->Prop,RR=λfr H'=>∃K:Nat,fr 4=.ptr H.length 0/\fr 5=YI ((p+1:Nat):Int)/\pp L (n+1) .kind p=.ok (N.new K p (p+1) [] 0 []) (p+1)/\H'=H.set i (rst R.tr z L none)++[.box R.tn [YI K,YI p,YI ((p+1:Nat):Int),YS [],YI 0,YL true 6 []]]:=⟨_,rfl⟩;refine Qm 0 E RR ?_ ?_ ?_;rotate_left
  .intro fr H' h;subst hRR;obtain⟨K,f4,f5,hr,rfl⟩:=h;simp[f4,f5];simp[RetK,hcc,nl];have hrel:=Wo (tr:=R.tr) (z:=z) (L:=L) (H:=H) (i:=i) (z':=true) (n:=n+1) (g:=.kind) (s:=(p,none)) (s':=(p+1,none)) (k:=K) (f:=p) (t:=((p+1:Nat):Int)) (a:=0) (w:=[]) [] (rows:=[]) rfl (by simp) (by simp[Rel,hr]);simpa using hrel
  .intro fr H' h;subst hE0;clear hRR;obtain⟨⟨f0,f1,f4,f6⟩,⟨i1,i2,i3⟩,rfl⟩:=h;have gi4:=λX=>gi [123] X;cases i4:isT L p [123]with
   |true=>
    rw[i4]at gi4;have l1:=Q5 hE i4;simp[f0,f1,f4,f6,rst,zbx];refine Qa (gi4 _) ?_;simp[f6,hw];have hs0l:(((p+1,none):PSt)).2=none->((p+1,none):PSt).1<L.length:=λ_=>l1;have hs0c:((p+1,none):PSt).2=none->16*(L.length-((p+1,none):PSt).1)+9<=n:=λ_=>by simp only;omega
    obtain⟨XX,hXX⟩:∃XX:List N->Hp,XX=λks=>[zbx R.tn,.tok ks.length 6 R.tn]:=⟨_,rfl⟩;have hXl:∀a,(XX a).length=2:=λa=>by rw[hXX];rfl
    obtain⟨E,hE0⟩:∃E:Fr->Hp->Prop,E=λfr H'=>∃(ks:List N)(s':PSt)(X:Hp),(fr 0=.ptr i 0/\fr 1=YI p/\fr 4=.ptr H.length 0/\fr 6=YI s'.1/\fr 9=.osl true 6 (ks.map N.enc) (H.length+1))/\(s'.2=none->s'.1<L.length)/\s'.1<=1125899906842624/\ks.length*72<=70368744177664/\Rel L n (.list .tfield [125]) ((p+1,none):PSt) (N.bag ks) (Qs L [125] s')/\H'=H.set i (rst R.tr z L s'.2)++(XX ks++X):=⟨_,rfl⟩;refine Qm 2 E (λ_ _=>False) ?_ (λ_ _ h=>h.elim) ?_;rotate_left
    .intro fr H' h;subst hE0;obtain⟨ks,s',X,⟨f0,f1,f4,f6,f9⟩,hlt,hb,hkb,hr,rfl⟩:=h;have g2:=λX=>hR.wantA (z:=z) (s:=s') (X:=X) hi hlt hb [125];generalize Qs L [125] s'=s2 at g2 hr;simp[f0,f6];refine Qa (g2 _) ?_;have g5:=λH0=>hR.ended.rendedT 32 (p:Int) 0 [] 0 true [] (s2.1:Int) true (ks.map N.enc) H0 (H.length+1);simp only[ag]at g5;simp[f1,f9,hXl];refine Qa (g5 _ (by simp[hXl];omega)) ?_;subst hXX;simp[f4,zbx];simp[RetK,rcut hcl,nl];exact Wo (z':=true) ks rfl (λ_=>rfl) (Qyx (by simp[pp,i1,i2,i3,i4]) hr)
    have hE1:∀fr (ks:List N) (s':PSt) (X:Hp),(fr 0=.ptr i 0/\fr 1=YI p/\fr 4=.ptr H.length 0/\fr 6=YI s'.1/\fr 9=.osl true 6 (ks.map N.enc) (H.length+1))->(s'.2=none->s'.1<L.length)->s'.1<=1125899906842624->ks.length*72<=70368744177664->Rel L n (.list .tfield [125]) ((p+1,none):PSt) (N.bag ks) (Qs L [125] s')->E fr (H.set i (rst R.tr z L s'.2)++(XX ks++X)):=λfr ks s' X a b c d e=>by subst hE0;exact⟨ks,s',X,a,b,c,d,e,rfl⟩
    clear hE0;have hF:=lfs (KT:=1) (m0:=2) (m1:=3) (λn=>n) hcl hi [zbx R.tn] hXX rfl rfl rfl λ_=>rfl;obtain⟨hcut,hcut0,hg0,hgT,hgT1,hgB,hgC,hsT⟩:=hF;have hil2:i<H.length+2:=by omega
    rw[show H.set i (.box R.tr [YL z 4 (L.map Qp),YI (-1)])++[Ob.box R.tn [YI 0,YI 0,YI 0,YS [],YI 0,YL true 6 []],.tok 0 6 R.tn]=H.set i (rst R.tr z L none)++XX [] by rw[hXX];rfl];refine Q3 (H.length+2) (λd fr H'=>∃(ks:List N)(s':PSt),(fr 0=.ptr i 0/\fr 1=YI p/\fr 4=.ptr H.length 0/\fr 6=YI s'.1/\fr 9=.osl true 6 (ks.map N.enc) (H.length+1))/\H'=H.set i (rst R.tr z L s'.2)++XX ks/\
     ((d=0/\s'.2≠none/\s'.1<=1125899906842624/\ks.length*72<=70368744177664/\∀m,Rel L n (.list .tfield [125]) ((p+1,none):PSt) m s')\/∃p1,s'=(p1,none)/\((p+1,none):PSt).2=none/\d<=n/\pp L n (.list .tfield [125]) ((p+1,none):PSt).1=pp L d (LG .tfield [125] ks) p1/\p1<L.length/\16*(L.length-p1)+9<=d/\ks.length<=p1)) (match((p+1,none):PSt).2 with|none=>n|some _=>0) (by simp[hXl]) ⟨[],((p+1,none):PSt),?_⟩ ?_
    .refine⟨by simp[hil2,f0,f1,f4],hcut0 _ _,?_⟩;cases h0:((p+1,none):PSt).2 with
     |some q=>first|exact absurd h0 (by simp;done)|exact .inl ⟨rfl,by simp[h0],by omega,by simp,λm=>by simp[Rel,h0,G.wt]⟩
     |none=>exact .inr ⟨((p+1,none):PSt).1,by rw[<-h0],rfl,Q00 _,by simp[LG],hs0l h0,by have:=hs0c h0;omega,by simp⟩
    .rintro d fr H' ⟨ks,s',⟨f0,f1,f4,f6,f9⟩,rfl,hd⟩;rcases hd with⟨rfl,q1,qb,qk,q2⟩|⟨p1,rfl,hs2,hdn,hpe,hp1',hrk,hks⟩
     .obtain⟨p',st'⟩:=s';cases st' with
      |none=>simp at q1
      |some q=>
       have hg1:=hg0 (some q);have hq:¬(q:Int)<0:=by omega
       have hE2:=λfr h=>hE1 fr ks (p',some q) [] h (λe=>by cases e) qb qk (q2 _);simp only[rst,Q1i]at hg1 hE2;simp[f0,f6,rst,hg1,hq];exact hE2 _ (by simp[f0,f1,f4,f6,f9,hXl])
     .have hRel:∀m s',(match pp L d (LG .tfield [125] ks) p1 with|.out=>False|.bad q=>s'.2=some q/\s'.1<=L.length+n|.ok m' k=>m=m'/\s'=(k,none))->Rel L n (.list .tfield [125]) ((p+1,none):PSt) m s':=λm s' h=>by unfold Rel;rw[hs2];simp only;rw[hpe];exact h
      have hg1:=hg0 none;have gi:=λX=>hR.isA (z:=z) (st:=none) (X:=X) hi hp1' [125];by_cases hend:ks=[]/\isT L p1 [125]=true
      .obtain⟨rfl,hjb⟩:=hend;obtain⟨d',rfl⟩:∃d',d=d'+1:=⟨d-1,by omega⟩;have hE2:=λfr h=>hE1 fr [] (p1,none) [] h (λ_=>hp1') (by simp only;omega) (by simp) (hRel _ _ (by simp[LG,pp,hjb,N.bag,N.new]));rw[hjb]at gi;simp only[rst,Q1i]at hg1 gi hE2;simp[f0,f6,f9,rst,hg1];refine Qa (gi _) ?_;simp;exact hE2 _ (by simp[f0,f1,f4,f6,f9,hXl])
      .have hje:ks=[]->isT L p1 [125]=false:=λe=>by
        cases h:isT L p1 [125]with
        |false=>rfl
        |true=>exact absurd ⟨e,h⟩ hend
       obtain⟨M,hM⟩:∃M:Fr->Hp->Prop,M=λfr H'=>(fr 0=.ptr i 0/\fr 1=YI p/\fr 4=.ptr H.length 0/\fr 6=YI (((p1,none):PSt).1:Int)/\fr 9=.osl true 6 (ks.map N.enc) (H.length+1))/\H'=H.set i (rst R.tr z L none)++XX ks:=⟨_,rfl⟩;have hM1:∀fr,(fr 0=.ptr i 0/\fr 1=YI p/\fr 4=.ptr H.length 0/\fr 6=YI (((p1,none):PSt).1:Int)/\fr 9=.osl true 6 (ks.map N.enc) (H.length+1))->M fr (H.set i (rst R.tr z L none)++XX ks):=λfr h=>by subst hM;exact⟨h,rfl⟩
       refine Qkr M ?_ ?_
       .clear hM;simp only[rst]at hg1 gi hM1;rcases Q3b ks with hk0|⟨kk,kx,hk0⟩
        .rw[hje hk0]at gi;simp[f0,f6,f9,rst,hg1,hk0];refine Qa (gi _) ?_;rw[<-hk0];simp[f0,f6];exact hM1 _ (by simp[f0,f1,f4,f6,f9,hXl])
        .have hkn:¬ks=[]:=λe=>by rw[e]at hk0;simp at hk0
         simp[f0,f6,f9,rst,hg1,hkn];exact hM1 _ (by simp[f0,f1,f4,f6,f9,hXl])
       .intro fr H' h;subst hM;obtain⟨⟨f0,f1,f4,f6,f9⟩,rfl⟩:=h;have hstep:=Qil (L:=L) (d:=d) (one:=.tfield) (e:=[125]) (ks:=ks) (p:=p1) (by omega) hje;obtain⟨m,hm1,hm2,hpp2⟩:=hstep;obtain⟨m',rfl⟩:∃m',m=m'+1:=⟨m-1,by omega⟩;have gw:=λX=>hR.wordA (z:=z) (s:=(p1,none)) (X:=X) hi (λ_=>hp1') (by simp only;omega) 33 p1 0 [] 0 true [];have hrp:=λt s3=>Qt3 (L:=L) hE (n:=m') (p:=p1) (t:=t) (s3:=s3) (by omega) hp1';generalize h2:W9 L (p1,none)=s2 at gw hrp;have b2:=Vc h2;have m2:=Qaq hE h2;have hlt2:=m2.lt (λ_=>hp1');simp only at gw b2;have gv:=λX=>hR.wantA (z:=z) (s:=s2) (X:=X) hi hlt2 (by omega) [58];generalize h2v:Qs L [58] s2=s2v at gv hrp;have b2:=Q2b (Ya h2v) (Nat.succ_le_succ b2);have m2:=m2.trans (Vx hE h2v);have hlt2:=m2.lt (λ_=>hp1');simp only[rst]at gv;have gt:=λX=>hS m' (by omega) H X i s2v hi ⟨⟨by simp only[G.c];omega,by simp only[G.c];omega,λe=>by obtain⟨a1,a2,a3⟩:=m2 e;have:=hlt2 e;simp only at a2;simp only[G.c];exact⟨by omega,by omega⟩⟩,hlt2⟩
        generalize(if Qz L (p1,none)=true then txT L p1 else[])=W at gw hrp;generalize(if Qz L (p1,none)=true then(p1:Int)else 0)=Q at gw hrp;simp only[rst,ag]at hg1 gw gt;simp[f0,f6,rst];refine Qa (gw _) ?_;simp[f0];refine Qa (gv _) ?_;simp[f0];refine Qf (gt _) ?_;rintro _ _ ⟨t,s3,rfl,rfl,r3⟩;obtain⟨kt,ft,tt',wt',qt,zt,kst,hft,het,hvt,hbt⟩:=Wm R.tn t;rw[hvt];obtain⟨bo,hbo⟩:∃bo:Ob,bo=.box R.tn [YI 33,YI p1,YI 0,YS W,YI Q,YL true 6 []]:=⟨_,rfl⟩;obtain⟨co,hco⟩:∃co:Ob,co=.box R.tn [YI kt,YI ft,YI tt',YS wt',YI qt,YL zt 6 (kst.map N.enc)]:=⟨_,rfl⟩;have hB:=λX=>hgB ks bo X;have hC:=λX=>hgC ks bo co X;rw[hbo]at hB;rw[hbo,hco]at hC;have hT:=hgT ks;have hT1:=hgT1 ks;have g5:=λH0=>hR.ended.rended 33 p1 0 W Q true [] (s3.1:Int) false [t.enc] H0;rw[het]at g5;simp only[ag]at g5;simp[f0,f9,hXl,hB,hC];refine Qa (g5 _) ?_;have hs3b:s3.1<=L.length+(m'+1):=by have:=r3.bnd (B:=L.length+(m'+1)) (by omega) (by omega);omega
        obtain⟨x,hx⟩:∃x:N,x=N.new 33 p1 s3.1 W Q [t]:=⟨_,rfl⟩;have hrx:Rel L (m'+1) .tfield (p1,none) x s3:=by rw[hx];exact hrp t s3 r3 hs3b
        have hs1:=hsT ks x;have hbd:(ks.length+1)*72<=140737488355328:=by omega
        have hmap:ks.map N.enc++[[.int .i64 33,.int .i64 (p1:Int),.int .i64 (s3.1:Int),.str W,.int .i64 Q,.sl false 6 [[.int .i64 kt,.int .i64 ft,.int .i64 tt',.str wt',.int .i64 qt,.sl zt 6 (kst.map N.enc)]]]]=(ks++[x]).map N.enc:=by rw[Q2v,hx];simp[N.new,N.enc_mk,het]
        clear hrp hx r3 g5 gt gw;simp[f0,f9,hXl,hT,hT1,appA,slOf,hbd,hs1,hmap];obtain⟨p3,st3⟩:=s3;simp only at hs3b;cases st3 with
        |some q=>
         have hg2:=hg0 (some q);have hq':(0:Int)<=q:=by omega
         have hbad:pp L (m'+1) .tfield p1=.bad q:=by
          rcases hrx.none' with⟨q',a,e,e2,e3⟩|⟨k,e,e2⟩
          .simp only[prdI,somI]at e2;rw[e,e2.2]
          .simp at e2
         have hE2:=λfr X h=>hE1 fr (ks++[x]) (p3,some q) X h (λe=>by cases e) (by simp only;omega) (by simp;omega) (hRel _ _ (by rw[hpp2,hbad];simp[PR.then];omega));simp only[rst]at hg2 hE2;simp[f0,rst,hg2,hq'];exact hE2 _ _ (by simp[f0,f1,f4,hXl])
        |none=>
         have hok:pp L (m'+1) .tfield p1=.ok x p3:=by
          rcases hrx.none' with⟨q',a,e,e2,e3⟩|⟨k,e,e2⟩
          .simp at e2
          .simp only[prdI]at e2;rw[e,e2.1]
         have hadv:=Ys hE (m'+1) .tfield p1;rw[hok]at hadv;obtain⟨v1,v2,v3⟩:=hadv;have v2:=v2 rfl;have v3:=v3 v2;have gi3:=λX=>hR.isA (z:=z) (st:=none) (X:=X) hi v3 [125];have gw3:=λX=>hR.wantA (z:=z) (s:=(p3,none)) (X:=X) hi (λ_=>v3) (by simp only;omega) [44];have hg2:=hg0 none;cases hc:isT L p3 [125]with
         |true=>have hE2:=λfr X h=>hE1 fr (ks++[x]) (p3,none) X h (λ_=>v3) (by simp only;omega) (by simp;omega) (hRel _ _ (by rw[hpp2,hok];simp[PR.then,hc,N.bag,N.new]));rw[hc]at gi3;simp only[rst]at hg2 gi3 hE2;simp[f0,rst,hg2];refine Qa (gi3 _) ?_;simp;exact hE2 _ _ (by simp[f0,f1,f4,hXl])
         |false=>
          rw[hc]at gi3;have hstp:=hpp2;rw[hok]at hstp;simp only[PR.then,hc,Qw]at hstp;by_cases hcm:isT L p3 [44]=true
          .have hl4:=Q5 hE hcm;simp only[Qr,hcm,if_true]at gw3;simp only[rst]at hg2 gi3 gw3;simp[f0,rst,hg2];refine Qa (gi3 _) ?_;simp[f0];refine Qa (gw3 _) ?_;simp;refine Qg (H.length+2) (m'+1) (Q00 _) (by simp[hXl]) (by omega) ⟨ks++[x],(p3+1,none),by simp[f0,f1,f4,hil2],by simpa[rst]using hcut (ks++[x]) none _,.inr ⟨p3+1,rfl,hs2,by omega,?_,hl4,by omega,by simp;omega⟩⟩;rw[hpe,hstp,hcm,Qgb];simp
          .have hcm':isT L p3 [44]=false:=by simpa using hcm
           simp only[Qr,hcm',Q07,if_false]at gw3;simp only[rst]at hg2 gi3 gw3;simp[f0,rst,hg2];refine Qa (gi3 _) ?_;simp[f0];refine Qa (gw3 _) ?_;simp;refine Qg (H.length+2) 0 (Q00 _) (by simp[hXl]) (by omega) ⟨ks++[x],(p3,some p3),by simp[f0,f1,f4,hil2],by simpa[rst]using hcut (ks++[x]) (some p3) _,.inl ⟨rfl,by simp,by simp only;omega,by simp;omega,λmm=>hRel _ _ ?_⟩⟩;rw[hstp,hcm'];simp[PR.then];omega
   |false=>
    rw[i4]at gi4;have g1:=λX=>hR.wantA (z:=z) (s:=(p,none)) (X:=X) hi (λ_=>hp) (by simp only;omega) kFn;have m1:=Vx hE (rfl:Qs L kFn (p,none)=_);have b1:=Ya (rfl:Qs L kFn (p,none)=_);have hrel0:=λks t s2 s3 s4 s5=>Qzx hE (n:=n) (p:=p) (ks:=ks) (t:=t) (s2:=s2) (s3:=s3) (s4:=s4) (s5:=s5) hp i1 i2 i3 i4 rfl;have q1:(Qs L kFn (p,none)).2=none->(Qs L kFn (p,none)).1=p+1:=by rw[Qr];split<;>simp
    generalize Qs L kFn (p,none)=s1 at g1 m1 b1 hrel0 q1;have g2:=λX=>hR.wantA (z:=z) (s:=s1) (X:=X) hi (m1.lt (λ_=>hp)) (by simp only at b1;omega) [40];have m2:=m1.trans (Vx hE (rfl:Qs L [40] s1=_));have b2:=Ya (rfl:Qs L [40] s1=_);have hrel0:=λks t s3 s4 s5=>hrel0 ks t (Qs L [40] s1) s3 s4 s5 rfl;have mo:=Vx hE (rfl:Qs L [40] s1=_);have hs0c:(Qs L [40] s1).2=none->16*(L.length-(Qs L [40] s1).1)+9<=n:=λe=>by obtain⟨a1,a2,-⟩:=mo e;have:=q1 a1;omega
    clear mo;generalize Qs L [40] s1=s2 at g2 m2 b2 hrel0 hs0c;have hs0l:=m2.lt (λ_=>hp);simp only[rst]at g1;simp[f0,f1,f4,f6,rst,zbx];refine Qa (gi4 _) ?_;simp[f0,f6];refine Qa (g1 _) ?_;simp[f0];refine Qa (g2 _) ?_;simp[f0];obtain⟨XX,hXX⟩:∃XX:List N->Hp,XX=λks=>[zbx R.tn,.tok ks.length 6 R.tn]:=⟨_,rfl⟩;have hXl:∀a,(XX a).length=2:=λa=>by rw[hXX];rfl
    obtain⟨E,hE0⟩:∃E:Fr->Hp->Prop,E=λfr H'=>∃(ks:List N)(s':PSt)(X:Hp),(fr 0=.ptr i 0/\fr 1=YI p/\fr 4=.ptr H.length 0/\fr 6=YI s'.1/\fr 9=.osl true 6 (ks.map N.enc) (H.length+1))/\(s'.2=none->s'.1<L.length)/\s'.1<=1125899906842624/\ks.length*72<=70368744177664/\Rel L n (.list .kind [41]) s2 (N.bag ks) (Qs L [41] s')/\H'=H.set i (rst R.tr z L s'.2)++(XX ks++X):=⟨_,rfl⟩;refine Qm 4 E (λ_ _=>False) ?_ (λ_ _ h=>h.elim) ?_;rotate_left
    .intro fr H' h;subst hE0;obtain⟨ks,s',X,⟨f0,f1,f4,f6,f9⟩,hlt,hb,hkb,hr,rfl⟩:=h;have m3:=m2.trans (hr.moE hE);have hl3:=m3.lt (λ_=>hp);have b3:=hr.bnd (B:=L.length+n+3) (by simp only at b1;omega) (by omega);have g3:=λX=>hR.wantA (z:=z) (s:=s') (X:=X) hi hlt hb [41];have hrel0:=λt s4 s5=>hrel0 ks t _ s4 s5 hr;generalize Qs L [41] s'=s3 at g3 hr m3 hl3 b3 hrel0;have g4:=λX=>hR.wantA (z:=z) (s:=s3) (X:=X) hi hl3 (by omega) [58];have m24:=(hr.moE hE).trans (Vx hE (rfl:Qs L [58] s3=_));have m4:=m3.trans (Vx hE (rfl:Qs L [58] s3=_));have b4:=Ya (rfl:Qs L [58] s3=_);have hrel0:=λt s5=>hrel0 t _ s5 rfl;generalize Qs L [58] s3=s4 at g4 m4 b4 hrel0 m24;have hl4:=m4.lt (λ_=>hp);have g6:=λX=>hS n (by omega) H X i s4 hi ⟨⟨by simp only[G.c];omega,by simp only[G.c];omega,λe=>by obtain⟨a1,a2,a3⟩:=m4 e;have:=hl4 e;obtain⟨a4,a5,-⟩:=m24 e;have:=hs0c a4;simp only[G.c];exact⟨by omega,by omega⟩⟩,hl4⟩
     simp[f0,f6];refine Qa (g3 _) ?_;simp[f0];refine Qa (g4 _) ?_;simp[f0];refine Qf (g6 _) ?_;rintro _ _ ⟨t,s5,rfl,rfl,r5⟩;have hrel0:=hrel0 t s5 r5;obtain⟨kt,ft,tt',wt',qt,zt,kst,hft,het,hvt,hbt⟩:=Wm R.tn t;rw[hvt];obtain⟨bo,hbo⟩:∃bo:Ob,bo=.box R.tn [YI kt,YI ft,YI tt',YS wt',YI qt,YL zt 6 (kst.map N.enc)]:=⟨_,rfl⟩;have g5:=λH0=>hR.ended.rendedT 34 (p:Int) 0 [] 0 true [] (s5.1:Int) true (ks.map N.enc++[[.int .i64 kt,.int .i64 ft,.int .i64 tt',.str wt',.int .i64 qt,.sl zt 6 (kst.map N.enc)]]) H0 (H.length+1);simp only[ag]at g5;simp[f1,f4,f9];subst hXX;have hbd:(ks.length+1)*72<=140737488355328:=by omega
     have hi2:i<H.length+2:=by omega
     simp[appA,slOf,hbd];refine Qa (g5 _ (by simp)) ?_;simp[f4,zbx];simp[RetK,rcut hcl,nl];exact Wo (z':=true) (ks++[t]) (by simp[het]) (by simp) hrel0
    have hE1:∀fr (ks:List N) (s':PSt) (X:Hp),(fr 0=.ptr i 0/\fr 1=YI p/\fr 4=.ptr H.length 0/\fr 6=YI s'.1/\fr 9=.osl true 6 (ks.map N.enc) (H.length+1))->(s'.2=none->s'.1<L.length)->s'.1<=1125899906842624->ks.length*72<=70368744177664->Rel L n (.list .kind [41]) s2 (N.bag ks) (Qs L [41] s')->E fr (H.set i (rst R.tr z L s'.2)++(XX ks++X)):=λfr ks s' X a b c d e=>by subst hE0;exact⟨ks,s',X,a,b,c,d,e,rfl⟩
    clear hE0;have hF:=lfs (KT:=1) (m0:=2) (m1:=3) (λn=>n) hcl hi [zbx R.tn] hXX rfl rfl rfl λ_=>rfl;obtain⟨hcut,hcut0,hg0,hgT,hgT1,hgB,hgC,hsT⟩:=hF;have hil2:i<H.length+2:=by omega
    rw[show H.set i (rst R.tr z L s2.2)++[Ob.box R.tn [YI 0,YI 0,YI 0,YS [],YI 0,YL true 6 []],.tok 0 6 R.tn]=H.set i (rst R.tr z L s2.2)++XX [] by rw[hXX];rfl];refine Q3 (H.length+2) (λd fr H'=>∃(ks:List N)(s':PSt),(fr 0=.ptr i 0/\fr 1=YI p/\fr 4=.ptr H.length 0/\fr 6=YI s'.1/\fr 9=.osl true 6 (ks.map N.enc) (H.length+1))/\H'=H.set i (rst R.tr z L s'.2)++XX ks/\
     ((d=0/\s'.2≠none/\s'.1<=1125899906842624/\ks.length*72<=70368744177664/\∀m,Rel L n (.list .kind [41]) s2 m s')\/∃p1,s'=(p1,none)/\s2.2=none/\d<=n/\pp L n (.list .kind [41]) s2.1=pp L d (LG .kind [41] ks) p1/\p1<L.length/\16*(L.length-p1)+9<=d/\ks.length<=p1)) (match s2.2 with|none=>n|some _=>0) (by simp[hXl]) ⟨[],s2,?_⟩ ?_
    .refine⟨by simp[hil2,f0,f1,f4],hcut0 _ _,?_⟩;cases h0:s2.2 with
     |some q=>first|exact absurd h0 (by simp;done)|exact .inl ⟨rfl,by simp[h0],by omega,by simp,λm=>by simp[Rel,h0,G.wt]⟩
     |none=>exact .inr ⟨s2.1,by rw[<-h0],rfl,Q00 _,by simp[LG],hs0l h0,by have:=hs0c h0;omega,by simp⟩
    .rintro d fr H' ⟨ks,s',⟨f0,f1,f4,f6,f9⟩,rfl,hd⟩;rcases hd with⟨rfl,q1,qb,qk,q2⟩|⟨p1,rfl,hs2,hdn,hpe,hp1',hrk,hks⟩
     .obtain⟨p',st'⟩:=s';cases st' with
      |none=>simp at q1
      |some q=>
       have hg1:=hg0 (some q);have hq:¬(q:Int)<0:=by omega
       have hE2:=λfr h=>hE1 fr ks (p',some q) [] h (λe=>by cases e) qb qk (q2 _);simp only[rst,Q1i]at hg1 hE2;simp[f0,f6,rst,hg1,hq];exact hE2 _ (by simp[f0,f1,f4,f6,f9,hXl])
     .have hRel:∀m s',(match pp L d (LG .kind [41] ks) p1 with|.out=>False|.bad q=>s'.2=some q/\s'.1<=L.length+n|.ok m' k=>m=m'/\s'=(k,none))->Rel L n (.list .kind [41]) s2 m s':=λm s' h=>by unfold Rel;rw[hs2];simp only;rw[hpe];exact h
      have hg1:=hg0 none;have gi:=λX=>hR.isA (z:=z) (st:=none) (X:=X) hi hp1' [41];by_cases hend:ks=[]/\isT L p1 [41]=true
      .obtain⟨rfl,hjb⟩:=hend;obtain⟨d',rfl⟩:∃d',d=d'+1:=⟨d-1,by omega⟩;have hE2:=λfr h=>hE1 fr [] (p1,none) [] h (λ_=>hp1') (by simp only;omega) (by simp) (hRel _ _ (by simp[LG,pp,hjb,N.bag,N.new]));rw[hjb]at gi;simp only[rst,Q1i]at hg1 gi hE2;simp[f0,f6,f9,rst,hg1];refine Qa (gi _) ?_;simp;exact hE2 _ (by simp[f0,f1,f4,f6,f9,hXl])
      .have hje:ks=[]->isT L p1 [41]=false:=λe=>by
        cases h:isT L p1 [41]with
        |false=>rfl
        |true=>exact absurd ⟨e,h⟩ hend
       obtain⟨M,hM⟩:∃M:Fr->Hp->Prop,M=λfr H'=>(fr 0=.ptr i 0/\fr 1=YI p/\fr 4=.ptr H.length 0/\fr 6=YI (((p1,none):PSt).1:Int)/\fr 9=.osl true 6 (ks.map N.enc) (H.length+1))/\H'=H.set i (rst R.tr z L none)++XX ks:=⟨_,rfl⟩;have hM1:∀fr,(fr 0=.ptr i 0/\fr 1=YI p/\fr 4=.ptr H.length 0/\fr 6=YI (((p1,none):PSt).1:Int)/\fr 9=.osl true 6 (ks.map N.enc) (H.length+1))->M fr (H.set i (rst R.tr z L none)++XX ks):=λfr h=>by subst hM;exact⟨h,rfl⟩
       refine Qkr M ?_ ?_
       .clear hM;simp only[rst]at hg1 gi hM1;rcases Q3b ks with hk0|⟨kk,kx,hk0⟩
        .rw[hje hk0]at gi;simp[f0,f6,f9,rst,hg1,hk0];refine Qa (gi _) ?_;rw[<-hk0];simp[f0,f6];exact hM1 _ (by simp[f0,f1,f4,f6,f9,hXl])
        .have hkn:¬ks=[]:=λe=>by rw[e]at hk0;simp at hk0
         simp[f0,f6,f9,rst,hg1,hkn];exact hM1 _ (by simp[f0,f1,f4,f6,f9,hXl])
       .intro fr H' h;subst hM;obtain⟨⟨f0,f1,f4,f6,f9⟩,rfl⟩:=h;have hstep:=Qil (L:=L) (d:=d) (one:=.kind) (e:=[41]) (ks:=ks) (p:=p1) (by omega) hje;obtain⟨m,hm1,hm2,hpp2⟩:=hstep;have gt:=λX=>hS m (by omega) H X i (p1,none) hi ⟨⟨by simp only[G.c];omega,by simp only[G.c];omega,λ_=>⟨by simp only;omega,by simp only[G.c];omega⟩⟩,λ_=>hp1'⟩;simp only[rst]at hg1 gt;simp[f0,f6,rst];refine Qf (gt _) ?_;rintro _ _ ⟨x,s3,rfl,rfl,hrx⟩;obtain⟨kt,ft,tt',wt',qt,zt,kst,hft,het,hvt,hbt⟩:=Wm R.tn x;rw[hvt];obtain⟨bo,hbo⟩:∃bo:Ob,bo=.box R.tn [YI kt,YI ft,YI tt',YS wt',YI qt,YL zt 6 (kst.map N.enc)]:=⟨_,rfl⟩;have hB:=λX=>hgB ks bo X;rw[hbo]at hB;have hT:=hgT ks;have hT1:=hgT1 ks;have hs3b:s3.1<=L.length+n:=hrx.bnd (by simp only;omega) (by omega);have hs1:=hsT ks x;have hbd:(ks.length+1)*72<=140737488355328:=by omega
        have hmap:ks.map N.enc++[[.int .i64 kt,.int .i64 ft,.int .i64 tt',.str wt',.int .i64 qt,.sl zt 6 (kst.map N.enc)]]=(ks++[x]).map N.enc:=by rw[Q2v];simp[het]
        clear gt;simp[f9,hXl,hB,hT,hT1,appA,slOf,hbd,hs1,hmap];obtain⟨p3,st3⟩:=s3;simp only at hs3b;cases st3 with
        |some q=>
         have hg2:=hg0 (some q);have hq':(0:Int)<=q:=by omega
         have hbad:pp L m .kind p1=.bad q:=by
          rcases hrx.none' with⟨q',a,e,e2,e3⟩|⟨k,e,e2⟩
          .simp only[prdI,somI]at e2;rw[e,e2.2]
          .simp at e2
         have hE2:=λfr X h=>hE1 fr (ks++[x]) (p3,some q) X h (λe=>by cases e) (by simp only;omega) (by simp;omega) (hRel _ _ (by rw[hpp2,hbad];simp[PR.then];omega));simp only[rst]at hg2 hE2;simp[f0,rst,hg2,hq'];exact hE2 _ _ (by simp[f0,f1,f4,hXl])
        |none=>
         have hok:pp L m .kind p1=.ok x p3:=by
          rcases hrx.none' with⟨q',a,e,e2,e3⟩|⟨k,e,e2⟩
          .simp at e2
          .simp only[prdI]at e2;rw[e,e2.1]
         have hadv:=Ys hE m .kind p1;rw[hok]at hadv;obtain⟨v1,v2,v3⟩:=hadv;have v2:=v2 rfl;have v3:=v3 v2;have gi3:=λX=>hR.isA (z:=z) (st:=none) (X:=X) hi v3 [41];have gw3:=λX=>hR.wantA (z:=z) (s:=(p3,none)) (X:=X) hi (λ_=>v3) (by simp only;omega) [44];have hg2:=hg0 none;cases hc:isT L p3 [41]with
         |true=>have hE2:=λfr X h=>hE1 fr (ks++[x]) (p3,none) X h (λ_=>v3) (by simp only;omega) (by simp;omega) (hRel _ _ (by rw[hpp2,hok];simp[PR.then,hc,N.bag,N.new]));rw[hc]at gi3;simp only[rst]at hg2 gi3 hE2;simp[f0,rst,hg2];refine Qa (gi3 _) ?_;simp;exact hE2 _ _ (by simp[f0,f1,f4,hXl])
         |false=>
          rw[hc]at gi3;have hstp:=hpp2;rw[hok]at hstp;simp only[PR.then,hc,Qw]at hstp;by_cases hcm:isT L p3 [44]=true
          .have hl4:=Q5 hE hcm;simp only[Qr,hcm,if_true]at gw3;simp only[rst]at hg2 gi3 gw3;simp[f0,rst,hg2];refine Qa (gi3 _) ?_;simp[f0];refine Qa (gw3 _) ?_;simp;refine Qg (H.length+2) m (Q00 _) (by simp[hXl]) (by omega) ⟨ks++[x],(p3+1,none),by simp[f0,f1,f4,hil2],by simpa[rst]using hcut (ks++[x]) none _,.inr ⟨p3+1,rfl,hs2,by omega,?_,hl4,by omega,by simp;omega⟩⟩;rw[hpe,hstp,hcm,Qgb];simp
          .have hcm':isT L p3 [44]=false:=by simpa using hcm
           simp only[Qr,hcm',Q07,if_false]at gw3;simp only[rst]at hg2 gi3 gw3;simp[f0,rst,hg2];refine Qa (gi3 _) ?_;simp[f0];refine Qa (gw3 _) ?_;simp;refine Qg (H.length+2) 0 (Q00 _) (by simp[hXl]) (by omega) ⟨ks++[x],(p3,some p3),by simp[f0,f1,f4,hil2],by simpa[rst]using hcut (ks++[x]) (some p3) _,.inl ⟨rfl,by simp,by simp only;omega,by simp;omega,λmm=>hRel _ _ ?_⟩⟩;rw[hstp,hcm'];simp[PR.then];omega
  have hE1:∀fr,(fr 0=.ptr i 0/\fr 1=YI p/\fr 4=.ptr H.length 0/\fr 6=YI p)->(isT L p kInt=false/\isT L p kStr=false/\isT L p kDyn=false)->E fr (H.set i (rst R.tr z L none)++[zbx R.tn]):=λfr a b=>by subst hE0;exact⟨a,b,rfl⟩
  have hR1:∀fr (K:Nat),fr 4=.ptr H.length 0->fr 5=YI ((p+1:Nat):Int)->pp L (n+1) .kind p=.ok (N.new K p (p+1) [] 0 []) (p+1)->RR fr (H.set i (rst R.tr z L none)++[.box R.tn [YI K,YI p,YI ((p+1:Nat):Int),YS [],YI 0,YL true 6 []]]):=λfr K a b c=>by subst hRR;exact⟨K,a,b,c,rfl⟩
  clear hE0 hRR;have hil1:i<H.length+1:=by omega
  have hcut1:Hp.cut (H.length+1) (H.set i (rst R.tr z L none)++[zbx R.tn])=H.set i (rst R.tr z L none)++[zbx R.tn]:=by rw[rcutk hcl];rfl
  refine Q3 (H.length+1) (λd fr H'=>∃j:Nat,d=3-j/\j<=3/\(fr 0=.ptr i 0/\fr 1=YI p/\fr 4=.ptr H.length 0/\fr 6=YI p/\fr 7=YL false 1 [[.str kInt],[.str kStr],[.str kDyn]]/\fr 8=YI j)/\(∀k,k<j->isT L p (Qz3 k)=false)/\H'=H.set i (rst R.tr z L none)++[zbx R.tn]) 3 (by simp) ⟨0,rfl,by omega,by simp[hil1,kInt,kStr,kDyn],by simp,?_⟩ ?_
  .exact hcut1
  .rintro d fr H' ⟨j,rfl,hj,⟨f0,f1,f4,f6,f7,f8⟩,hno,rfl⟩;have hgz:∀X,(H.set i (rst R.tr z L none)++X)[i]?=some (rst R.tr z L none):=λX=>hget none X
   match j,hj with
   |0,_=>
    have gj:=λX=>gi kInt X;have hrw:Zam.rowAt [[.str kInt],[.str kStr],[.str kDyn]] (0:Int)=some [.str kInt]:=rfl;cases c:isT L p kInt with
    |true=>rw[c]at gj;have hR2:=λfr a b=>hR1 fr 29 a b (by simp[pp,c]);simp only[rst,zbx]at hR2 gj;simp[f0,f6,f7,f8,rst,zbx,hrw];refine Qa (gj _) ?_;simp[f1,f4,f6,f8,hw];exact hR2 _ (by simp[f4]) (by simp)
    |false=>
     rw[c]at gj;simp[f0,f6,f7,f8,rst,zbx,hrw];refine Qa (gj _) ?_;simp[f8];refine Qg (H.length+1) (3-1) (Q00 _) (by simp) (by omega) ⟨1,rfl,by omega,by simp[f0,f1,f4,f6,f7,hil1,show IntKind.i64.wrap 1=1 from rfl],?_,by simpa[rst,zbx]using hcut1⟩;intro k hk;match k,hk with
     |0,_=>exact c
   |1,_=>
    have hno0:isT L p kInt=false:=hno 0 (by omega);have gj:=λX=>gi kStr X;have hrw:Zam.rowAt [[.str kInt],[.str kStr],[.str kDyn]] (1:Int)=some [.str kStr]:=rfl;cases c:isT L p kStr with
    |true=>rw[c]at gj;have hR2:=λfr a b=>hR1 fr 30 a b (by simp[pp,hno0,c]);simp only[rst,zbx]at hR2 gj;simp[f0,f6,f7,f8,rst,zbx,hrw];refine Qa (gj _) ?_;simp[f1,f4,f6,f8,hw];exact hR2 _ (by simp[f4]) (by simp)
    |false=>
     rw[c]at gj;simp[f0,f6,f7,f8,rst,zbx,hrw];refine Qa (gj _) ?_;simp[f8];refine Qg (H.length+1) (3-2) (Q00 _) (by simp) (by omega) ⟨2,rfl,by omega,by simp[f0,f1,f4,f6,f7,hil1,show IntKind.i64.wrap 2=2 from rfl],?_,by simpa[rst,zbx]using hcut1⟩;intro k hk;match k,hk with
     |0,_=>exact hno0
     |1,_=>exact c
   |2,_=>
    have hno0:isT L p kInt=false:=hno 0 (by omega);have hno1:isT L p kStr=false:=hno 1 (by omega);have gj:=λX=>gi kDyn X;have hrw:Zam.rowAt [[.str kInt],[.str kStr],[.str kDyn]] (2:Int)=some [.str kDyn]:=rfl;cases c:isT L p kDyn with
    |true=>rw[c]at gj;have hR2:=λfr a b=>hR1 fr 31 a b (by simp[pp,hno0,hno1,c]);simp only[rst,zbx]at hR2 gj;simp[f0,f6,f7,f8,rst,zbx,hrw];refine Qa (gj _) ?_;simp[f1,f4,f6,f8,hw];exact hR2 _ (by simp[f4]) (by simp)
    |false=>
     rw[c]at gj;simp[f0,f6,f7,f8,rst,zbx,hrw];refine Qa (gj _) ?_;simp[f8];refine Qg (H.length+1) (3-3) (Q00 _) (by simp) (by omega) ⟨3,rfl,by omega,by simp[f0,f1,f4,f6,f7,hil1,show IntKind.i64.wrap 3=3 from rfl],?_,by simpa[rst,zbx]using hcut1⟩;intro k hk;match k,hk with
     |0,_=>exact hno0
     |1,_=>exact hno1
     |2,_=>exact c
   |3,_=>have hE2:=λfr a=>hE1 fr a ⟨hno 0 (by omega),hno 1 (by omega),hno 2 (by omega)⟩;simp only[rst,zbx]at hE2;simp[f8,rst,zbx];exact hE2 _ (by simp[f0,f1,f4,f6])
end
end
section
theorem Qvu{L:List Tk}(hE:W4 L){n p:Nat}{x:N}{s1:PSt}(hn:1<=n)(hpe:pp L (n+1) .atom p=(pp L n .expr (p+1)).then λx j=>Qw L j [41] λ_=>.ok (N.new 25 p ((j+1:Nat):Int) [] 0 [x]) (j+1))(r:Rel L n .expr (p+1,none) x s1):Rel L (n+1) .atom (p,none) (N.new 25 p (Qs L [41] s1).1 [] 0 [x]) (Qs L [41] s1):=by
 simp only[Rel,hpe];rcases r.none' with⟨q,a,e,rfl,e3⟩|⟨k,e,rfl⟩
 .simp[e,PR.then];omega
 .have ha:=Ys hE n .expr (p+1);rw[e]at ha;have hk:=ha.2.2 (ha.2.1 rfl);by_cases c:isT L k [41]=true
  .simp[e,PR.then,Qw,c]
  .simp[e,PR.then,Qw,c];omega
theorem Qzw{L:List Tk}(hE:W4 L){n p:Nat}{t1 t2 t3:N}{s1 s2:PSt}(hp:p<L.length)(hn:1<=n)(hpe:pp L (n+1) .atom p=Qw L p kFn λ_=>(pp L n .params (p+1)).then λp' j=>(pp L n .typed j).then λt j=>(pp L n .block j).then λb j=>.ok (N.new 28 p j [] 0 [p',t,b]) j)(h1:Qs L kFn (p,none)=s1)(h2:Qsi L n s1 t1 t2 t3 s2):Rel L (n+1) .atom (p,none) (N.new 28 p s2.1 [] 0 [t1,t2,t3]) s2:=by
 obtain⟨u1,u2,r1,r2,r3⟩:=h2;simp only[Rel,hpe,Qw];by_cases c1:isT L p kFn=true
 case neg=>simp only[Qr,c1]at h1;subst h1;simp only[Q07,if_false]at r1;obtain⟨a,rfl,e3⟩:=r1.some';obtain⟨b,rfl,e4⟩:=r2.some';obtain⟨c,rfl,e5⟩:=r3.some';simp only[G.wt]at e3 e4 e5;simp[c1];omega
 simp only[Qr,c1,if_true]at h1;subst h1;rcases r1.none' with⟨q,a,e,rfl,e3⟩|⟨k,e,rfl⟩
 .obtain⟨b,rfl,e4⟩:=r2.some';obtain⟨c,rfl,e5⟩:=r3.some';simp only[G.wt]at e4 e5;simp[c1,e,PR.then];omega
 rcases r2.none' with⟨q,a,e',rfl,e4⟩|⟨k',e',rfl⟩
 .obtain⟨c,rfl,e5⟩:=r3.some';simp only[G.wt]at e5;simp[c1,e,e',PR.then];omega
 rcases r3.none' with⟨q,a,e'',rfl,e5⟩|⟨k'',e'',rfl⟩
 .simp[c1,e,e',e'',PR.then];omega
 .simp[c1,e,e',e'',PR.then]
section
variable{P:Program}{R:RF}{z:Bool}{L:List Tk}
theorem RHas.atom'(hR:RHas P R)(hx:HasT P [11] R.atom (Zm R.is R.expr R.want R.ended R.word R.lambda R.tn R.tt))(hE:W4 L)(hL:L.length<=1048576)(n:Nat)(hn:n<=1099511627776)(hS:∀m,m<n+1->UR P R.tr z L m .expr R.expr)(hPa:UR P R.tr z L n .params R.params)(hTy:UR P R.tr z L n .typed R.typed)(hBl:UR P R.tr z L n .block R.block):UR P R.tr z L (n+1) .atom R.atom:=by
 refine Qih λH i s hi hpp=>?_;refine Yf (Qe hx (by simp[Zm]) λhcl _=>?_);have hp0:=hpp.1.1;simp only[G.c]at hp0;obtain⟨p,st⟩:=s;have hget:∀st X,(H.set i (rst R.tr z L st)++X)[i]?=some (rst R.tr z L st):=λst X=>upG hi;have hcc:∀st' X,Hp.cut H.length (H.set i (rst R.tr z L st')++X)=H.set i (rst R.tr z L st'):=λst' X=>rcut hcl;simp only at hp0;have hw:IntKind.i64.wrap ((p:Int)+1)=((p+1:Nat):Int):=by rw[wi64 (by omega)];omega
 cases st with
 |some q=>
  have hq':(0:Int)<=q:=by omega
  have hg1:=hget (some q);have hc1:=hcc (some q);simp only[rst]at hg1 hc1;simp[Zm,rst,hg1,hq'];simp[RetK,hc1,rst,nl];have hrel:=Wo (tr:=R.tr) (z:=z) (L:=L) (H:=H) (i:=i) (z':=true) (n:=n+1) (g:=.atom) (s:=(p,some q)) (s':=(p,some q)) (k:=0) (f:=0) (t:=0) (a:=0) (w:=[]) [] (rows:=[]) rfl (by simp) (by simp[Rel]);simpa[rst]using hrel
 |none=>
  have hp:p<L.length:=hpp.2 rfl;obtain⟨hp1,hp2⟩:=hpp.1.2.2 rfl;simp only[G.c]at hp1 hp2;have hg1:=hget none;have hc1:=hcc none;simp only[rst]at hg1 hc1;have gi:=λx X=>hR.isA (z:=z) (st:=none) (X:=X) hi hp x;simp only[rst]at gi;have hA:=Wg (Qfv hi (rst R.tr z L none));simp only[rst]at hA;have hr:=Qt Qp hp;have hg:L[p]?=some L[p]:=Q0x hp;have hkd:kdT L p=L[p].k:=by unfold kdT;rw[hg]
  have htx:txT L p=L[p].x:=by unfold txT;rw[hg]
  generalize L[p]=tk at hr hkd htx;obtain⟨kk,ta,tl,y⟩:=tk;simp only[Qp]at hr hkd htx;by_cases k3:kk=3
  .subst k3;simp[Zm,rst,hg1,hr,hw];simp[RetK,hc1,rst,nl];have hrel:=Wo (tr:=R.tr) (z:=z) (L:=L) (H:=H) (i:=i) (z':=true) (n:=n+1) (g:=.atom) (s:=(p,none)) (s':=(p+1,none)) (k:=21) (f:=p) (t:=((p+1:Nat):Int)) (a:=p) (w:=y) [] (rows:=[]) rfl (by simp) (by simp[Rel,pp,hkd,htx]);simpa[rst]using hrel
  by_cases k4:kk=4
  .subst k4;simp[Zm,rst,hg1,hr,hw];simp[RetK,hc1,rst,nl];have hrel:=Wo (tr:=R.tr) (z:=z) (L:=L) (H:=H) (i:=i) (z':=true) (n:=n+1) (g:=.atom) (s:=(p,none)) (s':=(p+1,none)) (k:=22) (f:=p) (t:=((p+1:Nat):Int)) (a:=p) (w:=y) [] (rows:=[]) rfl (by simp) (by simp[Rel,pp,hkd,htx]);simpa[rst]using hrel
  by_cases k1:kk=1
  .subst k1;simp[Zm,rst,hg1,hr,hw];simp[RetK,hc1,rst,nl];have hrel:=Wo (tr:=R.tr) (z:=z) (L:=L) (H:=H) (i:=i) (z':=true) (n:=n+1) (g:=.atom) (s:=(p,none)) (s':=(p+1,none)) (k:=23) (f:=p) (t:=((p+1:Nat):Int)) (a:=p) (w:=y) [] (rows:=[]) rfl (by simp) (by simp[Rel,pp,hkd,htx]);simpa[rst]using hrel
  have hno:¬kdT L p=3/\¬kdT L p=4/\¬kdT L p=1:=by rw[hkd];exact⟨k3,k4,k1⟩
  obtain⟨n3,n4,n1⟩:=hno;by_cases cI:isT L p Zc=true
  .simp[Zm,rst,hg1,hr,hw,k1,k3,k4];refine Qa (gi Zc _) ?_;simp[cI,hw];simp[RetK,hc1,rst,nl];have hrel:=Wo (tr:=R.tr) (z:=z) (L:=L) (H:=H) (i:=i) (z':=true) (n:=n+1) (g:=.atom) (s:=(p,none)) (s':=(p+1,none)) (k:=24) (f:=p) (t:=((p+1:Nat):Int)) (a:=0) (w:=[]) [] (rows:=[]) rfl (by simp) (by simp[Rel,pp,n3,n4,n1,cI]);simpa[rst]using hrel
  have cI:isT L p Zc=false:=by simpa using cI
  by_cases cG:isT L p [40]=true
  .have l1:=Q5 hE cG;have gE:=λX=>hS n (by omega) H X i (p+1,none) hi ⟨⟨by simp only[G.c];omega,by simp only[G.c];omega,λ_=>⟨by simp only;omega,by simp only[G.c];omega⟩⟩,λ_=>l1⟩;simp only[rst]at gE;simp[Zm,rst,hg1,hr,hw,k1,k3,k4];refine Qa (gi Zc _) ?_;simp[cI];refine Qa (gi [40] _) ?_;simp[cG,hw];refine Qf (gE _) ?_;rintro _ _ ⟨x,s1,rfl,rfl,r1⟩;have hs1:=(r1.moE hE).lt (λ_=>l1);have b1:=r1.bnd (B:=L.length+n+3) (by simp only;omega) (by omega);obtain⟨kx,fx,tx,wx,qx,zx,ksx,hfx,hex,hvx,hbx⟩:=Wm R.tn x;rw[hvx];have gw:=λX=>hR.wantA (z:=z) (s:=s1) (X:=X) hi hs1 (by omega) [41];have hrel0:=Qvu hE (by omega) (by simp[pp,n3,n4,n1,cI,cG]) r1;generalize Qs L [41] s1=s2 at gw hrel0;simp;refine Qa (gw _) ?_;simp;have g5:=λH0=>hR.ended.rended 25 p 0 [] 0 true [] (s2.1:Int) false [[.int .i64 kx,.int .i64 fx,.int .i64 tx,.str wx,.int .i64 qx,.sl zx 6 (ksx.map N.enc)]] H0;simp only[ag]at g5;refine Qa (g5 _) ?_;simp;simp[RetK,hcc,nl];exact Wo (z':=false) [x] (by simp[hex]) (by simp) hrel0
  have cG:isT L p [40]=false:=by simpa using cG
  by_cases cR:isT L p [123]=true
  .have l1:=Q5 hE cR;simp[Zm,rst,hg1,hr,hw,k1,k3,k4];refine Qa (gi Zc _) ?_;simp[cI];refine Qa (gi [40] _) ?_;simp[cG];refine Qa (gi [123] _) ?_;simp[cR,hw];have hs0l:(((p+1,none):PSt)).2=none->((p+1,none):PSt).1<L.length:=λ_=>l1;have hs0c:((p+1,none):PSt).2=none->16*(L.length-((p+1,none):PSt).1)+9<=n:=λ_=>by simp only;omega
   obtain⟨XX,hXX⟩:∃XX:List N->Hp,XX=λks=>[.box R.tn [YI 0,YI 0,YI 0,YS [],YI 0,YL true 6 []],.box R.tn [YI 0,YI p,YI ((p:Int)+1),YS y,YI p,YL true 6 []],.box R.tt [YI kk,YI ta,YS tl,YS y],.tok ks.length 6 R.tn]:=⟨_,rfl⟩;have hXl:∀a,(XX a).length=4:=λa=>by rw[hXX];rfl
   obtain⟨E,hE0⟩:∃E:Fr->Hp->Prop,E=λfr H'=>∃(ks:List N)(s':PSt)(X:Hp),(fr 0=.ptr i 0/\fr 1=YI p/\fr 4=.ptr H.length 0/\fr 6=YI s'.1/\fr 11=.osl true 6 (ks.map N.enc) (H.length+3))/\(s'.2=none->s'.1<L.length)/\s'.1<=1125899906842624/\ks.length*72<=70368744177664/\Rel L n (.list .entry [125]) ((p+1,none):PSt) (N.bag ks) (Qs L [125] s')/\H'=H.set i (rst R.tr z L s'.2)++(XX ks++X):=⟨_,rfl⟩;refine Qm 1 E (λ_ _=>False) ?_ (λ_ _ h=>h.elim) ?_;rotate_left
   .intro fr H' h;subst hE0;obtain⟨ks,s',X,⟨f0,f1,f4,f6,f11⟩,hlt,hb,hkb,hr,rfl⟩:=h;have g2:=λX=>hR.wantA (z:=z) (s:=s') (X:=X) hi hlt hb [125];generalize Qs L [125] s'=s2 at g2 hr;simp[f0,f6];refine Qa (g2 _) ?_;have g5:=λH0=>hR.ended.rendedT 26 (p:Int) 0 [] 0 true [] (s2.1:Int) true (ks.map N.enc) H0 (H.length+3);simp only[ag]at g5;simp[f1,f11,hXl];refine Qa (g5 _ (by simp[hXl];omega)) ?_;subst hXX;simp[f4];simp[RetK,hcc,nl];exact Wo (z':=true) ks rfl (λ_=>rfl) (Qyx (by simp[pp,n3,n4,n1,cI,cG,cR]) hr)
   have hE1:∀fr (ks:List N) (s':PSt) (X:Hp),(fr 0=.ptr i 0/\fr 1=YI p/\fr 4=.ptr H.length 0/\fr 6=YI s'.1/\fr 11=.osl true 6 (ks.map N.enc) (H.length+3))->(s'.2=none->s'.1<L.length)->s'.1<=1125899906842624->ks.length*72<=70368744177664->Rel L n (.list .entry [125]) ((p+1,none):PSt) (N.bag ks) (Qs L [125] s')->E fr (H.set i (rst R.tr z L s'.2)++(XX ks++X)):=λfr ks s' X a b c d e=>by subst hE0;exact⟨ks,s',X,a,b,c,d,e,rfl⟩
   clear hE0;have hF:=lfs (KT:=3) (m0:=4) (m1:=5) (λn=>n) hcl hi [.box R.tn [YI 0,YI 0,YI 0,YS [],YI 0,YL true 6 []],.box R.tn [YI 0,YI p,YI ((p:Int)+1),YS y,YI p,YL true 6 []],.box R.tt [YI kk,YI ta,YS tl,YS y]] hXX rfl rfl rfl λ_=>rfl;obtain⟨hcut,hcut0,hg0,hgT,hgT1,hgB,hgC,hsT⟩:=hF;have hil2:i<H.length+4:=by omega
   rw[show H.set i (.box R.tr [YL z 4 (L.map Qp),YI (-1)])++[.box R.tn [YI 0,YI 0,YI 0,YS [],YI 0,YL true 6 []],.box R.tn [YI 0,YI p,YI ((p:Int)+1),YS y,YI p,YL true 6 []],.box R.tt [YI kk,YI ta,YS tl,YS y],.tok 0 6 R.tn]=H.set i (rst R.tr z L none)++XX [] by rw[hXX];rfl];refine Q3 (H.length+4) (λd fr H'=>∃(ks:List N)(s':PSt),(fr 0=.ptr i 0/\fr 1=YI p/\fr 4=.ptr H.length 0/\fr 6=YI s'.1/\fr 11=.osl true 6 (ks.map N.enc) (H.length+3))/\H'=H.set i (rst R.tr z L s'.2)++XX ks/\
    ((d=0/\s'.2≠none/\s'.1<=1125899906842624/\ks.length*72<=70368744177664/\∀m,Rel L n (.list .entry [125]) ((p+1,none):PSt) m s')\/∃p1,s'=(p1,none)/\((p+1,none):PSt).2=none/\d<=n/\pp L n (.list .entry [125]) ((p+1,none):PSt).1=pp L d (LG .entry [125] ks) p1/\p1<L.length/\16*(L.length-p1)+9<=d/\ks.length<=p1)) (match((p+1,none):PSt).2 with|none=>n|some _=>0) (by simp[hXl]) ⟨[],((p+1,none):PSt),?_⟩ ?_
   .refine⟨by simp[hil2,id],hcut0 _ _,?_⟩;cases h0:((p+1,none):PSt).2 with
    |some q=>first|exact absurd h0 (by simp;done)|exact .inl ⟨rfl,by simp[h0],by omega,by simp,λm=>by simp[Rel,h0,G.wt]⟩
    |none=>exact .inr ⟨((p+1,none):PSt).1,by rw[<-h0],rfl,Q00 _,by simp[LG],hs0l h0,by have:=hs0c h0;omega,by simp⟩
   .rintro d fr H' ⟨ks,s',⟨f0,f1,f4,f6,f11⟩,rfl,hd⟩;rcases hd with⟨rfl,q1,qb,qk,q2⟩|⟨p1,rfl,hs2,hdn,hpe,hp1',hrk,hks⟩
    .obtain⟨p',st'⟩:=s';cases st' with
     |none=>simp at q1
     |some q=>
      have hg1:=hg0 (some q);have hq:¬(q:Int)<0:=by omega
      have hE2:=λfr h=>hE1 fr ks (p',some q) [] h (λe=>by cases e) qb qk (q2 _);simp only[rst,Q1i]at hg1 hE2;simp[f0,f6,rst,hg1,hq];exact hE2 _ (by simp[f0,f1,f4,f6,f11,hXl])
    .have hRel:∀m s',(match pp L d (LG .entry [125] ks) p1 with|.out=>False|.bad q=>s'.2=some q/\s'.1<=L.length+n|.ok m' k=>m=m'/\s'=(k,none))->Rel L n (.list .entry [125]) ((p+1,none):PSt) m s':=λm s' h=>by unfold Rel;rw[hs2];simp only;rw[hpe];exact h
     have hg1:=hg0 none;have gi:=λX=>hR.isA (z:=z) (st:=none) (X:=X) hi hp1' [125];by_cases hend:ks=[]/\isT L p1 [125]=true
     .obtain⟨rfl,hjb⟩:=hend;obtain⟨d',rfl⟩:∃d',d=d'+1:=⟨d-1,by omega⟩;have hE2:=λfr h=>hE1 fr [] (p1,none) [] h (λ_=>hp1') (by simp only;omega) (by simp) (hRel _ _ (by simp[LG,pp,hjb,N.bag,N.new]));rw[hjb]at gi;simp only[rst,Q1i]at hg1 gi hE2;simp[f0,f6,f11,rst,hg1];refine Qa (gi _) ?_;simp;exact hE2 _ (by simp[f0,f1,f4,f6,f11,hXl])
     .have hje:ks=[]->isT L p1 [125]=false:=λe=>by
       cases h:isT L p1 [125]with
       |false=>rfl
       |true=>exact absurd ⟨e,h⟩ hend
      obtain⟨M,hM⟩:∃M:Fr->Hp->Prop,M=λfr H'=>(fr 0=.ptr i 0/\fr 1=YI p/\fr 4=.ptr H.length 0/\fr 6=YI (((p1,none):PSt).1:Int)/\fr 11=.osl true 6 (ks.map N.enc) (H.length+3))/\H'=H.set i (rst R.tr z L none)++XX ks:=⟨_,rfl⟩;have hM1:∀fr,(fr 0=.ptr i 0/\fr 1=YI p/\fr 4=.ptr H.length 0/\fr 6=YI (((p1,none):PSt).1:Int)/\fr 11=.osl true 6 (ks.map N.enc) (H.length+3))->M fr (H.set i (rst R.tr z L none)++XX ks):=λfr h=>by subst hM;exact⟨h,rfl⟩
      refine Qkr M ?_ ?_
      .clear hM;simp only[rst]at hg1 gi hM1;rcases Q3b ks with hk0|⟨kk,kx,hk0⟩
       .rw[hje hk0]at gi;simp[f0,f6,f11,rst,hg1,hk0];refine Qa (gi _) ?_;rw[<-hk0];simp[f0,f6];exact hM1 _ (by simp[f0,f1,f4,f6,f11,hXl])
       .have hkn:¬ks=[]:=λe=>by rw[e]at hk0;simp at hk0
        simp[f0,f6,f11,rst,hg1,hkn];exact hM1 _ (by simp[f0,f1,f4,f6,f11,hXl])
      .intro fr H' h;subst hM;obtain⟨⟨f0,f1,f4,f6,f11⟩,rfl⟩:=h;have hstep:=Qil (L:=L) (d:=d) (one:=.entry) (e:=[125]) (ks:=ks) (p:=p1) (by omega) hje;obtain⟨m,hm1,hm2,hpp2⟩:=hstep;obtain⟨m',rfl⟩:∃m',m=m'+1:=⟨m-1,by omega⟩;have gw:=λX=>hR.wordA (z:=z) (s:=(p1,none)) (X:=X) hi (λ_=>hp1') (by simp only;omega) 27 p1 0 [] 0 true [];have hrp:=λt s3=>Qvv (L:=L) hE (n:=m') (p:=p1) (t:=t) (s3:=s3) (by omega) hp1';generalize h2:W9 L (p1,none)=s2 at gw hrp;have b2:=Vc h2;have m2:=Qaq hE h2;have hlt2:=m2.lt (λ_=>hp1');simp only at gw b2;have gv:=λX=>hR.wantA (z:=z) (s:=s2) (X:=X) hi hlt2 (by omega) [58];generalize h2v:Qs L [58] s2=s2v at gv hrp;have b2:=Q2b (Ya h2v) (Nat.succ_le_succ b2);have m2:=m2.trans (Vx hE h2v);have hlt2:=m2.lt (λ_=>hp1');simp only[rst]at gv;have gt:=λX=>hS m' (by omega) H X i s2v hi ⟨⟨by simp only[G.c];omega,by simp only[G.c];omega,λe=>by obtain⟨a1,a2,a3⟩:=m2 e;have:=hlt2 e;simp only at a2;simp only[G.c];exact⟨by omega,by omega⟩⟩,hlt2⟩
       generalize(if Qz L (p1,none)=true then txT L p1 else[])=W at gw hrp;generalize(if Qz L (p1,none)=true then(p1:Int)else 0)=Q at gw hrp;simp only[rst,ag]at hg1 gw gt;simp[f0,f6,rst];refine Qa (gw _) ?_;simp[f0];refine Qa (gv _) ?_;simp[f0];refine Qf (gt _) ?_;rintro _ _ ⟨t,s3,rfl,rfl,r3⟩;obtain⟨kt,ft,tt',wt',qt,zt,kst,hft,het,hvt,hbt⟩:=Wm R.tn t;rw[hvt];obtain⟨bo,hbo⟩:∃bo:Ob,bo=.box R.tn [YI 27,YI p1,YI 0,YS W,YI Q,YL true 6 []]:=⟨_,rfl⟩;obtain⟨co,hco⟩:∃co:Ob,co=.box R.tn [YI kt,YI ft,YI tt',YS wt',YI qt,YL zt 6 (kst.map N.enc)]:=⟨_,rfl⟩;have hB:=λX=>hgB ks bo X;have hC:=λX=>hgC ks bo co X;rw[hbo]at hB;rw[hbo,hco]at hC;have hT:=hgT ks;have hT1:=hgT1 ks;have g5:=λH0=>hR.ended.rended 27 p1 0 W Q true [] (s3.1:Int) false [t.enc] H0;rw[het]at g5;simp only[ag]at g5;simp[f0,f11,hXl,hB,hC];refine Qa (g5 _) ?_;have hs3b:s3.1<=L.length+(m'+1):=by have:=r3.bnd (B:=L.length+(m'+1)) (by omega) (by omega);omega
       obtain⟨x,hx⟩:∃x:N,x=N.new 27 p1 s3.1 W Q [t]:=⟨_,rfl⟩;have hrx:Rel L (m'+1) .entry (p1,none) x s3:=by rw[hx];exact hrp t s3 r3 hs3b
       have hs1:=hsT ks x;have hbd:(ks.length+1)*72<=140737488355328:=by omega
       have hmap:ks.map N.enc++[[.int .i64 27,.int .i64 (p1:Int),.int .i64 (s3.1:Int),.str W,.int .i64 Q,.sl false 6 [[.int .i64 kt,.int .i64 ft,.int .i64 tt',.str wt',.int .i64 qt,.sl zt 6 (kst.map N.enc)]]]]=(ks++[x]).map N.enc:=by rw[Q2v,hx];simp[N.new,N.enc_mk,het]
       clear hrp hx r3 g5 gt gw;simp[f0,f11,hXl,hT,hT1,appA,slOf,hbd,hs1,hmap];obtain⟨p3,st3⟩:=s3;simp only at hs3b;cases st3 with
       |some q=>
        have hg2:=hg0 (some q);have hq':(0:Int)<=q:=by omega
        have hbad:pp L (m'+1) .entry p1=.bad q:=by
         rcases hrx.none' with⟨q',a,e,e2,e3⟩|⟨k,e,e2⟩
         .simp only[prdI,somI]at e2;rw[e,e2.2]
         .simp at e2
        have hE2:=λfr X h=>hE1 fr (ks++[x]) (p3,some q) X h (λe=>by cases e) (by simp only;omega) (by simp;omega) (hRel _ _ (by rw[hpp2,hbad];simp[PR.then];omega));simp only[rst]at hg2 hE2;simp[f0,rst,hg2,hq'];exact hE2 _ _ (by simp[f0,f1,f4,hXl])
       |none=>
        have hok:pp L (m'+1) .entry p1=.ok x p3:=by
         rcases hrx.none' with⟨q',a,e,e2,e3⟩|⟨k,e,e2⟩
         .simp at e2
         .simp only[prdI]at e2;rw[e,e2.1]
        have hadv:=Ys hE (m'+1) .entry p1;rw[hok]at hadv;obtain⟨v1,v2,v3⟩:=hadv;have v2:=v2 rfl;have v3:=v3 v2;have gi3:=λX=>hR.isA (z:=z) (st:=none) (X:=X) hi v3 [125];have gw3:=λX=>hR.wantA (z:=z) (s:=(p3,none)) (X:=X) hi (λ_=>v3) (by simp only;omega) [44];have hg2:=hg0 none;cases hc:isT L p3 [125]with
        |true=>have hE2:=λfr X h=>hE1 fr (ks++[x]) (p3,none) X h (λ_=>v3) (by simp only;omega) (by simp;omega) (hRel _ _ (by rw[hpp2,hok];simp[PR.then,hc,N.bag,N.new]));rw[hc]at gi3;simp only[rst]at hg2 gi3 hE2;simp[f0,rst,hg2];refine Qa (gi3 _) ?_;simp;exact hE2 _ _ (by simp[f0,f1,f4,hXl])
        |false=>
         rw[hc]at gi3;have hstp:=hpp2;rw[hok]at hstp;simp only[PR.then,hc,Qw]at hstp;by_cases hcm:isT L p3 [44]=true
         .have hl4:=Q5 hE hcm;simp only[Qr,hcm,if_true]at gw3;simp only[rst]at hg2 gi3 gw3;simp[f0,rst,hg2];refine Qa (gi3 _) ?_;simp[f0];refine Qa (gw3 _) ?_;simp;refine Qg (H.length+4) (m'+1) (Q00 _) (by simp[hXl]) (by omega) ⟨ks++[x],(p3+1,none),by simp[f0,f1,f4,hil2],by simpa[rst]using hcut (ks++[x]) none _,.inr ⟨p3+1,rfl,hs2,by omega,?_,hl4,by omega,by simp;omega⟩⟩;rw[hpe,hstp,hcm,Qgb];simp
         .have hcm':isT L p3 [44]=false:=by simpa using hcm
          simp only[Qr,hcm',Q07,if_false]at gw3;simp only[rst]at hg2 gi3 gw3;simp[f0,rst,hg2];refine Qa (gi3 _) ?_;simp[f0];refine Qa (gw3 _) ?_;simp;refine Qg (H.length+4) 0 (Q00 _) (by simp[hXl]) (by omega) ⟨ks++[x],(p3,some p3),by simp[f0,f1,f4,hil2],by simpa[rst]using hcut (ks++[x]) (some p3) _,.inl ⟨rfl,by simp,by simp only;omega,by simp;omega,λmm=>hRel _ _ ?_⟩⟩;rw[hstp,hcm'];simp[PR.then];omega
  have cR:isT L p [123]=false:=by simpa using cR
  have g1:=λX=>hR.wantA (z:=z) (s:=(p,none)) (X:=X) hi (λ_=>hp) (by simp only;omega) kFn;have m1:=Vx hE (rfl:Qs L kFn (p,none)=_);have b1:=Ya (rfl:Qs L kFn (p,none)=_);have hrel0:=λt1 t2 t3 s2=>Qzw hE (n:=n) (p:=p) (t1:=t1) (t2:=t2) (t3:=t3) (s2:=s2) hp (by omega) (by simp[pp,n3,n4,n1,cI,cG,cR]) rfl;have q1:(Qs L kFn (p,none)).2=none->(Qs L kFn (p,none)).1=p+1:=by rw[Qr];split<;>simp
  generalize Qs L kFn (p,none)=s1 at g1 m1 b1 hrel0 q1;have hl1:=m1.lt (λ_=>hp);simp only[rst]at g1;simp[Zm,rst,hg1,hr,hw,k1,k3,k4];refine Qa (gi Zc _) ?_;simp[cI];refine Qa (gi [40] _) ?_;simp[cG];refine Qa (gi [123] _) ?_;simp[cR];refine Qa (g1 _) ?_;simp;have gl:=λX=>hR.lambda' (z:=z) (X:=X) (s:=s1) hE hL n hn hPa hTy hBl hi (by simp only at b1;omega) (by omega) (λe=>by obtain⟨a1,a2,a3⟩:=m1 e;have:=hl1 e;have:=q1 e;exact⟨by omega,by omega⟩);simp only[rst]at gl;refine Qf (gl _) ?_;rintro _ _ ⟨t1,t2,t3,s2,rfl,rfl,r2⟩;have hrel0:=hrel0 t1 t2 t3 s2 r2;have g5:=λH0=>hR.ended.rended 28 p 0 [] 0 true [] (s2.1:Int) false [t1.enc,t2.enc,t3.enc] H0;simp only[ag]at g5;have hc2:=λX=>hcc s2.2 X;simp only[rst]at hc2;simp;refine Qa (g5 _) ?_;simp;simp[RetK,hc2,nl];have hrel:=Wo (tr:=R.tr) (z:=z) (H:=H) (i:=i) (z':=false) [t1,t2,t3] (rows:=[t1.enc,t2.enc,t3.enc]) (by simp) (by simp) hrel0;simpa[rst]using hrel
end
end
section
section
variable{P:Program}{R:RF}{z:Bool}{L:List Tk}
theorem RHas.post'(hR:RHas P R)(hx:HasT P [10,56] R.post (Qhj R.atom R.is R.word R.ended R.expr R.want R.tn))(hE:W4 L)(hL:L.length≤1048576)(n:Nat)(hn:n≤1099511627776)(hA0:UR P R.tr z L n .atom R.atom)(hS:∀m,m<n+1→UR P R.tr z L m .expr R.expr):UR P R.tr z L (n+1) .post R.post:=by
 refine Qih fun H i s hi hpp=>?_;refine Qe hx (by simp[Qhj]) fun hcl _=>?_;have hp1:=hpp.1.1;simp only[G.c]at hp1;simp[Qhj];refine Qf (hA0 H _ i s hi ((MoE.refl s).pre hpp (by decide) (by simp only[G.c];omega))) ?_;rintro _ _ ⟨a0,s1,rfl,rfl,r1⟩;have b1:=r1.le;have m1:=r1.moE hE;obtain⟨OX,hOX⟩:∃OX:N→Hp,OX=fun a=>[zbx R.tn,abx R.tn a]:=⟨_,rfl⟩;have hOl:∀a,(OX a).length=2:=fun a=>by rw[hOX];rfl
 obtain⟨E,hE0⟩:∃E:Fr→Hp→Prop,E=fun fr H'=>∃a s',(fr 0=.ptr i 0∧fr 4=.ptr H.length 0∧fr 6=.ptr (H.length+1) 0∧fr 7=YI s'.1)∧Rel L (n+1) .post s a s'∧∃Y,H'=H.set i (rst R.tr z L s'.2)++(OX a++Y):=⟨_,rfl⟩;have hE1:∀fr a s',(fr 0=.ptr i 0∧fr 4=.ptr H.length 0∧fr 6=.ptr (H.length+1) 0∧fr 7=YI s'.1)→Rel L (n+1) .post s a s'→E fr (H.set i (rst R.tr z L s'.2)++OX a):=fun fr a s' h h'=>by subst hE0;exact⟨a,s',h,h',[],by simp⟩
 obtain⟨k,f,t,w,q,za,ks,hf0,he,hv,hb⟩:=Wm R.tn a0;rw[hv];simp;rw[show H.set i (rst R.tr z L s1.2)++[Ob.box R.tn [YI 0,YI 0,YI 0,YS [],YI 0,YL true 6 []],.box R.tn [YI k,YI f,YI t,YS w,YI q,YL za 6 (ks.map N.enc)]]=H.set i (rst R.tr z L s1.2)++OX a0 by rw[hOX,←hb];rfl];refine Qm 0 E (fun _ _=>False) ?_ (fun _ _ h=>h.elim) ?_
 rotate_left
 .intro fr H' h;subst hE0;obtain⟨a,s',⟨f0,f4,f6,f7⟩,hr,Y,rfl⟩:=h;obtain⟨k,f,t,w,q,za,ks,-,-,hv,hb⟩:=Wm R.tn a;subst hOX;simp[f0,f4,f6,f7,hb,zbx];simp[RetK,rcut hcl];exact⟨a,s',by rw[hv],by simp,hr⟩
 clear hE0;have hcutO:∀a st' X,Hp.cut (H.length+2) (H.set i (rst R.tr z L st')++(OX a++X))=H.set i (rst R.tr z L st')++OX a:=fun a st' X=>by
  rw[rcutk hcl,hOX];change H.set i (rst R.tr z L st')++[(zbx R.tn).clr _,(abx R.tn a).clr _]=_;rw[Qga];rfl
 have hcutO0:∀a st',Hp.cut (H.length+2) (H.set i (rst R.tr z L st')++OX a)=H.set i (rst R.tr z L st')++OX a:=fun a st'=>by simpa using hcutO a st' []
 have hgO:∀st X,(H.set i (rst R.tr z L st)++X)[i]?=some (rst R.tr z L st):=fun st X=>upG hi;have hset:∀a a' X,(OX a++X).set 1 (abx R.tn a')=OX a'++X:=fun a a' X=>by rw[hOX];simp
 have hgA:∀a X,(OX a++X)[1]?=some (abx R.tn a):=fun a X=>by rw[hOX];simp
 have hgB:∀a b X,(OX a++b::X)[2]?=some b:=fun a b X=>by rw[hOX];simp
 refine Q3 (H.length+2) (fun d fr H'=>∃a s',(fr 0=.ptr i 0∧fr 4=.ptr H.length 0∧fr 6=.ptr (H.length+1) 0∧fr 7=YI s'.1)∧H'=H.set i (rst R.tr z L s'.2)++OX a∧
  ((d=0∧s'.2≠none∧∀m,Rel L (n+1) .post s m s')∨∃o1,s'=(o1,none)∧s.2=none∧d≤n∧pp L (n+1) .post s.1=pp L d (.postL a) o1∧o1<L.length∧16*(L.length-o1)+1≤d)) (match s1.2 with|none=>n|some _=>0) (by simp[hOl]) ⟨a0,s1,?_⟩ ?_
 .have hil2:i<H.length+2:=by omega
  refine⟨by simp[hil2],hcutO0 _ _,?_⟩;obtain⟨p,st⟩:=s;cases st with
  |some q=>
   obtain⟨b,rfl,e⟩:=r1.some';simp only[G.wt]at e;exact .inl ⟨rfl,by simp,fun m=>by simp[Rel,G.wt];omega⟩
  |none=>
   obtain⟨hp2,hp3⟩:=hpp.1.2.2 rfl;simp only[G.c]at hp2 hp3;have hpl:=hpp.2 rfl;rcases r1.none' with⟨q',b,hq,rfl,e3⟩|⟨j,hj,rfl⟩
   .exact .inl ⟨rfl,by simp,fun m=>by simp[Rel,pp,hq,PR.then];omega⟩
   .have:=Ys hE n .atom p;rw[hj]at this;obtain⟨v1,v2,v3⟩:=this;have v2:=v2 rfl;have v3:=v3 v2;exact .inr ⟨j,rfl,rfl,by simp,by simp[pp,hj,PR.then],v3,by(try simp only at hp3⊢);omega⟩
 .rintro d fr H' ⟨a,s',⟨f0,f4,f6,f7⟩,rfl,hd⟩;have hil2O:i<H.length+2:=by omega
  rcases hd with⟨rfl,q1,q2⟩|⟨o1,rfl,hsn,hdn,hpeO,ho1,hrk⟩
  .obtain⟨p',st'⟩:=s';cases st' with
   |none=>simp at q1
   |some q=>
    have hg1:=hgO (some q);have hq:¬(q:Int)<0:=by omega
    have hE2:=fun fr h=>hE1 fr a (p',some q) h (q2 _);simp only[rst]at hg1 hE2;simp[f0,f7,rst,hg1,hq];exact hE2 _ (by simp[f0,f4,f6,f7])
  .obtain⟨d',rfl⟩:∃d',d=d'+1:=⟨d-1,by omega⟩;have hRelO:∀m s',(match pp L (d'+1) (.postL a) o1 with|.out=>False|.bad q=>s'.2=some q∧s'.1≤L.length+(n+1)|.ok m' k=>m=m'∧s'=(k,none))→Rel L (n+1) .post s m s':=fun m s' h=>by
    unfold Rel;rw[hsn];simp only;rw[hpeO];exact h
   have hg1:=hgO none;have gi:=fun X=>hR.isA (z:=z) (st:=none) (X:=X) hi ho1 [46];have gi2:=fun X=>hR.isA (z:=z) (st:=none) (X:=X) hi ho1 [40];have hw:IntKind.i64.wrap ((o1:Int)+1)=((o1+1:Nat):Int):=by rw[wi64 (by omega)];omega
   simp only[rst]at hg1 gi gi2;obtain⟨k,f,t,w,q,za,kse,hf,he,hv,hb⟩:=Wm R.tn a;have hA:=hgA a;rw[hb]at hA;have hA1:∀h,(OX a)[1]'h=.box R.tn [YI k,YI f,YI t,YS w,YI q,YL za 6 (kse.map N.enc)]:=fun h=>by rw[←hb];simp[hOX]
   cases hjb:isT L o1 [46]with
   |true=>
    have l1:=Q5 hE hjb;rw[hjb]at gi;have gW:=fun X=>hR.wordA (z:=z) (s:=(o1+1,none)) (X:=X) hi (fun _=>l1) (by simp only;omega) 19 f 0 [] 0 true [];simp only[rst,ag]at gW;have b2:=Vc (rfl:W9 L (o1+1,none)=_);have hsw:(∃q',W9 L (o1+1,none)=(o1+1,some q')∧pp L (d'+1) (.postL a) o1=.bad q')∨(W9 L (o1+1,none)=(o1+1+1,none)∧o1+1+1<L.length∧pp L (d'+1) (.postL a) o1=pp L d' (.postL (N.new 19 a.f ((o1+1+1:Nat):Int) (if Qz L (o1+1,none)then txT L (o1+1)else[]) (if Qz L (o1+1,none)then((o1+1:Nat):Int)else 0) [a])) (o1+1+1)):=by
     by_cases c:kdT L (o1+1)=1
     .exact .inr ⟨by simp[c],Z1 hE (by omega),by simp[pp,hjb,Yo,c]⟩
     .exact .inl ⟨o1+1,by simp[c],by simp[pp,hjb,Yo,c]⟩
    generalize W9 L (o1+1,none)=s2 at gW b2 hsw;generalize(if Qz L (o1+1,none)=true then txT L (o1+1)else[])=W at gW hsw;generalize(if Qz L (o1+1,none)=true then((o1+1:Nat):Int)else 0)=Q at gW hsw;simp only at b2;have g5:=hR.ended.rended 19 f 0 W Q true [] (s2.1:Int) false [[.int .i64 k,.int .i64 f,.int .i64 t,.str w,.int .i64 q,.sl za 6 (kse.map N.enc)]];simp only[ag]at g5;obtain⟨bo,hbo⟩:∃bo:Ob,bo=.box R.tn [YI 19,YI f,YI 0,YS W,YI Q,YL true 6 []]:=⟨_,rfl⟩;have hB:=fun X=>hgB a bo X;rw[hbo]at hB;simp[f0,f7,rst,hg1];refine Qa (gi _) ?_;simp[f0,f7];refine Qa (gi _) ?_;simp[f0,f6,f7,hw,hA,hA1,hOl];refine Qa (gW _) ?_;simp[f6,hA,hA1,hOl,hB];refine Qa (g5 _) ?_;have hnew:abx R.tn (N.new 19 a.f s2.1 W Q [a])=.box R.tn [YI 19,YI f,YI s2.1,YS W,YI Q,YL false 6 [[.int .i64 k,.int .i64 f,.int .i64 t,.str w,.int .i64 q,.sl za 6 (kse.map N.enc)]]]:=by
     rw[abx,N.new,N.enc_mk];simp[he,hf]
    have hs1:=fun Y=>hset a (N.new 19 a.f s2.1 W Q [a]) Y;rw[hnew]at hs1;simp[f6,hOl,hA,hA1,hs1];rcases hsw with⟨q',rfl,hq⟩|⟨rfl,l2,hq⟩
    .refine Qg (H.length+2) 0 (Q00 _) (by simp[hOl]) (by omega) ⟨_,(o1+1,some q'),by simp[f0,f4,f6,hil2O],by simpa[rst]using hcutO (N.new 19 a.f ((o1+1:Nat):Int) W Q [a]) (some q') _,.inl ⟨rfl,by simp,fun m=>hRelO _ _ ?_⟩⟩;rw[hq];simp;omega
    .refine Qg (H.length+2) d' (Q00 _) (by simp[hOl]) (by omega) ⟨_,(o1+1+1,none),by simp[f0,f4,f6,hil2O],by simpa[rst]using hcutO (N.new 19 a.f ((o1+1+1:Nat):Int) W Q [a]) none _,.inr ⟨o1+1+1,rfl,hsn,by omega,?_,l2,by omega⟩⟩;rw[hpeO,hq];simp
   |false=>
    rw[hjb]at gi;cases hjc:isT L o1 [40]with
    |false=>
     rw[hjc]at gi2;have hE2:=fun fr h=>hE1 fr a (o1,none) h (hRelO _ _ (by simp[pp,hjb,hjc]));simp only[rst]at hE2;simp[f0,f7,rst,hg1];refine Qa (gi _) ?_;simp[f0,f7];refine Qa (gi2 _) ?_;simp;exact hE2 _ (by simp[f0,f4,f6,f7])
    |true=>
     rw[hjc]at gi2;have l1:=Q5 hE hjc;simp[f0,f7,rst,hg1];refine Qa (gi _) ?_;simp[f0,f7];refine Qa (gi2 _) ?_;simp[f0,f7];refine Qa (gi _) ?_;simp[f6,f7,hw,hA,hA1,hOl];have hs0l:(((o1+1,none):PSt)).2=none→((o1+1,none):PSt).1<L.length:=fun _=>l1;have hs0c:((o1+1,none):PSt).2=none→16*(L.length-((o1+1,none):PSt).1)+9≤d':=fun _=>by simp only;omega
     obtain⟨XX,hXX⟩:∃XX:List N→Hp,XX=fun ks=>[zbx R.tn,.box R.tn [YI k,YI f,YI t,YS w,YI q,YL za 6 (kse.map N.enc)],.tok (ks.length+1) 6 R.tn]:=⟨_,rfl⟩;have hXl:∀a,(XX a).length=3:=fun a=>by rw[hXX];rfl
     obtain⟨E,hE0⟩:∃E:Fr→Hp→Prop,E=fun fr H'=>∃(ks:List N)(s':PSt)(X:Hp),(fr 0=.ptr i 0∧fr 4=.ptr H.length 0∧fr 6=.ptr (H.length+1) 0∧fr 7=YI s'.1∧fr 10=.osl false 6 ([.int .i64 k,.int .i64 f,.int .i64 t,.str w,.int .i64 q,.sl za 6 (kse.map N.enc)]::ks.map N.enc) (H.length+2))∧(s'.2=none→s'.1<L.length)∧s'.1≤1125899906842624∧ks.length*72≤70368744177664∧Rel L d' (.list .expr [41]) ((o1+1,none):PSt) (N.bag ks) (Qs L [41] s')∧H'=H.set i (rst R.tr z L s'.2)++(XX ks++X):=⟨_,rfl⟩;refine Qm 2 E (fun _ _=>False) ?_ (fun _ _ h=>h.elim) ?_
     rotate_left
     .intro fr H' h;subst hE0;obtain⟨ks,s',X,⟨f0,f4,f6,f7,f10⟩,hlt,hb,hkb,hr,rfl⟩:=h;have b2:=hr.bnd (B:=L.length+d'+3) (by simp only;omega) (by omega);have g2:=fun X=>hR.wantA (z:=z) (s:=s') (X:=X) hi hlt hb [41];generalize Qs L [41] s'=s2 at g2 hr b2;have g5:=fun H0=>hR.ended.rendedT 20 f 0 [] 0 true [] (s2.1:Int) false ([.int .i64 k,.int .i64 f,.int .i64 t,.str w,.int .i64 q,.sl za 6 (kse.map N.enc)]::ks.map N.enc) H0 (H.length+2);simp only[ag]at g5;subst hXX;simp[f0,f7];refine Qa (g2 _) ?_;simp[f6,f10];refine Qa (g5 _ (by simp)) ?_;simp[f6];have hfin:Hp.cut (H.length+2) (H.set i (rst R.tr z L s2.2)++zbx R.tn::.box R.tn [YI 20,YI f,YI s2.1,YS [],YI 0,.osl false 6 ([.int .i64 k,.int .i64 f,.int .i64 t,.str w,.int .i64 q,.sl za 6 (kse.map N.enc)]::ks.map N.enc) (H.length+2)]::.tok (ks.length+1) 6 R.tn::X)=H.set i (rst R.tr z L s2.2)++OX (N.new 20 a.f s2.1 [] 0 (a::ks)):=by
       rw[rcutk hcl,hOX];simp[abx,N.new,N.enc_mk,he,hf,zbx]
      rcases hr.none' with⟨q',b',hq,rfl,e3⟩|⟨j,hj,rfl⟩
      .refine Qg (H.length+2) 0 (Q00 _) (by simp) (by omega) ⟨N.new 20 a.f b' [] 0 (a::ks),(b',some q'),by simp[f0,f4,f6,hil2O],hfin,.inl ⟨rfl,by simp,fun m=>hRelO _ _ ?_⟩⟩;simp[pp,hjb,hjc,hq,PR.then];omega
      .have:=Ys hE d' (.list .expr [41]) (o1+1);rw[hj]at this;obtain⟨v1,v2,v3⟩:=this;have v2:=v2 rfl;have v3:=v3 v2;refine Qg (H.length+2) d' (Q00 _) (by simp) (by omega) ⟨N.new 20 a.f j [] 0 (a::ks),(j,none),by simp[f0,f4,f6,hil2O],hfin,.inr ⟨j,rfl,hsn,by omega,?_,v3,by omega⟩⟩;rw[hpeO];simp[pp,hjb,hjc,hj,PR.then,N.bag,N.new,N.ks]
     have hE1:∀fr (ks:List N) (s':PSt) (X:Hp),(fr 0=.ptr i 0∧fr 4=.ptr H.length 0∧fr 6=.ptr (H.length+1) 0∧fr 7=YI s'.1∧fr 10=.osl false 6 ([.int .i64 k,.int .i64 f,.int .i64 t,.str w,.int .i64 q,.sl za 6 (kse.map N.enc)]::ks.map N.enc) (H.length+2))→(s'.2=none→s'.1<L.length)→s'.1≤1125899906842624→ks.length*72≤70368744177664→Rel L d' (.list .expr [41]) ((o1+1,none):PSt) (N.bag ks) (Qs L [41] s')→E fr (H.set i (rst R.tr z L s'.2)++(XX ks++X)):=fun fr ks s' X a b c d e=>by subst hE0;exact⟨ks,s',X,a,b,c,d,e,rfl⟩
     clear hE0;have hF:=lfs (KT:=2) (m0:=3) (m1:=4) (fun n=>n+1) hcl hi [zbx R.tn,.box R.tn [YI k,YI f,YI t,YS w,YI q,YL za 6 (kse.map N.enc)]] hXX rfl rfl rfl fun _=>rfl;obtain⟨hcut,hcut0,hg0,hgT,hgT1,hgB,hgC,hsT⟩:=hF;have hil2:i<H.length+3:=by omega
     rw[show H.set i (.box R.tr [YL z 4 (L.map Qp),YI (-1)])++(OX a++[.tok 1 6 R.tn])=H.set i (rst R.tr z L none)++XX [] by rw[hXX,hOX];simp[hb,rst]];refine Q3 (H.length+3) (fun d fr H'=>∃(ks:List N)(s':PSt),(fr 0=.ptr i 0∧fr 4=.ptr H.length 0∧fr 6=.ptr (H.length+1) 0∧fr 7=YI s'.1∧fr 10=.osl false 6 ([.int .i64 k,.int .i64 f,.int .i64 t,.str w,.int .i64 q,.sl za 6 (kse.map N.enc)]::ks.map N.enc) (H.length+2))∧H'=H.set i (rst R.tr z L s'.2)++XX ks∧
      ((d=0∧s'.2≠none∧s'.1≤1125899906842624∧ks.length*72≤70368744177664∧∀m,Rel L d' (.list .expr [41]) ((o1+1,none):PSt) m s')∨∃p1,s'=(p1,none)∧((o1+1,none):PSt).2=none∧d≤d'∧pp L d' (.list .expr [41]) ((o1+1,none):PSt).1=pp L d (LG .expr [41] ks) p1∧p1<L.length∧16*(L.length-p1)+9≤d∧ks.length≤p1)) (match((o1+1,none):PSt).2 with|none=>d'|some _=>0) (by simp[hXl]) ⟨[],((o1+1,none):PSt),?_⟩ ?_
     .refine⟨by simp[hil2,f0,f4,f6],hcut0 _ _,?_⟩;cases h0:((o1+1,none):PSt).2 with
      |some q=>first|exact absurd h0 (by simp;done)|exact .inl ⟨rfl,by simp[h0],by omega,by simp,fun m=>by simp[Rel,h0,G.wt]⟩
      |none=>exact .inr ⟨((o1+1,none):PSt).1,by rw[←h0],rfl,Q00 _,by simp[LG],hs0l h0,by have:=hs0c h0;omega,by simp⟩
     .rintro d fr H' ⟨ks,s',⟨f0,f4,f6,f7,f10⟩,rfl,hd⟩;rcases hd with⟨rfl,q1,qb,qk,q2⟩|⟨p1,rfl,hs2,hdn,hpe,hp1',hrk,hks⟩
      .obtain⟨p',st'⟩:=s';cases st' with
       |none=>simp at q1
       |some q=>
        have hg1:=hg0 (some q);have hq:¬(q:Int)<0:=by omega
        have hE2:=fun fr h=>hE1 fr ks (p',some q) [] h (fun e=>by cases e) qb qk (q2 _);simp only[rst,Q1i]at hg1 hE2;simp[f0,f7,rst,hg1,hq];exact hE2 _ (by simp[f0,f4,f6,f7,f10,hXl])
      .have hRel:∀m s',(match pp L d (LG .expr [41] ks) p1 with|.out=>False|.bad q=>s'.2=some q∧s'.1≤L.length+d'|.ok m' k=>m=m'∧s'=(k,none))→Rel L d' (.list .expr [41]) ((o1+1,none):PSt) m s':=fun m s' h=>by
        unfold Rel;rw[hs2];simp only;rw[hpe];exact h
       have hg1:=hg0 none;have gi:=fun X=>hR.isA (z:=z) (st:=none) (X:=X) hi hp1' [41];by_cases hend:ks=[]∧isT L p1 [41]=true
       .obtain⟨rfl,hjb⟩:=hend;obtain⟨d',rfl⟩:∃d',d=d'+1:=⟨d-1,by omega⟩;have hE2:=fun fr h=>hE1 fr [] (p1,none) [] h (fun _=>hp1') (by simp only;omega) (by simp) (hRel _ _ (by simp[LG,pp,hjb,N.bag,N.new]));rw[hjb]at gi;simp only[rst,Q1i]at hg1 gi hE2;simp[f0,f7,f10,rst,hg1];refine Qa (gi _) ?_;simp;exact hE2 _ (by simp[f0,f4,f6,f7,f10,hXl])
       .have hje:ks=[]→isT L p1 [41]=false:=fun e=>by
         cases h:isT L p1 [41]with
         |false=>rfl
         |true=>exact absurd ⟨e,h⟩ hend
        obtain⟨M,hM⟩:∃M:Fr→Hp→Prop,M=fun fr H'=>(fr 0=.ptr i 0∧fr 4=.ptr H.length 0∧fr 6=.ptr (H.length+1) 0∧fr 7=YI (((p1,none):PSt).1:Int)∧fr 10=.osl false 6 ([.int .i64 k,.int .i64 f,.int .i64 t,.str w,.int .i64 q,.sl za 6 (kse.map N.enc)]::ks.map N.enc) (H.length+2))∧H'=H.set i (rst R.tr z L none)++XX ks:=⟨_,rfl⟩;have hM1:∀fr,(fr 0=.ptr i 0∧fr 4=.ptr H.length 0∧fr 6=.ptr (H.length+1) 0∧fr 7=YI (((p1,none):PSt).1:Int)∧fr 10=.osl false 6 ([.int .i64 k,.int .i64 f,.int .i64 t,.str w,.int .i64 q,.sl za 6 (kse.map N.enc)]::ks.map N.enc) (H.length+2))→M fr (H.set i (rst R.tr z L none)++XX ks):=fun fr h=>by subst hM;exact⟨h,rfl⟩
        refine Qkr M ?_ ?_
        .clear hM;simp only[rst]at hg1 gi hM1;rcases Q3b ks with hk0|⟨kk,kx,hk0⟩
         .rw[hje hk0]at gi;simp[f0,f7,f10,rst,hg1,hk0];refine Qa (gi _) ?_;rw[←hk0];simp[f0,f7];exact hM1 _ (by simp[f0,f4,f6,f7,f10,hXl])
         .have hkn:¬ks=[]:=fun e=>by rw[e]at hk0;simp at hk0
          have hk1:¬((ks.length:Int)+1=1):=by
           have:ks.length≠0:=by simpa using hkn
           omega
          simp[f0,f7,f10,rst,hg1,hkn,hk1];exact hM1 _ (by simp[f0,f4,f6,f7,f10,hXl])
        .intro fr H' h;subst hM;obtain⟨⟨f0,f4,f6,f7,f10⟩,rfl⟩:=h;have hstep:=Qil (L:=L) (d:=d) (one:=.expr) (e:=[41]) (ks:=ks) (p:=p1) (by omega) hje;obtain⟨m,hm1,hm2,hpp2⟩:=hstep;have gt:=fun X=>hS m (by omega) H X i (p1,none) hi ⟨⟨by simp only[G.c];omega,by simp only[G.c];omega,fun _=>⟨by simp only;omega,by simp only[G.c];omega⟩⟩,fun _=>hp1'⟩;simp only[rst]at hg1 gt;simp[f0,f7,rst];refine Qf (gt _) ?_;rintro _ _ ⟨x,s3,rfl,rfl,hrx⟩;obtain⟨kt,ft,tt',wt',qt,zt,kst,hft,het,hvt,hbt⟩:=Wm R.tn x;rw[hvt];obtain⟨bo,hbo⟩:∃bo:Ob,bo=.box R.tn [YI kt,YI ft,YI tt',YS wt',YI qt,YL zt 6 (kst.map N.enc)]:=⟨_,rfl⟩;have hB:=fun X=>hgB ks bo X;rw[hbo]at hB;have hT:=hgT ks;have hT1:=hgT1 ks;have hs3b:s3.1≤L.length+d':=hrx.bnd (by simp only;omega) (by omega);have hs1:=hsT ks x;have hbd:(ks.length+2)*72≤140737488355328:=by omega
         have hmap:ks.map N.enc++[[.int .i64 kt,.int .i64 ft,.int .i64 tt',.str wt',.int .i64 qt,.sl zt 6 (kst.map N.enc)]]=(ks++[x]).map N.enc:=by
          rw[Q2v];simp[het]
         clear gt;simp[f10,hXl,hB,hT,hT1,appA,slOf,hbd,hs1,hmap];obtain⟨p3,st3⟩:=s3;simp only at hs3b;cases st3 with
         |some q=>
          have hg2:=hg0 (some q);have hq':(0:Int)≤q:=by omega
          have hbad:pp L m .expr p1=.bad q:=by
           rcases hrx.none' with⟨q',a,e,e2,e3⟩|⟨k,e,e2⟩
           .simp only[prdI,somI]at e2;rw[e,e2.2]
           .simp at e2
          have hE2:=fun fr X h=>hE1 fr (ks++[x]) (p3,some q) X h (fun e=>by cases e) (by simp only;omega) (by simp;omega) (hRel _ _ (by rw[hpp2,hbad];simp[PR.then];omega));simp only[rst]at hg2 hE2;simp[f0,rst,hg2,hq'];exact hE2 _ _ (by simp[f0,f4,f6,hXl])
         |none=>
          have hok:pp L m .expr p1=.ok x p3:=by
           rcases hrx.none' with⟨q',a,e,e2,e3⟩|⟨k,e,e2⟩
           .simp at e2
           .simp only[prdI]at e2;rw[e,e2.1]
          have hadv:=Ys hE m .expr p1;rw[hok]at hadv;obtain⟨v1,v2,v3⟩:=hadv;have v2:=v2 rfl;have v3:=v3 v2;have gi3:=fun X=>hR.isA (z:=z) (st:=none) (X:=X) hi v3 [41];have gw3:=fun X=>hR.wantA (z:=z) (s:=(p3,none)) (X:=X) hi (fun _=>v3) (by simp only;omega) [44];have hg2:=hg0 none;cases hc:isT L p3 [41]with
          |true=>
           have hE2:=fun fr X h=>hE1 fr (ks++[x]) (p3,none) X h (fun _=>v3) (by simp only;omega) (by simp;omega) (hRel _ _ (by rw[hpp2,hok];simp[PR.then,hc,N.bag,N.new]));rw[hc]at gi3;simp only[rst]at hg2 gi3 hE2;simp[f0,rst,hg2];refine Qa (gi3 _) ?_;simp;exact hE2 _ _ (by simp[f0,f4,f6,hXl])
          |false=>
           rw[hc]at gi3;have hstp:=hpp2;rw[hok]at hstp;simp only[PR.then,hc,Qw]at hstp;by_cases hcm:isT L p3 [44]=true
           .have hl4:=Q5 hE hcm;simp only[Qr,hcm,if_true]at gw3;simp only[rst]at hg2 gi3 gw3;simp[f0,rst,hg2];refine Qa (gi3 _) ?_;simp[f0];refine Qa (gw3 _) ?_;simp;refine Qg (H.length+3) m (Q00 _) (by simp[hXl]) (by omega) ⟨ks++[x],(p3+1,none),by simp[f0,f4,f6,hil2],by simpa[rst]using hcut (ks++[x]) none _,.inr ⟨p3+1,rfl,hs2,by omega,?_,hl4,by omega,by simp;omega⟩⟩;rw[hpe,hstp,hcm,Qgb];simp
           .have hcm':isT L p3 [44]=false:=by simpa using hcm
            simp only[Qr,hcm',Q07,if_false]at gw3;simp only[rst]at hg2 gi3 gw3;simp[f0,rst,hg2];refine Qa (gi3 _) ?_;simp[f0];refine Qa (gw3 _) ?_;simp;refine Qg (H.length+3) 0 (Q00 _) (by simp[hXl]) (by omega) ⟨ks++[x],(p3,some p3),by simp[f0,f4,f6,hil2],by simpa[rst]using hcut (ks++[x]) (some p3) _,.inl ⟨rfl,by simp,by simp only;omega,by simp;omega,fun mm=>hRel _ _ ?_⟩⟩;rw[hstp,hcm'];simp[PR.then];omega
end
end
section
structure RHasA(P:Program)(R:RF):Prop extends RHas P R where
 params:HasT P [7] R.params (Qd7 R.want R.is R.word R.typed R.ended R.tn)
 kind:HasT P [9] R.kind (Qe7 R.is R.word R.want R.kind R.ended R.tn)
 block:HasT P [7] R.block (Qf1 R.want R.is R.stmt R.ended R.tn)
 stmt:HasT P [8,47] R.stmt (Zl R.is R.expr R.block R.ended R.word R.typed R.want R.tn)
 expr:Has P R.expr (Qhk R.sum R.is R.ended R.tn)
 sum:Has P R.sum (Qkh R.term R.is R.ended R.tn)
 term:Has P R.term (Qhi R.post R.is R.ended R.tn)
 post:HasT P [10,56] R.post (Qhj R.atom R.is R.word R.ended R.expr R.want R.tn)
 atom:HasT P [11] R.atom (Zm R.is R.expr R.want R.ended R.word R.lambda R.tn R.tt)
 file:HasT P [4] R.file (Qlu R.is R.use_ R.def_ R.ended R.tn)
structure RAll(P:Program)(R:RF)(z:Bool)(L:List Tk)(n:Nat):Prop where
 params:UR P R.tr z L n .params R.params
 typed:UR P R.tr z L n .typed R.typed
 kind:UR P R.tr z L n .kind R.kind
 block:UR P R.tr z L n .block R.block
 stmt:US P R.tr z L n .stmt R.stmt
 expr:UR P R.tr z L n .expr R.expr
 sum:UR P R.tr z L n .sum R.sum
 term:UR P R.tr z L n .term R.term
 post:UR P R.tr z L n .post R.post
 atom:UR P R.tr z L n .atom R.atom
theorem Qbp{P:Program}{z:Bool}{L:List Tk}{tr:TypeId}{g:G}{f:FuncId}(hg:0<g.c):UR P tr z L 0 g f:=λH X i s hi hp=>absurd hp.1.2.1 (by omega)
theorem Qyp{P:Program}{z:Bool}{L:List Tk}{tr:TypeId}{g:G}{f:FuncId}(hg:0<g.c):US P tr z L 0 g f:=λH X i p hi hp=>absurd hp.1.2.1 (by omega)
section
variable{P:Program}{R:RF}{z:Bool}{L:List Tk}
theorem RHasA.all(hR:RHasA P R)(hE:W4 L)(hL:L.length<=1048576):∀n,n<=1099511627776->RAll P R z L n:=by
 intro n;induction n using Nat.strongRecOn with
 |ind n ih=>
 intro hn;cases n with
 |zero=>exact⟨Qbp (by decide),Qbp (by decide),Qbp (by decide),Qbp (by decide),Qyp (by decide),Qbp (by decide),Qbp (by decide),Qbp (by decide),Qbp (by decide),Qbp (by decide)⟩
 |succ n=>
  have a:∀m,m<n+1->RAll P R z L m:=λm hm=>ih m hm (by omega);have b:=a n (by omega);have hn':n<=1099511627776:=by omega
  have h0:=hR.toRHas;exact⟨h0.params' hR.params hE hL n hn' (λm hm=>(a m (by omega)).typed),h0.typed' hE hL n hn' b.kind,h0.kind' hR.kind hE hL n hn' (λm hm=>(a m hm).kind),h0.block' hR.block hE hL n hn' (λm hm=>(a m (by omega)).stmt),
   h0.stmt' hR.stmt hE hL n hn' b.expr b.typed b.block,h0.expr' hR.expr hE hL n hn' b.sum,h0.sum' hR.sum hE hL n hn' (λm hm=>(a m hm).term),h0.term' hR.term hE hL n hn' (λm hm=>(a m hm).post),
   h0.post' hR.post hE hL n hn' b.atom (λm hm=>(a m hm).expr),h0.atom' hR.atom hE hL n hn' (λm hm=>(a m hm).expr) b.params b.typed b.block⟩
def RQF(tr:TypeId)(z:Bool)(L:List Tk)(n:Nat)(H:Hp)(i:Nat):A->Hp->Prop:=λr H'=>∃m s',r=m.v/\H'=H.set i (rst tr z L s'.2)/\Rel L n (.file []) (0,none) m s'
theorem Quj{tr:TypeId}{z z':Bool}{L:List Tk}{n:Nat}{H:Hp}{i:Nat}{s':PSt}{k f t a:Int}{w:Bs}{rows:List (List D)}(ks:List N)(hrows:rows=ks.map N.enc)(hz:rows=[]->z'=true)(hr:Rel L n (.file []) (0,none) (N.new k f t w a ks) s'):
 ∃r',Nrm (.agg [YI k,YI f,YI t,YS w,YI a,YL z' 6 rows]) r'/\RQF tr z L n H i r' (H.set i (rst tr z L s'.2)):=by
 refine⟨_,Qlg hz,_,s',?_,rfl,hr⟩;rw[N.v_new,hrows];cases ks<;>rfl
theorem RHasA.file'(hR:RHasA P R)(hE:W4 L)(h0l:0<L.length)(hL:L.length<=1048576)(n:Nat)(hn:n<=1099511627776)(hr0:16*L.length+7<=n+1){H:Hp}{i:Nat}(hi:i<H.length):
 Qc P R.file [.ptr i 0] (H.set i (rst R.tr z L none)) (RQF R.tr z L (n+1) H i):=by
 obtain⟨fn,hf,hcf⟩:=hR.file;have h0:=hR.toRHas;refine Yf (Qx hf hcf (by simp[Qlu]) λhcl _=>?_);simp[Qlu];obtain⟨XX,hXX⟩:∃XX:List N->Hp,XX=λks=>[zbx R.tn,.tok ks.length 6 R.tn]:=⟨_,rfl⟩;have hXl:∀a,(XX a).length=2:=λa=>by rw[hXX];rfl
 obtain⟨E,hE0⟩:∃E:Fr->Hp->Prop,E=λfr H'=>∃(ks:List N)(s':PSt),(fr 0=.ptr i 0/\fr 2=.ptr H.length 0/\fr 3=YI s'.1/\fr 4=.osl true 6 (ks.map N.enc) (H.length+1))/\Rel L (n+1) (.file []) (0,none) (N.new 1 0 s'.1 [] 0 ks) s'/\H'=H.set i (rst R.tr z L s'.2)++XX ks:=⟨_,rfl⟩;have hE1:∀fr (ks:List N) (s':PSt),(fr 0=.ptr i 0/\fr 2=.ptr H.length 0/\fr 3=YI s'.1/\fr 4=.osl true 6 (ks.map N.enc) (H.length+1))->Rel L (n+1) (.file []) (0,none) (N.new 1 0 s'.1 [] 0 ks) s'->E fr (H.set i (rst R.tr z L s'.2)++XX ks):=λfr ks s' a b=>by subst hE0;exact⟨ks,s',a,b,rfl⟩
 refine Qm 0 E (λ_ _=>False) ?_ (λ_ _ h=>h.elim) ?_;rotate_left
 .intro fr H' h;subst hE0;obtain⟨ks,s',⟨f0,f2,f3,f4⟩,hr,rfl⟩:=h;have g5:=λH0=>h0.ended.rendedT 1 0 0 [] 0 true [] (s'.1:Int) true (ks.map N.enc) H0 (H.length+1);simp only[ag]at g5;subst hXX;simp[f3,f4,zbx];refine Qa (g5 _ (by simp)) ?_;simp[f2];simp[RetK,rcut hcl,nl];exact Quj (z':=true) ks rfl (λ_=>rfl) hr
 clear hE0;have hF:=lfs (KT:=1) (m0:=2) (m1:=3) (λn=>n) hcl hi [zbx R.tn] hXX rfl rfl rfl λ_=>rfl;obtain⟨hcut,hcut0,hg0,hgT,hgT1,hgB,hgC,hsT⟩:=hF;have hsB:∀(ks:List N) b b' X,(XX ks++b::X).set 2 b'=XX ks++b'::X:=λks b b' X=>by rw[hXX];simp
 have hil2:i<H.length+2:=by omega
 rw[show H.set i (rst R.tr z L none)++[Ob.box R.tn [YI 0,YI 0,YI 0,YS [],YI 0,YL true 6 []],.tok 0 6 R.tn]=H.set i (rst R.tr z L none)++XX [] by rw[hXX];rfl];refine Q3 (H.length+2) (λd fr H'=>∃(ks:List N)(s':PSt),(fr 0=.ptr i 0/\fr 2=.ptr H.length 0/\fr 3=YI s'.1/\fr 4=.osl true 6 (ks.map N.enc) (H.length+1))/\H'=H.set i (rst R.tr z L s'.2)++XX ks/\
  ((d=0/\s'.2≠none/\∀m,Rel L (n+1) (.file []) (0,none) m s')\/∃p1,s'=(p1,none)/\d<=n+1/\pp L (n+1) (.file []) 0=pp L d (.file ks) p1/\p1<L.length/\16*(L.length-p1)+7<=d/\ks.length<=p1)) (n+1) (by simp[hXl]) ⟨[],(0,none),by simp[hil2],hcut0 _ _,.inr ⟨0,rfl,by omega,rfl,h0l,by omega,by simp⟩⟩ ?_
 rintro d fr H' ⟨ks,s',⟨f0,f2,f3,f4⟩,rfl,hd⟩;rcases hd with⟨rfl,q1,q2⟩|⟨p1,rfl,hdn,hpp,hp1',hrk,hks⟩
 .obtain⟨p',st'⟩:=s';cases st' with
  |none=>simp at q1
  |some q=>
   have hg1:=hg0 (some q);have hq:¬(q:Int)<0:=by omega
   have hE2:=λfr h=>hE1 fr ks (p',some q) h (q2 _);simp only[rst]at hg1 hE2;simp[f0,f3,rst,hg1,hq];exact hE2 _ (by simp[f0,f2,f3,f4])
 obtain⟨d',rfl⟩:∃d',d=d'+1:=⟨d-1,by omega⟩;have hRel:∀m s',(match pp L (d'+1) (.file ks) p1 with|.out=>False|.bad q=>s'.2=some q/\s'.1<=L.length+(n+1)|.ok m' k=>m=m'/\s'=(k,none))->Rel L (n+1) (.file []) (0,none) m s':=λm s' h=>by unfold Rel;simp only;rw[hpp];exact h
 have hg1:=hg0 none;have gi:=λX=>h0.isA (z:=z) (st:=none) (X:=X) hi hp1' kUse;have hr:=Qt Qp hp1';have hg:L[p1]?=some L[p1]:=Q0x hp1';have hkd:kdT L p1=L[p1].k:=by unfold kdT;rw[hg]
 generalize L[p1]=tk at hr hkd;obtain⟨kk,ta,tl,y⟩:=tk;simp only[Qp]at hr hkd;simp only[rst]at hg1 gi;by_cases hk0:kk=0
 .subst hk0;have hE2:=λfr h=>hE1 fr ks (p1,none) h (hRel _ _ (by simp[pp,hkd]));simp only[rst]at hE2;simp[f0,f3,rst,hg1,hr];exact hE2 _ (by simp[f0,f2,f3,f4])
 have hk0':¬kdT L p1=0:=by rw[hkd];exact hk0
 obtain⟨n',rfl⟩:∃n',d'=n'+1:=⟨d'-1,by omega⟩;have ha:=hR.all (z:=z) hE hL n' (by omega);cases hu:isT L p1 kUse with
 |true=>
  have hpf:pp L (n'+1+1) (.file ks) p1=(pp L (n'+1) .use p1).then λm j=>pp L (n'+1) (.file (ks++[m])) j:=by rw[pp];simp only[hk0',hu,if_true,if_false]
  rw[hu]at gi;have gU:∀X,Qc P R.use_ [.ptr i 0,YI p1] (H.set i (rst R.tr z L none)++X) (RQ R.tr z L (n'+1) .use H i X (p1,none)):=λX=>by have:=h0.use' (z:=z) hE hL n' (H:=H++X) (i:=i) (by simp;omega) p1 hu;rw[Q05 _ _ hi]at this;refine this.mono ?_;rintro r H' ⟨m,s',rfl,rfl,hr⟩;exact⟨m,s',rfl,by rw[Q1i,Q05 _ _ hi],hr⟩
  simp only[rst]at gU;simp[f0,f3,rst,hg1,hr,hk0];refine Qa (gi _) ?_;simp[f0,f3];refine Qf (gU _) ?_;rintro _ _ ⟨m,s3,rfl,rfl,r3⟩;obtain⟨kt,ft,tt',wt',qt,zt,kst,hft,het,hvt,hbt⟩:=Wm R.tn m;rw[hvt];obtain⟨bo,hbo⟩:∃bo:Ob,bo=.box R.tn [YI kt,YI ft,YI tt',YS wt',YI qt,YL zt 6 (kst.map N.enc)]:=⟨_,rfl⟩;have hB:=λX=>hgB ks bo X;rw[hbo]at hB;have hB0:=λX=>hgB ks (.box R.tn [YI 0,YI 0,YI 0,YS [],YI 0,YL true 6 []]) X;have hT:=hgT ks;have hT1:=hgT1 ks;have hs1:=hsT ks m;have hsb:=hsB ks;have hbd:(ks.length+1)*72<=140737488355328:=by omega
  have hmap:ks.map N.enc++[[.int .i64 kt,.int .i64 ft,.int .i64 tt',.str wt',.int .i64 qt,.sl zt 6 (kst.map N.enc)]]=(ks++[m]).map N.enc:=by rw[Q2v];simp[het]
  simp[f4,hXl,hB,hB0,hT,hT1,appA,slOf,hbd,hs1,hsb,hmap];rcases r3.none' with⟨q,b,hq,rfl,e3⟩|⟨j,hj,rfl⟩
  .refine Qg (H.length+2) 0 (Q00 _) (by simp[hXl]) (by omega) ⟨ks++[m],(b,some q),by simp[f0,f2,hil2],by simpa[rst]using hcut (ks++[m]) (some q) _,.inl ⟨rfl,by simp,λm=>hRel _ _ ?_⟩⟩;rw[hpf,hq];simp[PR.then];omega
  .have:=Ys hE (n'+1) .use p1;rw[hj]at this;obtain⟨v1,v2,v3⟩:=this;have v2:=v2 rfl;have v3:=v3 v2;refine Qg (H.length+2) (n'+1) (Q00 _) (by simp[hXl]) (by omega) ⟨ks++[m],(j,none),by simp[f0,f2,hil2],by simpa[rst]using hcut (ks++[m]) none _,.inr ⟨j,rfl,by omega,?_,v3,by omega,by simp;omega⟩⟩;rw[hpp,hpf,hj];simp[PR.then]
 |false=>
  have hpf:pp L (n'+1+1) (.file ks) p1=(pp L (n'+1) .defn p1).then λm j=>pp L (n'+1) (.file (ks++[m])) j:=by rw[pp];simp only[hk0',hu,if_false,Q07]
  rw[hu]at gi;have gU:∀X,Qc P R.def_ [.ptr i 0,YI p1] (H.set i (rst R.tr z L none)++X) (RQ R.tr z L (n'+1) .defn H i X (p1,none)):=λX=>by have:=h0.def' (z:=z) hE hL n' (by omega) ha.params ha.typed ha.block (H:=H++X) (i:=i) (by simp;omega) p1 ⟨⟨by simp only[G.c];omega,by simp only[G.c];omega,λ_=>⟨by simp only;omega,by simp only[G.c];omega⟩⟩,λ_=>hp1'⟩;rw[Q05 _ _ hi]at this;refine this.mono ?_;rintro r H' ⟨m,s',rfl,rfl,hr⟩;exact⟨m,s',rfl,by rw[Q1i,Q05 _ _ hi],hr⟩
  simp only[rst]at gU;simp[f0,f3,rst,hg1,hr,hk0];refine Qa (gi _) ?_;simp[f0,f3];refine Qf (gU _) ?_;rintro _ _ ⟨m,s3,rfl,rfl,r3⟩;obtain⟨kt,ft,tt',wt',qt,zt,kst,hft,het,hvt,hbt⟩:=Wm R.tn m;rw[hvt];obtain⟨bo,hbo⟩:∃bo:Ob,bo=.box R.tn [YI kt,YI ft,YI tt',YS wt',YI qt,YL zt 6 (kst.map N.enc)]:=⟨_,rfl⟩;have hB:=λX=>hgB ks bo X;rw[hbo]at hB;have hB0:=λX=>hgB ks (.box R.tn [YI 0,YI 0,YI 0,YS [],YI 0,YL true 6 []]) X;have hT:=hgT ks;have hT1:=hgT1 ks;have hs1:=hsT ks m;have hsb:=hsB ks;have hbd:(ks.length+1)*72<=140737488355328:=by omega
  have hmap:ks.map N.enc++[[.int .i64 kt,.int .i64 ft,.int .i64 tt',.str wt',.int .i64 qt,.sl zt 6 (kst.map N.enc)]]=(ks++[m]).map N.enc:=by rw[Q2v];simp[het]
  simp[f4,hXl,hB,hB0,hT,hT1,appA,slOf,hbd,hs1,hsb,hmap];rcases r3.none' with⟨q,b,hq,rfl,e3⟩|⟨j,hj,rfl⟩
  .refine Qg (H.length+2) 0 (Q00 _) (by simp[hXl]) (by omega) ⟨ks++[m],(b,some q),by simp[f0,f2,hil2],by simpa[rst]using hcut (ks++[m]) (some q) _,.inl ⟨rfl,by simp,λm=>hRel _ _ ?_⟩⟩;rw[hpf,hq];simp[PR.then];omega
  .have:=Ys hE (n'+1) .defn p1;rw[hj]at this;obtain⟨v1,v2,v3⟩:=this;have v2:=v2 rfl;have v3:=v3 v2;refine Qg (H.length+2) (n'+1) (Q00 _) (by simp[hXl]) (by omega) ⟨ks++[m],(j,none),by simp[f0,f2,hil2],by simpa[rst]using hcut (ks++[m]) none _,.inr ⟨j,rfl,by omega,?_,v3,by omega,by simp;omega⟩⟩;rw[hpp,hpf,hj];simp[PR.then]
theorem RHasA.fileA(hR:RHasA P R)(hE:W4 L)(h0l:0<L.length)(hL:L.length<=1048576){H:Hp}{i:Nat}(hi:i<H.length):
 Qc P R.file [.ptr i 0] (H.set i (rst R.tr z L none)) (RQF R.tr z L (16*L.length+8) H i):=hR.file' hE h0l hL (16*L.length+7) (by omega) (by omega) hi
end
end
section
theorem Has.depth6{f:FuncId}{tn:TypeId}(h:Has P f (Qdh f tn)):∀(n:N),n.size<=1125899906842624->∀H,Qc P f [n.v] H (λr H'=>r=YI n.depth/\H'=H):=by
 refine N.ind λk f' t w a z ks ih=>?_;intro hs H;refine Qe h (by simp[Qdh]) λhcl _=>?_;rw[N.size_mk]at hs;rw[N.v_mk,N.depth_mk];have hlen:=N.sizes_len ks;have hds:∀i,N.depths (ks.take i)<=1125899906842624:=λi=>by refine N.depths_le _ λp hp=>?_;have:=N.depth_size p;have:=N.sizes_mem (Q3s hp);omega
 simp[Qdh];refine Yw (H.length+1) ks.length (λi fr H'=>fr 1=.ptr H.length 0/\fr 3=YI ((N.depths (ks.take i):Int)+1)/\H'=H++[.box tn [YI k,YI f',YI t,YS w,YI a,YL z 6 (ks.map N.enc)]]) (by omega) (by decide) (by simp) (by simp) ?_ ?_
 .simp[N.depths,Qk hcl]
 rintro i fr H' hi f4 ⟨f1,f3,rfl⟩;simp[f4,f1];refine Qh (λh=>?_) (λh=>?_)
 .have hlt:i<ks.length:=by simpa using h
  have hr:=Qt N.enc hlt;have hm:=Q1u hlt;have hsz:=N.sizes_mem hm;have hx:=ih _ hm (by omega);have hdt:=N.depths_take_succ hlt;have hd0:=hds i;have hdd:=N.depth_size (ks[i]);generalize ks[i]=p at hr hx hdt hsz hdd;obtain⟨k2,f2,t2,w2,a2,z2,ks2⟩:=p;generalize hdp:(N.mk k2 f2 t2 w2 a2 z2 ks2).depth=dd at hx hdt hdd;rw[N.enc_mk]at hr;rw[N.v_mk]at hx;have hw:IntKind.i64.wrap ((dd:Int)+1)=(dd:Int)+1:=wi64 (by omega);simp[f4,f1,hr];refine Qa (hx _) ?_;by_cases hm:N.depths (ks.take i)<dd
  .simp[hw,f3,hm];refine Q8 (H.length+1) (Q00 _) hlt (by simp[f4]) ?_;rw[hdt];simp[f1,Qk hcl];omega
  .simp[hw,f3,hm];refine Q8 (H.length+1) (Q00 _) hlt (by simp[f4]) ?_;rw[hdt];simp[f1,f3,Qk hcl];omega
 .have hii:i=ks.length:=by
   have:¬i<ks.length:=by simpa using h
   omega
  rw[hii,Q09 (Q00 _)]at f3;simp[f3];simp[RetK,Qd hcl];omega
section
variable{P:Program}{R:RF}{z:Bool}{L:List Tk}
theorem Has.parse7{f fd}(h:Has P f (Qaw R.file fd R.tn R.tr))(hR:RHasA P R)(hd:Has P fd (Qdh fd R.tn))(hL:L.length<=1048576)(H:Hp):
 Qc P f [YL z 4 (L.map Qp)] H (λr H'=>r=.tup [(Q4 L).1.v,YI (Q4 L).2.1,YI (Q4 L).2.2]/\H'=H):=by
 refine Qe h (by simp[Qaw]) λhcl _=>?_;obtain⟨Q,hQ⟩:∃Q:A->Hp->Prop,Q=λr H'=>r=.tup [(Q4 L).1.v,YI (Q4 L).2.1,YI (Q4 L).2.2]/\H'=H:=⟨_,rfl⟩;rw[<-hQ];have hnone:∀e b:Int,Q4 L=(N.none,e,b)->Q (.tup [.agg [YI 0,YI 0,YI 0,YS [],YI 0,YL true 6 []],YI e,YI b]) H:=λe b h=>by subst hQ;rw[h];exact⟨rfl,rfl⟩
 by_cases h0:L=[]
 .subst h0;simp[Qaw];simp[RetK,Qd hcl];exact hnone 1 0 (by simp[Q4])
 have hl0:0<L.length:=Q19.2 h0;have h0':¬(L.length:Int)=0:=by omega
 have hw:IntKind.i64.wrap ((L.length:Int)-1)=((L.length-1:Nat):Int):=by rw[wi64 (by omega)];omega
 have hr:=Qt Qp (l:=L) (i:=L.length-1) (by omega);have hg:L[L.length-1]?=some (L[L.length-1]'(by omega)):=Q0x (by omega);have hkd:kdT L (L.length-1)=(L[L.length-1]'(by omega)).k:=by unfold kdT;rw[hg]
 generalize L[L.length-1]'(by omega)=tk at hr hkd;obtain⟨k,a,l,x⟩:=tk;simp only[Qp]at hr hkd;by_cases h1:k=0
 case neg=>simp[Qaw,h0,h0',hw,hr,h1];simp[RetK,Qd hcl];exact hnone 1 0 (by simp[Q4,hkd,h1])
 by_cases h2:4000<L.length
 case pos=>
  have h2':(4000:Int)<L.length:=by omega
  simp[Qaw,h0,h0',hw,hr,h1,h2'];simp[RetK,Qd hcl];exact hnone 1 0 (by simp[Q4,h2])
 have h2':¬(4000:Int)<L.length:=by omega
 have hE:W4 L:=λi hi=>by
  have:i=L.length-1:=by omega
  rw[this,hkd,h1]
 have hpp:Q4 L=match Qbl L with
  |.ok n _=>if 60<n.depth then(N.none,25,0)else(n,0,0)
  |.bad q=>(N.none,24,(q:Int))
  |.out=>(N.none,24,0):=by
  unfold Q4;split
  .rename_i h;rw[hkd,h1]at h;rcases h with h|h|h
   .exact absurd h h0
   .exact absurd rfl h
   .exact absurd h h2
  .rfl
 simp[Qaw,h0,h0',hw,hr,h1,h2'];obtain⟨r0,hr0⟩:∃r0:Ob,r0=.box R.tn [YI 0,YI 0,YI 0,YS [],YI 0,YL true 6 []]:=⟨_,rfl⟩;have g:=hR.fileA (z:=z) hE hl0 hL (H:=H++[r0,rst R.tr z L none]) (i:=H.length+1) (by simp);have e1:∀s,(H++[r0,rst R.tr z L none]).set (H.length+1) (rst R.tr z L s)=H++[r0,rst R.tr z L s]:=λs=>by simp
 rw[e1]at g;rw[hr0]at g;simp only[rst]at g;refine Qf g ?_;rintro _ _ ⟨m,s',rfl,rfl,hrel⟩;have e2:∀s,(H++[r0,.box R.tr [YL z 4 (L.map Qp),YI (-1)]]).set (H.length+1) (rst R.tr z L s)=H++[r0,rst R.tr z L s]:=λs=>by simp
 rw[<-hr0,e2];rw[hr0];rcases hrel.none' with⟨q,b,hq,rfl,e3⟩|⟨k',hk,rfl⟩
 .have hq':Qbl L=.bad q:=hq;rw[hq']at hpp;obtain⟨k2,f2,t2,w2,a2,z2,ks2⟩:=m;have hqn:(0:Int)<=q:=by omega
  rw[N.v_mk];simp[rst,hqn]
  repeat' apply And.intro
  all_goals
   simp[RetK,Qd hcl]
   try exact hnone 24 q hpp
 .have hk':Qbl L=.ok m k':=hk;rw[hk']at hpp;have hsz:=Qkb (L:=L) (16*L.length+8) (.file []) 0 trivial;rw[show pp L (16*L.length+8) (.file []) 0=.ok m k' from hk]at hsz;simp only[Sz,G.k1,G.sz,N.sizes_nil]at hsz;have hadv:=Yj (L:=L) (16*L.length+8) (.file []) 0;rw[show pp L (16*L.length+8) (.file []) 0=.ok m k' from hk]at hadv;obtain⟨v1,-,v3⟩:=hadv;have hdep:=N.depth_size m;have hd':=hd.depth6 m (by omega);obtain⟨k2,f2,t2,w2,a2,z2,ks2⟩:=m;rw[N.v_mk]at hd';rw[N.v_mk];simp[rst];refine Qa (hd' _) ?_;by_cases h60:60<N.depth (.mk k2 f2 t2 w2 a2 z2 ks2)
  .have h60':(60:Int)<N.depth (.mk k2 f2 t2 w2 a2 z2 ks2):=by omega
   simp[h60'];simp[RetK,Qd hcl];exact hnone 25 0 (by rw[hpp];simp[h60])
  .have h60':¬(60:Int)<N.depth (.mk k2 f2 t2 w2 a2 z2 ks2):=by omega
   simp[h60'];simp[RetK,Qd hcl];subst hQ;rw[hpp];simp[h60,N.v_mk]
theorem Has.of7{f fl fp tn}(h:Has P f (Qn9 fl fp tn))(hl:∀(s:Bs),s.length<=1048576->∀H,Qc P fl [YS s] H (λr H'=>r=.tup [YL true 4 ((lexS s).1.map Qp),YI (lexS s).2.1,YI (lexS s).2.2]/\H'=H))(hp:∀(z:Bool) (L:List Tk),L.length<=1048576->∀H,Qc P fp [YL z 4 (L.map Qp)] H (λr H'=>r=.tup [(Q4 L).1.v,YI (Q4 L).2.1,YI (Q4 L).2.2]/\H'=H))(s:Bs)(hs:s.length<=1048576)(H:Hp):
 Qc P f [YS s] H (λr H'=>r=.tup [YL true 4 ((Q0 s).1.map Qp),(Q0 s).2.1.v,YI (Q0 s).2.2.1,YI (Q0 s).2.2.2]/\H'=H):=by
 refine Qe h (by simp[Qn9]) λhcl _=>?_;obtain⟨Q,hQ⟩:∃Q:A->Hp->Prop,Q=λr H'=>r=.tup [YL true 4 ((Q0 s).1.map Qp),(Q0 s).2.1.v,YI (Q0 s).2.2.1,YI (Q0 s).2.2.2]/\H'=H:=⟨_,rfl⟩;rw[<-hQ];have hnone:∀e b:Int,Q0 s=([],N.none,e,b)->Q (.tup [YL true 4 [],.agg [YI 0,YI 0,YI 0,YS [],YI 0,YL true 6 []],YI e,YI b]) H:=λe b h=>by subst hQ;rw[h];exact⟨rfl,rfl⟩
 have hO:Q0 s=if(lexS s).2.1≠0 then([],N.none,(lexS s).2.1,(lexS s).2.2)
  else if(Q4 (lexS s).1).2.1≠0 then([],N.none,(Q4 (lexS s).1).2.1,match(lexS s).1[(Q4 (lexS s).1).2.2.toNat]? with|some t=>(t.a:Int)|none=>0)
  else((lexS s).1,(Q4 (lexS s).1).1,0,0):=rfl
 have hlk:=Qiw (s:=s);have g1:=hl s hs (H++[Ob.box tn [YI 0,YI 0,YI 0,YS [],YI 0,YL true 6 []]]);generalize lexS s=LS at hO hlk g1;obtain⟨L,e,b⟩:=LS;simp only at hO hlk g1;simp[Qn9];refine Qa g1 ?_;by_cases he:e=0
 case neg=>rw[if_pos he]at hO;simp[he];simp[RetK,Qd hcl];exact hnone e b hO
 rw[if_neg (by simp[he])]at hO;obtain⟨l1,l2,l3,l4,l5⟩:=hlk he;have hat:=Qm7 l2 l1;have g2:=hp true L (by omega);generalize Q4 L=PS at hO hat g2;obtain⟨m,e2,b2⟩:=PS;simp only at hO hat g2;simp[he];refine Qa (g2 _) ?_;obtain⟨k,f',t,w,a,z,ks⟩:=m;rw[N.v_mk];obtain⟨hb0,hb1⟩:=hat;obtain⟨q,rfl⟩:∃q:Nat,b2=(q:Int):=⟨b2.toNat,by omega⟩;simp only[Q2e]at hO hb1;have hr:=Qt Qp hb1;rw[Q0x hb1]at hO;generalize L[q]=tk at hr hO;obtain⟨tk,ta,tl,tx⟩:=tk;simp only[Qp]at hr;simp;by_cases he2:e2=0
 case neg=>
  rw[if_pos he2]at hO;simp[he2,hr]
  repeat' apply And.intro
  all_goals
   simp[RetK,Qd hcl]
   try exact hnone e2 ta hO
 rw[if_neg (by simp[he2])]at hO;simp[he2];simp[RetK,Qd hcl];subst hQ;rw[hO];exact⟨by rw[N.v_mk],rfl⟩
end
end
section
section
variable{P:Program}{F:SF}{H:Hp}
theorem SHas.of'(hF:SHas P F)(hW:HasW P F){fof:FuncId}(hof:HasT P [5000003,8200003,6000034,6000043] fof (Qlr F.bind F.closed F.srt F.cmp F.tn F.tm F.tb F.bd F.mn F.ed))(hs:∀(H:Hp) (i:Nat) (L:List (Int×Int)),H[i]?=some (arrE Q2 2 L)→L.length≤1099511627776→Qc P F.srt [.msl i 0 L.length,.d (.fn F.cmp)] H (fun r H'=>r=.tup []∧H'=H.set i (arrE Q2 2 (ssort cBad L))))(hs0:∀(H:Hp),Qc P F.srt [YL true 2 [],.d (.fn F.cmp)] H (fun r H'=>r=.tup []∧H'=H))(n:N)(hn:n.size≤68719476736)(H:Hp):
 Qc P fof [n.v] H (fun r H'=>r=.agg ((Vz n).enc.map .d)∧H'=H):=by
 obtain⟨k,f,t,w,a,z,ks⟩:=n;rw[N.size_mk]at hn;have hsl:=N.sizes_len ks;have hall:allP (.mk k f t w a z ks)=Zo (W7 0 ks [] ⟨[],[],[]⟩).1 0 ks (W7 0 ks [] ⟨[],[],[]⟩).2:=rfl;have hall2:(Zo (W7 0 ks [] ⟨[],[],[]⟩).1 0 ks (W7 0 ks [] ⟨[],[],[]⟩).2).sz≤4*N.sizes ks:=by
  have h1:=(Qbq ks 0 [] ⟨[],[],[]⟩ (FOk.nil _)).sz;have h2:=(Qdp (W7 0 ks [] ⟨[],[],[]⟩).1 ks 0 (W7 0 ks [] ⟨[],[],[]⟩).2).2;have h3:SM.sz ⟨[],[],[]⟩=0:=rfl;omega
 have hw:=hF.ofW hW hof (H:=H) (k:=k) (f:=f) (t:=t) (w:=w) (a:=a) (z:=z) (ks:=ks) (by omega);unfold Vz;rw[hall];obtain⟨bx,hbx⟩:∃bx,bx=Ob.box F.tn [YI k,YI f,YI t,YS w,YI a,YL z 6 (ks.map N.enc)]:=⟨_,rfl⟩;have hbc:∀n,bx.clr n=bx:=fun n=>by subst hbx;simp
 rw[←hbx]at hw;generalize Zo (W7 0 ks [] ⟨[],[],[]⟩).1 0 ks (W7 0 ks [] ⟨[],[],[]⟩).2=S at hw hall2⊢;generalize(W7 0 ks [] ⟨[],[],[]⟩).1=G at hw;have hbl:S.bad.length≤1099511627776:=by unfold SM.sz at hall2;omega
 obtain⟨bs,ms,bad⟩:=S;simp only at hbl;by_cases hb:bad=[]
 .subst hb;have hso:ssort cBad ([]:List (Int×Int))=[]:=rfl;rw[hso];have hgoal:(SM.enc ⟨bs,ms,[]⟩).map A.d=[YL (bs.map Qq).isEmpty 4 (bs.map Qq),YL (ms.map Wq).isEmpty 4 (ms.map Wq),YL true 2 []]:=by
   simp[SM.enc]
  rw[hgoal];refine Qc.freeze3n (k:=4) (e:=F.ed) (Qkd (t:=H.length+2)) (Qkd (t:=H.length+3)) ?_;refine hw 5 _ fun hcl it fr f3 f2=>?_;have y5:(scY F H.length bx ⟨bs,ms,[]⟩ G it)[5]?=some (.box F.tm [.osl true 4 (bs.map Qq) (H.length+2),.osl true 4 (ms.map Wq) (H.length+3),.vsl (H.length+4) 0 0]):=rfl;have y1:(scY F H.length bx ⟨bs,ms,[]⟩ G it)[1]?=some (.box F.tm [YL true 4 [],YL true 4 [],YL true 2 []]):=rfl;have y4:(H++scY F H.length bx ⟨bs,ms,[]⟩ G it)[H.length+4]?=some (.vec 2 F.ed 0 []):=by rw[Qv];rfl
  simp[Qrg,f3,y5,-getElem?_pos];refine Qa (Qc.vecNil y4 (hs0 _)) ?_;simp[f3,f2,y5,y1,-getElem?_pos];have lY:(scY F H.length bx ⟨bs,ms,[]⟩ G it).length=8:=rfl;have y1':((scY F H.length bx ⟨bs,ms,[]⟩ G it).set 1 (.box F.tm [.osl true 4 (bs.map Qq) (H.length+2),.osl true 4 (ms.map Wq) (H.length+3),.vsl (H.length+4) 0 0]))[1]?=some (.box F.tm [.osl true 4 (bs.map Qq) (H.length+2),.osl true 4 (ms.map Wq) (H.length+3),.vsl (H.length+4) 0 0]):=rfl;have hcut:∃X:Hp,X[4]?=some (.vec 2 F.ed 0 [])∧Hp.cut (H.length+5) (H++(scY F H.length bx ⟨bs,ms,[]⟩ G it).set 1 (.box F.tm [.osl true 4 (bs.map Qq) (H.length+2),.osl true 4 (ms.map Wq) (H.length+3),.vsl (H.length+4) 0 0]))=H++X:=⟨_,rfl,Qk hcl _ _⟩;simp[RetK,resA,f2,y1',lY,-getElem?_pos];exact hcut
 .have hne:bad.map Q2≠[]:=by simpa using hb
  have hbz:bad.length=(ssort cBad bad).length:=(Wx Z0 bad).symm;have hbe:(ssort cBad bad).isEmpty=false:=by
   cases hq:ssort cBad bad with
   |nil=>rw[hq]at hbz;simp at hbz;exact absurd hbz hb
   |cons x r=>rfl
  have hgoal:(SM.enc ⟨bs,ms,ssort cBad bad⟩).map A.d=[YL (bs.map Qq).isEmpty 4 (bs.map Qq),YL (ms.map Wq).isEmpty 4 (ms.map Wq),YL false 2 ((ssort cBad bad).map Q2)]:=by
   simp[SM.enc,hbe]
  rw[hgoal];refine Qc.freeze3 (k:=8) (Qkd (t:=H.length+2)) (Qkd (t:=H.length+3)) ?_;refine hw 9 _ fun hcl it fr f3 f2=>?_;have y5:(scY F H.length bx ⟨bs,ms,bad⟩ G it)[5]?=some (.box F.tm [.osl true 4 (bs.map Qq) (H.length+2),.osl true 4 (ms.map Wq) (H.length+3),.vsl (H.length+4) bad.length bad.length]):=rfl;have y4:(H++scY F H.length bx ⟨bs,ms,bad⟩ G it)[H.length+4]?=some (.vec 2 F.ed bad.length (bad.map Q2)):=by rw[Qv];rfl
  have y5':(H++scY F H.length bx ⟨bs,ms,bad⟩ G it)[H.length+5]?=some (.box F.tm [.osl true 4 (bs.map Qq) (H.length+2),.osl true 4 (ms.map Wq) (H.length+3),.vsl (H.length+4) bad.length bad.length]):=by rw[Qv];rfl
  have hl8:(H++scY F H.length bx ⟨bs,ms,bad⟩ G it).length=H.length+8:=by simp[scY]
  have gs:=hs ((((H++scY F H.length bx ⟨bs,ms,bad⟩ G it).set (H.length+4) .dead).set (H.length+5) (.box F.tm [.osl true 4 (bs.map Qq) (H.length+2),.osl true 4 (ms.map Wq) (H.length+3),.msl (H.length+8) 0 bad.length]))++[arrE Q2 2 bad]) (H.length+8) bad
   (by rw[Q1e (by simp[scY]),show H.length+8-_=0 by simp[scY]];rfl) hbl
  have gv:=Qc.vecArr (P:=P) (f:=F.srt) (q:=2) (args:=[.d (.fn F.cmp)]) (Q:=fun r H'=>r=.tup []∧H'=((((H++scY F H.length bx ⟨bs,ms,bad⟩ G it).set (H.length+4) .dead).set (H.length+5) (.box F.tm [.osl true 4 (bs.map Qq) (H.length+2),.osl true 4 (ms.map Wq) (H.length+3),.msl (H.length+8) 0 bad.length]))++[arrE Q2 2 (ssort cBad bad)]))
   y4 hne y5' (by simp) (by
    rw[hl8,Q1v,←Qqy];refine gs.mono ?_;rintro r H' ⟨rfl,rfl⟩;refine⟨rfl,?_⟩;rw[Q2k _ _ (by simp[scY]),show H.length+8-_=0 by simp[scY]];rfl)
  rw[Q1v]at gv;simp[Qrg,f3,y5,-getElem?_pos];refine Qa gv ?_;rw[Q2k _ _ (by omega),Q2k _ _ (by simp)];simp only[Q21];obtain⟨Z,hZ⟩:∃Z,Z=(((scY F H.length bx ⟨bs,ms,bad⟩ G it).set 4 .dead).set 5 (.box F.tm [.osl true 4 (bs.map Qq) (H.length+2),.osl true 4 (ms.map Wq) (H.length+3),.msl (H.length+8) 0 bad.length])++[arrE Q2 2 (ssort cBad bad)]):=⟨_,rfl⟩;have z5:Z[5]?=some (.box F.tm [.osl true 4 (bs.map Qq) (H.length+2),.osl true 4 (ms.map Wq) (H.length+3),.msl (H.length+8) 0 bad.length]):=by subst hZ;rfl
  have z1:Z[1]?=some (.box F.tm [YL true 4 [],YL true 4 [],YL true 2 []]):=by subst hZ;rfl
  have z1':(Z.set 1 (.box F.tm [.osl true 4 (bs.map Qq) (H.length+2),.osl true 4 (ms.map Wq) (H.length+3),.msl (H.length+8) 0 bad.length]))[1]?=some (.box F.tm [.osl true 4 (bs.map Qq) (H.length+2),.osl true 4 (ms.map Wq) (H.length+3),.msl (H.length+8) 0 bad.length]):=by subst hZ;rfl
  have lZ:Z.length=9:=by subst hZ;rfl
  have hcut:∃X:Hp,X[8]?=some (.arr 2 (((ssort cBad bad).map Q2).map (List.map .d)))∧Hp.cut (H.length+9) (H++Z.set 1 (.box F.tm [.osl true 4 (bs.map Qq) (H.length+2),.osl true 4 (ms.map Wq) (H.length+3),.msl (H.length+8) 0 bad.length]))=H++X:=by
   refine⟨_,?_,Qk hcl _ _⟩;subst hZ;have:(Ob.clr (H.length+9) (arrE Q2 2 (ssort cBad bad)))=.arr 2 (((ssort cBad bad).map Q2).map (List.map .d)):=by rw[←Qqy];exact Wk ..
   rw[←this];rfl
  rw[Q1f,←hZ];simp[f3,f2,z5,z1,-getElem?_pos];simp[RetK,resA,f2,z1',lZ,hbz,-getElem?_pos];rw[hbz]at hcut;simpa using hcut
end
end
section
open Go.RowKit (Below)
open Go.Proofs Go.Sort
def Ze(L:List Int):List (List A):=L.map λx=>[YI x]
theorem Qpx(L:List Int)(k:Nat)(x:Int):Ze (L.set k x)=(Ze L).set k [YI x]:=by rw[Ze,Q4s];rfl
theorem HR.putInts{κ:K}{H:Hp}{w:World}(h:HR κ H w){i b:Nat}{s:Option (TypeId×Nat)}{L0 d:List Int}(hi:H[i]?=some (.arr 1 (Ze L0)))(hβ:κ.β i=.arr b 1 s)(hd:d.length=L0.length)(h0:Holds (Value.int .i64) w b 0 L0.toArray):∀k:Nat,k<=L0.length->HR κ (H.set i (.arr 1 (Ze (d.take k++L0.drop k)))) (putRow (Value.int .i64) w b 0 (d.take k++L0.drop k).toArray)
 |0,_=>by
  have hH:H.set i (.arr 1 (Ze L0))=H:=by
   refine Q17 λj=>?_;by_cases hj:i=j
   .subst hj;rw[Q02 (Q0y.1 hi).1,hi]
   .rw[Q01 hj]
  rw[Q20,Q3u,Q1s,hH,putRow_self _ _ _ _ _ h0];exact h
 |k+1,hk=>by
  have ih:=HR.putInts h hi hβ hd h0 k (by omega);have hil:i<H.length:=(Q0y.1 hi).1;have hx:d.take (k+1)++L0.drop (k+1)=(d.take k++L0.drop k).set k (d[k]'(by omega)):=by
   have e1:L0.drop k=L0[k]'(by omega)::L0.drop (k+1):=Q1h (by omega);have e2:d.take (k+1)=d.take k++[d[k]'(by omega)]:=Q1b (by omega);have hm:k-(d.take k).length=0:=by simp;omega
   rw[e2,Q2k _ _ (by simp;omega),hm,e1,List.set_cons_zero,Q1f];rfl
  have hlen:(d.take k++L0.drop k).length=L0.length:=by simp;omega
  generalize d.take k++L0.drop k=X at ih hx hlen;rw[hx];have hXk:X[k]?=some (X[k]'(by omega)):=Q0x (by omega);have hrow:(Ze X)[k]?=some [YI (X[k]'(by omega))]:=by rw[Ze,Q1a,hXk];rfl
  have:=ih.setArr (i:=i) (k:=k) (j:=0) (by rw[Q02 hil]) hβ hrow (by simp) (v:=(Value.int .i64) (d[k]'(by omega))) (a:=YI (d[k]'(by omega))) rfl (.d (DR.int _ _));rw[Q2s]at this;have e3:=putRow_set (Value.int .i64) w b 0 X.toArray k (d[k]'(by omega)) (by simp;omega);rw[Q2c]at e3;rw[Nat.mul_one,Q27,e3]at this;rw[Qpx];simpa using this
def Qot(P:Program)(f:FuncId):Prop:=∀(blk off cap:Nat)(ss:List Int)(w:World),Holds (Value.int .i64) w blk off ss.toArray->blk<w.heap.size->ss.length<4611686018427387904->
 Calls P f #[.slice (some ⟨blk,off,none⟩) ss.length cap] w λe w'=>e=.returned (.tuple #[])/\∃n os,w'=grow (putRow (Value.int .i64) (Go.Sort.ahead w n) blk off (ss.mergeSort λx y=>decide (x<=y)).toArray) os
theorem Qmq{P:Program}{f:FuncId}(hS:Qot P f){L:List Int}(hne:L≠[])(hl:L.length<4611686018427387904){H:Hp}{i:Nat}(hi:H[i]?=some (.arr 1 (Ze L))):
 Qc P f [.msl i 0 L.length] H (λr H'=>r=.tup []/\H'=H.set i (.arr 1 (Ze (L.mergeSort λx y=>decide (x<=y))))):=by
 intro κ w vs hr hvl hv;match vs,hvl with
 |[v],_=>
 have hv0:=hv 0 v _ rfl rfl;have hpos:0<L.length:=Q19.2 hne;cases hv0 with
 |msl _ _ _ b sz o cap hb hcl ho hz=>
 obtain⟨b',s',hβ',hsh,hc⟩:=hr.ob i _ hi;obtain⟨rfl,rfl⟩:b=b'/\sz=1:=by
  rcases hb with⟨s,hb⟩|hb
  .rw[hβ']at hb;cases hb;exact⟨rfl,rfl⟩
  .rw[hβ']at hb;cases hb
 have ho':o=0:=by have:=ho hpos;omega
 subst ho';have hH0:∀n,Holds (Value.int .i64) (Go.Sort.ahead w n) b 0 L.toArray:=λn j hj=>by
  have hj':j<L.length:=by simpa using hj
  have hrow:(Ze L)[j]?=some [YI L[j]]:=by rw[Ze,Q1a,Q0x hj'];rfl
  obtain⟨-,h2⟩:=hc j _ hrow;obtain⟨u,u1,u2,u3⟩:=h2 0 _ rfl;have:=u3.d_inv.int_inv;subst this;rw[Nat.mul_one,Q27]at u1 u2;rw[Q2c];refine⟨?_,u2⟩;rw[cell?_ahead,u1];simp[getElem!_pos,hj']
 have hblk:=(hr.ex i b (by rw[hβ'];rfl)).2;refine(hS b 0 cap L w (hH0 0) hblk hl).mono ?_;rintro e w' ⟨rfl,n,os,rfl⟩;have h1:HR κ H (Go.Sort.ahead w n):=hr.later (Qjz w n);have hml:(L.mergeSort λx y=>decide (x<=y)).length=L.length:=Q3a L;have h2:=h1.putInts hi hβ' hml (hH0 n) L.length (Q00 _);rw[Q09 (by omega),Q47 (Q00 _),Q1i]at h2;have h3:=h2.later (Qmf _ os);exact⟨_,κ,.tup [],_,rfl,K.le_refl κ,h3,.tup [] [] rfl (by simp),rfl,rfl⟩
end
section
section
variable{P:Program}{tn tm bd mn ed tint:Nat}
theorem Has.scCmp{f cmpI:FuncId}(hf:Has P f (Qkg cmpI ed))(hc:∀(a b:Int) (H:Hp),Qc P cmpI [YI a,YI b] H (λr H'=>r=YI (V5 a b)/\H'=H))(x y:Int×Int)(H:Hp):
 Qc P f [.agg (rowE Q2 x),.agg (rowE Q2 y)] H (λr H'=>r=YI (cBad x y)/\H'=H):=by
 obtain⟨fn,hff,hcf⟩:=hf;refine Qx hff hcf (by simp[Qkg]) λhcl _=>?_;obtain⟨a1,c1⟩:=x;obtain⟨a2,c2⟩:=y;simp[Qkg,rowE,Q2];refine Qa (hc _ _ _) ?_;simp[RetK,resA,Qd hcl,cBad]
end
end
end Go.Zam
namespace Go.Proofs.Zq
section
open Go Go.Zam Go.Proofs
theorem rcf69:Qn Tryz.prog [6] Tryz.f69=some (Qhl 107 108 109 61):=by kernel_rfl
theorem rcf107:Qn Tryz.prog [] Tryz.f107=some (Qkj 148):=by kernel_rfl
theorem rcf148:Qn Tryz.prog [] Tryz.f148=some (Y5 171):=by kernel_rfl
theorem rcf171:Qn Tryz.prog [] Tryz.f171=some (Qhn):=by kernel_rfl
theorem rcf108:Qn Tryz.prog [] Tryz.f108=some (Qhm):=by kernel_rfl
theorem rcf109:Qn Tryz.prog [] Tryz.f109=some (Qki 51 50 49 149):=by kernel_rfl
theorem rcf149:Qn Tryz.prog [] Tryz.f149=some (Zn):=by kernel_rfl
theorem rcf47:Qn Tryz.prog [] Tryz.f47=some (Qn9 69 70 48):=by kernel_rfl
theorem rcf70:Qn Tryz.prog [] Tryz.f70=some (Qaw 110 111 48 202):=by kernel_rfl
theorem rcf111:Qn Tryz.prog [] Tryz.f111=some (Qdh 111 48):=by kernel_rfl
theorem rcf63:Qn Tryz.prog [] Tryz.f63=some (Vq 102):=by kernel_rfl
theorem rcf102:Qn Tryz.prog [] Tryz.f102=some (Qal 144 145):=by kernel_rfl
theorem rcf144:Qn Tryz.prog [] Tryz.f144=some (Vh 2):=by kernel_rfl
theorem rcf169:Qn Tryz.prog [] Tryz.f169=some (Zy 186):=by kernel_rfl
theorem rcf186:Qn Tryz.prog [] Tryz.f186=some (Y4 2):=by kernel_rfl
theorem rcf40:Qn Tryz.prog [] Tryz.f40=some (V2 58):=by kernel_rfl
theorem rcf58:Qn Tryz.prog [] Tryz.f58=some (Qam):=by kernel_rfl
theorem rcf64:Qn Tryz.prog [] Tryz.f64=some (Qkg 40 144):=by kernel_rfl
theorem rcf145:Qn Tryz.prog [] Tryz.f145=some (Zk 2 169 145):=by kernel_rfl
theorem rcf42:Qn Tryz.prog [5000003,8200003,6000034,6000043] Tryz.f42=some (Qlr 61 62 63 64 48 75 139 42 102 144):=by kernel_rfl
theorem rcf48:Qn Tryz.prog [10,11] Tryz.f48=some (Qkf 71 72 48 53 156 57 90):=by kernel_rfl
theorem Qz7(s:Bs)(hs:s.length<=1048576)(H:Hp):
 Qc Tryz.prog 69 [YS s] H (λr H'=>r=.tup [YL true 4 ((lexS s).1.map Qp),YI (lexS s).2.1,YI (lexS s).2.2]/\H'=H):=
 HasT.lex4 ⟨_,Tryz.func69,rcf69⟩
  (λs H hs=>Has.bad3 ⟨_,Tryz.func107,rcf107⟩ (λs n hn hl H=>Has.next3 ⟨_,Tryz.func148,rcf148⟩ (Has.more3 ⟨_,Tryz.func171,rcf171⟩) s n hn hl H) s hs H)
  (λs n hn hl H=>Has.lead4 ⟨_,Tryz.func108,rcf108⟩ s n hn hl H)
  (λs n hn hl H=>Has.one4 ⟨_,Tryz.func109,rcf109⟩ Qm5 Qpd Qpb (λs H hs=>Has.unquote3 ⟨_,Tryz.func149,rcf149⟩ s hs H) s n hn hl H) s hs H
def Rf:RF:={is:=150,word:=172,want:=173,ended:=153,use_:=151,def_:=152,lambda:=174,typed:=188,params:=187,kind:=201,block:=189,stmt:=202,expr:=210,sum:=213,term:=216,post:=222,atom:=228,file:=110,tn:=48,tt:=61,tr:=202}
theorem rHas:RHasA Tryz.prog Rf where
 is:=⟨_,Tryz.func150,by kernel_rfl⟩
 word:=⟨_,Tryz.func172,by kernel_rfl⟩;want:=⟨_,Tryz.func173,by kernel_rfl⟩;ended:=⟨_,Tryz.func153,by kernel_rfl⟩;use_:=⟨_,Tryz.func151,by kernel_rfl⟩;def_:=⟨_,Tryz.func152,by kernel_rfl⟩;lambda:=⟨_,Tryz.func174,by kernel_rfl⟩;typed:=⟨_,Tryz.func188,by kernel_rfl⟩;params:=⟨_,Tryz.func187,by kernel_rfl⟩;kind:=⟨_,Tryz.func201,by kernel_rfl⟩;block:=⟨_,Tryz.func189,by kernel_rfl⟩;stmt:=⟨_,Tryz.func202,by kernel_rfl⟩;expr:=⟨_,Tryz.func210,by kernel_rfl⟩;sum:=⟨_,Tryz.func213,by kernel_rfl⟩;term:=⟨_,Tryz.func216,by kernel_rfl⟩;post:=⟨_,Tryz.func222,by kernel_rfl⟩;atom:=⟨_,Tryz.func228,by kernel_rfl⟩;file:=⟨_,Tryz.func110,by kernel_rfl⟩
theorem Qx0(s:Bs)(hs:s.length<=1048576)(H:Hp):
 Qc Tryz.prog 47 [YS s] H (λr H'=>r=.tup [YL true 4 ((Q0 s).1.map Qp),(Q0 s).2.1.v,YI (Q0 s).2.2.1,YI (Q0 s).2.2.2]/\H'=H):=
 Has.of7 ⟨_,Tryz.func47,rcf47⟩ (λs hs H=>Qz7 s hs H) (λz L hL H=>Has.parse7 (R:=Rf) ⟨_,Tryz.func70,rcf70⟩ rHas ⟨_,Tryz.func111,rcf111⟩ hL H) s hs H
def Sf:SF:={wrong:=98,bind:=61,within:=99,res:=140,node:=101,nodeC:=141,kids:=142,mention:=143,find:=168,closed:=62,closedC:=100,cmp:=64,srt:=63,cmpI:=40,tn:=48,tp:=134,ts:=46,tfp:=137,tf:=191,tb:=139,tm:=75,bd:=42,mn:=102,ed:=144}
theorem sHas:SHas Tryz.prog Sf where
 wrong:=⟨_,Tryz.func98,by kernel_rfl⟩
 bind:=⟨_,Tryz.func61,by kernel_rfl⟩;res:=⟨_,Tryz.func140,by kernel_rfl⟩;kRes:=by kernel_rfl
 node:=⟨_,Tryz.func101,by kernel_rfl⟩;nodeC:=⟨_,Tryz.func141,by kernel_rfl⟩;kNodeC:=by kernel_rfl
 kids:=⟨_,Tryz.func142,by kernel_rfl⟩;mention:=⟨_,Tryz.func143,by kernel_rfl⟩;find:=⟨_,Tryz.func168,by kernel_rfl⟩;closed:=⟨_,Tryz.func62,by kernel_rfl⟩;closedC:=⟨_,Tryz.func100,by kernel_rfl⟩;kClosedC:=by kernel_rfl
theorem sHasW:HasW Tryz.prog Sf:=⟨_,Tryz.func99,by kernel_rfl⟩
def Rs:RSF:={rbind:=71,rclosed:=72,rbegin:=112,rnode:=113,rmention:=154,tn:=48,rtm:=53,rnm:=204,red:=156,rbd:=57,rmn:=90}
theorem rsHas:RSHas Tryz.prog Rs where
 rbind:=⟨_,Tryz.func71,by kernel_rfl⟩
 rclosed:=⟨_,Tryz.func72,by kernel_rfl⟩;rbegin:=⟨_,Tryz.func112,by kernel_rfl⟩;rnode:=⟨_,Tryz.func113,by kernel_rfl⟩;rmention:=⟨_,Tryz.func154,by kernel_rfl⟩
theorem Qrw:∀x,(Q2 x).length=2:=λ_=>rfl
theorem cmpB:CmpA Tryz.prog Q2 cBad (.d (.fn 64)):=λH x y Q t hq=>by simp only[Qxb];exact⟨by kernel_rfl,W5 (Has.scCmp (ed:=144) (cmpI:=40) ⟨_,Tryz.func64,rcf64⟩ (λa b H=>Qjf Tryz.func40 rcf40 Tryz.func58 rcf58 a b) x y H) hq⟩
theorem srtOk(H:Hp)(i:Nat)(L:List (Int×Int))(hi:H[i]?=some (arrE Q2 2 L))(hl:L.length<=1099511627776):Qc Tryz.prog 63 [.msl i 0 L.length,.d (.fn 64)] H (λr H'=>r=.tup []/\H'=H.set i (arrE Q2 2 (ssort cBad L))):=Qc3 Qrw Z0 Tryz.func63 rcf63 Tryz.func102 rcf102 Tryz.func144 rcf144 Tryz.func145 rcf145 Tryz.func169 rcf169 Tryz.func186 rcf186 cmpB (λm _=>by simp) hi hl
theorem Qzs(H:Hp):Qc Tryz.prog 63 [YL true 2 [],.d (.fn 64)] H (λr H'=>r=.tup []/\H'=H):=Qcg (sz:=2) Tryz.func63 rcf63 Tryz.func102 rcf102 Tryz.func144 rcf144 (λm _=>by simp)
theorem Qxu(n:N)(hn:n.size<=68719476736)(H:Hp):Qc Tryz.prog 42 [n.v] H (λr H'=>r=.agg ((Vz n).enc.map .d)/\H'=H):=sHas.of' sHasW ⟨_,Tryz.func42,rcf42⟩ srtOk Qzs n hn H
theorem Qrl(n:N)(hn:n.size<=68719476736)(H:Hp):Qc Tryz.prog 48 [n.v] H (λr H'=>r=.agg ((Vz n).encR.map .d)/\H'=H):=by have:=rsHas.of' ⟨_,Tryz.func48,rcf48⟩ n hn H;rw[<-Qmi]at this;exact this
end
end Go.Proofs.Zq
namespace Go.Zam
variable{P:Program}
section
open Go.Proofs
def Qgs(loaded awake ixAt rAt places rPlaces same ixBinding rfind place tSp tSy tRy tBd tR tBe:Nat):IFn:=by
 have h:=Ix.J [] Tryz.f3 [(4,loaded),(5,awake),(6,ixAt),(7,rAt),(9,places),(10,rPlaces),(8,same),(11,ixBinding),(12,rfind),(13,place)] [(24,tSp),(26,tSy),(34,tRy),(42,tBd),(55,tR),(57,tBe)];conv at h=>arg 1;reduce
 exact h.p
def Qgr(light load rload:Nat):IFn:=by
 have h:=Ix.J [] Tryz.f4 [(14,light),(15,load),(16,rload)] [];conv at h=>arg 1;reduce
 exact h.p
def Qi9(load ixAt places tSy:Nat):IFn:=by
 have h:=Ix.J [] Tryz.f5 [(15,load),(6,ixAt),(9,places)] [(26,tSy)];conv at h=>arg 1;reduce
 exact h.p
def Qrs(unit tokAt mapAt ixOf tSp tSy tU:Nat):IFn:=by
 have h:=Ix.J [] Tryz.f6 [(17,unit),(18,tokAt),(19,mapAt),(20,ixOf)] [(24,tSp),(26,tSy),(77,tU)];conv at h=>arg 1;reduce
 exact h.p
def Qob(rfind tokAtR mapTokens rStands tRy tR:Nat):IFn:=by
 have h:=Ix.J [] Tryz.f7 [(12,rfind),(21,tokAtR),(22,mapTokens),(23,rStands)] [(34,tRy),(55,tR)];conv at h=>arg 1;reduce
 exact h.p
def Qh6:IFn:=by
 have h:=Ix.J [] Tryz.f8 [] [];conv at h=>arg 1;reduce
 exact h.p
def Qfg(rStands tRy tBe tRMn tSp:Nat):IFn:=by
 have h:=Ix.J [5] Tryz.f10 [(23,rStands)] [(34,tRy),(57,tBe),(90,tRMn),(24,tSp)];conv at h=>arg 1;reduce
 exact h.p
def Qfi(unit tSy tBd tU:Nat):IFn:=by
 have h:=Ix.J [] Tryz.f11 [(17,unit)] [(26,tSy),(42,tBd),(77,tU)];conv at h=>arg 1;reduce
 exact h.p
def Qi7(ixBinding unit tSy tSp tBd tU:Nat):IFn:=by
 have h:=Ix.J [] Tryz.f13 [(11,ixBinding),(17,unit)] [(26,tSy),(24,tSp),(42,tBd),(77,tU)];conv at h=>arg 1;reduce
 exact h.p
def Qgq:IFn:=by
 have h:=Ix.J [] Tryz.f21 [] [];conv at h=>arg 1;reduce
 exact h.p
def Qi6(tTk:Nat):IFn:=by
 have h:=Ix.J [] Tryz.f18 [] [(61,tTk)];conv at h=>arg 1;reduce
 exact h.p
def Qi8(tMap tBd tMn:Nat):IFn:=by
 have h:=Ix.J [] Tryz.f19 [] [(75,tMap),(42,tBd),(102,tMn)];conv at h=>arg 1;reduce
 exact h.p
def Qoc(imp unit tU tBd tSy tIm:Nat):IFn:=by
 have h:=Ix.J [] Tryz.f20 [(34,imp),(17,unit)] [(77,tU),(42,tBd),(26,tSy),(104,tIm)];conv at h=>arg 1;reduce
 exact h.p
def Qh5(sortFn Qw2:Nat):IFn:=by
 have h:=Ix.J [] Tryz.f26 [(37,sortFn),(38,Qw2)] [];conv at h=>arg 1;reduce
 exact h.p
def Qcz(tRMap t3:Nat):IFn:=by
 have h:=Ix.J [8,5] Tryz.f22 [] [(53,tRMap),(3,t3)];conv at h=>arg 1;reduce
 exact h.p
def Qff(rimp rfind tR tBe tRy:Nat):IFn:=by
 have h:=Ix.J [] Tryz.f23 [(35,rimp),(12,rfind)] [(55,tR),(57,tBe),(34,tRy)];conv at h=>arg 1;reduce
 exact h.p
end
section
open Go.Proofs
def fstI{α:Type}(p:α->Bool):List α->Int->Int
 |[],_=>-1
 |x::r,i=>if p x then i else fstI p r (i+1)
def tkIn(a:Int)(t:Tk):Bool:=decide (t.k≠0/\(t.a:Int)<=a/\a<t.a+t.x.length)
def Qa9(a:Int)(t:Tk):Bool:=decide (t.k=1/\a=t.a+t.x.length)
def tkAt(L:List Tk)(a:Int):Int:=if fstI (tkIn a) L 0=-1 then fstI (Qa9 a) L 0 else fstI (tkIn a) L 0
theorem Has.ixTokAt{f tTk:Nat}(h:Has P f (Qi6 tTk))(L:List Tk)(z:Bool)(a:Int)(hl:L.length<=1099511627776)(hb:∀t∈L,(t.a:Int)+t.x.length<=1099511627776)(H:Hp):
 Qc P f [YL z 4 (L.map Qp),YI a] H (λr H'=>r=YI (tkAt L a)/\H'=H):=by
 refine Qe h (by simp[Qi6]) λhcl _=>?_;simp[Qi6];refine Qm 0 (λfr H'=>fr 0=YL z 4 (L.map Qp)/\fr 1=YI a/\fstI (tkIn a) L 0=-1/\H'=H) (λfr H'=>fr 4=YI (tkAt L a)/\∃X,H'=H++X) ?_ ?_ ?_
 .refine Wt H.length L.length (λj fr H'=>fr 0=YL z 4 (L.map Qp)/\fr 1=YI a/\fr 9=YL z 4 (L.map Qp)/\fstI (tkIn a) L 0=fstI (tkIn a) (L.drop j) j/\H'=H) (by omega) (by decide) (by simp) (by simp) ?_ ?_ ?_
  .simp[Qb hcl]
  .rintro j fr H' hj fi fn ⟨f0,f1,f9,hd,rfl⟩;obtain⟨t,ht⟩:∃t,L[j]?=some t:=⟨_,Q0x hj⟩;have hdr:L.drop j=t::L.drop (j+1):=by rw[Q1h hj];congr 1;rw[Q0x hj]at ht;cases ht;rfl
   rw[hdr]at hd;simp only[fstI]at hd;have hr:Zam.rowAt (L.map Qp) (j:Int)=some [.int .i64 t.k,.int .i64 (t.a:Int),.str t.l,.str t.x]:=by simp[Zam.rowAt,ht,Qp]
   have hbt:=hb t (Q1g ht);have hw:IntKind.i64.wrap ((t.a:Int)+t.x.length)=t.a+t.x.length:=wi64 (by omega);by_cases hp:tkIn a t=true
   .rw[if_pos hp]at hd;have hat:tkAt L a=j:=by unfold tkAt;rw[hd,if_neg (by omega)]
    unfold tkIn at hp;simp at hp;obtain⟨p1,p2,p3⟩:=hp;simp[fi,f9,hr,f1,p1,p2,p3,hw,hat]
   .rw[if_neg hp]at hd;have hnext:∀fr2:Fr,fr2 0=YL z 4 (L.map Qp)->fr2 1=YI a->fr2 9=YL z 4 (L.map Qp)->True:=λ_ _ _ _=>trivial;unfold tkIn at hp;by_cases p1:t.k=0
    .simp[fi,f9,hr,f1,p1];refine Wl H'.length (Q00 _) (by simp[fi,fn]) ?_;simp[f0,f1,f9,Qd hcl,hd]
    .by_cases p2:(t.a:Int)<=a
     .have p3:¬a<t.a+t.x.length:=λp3=>hp (by simp[p1,p2,p3]);simp[fi,f9,hr,f1,p1,p2,p3,hw];refine Wl H'.length (Q00 _) (by simp[fi,fn]) ?_;simp[f0,f1,f9,Qd hcl,hd]
     .simp[fi,f9,hr,f1,p1,p2];refine Wl H'.length (Q00 _) (by simp[fi,fn]) ?_;simp[f0,f1,f9,Qd hcl,hd]
  .rintro fr H' fi fn ⟨f0,f1,f9,hd,rfl⟩;rw[Q3x]at hd;simp[f0,f1];exact hd
 .rintro fr H' ⟨f4,X,rfl⟩;simp[f4];simp[RetK,Qd hcl]
 .rintro fr H' ⟨f0,f1,h1,rfl⟩;have hat:tkAt L a=fstI (Qa9 a) L 0:=by unfold tkAt;rw[if_pos h1]
  rw[hat];simp[f0];refine Qm 2 (λfr H2=>fstI (Qa9 a) L 0=-1/\H2=H') (λfr H2=>fr 4=YI (fstI (Qa9 a) L 0)/\∃X,H2=H'++X) ?_ ?_ ?_
  .refine Wt H'.length L.length (λj fr H2=>fr 1=YI a/\fr 37=YL z 4 (L.map Qp)/\fstI (Qa9 a) L 0=fstI (Qa9 a) (L.drop j) j/\H2=H') (by omega) (by decide) (by simp) (by simp) ?_ ?_ ?_
   .simp[f1,Qb hcl]
   .rintro j fr H2 hj fi fn ⟨f1,f37,hd,rfl⟩;obtain⟨t,ht⟩:∃t,L[j]?=some t:=⟨_,Q0x hj⟩;have hdr:L.drop j=t::L.drop (j+1):=by rw[Q1h hj];congr 1;rw[Q0x hj]at ht;cases ht;rfl
    rw[hdr]at hd;simp only[fstI]at hd;have hr:Zam.rowAt (L.map Qp) (j:Int)=some [.int .i64 t.k,.int .i64 (t.a:Int),.str t.l,.str t.x]:=by simp[Zam.rowAt,ht,Qp]
    have hbt:=hb t (Q1g ht);have hw:IntKind.i64.wrap ((t.a:Int)+t.x.length)=t.a+t.x.length:=wi64 (by omega);by_cases p1:t.k=1
    .by_cases p2:a=t.a+t.x.length
     .rw[if_pos (by unfold Qa9;simp[p1,p2])]at hd;rw[hd];simp[fi,f37,hr,f1,p1,hw];refine Qh (λh=>?_) (λh=>absurd p2 (by simpa using h));simp
     .rw[if_neg (by unfold Qa9;simp[p2])]at hd;simp[fi,f37,hr,f1,p1,hw,p2];refine Wl H2.length (Q00 _) (by simp[fi,fn]) ?_;simp[f1,f37,Qd hcl,hd]
    .rw[if_neg (by unfold Qa9;simp[p1])]at hd;simp[fi,f37,hr,f1,p1];refine Wl H2.length (Q00 _) (by simp[fi,fn]) ?_;simp[f1,f37,Qd hcl,hd]
   .rintro fr H2 fi fn ⟨f1,f37,hd,rfl⟩;rw[Q3x]at hd;simp;exact hd
  .rintro fr H2 ⟨f4,X,rfl⟩;simp[f4];simp[RetK,Qd hcl]
  .rintro fr H2 ⟨h2,rfl⟩;simp[h2];simp[RetK,Qb hcl,h2]
end
section
open Go.Proofs
def fdM(t:Int):List Mn->Int
 |[]=>-1
 |m::r=>if m.a=t then m.t else fdM t r
def bdAt(t:Int)(b:SBd):Bool:=decide (b.a=t)
def mapAt(S:SM)(t:Int):Int:=if fstI (bdAt t) S.bs 0=-1 then fdM t S.ms else fstI (bdAt t) S.bs 0
theorem Has.ixMapAt{f tMap tBd tMn:Nat}(h:Has P f (Qi8 tMap tBd tMn))(S:SM)(t:Int)(hl:S.sz<=1099511627776)(H:Hp):
 Qc P f [.agg (S.enc.map .d),YI t] H (λr H'=>r=YI (mapAt S t)/\H'=H):=by
 refine Qe h (by simp[Qi8]) λhcl _=>?_;unfold SM.sz at hl;simp[Qi8,SM.enc];generalize hbx:Ob.box tMap [A.d (.sl S.bs.isEmpty 4 (S.bs.map Qq)),A.d (.sl S.ms.isEmpty 4 (S.ms.map Wq)),A.d (.sl S.bad.isEmpty 2 (S.bad.map Q2))]=bx;refine Qm 0 (λfr H'=>fr 1=YI t/\fr 2=.ptr H.length 0/\fstI (bdAt t) S.bs 0=-1/\H'=H++[bx]) (λfr H'=>fr 4=YI (mapAt S t)/\∃X,H'=H++X) ?_ ?_ ?_
 .refine Wt (H.length+1) S.bs.length (λj fr H'=>fr 1=YI t/\fr 2=.ptr H.length 0/\fr 10=YL S.bs.isEmpty 4 (S.bs.map Qq)/\fstI (bdAt t) S.bs 0=fstI (bdAt t) (S.bs.drop j) j/\H'=H++[bx]) (by omega) (by decide) (by simp[<-hbx]) (by simp[<-hbx]) ?_ ?_ ?_
  .simp[Qk hcl,<-hbx]
  .rintro j fr H' hj fi fn ⟨f1,f2,f10,hd,rfl⟩;obtain⟨b,hb⟩:∃b,S.bs[j]?=some b:=⟨_,Q0x hj⟩;have hdr:S.bs.drop j=b::S.bs.drop (j+1):=by rw[Q1h hj];congr 1;rw[Q0x hj]at hb;cases hb;rfl
   rw[hdr]at hd;simp only[fstI]at hd;have hr:Zam.rowAt (S.bs.map Qq) (j:Int)=some [.int .i64 b.a,.int .i64 b.k,.str b.w,.int .i64 b.i]:=by simp[Zam.rowAt,hb,Qq]
   by_cases hp:b.a=t
   .rw[if_pos (by simpa[bdAt]using hp)]at hd;have hat:mapAt S t=j:=by unfold mapAt;rw[hd,if_neg (by omega)]
    simp[fi,f10,hr,f1,hp,hat]
   .rw[if_neg (by simpa[bdAt]using hp)]at hd;simp[fi,f10,hr,f1,hp];refine Wl (H.length+1) (Q00 _) (by simp[fi,fn]) ?_;simp[f1,f2,f10,Qk hcl,hd,<-hbx]
  .rintro fr H' fi fn ⟨f1,f2,f10,hd,rfl⟩;rw[Q3x]at hd;simp[f1,f2];exact hd
 .rintro fr H' ⟨f4,X,rfl⟩;simp[f4];simp[RetK,Qd hcl]
 .rintro fr H' ⟨f1,f2,h1,rfl⟩;have hat:mapAt S t=fdM t S.ms:=by unfold mapAt;rw[if_pos h1]
  rw[hat];simp[f2,<-hbx];refine Qm 2 (λfr H2=>fdM t S.ms=-1/\∃X,H2=H++X) (λfr H2=>fr 4=YI (fdM t S.ms)/\∃X,H2=H++X) ?_ ?_ ?_
  .refine Wt (H.length+1) S.ms.length (λj fr H2=>fr 1=YI t/\fr 24=YL S.ms.isEmpty 4 (S.ms.map Wq)/\fdM t S.ms=fdM t (S.ms.drop j)/\H2=H++[bx]) (by omega) (by decide) (by simp) (by simp) ?_ ?_ ?_
   .simp[f1,Qk hcl,<-hbx]
   .rintro j fr H2 hj fi fn ⟨f1,f24,hd,rfl⟩;obtain⟨m,hm⟩:∃m,S.ms[j]?=some m:=⟨_,Q0x hj⟩;have hdr:S.ms.drop j=m::S.ms.drop (j+1):=by rw[Q1h hj];congr 1;rw[Q0x hj]at hm;cases hm;rfl
    rw[hdr]at hd;simp only[fdM]at hd;have hr:Zam.rowAt (S.ms.map Wq) (j:Int)=some [.int .i64 m.a,.int .i64 m.t,.bool m.wr,.int .i64 m.far]:=by simp[Zam.rowAt,hm,Wq]
    by_cases hp:m.a=t
    .rw[if_pos hp]at hd;rw[hd];simp[fi,f24,hr,f1,hp]
    .rw[if_neg hp]at hd;simp[fi,f24,hr,f1,hp];refine Wl (H.length+1) (Q00 _) (by simp[fi,fn]) ?_;simp[f1,f24,Qk hcl,hd,<-hbx]
   .rintro fr H2 fi fn ⟨f1,f24,hd,rfl⟩;rw[Q3x]at hd;simp;exact hd
  .rintro fr H2 ⟨f4,X,rfl⟩;simp[f4];simp[RetK,Qd hcl]
  .rintro fr H2 ⟨h2,X,rfl⟩;simp[h2];simp[RetK,Qd hcl,h2]
end
section
open Go.Proofs
def ofSy(S:List Un)(u:Un)(b:SBd):Bs×Int:=
 if b.k=1 then(match Vd S (modN u b).w with
  |some v=>match v.sm.bs[(itU b.w v.sm.bs 0 (-1)).toNat]? with
   |some c=>if 0<=itU b.w v.sm.bs 0 (-1)then((modN u b).w,c.a)else(u.n,b.a)
   |none=>(u.n,b.a)
  |none=>(u.n,b.a))else(u.n,b.a)
theorem Has.ixOf{f imp unit tU tBd tSy tIm:Nat}{S:List Un}(h:Has P f (Qoc imp unit tU tBd tSy tIm))(u:Un)(hu:Qgx P S unit)(hi:Qzf P S u imp)(b:SBd)(hb:b∈u.sm.bs)(H:Hp):
 Qc P f [pA S,.agg (u.enc.map .d),.agg ((Qq b).map .d)] H (λr H'=>r=.agg [YS (ofSy S u b).1,YI (ofSy S u b).2]/\H'=H):=by
 refine Qe h (by simp[Qoc]) λhcl _=>?_;obtain⟨zu,ms,he⟩:=u.enc_all;have him:=λX=>hi b hb (H++X);rw[he]at him;simp only[Qq,Q1q,Q10]at him;by_cases hk:b.k=1
 .have hI1:(impU S u b).1=(modN u b).w:=by rw[impU,if_pos hk]
  have hI2:(impU S u b).2=(Vd S (modN u b).w).elim (-1) λv=>itU b.w v.sm.bs 0 (-1):=by rw[impU,if_pos hk]
  rw[hI1,hI2,hk]at him;have hun:=hu (modN u b).w;unfold ofSy;rw[if_pos hk];generalize modN u b=m at*;simp[Qoc,he,Qq,hk];refine Qa (him _) ?_;simp;refine Qa (hun _) ?_;cases hv:Vd S m.w with
  |none=>simp[zU];simp[RetK,Qd hcl]
  |some v=>
   obtain⟨zv,mv,hve⟩:=v.enc_all;simp only[hve,Q3v,Q3o];rcases Qhe (w:=b.w) (l:=v.sm.bs) (i:=0) (p:=-1)with h|⟨q,c,g1,g2,g3,g4⟩
   .have hres:(match v.sm.bs[(itU b.w v.sm.bs 0 (-1)).toNat]? with
     |some c=>if 0<=itU b.w v.sm.bs 0 (-1)then(m.w,c.a)else(u.n,b.a)
     |none=>(u.n,b.a))=(u.n,b.a):=by
     rw[h];cases v.sm.bs[(-1:Int).toNat]?<;>simp
    rw[hres];simp[h];simp[RetK,Qd hcl]
   .rw[Q4d]at g1;have hrc:Zam.rowAt (v.sm.bs.map Qq) (q:Int)=some [.int .i64 c.a,.int .i64 c.k,.str c.w,.int .i64 c.i]:=by simp[Zam.rowAt,g2,Qq]
    have hres:(match v.sm.bs[(itU b.w v.sm.bs 0 (-1)).toNat]? with
     |some c=>if 0<=itU b.w v.sm.bs 0 (-1)then(m.w,c.a)else(u.n,b.a)
     |none=>(u.n,b.a))=(m.w,c.a):=by
     rw[g1,Q2e,g2];simp
    rw[hres];simp[g1,hrc];simp[RetK,Qd hcl]
 .have hI:ofSy S u b=(u.n,b.a):=by rw[ofSy,if_neg hk]
  rw[hI];simp[Qoc,he,Qq,hk];simp[RetK,Qd hcl]
end
section
open Go.Proofs
def atSy(S:List Un)(m:Bs)(a:Int):Option (Bs×Int):=match Vd S m with
 |none=>none
 |some u=>if tkAt u.tk a<0 then none else if mapAt u.sm (tkAt u.tk a)<0 then none else(u.sm.bs[(mapAt u.sm (tkAt u.tk a)).toNat]?).map λb=>ofSy S u b
def Qtb(P:Program)(f:Nat):Prop:=∀(L:List Tk)(z:Bool)(a:Int),L.length<=1099511627776->(∀t∈L,(t.a:Int)+t.x.length<=1099511627776)->∀H,Qc P f [YL z 4 (L.map Qp),YI a] H (λr H'=>r=YI (tkAt L a)/\H'=H)
def Qti(P:Program)(f:Nat):Prop:=∀(S:SM)(t:Int),S.sz<=1099511627776->∀H,Qc P f [.agg (S.enc.map .d),YI t] H (λr H'=>r=YI (mapAt S t)/\H'=H)
def Qsk(P:Program)(S:List Un)(f:Nat):Prop:=∀u∈S,∀b∈u.sm.bs,∀H,Qc P f [pA S,.agg (u.enc.map .d),.agg ((Qq b).map .d)] H (λr H'=>r=.agg [YS (ofSy S u b).1,YI (ofSy S u b).2]/\H'=H)
theorem Un.enc_sm(u:Un):∃a b c d e f g h i k m,u.enc=[a,b,.sl true 4 (u.tk.map Qp),c,d,e,f,g,h,.sl u.sm.bs.isEmpty 4 (u.sm.bs.map Qq),.sl u.sm.ms.isEmpty 4 (u.sm.ms.map Wq),.sl u.sm.bad.isEmpty 2 (u.sm.bad.map Q2),i,k]/\m=0:=by obtain⟨n,t,tk,⟨k,f,to,w,a,z,ks⟩,sm,b,p⟩:=u;exact⟨_,_,_,_,_,_,_,_,_,_,0,by simp[Un.enc,N.enc_mk,SM.enc];exact⟨rfl,rfl,rfl,rfl,rfl,rfl,rfl,rfl,rfl,rfl⟩,rfl⟩
theorem Has.ixAt{f unit tokAt mapAt_ ixOf tSp tSy tU:Nat}{S:List Un}(h:Has P f (Qrs unit tokAt mapAt_ ixOf tSp tSy tU))(hu:Qgx P S unit)(hT:Qtb P tokAt)(hM:Qti P mapAt_)(hO:Qsk P S ixOf)(hs:∀u∈S,u.tk.length≤1099511627776∧(∀t∈u.tk,(t.a:Int)+t.x.length≤1099511627776)∧u.sm.sz≤1099511627776)(hmt:∀u∈S,∀t,mapAt u.sm t<u.sm.bs.length)(m:Bs)(a:Int)(H:Hp):
 Qc P f [pA S,.agg [YS m,YI a]] H (fun r H'=>r=.tup [.agg [YS ((atSy S m a).elim [] Prod.fst),YI ((atSy S m a).elim 0 Prod.snd)],YB (atSy S m a).isSome]∧H'=H):=by
 refine Qe h (by simp[Qrs]) fun hcl _=>?_;have hun:=fun X=>hu m (H++X);unfold atSy;simp[Qrs];cases hv:Vd S m with
 |none=>
  rw[hv]at hun;simp only[Option.elim_none,Option.isSome_none,zU,Q1q,Q10]at hun;refine Qa (hun _) ?_;simp;simp[RetK,Qd hcl]
 |some u=>
  have huS:=Qfq hv;obtain⟨s1,s2,s3⟩:=hs u huS;rw[hv]at hun;have ht:=fun X=>hT u.tk true a s1 s2 (H++X);have hmm:=fun X=>hM u.sm (tkAt u.tk a) s3 (H++X);have hlt:=hmt u huS (tkAt u.tk a);have hof:=fun b hb X=>hO u huS b hb (H++X);obtain⟨x1,x2,x3,x4,x5,x6,x7,x8,x9,x10,-,he,-⟩:=u.enc_sm;simp only[Q3v,Q3o]at hun;rw[he]at hun hof;simp only[Q1q,Q10,SM.enc,Qq]at hun hof hmm;refine Qa (hun _) ?_;simp;refine Qa (ht _) ?_;by_cases h1:tkAt u.tk a<0
  .simp[h1];simp[RetK,Qd hcl,h1]
  .simp[h1];refine Qa (hmm _) ?_;by_cases h2:mapAt u.sm (tkAt u.tk a)<0
   .simp[h2];simp[RetK,Qd hcl,h1,h2]
   .obtain⟨q,hq⟩:∃q:Nat,mapAt u.sm (tkAt u.tk a)=q:=⟨(mapAt u.sm (tkAt u.tk a)).toNat,by omega⟩;rw[hq]at hlt h2⊢;obtain⟨b,hb⟩:∃b,u.sm.bs[q]?=some b:=⟨_,Q0x (by omega)⟩;have hrb:Zam.rowAt (u.sm.bs.map Qq) (q:Int)=some [.int .i64 b.a,.int .i64 b.k,.str b.w,.int .i64 b.i]:=by simp[Zam.rowAt,hb,Qq]
    have hof:=hof b (Q1g hb);simp[h2,hrb,hb];refine W5 (hof _) ?_;simp;simp[RetK,Qd hcl,h1,hb]
end
section
open Go.Proofs
end
end Go.Zam
