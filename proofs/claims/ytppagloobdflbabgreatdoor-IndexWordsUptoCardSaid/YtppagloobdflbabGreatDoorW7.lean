import Derived.Test.YtppagloobdflbabGreatDoorW6
import Derived.Test.YtppagloobdflbabGreatDoorW5
import Derived.Test.YtppagloobdflbabGreatDoorW3
import Derived.RangeFuncNested
import Derived.RangeFuncBox
import Derived.RangeFuncLeaves
import Derived.Shelf.Abstract
import Derived.WalkKit
import Derived.OwnWalkIn
import Derived.TacticsInMore
import Derived.LoopNIn
import Derived.LoopIn
import Derived.Test.YtppagloobdflbabGreatDoorProg
import Derived.BigCall
import Derived.BigGuard
import Derived.Laws.Closers25
import Derived.Laws.Closers25b
import Derived.Laws.Strings3
import Derived.Lib.AtoiErrMem
import Derived.Lib.ConvBytes
import Derived.Lib.Hide
import Derived.Lib.ParseIntBMem
import Derived.Lib.Strings
import Derived.Lib.Walk
import Derived.Shelf.Pu.Lays
import Derived.Shelf.Pu.Lower
import Derived.Shelf.Pu.ParseUint10
import Derived.Shelf.Pu.ParseUint10At
import Derived.Shelf.Pu.ParseUint10b16
import Derived.Shelf.Pu.ParseUint10b32
import Derived.Shelf.Pu.ParseUint10b64
import Derived.Shelf.Pu.ParseUint10b8
import Derived.Shelf.Pu.ParseUintEmpty
import Derived.Shelf.Pu.ToError
import Derived.Shelf.Pu.ToErrorRange
import Derived.Test.YtppagloobdflbabGreatDoorW4
import Derived.KernelRfl
import Derived.Test.YtppagloobdflbabGreatDoorW2
set_option linter.all false
set_option maxRecDepth 100000
set_option maxHeartbeats 4000000
namespace Go.Zam
variable{P:Program}
section
open Go.Proofs
def noU:Un:=⟨[],[],[],N.none,⟨[],[],[]⟩,0,0⟩
def Qy2:noU.enc=zU:=rfl
def Qmb{w:Bs}:∀{l:List SBd} {i p:Int},itU w l i p=p\/∃(j:Nat)(b:SBd),itU w l i p=i+j/\l[j]?=some b/\b.k=2/\b.w=w
 |[],i,p=>.inl rfl
 |b::r,i,p=>by
  unfold itU;split
  .rename_i e;rcases Qmb (w:=w) (l:=r) (i:=i+1) (p:=i)with h|⟨j,c,h1,h2,h3⟩
   .exact .inr ⟨0,b,by simp[h],rfl,e⟩
   .exact .inr ⟨j+1,c,by omega,by simpa using h2,h3⟩
  .rcases Qmb (w:=w) (l:=r) (i:=i+1) (p:=p)with h|⟨j,c,h1,h2,h3⟩
   .exact .inl h
   .exact .inr ⟨j+1,c,by omega,by simpa using h2,h3⟩
def Qi4{S:List Un}{s:Bs}{v:Un}(hv:Vo S s=some v):v∈S:=by
 unfold Vo at hv;split at hv
 .rename_i v' hv';split at hv
  .cases hv;exact Q2p hv'
  .cases hv
 .cases hv
end
section
open Go.Proofs
def Qx6(u:Un):Prop:=u.sm.bad.length<=1073741824/\u.sm.bs.length<=1073741824/\u.tk.length<=1073741824/\u.tr.ks.length<=1073741824
def Qrn{H X:Hp}{R:List (List D)}{n b sz e:Nat}(new:List (List D))(hn:R.length=n)(hb:(n+new.length)*b<=140737488355328):
 appA (H++(.tok n sz e::X)) sz b e new (.osl true sz R H.length)=some (.osl true sz (R++new) H.length,H++(.tok (n+new.length) sz e::X)):=by
 subst hn;rw[Qiy (H:=H++(.tok R.length sz e::X)) (t:=H.length) (by simp) hb];simp
end
section
open Go.Proofs
end
section
open Go.Proofs
end
section
open Go.Proofs
def Qgv{s:Bs}:∀{S:List Un},Sorted cU S->Vo S s=S.find? λu=>decide (u.n=s)
 |[],_=>rfl
 |u::r,h=>by
  have hr:Sorted cU r:=((Sorted.append (c:=cU) (a:=[u]) (b:=r)).1 (by simpa using h)).2.1;have hu:∀v∈r,cU u v<=0:=λv hv=>((Sorted.append (c:=cU) (a:=[u]) (b:=r)).1 (by simpa using h)).2.2 u (by simp) v hv;by_cases h1:Q7 u.n s<0
  .have hne:¬u.n=s:=λe=>by have:=Vt.2 e;omega
   have hl:lbU (u::r) s=lbU r s+1:=by unfold lbU;rw[Q6k,if_pos (by simpa using h1),Q2i]
   rw[Q4x (by simpa using hne),<-Qgv hr];unfold Vo;rw[hl,Q4u]
  .have hl:lbU (u::r) s=0:=by unfold lbU;rw[Q6k,if_neg (by simpa using h1),Q3b]
   unfold Vo;rw[hl,Q45];by_cases h2:u.n=s
   .rw[Q47 (by simpa using h2)];simp[Vt.2 h2]
   .have h3:¬Q7 u.n s=0:=λe=>h2 (Vt.1 e);rw[Q4x (by simpa using h2)];have h4:r.find? (λu=>decide (u.n=s))=none:=by
     rw[List.find?_eq_none];intro v hv e;have e:v.n=s:=by simpa using e
     have:=hu v hv;unfold cU at this;rw[e]at this;omega
    rw[h4];simp[h3]
def Qqu{s:Bs}:∀(S:List Un)(i:Int),(S.find? (λu=>decide (u.n=s))=none->fdU s S i=-1)/\∀u,S.find? (λu=>decide (u.n=s))=some u->∃j:Nat,fdU s S i=i+j/\S[j]?=some u
 |[],i=>⟨λ_=>rfl,λu h=>by simp at h⟩
 |u::r,i=>by
  obtain⟨h1,h2⟩:=Qqu (s:=s) r (i+1);by_cases h:u.n=s
  .refine⟨λe=>?_,λv e=>?_⟩
   .rw[Q47 (by simpa using h)]at e;cases e
   .rw[Q47 (by simpa using h)]at e;cases e;exact⟨0,by simp[fdU,h],rfl⟩
  .refine⟨λe=>?_,λv e=>?_⟩
   .rw[Q4x (by simpa using h)]at e;rw[fdU,if_neg h];exact h1 e
   .rw[Q4x (by simpa using h)]at e;obtain⟨j,g1,g2⟩:=h2 v e;exact⟨j+1,by rw[fdU,if_neg h,g1];omega,by simpa using g2⟩
section
variable{S:List Un}(hS:Sorted cU S)
include hS
theorem Qzc(s:Bs):(Vo S s=none/\fdU s S 0=-1)\/∃(j:Nat)(u:Un),Vo S s=some u/\fdU s S 0=j/\S[j]?=some u:=by
 rw[Qgv hS];obtain⟨h1,h2⟩:=Qqu (s:=s) S 0;cases h:S.find? (λu=>decide (u.n=s))with
 |none=>exact .inl ⟨rfl,h1 h⟩
 |some u=>obtain⟨j,g1,g2⟩:=h2 u h;exact .inr ⟨j,u,rfl,by omega,g2⟩
theorem Qus(i j:Nat)(u v:Un)(s:Bs)(hij:i<=j)(hu:S[i]?=some u)(hv:S[j]?=some v)(h:Q7 v.n s<0):Q7 u.n s<0:=by have h2:cU u v<=0:=Yx V8 hS hu hv hij;exact Qa7.le_lt h2 h
end
end
section
open Go.Proofs
def Qls(n:N):(V2 n).sz<=4*n.size:=by
 obtain⟨k,f,t,w,a,z,ks⟩:=n;have hall:allP (.mk k f t w a z ks)=Zr (W5 0 ks [] ⟨[],[],[]⟩).1 0 ks (W5 0 ks [] ⟨[],[],[]⟩).2:=rfl;have h1:=(Qb1 ks 0 [] ⟨[],[],[]⟩ (FOk.nil _)).sz;have h2:=(Qdy (W5 0 ks [] ⟨[],[],[]⟩).1 ks 0 (W5 0 ks [] ⟨[],[],[]⟩).2).2;have h3:SM.sz ⟨[],[],[]⟩=0:=rfl;have hsl:=N.sizes_len ks;rw[N.size_mk];have:(V2 (.mk k f t w a z ks)).sz=(allP (.mk k f t w a z ks)).sz:=by unfold V2 SM.sz;simp only[Ww Z4]
 rw[this,hall];omega
def Qp1(m:Mod):Qx6 (Wk m):=by
 have hz:=Qbi m.t;have hks:(Wk m).tr.ks.length<=16001:=by show(Qx m.t).2.1.ks.length<=16001;have h1:=N.sizes_len (Qx m.t).2.1.ks;have h2:=N.size_ks (Qx m.t).2.1;omega
 by_cases h0:(Qx m.t).2.2.1=0
 .obtain⟨n,j,h1,h2,h3,h4,h5,hI,hj,h6⟩:=Qbj h0;have hsm:(Wk m).sm=V2 n:=by show(if _ then _ else _)=_;rw[if_pos h0,h2]
  have htk:(Wk m).tk=(lexS m.t).1:=h1;have hs:=Qls n;rw[h2]at hz;unfold SM.sz at hs;have h4000:(lexS m.t).1.length<=4000:=((Qhv m.t).2 h5).2;refine⟨by rw[hsm];omega,by rw[hsm];omega,by rw[htk];omega,by omega⟩
 .have hsm:(Wk m).sm=⟨[],[],[]⟩:=by show(if _ then _ else _)=_;rw[if_neg h0]
  have htk:(Wk m).tk=[]:=by
   show(Qx m.t).1=[];unfold Qx at h0⊢;split
   .rfl
   .rename_i g1;split
    .rfl
    .rename_i g2;rw[if_neg g1,if_neg g2]at h0;exact absurd rfl h0
  refine⟨by rw[hsm];simp,by rw[hsm];simp,by rw[htk];simp,by omega⟩
structure PrjOk(S:List Un):Prop where
 so:Sorted cU S
 len:S.length<=8
 gd:∀u∈S,GdU u
 sm:∀u∈S,Qx6 u
def Q03(l:List Mod):PrjOk (ofU (l.map Wk)).1:=by
 unfold ofU;split
 .exact⟨List.Pairwise.nil,by simp,by simp,by simp⟩
 .rename_i h8;split
  .obtain⟨h1,h2⟩:=Wi V8 (l.map Wk);have hl:=Ww V8 (l.map Wk);have hl8:(ssort cU (l.map Wk)).length<=8:=by omega
   refine⟨h1,hl8,λu hu=>?_,λu hu=>?_⟩
   .have:=(h2.mem V8).2 hu;obtain⟨m,-,rfl⟩:=Q3c.1 this;exact Qws m
   .have:=(h2.mem V8).2 hu;obtain⟨m,-,rfl⟩:=Q3c.1 this;exact Qp1 m
  .exact⟨List.Pairwise.nil,by simp,by simp,by simp⟩
end
section
open Go.Proofs
section
variable{P:Program}{H0:Hp}
def Qs9(P:Program)(H0:Hp)(f:Nat):Prop:=∀(l:List Mod)(z:Bool),(∀m∈l,m.t.length<=1048576)->∀H,Pre0 H0 H->Qc P f [YL z 2 (l.map encM)] H (λr H'=>r=ofA (l.map Wk)/\H'=H)
def Qt7(P:Program)(H0:Hp)(f:Nat):Prop:=∀(l:List Mod)(z:Bool),(∀m∈l,m.t.length<=1048576)->∀H,Pre0 H0 H->Qc P f [YL z 2 (l.map encM)] H (λr H'=>r=ofR (l.map Wk)/\H'=H)
def Qzo(P:Program)(f:Nat):Prop:=∀S,PrjOk S->Qep P S f
def Qyf(P:Program)(H0:Hp)(f:Nat):Prop:=∀H,Pre0 H0 H->Qc P f [] H (λr H'=>r=YB true/\H'=H)
end
end
section
open Go.Proofs
def Qhe:∀{S:List Un} {p:Option Bs},Sorted cU S->chkU p S=0->(S.Pairwise λu v=>cU u v<0)/\(∀u∈S,Yz u.n=true)/\∀u,S.head?=some u->p≠some u.n
 |[],p,_,_=>⟨.nil,by simp,by simp⟩
 |u::r,p,h,hc=>by
  have hr:Sorted cU r:=(Q4b.1 h).2;have hu:∀v∈r,cU u v<=0:=(Q4b.1 h).1;unfold chkU at hc;split at hc
  .simp at hc
  .rename_i h1;split at hc
   .simp at hc
   .rename_i h2;obtain⟨g1,g2,g3⟩:=Qhe hr hc;refine⟨Q4b.2 ⟨λv hv=>?_,g1⟩,λv hv=>?_,λv hv=>?_⟩
    .cases r with
     |nil=>simp at hv
     |cons w r=>
      have h3:u.n≠w.n:=λe=>g3 w rfl (by rw[e]);have h4:cU u w<0:=by have:=hu w (by simp);have h5:cU u w≠0:=λe=>h3 (Vt.1 e);omega
      rcases Q2v.1 hv with rfl|hv
      .exact h4
      .have:=(Q4b.1 g1).1 v hv;exact V8.lt_le h4 (by omega)
    .rcases Q2v.1 hv with rfl|hv
     .simpa using h1
     .exact g2 v hv
    .simp at hv;subst hv;exact h2
def Quk{S:List Un}(hS:Sorted cU S)(hc:chkU none S=0){i:Nat}{u:Un}(hu:S[i]?=some u):Vo S u.n=some u:=by
 rw[Qgv hS];have h:=(Qhe hS hc).1;clear hc hS;induction S generalizing i with
 |nil=>simp at hu
 |cons v r ih=>
  cases i with
  |zero=>simp at hu;subst hu;rw[Q47 (by simp)]
  |succ i=>
   simp at hu;have h1:=(Q4b.1 h).1 u (Q2p hu);have h2:¬v.n=u.n:=λe=>by have:cU v u=0:=Vt.2 e;omega
   rw[Q4x (by simpa using h2)];exact ih hu (Q4b.1 h).2
def Qw6{l:List Un}(h:(ofU l).2=0):Sorted cU (ofU l).1/\chkU none (ofU l).1=0:=by
 unfold ofU at h⊢;split at h
 .simp at h
 .rename_i h8;rw[if_neg h8];simp only at h⊢;rw[if_pos h];exact⟨(Wi V8 l).1,h⟩
end
section
open Go.Proofs
def Un.both(u:Un):∃z ms1 ms2,
 u.enc=[.str u.n,.str u.t,.sl true 4 (u.tk.map Qp),.int .i64 u.tr.k,.int .i64 u.tr.f,.int .i64 u.tr.t,.str u.tr.w,.int .i64 u.tr.at_,.sl z 6 (u.tr.ks.map N.enc),.sl u.sm.bs.isEmpty 4 (u.sm.bs.map Qw),ms1,.sl u.sm.bad.isEmpty 2 (u.sm.bad.map Q2),.int .i64 u.bad,.int .i64 u.pos]/\
 u.encR=[.str u.n,.str u.t,.sl true 4 (u.tk.map Qp),.int .i64 u.tr.k,.int .i64 u.tr.f,.int .i64 u.tr.t,.str u.tr.w,.int .i64 u.tr.at_,.sl z 6 (u.tr.ks.map N.enc),.sl true 4 (u.sm.bs.map Qw),ms2,.sl true 2 (u.sm.bad.map Q2),.int .i64 u.bad,.int .i64 u.pos]/\
 u.tr.v=.agg [YI u.tr.k,YI u.tr.f,YI u.tr.t,YS u.tr.w,YI u.tr.at_,YL z 6 (u.tr.ks.map N.enc)]:=by
 obtain⟨n,t,tk,⟨k,f,to,w,a,z,ks⟩,sm,b,p⟩:=u;refine⟨z,.sl sm.ms.isEmpty 4 (sm.ms.map Ya),.sl true 4 (sm.ms.map Ya),?_,?_,?_⟩
 .simp[Un.enc,N.enc_mk,SM.enc,N.k,N.f,N.t,N.w,N.at_,N.ks]
 .simp[Un.encR,N.enc_mk,SM.encR,N.k,N.f,N.t,N.w,N.at_,N.ks]
 .rw[N.v_mk];rfl
section
variable{P:Program}{H0:Hp}
def Qud(P:Program)(f:Nat):Prop:=∀(l:List Mod)(z:Bool)(most:Int),0<=most/\most<=1048576->l.length<=1048576->(∀m∈l,m.n.length<=1048576/\m.t.length<=1048576)->∀H,Qc P f [YL z 2 (l.map encM),YI most] H (λr H'=>r=YB (light l most)/\H'=H)
def Qzs(P:Program)(f:Nat):Prop:=∀(S:List Un),S.length<=1048576->∀H,Qc P f [pA S] H (λr H'=>r=YL true 1 (S.map λu=>[.str u.n])/\H'=H)
end
end
section
open Go.Proofs
section
variable{P:Program}{H0:Hp}
def Qzt(P:Program)(f:Nat):Prop:=∀S,PrjOk S->∀u∈S,Q0d P S u f
end
end
section
open Go.Proofs
end
section
open Go.Proofs
section
variable{P:Program}{H0:Hp}
end
end
section
open Go.Proofs
section
variable{P:Program}{H0:Hp}
def OfOk(P:Program)(f:Nat):Prop:=∀(l:List Un)(z:Bool),l.length<=1048576->(l=[]->z=true)->∀H,Qc P f [YL z 14 (l.map Un.enc)] H (λr H'=>r=ofA l/\H'=H)
end
end
section
open Go.Proofs
section
variable{L:List Un}{a:Un}
end
end
section
open Go.Proofs
section
variable{A B:List Un}{a:Un}(h1:Sorted cU (A++B))(h2:Sorted cU (A++a::B))
include h1 h2
end
end
section
open Go.Proofs
section
variable{P:Program}{H0:Hp}
end
end
section
open Go.RowKit (Below)
open Go.Proofs
def Qmc{w:Bs}:∀{l:List SBd} {i p:Int},(∀c∈l,¬(c.k=2/\c.w=w))->itU w l i p=p
 |[],i,p,_=>rfl
 |b::r,i,p,h=>by unfold itU;rw[if_neg (h b (by simp))];exact Qmc λc hc=>h c (by simp[hc])
def Qqj{w:Bs}{b:SBd}:∀{l:List SBd} {i p:Int} {q:Nat},l[q]?=some b->b.k=2/\b.w=w->(∀(j:Nat)(c:SBd),q<j->l[j]?=some c->¬(c.k=2/\c.w=w))->itU w l i p=i+q
 |[],i,p,q,h,_,_=>by simp at h
 |x::r,i,p,0,h,hm,hj=>by
  simp at h;subst h;unfold itU;rw[if_pos hm,Qmc λc hc=>by obtain⟨j,hj'⟩:=Q4r hc;exact hj (j+1) c (by omega) (by simpa using hj')];simp
 |x::r,i,p,q+1,h,hm,hj=>by unfold itU;rw[Qqj (q:=q) (by simpa using h) hm λj c h1 h2=>hj (j+1) c (by omega) (by simpa using h2)];omega
def BdSl(w:World)(sv:Value)(bs:List SBd):Prop:=
 (∃a cap,sv=.slice a 0 cap/\bs=[])\/∃b off cap,sv=.slice (some ⟨b,off,none⟩) bs.length cap/\b<w.heap.size/\∀(j:Nat)(x:SBd),bs[j]?=some x->
  w.cell? ⟨b,off+j*4,none⟩=some (.int .i64 x.a)/\w.cell? ⟨b,off+j*4+1,none⟩=some (.int .i64 x.k)/\w.cell? ⟨b,off+j*4+2,none⟩=some (.string ⟨x.w.toArray⟩)/\w.cell? ⟨b,off+j*4+3,none⟩=some (.int .i64 x.i)
def Qvf{P:Program}{f:FuncId}(h:∀(w:World) (cs:List Value) (sv:Value) (word:List UInt8) (bs:List SBd),cs.length=14->cs[9]?=some sv->BdSl w sv bs->bs.length<=1099511627776->
 Calls P f #[.agg cs.toArray,.string ⟨word.toArray⟩] w λe w'=>e=.returned (.int .i64 (itU word bs 0 (-1)))/\Below w.heap.size w w'):Qtc P f:=by
 intro u word hl H κ w vs hr hlen hv;match vs,hlen with
 |[v1,v2],_=>
 have h1:=hv 0 v1 _ rfl rfl;have h2:=(hv 1 v2 _ rfl rfl).d_inv.str_inv;subst h2;obtain⟨z,ms,he⟩:=u.enc_all;cases h1 with
 |agg cs _ O hcs=>
  have hc14:cs.length=14:=by rw[O,Q2y,u.enc_len]
  obtain⟨sv,hsv⟩:∃sv,cs[9]?=some sv:=⟨_,Q12 (by omega)⟩;have hd:DR κ.σ sv (.sl u.sm.bs.isEmpty 4 (u.sm.bs.map Qw)):=(hcs 9 sv _ hsv (by rw[he];rfl)).d_inv;refine(h w cs sv word u.sm.bs hc14 hsv ?_ hl).mono ?_
  .rcases hd.sl_inv with⟨rfl,-,hx⟩|⟨a,cap,rfl,-,hx⟩|⟨b,o,cap,f,rfl,-,hcap,-,hc,hdd⟩
   .exact .inl ⟨_,_,rfl,by simpa using hx⟩
   .exact .inl ⟨_,_,rfl,by simpa using hx⟩
   .by_cases e:u.sm.bs=[]
    .rw[e];exact .inl ⟨_,_,rfl,rfl⟩
    have hcell:∀(j:Nat)(x:SBd),u.sm.bs[j]?=some x->∀(q:Nat)(y:D),(Qw x)[q]?=some y->∃v,w.cell? ⟨b,o+j*4+q,none⟩=some v/\DR κ.σ v y:=λj x hj q y hy=>by
     have hr':(u.sm.bs.map Qw)[j]?=some (Qw x):=by simp[hj]
     exact⟨_,hr.st _ _ _ (hc j q _ _ hr' hy),hdd j q _ _ hr' hy⟩
    refine .inr ⟨b,o,cap,by simp,?_,λj x hj=>⟨?_,?_,?_,?_⟩⟩
    .obtain⟨x,hx⟩:∃x,u.sm.bs[0]?=some x:=by
      cases hb:u.sm.bs with
      |nil=>exact absurd hb e
      |cons x r=>exact⟨x,rfl⟩
     obtain⟨v,hv,-⟩:=hcell 0 x hx 0 _ rfl;exact Q4t w ⟨b,_,.none⟩ hv
    .obtain⟨v,hv,hd⟩:=hcell j x hj 0 _ rfl;rw[hd.int_inv]at hv;exact hv
    .obtain⟨v,hv,hd⟩:=hcell j x hj 1 _ rfl;rw[hd.int_inv]at hv;exact hv
    .obtain⟨v,hv,hd⟩:=hcell j x hj 2 _ rfl;rw[hd.str_inv]at hv;exact hv
    .obtain⟨v,hv,hd⟩:=hcell j x hj 3 _ rfl;rw[hd.int_inv]at hv;exact hv
  .rintro e w' ⟨rfl,hb⟩;exact⟨_,κ,_,H,rfl,K.le_refl κ,hr.later hb,.d (.int _ _),rfl,rfl⟩
end
end Go.Zam
namespace Go.Proofs
open Go.Shelf
namespace Zw
open Go Go.Zam Go.Proofs Go.RowKit Go.Shelf
attribute [local go_sem] Oper.semAt_some
def bdV(b:SBd):Value:=.agg #[.int .i64 b.a,.int .i64 b.k,.string ⟨b.w.toArray⟩,.int .i64 b.i]
def Qcy(bs:List SBd)(j:Nat):Int×SBd:=((bs.length:Int)-1-j,bs[bs.length-1-j]?.getD default)
def Qck(bs:List SBd)(k:Nat):List (Int×SBd):=(List.range k).map (Qcy bs)
def Qhd(bs:List SBd)(k:Nat):Qck bs (k+1)=Qck bs k++[Qcy bs k]:=by simp[Qck,Q5t]
def Qo8(bs:List SBd)(k:Nat):(Qck bs k).length=k:=by simp[Qck]
set_option maxRecDepth 100000 in
set_option maxHeartbeats 2000000 in
theorem Qx1(F:Fence)(n:Nat)(hf:F.fn 154)(hro:F.round=none)(hn:1<=n)(l Bs n₀ b off cap:Nat)(bs:List SBd)(hreach:bs.length<=1099511627776)(hb:b<n₀)(hBs0:Bs<n₀)(J Jx:List (Int×SBd)->World->Prop)(hY:∀pre x W,J pre W->pre.length<bs.length->YieldAt F (n-1) Tryz.prog l #[.int .i64 x.1,bdV x.2] W λe W'=>(e=.returned (.bool true)/\J (pre++[x]) W'/\Below n₀ W W')\/(e=.returned (.bool false)/\Jx (pre++[x]) W'))(W:World)(hBs:W.cell? ⟨Bs,0,none⟩=some (.slice (some ⟨b,off,none⟩) bs.length cap))(hc:∀(j:Nat) (x:SBd),bs[j]?=some x->W.cell? ⟨b,off+j*4,none⟩=some (.int .i64 x.a)/\W.cell? ⟨b,off+j*4+1,none⟩=some (.int .i64 x.k)/\W.cell? ⟨b,off+j*4+2,none⟩=some (.string ⟨x.w.toArray⟩)/\W.cell? ⟨b,off+j*4+3,none⟩=some (.int .i64 x.i))(h0:J [] W):
 CallsIn F n Tryz.prog 154 #[.func (.yield l) #[] #[],.pointer (some ⟨Bs,0,none⟩)] W λe W'=>(∃v,e=.returned v)/\
  ((∃ys,ys=Qck bs bs.length/\J ys W')\/(∃pre,(∃k,k<=bs.length/\pre=Qck bs k)/\Jx pre W')):=by
 have hw0:wrap64 ((bs.length:Int)-1)=(bs.length:Int)-1:=by unfold wrap64;omega
 refine callsIn_of_wp Tryz.func154 rfl hf ?_ hro;simp only[Tryz.ntmps154,Q3s,Q2i,Q3b,Nat.reduceAdd,Nat.reduceSub,Q5p,Q5o,Q52,Q5u,Q2u,Q2m]
 gi_wp2
 gi_loopw [3] (λi wr=>∃k:Nat,k<=bs.length/\i=.int .i64 ((bs.length:Int)-1-k)/\J (Qck bs k) wr/\Below n₀ W wr)
  (λi _=>((intOf i)+1).toNat)
 case atStart=>exact⟨0,Q49 _,by simp[hw0],h0,Below.refl _ _⟩
 case round=>
  obtain⟨k,hk,rfl,hJs,hnx⟩:=hrel;have hBx:wr.cell? ⟨Bs,0,none⟩=some (.slice (some ⟨b,off,none⟩) bs.length cap):=(hnx.cell (p:=⟨Bs,0,none⟩) hBs0).trans hBs;by_cases hlt:k<bs.length
  .obtain⟨p,hp⟩:∃p:Nat,k+1+p=bs.length:=⟨bs.length-k-1,by omega⟩;have hpl:p<bs.length:=by omega
   obtain⟨x,hx⟩:∃x,bs[p]?=some x:=⟨_,Q12 hpl⟩;have hfr:Qcy bs k=((p:Int),x):=by unfold Qcy;rw[show bs.length-1-k=p by omega,hx];simp;omega
   obtain⟨c0,c1,c2,c3⟩:=hc p x hx;have d0:=(hnx.cell (p:=⟨b,off+p*4,none⟩) hb).trans c0;have d1:=(hnx.cell (p:=⟨b,off+p*4+1,none⟩) hb).trans c1;have d2:=(hnx.cell (p:=⟨b,off+p*4+2,none⟩) hb).trans c2;have d3:=(hnx.cell (p:=⟨b,off+p*4+3,none⟩) hb).trans c3;have hi:((bs.length:Int)-1-k)=(p:Int):=by omega
   rw[hi];clear hi;have hwp:wrap64 ((p:Int)-1)=(p:Int)-1:=by unfold wrap64;omega
   obtain⟨fn,tmps,assign,body,hy,hR⟩:=hY _ ((p:Int),x) wr hJs (by rw[Qo8];exact hlt);dsimp only[bdV]at hy
   gi_wp2
   refine hR.mono ?_;rintro e W3 (⟨rfl,hJ3,hk3⟩|⟨rfl,hJx3⟩)
   .gi_wp2
    go_roundw
    case rel=>exact⟨k+1,by omega,by simp;omega,by rw[Qhd,hfr];exact hJ3,hnx.trans hk3⟩
    case measure=>simp[intOf];try omega
   .gi_wp2
    refine bodyPost_ret (results_none rfl _ _ _) rfl ?_;exact⟨⟨_,rfl⟩,.inr ⟨_,⟨k+1,by omega,by rw[Qhd,hfr]⟩,hJx3⟩⟩
  .obtain rfl:k=bs.length:=by omega
   have hi:((bs.length:Int)-1-(bs.length:Nat))=-1:=by omega
   rw[hi]
   gi_wp2
   go_end0
   exact⟨⟨_,rfl⟩,.inl ⟨_,rfl,hJs⟩⟩
set_option maxRecDepth 100000 in
set_option maxHeartbeats 1000000 in
theorem Qpd(F:Fence)(n:Nat)(hf:F.fn 154)(hro:F.round=none)(l Bs:Nat)(J:List (Int×SBd)->World->Prop)(W:World)(a:Option Addr)(cap:Nat)(hBs:W.cell? ⟨Bs,0,none⟩=some (.slice a 0 cap))(h0:J [] W):
 CallsIn F n Tryz.prog 154 #[.func (.yield l) #[] #[],.pointer (some ⟨Bs,0,none⟩)] W λe W'=>(∃v,e=.returned v)/\J [] W':=by
 refine callsIn_of_wp Tryz.func154 rfl hf ?_ hro;simp only[Tryz.ntmps154,Q3s,Q2i,Q3b,Nat.reduceAdd,Nat.reduceSub,Q5p,Q5o,Q52,Q5u,Q2u,Q2m]
 gi_wp2
 gi_loopw [3] (λi wr=>i=.int .i64 (-1)/\J [] wr) (λ_ _=>0)
 case atStart=>exact⟨by first|rfl|decide|simp,h0⟩
 case round=>
  obtain⟨rfl,hJs⟩:=hrel
  gi_wp2
  go_end0
  exact⟨⟨_,rfl⟩,hJs⟩
set_option maxHeartbeats 1000000 in
theorem Qrl(F:Fence)(n:Nat)(hf:F.fn 107)(hro:F.round=none)(a:Option Addr)(len cap:Nat)(w:World):
 CallsIn F n Tryz.prog 107 #[.slice a len cap] w λe w'=>e=.returned (.func (.func 154) #[] #[.pointer (some ⟨w.heap.size,0,none⟩)])/\w'=w.alloc (.cells #[.slice a len cap] 70):=by
 refine callsIn_of_wp Tryz.func107 rfl hf ?_ hro;simp only[Tryz.ntmps107,Q3s,Q2i,Q3b,Nat.reduceAdd,Nat.reduceSub,Q5p,Q5o,Q52,Q5u,Q2u,Q2m];gi_wp2;go_ret;exact⟨rfl,rfl⟩
def Qzk{n₀:Nat}{A B:World}(h:Below n₀ A B)(hn:A.heap.size<=n₀){sv:Value}{bs:List SBd}:BdSl A sv bs->BdSl B sv bs
 |.inl e=>.inl e
 |.inr ⟨b,off,cap,e,hb,hc⟩=>.inr ⟨b,off,cap,e,Q6l hb h.size,λj x hj=>by obtain⟨c0,c1,c2,c3⟩:=hc j x hj;have hb':b<n₀:=Q6l hb hn;exact⟨(h.cell (p:=⟨b,off+j*4,none⟩) hb').trans c0,(h.cell (p:=⟨b,off+j*4+1,none⟩) hb').trans c1,(h.cell (p:=⟨b,off+j*4+2,none⟩) hb').trans c2,(h.cell (p:=⟨b,off+j*4+3,none⟩) hb').trans c3⟩⟩
def Qs3(F:Fence)(n:Nat)(hf:F.fn 154)(hro:F.round=none)(hn:1<=n)(Bs n₀:Nat)(sv:Value)(bs:List SBd)(hreach:bs.length<=1099511627776)(w:World)(hBs:Bs<n₀)(hn₀:n₀=w.heap.size)(hc:w.cell? ⟨Bs,0,none⟩=some sv)(hI:BdSl w sv bs):
 SeqStopsK F n Tryz.prog 154 #[.pointer (some ⟨Bs,0,none⟩)] (λx:Int×SBd=>#[Value.int .i64 x.1,bdV x.2]) (Below n₀) (λys=>ys=Qck bs bs.length)
 (λpre=>∃k,k<=bs.length/\pre=Qck bs k) bs.length w:=λl J Jx W hW _ _ hY h0=>by
 subst hn₀;have hc':=(hW.cell (p:=⟨Bs,0,none⟩) hBs).trans hc;rcases hI with⟨a,cap,rfl,rfl⟩|⟨b,off,cap,rfl,hb,hcs⟩
 .exact(Qpd F n hf hro l Bs J W a cap hc' h0).mono λe W' ⟨he,hj⟩=>⟨he,.inl ⟨_,rfl,hj⟩⟩
 .exact Qx1 F n hf hro hn l Bs w.heap.size b off cap bs hreach hb hBs J Jx hY W hc' (λj x hj=>by obtain⟨c0,c1,c2,c3⟩:=hcs j x hj;exact⟨(hW.cell (p:=⟨b,off+j*4,none⟩) hb).trans c0,(hW.cell (p:=⟨b,off+j*4+1,none⟩) hb).trans c1,(hW.cell (p:=⟨b,off+j*4+2,none⟩) hb).trans c2,(hW.cell (p:=⟨b,off+j*4+3,none⟩) hb).trans c3⟩) h0
def Qt2(W:World)(o:Array Value)(t:TypeId)(i:Nat):(W.alloc (.cells o t)).cell? ⟨W.heap.size,i,none⟩=o[i]?:=by unfold World.cell?;simp only[World.alloc_heap_new];simp
def NoB(word:List UInt8)(p:Int×SBd):Prop:=¬(p.2.k=2/\p.2.w=word)
def DefB(word:List UInt8)(p:Int×SBd):Prop:=p.2.k=2/\p.2.w=word
def Qvs{word:List UInt8}{bs:List SBd}(h:∀p∈Qck bs bs.length,NoB word p):itU word bs 0 (-1)=-1:=by refine Qmc λc hc=>?_;obtain⟨j,hj⟩:=Q4r hc;have hjl:j<bs.length:=(Q11.1 hj).1;have:=h (Qcy bs (bs.length-1-j)) (by simp only[Qck,Q3c,Q3y];exact⟨_,by omega,rfl⟩);unfold NoB Qcy at this;rw[show bs.length-1-(bs.length-1-j)=j by omega,hj]at this;exact this
def Qvr{word:List UInt8}{bs:List SBd}{k:Nat}(hk:k<bs.length)(h:∀p∈Qck bs k,NoB word p)(hd:DefB word (Qcy bs k)):itU word bs 0 (-1)=(Qcy bs k).1:=by
 obtain⟨p,hp⟩:∃p:Nat,k+1+p=bs.length:=⟨bs.length-k-1,by omega⟩;have hpl:p<bs.length:=by omega
 obtain⟨x,hx⟩:∃x,bs[p]?=some x:=⟨_,Q12 hpl⟩;have hfr:Qcy bs k=((p:Int),x):=by unfold Qcy;rw[show bs.length-1-k=p by omega,hx];simp;omega
 rw[hfr]at hd⊢;rw[Qqj hx hd λj c hj hc=>?_]
 .simp
 .have hjl:j<bs.length:=(Q11.1 hc).1;have:=h (Qcy bs (bs.length-1-j)) (by simp only[Qck,Q3c,Q3y];exact⟨_,by omega,rfl⟩);unfold NoB Qcy at this;rw[show bs.length-1-(bs.length-1-j)=j by omega,hc]at this;exact this
def list14{α:Type}{l:List α}(h:l.length=14):∃a b c d e f g h' i j k m n o,l=[a,b,c,d,e,f,g,h',i,j,k,m,n,o]:=by
 match l,h with
 |[a,b,c,d,e,f,g,h',i,j,k,m,n,o],_=>exact⟨a,b,c,d,e,f,g,h',i,j,k,m,n,o,rfl⟩
set_option maxRecDepth 100000 in
set_option maxHeartbeats 4000000 in
theorem Qy9(F:Fence)(n:Nat)(h53:F.fn 74)(h88:F.fn 107)(h109:F.fn 154)(hro:F.round=none)(hn:3<=n)(w:World)(cs:List Value)(sv:Value)(word:List UInt8)(bs:List SBd)(hcs:cs.length=14)(h9:cs[9]?=some sv)(hI:BdSl w sv bs)(hl:bs.length<=1099511627776):
 CallsIn F n Tryz.prog 74 #[.agg cs.toArray,.string ⟨word.toArray⟩] w λe W'=>e=.returned (.int .i64 (itU word bs 0 (-1)))/\Below w.heap.size w W':=by
 have h1:1<=n:=by omega
 obtain⟨v0,v1,v2,v3,v4,v5,v6,v7,v8,v9,v10,v11,v12,v13,rfl⟩:=list14 hcs;obtain rfl:v9=sv:=by simpa using h9
 obtain⟨a,len,cap,rfl⟩:∃a len cap,v9=.slice a len cap:=by rcases hI with⟨a,cap,rfl,-⟩|⟨b,off,cap,rfl,-⟩<;>exact⟨_,_,_,rfl⟩
 refine callsIn_of_wp_marks Tryz.func74 rfl h53 ?_ hro;simp only[Tryz.ntmps74,Q3s,Q2i,Q3b,Nat.reduceAdd,Nat.reduceSub,Q5p,Q5o,Q52,Q5u,Q2u,Q2m]
 gi_wp2_with (gi_at_call 107;refine(Qrl F (n-1) h88 hro _ _ _ _).mono ?_;rintro e w' ⟨rfl,rfl⟩)
 generalize hu:Obj.cells #[v0,v1,v2,v3,v4,v5,v6,v7,v8,Value.slice a len cap,v10,v11,v12,v13] 76=ou;have bW:=((Boxed.new (w.alloc ou) 9 (.string ⟨word.toArray⟩)).alloc (.cells #[.int .i64 0] 3)).alloc (.cells #[.slice a len cap] 70);have bR:=(Boxed.new ((w.alloc ou).alloc (.cells #[.string ⟨word.toArray⟩] 9)) 3 (.int .i64 0)).alloc (.cells #[.slice a len cap] 70);have bN:=Boxed.new (((w.alloc ou).alloc (.cells #[.string ⟨word.toArray⟩] 9)).alloc (.cells #[.int .i64 0] 3)) 70 (.slice a len cap);simp only[World.size_alloc]at bW bR bN;have hB0:Below w.heap.size w ((((w.alloc ou).alloc (.cells #[.string ⟨word.toArray⟩] 9)).alloc (.cells #[.int .i64 0] 3)).alloc (.cells #[.slice a len cap] 70)):=((((Below.refl _ w).alloc (Q14 _) _).alloc (by simp) _).alloc (by simp;omega) _).alloc (by simp;omega) _
 have hsz:((((w.alloc ou).alloc (.cells #[.string ⟨word.toArray⟩] 9)).alloc (.cells #[.int .i64 0] 3)).alloc (.cells #[.slice a len cap] 70)).heap.size=w.heap.size+4:=by simp
 obtain⟨W0,hW0⟩:∃W0,((((w.alloc ou).alloc (.cells #[.string ⟨word.toArray⟩] 9)).alloc (.cells #[.int .i64 0] 3)).alloc (.cells #[.slice a len cap] 70))=W0:=⟨_,rfl⟩;rw[hW0]at bW bR bN hB0 hsz⊢;clear hW0 hu;refine wpIn_rangeFunc_ownH hro h1 (gf:=154) (lb:=#[.pointer (some ⟨w.heap.size+1+1+1,0,none⟩)]) rfl h109 (enters_of Tryz.func154 (by kernel_rfl) rfl)
  (Qs3 F (n-1) h109 hro (by omega) (w.heap.size+1+1+1) W0.heap.size (.slice a len cap) bs hl W0 (by omega) rfl bN.cell (Qzk hB0 (Q14 _) hI)) belowK_t (belowK_b (Q14 _)) (Below.refl _ _) (λ_=>rfl)
  (λpre W=>(((∀p∈pre,NoB word p)/\Boxed W (w.heap.size+1) 9 (.string ⟨word.toArray⟩))/\Boxed W (w.heap.size+1+1) 3 (.int .i64 0))/\Below w.heap.size W0 W)
  (λc pre W=>(c=.ret/\∃ini last,pre=ini++[last]/\(∀p∈ini,NoB word p)/\DefB word last/\Boxed W (w.heap.size+1+1) 3 (.int .i64 last.1))/\Below w.heap.size W0 W)
  (OwnFrom.and (OwnFrom.and (OwnFrom.and (ownFrom_pure _ _) (Own.from (boxed_own _ _ _) _)) (Own.from (boxed_own _ _ _) _)) (ownFrom_below (by omega) (by omega)))
  (λc=>OwnFrom.and (λs A B row hs hg hr=>by obtain⟨hc,ini,last,e1,e2,e3,e4⟩:=hs;exact⟨hc,ini,last,e1,e2,e3,boxed_own _ 3 (λ(_:Unit)=>Value.int .i64 last.1) () A B row e4 hg (λr e=>(hr r e).2)⟩) (ownFrom_below (by omega) (by omega)))
  ⟨⟨⟨by simp,bW⟩,bR⟩,Below.refl _ _⟩
  (λx a' W=>∃Bx,w.heap.size+1+1<Bx/\(W.cell? ⟨Bx,0,none⟩=some (.int .i64 x.2.a)/\W.cell? ⟨Bx,1,none⟩=some (.int .i64 x.2.k)/\W.cell? ⟨Bx,2,none⟩=some (.string ⟨x.2.w.toArray⟩)/\W.cell? ⟨Bx,3,none⟩=some (.int .i64 x.2.i))/\
   a'={tmps:=#[.agg #[v0,v1,v2,v3,v4,v5,v6,v7,v8,.slice a len cap,v10,v11,v12,v13],.string ⟨word.toArray⟩,.pointer (some ⟨w.heap.size,0,none⟩),.pointer (some ⟨w.heap.size+1,0,none⟩),.pointer (some ⟨w.heap.size+1+1,0,none⟩),.int .i64 x.1,.pointer (some ⟨Bx,0,none⟩),.pointer (some ⟨w.heap.size,9,none⟩),.pointer (some ⟨w.heap.size,9,none⟩),.slice a len cap,.func (.func 154) #[] #[.pointer (some ⟨w.heap.size+1+1+1,0,none⟩)],.int .i64 x.1,.agg #[.int .i64 x.2.a,.int .i64 x.2.k,.string ⟨x.2.w.toArray⟩,.int .i64 x.2.i],undef,undef,undef,undef,undef,undef,undef,undef,undef,undef],defers:=[]})
  (λx a' _ X Y row hs hg hr=>by obtain⟨Bx,g1,⟨g2,g3,g4,g5⟩,g6⟩:=hs;have hr':=λr e=>(hr r e).2;exact⟨Bx,g1,⟨cell_kept g2 hg hr',cell_kept g3 hg hr',cell_kept g4 hg hr',cell_kept g5 hg hr'⟩,g6⟩)
  ?assign ?body ?done ?stop
 case assign=>
  rintro l pre x W K ⟨⟨⟨hp,bW1⟩,bR1⟩,hB1⟩ hK;dsimp only[bdV]
  gi_wp2
  have hWs:=hB1.size;exact hK _ _ ((KeepsOthers.alloc _ _).from _) ((Below.refl _ W).alloc hWs _) ⟨⟨⟨hp,bW1.alloc _⟩,bR1.alloc _⟩,hB1.alloc (by omega) _⟩
   ⟨W.heap.size,bR1.lt,⟨Qt2 _ _ _ 0,Qt2 _ _ _ 1,Qt2 _ _ _ 2,Qt2 _ _ _ 3⟩,rfl⟩
 case body=>
  rintro l pre x a' W hl' ⟨r,hr⟩ ⟨⟨⟨hp,bW1⟩,bR1⟩,hB1⟩ ⟨Bx,hBx,⟨g2,g3,g4,g5⟩,rfl⟩ hlt;have cW:=bW1.cell;have cR:=bR1.cell;have fR:=bR1.frozen;have hWs:=hB1.size
  gi_wp2
  .have hk:x.2.k=2:=by assumption
   have hw:(x.2.w==word)=true:=by assumption
   exact⟨(KeepsOthers.setCell _ _ _).from _,⟨rfl,pre,x,rfl,hp,⟨hk,by simpa using hw⟩,bR1.set _⟩,hB1.setCell (p:=⟨w.heap.size+1+1,0,none⟩) (by show w.heap.size<=w.heap.size+1+1;omega) _⟩
  .have hw:(x.2.w==word)=false:=by assumption
   exact⟨KeepsFrom.refl _ _,Below.refl _ _,⟨⟨λp hp'=>(Q2r.1 hp').elim (hp p) (λe=>by simp at e;subst e;exactλh=>by rw[h.2]at hw;simp at hw),bW1⟩,bR1⟩,hB1⟩
  .have hk:¬x.2.k=2:=by assumption
   exact⟨KeepsFrom.refl _ _,Below.refl _ _,⟨⟨λp hp'=>(Q2r.1 hp').elim (hp p) (λe=>by simp at e;subst e;exactλh=>hk h.1),bW1⟩,bR1⟩,hB1⟩
 case done=>
  rintro D ys W hD rfl ⟨⟨⟨hp,bW1⟩,bR1⟩,hB1⟩ hK;have cR:=bR1.cell;have fR:=bR1.frozen
  gi_wp2
  have hK':=(KeepsOthers.setCell W ⟨w.heap.size+1+1,0,none⟩ (.int .i64 (-1))).same D _ hK rfl;refine⟨by simp,.inl ⟨_,_,rfl,run_takeDeferred hK',?_⟩⟩;have hc5:=cell_kept (World.cell?_setCell_same' W ⟨w.heap.size+1+1,0,none⟩ (.int .i64 (-1)) (by rw[cR];rfl)) (grownBy_putObj' _ D (.deferred none)) (λr e=>by cases e;exact⟨_,hK',rfl⟩);refine⟨.int .i64 (-1),?_,by rw[Qvs hp],(hB0.trans (hB1.setCell (p:=⟨w.heap.size+1+1,0,none⟩) (by show w.heap.size<=w.heap.size+1+1;omega) _)).trans (belowK_b (w:=w) (Q14 _) _ D _ _ (by omega) hK' rfl rfl)⟩;simp[results,Tryz.f74,go_sem,hc5]
 case stop=>
  rintro D c pre W hD ⟨k,hk,rfl⟩ ⟨⟨rfl,ini,last,e1,e2,e3,bR1⟩,hB1⟩ hK;have cR:=bR1.cell
  gi_wp2
  refine⟨by simp,.inl ⟨_,_,rfl,run_takeDeferred hK,?_⟩⟩;have hc5:=cell_kept cR (grownBy_putObj' _ D (.deferred none)) (λr e=>by cases e;exact⟨_,hK,rfl⟩);obtain⟨k',rfl⟩:∃k',k=k'+1:=by
   cases k with
   |zero=>simp[Qck]at e1
   |succ k'=>exact⟨k',rfl⟩
  rw[Qhd]at e1;obtain⟨rfl,e5⟩:=List.append_inj' e1 rfl;obtain rfl:Qcy bs k'=last:=by simpa using e5
  refine⟨.int .i64 (Qcy bs k').1,?_,by rw[Qvr (by omega) e2 e3],(hB0.trans hB1).trans (belowK_b (w:=w) (Q14 _) W D _ _ (by omega) hK rfl rfl)⟩;simp[results,Tryz.f74,go_sem,hc5]
def Q1h:Qtc Tryz.prog 74:=Qvf λw cs sv word bs h1 h2 h3 h4=>(callsIn_wide (n:=3)).1 (Qy9 Fence.wide 3 trivial trivial trivial rfl (Q14 _) w cs sv word bs h1 h2 h3 h4)
end Zw
end Go.Proofs
namespace Go.Proofs
section
open Go.Shelf Go.RowKit
variable{P:Program}{ρ:Ren}
set_option maxHeartbeats 32000000 in
set_option maxRecDepth 100000 in
theorem AnyPu.internal_strconv_ParseUint_10_b63(L:LaysPu.n16 P ρ)(t:ByteArray)(hne:t.size≠0)(hmax:t.size<=9223372036854775806)(w:World):
 Calls P (ρ.f 16) #[.string t,.int .i64 10,.int .i64 63] w λe w'=>e=.returned (Lib.uintTupleM (ρ.t 34) 9223372036854775807 (Lib.parseUintM 9223372036854775807 0 t.data.toList))/\w'=Lib.bytesWorld w (ρ.t 5) t:=by
 have mixed:=L.mixed;have t9:=L.t9;have a9:=L.a9;have z9:=L.z9;have v9:=L.v9;have t3:=L.t3;have a3:=L.a3;have z3:=L.z3;have v3:=L.v3;have t22:=L.t22;have a22:=L.a22;have z22:=L.z22;have v22:=L.v22;have t24:=L.t24;have a24:=L.a24;have z24:=L.z24;have v24:=L.v24;have t4:=L.t4;have a4:=L.a4;have z4:=L.z4;have v4:=L.v4;have t34:=L.t34;have a34:=L.a34;have z34:=L.z34;have v34:=L.v34;have t5:=L.t5;have a5:=L.a5;have z5:=L.z5;have v5:=L.v5;have t36:=L.t36;have a36:=L.a36;have z36:=L.z36;have v36:=L.v36;have t37:=L.t37;have a37:=L.a37;have z37:=L.z37;have v37:=L.v37;have t0:=L.t0;have a0:=L.a0;have z0:=L.z0;have v0:=L.v0;have e19:∀args w,(callFunc (ρ.f 19) args).run P w=.ok (.enter (ρ.f 19) args) w:=enters_of L.f19 (by kernel_rfl) rfl;have hemp:t.toList.isEmpty=false:=by rw[<-decide_eq_emptyBytes];exact decide_eq_false (λh=>hne (by rw[h];rfl))
 have hcv:=Lib.run_convert_string_bytes (P:=P) w (ρ.t 9) (ρ.t 37) (ρ.t 5) t (u:=.string) L.t9 L.t37 L.t5;have hB:∀j,j<t.size->(Lib.bytesWorld w (ρ.t 5) t).cell? ⟨w.heap.size,j,none⟩=some (.int .u8 (t.data.toList.getD j 0).toNat):=λj hj=>Lib.bytesWorld_cell w (ρ.t 5) t j hj;obtain⟨W1,hW1⟩:∃W1,W1=Lib.bytesWorld w (ρ.t 5) t:=⟨_,rfl⟩;rw[<-hW1]at hcv hB⊢;clear hW1;obtain⟨bs,hL⟩:∃bs,bs=t.data.toList:=⟨_,rfl⟩;have hLn:bs.length=t.size:=by rw[hL,Lib.size_eq]
 rw[<-hL]at hB⊢;clear hL;have hmv:IntKind.u64.wrap (IntKind.u64.wrap 9223372036854775808-1)=9223372036854775807:=by rw[IntKind.wrap_u64,IntKind.wrap_u64];decide
 go_enter L.f16,BodyPu.n16_ntmps ρ;go_wp2;go_loop [12,13,101] (λvu vn vi=>∃(k acc:Nat)(a:Int),vu=.bool false/\vn=.int .u64 a/\vi=.int .i64 k/\k<=t.size/\Hid (a=(acc:Int)/\acc<=9223372036854775807/\Lib.parseUintM 9223372036854775807 0 bs=Lib.parseUintM 9223372036854775807 acc (bs.drop k)))
  (λ_ _ vi=>t.size-(intOf vi).toNat)
 case atStart=>exact⟨0,0,0,rfl,rfl,rfl,by omega,rfl,by omega,rfl⟩
 case round=>
  obtain⟨k,acc,a,rfl,rfl,rfl,hk,hh⟩:=hrel;obtain⟨ha,hacc,hdec⟩:=hh.out;clear hh;have a0:0<=a:=by omega
  have a1:a<=9223372036854775807:=by omega
  by_cases hkn:k<t.size
  .have hc:=hB k hkn;have hdrop:bs.drop k=bs[k]'(by omega)::bs.drop (k+1):=List.drop_eq_getElem_cons (by omega);have hget:bs.getD k 0=bs[k]'(by omega):=by simp[List.getD,List.getElem?_eq_getElem (show k<bs.length by omega)]
   rw[hdrop]at hdec;rw[hget]at hc;generalize bs[k]'(by omega)=c at hc hdec;have hc256:c.toNat<256:=c.toNat_lt;clear hB hdrop hget;by_cases hdig:48<=c.toNat/\c.toNat<=57
   .obtain⟨hd0,hd1⟩:=hdig;by_cases hcut:1844674407370955162<=acc
    .have hF:Lib.parseUintM 9223372036854775807 acc (c::bs.drop (k+1))=.range:=by simp[Lib.parseUintM,hd0,hd1,hcut]
     rw[hF]at hdec;have icut:1844674407370955162<=a:=by omega
     clear hcut hacc hF ha;go_wp2;go_ret2;exact⟨rfl,rfl⟩
    by_cases hov2:18446744073709551616<=acc*10+(c.toNat-48)
    .have hov:9223372036854775807<acc*10+(c.toNat-48):=by omega
     have hF:Lib.parseUintM 9223372036854775807 acc (c::bs.drop (k+1))=.range:=by simp[Lib.parseUintM,hd0,hd1,hcut,hov]
     rw[hF]at hdec;have icut:a<1844674407370955162:=by omega
     have iov:18446744073709551616<=a*10+((c.toNat:Int)-48):=by omega
     have hwr:IntKind.u64.wrap (a*10+((c.toNat:Int)-48))=a*10+((c.toNat:Int)-48)-18446744073709551616:=by rw[IntKind.wrap_u64];omega
     clear hcut hacc hF hov hov2 ha;go_wp2;go_ret2;exact⟨rfl,rfl⟩
    by_cases hov:9223372036854775807<acc*10+(c.toNat-48)
    .
     have hF:Lib.parseUintM 9223372036854775807 acc (c::bs.drop (k+1))=.range:=by simp[Lib.parseUintM,hd0,hd1,hcut,hov]
     rw[hF]at hdec;have iov:9223372036854775807<a*10+((c.toNat:Int)-48):=by omega
     have iov2:a*10+((c.toNat:Int)-48)<18446744073709551616:=by omega
     have icut:a<1844674407370955162:=by omega
     clear hcut hacc hF hov hov2 ha;go_wp2;go_ret2;exact⟨rfl,rfl⟩
    .have hF:Lib.parseUintM 9223372036854775807 acc (c::bs.drop (k+1))=Lib.parseUintM 9223372036854775807 (acc*10+(c.toNat-48)) (bs.drop (k+1)):=by simp[Lib.parseUintM,hd0,hd1,hcut,hov]
     have HN:Hid (a*10+((c.toNat:Int)-48)=((acc*10+(c.toNat-48):Nat):Int)/\acc*10+(c.toNat-48)<=9223372036854775807/\Lib.parseUintM 9223372036854775807 0 bs=Lib.parseUintM 9223372036854775807 (acc*10+(c.toNat-48)) (bs.drop (k+1))):=Lib.hid ⟨by omega,by omega,hdec.trans hF⟩;have iov:a*10+((c.toNat:Int)-48)<=9223372036854775807:=by omega
     have icut:a<1844674407370955162:=by omega
     clear hcut hacc hF hov hov2 hdec ha;go_wp2;refine⟨⟨k+1,acc*10+(c.toNat-48),a*10+((c.toNat:Int)-48),rfl,(by first|rfl|(congr 1;omega)),(by first|rfl|(congr 1;omega)),by omega,HN⟩,by simp[intOf];omega⟩
   .
    have hF:Lib.parseUintM 9223372036854775807 acc (c::bs.drop (k+1))=Lib.NumEnd.syntax:=by simp[Lib.parseUintM,hdig]
    rw[hF]at hdec;clear hacc hF ha;have hv0:=bits_lo_u8 .or (c.toNat:Int) 32;have hv1:=bits_hi_u8 .or (c.toNat:Int) 32;have hu0:=bits_lo_u8 .or 95 32;have hu1:=bits_hi_u8 .or 95 32;go_wp2_with (go_at_fn (ρ.f 19);refine(AnyPu.internal_strconv_lower {L with} _ _).mono ?_;rintro e w' ⟨rfl,rfl⟩);all_goals go_ret2
    all_goals first|exact⟨rfl,rfl⟩|exact⟨by rw[hdec];rfl,rfl⟩
  .
   have hkk:k=t.size:=by omega
   subst hkk;have hF:Lib.parseUintM 9223372036854775807 acc (bs.drop t.size)=.ok acc:=by rw[List.drop_eq_nil_of_le (by omega)];rfl
   rw[hF]at hdec;subst ha;clear hacc hF a0 a1;go_wp2;go_ret2;exact⟨rfl,rfl⟩
def AnyPu.internal_strconv_ParseUint_10_at63(L:LaysPu.n16 P ρ)(t:ByteArray)(hmax:t.size<=9223372036854775806)(w:World):
 Calls P (ρ.f 16) #[.string t,.int .i64 10,.int .i64 63] w λe w'=>e=.returned (Lib.uintTupleM (ρ.t 34) 9223372036854775807 (Lib.parseUintB 63 t.data.toList))/\(w'=w\/w'=Lib.bytesWorld w (ρ.t 5) t):=by
 have eM:(2:Nat)^63-1=9223372036854775807:=by decide
 by_cases h0:t.size=0
 .have ht:t=⟨#[]⟩:=by apply ByteArray.ext;exact Array.eq_empty_of_size_eq_zero h0
  subst ht;exact(AnyPu.internal_strconv_ParseUint_empty {L with} 10 63 w).mono λe w' ⟨he,hw⟩=>⟨he,Or.inl hw⟩
 .have hne:t.data.toList≠[]:=λh=>h0 (by rw[Lib.size_eq,h];rfl);refine(AnyPu.internal_strconv_ParseUint_10_b63 {L with} t h0 hmax w).mono λe w' ⟨he,hw⟩=>⟨?_,Or.inr hw⟩;rw[he,Lib.parseUintB,if_neg hne,eM]
set_option maxHeartbeats 4000000 in
set_option maxRecDepth 100000 in
theorem Any.strconv_ParseUint_10_at63_ok(L:LaysPu.n14 P ρ)(s:ByteArray)(hmax:s.size<=9223372036854775806)(u:Nat)(h:Lib.parseUintB 63 s.data.toList=.ok u)(w:World):
 Calls P (ρ.f 14) #[.string s,.int .i64 10,.int .i64 63] w λe w'=>e=.returned (.tuple #[.int .u64 u,.nilIface])/\(w'=w\/w'=Lib.bytesWorld w (ρ.t 5) s):=by
 have mixed:=L.mixed;have t9:=L.t9;have a9:=L.a9;have z9:=L.z9;have v9:=L.v9;have t3:=L.t3;have a3:=L.a3;have z3:=L.z3;have v3:=L.v3;have t22:=L.t22;have a22:=L.a22;have z22:=L.z22;have v22:=L.v22;have t24:=L.t24;have a24:=L.a24;have z24:=L.z24;have v24:=L.v24;have t25:=L.t25;have a25:=L.a25;have z25:=L.z25;have v25:=L.v25;have t4:=L.t4;have a4:=L.a4;have z4:=L.z4;have v4:=L.v4;have e16:∀args w,(callFunc (ρ.f 16) args).run P w=.ok (.enter (ρ.f 16) args) w:=enters_of L.f16 (by kernel_rfl) rfl;have hI:=AnyPu.internal_strconv_ParseUint_10_at63 {L with} s hmax w;rw[h]at hI;have hI:Calls P (ρ.f 16) #[.string s,.int .i64 10,.int .i64 63] w λe w'=>e=.returned (.tuple #[.int .u64 u,.nilIface])/\(w'=w\/w'=Lib.bytesWorld w (ρ.t 5) s):=hI;clear h;go_enter L.f14,BodyPu.n14_ntmps ρ;go_wp2_with (go_at_fn (ρ.f 16);refine hI.mono ?_;rintro e W1 ⟨rfl,hW⟩);go_wp2;go_ret2;exact⟨rfl,hW⟩
set_option maxHeartbeats 4000000 in
set_option maxRecDepth 100000 in
theorem Any.strconv_ParseUint_10_at63_syntax(L:LaysPu.n14 P ρ)(s:ByteArray)(hlim:s.size<=281474976710656)(h:Lib.parseUintB 63 s.data.toList=Lib.NumEnd.syntax)(ev:Value)(w:World)(hv:w.cell? ⟨(ρ.g 0),0,none⟩=some ev)(hev:ev=.nilIface\/∃te pe,ev=.iface te pe):
 Calls P (ρ.f 14) #[.string s,.int .i64 10,.int .i64 63] w λe w'=>∃N,e=.returned (.tuple #[.int .u64 0,.iface (ρ.t 39) (.pointer (some ⟨N,0,none⟩))])/\w.heap.size<=N/\w'.heap[N]?=some (.cells #[.string ⟨#[80,97,114,115,101,85,105,110,116]⟩,.string s,ev] (ρ.t 44) (0,0))/\Below w.heap.size w w':=by
 have mixed:=L.mixed;have t9:=L.t9;have a9:=L.a9;have z9:=L.z9;have v9:=L.v9;have t3:=L.t3;have a3:=L.a3;have z3:=L.z3;have v3:=L.v3;have t22:=L.t22;have a22:=L.a22;have z22:=L.z22;have v22:=L.v22;have t24:=L.t24;have a24:=L.a24;have z24:=L.z24;have v24:=L.v24;have t25:=L.t25;have a25:=L.a25;have z25:=L.z25;have v25:=L.v25;have t4:=L.t4;have a4:=L.a4;have z4:=L.z4;have v4:=L.v4;have e16:∀args w,(callFunc (ρ.f 16) args).run P w=.ok (.enter (ρ.f 16) args) w:=enters_of L.f16 (by kernel_rfl) rfl;have e17:∀args w,(callFunc (ρ.f 17) args).run P w=.ok (.enter (ρ.f 17) args) w:=enters_of L.f17 (by kernel_rfl) rfl;have hG:(ρ.g 0)<w.heap.size:=Lib.lt_of_cell hv;have hI:=AnyPu.internal_strconv_ParseUint_10_at63 {L with} s (by omega) w;rw[h]at hI;have hI:Calls P (ρ.f 16) #[.string s,.int .i64 10,.int .i64 63] w λe w'=>e=.returned (.tuple #[.int .u64 0,.iface (ρ.t 34) (.int .i64 2)])/\(w'=w\/w'=Lib.bytesWorld w (ρ.t 5) s):=hI;clear h;go_enter L.f14,BodyPu.n14_ntmps ρ;go_wp2_with (go_at_fn (ρ.f 16);refine hI.mono ?_);rintro e W1 ⟨rfl,hW⟩;have hb1:Below w.heap.size w W1:=by
  rcases hW with rfl|rfl
  .exact Below.refl _ _
  .exact Lib.bytesWorld_below _ _ _
 have hv1:W1.cell? ⟨(ρ.g 0),0,none⟩=some ev:=(hb1.cell (show(⟨(ρ.g 0),0,none⟩:Addr).block<w.heap.size from hG)).trans hv;clear hW;go_wp2_with (go_at_fn (ρ.f 17);refine(AnyPu.strconv_toError_syntax {L with} ⟨#[80,97,114,115,101,85,105,110,116]⟩ s 10 63 ev _ hlim ?_ hev).mono ?_)
 .exact hv1
 rintro e W2 ⟨N,rfl,h1,h2,h3⟩;go_wp2;go_ret2;exact⟨N,rfl,Nat.le_trans hb1.size h1,h2,hb1.trans (h3.mono hb1.size)⟩
set_option maxHeartbeats 4000000 in
set_option maxRecDepth 100000 in
theorem Any.strconv_ParseUint_10_at63_range(L:LaysPu.n14 P ρ)(s:ByteArray)(hlim:s.size<=281474976710656)(h:Lib.parseUintB 63 s.data.toList=.range)(ev:Value)(w:World)(hv:w.cell? ⟨(ρ.g 1),0,none⟩=some ev)(hev:ev=.nilIface\/∃te pe,ev=.iface te pe):
 Calls P (ρ.f 14) #[.string s,.int .i64 10,.int .i64 63] w λe w'=>∃N,e=.returned (.tuple #[.int .u64 9223372036854775807,.iface (ρ.t 39) (.pointer (some ⟨N,0,none⟩))])/\w.heap.size<=N/\w'.heap[N]?=some (.cells #[.string ⟨#[80,97,114,115,101,85,105,110,116]⟩,.string s,ev] (ρ.t 44) (0,0))/\Below w.heap.size w w':=by
 have mixed:=L.mixed;have t9:=L.t9;have a9:=L.a9;have z9:=L.z9;have v9:=L.v9;have t3:=L.t3;have a3:=L.a3;have z3:=L.z3;have v3:=L.v3;have t22:=L.t22;have a22:=L.a22;have z22:=L.z22;have v22:=L.v22;have t24:=L.t24;have a24:=L.a24;have z24:=L.z24;have v24:=L.v24;have t25:=L.t25;have a25:=L.a25;have z25:=L.z25;have v25:=L.v25;have t4:=L.t4;have a4:=L.a4;have z4:=L.z4;have v4:=L.v4;have e16:∀args w,(callFunc (ρ.f 16) args).run P w=.ok (.enter (ρ.f 16) args) w:=enters_of L.f16 (by kernel_rfl) rfl;have e17:∀args w,(callFunc (ρ.f 17) args).run P w=.ok (.enter (ρ.f 17) args) w:=enters_of L.f17 (by kernel_rfl) rfl;have hG:(ρ.g 1)<w.heap.size:=Lib.lt_of_cell hv;have hI:=AnyPu.internal_strconv_ParseUint_10_at63 {L with} s (by omega) w;rw[h]at hI;have hI:Calls P (ρ.f 16) #[.string s,.int .i64 10,.int .i64 63] w λe w'=>e=.returned (.tuple #[.int .u64 9223372036854775807,.iface (ρ.t 34) (.int .i64 1)])/\(w'=w\/w'=Lib.bytesWorld w (ρ.t 5) s):=hI;clear h;go_enter L.f14,BodyPu.n14_ntmps ρ;go_wp2_with (go_at_fn (ρ.f 16);refine hI.mono ?_);rintro e W1 ⟨rfl,hW⟩;have hb1:Below w.heap.size w W1:=by
  rcases hW with rfl|rfl
  .exact Below.refl _ _
  .exact Lib.bytesWorld_below _ _ _
 have hv1:W1.cell? ⟨(ρ.g 1),0,none⟩=some ev:=(hb1.cell (show(⟨(ρ.g 1),0,none⟩:Addr).block<w.heap.size from hG)).trans hv;clear hW;go_wp2_with (go_at_fn (ρ.f 17);refine(AnyPu.strconv_toError_range {L with} ⟨#[80,97,114,115,101,85,105,110,116]⟩ s 10 63 ev _ hlim ?_ hev).mono ?_)
 .exact hv1
 rintro e W2 ⟨N,rfl,h1,h2,h3⟩;go_wp2;go_ret2;exact⟨N,rfl,Nat.le_trans hb1.size h1,h2,hb1.trans (h3.mono hb1.size)⟩
end
end Go.Proofs
namespace Go.Proofs.Zw
section
open Go Go.Zam Go.Proofs
def tcf60:Qn Tryz.prog [7] Tryz.f60=some (Qgc 86 87 88 167 47):=by kernel_rfl
def h60:HasT Tryz.prog [7] 60 (Qgc 86 87 88 167 47):=⟨_,Tryz.func60,tcf60⟩
def tcf68:Qn Tryz.prog [] Tryz.f68=some (Qdi 99 98):=by kernel_rfl
def h68:Has Tryz.prog 68 (Qdi 99 98):=⟨_,Tryz.func68,tcf68⟩
def tcf48:Qn Tryz.prog [] Tryz.f48=some (Z9 67 68 69):=by kernel_rfl
def h48:Has Tryz.prog 48 (Z9 67 68 69):=⟨_,Tryz.func48,tcf48⟩
def tcf86:Qn Tryz.prog [] Tryz.f86=some (Qh1 122):=by kernel_rfl
def h86:Has Tryz.prog 86 (Qh1 122):=⟨_,Tryz.func86,tcf86⟩
def tcf87:Qn Tryz.prog [] Tryz.f87=some (Qfh 123 124 125 126):=by kernel_rfl
def h87:Has Tryz.prog 87 (Qfh 123 124 125 126):=⟨_,Tryz.func87,tcf87⟩
def tcf88:Qn Tryz.prog [] Tryz.f88=some (Qfg 123 67 127 68 69 128 129 130 47):=by kernel_rfl
def h88:Has Tryz.prog 88 (Qfg 123 67 127 68 69 128 129 130 47):=⟨_,Tryz.func88,tcf88⟩
def tcf98:Qn Tryz.prog [] Tryz.f98=some (Qgd 146):=by kernel_rfl
def h98:Has Tryz.prog 98 (Qgd 146):=⟨_,Tryz.func98,tcf98⟩
def tcf146:Qn Tryz.prog [] Tryz.f146=some (Qee):=by kernel_rfl
def h146:Has Tryz.prog 146 (Qee):=⟨_,Tryz.func146,tcf146⟩
def tcf99:Qn Tryz.prog [] Tryz.f99=some (Qdh):=by kernel_rfl
def h99:Has Tryz.prog 99 (Qdh):=⟨_,Tryz.func99,tcf99⟩
def tcf67:Qn Tryz.prog [] Tryz.f67=some (Qbq):=by kernel_rfl
def h67:Has Tryz.prog 67 (Qbq):=⟨_,Tryz.func67,tcf67⟩
def tcf69:Qn Tryz.prog [] Tryz.f69=some (Qcw):=by kernel_rfl
def h69:Has Tryz.prog 69 (Qcw):=⟨_,Tryz.func69,tcf69⟩
def tcf123:Qn Tryz.prog [] Tryz.f123=some (Qbn):=by kernel_rfl
def h123:Has Tryz.prog 123 (Qbn):=⟨_,Tryz.func123,tcf123⟩
def tcf124:Qn Tryz.prog [] Tryz.f124=some (Qdj):=by kernel_rfl
def h124:Has Tryz.prog 124 (Qdj):=⟨_,Tryz.func124,tcf124⟩
def tcf125:Qn Tryz.prog [] Tryz.f125=some (Qfi):=by kernel_rfl
def h125:Has Tryz.prog 125 (Qfi):=⟨_,Tryz.func125,tcf125⟩
def tcf126:Qn Tryz.prog [] Tryz.f126=some (Qff):=by kernel_rfl
def h126:Has Tryz.prog 126 (Qff):=⟨_,Tryz.func126,tcf126⟩
def tcf127:Qn Tryz.prog [] Tryz.f127=some (Qfd 123 160):=by kernel_rfl
def h127:Has Tryz.prog 127 (Qfd 123 160):=⟨_,Tryz.func127,tcf127⟩
def tcf160:Qn Tryz.prog [] Tryz.f160=some (Qdl 67 69):=by kernel_rfl
def h160:Has Tryz.prog 160 (Qdl 67 69):=⟨_,Tryz.func160,tcf160⟩
def tcf129:Qn Tryz.prog [] Tryz.f129=some (Qhz 162):=by kernel_rfl
def h129:Has Tryz.prog 129 (Qhz 162):=⟨_,Tryz.func129,tcf129⟩
def tcf130:Qn Tryz.prog [] Tryz.f130=some (Qfe 163 164):=by kernel_rfl
def h130:Has Tryz.prog 130 (Qfe 163 164):=⟨_,Tryz.func130,tcf130⟩
def tcf162:Qn Tryz.prog [4] Tryz.f162=some (Zb 180 181 182 264 5):=by kernel_rfl
def h162:HasT Tryz.prog [4] 162 (Zb 180 181 182 264 5):=⟨_,Tryz.func162,tcf162⟩
def tcf163:Qn Tryz.prog [] Tryz.f163=some (Qb6):=by kernel_rfl
def h163:Has Tryz.prog 163 (Qb6):=⟨_,Tryz.func163,tcf163⟩
def tcf51:Qn Tryz.prog [] Tryz.f51=some (Qk7):=by kernel_rfl
def tcf32:Qn Tryz.prog [] Tryz.f32=some (Qdu 51 52 53):=by kernel_rfl
def tcf52:Qn Tryz.prog [] Tryz.f52=some (Qcw):=by kernel_rfl
def h52:Has Tryz.prog 52 (Qcw):=⟨_,Tryz.func52,tcf52⟩
def tcf53:Qn Tryz.prog [] Tryz.f53=some (Qbq):=by kernel_rfl
def h53:Has Tryz.prog 53 (Qbq):=⟨_,Tryz.func53,tcf53⟩
end
section
open Go Go.Zam Go.Proofs Go.Shelf
def Qs2:Ren:=⟨λn=>match n with|240=>200|276=>210|169=>182|n=>n,λt=>match t with|0=>0|3=>3|4=>4|5=>5|9=>9|20=>20|37=>262|70=>261|72=>264|127=>273|164=>279|n=>n,λg=>g⟩
def lay240:Lays.n240 Tryz.prog Qs2 where
 mixed:=by kernel_rfl
 f240:=Tryz.func200.trans (congrArg some (by kernel_rfl));f276:=Tryz.func210.trans (congrArg some (by kernel_rfl));t0:=by kernel_rfl
 a0:=Tryz.isAgg0;z0:=λ_=>by kernel_rfl
 v0:=Tryz.zeroValue0;t4:=by kernel_rfl
 a4:=Tryz.isAgg4;z4:=λ_=>by kernel_rfl
 v4:=Tryz.zeroValue4;t9:=by kernel_rfl
 a9:=Tryz.isAgg9;z9:=λ_=>by kernel_rfl
 v9:=Tryz.zeroValue9;t20:=by kernel_rfl
 a20:=Tryz.isAgg20;z20:=λ_=>by kernel_rfl
 v20:=Tryz.zeroValue20;t70:=by kernel_rfl
 a70:=Tryz.isAgg261;z70:=λ_=>by kernel_rfl
 v70:=Tryz.zeroValue261;t72:=by kernel_rfl
 a72:=Tryz.isAgg264;z72:=λ_=>by kernel_rfl
 v72:=Tryz.zeroValue264;t164:=by kernel_rfl
 a164:=Tryz.isAgg279;z164:=λ_=>by kernel_rfl
 v164:=Tryz.zeroValue279
def lay169:Lays.n169 Tryz.prog Qs2 where
 mixed:=by kernel_rfl
 f169:=Tryz.func182.trans (congrArg some (by kernel_rfl));t0:=by kernel_rfl
 a0:=Tryz.isAgg0;z0:=λ_=>by kernel_rfl
 v0:=Tryz.zeroValue0;t3:=by kernel_rfl
 a3:=Tryz.isAgg3;z3:=λ_=>by kernel_rfl
 v3:=Tryz.zeroValue3;t9:=by kernel_rfl
 a9:=Tryz.isAgg9;z9:=λ_=>by kernel_rfl
 v9:=Tryz.zeroValue9;t37:=by kernel_rfl
 a37:=Tryz.isAgg262;z37:=λ_=>by kernel_rfl
 v37:=Tryz.zeroValue262;t70:=by kernel_rfl
 a70:=Tryz.isAgg261;z70:=λ_=>by kernel_rfl
 v70:=Tryz.zeroValue261;t72:=by kernel_rfl
 a72:=Tryz.isAgg264;z72:=λ_=>by kernel_rfl
 v72:=Tryz.zeroValue264;t127:=by kernel_rfl
 a127:=Tryz.isAgg273;z127:=λ_=>by kernel_rfl
 v127:=Tryz.zeroValue273
def Qrh:Builder.Extra Tryz.prog Qs2 where
 sizeBuilder:=by kernel_rfl
 liesBuilder:=by kernel_rfl
 t5:=by kernel_rfl
 a5:=Tryz.isAgg5;z5:=λ_=>by kernel_rfl
 v5:=Tryz.zeroValue5;infoByte:=by kernel_rfl
 cellsByte:=by kernel_rfl
 sizeByte:=by kernel_rfl
 neB5:=by decide
def Qrb{H:Hp}{i:Nat}{x a:A}(hi:H[i]?=some (.box 264 [a,x]))(ha:a=.d .nilp\/a=.ptr i 0):
 Qc Tryz.prog 200 [.ptr i 0] H (λr H'=>r=.tup []/\H'=H.set i (.box 264 [.ptr i 0,x])):=Qkp lay240 Qrh.toX72 hi ha
def Qv9{H:Hp}{i t:Nat}{a:A}{s:List UInt8}(hi:H[i]?=some (.box 264 [a,.osl true 1 (Yb s) t]))(ht:H[t]?=some (.tok s.length 1 5))(hlen:s.length<=4611686018427387904):
 Qc Tryz.prog 182 [.ptr i 0] H (λr H'=>r=YS s/\H'=H):=Qol lay169 Qrh hi ht hlen
end
section
open Go Go.Zam Go.Proofs
open Go.RowKit (Below)
def Qza:Que Tryz.prog 180:=λs c H=>by
 refine leaf (args:=[.str s,.int .u8 c.toNat]) (x:=.int .i64 (Lib.indexByte s c)) (λw σ vs _ hl hv=>?_) H;match vs,hl with
 |[v0,v1],_=>
 have e0:=(hv 0 v0 _ rfl rfl).str_inv;have e1:=(hv 1 v1 _ rfl rfl).int_inv;subst e0;subst e1;refine(Tryz.strings_IndexByte ⟨s.toArray⟩ c.toNat w).mono ?_;rintro e w' ⟨rfl,rfl⟩;refine⟨_,rfl,Below.refl _ _,λσ=>?_⟩;have:(Int.toNat (c.toNat:Int)).toUInt8=c:=by simp
 rw[this];exact .int _ _
def Qwz:Qrr Tryz.prog 164:=λs p H=>by
 refine leaf (args:=[.str s,.str p]) (x:=.bool (p.isPrefixOf s)) (λw σ vs _ hl hv=>?_) H;match vs,hl with
 |[v0,v1],_=>
 have e0:=(hv 0 v0 _ rfl rfl).str_inv;have e1:=(hv 1 v1 _ rfl rfl).str_inv;subst e0;subst e1;refine(Tryz.strings_HasPrefix ⟨s.toArray⟩ ⟨p.toArray⟩ w).mono ?_;rintro e w' ⟨rfl,rfl⟩;exact⟨_,rfl,Below.refl _ _,λσ=>.bool _⟩
def Qxw{H0:Hp}(hG:Qcm 0 1 2 3 H0):Qrv Tryz.prog H0 122:=λs H hp=>by
 refine Qz2 (args:=[.str s]) hG (λw σ vs hT hl hv=>?_) H hp;match vs,hl with
 |[v0],_=>
 have e0:=(hv 0 v0 _ rfl rfl).str_inv;subst e0;refine(Tryz.utf8_DecodeRuneInString ⟨s.toArray⟩ w hT.1).mono ?_;rintro e w' ⟨rfl,hb⟩;refine⟨_,rfl,hb,λκ=>?_⟩;rw[Qra];refine VR.tup [_,_] [_,_] rfl λi v a hi ha=>?_;match i with
 |0=>cases hi;cases ha;exact .d (.int _ _)
 |1=>cases hi;cases ha;exact .d (.int _ _)
 |i+2=>cases hi
def Qqa(s:ByteArray)(hlim:s.size<=1048576)(w:World)(h0:∃te pe,w.cell? ⟨2,0,none⟩=some (.iface te pe))(h1:∃te pe,w.cell? ⟨3,0,none⟩=some (.iface te pe)):
 Calls Tryz.prog 128 #[.string s] w λe w'=>e=.returned (.int .i64 (if Qct s.data.toList then 0 else 23))/\Below w.heap.size w w':=by
 obtain⟨t0,p0,h0⟩:=h0;obtain⟨t1,p1,h1⟩:=h1;rcases h:Lib.parseUintB 63 s.data.toList with u|_|_
 .have hr:Qct s.data.toList=true:=by simp only[Qct,h]
  rw[hr];go_enter Tryz.func128,Tryz.ntmps128;go_wp2_with (go_at_call 161;refine(Any.strconv_ParseUint_10_at63_ok Tryz.laysPu14 s (by omega) u h _).mono ?_;rintro e w' ⟨rfl,hw⟩);go_wp2;go_ret;refine⟨by first|rfl|(congr 2;omega),?_⟩;rcases hw with rfl|rfl
  .exact Below.refl _ _
  .exact Lib.bytesWorld_below _ _ _
 .have hr:Qct s.data.toList=false:=by simp only[Qct,h]
  rw[hr];go_enter Tryz.func128,Tryz.ntmps128;go_wp2_with (go_at_call 161;refine(Any.strconv_ParseUint_10_at63_syntax Tryz.laysPu14 s (by omega) h (.iface t0 p0) _ ?_ (.inr ⟨_,_,rfl⟩)).mono ?_)
  .exact h0
  rintro e W1 ⟨N,rfl,-,-,hb⟩;go_wp2;go_ret;exact⟨rfl,hb⟩
 .have hr:Qct s.data.toList=false:=by simp only[Qct,h]
  rw[hr];go_enter Tryz.func128,Tryz.ntmps128;go_wp2_with (go_at_call 161;refine(Any.strconv_ParseUint_10_at63_range Tryz.laysPu14 s (by omega) h (.iface t1 p1) _ ?_ (.inr ⟨_,_,rfl⟩)).mono ?_)
  .exact h1
  rintro e W1 ⟨N,rfl,-,-,hb⟩;go_wp2;go_ret;exact⟨rfl,hb⟩
def Qw8{H0:Hp}(hG:Qcm 0 1 2 3 H0):Qz8 Tryz.prog H0 128:=λs H hp hl=>by
 refine Qz2 (args:=[.str s]) (x:=.d _) hG (λw σ vs hT hl' hv=>?_) H hp;match vs,hl' with
 |[v0],_=>
 have e0:=(hv 0 v0 _ rfl rfl).str_inv;subst e0;refine(Qqa ⟨s.toArray⟩ (by simpa[ByteArray.size]using hl) w hT.2.1 hT.2.2).mono ?_;rintro e w' ⟨rfl,hb⟩;exact⟨_,rfl,hb,λκ=>.d (.int _ _)⟩
def cfWB:Qn Tryz.prog [] Tryz.f181=some (Qcu 200 5):=by kernel_rfl
def Q1n:Qyd Tryz.prog 200 264:=λH i x a hi ha=>Qrb hi ha
def Qv2:Qrp Tryz.prog 181 264:=λH i t a bs c=>Qkn Tryz.func181 cfWB Q1n H i t a bs c
def Qup:Qrq Tryz.prog 182 264:=λH i t a s hi ht hl=>Qv9 hi ht (by omega)
def Qui(s:Bs)(H:Hp)(hs:s.length<=1048576):Qc Tryz.prog 162 [YS s] H (λr H'=>r=unqR (unqV s)/\H'=H):=h162.unquote Qza Qv2 Qup s hs H
def Ql6:Vb Tryz.prog 67 Wh:=h67.letter
def Qo7:Vb Tryz.prog 69 Wc:=h69.digit
def Qtu(s:Bs)(H:Hp):Qc Tryz.prog 68 [YS s] H (λr H'=>r=YB (decide (s∈Yu))/\H'=H):=h68.isKey h99 h98 h146 s H
def Qxm(s:Bs)(H:Hp):Qc Tryz.prog 48 [YS s] H (λr H'=>r=YB (Yz s)/\H'=H):=h48.isName Ql6 Qo7 Qtu s H
def Q0l{H:Hp}{i:Nat}{ts:TypeId}{text:Bs}{n:Nat}(hi:H[i]?=some (scan ts text n))(hn:n<=text.length)(hl:text.length<=1048576):
 Qc Tryz.prog 127 [.ptr i 0] H (λr H'=>r=YS ((text.drop n).take (Zam.runN Zam.wordB (text.drop n)))/\H'=H.set i (scan ts text (n+Zam.runN Zam.wordB (text.drop n)))):=
 h127.word h123 (by kernel_rfl) (h160.wordB Ql6 Qo7) hi hn (by omega)
def Q08{H:Hp}{i:Nat}{text:Bs}{n:Nat}(hi:H[i]?=some (scan 167 text n))(hn:n<=text.length)(hl:text.length<=1048576):
 Qc Tryz.prog 87 [.ptr i 0] H (λr H'=>r=YS ((text.drop n).take (Qo false (text.drop n)))/\H'=H.set i (scan 167 text (n+Qo false (text.drop n)))):=
 h87.lead h123 (by kernel_rfl) h124.blank (by kernel_rfl) h125.hash (by kernel_rfl) h126.noNl hi hn (by omega)
def Q04{H0:Hp}(hG:Qcm 0 1 2 3 H0){H:Hp}{i:Nat}{text:Bs}{n:Nat}(hH:Pre0 H0 H)(h0i:H0.length<=i)(hi:H[i]?=some (scan 167 text n))(hn:n<=text.length)(hl:text.length<=1048576):
 Qc Tryz.prog 88 [.ptr i 0] H (Qof H i 167 text n (text.drop n) (tokN (text.drop n))):=
 h88.next h123 (by kernel_rfl) Ql6 (by kernel_rfl) Qo7 Q0l Qtu (Qw8 hG) (λhi hn hl=>h129.str Qui hi hn hl) (λhi hn hl=>h130.sign h163 Qwz hi hn (by omega)) hH h0i hi hn hl
def badOk{H0:Hp}(hG:Qcm 0 1 2 3 H0)(s:Bs)(H:Hp)(hs:s.length<=1048576)(hH:Pre0 H0 H):Qc Tryz.prog 86 [YS s] H (λr H'=>r=YI (badS s)/\H'=H):=h86.bad (Qxw hG) s hs H hH
def lexOk{H0:Hp}(hG:Qcm 0 1 2 3 H0)(s:Bs)(hs:s.length<=1048576)(H:Hp)(hH:Pre0 H0 H):
 Qc Tryz.prog 60 [YS s] H (λr H'=>r=.tup [YL true 4 ((lexS s).1.map Qp),YI (lexS s).2.1,YI (lexS s).2.2]/\H'=H):=
 h60.lex (badOk hG) Q08 (Q04 hG) s hs H hH
def Qp2:Vb Tryz.prog 52 Wc:=h52.digit
def Qnr:Vb Tryz.prog 53 Wh:=h53.letter
def Qp0(s:Bs)(H:Hp):Qc Tryz.prog 51 [YS s] H (λr H'=>r=YB (decide (s∈Yu))/\H'=H):=Qqk Tryz.func51 tcf51 s H
def Qux(s:Bs)(H:Hp):Qc Tryz.prog 32 [YS s] H (λr H'=>r=YB (Yz s)/\H'=H):=Qov Tryz.func32 tcf32 Qp0 Qp2 Qnr s H
end
section
open Go Go.Zam Go.Proofs
def pcf132:Qn Tryz.prog [] Tryz.f132=some (Qmn 47):=by kernel_rfl
def ph132:Has Tryz.prog 132 (Qmn 47):=⟨_,Tryz.func132,pcf132⟩
def pcf137:Qn Tryz.prog [] Tryz.f137=some (Qgh):=by kernel_rfl
def ph137:Has Tryz.prog 137 (Qgh):=⟨_,Tryz.func137,pcf137⟩
def pcf133:Qn Tryz.prog [] Tryz.f133=some (Qqm 132 47):=by kernel_rfl
def ph133:Has Tryz.prog 133 (Qqm 132 47):=⟨_,Tryz.func133,pcf133⟩
def pcf184:Qn Tryz.prog [] Tryz.f184=some (Qgg 133):=by kernel_rfl
def ph184:Has Tryz.prog 184 (Qgg 133):=⟨_,Tryz.func184,pcf184⟩
def pcf165:Qn Tryz.prog [] Tryz.f165=some (Qic 184 137):=by kernel_rfl
def ph165:Has Tryz.prog 165 (Qic 184 137):=⟨_,Tryz.func165,pcf165⟩
def pcf166:Qn Tryz.prog [] Tryz.f166=some (Qia 132 137 47):=by kernel_rfl
def ph166:Has Tryz.prog 166 (Qia 132 137 47):=⟨_,Tryz.func166,pcf166⟩
def pcf131:Qn Tryz.prog [10] Tryz.f131=some (Qih 37):=by kernel_rfl
def ph131:HasT Tryz.prog [10] 131 (Qih 37):=⟨_,Tryz.func131,pcf131⟩
def pcf138:Qn Tryz.prog [] Tryz.f138=some (Qim 37):=by kernel_rfl
def ph138:Has Tryz.prog 138 (Qim 37):=⟨_,Tryz.func138,pcf138⟩
def pcf134:Qn Tryz.prog [] Tryz.f134=some (Qmm 37):=by kernel_rfl
def ph134:Has Tryz.prog 134 (Qmm 37):=⟨_,Tryz.func134,pcf134⟩
def pcf185:Qn Tryz.prog [] Tryz.f185=some (Qii 184 134 165):=by kernel_rfl
def ph185:Has Tryz.prog 185 (Qii 184 134 165):=⟨_,Tryz.func185,pcf185⟩
def pcf89:Qn Tryz.prog [] Tryz.f89=some (Qik 131 132 133 135 134 136 137 138 37):=by kernel_rfl
def ph89:Has Tryz.prog 89 (Qik 131 132 133 135 134 136 137 138 37):=⟨_,Tryz.func89,pcf89⟩
def pcf135:Qn Tryz.prog [] Tryz.f135=some (Qmk 131 165 166 138 134 37):=by kernel_rfl
def ph135:Has Tryz.prog 135 (Qmk 131 165 166 138 134 37):=⟨_,Tryz.func135,pcf135⟩
def pcf136:Qn Tryz.prog [] Tryz.f136=some (Qmo 131 165 166 167 168 169 134 138 37):=by kernel_rfl
def ph136:Has Tryz.prog 136 (Qmo 131 165 166 167 168 169 134 138 37):=⟨_,Tryz.func136,pcf136⟩
def pcf167:Qn Tryz.prog [] Tryz.f167=some (Qdt 131 165 186 185 138 171 37):=by kernel_rfl
def ph167:Has Tryz.prog 167 (Qdt 131 165 186 185 138 171 37):=⟨_,Tryz.func167,pcf167⟩
def pcf186:Qn Tryz.prog [] Tryz.f186=some (Qfp 131 166 168 134 138 37):=by kernel_rfl
def ph186:Has Tryz.prog 186 (Qfp 131 166 168 134 138 37):=⟨_,Tryz.func186,pcf186⟩
def pcf168:Qn Tryz.prog [] Tryz.f168=some (Qfo 184 187 37):=by kernel_rfl
def ph168:Has Tryz.prog 168 (Qfo 184 187 37):=⟨_,Tryz.func168,pcf168⟩
def pcf187:Qn Tryz.prog [] Tryz.f187=some (Qij 131 184 201 185 165 187 134 137 138 171 37):=by kernel_rfl
def ph187:Has Tryz.prog 187 (Qij 131 184 201 185 165 187 134 137 138 171 37):=⟨_,Tryz.func187,pcf187⟩
def pcf201:Qn Tryz.prog [] Tryz.f201=some (Qds 131 166 165 187 134 138 37):=by kernel_rfl
def ph201:Has Tryz.prog 201 (Qds 131 166 165 187 134 138 37):=⟨_,Tryz.func201,pcf201⟩
def pcf169:Qn Tryz.prog [] Tryz.f169=some (Qfr 131 165 184 188 134 138 37):=by kernel_rfl
def ph169:Has Tryz.prog 169 (Qfr 131 165 184 188 134 138 37):=⟨_,Tryz.func169,pcf169⟩
def pcf188:Qn Tryz.prog [] Tryz.f188=some (Qie 131 184 166 168 134 165 202 169 138 203 37):=by kernel_rfl
def ph188:Has Tryz.prog 188 (Qie 131 184 166 168 134 165 202 169 138 203 37):=⟨_,Tryz.func188,pcf188⟩
def pcf203:Qn Tryz.prog [] Tryz.f203=some (Qif 132 47):=by kernel_rfl
def ph203:Has Tryz.prog 203 (Qif 132 47):=⟨_,Tryz.func203,pcf203⟩
def pcf202:Qn Tryz.prog [] Tryz.f202=some (Qil 211 184 212 37):=by kernel_rfl
def ph202:Has Tryz.prog 202 (Qil 211 184 212 37):=⟨_,Tryz.func202,pcf202⟩
def pcf212:Qn Tryz.prog [] Tryz.f212=some (Qib 37):=by kernel_rfl
def ph212:Has Tryz.prog 212 (Qib 37):=⟨_,Tryz.func212,pcf212⟩
def pcf211:Qn Tryz.prog [] Tryz.f211=some (Qml 215 184 212 37):=by kernel_rfl
def ph211:Has Tryz.prog 211 (Qml 215 184 212 37):=⟨_,Tryz.func211,pcf211⟩
def pcf215:Qn Tryz.prog [] Tryz.f215=some (Qid 218 184 212 37):=by kernel_rfl
def ph215:Has Tryz.prog 215 (Qid 218 184 212 37):=⟨_,Tryz.func215,pcf215⟩
def pcf218:Qn Tryz.prog [15] Tryz.f218=some (Qig 224 184 166 202 185 138 37):=by kernel_rfl
def ph218:HasT Tryz.prog [15] 218 (Qig 224 184 166 202 185 138 37):=⟨_,Tryz.func218,pcf218⟩
def pcf224:Qn Tryz.prog [4000000] Tryz.f224=some (Qin 131 132 166 184 202 134 165 230 185 167 168 169 137 138 171 37 47):=by kernel_rfl
def ph224:HasT Tryz.prog [4000000] 224 (Qin 131 132 166 184 202 134 165 230 185 167 168 169 137 138 171 37 47):=⟨_,Tryz.func224,pcf224⟩
def pcf230:Qn Tryz.prog [] Tryz.f230=some (Qfq 131 166 165 202 134 138 37):=by kernel_rfl
def ph230:Has Tryz.prog 230 (Qfq 131 166 165 202 134 138 37):=⟨_,Tryz.func230,pcf230⟩
def pcf61:Qn Tryz.prog [] Tryz.f61=some (Qbp 89 90 37 173):=by kernel_rfl
def ph61:Has Tryz.prog 61 (Qbp 89 90 37 173):=⟨_,Tryz.func61,pcf61⟩
def pcf43:Qn Tryz.prog [] Tryz.f43=some (Qql 60 61 37):=by kernel_rfl
def ph43:Has Tryz.prog 43 (Qql 60 61 37):=⟨_,Tryz.func43,pcf43⟩
def pcf90:Qn Tryz.prog [] Tryz.f90=some (Qdk 90 37):=by kernel_rfl
def ph90:Has Tryz.prog 90 (Qdk 90 37):=⟨_,Tryz.func90,pcf90⟩
def F:PF:={now:=132,fail:=137,is:=133,took:=184,want:=165,word:=166,node:=131,done:=138,put:=134,list:=185,file:=89,use_:=135,def_:=136,params:=167,param:=186,typed:=168,kind:=187,tfield:=201,block:=169,stmt:=188,sets:=203,expr:=202,with_:=212,sum:=211,term:=215,post:=218,atom:=224,entry:=230,tn:=37,tt:=47,tp:=173,tb:=171}
def has:PHas Tryz.prog F where
 now:=ph132
 fail:=ph137
 is:=ph133
 took:=ph184
 want:=ph165
 word:=ph166
 node:=ph131
 done:=ph138
 put:=ph134
 list:=ph185
 file:=ph89
 use_:=ph135
 def_:=ph136
 params:=ph167
 param:=ph186
 typed:=ph168
 kind:=ph187
 tfield:=ph201
 block:=ph169
 stmt:=ph188
 sets:=ph203
 expr:=ph202
 with_:=ph212
 sum:=ph211
 term:=ph215
 post:=ph218
 atom:=ph224
 entry:=ph230
 kParam:=by kernel_rfl
 kTField:=by kernel_rfl
 kKind:=by kernel_rfl
 kExpr:=by kernel_rfl
 kSum:=by kernel_rfl
 kTerm:=by kernel_rfl
 kPost:=by kernel_rfl
 kEntry:=by kernel_rfl
def Qy1(z:Bool)(L:List Tk)(hL:L.length<=1048576)(hEq:∀i,isT L i [61]=true->kdT L i=5)(H:Hp):Qc Tryz.prog 61 [YL z 4 (L.map Qp)] H (λr H'=>r=.tup [(Q5 L).1.v,YI (Q5 L).2.1,YI (Q5 L).2.2]/\H'=H):=Has.parse (F:=F) ph61 has ph90 hL hEq H
def ofOk{H0:Hp}(hG:Qcm 0 1 2 3 H0)(s:Bs)(hs:s.length<=1048576)(H:Hp)(hH:Pre0 H0 H):Qc Tryz.prog 43 [YS s] H (λr H'=>r=.tup [YL true 4 ((Qx s).1.map Qp),(Qx s).2.1.v,YI (Qx s).2.2.1,YI (Qx s).2.2.2]/\H'=H):=Has.of_ ph43 (λs hs H hH=>lexOk hG s hs H hH) Qy1 s hs H hH
end
end Go.Proofs.Zw
namespace Go.Zam
variable{P:Program}
section
open Go.Proofs
def Qoy(c1 c2 t1:Nat):IFn:=by
 have h:=Ix.J [] Tryz.f49 [(70,c1),(71,c2)] [(37,t1)] [(6,(.o 0 (.o 1 (.o 2 (.o 3 (.o 7 (.b (.o 4 (.o 5 (.b (.o 6 (.o 8 (.o 9 (.o 10 .n)))) (.o 8 (.o 9 (.o 6 (.o 10 .n))))))) (.o 8 (.o 9 (.o 4 (.o 5 (.o 6 (.o 10 .n)))))))))))))];conv at h=>arg 1;reduce
 exact h.p
def Qa1(c1 c2 t1 t2:Nat):IFn:=by
 have h:=Ix.J [] Tryz.f71 [(103,c1),(104,c2)] [(37,t1),(190,t2)] [(6,(.o 0 (.o 1 (.o 2 (.o 3 (.b (.o 4 (.o 5 (.o 6 (.o 7 .n)))) (.o 5 (.o 6 (.o 4 (.o 7 .n))))))))))];conv at h=>arg 1;reduce
 exact h.p
def Qfk(c1 c2 c3 c4 c5 t1:Nat):IFn:=by
 have h:=Ix.J [9] Tryz.f204 [(149,c1),(174,c2),(175,c3),(204,c4),(152,c5)] [(37,t1)];conv at h=>arg 1;reduce
 exact h.p
def Qdp(c1 t1:Nat):IFn:=by
 have h:=Ix.J [] Tryz.f104 [(104,c1)] [(37,t1)];conv at h=>arg 1;reduce
 exact h.p
def Qmi(c1 c2 c3 c4 t1:Nat):IFn:=by
 have h:=Ix.J [4] Tryz.f103 [(149,c1),(150,c2),(151,c3),(152,c4)] [(37,t1)];conv at h=>arg 1;reduce
 exact h.p
def Qjk(t1:Nat):IFn:=by
 have h:=Ix.J [] Tryz.f149 [] [(47,t1)];conv at h=>arg 1;reduce
 exact h.p
def Qdm(t1:Nat):IFn:=by
 have h:=Ix.J [] Tryz.f174 [] [(37,t1)];conv at h=>arg 1;reduce
 exact h.p
def Qdn(c1:Nat):IFn:=by
 have h:=Ix.J [] Tryz.f175 [(149,c1)] [];conv at h=>arg 1;reduce
 exact h.p
def Qa2(t1:Nat):IFn:=by
 have h:=Ix.J [] Tryz.f152 [] [(37,t1)];conv at h=>arg 1;reduce
 exact h.p
def Qox(c1 c2 c3 t1:Nat):IFn:=by
 have h:=Ix.J [] Tryz.f150 [(174,c1),(175,c2),(152,c3)] [(37,t1)];conv at h=>arg 1;reduce
 exact h.p
def Qoz(c1 c2 c3 c4 t1:Nat):IFn:=by
 have h:=Ix.J [] Tryz.f151 [(175,c1),(174,c2),(176,c3),(152,c4)] [(37,t1)];conv at h=>arg 1;reduce
 exact h.p
def Qg4(c1 c2 c3 t1:Nat):IFn:=by
 have h:=Ix.J [] Tryz.f176 [(190,c1),(191,c2),(192,c3)] [(37,t1)];conv at h=>arg 1;reduce
 exact h.p
def Qeh(c1 c2 c3 c4 c5 t1:Nat):IFn:=by
 have h:=Ix.J [7] Tryz.f190 [(175,c1),(149,c2),(174,c3),(191,c4),(152,c5)] [(37,t1)];conv at h=>arg 1;reduce
 exact h.p
def Qdo(c1 c2 t1:Nat):IFn:=by
 have h:=Ix.J [] Tryz.f191 [(149,c1),(204,c2)] [(37,t1)];conv at h=>arg 1;reduce
 exact h.p
def Qge(c1 c2 c3 c4 t1:Nat):IFn:=by
 have h:=Ix.J [7] Tryz.f192 [(175,c1),(149,c2),(205,c3),(152,c4)] [(37,t1)];conv at h=>arg 1;reduce
 exact h.p
def Zo(c1 c2 c3 c4 c5 c6 c7 t1:Nat):IFn:=by
 have h:=Ix.J [8,47] Tryz.f205 [(149,c1),(213,c2),(192,c3),(152,c4),(174,c5),(191,c6),(175,c7)] [(37,t1)];conv at h=>arg 1;reduce
 exact h.p
def Qh4(c1 c2 c3 t1:Nat):IFn:=by
 have h:=Ix.J [] Tryz.f213 [(216,c1),(149,c2),(152,c3)] [(37,t1)];conv at h=>arg 1;reduce
 exact h.p
def Qk3(c1 c2 c3 t1:Nat):IFn:=by
 have h:=Ix.J [] Tryz.f216 [(219,c1),(149,c2),(152,c3)] [(37,t1)];conv at h=>arg 1;reduce
 exact h.p
def Qh2(c1 c2 c3 t1:Nat):IFn:=by
 have h:=Ix.J [] Tryz.f219 [(225,c1),(149,c2),(152,c3)] [(37,t1)];conv at h=>arg 1;reduce
 exact h.p
def Qh3(c1 c2 c3 c4 c5 c6 t1:Nat):IFn:=by
 have h:=Ix.J [10,56] Tryz.f225 [(231,c1),(149,c2),(174,c3),(152,c4),(213,c5),(175,c6)] [(37,t1)];conv at h=>arg 1;reduce
 exact h.p
def Zp(c1 c2 c3 c4 c5 c6 t1 t2:Nat):IFn:=by
 have h:=Ix.J [11] Tryz.f231 [(149,c1),(213,c2),(175,c3),(152,c4),(174,c5),(176,c6)] [(37,t1),(47,t2)];conv at h=>arg 1;reduce
 exact h.p
def Qh5(c1 c2 c3 t1:Nat):IFn:=by
 have h:=Ix.J [6] Tryz.f70 [(100,c1),(101,c2),(102,c3)] [(47,t1)];conv at h=>arg 1;reduce
 exact h.p
def Qh6:IFn:=by
 have h:=Ix.J [] Tryz.f101 [] [];conv at h=>arg 1;reduce
 exact h.p
def Qk4(c1 c2 c3 c4:Nat):IFn:=by
 have h:=Ix.J [] Tryz.f102 [(53,c1),(52,c2),(51,c3),(148,c4)] [];conv at h=>arg 1;reduce
 exact h.p
def Qk5(c1:Nat):IFn:=by
 have h:=Ix.J [] Tryz.f100 [(147,c1)] [];conv at h=>arg 1;reduce
 exact h.p
def Y5(c1:Nat):IFn:=by
 have h:=Ix.J [] Tryz.f147 [(173,c1)] [];conv at h=>arg 1;reduce
 exact h.p
def Qh7:IFn:=by
 have h:=Ix.J [] Tryz.f173 [] [];conv at h=>arg 1;reduce
 exact h.p
def Zq:IFn:=by
 have h:=Ix.J [] Tryz.f148 [] [];conv at h=>arg 1;reduce
 exact h.p
end
section
def Qc1(b:UInt8):Bool:=decide ((128:Int)<=b.toNat)&&decide ((b.toNat:Int)<192)
def Qrf{s:Bs}{n k:Nat}(h:n+k<s.length):Yc s ((n:Int)+k)=some ((s.drop n).getD k 0):=by
 have e:((n:Int)+k)=((n+k:Nat):Int):=by omega
 rw[e,Qaa,Q3a,Q4d,Q12 h];rfl
def dec_0{n b0 b1 b2 b3:Nat}(h:b0<128):Lib.decodeN n b0 b1 b2 b3=(b0,1):=by simp[Lib.decodeN,h]
def Qxx{n b0 b1 b2 b3:Nat}(h:¬b0<128)(h2:¬(192<=b0/\b0<248)):Lib.decodeN n b0 b1 b2 b3=(65533,1):=by unfold Lib.decodeN;rw[if_neg h,if_neg (by omega),if_neg (by omega),if_neg (by omega)]
def dec_2{n b0 b1 b2 b3:Nat}(h:192<=b0/\b0<224):Lib.decodeN n b0 b1 b2 b3=if 1<n/\(128<=b1/\b1<192)/\128<=(b0-192)*64+(b1-128)then((b0-192)*64+(b1-128),2)else(65533,1):=by
 unfold Lib.decodeN;rw[if_neg (by omega)];by_cases h1:1<n/\(128<=b1/\b1<192)
 .have e:b0%32*64+b1%64=(b0-192)*64+(b1-128):=by omega
  rw[if_pos (by omega),e];by_cases h3:128<=(b0-192)*64+(b1-128)
  .rw[if_pos h3,if_pos ⟨h1.1,h1.2,h3⟩]
  .rw[if_neg (by omega),if_neg (by omega)]
 .rw[if_neg (by omega),if_neg (by omega),if_neg (by omega),if_neg (λq=>h1 ⟨q.1,q.2.1⟩)]
def dec_3{n b0 b1 b2 b3:Nat}(h:224<=b0/\b0<240):Lib.decodeN n b0 b1 b2 b3=if 2<n/\(128<=b1/\b1<192)/\(128<=b2/\b2<192)/\2048<=(b0-224)*4096+(b1-128)*64+(b2-128)/\¬(55296<=(b0-224)*4096+(b1-128)*64+(b2-128)/\(b0-224)*4096+(b1-128)*64+(b2-128)<57344)then((b0-224)*4096+(b1-128)*64+(b2-128),3)else(65533,1):=by
 unfold Lib.decodeN;rw[if_neg (by omega),if_neg (by omega)];by_cases h1:2<n/\(128<=b1/\b1<192)/\(128<=b2/\b2<192)
 .have e:b0%16*4096+b1%64*64+b2%64=(b0-224)*4096+(b1-128)*64+(b2-128):=by omega
  rw[if_pos (by omega),e];generalize hV:(b0-224)*4096+(b1-128)*64+(b2-128)=V;by_cases h3:2048<=V/\¬(55296<=V/\V<57344)
  .rw[if_pos (by omega),if_pos ⟨h1.1,h1.2.1,h1.2.2,h3⟩]
  .rw[if_neg (by omega),if_neg (λq=>h3 q.2.2.2)]
 .rw[if_neg (by omega),if_neg (by omega),if_neg (λq=>h1 ⟨q.1,q.2.1,q.2.2.1⟩)]
def dec_4{n b0 b1 b2 b3:Nat}(h:240<=b0/\b0<248):Lib.decodeN n b0 b1 b2 b3=if 3<n/\(128<=b1/\b1<192)/\(128<=b2/\b2<192)/\(128<=b3/\b3<192)/\65536<=(b0-240)*262144+(b1-128)*4096+(b2-128)*64+(b3-128)/\(b0-240)*262144+(b1-128)*4096+(b2-128)*64+(b3-128)<=1114111 then((b0-240)*262144+(b1-128)*4096+(b2-128)*64+(b3-128),4)else(65533,1):=by
 unfold Lib.decodeN;rw[if_neg (by omega),if_neg (by omega),if_neg (by omega)];by_cases h1:3<n/\(128<=b1/\b1<192)/\(128<=b2/\b2<192)/\(128<=b3/\b3<192)
 .have e:b0%8*262144+b1%64*4096+b2%64*64+b3%64=(b0-240)*262144+(b1-128)*4096+(b2-128)*64+(b3-128):=by omega
  rw[if_pos (by omega),e];generalize hV:(b0-240)*262144+(b1-128)*4096+(b2-128)*64+(b3-128)=V;by_cases h3:65536<=V/\V<=1114111
  .rw[if_pos (by omega),if_pos ⟨h1.1,h1.2.1,h1.2.2.1,h1.2.2.2,h3⟩]
  .rw[if_neg (by omega),if_neg (λq=>h3 q.2.2.2.2)]
 .rw[if_neg (by omega),if_neg (λq=>h1 ⟨q.1,q.2.1,q.2.2.1,q.2.2.2.1⟩)]
def Qt1(S:Bs):Bool:= !(decide ((decU S).1=65533)&&decide ((decU S).2=1))
def Qpk(S:Bs)(H:Hp):A->Hp->Prop:=λr H'=>∃v:Int,r=.tup [YI v,YI ((decU S).2:Int),YB (Qt1 S)]/\H'=H
def Has.more3{f}(h:Has P f Qh7):Vb P f Qc1:=λb H=>by
 refine Qe h (by simp[Qh7]) λO _=>?_;simp[Qh7];generalize ha:decide ((128:Int)<=b.toNat)=a;generalize hb:decide ((b.toNat:Int)<192)=c;have hl:Qc1 b=(a&&c):=by simp only[Qc1,ha,hb]
 cases a<;>cases c<;>simp[ha,hb]<;>simp[RetK,Qb O,hl]
def C.fst:C->C
 |.seq a _=>a
 |c=>c
def C.snd:C->C
 |.seq _ b=>b
 |c=>c
def W3(B:Nat->UInt8)(v:Int):Nat->Int
 |0=>v
 |k+1=>W3 B v k*64+(B (k+1)).toNat-128
def Qz6{B:Nat->UInt8}{v:Int}(h:0<=v/\v<=31):∀k,(∀j,1<=j->j<=k->Qc1 (B j)=true)->k<=3->0<=W3 B v k/\W3 B v k<=32*64^k-1
 |0,_,_=>by simp[W3];omega
 |k+1,hc,hk=>by have h1:=Qz6 h k (λj a b=>hc j a (by omega)) (by omega);have h2:=hc (k+1) (by omega) (Q14 _);simp only[Qc1,Q2t,decide_eq_true_eq]at h2;have e:(64:Int)^(k+1)=64^k*64:=Int.pow_succ ..;simp only[W3,e];omega
def Has.next3{f fm}(h:Has P f (Y5 fm))(hm:Vb P fm Qc1)(s:Bs)(n:Nat)(hn:n<s.length)(hl:s.length<=1048576)(H:Hp):
 Qc P f [YS s,YI n] H (Qpk (s.drop n) H):=by
 refine Qe h (by simp[Y5]) λO _=>?_;have hB:=λk (hk:n+k<s.length)=>Qrf (s:=s) (n:=n) (k:=k) hk;have hne:s.drop n≠[]:=λe=>by have:=Q3n.1 e;omega
 have hD:=Qzh hne;have hSl:(s.drop n).length=s.length-n:=by simp
 rw[hSl]at hD;have hfin:∀(v N:Int)(ok:Bool),N=((decU (s.drop n)).2:Int)->ok=Qt1 (s.drop n)->Qpk (s.drop n) H (.tup [YI v,YI N,YB ok]) H:=λv N ok h1 h2=>⟨v,by rw[h1,h2],rfl⟩;unfold Qt1 at hfin;generalize Qpk (s.drop n) H=Q at hfin⊢;generalize decU (s.drop n)=D at hD hfin;obtain⟨B,hBe⟩:∃B:Nat->UInt8,∀k,(s.drop n).getD k 0=B k:=⟨_,λ_=>rfl⟩;simp only[hBe]at hB hD;clear hBe;have hb0:=hB 0 (by omega);simp only[Q5x,Q40]at hb0;have hwb:∀b:UInt8,IntKind.i64.wrap (b.toNat:Int)=b.toNat:=λb=>Qhh (by have:=b.toNat_lt;omega) (by have:=b.toNat_lt;omega);have hno:D=(65533,1)->∀v,Q (.tup [YI v,YI 1,YB false]) H:=λe v=>hfin _ _ _ (by rw[e];rfl) (by rw[e];rfl);have rest:∀(fr:Fr)(z m:Nat)(lo v0:Int),z=m+1->fr 0=YS s->fr 1=YI n->fr 8=YI z->fr 9=YI v0->fr 10=YI lo->2<=z->z<=4->n+z<=s.length->(0<=v0/\v0<=31)->
  ((∀j,1<=j->j<z->Qc1 (B j)=true)/\lo<=W3 B v0 m/\W3 B v0 m<=1114111/\¬(55296<=W3 B v0 m/\W3 B v0 m<57344)->D.2=z)->
  (¬((∀j,1<=j->j<z->Qc1 (B j)=true)/\lo<=W3 B v0 m/\W3 B v0 m<=1114111/\¬(55296<=W3 B v0 m/\W3 B v0 m<57344))->D=(65533,1))->
  AWp P H.length (Y5 fm).body.snd.snd.snd.snd.snd.snd.snd.snd (Fin (Y5 fm).res H.length Q) fr H:=by
  intro fr z m lo v0 zm f0 f1 f8 f9 f10 z2 z4 hz hv hg hw;simp[Y5,C.snd];refine Qm 0 (λfr H'=>fr 8=YI z/\fr 10=YI lo/\fr 9=YI (W3 B v0 m)/\H'=H/\∀j,1<=j->j<z->Qc1 (B j)=true) (λfr H'=>fr 4=YI 65533/\fr 5=YI 1/\fr 6=YB false/\H'=H/\¬∀j,1<=j->j<z->Qc1 (B j)=true) ?_ ?_ ?_
  .refine Q4 H.length (λd fr H'=>∃k:Nat,d=5-(k+1)/\k+1<=z/\fr 0=YS s/\fr 1=YI n/\fr 8=YI z/\fr 10=YI lo/\fr 11=YI ((k:Int)+1)/\fr 9=YI (W3 B v0 k)/\H'=H/\∀j,1<=j->j<=k->Qc1 (B j)=true) 4 (by simp) ⟨0,rfl,by omega,by simp[f0,f1,f8,f9,f10,W3,Qb O];omega⟩ ?_;rintro d fr H' ⟨k,rfl,kz,f0,f1,f8,f10,f11,f9,rfl,hc⟩;by_cases hk:k+1<z
   .have hk':(k:Int)+1<z:=by omega
    have B1:=hB (k+1) (by omega);rw[Q34,Q6h]at B1;have hW:=Qz6 hv k hc (by omega);have h64:(64:Int)^k<=64^3:=by
     have:k=0\/k=1\/k=2:=by omega
     rcases this with rfl|rfl|rfl<;>decide
    have l1:=(B (k+1)).toNat_lt;have w0:IntKind.i64.wrap ((n:Int)+(k+1))=n+(k+1):=wi64 (by omega);have w1:IntKind.i64.wrap (W3 B v0 k*64)=W3 B v0 k*64:=wi64 (by omega);have w2:IntKind.i64.wrap (W3 B v0 k*64+(B (k+1)).toNat)=W3 B v0 k*64+(B (k+1)).toNat:=wi64 (by omega);have w3:IntKind.i64.wrap (W3 B v0 k*64+(B (k+1)).toNat-128)=W3 B v0 k*64+(B (k+1)).toNat-128:=wi64 (by omega);have w4:IntKind.i64.wrap ((k:Int)+1+1)=k+1+1:=wi64 (by omega);simp[f0,f1,f8,f11,w0,B1,hk'];refine Qa (hm (B (k+1)) _) ?_;cases hcb:Qc1 (B (k+1))with
    |false=>simp;exact⟨k+1,by omega,hk,hcb⟩
    |true=>
     simp[f0,f1,f8,f9,f11,w0,B1,hwb,w1,w2,w3];refine Qg H'.length (5-(k+1+1)) (Q14 _) (by simp) (by omega) ⟨k+1,rfl,by omega,?_⟩;simp[f0,f1,f8,f10,w4,W3,Qb O];intro j a b;rcases Q4f k j with q|q
     .rwa[show j=k+1 by omega]
     .exact hc j a q
   .have e:m=k:=by omega
    have hk':¬(k:Int)+1<z:=by omega
    simp[f8,f11,hk'];simp[f8,f9,f10,e];exactλj a b=>hc j a (by omega)
  .rintro fr H' ⟨f4,f5,f6,rfl,hc⟩;simp;simp[RetK,Qb O,f4,f5,f6];exact hno (hw λq=>hc q.1) _
  .rintro fr H' ⟨f8,f10,f9,rfl,hc⟩;generalize W3 B v0 m=V at f9 hg hw;have good:lo<=V/\V<=1114111/\¬(55296<=V/\V<57344)->Q (.tup [YI V,YI z,YB true]) H':=λq=>by have e:=hg ⟨hc,q⟩;exact hfin _ _ _ (by rw[e]) (by rw[e];simp;omega)
   have bad:¬(lo<=V/\V<=1114111/\¬(55296<=V/\V<57344))->D=(65533,1):=λq=>hw λr=>q r.2;by_cases r1:V<lo
   .simp[f8,f9,f10,r1];simp[RetK,Qb O];exact hno (bad (by omega)) _
   by_cases r2:1114111<V
   .simp[f8,f9,f10,r1,r2];simp[RetK,Qb O];exact hno (bad (by omega)) _
   by_cases r3:55296<=V<;>by_cases r4:V<57344
   case pos=>simp[f8,f9,f10,r1,r2,r3,r4];simp[RetK,Qb O];exact hno (bad (by omega)) _
   all_goals
    simp[f8,f9,f10,r1,r2,r3,r4];simp[RetK,Qb O,f8,f9];exact good (by omega)
 generalize hT:(Y5 fm).body.snd.snd.snd.snd.snd.snd.snd.snd=T at rest;have hbody:(Y5 fm).body=.seq (Y5 fm).body.fst (.seq (Y5 fm).body.snd.fst (.seq (Y5 fm).body.snd.snd.fst (.seq (Y5 fm).body.snd.snd.snd.fst (.seq (Y5 fm).body.snd.snd.snd.snd.fst (.seq (Y5 fm).body.snd.snd.snd.snd.snd.fst (.seq (Y5 fm).body.snd.snd.snd.snd.snd.snd.fst (.seq (Y5 fm).body.snd.snd.snd.snd.snd.snd.snd.fst T))))))):=by rw[<-hT];rfl
 rw[hbody];clear hbody hT;simp[Y5,C.fst,C.snd,hb0,hwb];have hcont:∀b:UInt8,Qc1 b=true↔128<=b.toNat/\b.toNat<192:=λb=>by simp[Qc1];omega
 have l0:=(B 0).toNat_lt;by_cases c0:(B 0).toNat<128
 .have c0':((B 0).toNat:Int)<128:=by omega
  rw[dec_0 c0]at hD;simp[c0'];simp[RetK,Qb O];exact hfin _ _ _ (by rw[hD];rfl) (by rw[hD];simp;omega)
 have c0':¬((B 0).toNat:Int)<128:=by omega
 have wsub:∀k:Int,0<=k->k<=1000->IntKind.i64.wrap (((B 0).toNat:Int)-k)=(B 0).toNat-k:=λk _ _=>wi64 (by omega);have wsn:IntKind.i64.wrap ((s.length:Int)-n)=s.length-n:=wi64 (by omega);by_cases cN:192<=(B 0).toNat/\(B 0).toNat<248
 case neg=>
  rw[Qxx c0 cN]at hD;by_cases x2:(192:Int)<=(B 0).toNat
  .simp[c0',x2,show¬((B 0).toNat:Int)<224 by omega,show(224:Int)<=(B 0).toNat by omega,show¬((B 0).toNat:Int)<240 by omega,show(240:Int)<=(B 0).toNat by omega,show¬((B 0).toNat:Int)<248 by omega];simp[RetK,Qb O];exact hno hD _
  .simp[c0',x2,show¬(224:Int)<=(B 0).toNat by omega,show¬(240:Int)<=(B 0).toNat by omega];simp[RetK,Qb O];exact hno hD _
 have fit:∀z:Nat,(s.length-n<z/\(s.length:Int)-n<z)\/(n+z<=s.length/\¬(s.length:Int)-n<z):=λz=>by omega
 have x0:(192:Int)<=(B 0).toNat:=by omega
 by_cases c2:(B 0).toNat<224
 .rw[dec_2 ⟨cN.1,c2⟩]at hD;simp[c0',x0,show((B 0).toNat:Int)<224 by omega,show¬(224:Int)<=(B 0).toNat by omega,show¬(240:Int)<=(B 0).toNat by omega,wsub 192 (by omega) (by omega)];rcases fit 2 with⟨hL,hL'⟩|⟨hL,hL'⟩<;>simp only[Q6n]at hL'<;>simp[wsn,hL']
  .simp[RetK,Qb O];exact hno (by rw[hD,if_neg (by omega)]) _
  .refine rest _ 2 1 128 ((B 0).toNat-192) rfl (by simp) (by simp) (by simp) (by simp) (by simp) (by omega) (by omega) hL (by omega) ?_ ?_
   .rintro⟨q1,q2,q3,q4⟩;have h1:=(hcont _).1 (q1 1 (by omega) (by omega));simp only[W3,Nat.reduceAdd]at q2 q4;rw[hD,if_pos (by omega)]
   .intro q;rw[hD,if_neg];rintro⟨a,b,c⟩;refine q ⟨λj j1 j2=>?_,by simp only[W3,Nat.reduceAdd];omega,by simp only[W3,Nat.reduceAdd];omega,by simp only[W3,Nat.reduceAdd];omega⟩;obtain rfl:j=1:=by omega
    exact(hcont _).2 b
 by_cases c3:(B 0).toNat<240
 .rw[dec_3 ⟨by omega,c3⟩]at hD;simp[c0',x0,show¬((B 0).toNat:Int)<224 by omega,show(224:Int)<=(B 0).toNat by omega,show((B 0).toNat:Int)<240 by omega,show¬(240:Int)<=(B 0).toNat by omega,wsub 224 (by omega) (by omega)];rcases fit 3 with⟨hL,hL'⟩|⟨hL,hL'⟩<;>simp only[Q6n]at hL'<;>simp[wsn,hL']
  .simp[RetK,Qb O];exact hno (by rw[hD,if_neg (by omega)]) _
  .refine rest _ 3 2 2048 ((B 0).toNat-224) rfl (by simp) (by simp) (by simp) (by simp) (by simp) (by omega) (by omega) hL (by omega) ?_ ?_
   .rintro⟨q1,q2,q3,q4⟩;have h1:=(hcont _).1 (q1 1 (by omega) (by omega));have h2:=(hcont _).1 (q1 2 (by omega) (by omega));simp only[W3,Nat.reduceAdd]at q2 q4;rw[hD,if_pos (by omega)]
   .intro q;rw[hD,if_neg];rintro⟨a,b,c,d,e⟩;refine q ⟨λj j1 j2=>?_,by simp only[W3,Nat.reduceAdd];omega,by simp only[W3,Nat.reduceAdd];omega,by simp only[W3,Nat.reduceAdd];omega⟩;obtain rfl|rfl:j=1\/j=2:=by omega
    .exact(hcont _).2 b
    .exact(hcont _).2 c
 .rw[dec_4 ⟨by omega,cN.2⟩]at hD;simp[c0',x0,show¬((B 0).toNat:Int)<224 by omega,show(224:Int)<=(B 0).toNat by omega,show¬((B 0).toNat:Int)<240 by omega,show(240:Int)<=(B 0).toNat by omega,show((B 0).toNat:Int)<248 by omega,wsub 240 (by omega) (by omega)];rcases fit 4 with⟨hL,hL'⟩|⟨hL,hL'⟩<;>simp only[Q6n]at hL'<;>simp[wsn,hL']
  .simp[RetK,Qb O];exact hno (by rw[hD,if_neg (by omega)]) _
  .refine rest _ 4 3 65536 ((B 0).toNat-240) rfl (by simp) (by simp) (by simp) (by simp) (by simp) (by omega) (by omega) hL (by omega) ?_ ?_
   .rintro⟨q1,q2,q3,q4⟩;have h1:=(hcont _).1 (q1 1 (by omega) (by omega));have h2:=(hcont _).1 (q1 2 (by omega) (by omega));have h3:=(hcont _).1 (q1 3 (by omega) (by omega));simp only[W3,Nat.reduceAdd]at q2 q3;rw[hD,if_pos (by omega)]
   .intro q;rw[hD,if_neg];rintro⟨a,b,c,d,e,g⟩;refine q ⟨λj j1 j2=>?_,by simp only[W3,Nat.reduceAdd];omega,by simp only[W3,Nat.reduceAdd];omega,by simp only[W3,Nat.reduceAdd];omega⟩;obtain rfl|rfl|rfl:j=1\/j=2\/j=3:=by omega
    .exact(hcont _).2 b
    .exact(hcont _).2 c
    .exact(hcont _).2 d
def Has.bad3{f fn}(h:Has P f (Qk5 fn))(hd:∀(s:Bs) (n:Nat),n<s.length->s.length<=1048576->∀H,Qc P fn [YS s,YI n] H (Qpk (s.drop n) H))(s:Bs)(hl:s.length<=1048576)(H:Hp):Qc P f [YS s] H (λr H'=>r=YI (badS s)/\H'=H):=by
 refine Qe h (by simp[Qk5]) λO _=>?_;simp[Qk5];refine Qm 0 (λfr H'=>badS s=-1/\H'=H) (λfr H'=>fr 2=YI (badS s)/\H'=H) ?_ ?_ ?_
 .refine Q4 H.length (λd fr H'=>∃n:Nat,d=s.length-n/\n<=s.length/\badS s=badF (s.length-n) (s.drop n) n/\fr 0=YS s/\fr 3=YI n/\H'=H) (s.length-0) (by simp) ⟨0,rfl,by omega,rfl,?_⟩ ?_
  .simp[Qb O]
  rintro d fr H' ⟨n,rfl,hn,hb,f0,f3,rfl⟩;simp[f0,f3];refine Qh (λhlt=>?_) (λhlt=>?_)
  .have hlt:n<s.length:=by simpa using hlt
   have hne:s.drop n≠[]:=λe=>by have:=Q3n.1 e;omega
   have hdl:=Qiv hne;have hdr:∀k,(s.drop n).drop k=s.drop (n+k):=λk=>Q30 ..;have hfl:s.length-n=(s.length-n-1)+1:=by omega
   rw[hfl,badF,if_neg hne]at hb;simp only[Q26]at hdl;simp[f0,f3];refine Qf (hd s n hlt hl H') ?_;rintro _ H1 ⟨v,rfl,hH⟩;cases hH;simp only[hdr]at hb;unfold Qt1;generalize decU (s.drop n)=D at hb hdl;obtain⟨R,W⟩:=D;simp only at hb hdl;have hwr:IntKind.i64.wrap ((n:Int)+W)=((n+W:Nat):Int):=by rw[wi64 (by omega)];omega
   by_cases hR:R=65533/\W=1
   .rw[if_pos (by rw[hR.1,hR.2])]at hb;simp[hR.1,hR.2,f3,hb]
   .rw[if_neg (by simpa using hR)]at hb;have hok:(!(decide (R=65533)&&decide (W=1)))=true:=by simp;omega
    rw[hok];simp[f3,hwr];refine Qg _ (s.length-(n+W)) (Q14 _) (by simp) (by omega) ⟨n+W,rfl,by omega,?_,?_⟩
    .rw[hb];exact Qgm _ _ _ _ (by simp;omega) (by simp)
    .simp[f0,Qb O]
  .have hge:n=s.length:=by have:¬(n<s.length):=by simpa using hlt
                           omega
   have:badS s=-1:=by rw[hb,hge];simp[badF]
   simp[this]
 .rintro fr H' ⟨f2,rfl⟩;simp;simp[RetK,Qb O,f2]
 .rintro fr H' ⟨hb,rfl⟩;simp;simp[RetK,Qb O,hb]
end
section
def Quj(b:UInt8)(r:Bs):unqI (b::r)=if b=92 then(match r with|[]=>none|c::t=>(unesc c).bind λx=>(unqI t).map (x:: ·))else if b.toNat<32\/b=34 then none else(unqI r).map (b:: ·):=by
 cases r with
 |nil=>simp only[unqI];rfl
 |cons c t=>simp only[unqI]
def Has.unquote3{f}(h:Has P f Zq)(s:Bs)(hl:s.length<=1048576)(H:Hp):Qc P f [YS s] H (λr H'=>r=unqR (unqV s)/\H'=H):=by
 refine Qe h (by simp[Zq]) λO _=>?_;by_cases h1:s.length<2
 case pos=>
  have h1':(s.length:Int)<2:=by omega
  simp[Zq,h1'];simp[RetK,Qb O,unqV,unqR,h1]
 have h1':¬(s.length:Int)<2:=by omega
 obtain⟨b0,hb0⟩:∃b,Yc s 0=some b:=⟨s[0],by simp[Yc]⟩;obtain⟨b1,hb1⟩:∃b,Yc s ((s.length:Int)-1)=some b:=by
  refine⟨s[s.length-1],?_⟩;have e:((s.length:Int)-1)=((s.length-1:Nat):Int):=by omega
  rw[e,Qaa,Q12]
 have hh:s.head?=some b0:=by
  cases s with
  |nil=>simp at h1
  |cons a r=>simpa[Yc]using hb0
 have hg:s.getLast?=some b1:=by
  have e:((s.length:Int)-1)=((s.length-1:Nat):Int):=by omega
  rw[Q61,<-Qaa,<-e];exact hb1
 have hwm:IntKind.i64.wrap ((s.length:Int)-1)=s.length-1:=wi64 (by omega);have byte34:∀b:UInt8,((b.toNat:Int)=34)↔b=34:=λb=>Y7 b 34;by_cases h2:b0=34
 case neg=>have h2':¬((b0.toNat:Int)=34):=λe=>h2 ((byte34 _).1 e);simp[Zq,h1',hb0,h2'];simp[RetK,Qb O,unqV,unqR,hh,h2]
 by_cases h3:b1=34
 case neg=>have h3':¬((b1.toNat:Int)=34):=λe=>h3 ((byte34 _).1 e);simp[Zq,h1',hb0,h2,hwm,hb1,h3'];simp[RetK,Qb O,unqV,unqR,hg,h3]
 subst h2;subst h3;have hU:unqV s=unqI ((s.drop 1).take (s.length-2)):=by simp[unqV,h1,hh,hg]
 have hsub:subL s 1 ((s.length:Int)-1)=some ((s.drop 1).take (s.length-2)):=by have:=Qe4 (s:=s) (n:=1) (w:=s.length-2) (by omega);rw[<-this];congr 1;omega
 have hIl:((s.drop 1).take (s.length-2)).length<=1048576:=by simp;omega
 rw[hU];generalize(s.drop 1).take (s.length-2)=I at hIl hsub⊢;simp[Zq,h1',hb0,hwm,hb1,hsub];clear hsub hU hb0 hb1 hh hg hwm;refine Qm 0 (λfr H'=>∃x,unqI I=some x/\fr 5=YS x/\H'=H) (λfr H'=>fr 2=YS []/\fr 3=YI 22/\unqI I=none/\H'=H) ?_ ?_ ?_
 .refine Q4 H.length (λd fr H'=>∃(x J:Bs),d=J.length/\x.length+J.length<=1048576/\unqI I=(unqI J).map (x++ ·)/\fr 5=YS x/\fr 6=YS J/\H'=H) I.length (by simp) ⟨[],I,rfl,by simpa using hIl,by simp,?_⟩ ?_
  .simp[Qb O]
  rintro d fr H' ⟨x,J,rfl,hJl,hq,f5,f6,rfl⟩;cases J with
  |nil=>simp[f6];simp[f5,hq,unqI]
  |cons b r=>
   have hpos:(0:Int)<(r.length:Int)+1:=by omega
   have hb:Yc (b::r) 0=some b:=by simp[Yc]
   rw[Quj]at hq;simp only[Q2i]at hJl;simp[f6,hb,hpos];have s1:subL (b::r) 0 1=some [b]:=by simp[subL];omega
   have s2:subL (b::r) 1 ((b::r).length:Int)=some r:=by have:=Qkr (s:=b::r) (n:=1) (by simp only[Q2i];omega);simpa using this
   simp only[Q2i,Q34,Q6h]at s2;by_cases h92:b=92
   .subst h92;rw[if_pos rfl]at hq;cases r with
    |nil=>simp only at hq;simp[f5,f6];simpa using hq
    |cons c t=>
     have hb1:Yc (92::c::t) 1=some c:=by simp[Yc]
     have s3:subL (92::c::t) 2 ((t.length:Int)+1+1)=some t:=by have:=Qkr (s:=92::c::t) (n:=2) (by simp only[Q2i];omega);simpa using this
     have hlen:¬((t.length:Int)+1+1<2):=by omega
     simp only[Q2i]at hJl;simp only at hq;have put:∀y:UInt8,unesc c=some y->unqI I=(unqI t).map ((x++[y])++ ·):=λy hy=>by rw[hq,hy];simp[Q55]
     have add:∀y:UInt8,Qbg .add x [y]=some (.str (x++[y])):=λy=>Qlg (by simp;omega);have hcb:∀y:UInt8,((c.toNat:Int)=(y.toNat:Int))↔c=y:=Y7 c;simp[f5,f6,hb1,hlen];by_cases c110:c=110
     .subst c110;simp[f5,f6,s3,add,-Qbg];refine Qg H'.length t.length (Q14 _) (by simp) (by omega) ⟨x++[10],t,rfl,by simp;omega,put 10 (by decide),?_⟩;simp[Qb O]
     have n110:¬((c.toNat:Int)=110):=λe=>c110 ((hcb 110).1 e);by_cases c116:c=116
     .subst c116;simp[f5,f6,s3,add,-Qbg];refine Qg H'.length t.length (Q14 _) (by simp) (by omega) ⟨x++[9],t,rfl,by simp;omega,put 9 (by decide),?_⟩;simp[Qb O]
     have n116:¬((c.toNat:Int)=116):=λe=>c116 ((hcb 116).1 e);by_cases c34:c=34
     .subst c34;simp[f5,f6,s3,add,-Qbg];refine Qg H'.length t.length (Q14 _) (by simp) (by omega) ⟨x++[34],t,rfl,by simp;omega,put 34 (by decide),?_⟩;simp[Qb O]
     have n34:¬((c.toNat:Int)=34):=λe=>c34 ((hcb 34).1 e);by_cases c92:c=92
     .subst c92;simp[f5,f6,s3,add,-Qbg];refine Qg H'.length t.length (Q14 _) (by simp) (by omega) ⟨x++[92],t,rfl,by simp;omega,put 92 (by decide),?_⟩;simp[Qb O]
     have n92:¬((c.toNat:Int)=92):=λe=>c92 ((hcb 92).1 e);have hnone:unesc c=none:=by simp[unesc,c110,c116,c34,c92]
     rw[hnone]at hq;simp[n110,n116,n34,n92];simpa using hq
   .rw[if_neg h92]at hq;have n92:¬((b.toNat:Int)=92):=λe=>h92 ((Y7 b 92).1 e);by_cases hlo:b.toNat<32
    .have hlo':(b.toNat:Int)<32:=by omega
     rw[if_pos (.inl hlo)]at hq;simp[hlo'];simpa using hq
    have hlo':¬(b.toNat:Int)<32:=by omega
    by_cases h34:b=34
    .subst h34;rw[if_pos (.inr rfl)]at hq;simp;simpa using hq
    have n34:¬((b.toNat:Int)=34):=λe=>h34 ((Y7 b 34).1 e);rw[if_neg (by simp[hlo,h34])]at hq;have add:Qbg .add x [b]=some (.str (x++[b])):=Qlg (by simp;omega);simp[hlo',n34,n92,f5,f6,s1,s2,add,-Qbg];refine Qg H'.length r.length (Q14 _) (by simp) (by simp) ⟨x++[b],r,rfl,by simp;omega,?_,?_⟩
    .rw[hq];simp[Q55]
    .simp[Qb O]
 .rintro fr H' ⟨f2,f3,hn,rfl⟩;simp;simp[RetK,Qb O,f2,f3,hn,unqR]
 .rintro fr H' ⟨x,hx,f5,rfl⟩;simp[f5];simp[RetK,Qb O,hx,unqR]
def Has.lead4{f}(h:Has P f Qh6)(s:Bs)(n:Nat)(hn:n<=s.length)(hl:s.length<=1048576)(H:Hp):Qc P f [YS s,YI n] H (λr H'=>r=YI ((n+Qo false (s.drop n):Nat):Int)/\H'=H):=by
 refine Qe h (by simp[Qh6]) λO _=>?_;have hL:=Qbw false (s.drop n);simp only[Q26]at hL;generalize hLL:Qo false (s.drop n)=L at hL⊢;simp[Qh6];refine Qm 0 (λfr H'=>fr 1=YI ((n+L:Nat):Int)/\H'=H) (λfr H'=>fr 4=YI ((n+L:Nat):Int)/\H'=H) ?_ ?_ ?_
 .refine Q4 H.length (λd fr H'=>∃p:Nat,d=s.length-p/\p<=s.length/\p+Qo false (s.drop p)=n+L/\fr 0=YS s/\fr 1=YI p/\H'=H) (s.length-n) (by simp) ⟨n,rfl,hn,by rw[hLL],?_⟩ ?_
  .simp[Qb O]
  rintro d fr H' ⟨p,rfl,hp,hq,f0,f1,rfl⟩;cases hd:s.drop p with
  |nil=>
   have hpl:p=s.length:=by have:=Q3n.1 hd;omega
   rw[hd]at hq;simp only[Qo,Q4g]at hq;have hn':¬((p:Int)<s.length):=by omega
   simp[f0,f1,hn'];omega
  |cons b r=>
   obtain⟨hb,hlt⟩:=Yh hd;have hdr:s.drop (p+1)=r:=by rw[<-Q30,hd];rfl
   have hlt':(p:Int)<s.length:=by omega
   have hw:IntKind.i64.wrap ((p:Int)+1)=((p+1:Nat):Int):=by rw[wi64 (by omega)];omega
   simp[f0,f1,hlt',hb];cases hB:Vi b with
   |true=>
    have hq':Qo false (s.drop p)=Qo false r+1:=by rw[hd,Qo,if_pos hB]
    have hbl:=hB;unfold Vi at hbl;generalize ha:decide ((b.toNat:Int)=32)=a at hbl⊢;generalize hc:decide ((b.toNat:Int)=9)=c at hbl⊢;generalize he:decide ((b.toNat:Int)=10)=e at hbl⊢;generalize hg:decide ((b.toNat:Int)=13)=g at hbl⊢;cases a<;>cases c<;>cases e<;>cases g<;>simp at hbl<;>simp[f0,f1,hb,ha,hc,he,hg,hw]<;>
     (refine Qg H'.length (s.length-(p+1)) (Q14 _) (by simp) (by omega) ⟨p+1,rfl,by omega,by rw[hdr];omega,?_⟩;simp[f0,Qb O])
   |false=>
    have hbl:=hB;unfold Vi at hbl;simp only[Q5m]at hbl;obtain⟨⟨⟨a1,a2⟩,a3⟩,a4⟩:=hbl;simp[f0,f1,hb,a1,a2,a3,a4];by_cases h35:(b.toNat:Int)=35
    .have hhb:Z1 Qci (s.drop p)=true:=by rw[hd];simp[Z1,Qci,h35]
     obtain⟨hc,hc1⟩:=Qnw hhb;have hstep:=Qb4 Zh (s.drop p);have hW:=Qea Zh (s.drop p);simp only[Qa5,Q26]at hW hstep hc;generalize runN Zh (s.drop p)=wc at hc hc1 hstep hW;simp[h35,f0,f1];refine Qz 2 (λfr H''=>fr 0=YS s/\fr 1=YI ((p+wc:Nat):Int)/\H''=H') ?_ ?_
     .refine Q4 H'.length (λd fr H''=>∃q,d=wc-q/\q<=wc/\fr 0=YS s/\fr 1=YI ((p+q:Nat):Int)/\H''=H') wc (by simp) ⟨0,?_⟩ ?_
      .simp[f0,f1,Qb O]
      rintro d fr H'' ⟨q,rfl,hqq,f0,f1,rfl⟩;have hm:=hstep q hqq;have hwq:IntKind.i64.wrap ((p:Int)+q+1)=((p+(q+1):Nat):Int):=by rw[wi64 (by omega)];omega
      simp only[Q34]at f1;cases hd2:s.drop (p+q)with
      |nil=>
       have h0:p+q=s.length:=by have:=Q3n.1 hd2;omega
       have h0':¬((p:Int)+q<s.length):=by omega
       rw[hd2]at hm;simp[Z1]at hm;have:q=wc:=by omega
       subst this;simp[f0,f1,h0']
      |cons c t=>
       obtain⟨hb2,hlt2⟩:=Yh hd2;have hlt2':(p:Int)+q<s.length:=by omega
       rw[hd2]at hm;simp only[Z1,Zh]at hm;simp only[Q34]at hb2;by_cases h10:(c.toNat:Int)=10
       .have:q=wc:=by simp[h10]at hm;omega
        subst this;simp[f0,f1,hlt2',hb2,h10]
       .have hql:q<wc:=by simpa[h10]using hm
        simp[f0,f1,hlt2',hb2,h10,hwq];refine Qg H''.length (wc-(q+1)) (Q14 _) (by simp) (by omega) ⟨q+1,rfl,by omega,?_⟩;simp[f0,Qb O]
     rintro fr H'' ⟨f0,f1,rfl⟩;simp;refine Qg H''.length (s.length-(p+wc)) (Q14 _) (by simp) (by omega) ⟨p+wc,rfl,by omega,by omega,?_⟩;simp[f0,f1,Qb O]
    .have hhb:Qci b=false:=by simp[Qci,h35]
     have h0:Qo false (s.drop p)=0:=by rw[hd,Qo,hB,hhb];rfl
     simp[h35,f1];omega
 .rintro fr H' ⟨f4,rfl⟩;simp;simp[RetK,Qb O,f4]
 .rintro fr H' ⟨f1,rfl⟩;simp[f1];simp[RetK,Qb O]
end
section
def Qrt(S:Bs)(n:Nat)(H:Hp):A->Hp->Prop:=λr H'=>∃k m:Int,r=.tup [YI k,YI m,YI (tokN S).1]/\H'=H/\((tokN S).1=0->k=(tokN S).2.1/\m=((n+(tokN S).2.2:Nat):Int))
def numM(acc:Nat)(l:Bs):Bool:=match Lib.parseUintM 9223372036854775807 acc l with
 |.ok _=>true
 |_=>false
def Qxa(acc:Nat):numM acc []=true:=rfl
def Qu7(acc:Nat)(c:UInt8)(r:Bs):numM acc (c::r)=if Wc c=true/\acc<=(9223372036854775807-(c.toNat-48))/10 then numM (acc*10+(c.toNat-48)) r else false:=by
 unfold numM;rw[Lib.parseUintM];by_cases hd:48<=c.toNat/\c.toNat<=57
 .have hD:Wc c=true:=by simp[Wc];omega
  rw[if_pos hd];by_cases h1:acc<=(9223372036854775807-(c.toNat-48))/10
  .rw[if_neg (by omega),if_neg (by omega),if_pos ⟨hD,h1⟩]
  .have hR:¬(Wc c=true/\acc<=(9223372036854775807-(c.toNat-48))/10):=λq=>h1 q.2;rw[if_neg hR];by_cases h2:1844674407370955162<=acc
   .rw[if_pos h2]
   .rw[if_neg h2,if_pos (by omega)]
 .have hD:¬Wc c=true:=by simp[Wc];omega
  rw[if_neg hd,if_neg (λq=>hD q.1)]
def Qw9{s:Bs}(h:s≠[]):Qct s=numM 0 s:=by
 unfold Qct numM Lib.parseUintB;rw[if_neg h];have e:(2^63-1:Nat)=9223372036854775807:=by decide
 rw[e];cases Lib.parseUintM 9223372036854775807 0 s<;>rfl
def Qxo:Bs->Bool
 |[]=>false
 |b::_=>Wh b
def Qqh:∀k∈Yu,Qxo k=true:=Q2n.1 (by decide)
def Quq(b:UInt8)(t:Bs):strS (b::t)=if b=34 then some 1 else if b=92 then(strS (t.drop 1)).map (.+2)else if b=10 then none else(strS t).map (.+1):=by
 cases t with
 |nil=>
  simp only[strS,Q68,Q6x];by_cases h:b=34
  .rw[if_pos h,if_pos h]
  .rw[if_neg h,if_neg h];simp
 |cons c r=>simp only[strS,Q4v,Q4z]
def Has.one4{f fl fd fk fu}(h:Has P f (Qk4 fl fd fk fu))(hl:Vb P fl Wh)(hd:Vb P fd Wc)(hk:∀s H,Qc P fk [YS s] H (λr H'=>r=YB (decide (s∈Yu))/\H'=H))(hu:∀(s:Bs) H,s.length<=1048576->Qc P fu [YS s] H (λr H'=>r=unqR (unqV s)/\H'=H))(s:Bs)(n:Nat)(hn:n<s.length)(hsl:s.length<=1048576)(H:Hp):Qc P f [YS s,YI n] H (Qrt (s.drop n) n H):=by
 refine Qe h (by simp[Qk4]) λO _=>?_;have hfin:∀(k m e:Int),e=(tokN (s.drop n)).1->(e=0->k=(tokN (s.drop n)).2.1/\m=((n+(tokN (s.drop n)).2.2:Nat):Int))->Qrt (s.drop n) n H (.tup [YI k,YI m,YI e]) H:=λk m e h1 h2=>⟨k,m,by rw[h1],rfl,λh=>h2 (by rw[h1,h])⟩;generalize Qrt (s.drop n) n H=Q at hfin⊢;have hrl:=Qea Zam.wordB (s.drop n);have hstep:=Qb4 Zam.wordB (s.drop n);have hSl:(s.drop n).length=s.length-n:=by simp
 have hne:s.drop n≠[]:=λe=>by have:=Q3n.1 e;omega
 simp only[Qa5]at hstep;have hsub:=λw (hw:n+w<=s.length)=>Qe4 (s:=s) (n:=n) (w:=w) hw;have hdrop:∀j,s.drop (n+1+j)=((s.drop n).drop 1).drop j:=λj=>by rw[Q30,Q30,Q3r]
 cases hS:s.drop n with
 |nil=>exact absurd hS hne
 |cons b r=>
 rw[hS]at hfin hrl hstep hSl hsub hdrop;obtain⟨hb,-⟩:=Yh hS;have hT:=Qum b r;generalize tokN (b::r)=T at hT hfin;have hw1:IntKind.i64.wrap ((n:Int)+1)=n+1:=wi64 (by omega);generalize hw:runN Zam.wordB (b::r)=w at hT hrl hstep;simp only[Q2i]at hSl hrl;have hsw:=hsub w (by omega);have hWl:((b::r).take w).length=w:=by simp only[Q3p,Q2i];omega
 have hWh:1<=w->∃t,(b::r).take w=b::t:=λh=>by obtain⟨v,rfl⟩:∃v,w=v+1:=⟨w-1,by omega⟩;exact⟨_,rfl⟩
 have hwp:Zam.wordB b=true->1<=w:=λh=>by have:=Qlu (r:=r) h;omega
 simp[Qk4,hw1,hb];refine Qa (hl b _) ?_;cases hlb:Wh b with
 |true=>
  have hw1':=hwp (by simp[Zam.wordB,hlb]);rw[hlb,if_pos rfl]at hT;simp;refine Qz 0 (λfr H'=>fr 0=YS s/\fr 1=YI n/\fr 7=YI ((n:Int)+w)/\H'=H) ?_ ?_
  .refine Q4 H.length (λd fr H'=>∃j,d=w-j/\1<=j/\j<=w/\fr 0=YS s/\fr 1=YI n/\fr 7=YI ((n:Int)+j)/\H'=H) (w-1) (by simp) ⟨1,rfl,Q14 _,hw1',?_⟩ ?_
   .simp[Qb O]
   rintro d fr H' ⟨j,rfl,hj1,hj,f0,f1,f7,rfl⟩;have hm:=hstep j hj;have hwj:IntKind.i64.wrap ((n:Int)+j+1)=(n:Int)+((j:Int)+1):=by rw[wi64 (by omega)];omega
   cases hd2:s.drop (n+j)with
   |nil=>
    have h0:n+j=s.length:=by have:=Q3n.1 hd2;omega
    have h0':¬((n:Int)+j<s.length):=by omega
    rw[hd2]at hm;have:j=w:=by simp[Z1]at hm;omega
    subst this;simp[f0,f1,f7,h0']
   |cons c t=>
    obtain⟨hb2,hlt2⟩:=Yh hd2;have hlt2':(n:Int)+j<s.length:=by omega
    rw[hd2]at hm;simp only[Z1,Zam.wordB]at hm;simp only[Q34]at hb2;simp[f0,f1,f7,hlt2',hb2];refine Qa (hl c _) ?_;have nx:j<w->∀fr':Fr,fr' 0=YS s->fr' 1=YI n->fr' 7=YI ((n:Int)+((j:Int)+1))->True:=λ_ _ _ _ _=>trivial;cases hlc:Wh c with
    |true=>
     have hql:j<w:=by simpa[hlc]using hm
     simp[f0,f1,f7,hwj];refine Qg H'.length (w-(j+1)) (Q14 _) (by simp) (by omega) ⟨j+1,rfl,by omega,by omega,?_⟩;simp[f0,f1,Qb O]
    |false=>
     simp[f0,f1,f7,hb2];refine Qa (hd c _) ?_;cases hdc:Wc c with
     |true=>
      have hql:j<w:=by simpa[hlc,hdc]using hm
      simp[f0,f1,f7,hwj];refine Qg H'.length (w-(j+1)) (Q14 _) (by simp) (by omega) ⟨j+1,rfl,by omega,by omega,?_⟩;simp[f0,f1,Qb O]
     |false=>
      have:j=w:=by simp[hlc,hdc]at hm;omega
      subst this;simp[f0,f1,f7]
  rintro fr H' ⟨f0,f1,f7,rfl⟩;obtain⟨t,ht⟩:=hWh hw1';generalize(b::r).take w=W at hT hsw hWl ht;simp[f0,f1,f7,hsw];refine Qa (hk W _) ?_;by_cases hkW:W∈Yu
  .rw[if_pos hkW]at hT;simp[hkW,f7];simp[RetK,Qb O];exact hfin _ _ _ (by rw[hT]) (λ_=>by rw[hT];simp)
  rw[if_neg hkW]at hT;simp[hkW,f0,f1,hb];refine Qa (hl b _) ?_;by_cases h40:40<w
  .rw[if_pos h40]at hT;have h40':(40:Int)<w:=by omega
   simp[hlb,hWl,h40'];simp[RetK,Qb O];exact hfin _ _ _ (by rw[hT]) (λh=>by cases h)
  .rw[if_neg h40]at hT;have h40':¬(40:Int)<w:=by omega
   simp[hlb,hWl,h40',f7];simp[RetK,Qb O];exact hfin _ _ _ (by rw[hT]) (λ_=>by rw[hT];simp)
 |false=>
  rw[hlb]at hT;simp only[Q2c,if_false]at hT;simp[hb];refine Qa (hd b _) ?_;cases hdb:Wc b with
  |true=>
   have hw1':=hwp (by simp[Zam.wordB,hdb]);rw[hdb,if_pos rfl]at hT;simp;refine Qz 0 (λfr H'=>fr 0=YS s/\fr 1=YI n/\fr 7=YI ((n:Int)+w)/\H'=H) ?_ ?_
   .refine Q4 H.length (λd fr H'=>∃j,d=w-j/\1<=j/\j<=w/\fr 0=YS s/\fr 1=YI n/\fr 7=YI ((n:Int)+j)/\H'=H) (w-1) (by simp) ⟨1,rfl,Q14 _,hw1',?_⟩ ?_
    .simp[Qb O]
    rintro d fr H' ⟨j,rfl,hj1,hj,f0,f1,f7,rfl⟩;have hm:=hstep j hj;have hwj:IntKind.i64.wrap ((n:Int)+j+1)=(n:Int)+((j:Int)+1):=by rw[wi64 (by omega)];omega
    cases hd2:s.drop (n+j)with
    |nil=>
     have h0:n+j=s.length:=by have:=Q3n.1 hd2;omega
     have h0':¬((n:Int)+j<s.length):=by omega
     rw[hd2]at hm;have:j=w:=by simp[Z1]at hm;omega
     subst this;simp[f0,f1,f7,h0']
    |cons c t=>
     obtain⟨hb2,hlt2⟩:=Yh hd2;have hlt2':(n:Int)+j<s.length:=by omega
     rw[hd2]at hm;simp only[Z1,Zam.wordB]at hm;simp only[Q34]at hb2;simp[f0,f1,f7,hlt2',hb2];refine Qa (hl c _) ?_;have nx:j<w->∀fr':Fr,fr' 0=YS s->fr' 1=YI n->fr' 7=YI ((n:Int)+((j:Int)+1))->True:=λ_ _ _ _ _=>trivial;cases hlc:Wh c with
     |true=>
      have hql:j<w:=by simpa[hlc]using hm
      simp[f0,f1,f7,hwj];refine Qg H'.length (w-(j+1)) (Q14 _) (by simp) (by omega) ⟨j+1,rfl,by omega,by omega,?_⟩;simp[f0,f1,Qb O]
     |false=>
      simp[f0,f1,f7,hb2];refine Qa (hd c _) ?_;cases hdc:Wc c with
      |true=>
       have hql:j<w:=by simpa[hlc,hdc]using hm
       simp[f0,f1,f7,hwj];refine Qg H'.length (w-(j+1)) (Q14 _) (by simp) (by omega) ⟨j+1,rfl,by omega,by omega,?_⟩;simp[f0,f1,Qb O]
      |false=>
       have:j=w:=by simp[hlc,hdc]at hm;omega
       subst this;simp[f0,f1,f7]
   rintro fr H' ⟨f0,f1,f7,rfl⟩;obtain⟨t,ht⟩:=hWh hw1';generalize(b::r).take w=W at hT hsw hWl ht;simp[f0,f1,f7,hsw];refine Qa (hk W _) ?_;have hkW:¬W∈Yu:=λq=>by have:=Qqh W q;rw[ht,Qxo,hlb]at this;cases this
   rw[Qw9 (by rw[ht];simp)]at hT;simp[hkW,f0,f1,hb];refine Qa (hl b _) ?_;simp[hlb];refine Qm 2 (λfr H''=>fr 7=YI ((n:Int)+w)/\numM 0 W=true/\H''=H') (λfr H''=>fr 4=YI 0/\fr 5=YI 0/\fr 6=YI 23/\numM 0 W=false/\H''=H') ?_ ?_ ?_
   .refine Q4 H'.length (λd fr H''=>∃(i acc:Nat),d=w-i/\i<=w/\acc<=9223372036854775807/\numM 0 W=numM acc (W.drop i)/\fr 7=YI ((n:Int)+w)/\fr 8=YS W/\fr 9=.d (.int .u64 (acc:Int))/\fr 10=YI i/\H''=H') w (by simp) ⟨0,0,rfl,by omega,by omega,rfl,?_⟩ ?_
    .simp[f7,Qb O]
    rintro d fr H'' ⟨i,acc,rfl,hi,hacc,hnm,f7,f8,f9,f10,rfl⟩;rcases Q4f i w with hlt|hge
    .have hlt':(i:Int)<w:=by omega
     have hdi:W.drop i=W[i]'(by omega)::W.drop (i+1):=Q2o (by omega);obtain⟨hbi,-⟩:=Yh hdi;generalize W[i]'(by omega)=c at hdi hbi;rw[hdi,Qu7]at hnm;have hwi:IntKind.i64.wrap ((i:Int)+1)=((i+1:Nat):Int):=by rw[wi64 (by omega)];omega
     simp[f8,f10,hWl,hlt',hbi];refine Qa (hd c _) ?_;cases hdc:Wc c with
     |false=>rw[hdc]at hnm;simp only[Q2c,false_and,if_false]at hnm;simp[hnm]
     |true=>
      rw[hdc]at hnm;simp only[true_and]at hnm;have hc:48<=c.toNat/\c.toNat<=57:=by simp[Wc]at hdc;omega
      have e1:IntKind.u8.wrap ((c.toNat:Int)-48)=((c.toNat-48:Nat):Int):=by simp[IntKind.wrap,IntKind.bits,IntKind.signed];omega
      have e2:∀x:Nat,x<=9223372036854775807->IntKind.u64.wrap (x:Int)=x:=λx hx=>by simp[IntKind.wrap,IntKind.bits,IntKind.signed];omega
      generalize hdd:c.toNat-48=dd at e1 hnm;obtain⟨m,hm⟩:∃m,m=9223372036854775807-dd:=⟨_,rfl⟩;obtain⟨q,hq⟩:∃q,q=m/10:=⟨_,rfl⟩;rw[<-hm,<-hq]at hnm;have hddl:dd<=9:=by omega
      have e3:IntKind.u64.wrap (9223372036854775807-(dd:Int))=(m:Int):=by rw[<-e2 m (by omega)];congr 1;omega
      have e4:IntKind.u64.wrap (Int.tdiv (m:Int) 10)=(q:Int):=by have:=e2 q (by omega);rw[hq]at this⊢;exact this
      have e4':IntKind.u64.wrap ((m:Int)/10)=(q:Int):=by have:=e2 q (by omega);rw[hq]at this⊢;exact this
      simp[f7,f8,f9,f10,hbi,e1,e2 dd (by omega),e3,e4,e4'];refine Qh (λhbr=>?_) (λhbr=>?_)
      .have hq':q<acc:=by simpa using hbr
       rw[if_neg (by omega)]at hnm;simp[hnm]
      .have hq':¬(q<acc):=by simpa using hbr
       rw[if_pos (by omega)]at hnm;obtain⟨a10,ha⟩:∃a10,a10=acc*10:=⟨_,rfl⟩;rw[<-ha]at hnm;have e5:IntKind.u64.wrap ((acc:Int)*10)=(a10:Int):=by rw[<-e2 a10 (by omega)];congr 1;omega
       have e6:IntKind.u64.wrap ((a10:Int)+dd)=((a10+dd:Nat):Int):=by rw[<-e2 (a10+dd) (by omega)];congr 1
       simp only[Q34]at e6;simp[f7,f8,f9,f10,e5,e6,hwi];refine Qg H''.length (w-(i+1)) (Q14 _) (by simp) (by omega) ⟨i+1,a10+dd,rfl,by omega,by omega,hnm,?_⟩;simp[f7,f8,Qb O]
    .have:i=w:=by omega
     subst this;have h0':¬((i:Int)<i):=by omega
     rw[Q22 (by omega),Qxa]at hnm;simp[f7,f8,f10,hWl,hnm]
   .rintro fr H'' ⟨f4,f5,f6,hnm,rfl⟩;rw[hnm]at hT;simp only[Q2c,if_false]at hT;simp;simp[RetK,Qb O,f4,f5,f6];exact hfin _ _ _ (by rw[hT]) (λh=>by cases h)
   .rintro fr H'' ⟨f7,hnm,rfl⟩;rw[hnm,if_pos rfl]at hT;simp[f7];simp[RetK,Qb O];exact hfin _ _ _ (by rw[hT]) (λ_=>by rw[hT];simp)
  |false=>
   rw[hdb]at hT;simp only[Q2c,if_false]at hT;by_cases h34:b=34
   .subst h34;rw[if_pos rfl]at hT;have hSV:strV (34::r)=match strS r with
     |none=>([],22)
     |some k=>((34::r).take (k+1),if(unqV ((34::r).take (k+1))).isSome then 0 else 22):=rfl
    simp[hb];refine Qz 4 (λfr H'=>fr 0=YS s/\fr 1=YI n/\H'=H/\∃j:Nat,fr 7=YI ((n:Int)+1+j)/\j<=s.length/\((strS r=none/\s.length<=n+1+j)\/(strS r=none/\n+1+j<s.length/\Yc s ((n:Int)+1+j)=some 10)\/(strS r=some (j+1)/\n+1+j<s.length/\Yc s ((n:Int)+1+j)=some 34))) ?_ ?_
    .refine Q4 H.length (λd fr H'=>∃j,d=s.length+1-(n+1+j)/\n+1+j<=s.length+1/\strS r=(strS (r.drop j)).map (.+j)/\fr 0=YS s/\fr 1=YI n/\fr 7=YI ((n:Int)+1+j)/\H'=H) (s.length+1-(n+1+0)) (by simp) ⟨0,rfl,by omega,by simp,?_⟩ ?_
     .simp[Qb O]
     rintro d fr H' ⟨j,rfl,hj,hq,f0,f1,f7,rfl⟩;have hdj:=hdrop j;simp only[Q4v,Q4z]at hdj;cases hd2:s.drop (n+1+j)with
     |nil=>
      have h0:=Q3n.1 hd2;have h0':¬((n:Int)+1+j<s.length):=by omega
      rw[<-hdj,hd2]at hq;have hq:strS r=none:=by rw[hq];rfl
      simp[f0,f1,f7,h0',hq];exact⟨j,rfl,by omega,by omega⟩
     |cons c t=>
      obtain⟨hb2,hlt2⟩:=Yh hd2;have hlt2':(n:Int)+1+j<s.length:=by omega
      simp only[Q34,Q6h]at hb2;rw[hd2]at hdj;have hj1:r.drop (j+1)=t:=by rw[<-Q30,<-hdj];rfl
      have hj2:r.drop (j+2)=t.drop 1:=by rw[<-hj1,Q30]
      rw[<-hdj,Quq]at hq;have hwA:IntKind.i64.wrap ((n:Int)+1+j+1)=(n:Int)+1+((j:Int)+1):=by rw[wi64 (by omega)];omega
      have hwB:IntKind.i64.wrap ((n:Int)+1+((j:Int)+1)+1)=(n:Int)+1+((j:Int)+2):=by rw[wi64 (by omega)];omega
      by_cases c34:c=34
      .subst c34;rw[if_pos rfl]at hq;have hq:strS r=some (j+1):=by rw[hq];simp;omega
       simp[f0,f1,f7,hlt2',hb2,hq];exact⟨j,rfl,by omega,by omega,by omega,hb2⟩
      have n34:¬((c.toNat:Int)=34):=λe=>c34 ((Y7 c 34).1 e);rw[if_neg c34]at hq;by_cases c10:c=10
      .subst c10;have hq:strS r=none:=by rw[hq];simp
       simp[f0,f1,f7,hlt2',hb2,hq];exact⟨j,rfl,by omega,.inr ⟨by omega,hb2⟩⟩
      have n10:¬((c.toNat:Int)=10):=λe=>c10 ((Y7 c 10).1 e);by_cases c92:c=92
      .subst c92;rw[if_pos rfl]at hq;simp[f0,f1,f7,hlt2',hb2,hwA,hwB];refine Qg H'.length (s.length+1-(n+1+(j+2))) (Q14 _) (by simp) (by omega) ⟨j+2,rfl,by omega,?_,?_⟩
       .rw[hq,hj2];cases strS (t.drop 1)<;>simp;omega
       .simp[f0,f1,Qb O]
      have n92:¬((c.toNat:Int)=92):=λe=>c92 ((Y7 c 92).1 e);rw[if_neg c92,if_neg c10]at hq;simp[f0,f1,f7,hlt2',hb2,hwA,n34,n10,n92];refine Qg H'.length (s.length+1-(n+1+(j+1))) (Q14 _) (by simp) (by omega) ⟨j+1,rfl,by omega,?_,?_⟩
      .rw[hq,hj1];cases strS t<;>simp;omega
      .simp[f0,f1,Qb O]
    rintro fr H' ⟨f0,f1,rfl,j,f7,hjl,hor⟩;rcases hor with⟨hq,hge⟩|⟨hq,hlt,hbj⟩|⟨hq,hlt,hbj⟩
    .rw[hq]at hSV;rw[hSV]at hT;have hge':(s.length:Int)<=(n:Int)+1+j:=by omega
     simp[f0,f1,f7,hge'];simp[RetK,Qb O];exact hfin _ _ _ (by rw[hT];rfl) (λh=>by cases h)
    .rw[hq]at hSV;rw[hSV]at hT;have hge':¬(s.length:Int)<=(n:Int)+1+j:=by omega
     simp[f0,f1,f7,hge',hbj];simp[RetK,Qb O];exact hfin _ _ _ (by rw[hT];rfl) (λh=>by cases h)
    .rw[hq]at hSV;rw[hSV]at hT;have hge':¬(s.length:Int)<=(n:Int)+1+j:=by omega
     have hwA:IntKind.i64.wrap ((n:Int)+1+j+1)=(n:Int)+((j+2:Nat):Int):=by rw[wi64 (by omega)];omega
     have hsj:=hsub (j+2) (by omega);have hul:((34::r:Bs).take (j+2)).length=j+2:=by simp only[Q3p,Q2i];omega
     simp only at hT;generalize(34::r:Bs).take (j+1+1)=U at hT hsj hul;have hrange:IntKind.i64.wrap ((n:Int)+1+j+1)=(n:Int)+((j+2:Nat):Int):=hwA;generalize hJ:(n:Int)+((j+2:Nat):Int)=J at hwA hsj;simp[f0,f1,f7,hge',hbj,hwA,hsj];refine Qa (hu U _ (by omega)) ?_;cases hv:unqV U with
     |none=>rw[hv]at hT;simp[unqR];simp[RetK,Qb O];exact hfin _ _ _ (by rw[hT];rfl) (λh=>by cases h)
     |some x=>rw[hv]at hT;simp[unqR,f7,hwA];simp[RetK,Qb O];exact hfin _ _ _ (by rw[hT];rfl) (λ_=>by rw[hT];simp;omega)
   have n34:¬((b.toNat:Int)=34):=λe=>h34 ((Y7 b 34).1 e);rw[if_neg h34]at hT;obtain⟨L,hL⟩:∃L:Bs,L=[40,41,123,125,44,59,58,46,61,43,45,42,60]:=⟨_,rfl⟩;have hLl:L.length=13:=by rw[hL];rfl
   by_cases htwo:b=61/\∃r',r=61::r'
   .obtain⟨rfl,r',rfl⟩:=htwo;have hb1:Yc s ((n:Int)+1)=some 61:=by
     have:s.drop (n+1)=61::r':=by rw[<-Q30,hS];rfl
     simpa using(Yh this).1
    have hlt:(n:Int)+1<s.length:=by simp only[Q2i]at hSl;omega
    have hG:Vf (61::61::r')=[61,61]:=by rw[Qpx];rfl
    rw[hG,if_neg (by simp)]at hT;have hwA:IntKind.i64.wrap ((n:Int)+1+1)=(n:Int)+2:=by rw[wi64 (by omega)];omega
    simp[hb,hb1,hlt,hwA];simp[RetK,Qb O];exact hfin _ _ _ (by rw[hT]) (λ_=>by rw[hT];simp)
   have hG:Vf (b::r)=if b∈L then[b]else[]:=by
    cases r with
    |nil=>rw[hL];exact Qys b
    |cons c r'=>rw[Qpx,if_neg (λq=>htwo ⟨q.1,r',by rw[q.2]⟩),hL]
   rw[hG]at hT;obtain⟨b1,hb1,hone⟩:∃b1:Bool,(b1=true->(n:Int)+1<s.length)/\b1=decide ((n:Int)+1<s.length):=⟨_,λh=>by simpa using h,rfl⟩;have hcond:b=61->(n:Int)+1<s.length->∃c:UInt8,Yc s ((n:Int)+1)=some c/\¬((c.toNat:Int)=61):=λh61 hlt=>by
    cases r with
    |nil=>simp only[Q3b]at hSl;omega
    |cons c r'=>
     refine⟨c,?_,λe=>htwo ⟨h61,r',by rw[(Y7 c 61).1 e]⟩⟩;have:s.drop (n+1)=c::r':=by rw[<-Q30,hS];rfl
     simpa using(Yh this).1
   clear hb1 hone b1;have hloop:True:=trivial;by_cases hlt:(n:Int)+1<s.length
   .by_cases h61:b=61
    .obtain⟨c,hc1,hc2⟩:=hcond h61 hlt;have e61:(b.toNat:Int)=61:=by rw[h61];rfl
     simp[hb,hlt,hc1,hc2,e61];refine Qm 6 (λfr H'=>b∉L/\H'=H) (λfr H'=>fr 4=YI 5/\fr 5=YI ((n:Int)+1)/\fr 6=YI 0/\b∈L/\H'=H) ?_ ?_ ?_
     .refine Q4 H.length (λd fr H'=>∃i:Nat,d=13-i/\i<=13/\b∉L.take i/\fr 0=YS s/\fr 1=YI n/\fr 7=YI ((n:Int)+1)/\fr 14=YS L/\fr 15=YI i/\H'=H) 13 (by simp) ⟨0,rfl,by omega,by simp,?_⟩ ?_
      .simp[Qb O,hL]
      rintro d fr H' ⟨i,rfl,hi,hni,f0,f1,f7,f14,f15,rfl⟩;rcases Q4f i 13 with hlt13|hge13
      .have hlt':(i:Int)<13:=by omega
       have hdi:L.drop i=L[i]'(by omega)::L.drop (i+1):=Q2o (by omega);have htk:L.take (i+1)=L.take i++[L[i]'(by omega)]:=Q2e (by omega);have hmem:L[i]'(by omega)∈L:=Q20 _;obtain⟨hbi,-⟩:=Yh hdi;generalize L[i]'(by omega)=c at hdi hbi htk hmem;have hwi:IntKind.i64.wrap ((i:Int)+1)=((i+1:Nat):Int):=by rw[wi64 (by omega)];omega
       simp[f0,f1,f14,f15,hLl,hlt',hbi,hb];by_cases hcb:c=b
       .subst hcb;simp[f7,hmem]
       .have hcb':¬((c.toNat:Int)=b.toNat):=λe=>hcb ((Y7 c b).1 e);have hcb2:¬c.toNat=b.toNat:=λe=>hcb' (by rw[e]);simp[hcb,hcb',hcb2,f15,hwi];refine Qg H'.length (13-(i+1)) (Q14 _) (by simp) (by omega) ⟨i+1,rfl,by omega,by rw[htk];simp[hni];exact Ne.symm hcb,?_⟩;simp[f0,f1,f7,f14,Qb O]
      .have:i=13:=by omega
       subst this;rw[Q2f (by omega)]at hni;simp[f14,f15,hLl,hni]
     .rintro fr H' ⟨f4,f5,f6,hm,rfl⟩;rw[if_pos hm,if_neg (by simp)]at hT;simp;simp[RetK,Qb O,f4,f5,f6];exact hfin _ _ _ (by rw[hT]) (λ_=>by rw[hT];simp)
     .rintro fr H' ⟨hm,rfl⟩;rw[if_neg hm,if_pos rfl]at hT;simp;simp[RetK,Qb O];exact hfin _ _ _ (by rw[hT]) (λh=>by cases h)
    .have n61:¬((b.toNat:Int)=61):=λe=>h61 ((Y7 b 61).1 e);simp[hb,hlt,n34,n61];refine Qm 6 (λfr H'=>b∉L/\H'=H) (λfr H'=>fr 4=YI 5/\fr 5=YI ((n:Int)+1)/\fr 6=YI 0/\b∈L/\H'=H) ?_ ?_ ?_
     .refine Q4 H.length (λd fr H'=>∃i:Nat,d=13-i/\i<=13/\b∉L.take i/\fr 0=YS s/\fr 1=YI n/\fr 7=YI ((n:Int)+1)/\fr 14=YS L/\fr 15=YI i/\H'=H) 13 (by simp) ⟨0,rfl,by omega,by simp,?_⟩ ?_
      .simp[Qb O,hL]
      rintro d fr H' ⟨i,rfl,hi,hni,f0,f1,f7,f14,f15,rfl⟩;rcases Q4f i 13 with hlt13|hge13
      .have hlt':(i:Int)<13:=by omega
       have hdi:L.drop i=L[i]'(by omega)::L.drop (i+1):=Q2o (by omega);have htk:L.take (i+1)=L.take i++[L[i]'(by omega)]:=Q2e (by omega);have hmem:L[i]'(by omega)∈L:=Q20 _;obtain⟨hbi,-⟩:=Yh hdi;generalize L[i]'(by omega)=c at hdi hbi htk hmem;have hwi:IntKind.i64.wrap ((i:Int)+1)=((i+1:Nat):Int):=by rw[wi64 (by omega)];omega
       simp[f0,f1,f14,f15,hLl,hlt',hbi,hb];by_cases hcb:c=b
       .subst hcb;simp[f7,hmem]
       .have hcb':¬((c.toNat:Int)=b.toNat):=λe=>hcb ((Y7 c b).1 e);have hcb2:¬c.toNat=b.toNat:=λe=>hcb' (by rw[e]);simp[hcb,hcb',hcb2,f15,hwi];refine Qg H'.length (13-(i+1)) (Q14 _) (by simp) (by omega) ⟨i+1,rfl,by omega,by rw[htk];simp[hni];exact Ne.symm hcb,?_⟩;simp[f0,f1,f7,f14,Qb O]
      .have:i=13:=by omega
       subst this;rw[Q2f (by omega)]at hni;simp[f14,f15,hLl,hni]
     .rintro fr H' ⟨f4,f5,f6,hm,rfl⟩;rw[if_pos hm,if_neg (by simp)]at hT;simp;simp[RetK,Qb O,f4,f5,f6];exact hfin _ _ _ (by rw[hT]) (λ_=>by rw[hT];simp)
     .rintro fr H' ⟨hm,rfl⟩;rw[if_neg hm,if_pos rfl]at hT;simp;simp[RetK,Qb O];exact hfin _ _ _ (by rw[hT]) (λh=>by cases h)
   .simp[hb,hlt,n34];refine Qm 6 (λfr H'=>b∉L/\H'=H) (λfr H'=>fr 4=YI 5/\fr 5=YI ((n:Int)+1)/\fr 6=YI 0/\b∈L/\H'=H) ?_ ?_ ?_
    .refine Q4 H.length (λd fr H'=>∃i:Nat,d=13-i/\i<=13/\b∉L.take i/\fr 0=YS s/\fr 1=YI n/\fr 7=YI ((n:Int)+1)/\fr 14=YS L/\fr 15=YI i/\H'=H) 13 (by simp) ⟨0,rfl,by omega,by simp,?_⟩ ?_
     .simp[Qb O,hL]
     rintro d fr H' ⟨i,rfl,hi,hni,f0,f1,f7,f14,f15,rfl⟩;rcases Q4f i 13 with hlt13|hge13
     .have hlt':(i:Int)<13:=by omega
      have hdi:L.drop i=L[i]'(by omega)::L.drop (i+1):=Q2o (by omega);have htk:L.take (i+1)=L.take i++[L[i]'(by omega)]:=Q2e (by omega);have hmem:L[i]'(by omega)∈L:=Q20 _;obtain⟨hbi,-⟩:=Yh hdi;generalize L[i]'(by omega)=c at hdi hbi htk hmem;have hwi:IntKind.i64.wrap ((i:Int)+1)=((i+1:Nat):Int):=by rw[wi64 (by omega)];omega
      simp[f0,f1,f14,f15,hLl,hlt',hbi,hb];by_cases hcb:c=b
      .subst hcb;simp[f7,hmem]
      .have hcb':¬((c.toNat:Int)=b.toNat):=λe=>hcb ((Y7 c b).1 e);have hcb2:¬c.toNat=b.toNat:=λe=>hcb' (by rw[e]);simp[hcb,hcb',hcb2,f15,hwi];refine Qg H'.length (13-(i+1)) (Q14 _) (by simp) (by omega) ⟨i+1,rfl,by omega,by rw[htk];simp[hni];exact Ne.symm hcb,?_⟩;simp[f0,f1,f7,f14,Qb O]
     .have:i=13:=by omega
      subst this;rw[Q2f (by omega)]at hni;simp[f14,f15,hLl,hni]
    .rintro fr H' ⟨f4,f5,f6,hm,rfl⟩;rw[if_pos hm,if_neg (by simp)]at hT;simp;simp[RetK,Qb O,f4,f5,f6];exact hfin _ _ _ (by rw[hT]) (λ_=>by rw[hT];simp)
    .rintro fr H' ⟨hm,rfl⟩;rw[if_neg hm,if_pos rfl]at hT;simp;simp[RetK,Qb O];exact hfin _ _ _ (by rw[hT]) (λh=>by cases h)
end
section
def HasT.lex4{f fb fl fo tt}(h:HasT P [6] f (Qh5 fb fl fo tt))(hb:∀(s:Bs) H,s.length<=1048576->Qc P fb [YS s] H (λr H'=>r=YI (badS s)/\H'=H))(hl:∀(s:Bs) (n:Nat),n<=s.length->s.length<=1048576->∀H,Qc P fl [YS s,YI n] H (λr H'=>r=YI ((n+Qo false (s.drop n):Nat):Int)/\H'=H))(ho:∀(s:Bs) (n:Nat),n<s.length->s.length<=1048576->∀H,Qc P fo [YS s,YI n] H (Qrt (s.drop n) n H))(s:Bs)(hs:s.length<=1048576)(H:Hp):
 Qc P f [YS s] H (λr H'=>r=.tup [YL true 4 ((lexS s).1.map Qp),YI (lexS s).2.1,YI (lexS s).2.2]/\H'=H):=by
 obtain⟨fnn,hf,hcf⟩:=h;refine Qy hf hcf (by simp[Qh5]) λO _=>?_;by_cases h1:16384<s.length;case pos=>
  have h1':(16384:Int)<s.length:=by omega
  simp[Qh5,h1'];simp[RetK,Qb O,lexS,h1]
 have h1':¬(16384:Int)<s.length:=by omega
 have hbs:=hb s H hs;have hL:lexS s=if 0<=badS s then([],20,badS s)else lexF (s.length+1) s 0 0:=by rw[lexS,if_neg h1]
 generalize lexS s=LS at hL;generalize badS s=bs at hL hbs;simp[Qh5,h1'];refine Qa hbs ?_;simp;refine Qh (λh2=>?_) (λh2=>?_)
 .have h2:0<=bs:=by simpa using h2
  rw[if_pos h2]at hL;subst hL;simp;simp[RetK,Qb O]
 have h2:¬0<=bs:=by simpa using h2
 rw[if_neg h2]at hL;simp;refine Q4 (H.length+1) (λd fr H'=>∃(p:Nat)(acc:List Tk),p<=s.length/\s.length-p<d/\LS=Qcl acc (lexF d (s.drop p) p acc.length)/\acc.length<=4000/\fr 0=YS s/\fr 6=.osl true 4 (acc.map Qp) H.length/\fr 7=YI p/\H'=H++[.tok acc.length 4 tt]) (s.length+1) (by simp) ⟨0,[],by omega,by omega,?_,by simp,?_⟩ ?_
 .simp only[Q4z,Q3b];rw[hL];exact(Qn7 _ _ _ _).symm
 .simp[Qi O]
 rintro d fr H' ⟨p,acc,hp,hd,hLS,hacc,f0,f6,f7,rfl⟩;obtain⟨d',rfl⟩:∃d',d=d'+1:=⟨d-1,by omega⟩;have g1:=hl s p hp hs (H++[.tok acc.length 4 tt]);simp[f0,f7];have hll:=Qbw false (s.drop p);simp only[Q26]at hll;rw[lexF]at hLS;simp only[Qa5]at hLS;have htl:=Qey (s.drop (p+Qo false (s.drop p)));simp only[Q26]at htl;have hsb:=Qe4 (s:=s) (n:=p) (w:=Qo false (s.drop p)) (by omega);have g2:=λH=>λh=>ho s (p+Qo false (s.drop p)) h hs H;unfold Qrt at g2;generalize hn:Qo false (s.drop p)=n at hLS hll g1 g2 htl hsb;have hnil:p+n=s.length->tokN (s.drop (p+n))=(0,0,0):=λe=>by rw[Q22 (by omega)];rfl
 generalize hTT:tokN (s.drop (p+n))=T at hLS g2 htl hnil;obtain⟨e,k,m⟩:=T;simp only at hLS htl g2;obtain⟨t1,t2,t3,t4⟩:=htl;refine Qa g1 ?_;simp[f0,f7,hsb];rcases Q4f (p+n) s.length with hlt|hge
 .have hlt':(p:Int)+n<s.length:=by omega
  have hne:s.drop (p+n)≠[]:=λq=>by have:=Q3n.1 q;omega
  simp[f0,hlt'];have g3:=λH=>g2 H hlt;simp only[Q34]at g3;refine Qf (g3 _) ?_;rintro _ _ ⟨k',m',rfl,rfl,hx⟩;by_cases he:e=0;case neg=>
   rw[if_pos he]at hLS;have:LS=([],e,((p+n:Nat):Int)):=by rw[hLS];simp[Qcl,he]
   simp[he];simp[RetK,Qd O,this]
  obtain⟨rfl,hm'⟩:=hx he;subst hm';rw[if_neg (by simp[he])]at hLS;subst he;have hsm:=Qe4 (s:=s) (n:=p+n) (w:=m) (by omega);simp only[Q34]at hsm;simp[f0];by_cases h4:4000<=acc.length;case pos=>
   have h4':(4000:Int)<=acc.length:=by omega
   rw[if_pos h4]at hLS;have:LS=([],5,((p+n:Nat):Int)):=by rw[hLS];simp[Qcl]
   simp[f6,f7,h4'];simp[RetK,Qd O,this]
  have h4':¬(4000:Int)<=acc.length:=by omega
  rw[if_neg h4]at hLS;obtain⟨t,ht⟩:∃t:Tk,t=⟨k',p+n,(s.drop p).take n,(s.drop (p+n)).take m⟩:=⟨_,rfl⟩;have hbt:acc.map Qp++[[.int .i64 k',.int .i64 ((p:Int)+n),.str ((s.drop p).take n),.str ((s.drop (p+n)).take m)]]=(acc++[t]).map Qp:=by simp[Qp,ht]
  rw[<-ht]at hLS;have hap:(acc.map Qp).length=acc.length:=by simp
  simp[f0,f6,f7,h4',hsm,appA];rw[if_pos (by omega)];simp;by_cases hk:k'=0
  .rw[if_pos hk]at hLS;have hLS':LS=(acc++[t],0,0):=by rw[hLS];simp[Qcl]
   subst hk;simp[hbt];simp[RetK,Qd O,hLS']
  .rw[if_neg hk,<-Qmz]at hLS;simp[hk,hbt];have hm1:=t3 rfl hne;refine Qg (H.length+1) d' (Q14 _) (by simp) (by omega) ⟨p+n+m,acc++[t],by omega,by omega,?_,by simp;omega,?_⟩
   .simpa using hLS
   .simp[f0,Qi O]
 .have hlt':¬(p:Int)+n<s.length:=by omega
  have hpn:p+n=s.length:=by omega
  obtain⟨rfl,h2⟩:=Prod.mk.inj (hnil hpn);obtain⟨rfl,rfl⟩:=Prod.mk.inj h2;rw[if_neg (by simp)]at hLS;have hsm:=Qe4 (s:=s) (n:=p+n) (w:=0) (by omega);simp only[Q34,Q40,Q5x]at hsm;simp[f0,hlt'];by_cases h4:4000<=acc.length;case pos=>
   have h4':(4000:Int)<=acc.length:=by omega
   rw[if_pos h4]at hLS;have:LS=([],5,((p+n:Nat):Int)):=by rw[hLS];simp[Qcl]
   simp[f6,f7,h4'];simp[RetK,Qd O,this]
  have h4':¬(4000:Int)<=acc.length:=by omega
  rw[if_neg h4]at hLS;obtain⟨t,ht⟩:∃t:Tk,t=⟨0,p+n,(s.drop p).take n,(s.drop (p+n)).take 0⟩:=⟨_,rfl⟩;have hbt:acc.map Qp++[[.int .i64 0,.int .i64 ((p:Int)+n),.str ((s.drop p).take n),.str ((s.drop (p+n)).take 0)]]=(acc++[t]).map Qp:=by simp[Qp,ht]
  rw[<-ht]at hLS;have hap:(acc.map Qp).length=acc.length:=by simp
  simp[f0,f6,f7,h4',hsm,appA];rw[if_pos (by omega)];simp;rw[if_pos rfl]at hLS;have hLS':LS=(acc++[t],0,0):=by rw[hLS];simp[Qcl]
  simp[RetK,Qd O,hLS',ht,Qp]
end
section
def AdvE(L:List Tk)(i:Nat)(s:Bool):PR->Prop
 |.ok _ j=>i<=j/\(s=true->i<j)/\(i<j->j<L.length)
 |_=>True
section
variable{L:List Tk}
def AdvE.ok{i j:Nat}{s:Bool}{m:N}(h1:i<=j)(h2:s=true->i<j)(h3:i<j->j<L.length):AdvE L i s (.ok m j):=⟨h1,h2,h3⟩
def AdvE.want(hE:Wz L){i k:Nat}{s:Bool}{x:Bs}{h:Nat->PR}(hh:k+1<L.length->AdvE L i s (h (k+1))):AdvE L i s (Qv L k x h):=by
 unfold Qv;split
 .rename_i e;exact hh (Q6 hE e)
 .trivial
def AdvE.word(hE:Wz L){i k:Nat}{s:Bool}{h:Bs->Nat->PR}(hh:k+1<L.length->AdvE L i s (h (txT L k) (k+1))):AdvE L i s (Yn L k h):=by
 unfold Yn;split
 .rename_i e;exact hh (Z5 hE (by omega))
 .trivial
def AdvE.ifT(hE:Wz L){i k:Nat}{s:Bool}{x:Bs}{a b:PR}(ha:k+1<L.length->AdvE L i s a)(hb:AdvE L i s b):AdvE L i s (if isT L k x then a else b):=by
 split
 .rename_i e;exact ha (Q6 hE e)
 .exact hb
def AdvE.ifK(hE:Wz L){i k:Nat}{s:Bool}{x:Int}{a b:PR}(hx:x≠0)(ha:k+1<L.length->AdvE L i s a)(hb:AdvE L i s b):AdvE L i s (if kdT L k=x then a else b):=by
 split
 .rename_i e;exact ha (Z5 hE (by omega))
 .exact hb
def AdvE.if0{i k:Nat}{s:Bool}{a b:PR}(ha:AdvE L i s a)(hb:AdvE L i s b):AdvE L i s (if kdT L k=0 then a else b):=by
 split
 .exact ha
 .exact hb
def AdvE.ifS(hE:Wz L){i k:Nat}{s:Bool}{x:Bs}{a b:PR}(ha:k+2<L.length->AdvE L i s a)(hb:AdvE L i s b):AdvE L i s (if kdT L k=1/\isT L (k+1) x=true then a else b):=by
 split
 .rename_i e;exact ha (by have:=Q6 hE e.2;omega)
 .exact hb
def AdvE.last{n:Nat}(ih:∀g i,AdvE L i g.strict (pp L n g i)){g:G}{k i:Nat}{s:Bool}(h1:i<=k)(h2:i<k->k<L.length)(h3:s=true->g.strict=true\/i<k):AdvE L i s (pp L n g k):=by
 have:=ih g k;generalize pp L n g k=r at this;cases r with
 |out=>trivial
 |bad j=>trivial
 |ok m j=>
  obtain⟨a1,a2,a3⟩:=this;refine⟨by omega,λh=>?_,λh=>by omega⟩;rcases h3 h with h|h
  .have:=a2 h;omega
  .omega
def AdvE.thenG{n:Nat}(ih:∀g i,AdvE L i g.strict (pp L n g i)){g:G}{k i:Nat}{s:Bool}{h:N->Nat->PR}(hh:∀m j,k<=j->(g.strict=true->k<j)->(k<j->j<L.length)->AdvE L i s (h m j)):AdvE L i s ((pp L n g k).then h):=by
 have:=ih g k;generalize pp L n g k=r at this;cases r with
 |out=>trivial
 |bad j=>trivial
 |ok m j=>exact hh m j this.1 this.2.1 this.2.2
def Yr(hE:Wz L):∀(n:Nat)(g:G)(i:Nat),AdvE L i g.strict (pp L n g i)
 |0,g,i=>trivial
 |n+1,g,i=>by
  have ih:=Yr hE n;cases g;all_goals simp only[pp,G.strict]
  all_goals
   repeat' first
    |exact AdvE.bad
    |(refine AdvE.want hE λ_=>?_)
    |(refine AdvE.word hE λ_=>?_)
    |(refine AdvE.ifT hE (λ_=>?_) ?_)
    |(refine AdvE.ifK hE (by decide) (λ_=>?_) ?_)
    |(refine AdvE.ifS hE (λ_=>?_) ?_)
    |(refine AdvE.if0 ?_ ?_)
    |(refine AdvE.thenG ih λm j h1 h2 h3=>?_;simp only[G.strict,Q2c,false_implies,true_implies]at h2)
    |(refine AdvE.ok ?_ ?_ ?_<;>(try simp only[Q2c,false_implies,true_implies])<;>omega)
    |(refine AdvE.last ih ?_ ?_ ?_<;>(try simp only[G.strict,Q2c,false_implies,true_implies,false_or,true_or])<;>omega)
end
def rst(tr:TypeId)(z:Bool)(L:List Tk)(st:Option Nat):Ob:=.box tr [YL z 4 (L.map Qp),YI (match st with|none=>-1|some q=>(q:Int))]
def Qkv{tr:TypeId}{z:Bool}{L:List Tk}{s:Option Nat}{n:Nat}:(rst tr z L s).clr n=rst tr z L s:=by simp[rst]
structure RF where
 (kind file is word want ended use_ def_ lambda params typed block stmt expr sum term post atom:FuncId)
 (tn tt tr:TypeId)
def ag(k f t:Int)(w:Bs)(a:Int)(x:A):A:=.agg [YI k,YI f,YI t,YS w,YI a,x]
section
variable{P:Program}{R:RF}{z:Bool}{L:List Tk}{H:Hp}{i:Nat}
def Has.ris{f tt tr}(h:Has P f (Qjk tt)){st:Option Nat}(hi:H[i]?=some (rst tr z L st)){p:Nat}(hp:p<L.length)(x:Bs):Qc P f [.ptr i 0,YI p,YS x] H (λr H'=>r=YB (isT L p x)/\H'=H):=by
 refine Qe h (by simp[Qjk]) λO _=>?_;unfold rst at hi;have hA:=Wj hi;have hr:=Qt Qp hp;have hg:L[p]?=some L[p]:=Q12 hp;have hT:isT L p x=((decide (L[p].k=2)||decide (L[p].k=5))&&decide (L[p].x=x)):=by unfold isT;rw[hg]
 generalize L[p]=t at hr hT;obtain⟨k,a,l,y⟩:=t;simp only[Qp]at hr hT;by_cases h2:k=2
 .simp[Qjk,hi,hA,hr,h2];simp[RetK,Qd O,hT,h2]
 .by_cases h5:k=5
  .simp[Qjk,hi,hA,hr,h2,h5];simp[RetK,Qd O,hT,h2,h5]
  .simp[Qjk,hi,hA,hr,h2,h5];simp[RetK,Qd O,hT,h2,h5]
def Has.rwant{f fi tr}(h:Has P f (Qdn fi))(hs:∀(H:Hp) (i:Nat) (st:Option Nat),H[i]?=some (rst tr z L st)->∀(p:Nat),p<L.length->∀x,Qc P fi [.ptr i 0,YI p,YS x] H (λr H'=>r=YB (isT L p x)/\H'=H)){s:PSt}(hi:H[i]?=some (rst tr z L s.2))(hp:s.2=none->s.1<L.length)(hb:s.1<=1125899906842624)(x:Bs):Qc P f [.ptr i 0,YI s.1,YS x] H (λr H'=>r=YI ((Qr L x s).1:Int)/\H'=H.set i (rst tr z L (Qr L x s).2)):=by
 refine Qe h (by simp[Qdn]) λO _=>?_;obtain⟨p,st⟩:=s;have hil:=Wl hi;cases st with
 |some q=>
  rw[show Qr L x (p,some q)=(p,some q)from rfl,Hp.set_self hi];unfold rst at hi;have hA:=Wj hi;have hq:¬(q:Int)<0:=by omega
  simp[Qdn,hi,hq];simp[RetK,Qb O]
 |none=>
  have hp':=hp rfl;have g:=hs H i none hi p hp' x;simp only at hb;have hw:IntKind.i64.wrap ((p:Int)+1)=((p+1:Nat):Int):=by rw[wi64 (by omega)];omega
  have hi0:=hi;unfold rst at hi;have hA:=Wj hi;rw[Qq];by_cases hT:isT L p x=true
  .rw[if_pos hT,Hp.set_self hi0];simp[Qdn,hi];refine Qa g ?_;simp[hi,hT,hw];simp[RetK,Qb O]
  .rw[if_neg hT];have hT':isT L p x=false:=by simpa using hT
   have hgs:=Qf8 hil (Ob.box tr [YL z 4 (L.map Qp),YI p]);have hc:Hp.cut H.length (H.set i (rst tr z L (some p)))=H.set i (rst tr z L (some p)):=Qdz O Qkv;simp[Qdn,hi];refine Qa g ?_;have hnq:¬(p:Int)<0:=by omega
   simp[hi,hT',hgs,hnq];simp[RetK,rst];simpa[rst]using hc
def Has.rended{f tn}(h:Has P f (Qa2 tn))(k f0 t:Int)(w:Bs)(a:Int)(z1:Bool)(rows:List (List D))(to:Int)(z2:Bool)(rows2:List (List D))(H:Hp):
 Qc P f [ag k f0 t w a (YL z1 6 rows),YI to,YL z2 6 rows2] H (λr H'=>r=ag k f0 to w a (YL z2 6 rows2)/\H'=H):=by
 refine Qe h (by simp[Qa2]) λO _=>?_;simp[Qa2,ag];simp[RetK,Qd O]
def Has.rendedT{f tn}(h:Has P f (Qa2 tn))(k f0 t:Int)(w:Bs)(a:Int)(z1:Bool)(rows:List (List D))(to:Int)(z2:Bool)(rows2:List (List D))(H:Hp)(q:Nat)(hq:q<H.length):
 Qc P f [ag k f0 t w a (YL z1 6 rows),YI to,.osl z2 6 rows2 q] H (λr H'=>r=ag k f0 to w a (.osl z2 6 rows2 q)/\H'=H):=by
 refine Qe h (by simp[Qa2]) λO _=>?_;simp[Qa2,ag,hq];simp[RetK,Qd O,hq]
def Has.rword{f tn tr}(h:Has P f (Qdm tn)){s:PSt}(hi:H[i]?=some (rst tr z L s.2))(hp:s.2=none->s.1<L.length)(hb:s.1<=1125899906842624)(k f0 t:Int)(w:Bs)(a:Int)(z1:Bool)(rows:List (List D)):
 Qc P f [.ptr i 0,ag k f0 t w a (YL z1 6 rows),YI s.1] H (λr H'=>r=.tup [ag k f0 t (if Q0 L s then txT L s.1 else w) (if Q0 L s then(s.1:Int)else a) (YL z1 6 rows),YI ((W7 L s).1:Int)]/\H'=H.set i (rst tr z L (W7 L s).2)):=by
 refine Qe h (by simp[Qdm]) λO _=>?_;obtain⟨p,st⟩:=s;have hil:=Wl hi;cases st with
 |some q=>
  rw[Z7,Qoj];rw[Hp.set_self hi];unfold rst at hi;have hA:=Wj hi;have hq:¬(q:Int)<0:=by omega
  simp[Qdm,hi,hA,hq,ag];simp[RetK,Qd O]
 |none=>
  have hp':=hp rfl;simp only at hb hp';have hw:IntKind.i64.wrap ((p:Int)+1)=((p+1:Nat):Int):=by rw[wi64 (by omega)];omega
  have hi0:=hi;unfold rst at hi;have hA:=Wj hi;have hr:=Qt Qp hp';have hg:L[p]?=some L[p]:=Q12 hp';have hkd:kdT L p=L[p].k:=by unfold kdT;rw[hg]
  have htx:txT L p=L[p].x:=by unfold txT;rw[hg]
  generalize L[p]=tk at hr hkd htx;obtain⟨kk,ta,tl,y⟩:=tk;simp only[Qp]at hr hkd htx;rw[Wu,Qhi,hkd,htx];by_cases h1:kk=1
  .subst h1;rw[if_pos rfl,Hp.set_self hi0];simp[Qdm,hi,hA,hr,hw,ag];simp[RetK,Qd O]
  .rw[if_neg h1];have hc:Hp.cut H.length (H.set i (rst tr z L (some p)))=H.set i (rst tr z L (some p)):=Qdz O Qkv;have hu:∀X o,(H++X).set i o=H.set i o++X:=λX o=>Q18 _ _ hil;have hgs:∀X o,(H.set i o++X)[i]?=some o:=λX o=>upG hil;have hcc:∀X,Hp.cut H.length (H.set i (rst tr z L (some p))++X)=H.set i (rst tr z L (some p)):=λX=>by rw[Qaq (by simp),hc]
   unfold rst at hcc;simp[Qdm,hi,hA,hr,hw,ag,h1,hu,hgs];simp[RetK,hcc,rst]
end
end
section
structure RHas(P:Program)(R:RF):Prop where
 is:Has P R.is (Qjk R.tt)
 word:Has P R.word (Qdm R.tn)
 want:Has P R.want (Qdn R.is)
 ended:Has P R.ended (Qa2 R.tn)
 use_:Has P R.use_ (Qox R.word R.want R.ended R.tn)
 def_:Has P R.def_ (Qoz R.want R.word R.lambda R.ended R.tn)
 lambda:Has P R.lambda (Qg4 R.params R.typed R.block R.tn)
 typed:Has P R.typed (Qdo R.is R.kind R.tn)
def Qet(L:List Tk)(n:Nat)(g:G)(s:PSt):Prop:=PPre L n g s/\(s.2=none->s.1<L.length)
def RQ(tr:TypeId)(z:Bool)(L:List Tk)(n:Nat)(g:G)(H:Hp)(i:Nat)(X:Hp)(s:PSt):A->Hp->Prop:=λr H'=>∃m s',r=.tup [N.v m,YI s'.1]/\H'=H.set i (rst tr z L s'.2)++X/\Rel L n g s m s'
def UR(P:Program)(tr:TypeId)(z:Bool)(L:List Tk)(n:Nat)(g:G)(f:FuncId):Prop:=∀(H X:Hp)(i:Nat)(s:PSt),i<H.length->Qet L n g s->Qc P f [.ptr i 0,YI s.1] (H.set i (rst tr z L s.2)++X) (RQ tr z L n g H i X s)
def Qiz{P:Program}{tr:TypeId}{z:Bool}{L:List Tk}{n:Nat}{g:G}{f:FuncId}(h:∀(H:Hp) (i:Nat) (s:PSt),i<H.length->Qet L n g s->Qc P f [.ptr i 0,YI s.1] (H.set i (rst tr z L s.2)) (RQ tr z L n g H i [] s)):UR P tr z L n g f:=by intro H X i s hi hp;have:=h (H++X) i s (by simp;omega) hp;rw[Q18 _ _ hi]at this;refine this.mono ?_;rintro r H' ⟨m,s',rfl,rfl,hr⟩;refine⟨m,s',rfl,?_,hr⟩;rw[Q2k,Q18 _ _ hi]
def MoE(L:List Tk)(s s':PSt):Prop:=s'.2=none->s.2=none/\s.1<=s'.1/\(s.1<L.length->s'.1<L.length)
def MoE.refl{L:List Tk}(s:PSt):MoE L s s:=λh=>⟨h,Q14 _,id⟩
def MoE.trans{L:List Tk}{s t u:PSt}(h:MoE L s t)(k:MoE L t u):MoE L s u:=λe=>by obtain⟨a1,a2,a3⟩:=k e;obtain⟨b1,b2,b3⟩:=h a1;exact⟨b1,by omega,λq=>a3 (b3 q)⟩
def MoE.pre{L:List Tk}{n:Nat}{g g':G}{s s':PSt}(h:MoE L s s')(hp:Qet L (n+1) g s)(hc:g'.c<g.c)(hb:s'.1+16*g'.c<=281474976710656):Qet L n g' s':=by
 obtain⟨⟨p1,p2,p3⟩,p4⟩:=hp;refine⟨⟨hb,by omega,λe=>?_⟩,λe=>?_⟩
 .obtain⟨a1,a2,a3⟩:=h e;obtain⟨b1,b2⟩:=p3 a1;have:=a3 (p4 a1);exact⟨by omega,by omega⟩
 .obtain⟨a1,a2,a3⟩:=h e;exact a3 (p4 a1)
section
variable{L:List Tk}{x:Bs}{p q:Nat}
def V0(hE:Wz L){s s':PSt}(h:Qr L x s=s'):MoE L s s':=by
 subst h;obtain⟨p,st⟩:=s;cases st with
 |some q=>exact .refl _
 |none=>
  rw[Qq];split
  .rename_i e;exactλ_=>⟨rfl,by simp,λ_=>Q6 hE e⟩
  .intro e;cases e
def Qat(hE:Wz L){s s':PSt}(h:W7 L s=s'):MoE L s s':=by
 subst h;obtain⟨p,st⟩:=s;cases st with
 |some q=>rw[Z7];exact .refl _
 |none=>
  rw[Wu];split
  .rename_i e;exactλ_=>⟨rfl,by simp,λ_=>Z5 hE (by omega)⟩
  .intro e;cases e
def Rel.moE(hE:Wz L){n:Nat}{g:G}{m:N}{s s':PSt}(h:Rel L n g s m s'):MoE L s s':=by
 obtain⟨p,st⟩:=s;cases st with
 |some q=>obtain⟨a,rfl,-⟩:=h.some';intro e;cases e
 |none=>
  rcases h.none' with⟨q,a,-,rfl,-⟩|⟨k,e,rfl⟩
  .intro e;cases e
  .have ha:=Yr hE n g p;rw[e]at ha;obtain⟨h1,-,h3⟩:=ha;refineλ_=>⟨rfl,h1,λhl=>?_⟩;simp only at hl⊢;rcases Q4f p k with h|h
   .exact h3 h
   .omega
end
section
variable{P:Program}{R:RF}{z:Bool}{L:List Tk}{H X:Hp}{i:Nat}{s:PSt}
def rcut{tr:TypeId}{st st':Option Nat}(O:Hp.Closed (H.set i (rst tr z L st))):Hp.cut H.length (H.set i (rst tr z L st')++X)=H.set i (rst tr z L st'):=by
 have e:H.set i (rst tr z L st')=(H.set i (rst tr z L st)).set i (rst tr z L st'):=by simp
 rw[Qaq (by simp),e,Hp.cut_set];have:=Qb O;rw[Q21]at this;rw[this,Qkv]
def RHas.isA(hR:RHas P R)(hi:i<H.length){st:Option Nat}{p:Nat}(hp:p<L.length)(x:Bs):Qc P R.is [.ptr i 0,YI p,YS x] (H.set i (rst R.tr z L st)++X) (λr H'=>r=YB (isT L p x)/\H'=H.set i (rst R.tr z L st)++X):=hR.is.ris (upG hi) hp x
def RHas.wantA(hR:RHas P R)(hi:i<H.length)(hp:s.2=none->s.1<L.length)(hb:s.1<=1125899906842624)(x:Bs):Qc P R.want [.ptr i 0,YI s.1,YS x] (H.set i (rst R.tr z L s.2)++X) (λr H'=>r=YI ((Qr L x s).1:Int)/\H'=H.set i (rst R.tr z L (Qr L x s).2)++X):=by have:=hR.want.rwant (s:=s) (tr:=R.tr) (z:=z) (λH i st h p hp x=>hR.is.ris h hp x) (upG (X:=X) hi) hp hb x;rwa[up hi]at this
def RHas.wordA(hR:RHas P R)(hi:i<H.length)(hp:s.2=none->s.1<L.length)(hb:s.1<=1125899906842624)(k f0 t:Int)(w:Bs)(a:Int)(z1:Bool)(rows:List (List D)):
 Qc P R.word [.ptr i 0,ag k f0 t w a (YL z1 6 rows),YI s.1] (H.set i (rst R.tr z L s.2)++X) (λr H'=>r=.tup [ag k f0 t (if Q0 L s then txT L s.1 else w) (if Q0 L s then(s.1:Int)else a) (YL z1 6 rows),YI ((W7 L s).1:Int)]/\H'=H.set i (rst R.tr z L (W7 L s).2)++X):=by
 have:=hR.word.rword (s:=s) (tr:=R.tr) (z:=z) (upG (X:=X) hi) hp hb k f0 t w a z1 rows;rwa[up hi]at this
def MoE.lt{L:List Tk}{s s':PSt}(h:MoE L s s')(hs:s.2=none->s.1<L.length):s'.2=none->s'.1<L.length:=λe=>by obtain⟨a1,a2,a3⟩:=h e;exact a3 (hs a1)
def RHas.use'(hR:RHas P R)(hE:Wz L)(hL:L.length<=1048576)(n:Nat)(hi:i<H.length)(p:Nat)(hT:isT L p kUse=true):
 Qc P R.use_ [.ptr i 0,YI p] (H.set i (rst R.tr z L none)) (RQ R.tr z L (n+1) .use H i [] (p,none)):=by
 refine Qe hR.use_ (by simp[Qox]) λO _=>?_;have hp:=Q6 hE hT;have hw:IntKind.i64.wrap ((p:Int)+1)=((p+1:Nat):Int):=by rw[wi64 (by omega)];omega
 have hp1:(((p+1:Nat),none):PSt).2=none->(((p+1:Nat),none):PSt).1<L.length:=λ_=>hp;have g1:=λX=>hR.wordA (z:=z) (s:=(p+1,none)) (X:=X) hi hp1 (by simp only;omega) 23 (p+1:Nat) 0 [] 0 true [];generalize h1:W7 L (p+1,none)=s1 at g1;have b1:=Vc h1;have m1:=Qat hE h1;have g2:=λX=>hR.wantA (z:=z) (s:=s1) (X:=X) hi (m1.lt hp1) (by simp only at b1;omega) [46];generalize h2:Qr L [46] s1=s2 at g2;have b2:=W8 h2;have m2:=m1.trans (V0 hE h2);have g3:=λX=>hR.wordA (z:=z) (s:=s2) (X:=X) hi (m2.lt hp1) (by simp only at b1;omega) 2 p 0 [] 0 true [];generalize h3:W7 L s2=s3 at g3;have b3:=Vc h3;have m3:=m2.trans (Qat hE h3);have g4:=λX=>hR.wantA (z:=z) (s:=s3) (X:=X) hi (m3.lt hp1) (by simp only at b1;omega) [59];generalize h4:Qr L [59] s3=s4 at g4;simp only[ag]at g1 g3;simp[Qox,hw];refine Qa (g1 _) ?_;simp;refine Qa (g2 _) ?_;simp;refine Qa (g3 _) ?_;simp;refine Qa (g4 _) ?_;simp;have g5:=hR.ended.rended 2 p 0 (if Q0 L s2 then txT L s2.1 else[]) (if Q0 L s2 then(s2.1:Int)else 0) true [] (s4.1:Int) false [[.int .i64 23,.int .i64 (p+1:Nat),.int .i64 (s1.1:Int),.str (if Q0 L (p+1,none)then txT L (p+1)else[]),.int .i64 (if Q0 L (p+1,none)then((p+1:Nat):Int)else 0),.sl true 6 []]];simp only[ag]at g5;simp at g5;refine Qa (g5 _) ?_;simp;simp[RetK,rcut O];refine⟨N.new 2 p s4.1 (if Q0 L s2 then txT L s2.1 else[]) (if Q0 L s2 then(s2.1:Int)else 0) [N.new 23 (p+1) s1.1 (if kdT L (p+1)=1 then txT L (p+1)else[]) (if kdT L (p+1)=1 then(p:Int)+1 else 0) []],s4,?_,by simp,?_⟩
 .simp[N.new,N.v_mk,N.enc_mk]
 subst h1 h2 h3 h4;clear b1 b2 b3 m1 m2 m3 g1 g2 g3 g4 g5;simp only[Rel,pp,Qv,Yn,if_pos hT];by_cases c2:kdT L (p+1)=1
 case neg=>simp[c2];omega
 have l2:=Z5 hE (show kdT L (p+1)≠0 by omega);simp only[Wu,c2,if_true];by_cases c3:isT L (p+1+1) [46]=true
 case neg=>simp[c3];omega
 have l3:=Q6 hE c3;simp only[Qq,c3,if_true];by_cases c4:kdT L (p+1+1+1)=1
 case neg=>simp[c4];omega
 have l4:=Z5 hE (show kdT L (p+1+1+1)≠0 by omega);simp only[Wu,c4,if_true];by_cases c5:isT L (p+1+1+1+1) [59]=true
 case neg=>simp[c5];omega
 simp[c2,c3,c4,c5];simp[Q58,Q3r]
def Qta(L:List Tk)(n:Nat)(s:PSt)(p t b:N)(s':PSt):Prop:=∃s1 s2,Rel L n .params s p s1/\Rel L n .typed s1 t s2/\Rel L n .block s2 b s'
def RHas.lambda'(hR:RHas P R)(hE:Wz L)(hL:L.length<=1048576)(n:Nat)(hn:n<=1099511627776)(hPa:UR P R.tr z L n .params R.params)(hTy:UR P R.tr z L n .typed R.typed)(hBl:UR P R.tr z L n .block R.block)(hi:i<H.length)(hb:s.1<=1048576+1)(h5:5<=n)(hp:s.2=none->s.1<L.length/\16*(L.length-s.1)+5<=n):
 Qc P R.lambda [.ptr i 0,YI s.1] (H.set i (rst R.tr z L s.2)++X) (λr H'=>∃p t b s',r=.tup [YL false 6 [p.enc,t.enc,b.enc],YI s'.1]/\H'=H.set i (rst R.tr z L s'.2)++X/\Qta L n s p t b s'):=by
 refine Qe hR.lambda (by simp[Qg4]) λO _=>?_;have pr:∀{s1:PSt} {g:G},g.c<=5->MoE L s s1->s1.1+16*g.c<=281474976710656->Qet L n g s1:=λ{s1 g} hc hm hbb=>by
  refine⟨⟨hbb,by omega,λe=>?_⟩,λe=>?_⟩
  .obtain⟨a1,a2,a3⟩:=hm e;obtain⟨c1,c2⟩:=hp a1;have:=a3 c1;exact⟨by omega,by omega⟩
  .obtain⟨a1,a2,a3⟩:=hm e;exact a3 (hp a1).1
 obtain⟨Q,hQ⟩:∃Q:A->Hp->Prop,Q=λr H'=>∃p t b s',r=.tup [YL false 6 [p.enc,t.enc,b.enc],YI s'.1]/\H'=H.set i (rst R.tr z L s'.2)++X/\Qta L n s p t b s':=⟨_,rfl⟩;rw[<-hQ];have hcc:∀st Y,Hp.cut (H.length+X.length) (H.set i (rst R.tr z L st)++(X++Y))=H.set i (rst R.tr z L st)++X:=λst Y=>by
  have hcl':Hp.Closed ((H++X).set i (rst R.tr z L s.2)):=by rw[Q18 _ _ hi];exact O
  have:=rcut (st':=st) (X:=Y) hcl';rw[Q18 _ _ hi,Q2l,Q2g]at this;exact this
 simp[Qg4];refine Qf (hPa H X i s hi (pr (by decide) (.refl s) (by simp only[G.c];omega))) ?_;rintro _ _ ⟨t1,s1,rfl,rfl,r1⟩;have m1:=r1.moE hE;have b1:=r1.wt0 rfl;obtain⟨ka,fa,ta,wa,qa,za,ksa⟩:=t1;rw[N.v_mk];simp;refine Qf (hTy H _ i s1 hi (pr (by decide) m1 (by simp only[G.c];omega))) ?_;rintro _ _ ⟨t2,s2,rfl,rfl,r2⟩;have m2:=m1.trans (r2.moE hE);have b2:=r2.wt0 rfl;obtain⟨kb,fb,tb,wb,qb,zb,ksb⟩:=t2;rw[N.v_mk];simp;refine Qf (hBl H _ i s2 hi (pr (by decide) m2 (by simp only[G.c];omega))) ?_;rintro _ _ ⟨t3,s3,rfl,rfl,r3⟩;obtain⟨kc,fc,tc,wc,qc,zc,ksc⟩:=t3;rw[N.v_mk];simp;simp[RetK,hcc];subst hQ;refine⟨_,_,_,s3,?_,rfl,s1,s2,r1,r2,r3⟩;simp[N.enc_mk]
end
end
section
section
variable{P:Program}{R:RF}{z:Bool}{L:List Tk}{H X:Hp}{i:Nat}{s:PSt}
def RHas.def'(hR:RHas P R)(hE:Wz L)(hL:L.length<=1048576)(n:Nat)(hn:n<=1099511627776)(hPa:UR P R.tr z L n .params R.params)(hTy:UR P R.tr z L n .typed R.typed)(hBl:UR P R.tr z L n .block R.block)(hi:i<H.length)(p:Nat)(hpp:Qet L (n+1) .defn (p,none)):
 Qc P R.def_ [.ptr i 0,YI p] (H.set i (rst R.tr z L none)) (RQ R.tr z L (n+1) .defn H i [] (p,none)):=by
 refine Qe hR.def_ (by simp[Qoz]) λO _=>?_;have hp:p<L.length:=hpp.2 rfl;obtain⟨-,hp2⟩:=hpp.1.2.2 rfl;simp only[G.c]at hp2;have hp1:(((p:Nat),none):PSt).2=none->(((p:Nat),none):PSt).1<L.length:=λ_=>hp;have g1:=λX=>hR.wantA (z:=z) (s:=(p,none)) (X:=X) hi hp1 (by simp only;omega) [100,101,102];generalize h1:Qr L [100,101,102] (p,none)=s1 at g1;have b1:=W8 h1;have m1:=V0 hE h1;have g2:=λX=>hR.wordA (z:=z) (s:=s1) (X:=X) hi (m1.lt hp1) (by simp only at b1;omega) 3 p 0 [] 0 true [];generalize h2:W7 L s1=s2 at g2;have b2:=Vc h2;have m2:=m1.trans (Qat hE h2);simp only[ag]at g2;simp[Qoz];refine Qa (g1 _) ?_;simp;refine Qa (g2 _) ?_;simp;refine Qf (hR.lambda' (X:=_) hE hL n hn hPa hTy hBl hi (by simp only at b1;omega) (by omega) (λe=>by obtain⟨a1,a2,a3⟩:=m2 e;have:=a3 hp;simp only at a2 this;exact⟨this,by omega⟩)) ?_
 rintro _ _ ⟨t1,t2,t3,s3,rfl,rfl,u1,u2,r1,r2,r3⟩;simp;have g5:=hR.ended.rended 3 p 0 (if Q0 L s1 then txT L s1.1 else[]) (if Q0 L s1 then(s1.1:Int)else 0) true [] (s3.1:Int) false [t1.enc,t2.enc,t3.enc];simp only[ag]at g5;refine Qa (g5 _) ?_;simp;simp[RetK,rcut O];refine⟨N.new 3 p s3.1 (if Q0 L s1 then txT L s1.1 else[]) (if Q0 L s1 then(s1.1:Int)else 0) [t1,t2,t3],s3,?_,by simp,?_⟩
 .simp[N.new,N.v_mk]
 clear b1 b2 m1 m2 g1 g2 g5;subst h1 h2;simp only[Rel,pp,Qv,Yn,kDef];by_cases c1:isT L p [100,101,102]=true
 case neg=>simp[c1]at r1;obtain⟨a,rfl,e3⟩:=r1.some';obtain⟨b,rfl,e4⟩:=r2.some';obtain⟨c,rfl,e5⟩:=r3.some';simp only[G.wt]at e3 e4 e5;simp[c1];omega
 have l1:=Q6 hE c1;simp only[Qq,c1,if_true]at r1⊢;by_cases c2:kdT L (p+1)=1
 case neg=>simp[c2]at r1;obtain⟨a,rfl,e3⟩:=r1.some';obtain⟨b,rfl,e4⟩:=r2.some';obtain⟨c,rfl,e5⟩:=r3.some';simp only[G.wt]at e3 e4 e5;simp[c1,c2];omega
 simp only[Wu,c2,if_true]at r1;rcases r1.none' with⟨q,a,e,rfl,e3⟩|⟨k,e,rfl⟩
 .obtain⟨b,rfl,e4⟩:=r2.some';obtain⟨c,rfl,e5⟩:=r3.some';simp only[G.wt]at e4 e5;simp[c1,c2,e,PR.then];omega
 rcases r2.none' with⟨q,a,e',rfl,e4⟩|⟨k',e',rfl⟩
 .obtain⟨c,rfl,e5⟩:=r3.some';simp only[G.wt]at e5;simp[c1,c2,e,e',PR.then];omega
 rcases r3.none' with⟨q,a,e'',rfl,e5⟩|⟨k'',e'',rfl⟩
 .simp[c1,c2,e,e',e'',PR.then];omega
 simp[c1,c2,e,e',e'',PR.then]
def RHas.typed'(hR:RHas P R)(hE:Wz L)(hL:L.length<=1048576)(n:Nat)(hn:n<=1099511627776)(hK:UR P R.tr z L n .kind R.kind):UR P R.tr z L (n+1) .typed R.typed:=by
 refine Qiz λH i s hi hpp=>?_;refine Qe hR.typed (by simp[Qdo]) λO _=>?_;have hp0:=hpp.1.1;simp only[G.c]at hp0;obtain⟨p,st⟩:=s;have hget:∀st X,(H.set i (rst R.tr z L st)++X)[i]?=some (rst R.tr z L st):=λst X=>upG hi;have hget0:∀st,(H.set i (rst R.tr z L st))[i]?=some (rst R.tr z L st):=λst=>Qf8 hi _;have hcc:∀st' X,Hp.cut H.length (H.set i (rst R.tr z L st')++X)=H.set i (rst R.tr z L st'):=λst' X=>rcut O;cases st with
 |some q=>
  have hq:¬(q:Int)<0:=by omega
  have hq':(0:Int)<=q:=by omega
  have hg1:=hget (some q);have hg2:=hget0 (some q);have hc:=hcc (some q);simp only[rst]at hg1 hg2 hc;simp[Qdo,rst,hg1,hg2,hq,hq'];simp[RetK,hc];refine⟨N.none,(p,some q),by simp[N.none,N.new,N.v_mk],by simp[rst],?_⟩;simp[Rel]
 |none=>
  have hp:p<L.length:=hpp.2 rfl;obtain⟨hp1,hp2⟩:=hpp.1.2.2 rfl;simp only[G.c]at hp1 hp2;have g:=λX=>hR.isA (z:=z) (st:=none) (X:=X) hi hp [58];have hw:IntKind.i64.wrap ((p:Int)+1)=((p+1:Nat):Int):=by rw[wi64 (by omega)];omega
  have hg1:=hget none;have hg2:=hget0 none;simp only[rst]at hg1 hg2;cases hT:isT L p [58]with
  |false=>rw[hT]at g;simp only[rst]at g;simp[Qdo,rst,hg1,hg2];refine Qa (g _) ?_;simp;have hc:=hcc none;simp only[rst]at hc;simp[RetK,hc];refine⟨N.none,(p,none),by simp[N.none,N.new,N.v_mk],by simp[rst],?_⟩;simp[Rel,pp,hT]
  |true=>
   have hl:=Q6 hE hT;rw[hT]at g;have gk:=λX=>hK H X i (p+1,none) hi ⟨⟨by simp only[G.c];omega,by simp only[G.c];omega,λ_=>⟨by simp only;omega,by simp only[G.c];omega⟩⟩,λ_=>hl⟩;obtain⟨Q,hQ⟩:∃Q:A->Hp->Prop,Q=RQ R.tr z L (n+1) .typed H i [] (p,none):=⟨_,rfl⟩;rw[<-hQ];simp only[rst]at g gk;simp[Qdo,rst,hg1,hg2,hw];refine Qa (g _) ?_;simp[hw];refine Qf (gk _) ?_;rintro _ _ ⟨m,s',rfl,rfl,hr⟩;obtain⟨k,f,t,w,a,zz,ks⟩:=m;rw[N.v_mk];simp;simp[RetK,hcc];subst hQ;refine⟨_,s',by rw[N.v_mk],by simp,?_⟩;simp only[Rel]at hr⊢;simp[pp,hT];split at hr
   .exact hr.elim
   .rename_i q e;exact⟨hr.1,by omega⟩
   .rename_i m' k' e;exact hr
end
end
section
def Qme{L:List Tk}{i:Nat}{x y:Bs}(h:isT L i x=true)(h':isT L i y=true):x=y:=by
 unfold isT at h h';cases hg:L[i]? with
 |none=>rw[hg]at h;cases h
 |some t=>rw[hg]at h h';simp at h h';rw[<-h.2,<-h'.2]
section
variable{P:Program}{R:RF}{z:Bool}{L:List Tk}{H X:Hp}{i:Nat}{s:PSt}
def RHas.expr'(hR:RHas P R)(hx:Has P R.expr (Qh4 R.sum R.is R.ended R.tn))(hE:Wz L)(hL:L.length<=1048576)(n:Nat)(hn:n<=1099511627776)(hS:UR P R.tr z L n .sum R.sum):UR P R.tr z L (n+1) .expr R.expr:=by
 refine Qiz λH i s hi hpp=>?_;refine Qe hx (by simp[Qh4]) λO _=>?_;have hp0:=hpp.1.1;simp only[G.c]at hp0;have hget:∀st X,(H.set i (rst R.tr z L st)++X)[i]?=some (rst R.tr z L st):=λst X=>upG hi;have hcc:∀st' X,Hp.cut H.length (H.set i (rst R.tr z L st')++X)=H.set i (rst R.tr z L st'):=λst' X=>rcut O;have gS:=λX s hp=>hS H X i s hi hp;obtain⟨Q,hQ⟩:∃Q:A->Hp->Prop,Q=RQ R.tr z L (n+1) .expr H i [] s:=⟨_,rfl⟩;rw[<-hQ];simp[Qh4];refine Qf (gS _ s ((MoE.refl s).pre hpp (by decide) (by simp only[G.c];omega))) ?_;rintro _ _ ⟨m,s1,rfl,rfl,r1⟩;have m1:=r1.moE hE;have hlt:=m1.lt hpp.2;obtain⟨k,f,t,w,a,zz,ks⟩:=m;rw[N.v_mk];have ret:Rel L (n+1) .expr s (.mk k f t w a zz ks) s1->Q (.tup [.agg [YI k,YI f,YI t,YS w,YI a,YL zz 6 (ks.map N.enc)],YI s1.1]) (H.set i (rst R.tr z L s1.2)):=λh=>by subst hQ;exact⟨_,s1,by rw[N.v_mk],by simp,h⟩
 obtain⟨p1,st1⟩:=s1;cases st1 with
 |some q=>
  have hg1:=hget (some q);have hc:=hcc (some q);have hq:¬(q:Int)<0:=by omega
  have hq':(0:Int)<=q:=by omega
  simp only[rst]at hg1 hc ret;simp[rst,hg1,hq,hq'];simp[RetK,hc];refine ret ?_;obtain⟨p,st⟩:=s;cases st with
  |some q'=>obtain⟨b,e,e3⟩:=r1.some';simp only[prdI,somI]at e;obtain⟨rfl,rfl⟩:=e;simp only[G.wt]at e3;simpa[Rel,G.wt]using e3
  |none=>
   rcases r1.none' with⟨q',b,e,e2,e3⟩|⟨k',e,e2⟩
   .simp only[prdI,somI]at e2;obtain⟨rfl,rfl⟩:=e2;simp[Rel,pp,e,PR.then];omega
   .simp at e2
 |none=>
  have hl1:p1<L.length:=hlt rfl;have hg1:=hget none;have hc:=hcc none;obtain⟨hs0,hle,-⟩:=m1 rfl;obtain⟨p,st⟩:=s;simp only at hs0;subst hs0;simp only at hle;obtain⟨hp1,hp2⟩:=hpp.1.2.2 rfl;simp only[G.c]at hp1 hp2;have e1:pp L n .sum p=.ok (.mk k f t w a zz ks) p1:=by
   rcases r1.none' with⟨q',b,e,e2,e3⟩|⟨k',e,e2⟩
   .simp at e2
   .simp only[prdI]at e2;rw[e,e2.1]
  have hw:IntKind.i64.wrap ((p1:Int)+1)=((p1+1:Nat):Int):=by rw[wi64 (by omega)];omega
  have gi1:=λX=>hR.isA (z:=z) (st:=none) (X:=X) hi hl1 [60];have gi2:=λX=>hR.isA (z:=z) (st:=none) (X:=X) hi hl1 [61,61];have more:∀(K:Int),isT L p1 [60]=true/\K=14\/isT L p1 [60]=false/\isT L p1 [61,61]=true/\K=15->∀(m2:N)(s2:PSt),Rel L n .sum (p1+1,none) m2 s2->Q (.tup [.agg [YI K,YI f,YI s2.1,YS [],YI 0,YL false 6 [[.int .i64 k,.int .i64 f,.int .i64 t,.str w,.int .i64 a,.sl zz 6 (ks.map N.enc)],m2.enc]],YI s2.1]) (H.set i (rst R.tr z L s2.2)):=by
   intro K hK m2 s2 r2;subst hQ;refine⟨N.new K f s2.1 [] 0 [.mk k f t w a zz ks,m2],s2,by simp[N.new,N.v_mk,N.enc_mk],by simp,?_⟩;simp only[Rel,pp,e1,PR.then];rcases hK with⟨h1,rfl⟩|⟨h1,h2,rfl⟩
   .have:=Q6 hE h1;rw[if_pos h1];rcases r2.none' with⟨q',b,e,rfl,e3⟩|⟨k',e,rfl⟩
    .simp[e,PR.then];omega
    .simp[e,PR.then,N.f]
   .have:=Q6 hE h2;rw[if_neg (by simp[h1]),if_pos h2];rcases r2.none' with⟨q',b,e,rfl,e3⟩|⟨k',e,rfl⟩
    .simp[e,PR.then];omega
    .simp[e,PR.then,N.f]
  have pre2:p1+1<L.length->Qet L n .sum (p1+1,none):=λh=>⟨⟨by simp only[G.c];omega,by simp only[G.c];omega,λ_=>⟨by simp only;omega,by simp only[G.c];omega⟩⟩,λ_=>h⟩;cases hT:isT L p1 [60]with
  |true=>
   have hT2:isT L p1 [61,61]=false:=by
    cases h:isT L p1 [61,61]with
    |false=>rfl
    |true=>exact absurd (Qme hT h) (by decide)
   have g3:=λX=>gS X _ (pre2 (Q6 hE hT));have more:=more 14 (.inl ⟨hT,rfl⟩);rw[hT]at gi1;rw[hT2]at gi2;simp only[rst]at hg1 gi1 gi2 g3;simp[rst,hg1];refine Qa (gi1 _) ?_;simp;refine Qa (gi2 _) ?_;simp[hw];refine Qf (g3 _) ?_;rintro _ _ ⟨m2,s2,rfl,rfl,r2⟩;have more:=more m2 s2 r2;obtain⟨k2,f2,t2,w2,a2,z2,ks2⟩:=m2;rw[N.v_mk];rw[N.enc_mk]at more;have g5:=hR.ended.rended 14 f 0 [] 0 true [] (s2.1:Int) false [[.int .i64 k,.int .i64 f,.int .i64 t,.str w,.int .i64 a,.sl zz 6 (ks.map N.enc)],[.int .i64 k2,.int .i64 f2,.int .i64 t2,.str w2,.int .i64 a2,.sl z2 6 (ks2.map N.enc)]];simp only[ag]at g5;simp;refine Qa (g5 _) ?_;simp;simp[RetK,hcc];exact more
  |false=>
   cases hT2:isT L p1 [61,61]with
   |true=>have g3:=λX=>gS X _ (pre2 (Q6 hE hT2));have more:=more 15 (.inr ⟨hT,hT2,rfl⟩);rw[hT]at gi1;rw[hT2]at gi2;simp only[rst]at hg1 gi1 gi2 g3;simp[rst,hg1];refine Qa (gi1 _) ?_;simp;refine Qa (gi2 _) ?_;simp;refine Qa (gi2 _) ?_;simp[hw];refine Qf (g3 _) ?_;rintro _ _ ⟨m2,s2,rfl,rfl,r2⟩;have more:=more m2 s2 r2;obtain⟨k2,f2,t2,w2,a2,z2,ks2⟩:=m2;rw[N.v_mk];rw[N.enc_mk]at more;have g5:=hR.ended.rended 15 f 0 [] 0 true [] (s2.1:Int) false [[.int .i64 k,.int .i64 f,.int .i64 t,.str w,.int .i64 a,.sl zz 6 (ks.map N.enc)],[.int .i64 k2,.int .i64 f2,.int .i64 t2,.str w2,.int .i64 a2,.sl z2 6 (ks2.map N.enc)]];simp only[ag]at g5;simp;refine Qa (g5 _) ?_;simp;simp[RetK,hcc];exact more
   |false=>rw[hT]at gi1;rw[hT2]at gi2;simp only[rst]at hg1 gi1 gi2 hc ret;simp[rst,hg1];refine Qa (gi1 _) ?_;simp;refine Qa (gi2 _) ?_;simp;simp[RetK,hc];refine ret ?_;simp[Rel,pp,e1,PR.then,hT,hT2]
end
end
section
def zbx(tn:TypeId):Ob:=.box tn [YI 0,YI 0,YI 0,YS [],YI 0,YL true 6 []]
def rcutk{tr:TypeId}{z:Bool}{L:List Tk}{H:Hp}{i:Nat}{st:Option Nat}(O:Hp.Closed (H.set i (rst tr z L st)))(st':Option Nat)(k:Nat)(X:Hp):Hp.cut (H.length+k) (H.set i (rst tr z L st')++X)=H.set i (rst tr z L st')++(X.take k).map (Ob.clr (H.length+k)):=by
 have hc:Hp.Closed (H.set i (rst tr z L st')):=by
  have e:H.set i (rst tr z L st')=(H.set i (rst tr z L st)).set i (rst tr z L st'):=by simp
  intro n hn;have h:=O n (by simpa using hn);rw[e,Q5w,h,Qkv]
 have:=Qi hc k X;rwa[Q21]at this
def lfs{tr tn:TypeId}{z:Bool}{L:List Tk}{H:Hp}{i KT m0 m1:Nat}{st:Option Nat}{XX:List N->Hp}(nf:Nat->Nat)(O:Hp.Closed (H.set i (rst tr z L st)))(hi:i<H.length)(B:Hp)(hX:XX=λks=>B++[.tok (nf ks.length) 6 tn])(h1:B.length=KT)(h2:KT+1=m0)(h3:m0+1=m1)(hB:∀n,B.map (Ob.clr n)=B):
 (∀ks st' X,Hp.cut (H.length+m0) (H.set i (rst tr z L st')++(XX ks++X))=H.set i (rst tr z L st')++XX ks)/\(∀ks st',Hp.cut (H.length+m0) (H.set i (rst tr z L st')++XX ks)=H.set i (rst tr z L st')++XX ks)/\(∀st X,(H.set i (rst tr z L st)++X)[i]?=some (rst tr z L st))/\
 (∀(ks:List N) X,(XX ks++X)[KT]?=some (.tok (nf ks.length) 6 tn))/\(∀(ks:List N) h,(XX ks)[KT]'h=.tok (nf ks.length) 6 tn)/\(∀(ks:List N) b X,(XX ks++b::X)[m0]?=some b)/\(∀(ks:List N) b c X,(XX ks++b::c::X)[m1]?=some c)/\
 (∀(ks:List N)(m:N) X,(XX ks++X).set KT (.tok (nf (ks.length+1)) 6 tn)=XX (ks++[m])++X):=by
 subst hX h1 h2 h3;have hc:∀(ks:List N) st' X,Hp.cut (H.length+(B.length+1)) (H.set i (rst tr z L st')++(B++[.tok (nf ks.length) 6 tn]++X))=H.set i (rst tr z L st')++(B++[.tok (nf ks.length) 6 tn]):=λks st' X=>by rw[rcutk O,List.take_left' (by simp)];rw[Q28,hB];rfl
 refine⟨hc,λks st'=>by simpa using hc ks st' [],λst X=>upG hi,λks X=>by simp,λks h=>by simp,λks b X=>by simp,λks b c X=>by rw[Q2j (by simp)];simp,λks m X=>by simp⟩
section
variable{P:Program}{R:RF}{z:Bool}{L:List Tk}
def Wo(tn:TypeId)(a:N):∃(k f t:Int)(w:Bs)(q:Int)(za:Bool)(ks:List N),a.f=f/\a.enc=[.int .i64 k,.int .i64 f,.int .i64 t,.str w,.int .i64 q,.sl za 6 (ks.map N.enc)]/\a.v=.agg [YI k,YI f,YI t,YS w,YI q,YL za 6 (ks.map N.enc)]/\abx tn a=.box tn [YI k,YI f,YI t,YS w,YI q,YL za 6 (ks.map N.enc)]:=by obtain⟨k,f,t,w,q,za,ks⟩:=a;exact⟨k,f,t,w,q,za,ks,rfl,by rw[N.enc_mk],by rw[N.v_mk],by rw[abx,N.enc_mk];rfl⟩
def RHas.term'(hR:RHas P R)(hx:Has P R.term (Qh2 R.post R.is R.ended R.tn))(hE:Wz L)(hL:L.length<=1048576)(n:Nat)(hn:n<=1099511627776)(hT:∀m,m<n+1->UR P R.tr z L m .post R.post):UR P R.tr z L (n+1) .term R.term:=by
 refine Qiz λH i s hi hpp=>?_;refine Qe hx (by simp[Qh2]) λO _=>?_;have hp1:=hpp.1.1;simp only[G.c]at hp1;simp[Qh2];refine Qf (hT n (by omega) H _ i s hi ((MoE.refl s).pre hpp (by decide) (by simp only[G.c];omega))) ?_;rintro _ _ ⟨a0,s1,rfl,rfl,r1⟩;have b1:=r1.le;have m1:=r1.moE hE;obtain⟨XX,hXX⟩:∃XX:N->Hp,XX=λa=>[zbx R.tn,abx R.tn a]:=⟨_,rfl⟩;have hXl:∀a,(XX a).length=2:=λa=>by rw[hXX];rfl
 obtain⟨E,hE0⟩:∃E:Fr->Hp->Prop,E=λfr H'=>∃a s',(fr 0=.ptr i 0/\fr 4=.ptr H.length 0/\fr 6=.ptr (H.length+1) 0/\fr 7=YI s'.1)/\Rel L (n+1) .term s a s'/\∃Y,H'=H.set i (rst R.tr z L s'.2)++(XX a++Y):=⟨_,rfl⟩;have hE1:∀fr a s',(fr 0=.ptr i 0/\fr 4=.ptr H.length 0/\fr 6=.ptr (H.length+1) 0/\fr 7=YI s'.1)->Rel L (n+1) .term s a s'->E fr (H.set i (rst R.tr z L s'.2)++XX a):=λfr a s' h h'=>by subst hE0;exact⟨a,s',h,h',[],by simp⟩
 obtain⟨k,f,t,w,q,za,ks,hf0,he,hv,hb⟩:=Wo R.tn a0;rw[hv];simp;rw[show H.set i (rst R.tr z L s1.2)++[Ob.box R.tn [YI 0,YI 0,YI 0,YS [],YI 0,YL true 6 []],.box R.tn [YI k,YI f,YI t,YS w,YI q,YL za 6 (ks.map N.enc)]]=H.set i (rst R.tr z L s1.2)++XX a0 by rw[hXX,<-hb];rfl];refine Qm 0 E (λ_ _=>False) ?_ (λ_ _ h=>h.elim) ?_;rotate_left
 .intro fr H' h;subst hE0;obtain⟨a,s',⟨f0,f4,f6,f7⟩,hr,Y,rfl⟩:=h;obtain⟨k,f,t,w,q,za,ks,-,-,hv,hb⟩:=Wo R.tn a;subst hXX;simp[f0,f4,f6,f7,hb,zbx];simp[RetK,rcut O];exact⟨a,s',by rw[hv],by simp,hr⟩
 clear hE0;have hcut:∀a st' X,Hp.cut (H.length+2) (H.set i (rst R.tr z L st')++(XX a++X))=H.set i (rst R.tr z L st')++XX a:=λa st' X=>by rw[rcutk O,hXX];change H.set i (rst R.tr z L st')++[(zbx R.tn).clr _,(abx R.tn a).clr _]=_;rw[Qgn];rfl
 have hcut0:∀a st',Hp.cut (H.length+2) (H.set i (rst R.tr z L st')++XX a)=H.set i (rst R.tr z L st')++XX a:=λa st'=>by simpa using hcut a st' []
 have hg0:∀st X,(H.set i (rst R.tr z L st)++X)[i]?=some (rst R.tr z L st):=λst X=>upG hi;have hset:∀a a' X,(XX a++X).set 1 (abx R.tn a')=XX a'++X:=λa a' X=>by rw[hXX];simp
 have hgA:∀a X,(XX a++X)[1]?=some (abx R.tn a):=λa X=>by rw[hXX];simp
 have hgB:∀a b X,(XX a++b::X)[2]?=some b:=λa b X=>by rw[hXX];simp
 refine Q4 (H.length+2) (λd fr H'=>∃a s',(fr 0=.ptr i 0/\fr 4=.ptr H.length 0/\fr 6=.ptr (H.length+1) 0/\fr 7=YI s'.1)/\H'=H.set i (rst R.tr z L s'.2)++XX a/\
  ((d=0/\s'.2≠none/\∀m,Rel L (n+1) .term s m s')\/∃p1,s'=(p1,none)/\s.2=none/\d<=n/\pp L (n+1) .term s.1=pp L d (.termL a) p1/\p1<L.length/\16*(L.length-p1)+1<=d)) (match s1.2 with|none=>n|some _=>0) (by simp[hXl]) ⟨a0,s1,?_⟩ ?_
 .have hil2:i<H.length+2:=by omega
  refine⟨by simp[hil2],hcut0 _ _,?_⟩;obtain⟨p,st⟩:=s;cases st with
  |some q=>obtain⟨b,rfl,e⟩:=r1.some';simp only[G.wt]at e;exact .inl ⟨rfl,by simp,λm=>by simp[Rel,G.wt];omega⟩
  |none=>
   obtain⟨hp2,hp3⟩:=hpp.1.2.2 rfl;simp only[G.c]at hp2 hp3;have hpl:=hpp.2 rfl;rcases r1.none' with⟨q',b,hq,rfl,e3⟩|⟨j,hj,rfl⟩
   .exact .inl ⟨rfl,by simp,λm=>by simp[Rel,pp,hq,PR.then];omega⟩
   .have:=Yr hE n .post p;rw[hj]at this;obtain⟨v1,v2,v3⟩:=this;have v2:=v2 rfl;have v3:=v3 v2;exact .inr ⟨j,rfl,rfl,by simp,by simp[pp,hj,PR.then],v3,by(try simp only at hp3⊢);omega⟩
 .rintro d fr H' ⟨a,s',⟨f0,f4,f6,f7⟩,rfl,hd⟩;have hil2:i<H.length+2:=by omega
  rcases hd with⟨rfl,q1,q2⟩|⟨p1,rfl,hs2,hdn,hpe,hp1',hrk⟩
  .obtain⟨p',st'⟩:=s';cases st' with
   |none=>simp at q1
   |some q=>
    have hg1:=hg0 (some q);have hq:¬(q:Int)<0:=by omega
    have hE2:=λfr h=>hE1 fr a (p',some q) h (q2 _);simp only[rst]at hg1 hE2;simp[f0,f7,rst,hg1,hq];exact hE2 _ (by simp[f0,f4,f6,f7])
  .obtain⟨d',rfl⟩:∃d',d=d'+1:=⟨d-1,by omega⟩;have hRel:∀m s',(match pp L (d'+1) (.termL a) p1 with|.out=>False|.bad q=>s'.2=some q/\s'.1<=L.length+(n+1)|.ok m' k=>m=m'/\s'=(k,none))->Rel L (n+1) .term s m s':=λm s' h=>by unfold Rel;rw[hs2];simp only;rw[hpe];exact h
   have hg1:=hg0 none;have gi:=λX=>hR.isA (z:=z) (st:=none) (X:=X) hi hp1' [42];have hw:IntKind.i64.wrap ((p1:Int)+1)=((p1+1:Nat):Int):=by rw[wi64 (by omega)];omega
   cases hjb:isT L p1 [42]with
   |false=>have hE2:=λfr h=>hE1 fr a (p1,none) h (hRel _ _ (by simp[pp,hjb]));rw[hjb]at gi;simp only[rst]at hg1 gi hE2;simp[f0,f7,rst,hg1];refine Qa (gi _) ?_;simp;exact hE2 _ (by simp[f0,f4,f6,f7])
   |true=>
    have l1:=Q6 hE hjb;obtain⟨k,f,t,w,q,za,ks,hf,he,hv,hb⟩:=Wo R.tn a;have gp:=λX=>hT d' (by omega) H X i (p1+1,none) hi ⟨⟨by simp only[G.c];omega,by simp only[G.c];omega,λ_=>⟨by simp only;omega,by simp only[G.c];omega⟩⟩,λ_=>l1⟩;rw[hjb]at gi;simp only[rst]at hg1 gi gp;simp[f0,f7,rst,hg1];refine Qa (gi _) ?_;simp[f0,f7,hw];refine Qf (gp _) ?_;rintro _ _ ⟨b,s2,rfl,rfl,r2⟩;obtain⟨kb,fb,tb,wb,qb,zb,ksb,hfb,heb,hvb,hbb⟩:=Wo R.tn b;rw[hvb];obtain⟨bo,hbo⟩:∃bo:Ob,bo=.box R.tn [YI kb,YI fb,YI tb,YS wb,YI qb,YL zb 6 (ksb.map N.enc)]:=⟨_,rfl⟩;have hA:=hgA a;rw[hb]at hA;have hB:=λX=>hgB a bo X;rw[hbo]at hB;have g5:=hR.ended.rended 18 f 0 [] 0 true [] (s2.1:Int) false [a.enc,b.enc];rw[he,heb]at g5;simp only[ag]at g5;have hA1:∀h,(XX a)[1]'h=.box R.tn [YI k,YI f,YI t,YS w,YI q,YL za 6 (ks.map N.enc)]:=λh=>by rw[<-hb];simp[hXX]
    simp[f6,hXl,hA,hB,hA1];refine Qa (g5 _) ?_;have hnew:abx R.tn (N.new 18 f s2.1 [] 0 [a,b])=.box R.tn [YI 18,YI f,YI s2.1,YS [],YI 0,YL false 6 [[.int .i64 k,.int .i64 f,.int .i64 t,.str w,.int .i64 q,.sl za 6 (ks.map N.enc)],[.int .i64 kb,.int .i64 fb,.int .i64 tb,.str wb,.int .i64 qb,.sl zb 6 (ksb.map N.enc)]]]:=by rw[abx,N.new,N.enc_mk];simp[he,heb]
    have hs1:=λY=>hset a (N.new 18 f s2.1 [] 0 [a,b]) Y;rw[hnew]at hs1;simp[f6,hXl,hA,hA1,hs1];rcases r2.none' with⟨q',b',hq,rfl,e3⟩|⟨j,hj,rfl⟩
    .refine Qg (H.length+2) 0 (Q14 _) (by simp[hXl]) (by omega) ⟨_,(b',some q'),by simp[f0,f4,f6,hil2],hcut _ _ _,.inl ⟨rfl,by simp,λm=>hRel _ _ ?_⟩⟩;simp[pp,hjb,hq,PR.then];omega
    .have:=Yr hE d' .post (p1+1);rw[hj]at this;obtain⟨v1,v2,v3⟩:=this;have v2:=v2 rfl;have v3:=v3 v2;refine Qg (H.length+2) d' (Q14 _) (by simp[hXl]) (by omega) ⟨_,(j,none),by simp[f0,f4,f6,hil2],hcut _ _ _,.inr ⟨j,rfl,hs2,by omega,?_,v3,by omega⟩⟩;rw[hpe];simp[pp,hjb,hj,PR.then,hf]
end
end
section
section
variable{P:Program}{R:RF}{z:Bool}{L:List Tk}
def RHas.sum'(hR:RHas P R)(hx:Has P R.sum (Qk3 R.term R.is R.ended R.tn))(hE:Wz L)(hL:L.length<=1048576)(n:Nat)(hn:n<=1099511627776)(hT:∀m,m<n+1->UR P R.tr z L m .term R.term):UR P R.tr z L (n+1) .sum R.sum:=by
 refine Qiz λH i s hi hpp=>?_;refine Qe hx (by simp[Qk3]) λO _=>?_;have hp1:=hpp.1.1;simp only[G.c]at hp1;simp[Qk3];refine Qf (hT n (by omega) H _ i s hi ((MoE.refl s).pre hpp (by decide) (by simp only[G.c];omega))) ?_;rintro _ _ ⟨a0,s1,rfl,rfl,r1⟩;have b1:=r1.le;have m1:=r1.moE hE;obtain⟨XX,hXX⟩:∃XX:N->Hp,XX=λa=>[zbx R.tn,abx R.tn a]:=⟨_,rfl⟩;have hXl:∀a,(XX a).length=2:=λa=>by rw[hXX];rfl
 obtain⟨E,hE0⟩:∃E:Fr->Hp->Prop,E=λfr H'=>∃a s',(fr 0=.ptr i 0/\fr 4=.ptr H.length 0/\fr 6=.ptr (H.length+1) 0/\fr 7=YI s'.1)/\Rel L (n+1) .sum s a s'/\∃Y,H'=H.set i (rst R.tr z L s'.2)++(XX a++Y):=⟨_,rfl⟩;have hE1:∀fr a s',(fr 0=.ptr i 0/\fr 4=.ptr H.length 0/\fr 6=.ptr (H.length+1) 0/\fr 7=YI s'.1)->Rel L (n+1) .sum s a s'->E fr (H.set i (rst R.tr z L s'.2)++XX a):=λfr a s' h h'=>by subst hE0;exact⟨a,s',h,h',[],by simp⟩
 obtain⟨k,f,t,w,q,za,ks,hf0,he,hv,hb⟩:=Wo R.tn a0;rw[hv];simp;rw[show H.set i (rst R.tr z L s1.2)++[Ob.box R.tn [YI 0,YI 0,YI 0,YS [],YI 0,YL true 6 []],.box R.tn [YI k,YI f,YI t,YS w,YI q,YL za 6 (ks.map N.enc)]]=H.set i (rst R.tr z L s1.2)++XX a0 by rw[hXX,<-hb];rfl];refine Qm 0 E (λ_ _=>False) ?_ (λ_ _ h=>h.elim) ?_;rotate_left
 .intro fr H' h;subst hE0;obtain⟨a,s',⟨f0,f4,f6,f7⟩,hr,Y,rfl⟩:=h;obtain⟨k,f,t,w,q,za,ks,-,-,hv,hb⟩:=Wo R.tn a;subst hXX;simp[f0,f4,f6,f7,hb,zbx];simp[RetK,rcut O];exact⟨a,s',by rw[hv],by simp,hr⟩
 clear hE0;have hcut:∀a st' X,Hp.cut (H.length+2) (H.set i (rst R.tr z L st')++(XX a++X))=H.set i (rst R.tr z L st')++XX a:=λa st' X=>by rw[rcutk O,hXX];change H.set i (rst R.tr z L st')++[(zbx R.tn).clr _,(abx R.tn a).clr _]=_;rw[Qgn];rfl
 have hcut0:∀a st',Hp.cut (H.length+2) (H.set i (rst R.tr z L st')++XX a)=H.set i (rst R.tr z L st')++XX a:=λa st'=>by simpa using hcut a st' []
 have hg0:∀st X,(H.set i (rst R.tr z L st)++X)[i]?=some (rst R.tr z L st):=λst X=>upG hi;have hset:∀a a' X,(XX a++X).set 1 (abx R.tn a')=XX a'++X:=λa a' X=>by rw[hXX];simp
 have hgA:∀a X,(XX a++X)[1]?=some (abx R.tn a):=λa X=>by rw[hXX];simp
 have hgB:∀a b X,(XX a++b::X)[2]?=some b:=λa b X=>by rw[hXX];simp
 refine Q4 (H.length+2) (λd fr H'=>∃a s',(fr 0=.ptr i 0/\fr 4=.ptr H.length 0/\fr 6=.ptr (H.length+1) 0/\fr 7=YI s'.1)/\H'=H.set i (rst R.tr z L s'.2)++XX a/\
  ((d=0/\s'.2≠none/\∀m,Rel L (n+1) .sum s m s')\/∃p1,s'=(p1,none)/\s.2=none/\d<=n/\pp L (n+1) .sum s.1=pp L d (.sumL a) p1/\p1<L.length/\16*(L.length-p1)+1<=d)) (match s1.2 with|none=>n|some _=>0) (by simp[hXl]) ⟨a0,s1,?_⟩ ?_
 .have hil2:i<H.length+2:=by omega
  refine⟨by simp[hil2],hcut0 _ _,?_⟩;obtain⟨p,st⟩:=s;cases st with
  |some q=>obtain⟨b,rfl,e⟩:=r1.some';simp only[G.wt]at e;exact .inl ⟨rfl,by simp,λm=>by simp[Rel,G.wt];omega⟩
  |none=>
   obtain⟨hp2,hp3⟩:=hpp.1.2.2 rfl;simp only[G.c]at hp2 hp3;have hpl:=hpp.2 rfl;rcases r1.none' with⟨q',b,hq,rfl,e3⟩|⟨j,hj,rfl⟩
   .exact .inl ⟨rfl,by simp,λm=>by simp[Rel,pp,hq,PR.then];omega⟩
   .have:=Yr hE n .term p;rw[hj]at this;obtain⟨v1,v2,v3⟩:=this;have v2:=v2 rfl;have v3:=v3 v2;exact .inr ⟨j,rfl,rfl,by simp,by simp[pp,hj,PR.then],v3,by(try simp only at hp3⊢);omega⟩
 .rintro d fr H' ⟨a,s',⟨f0,f4,f6,f7⟩,rfl,hd⟩;have hil2:i<H.length+2:=by omega
  rcases hd with⟨rfl,q1,q2⟩|⟨p1,rfl,hs2,hdn,hpe,hp1',hrk⟩
  .obtain⟨p',st'⟩:=s';cases st' with
   |none=>simp at q1
   |some q=>
    have hg1:=hg0 (some q);have hq:¬(q:Int)<0:=by omega
    have hE2:=λfr h=>hE1 fr a (p',some q) h (q2 _);simp only[rst]at hg1 hE2;simp[f0,f7,rst,hg1,hq];exact hE2 _ (by simp[f0,f4,f6,f7])
  .obtain⟨d',rfl⟩:∃d',d=d'+1:=⟨d-1,by omega⟩;have hRel:∀m s',(match pp L (d'+1) (.sumL a) p1 with|.out=>False|.bad q=>s'.2=some q/\s'.1<=L.length+(n+1)|.ok m' k=>m=m'/\s'=(k,none))->Rel L (n+1) .sum s m s':=λm s' h=>by unfold Rel;rw[hs2];simp only;rw[hpe];exact h
   have hg1:=hg0 none;have gi:=λX=>hR.isA (z:=z) (st:=none) (X:=X) hi hp1' [43];have gj:=λX=>hR.isA (z:=z) (st:=none) (X:=X) hi hp1' [45];have hw:IntKind.i64.wrap ((p1:Int)+1)=((p1+1:Nat):Int):=by rw[wi64 (by omega)];omega
   cases hjb:isT L p1 [43]with
   |true=>
    have l1:=Q6 hE hjb;have hjc:isT L p1 [45]=false:=by
     cases h:isT L p1 [45]with
     |false=>rfl
     |true=>exact absurd (Qme hjb h) (by decide)
    obtain⟨k,f,t,w,q,za,ks,hf,he,hv,hb⟩:=Wo R.tn a;have gp:=λX=>hT d' (by omega) H X i (p1+1,none) hi ⟨⟨by simp only[G.c];omega,by simp only[G.c];omega,λ_=>⟨by simp only;omega,by simp only[G.c];omega⟩⟩,λ_=>l1⟩;rw[hjb]at gi;rw[hjc]at gj;simp only[rst]at hg1 gi gj gp;simp[f0,f7,rst,hg1];refine Qa (gi _) ?_;simp[f0,f7];refine Qa (gj _) ?_;simp[f0,f7,hw];refine Qf (gp _) ?_;rintro _ _ ⟨b,s2,rfl,rfl,r2⟩;obtain⟨kb,fb,tb,wb,qb,zb,ksb,hfb,heb,hvb,hbb⟩:=Wo R.tn b;rw[hvb];obtain⟨bo,hbo⟩:∃bo:Ob,bo=.box R.tn [YI kb,YI fb,YI tb,YS wb,YI qb,YL zb 6 (ksb.map N.enc)]:=⟨_,rfl⟩;have hA:=hgA a;rw[hb]at hA;have hB:=λX=>hgB a bo X;rw[hbo]at hB;have g5:=hR.ended.rended 16 f 0 [] 0 true [] (s2.1:Int) false [a.enc,b.enc];rw[he,heb]at g5;simp only[ag]at g5;have hA1:∀h,(XX a)[1]'h=.box R.tn [YI k,YI f,YI t,YS w,YI q,YL za 6 (ks.map N.enc)]:=λh=>by rw[<-hb];simp[hXX]
    simp[f6,hXl,hA,hB,hA1];refine Qa (g5 _) ?_;have hnew:abx R.tn (N.new 16 f s2.1 [] 0 [a,b])=.box R.tn [YI 16,YI f,YI s2.1,YS [],YI 0,YL false 6 [[.int .i64 k,.int .i64 f,.int .i64 t,.str w,.int .i64 q,.sl za 6 (ks.map N.enc)],[.int .i64 kb,.int .i64 fb,.int .i64 tb,.str wb,.int .i64 qb,.sl zb 6 (ksb.map N.enc)]]]:=by rw[abx,N.new,N.enc_mk];simp[he,heb]
    have hs1:=λY=>hset a (N.new 16 f s2.1 [] 0 [a,b]) Y;rw[hnew]at hs1;simp[f6,hXl,hA,hA1,hs1];rcases r2.none' with⟨q',b',hq,rfl,e3⟩|⟨j,hj,rfl⟩
    .refine Qg (H.length+2) 0 (Q14 _) (by simp[hXl]) (by omega) ⟨_,(b',some q'),by simp[f0,f4,f6,hil2],hcut _ _ _,.inl ⟨rfl,by simp,λm=>hRel _ _ ?_⟩⟩;simp[pp,hjb,hq,PR.then];omega
    .have:=Yr hE d' .term (p1+1);rw[hj]at this;obtain⟨v1,v2,v3⟩:=this;have v2:=v2 rfl;have v3:=v3 v2;refine Qg (H.length+2) d' (Q14 _) (by simp[hXl]) (by omega) ⟨_,(j,none),by simp[f0,f4,f6,hil2],hcut _ _ _,.inr ⟨j,rfl,hs2,by omega,?_,v3,by omega⟩⟩;rw[hpe];simp[pp,hjb,hj,PR.then,hf]
   |false=>
    cases hjc:isT L p1 [45]with
    |false=>have hE2:=λfr h=>hE1 fr a (p1,none) h (hRel _ _ (by simp[pp,hjb,hjc]));rw[hjb]at gi;rw[hjc]at gj;simp only[rst]at hg1 gi gj hE2;simp[f0,f7,rst,hg1];refine Qa (gi _) ?_;simp[f0,f7];refine Qa (gj _) ?_;simp;exact hE2 _ (by simp[f0,f4,f6,f7])
    |true=>
     have l1:=Q6 hE hjc;obtain⟨k,f,t,w,q,za,ks,hf,he,hv,hb⟩:=Wo R.tn a;have gp:=λX=>hT d' (by omega) H X i (p1+1,none) hi ⟨⟨by simp only[G.c];omega,by simp only[G.c];omega,λ_=>⟨by simp only;omega,by simp only[G.c];omega⟩⟩,λ_=>l1⟩;rw[hjb]at gi;rw[hjc]at gj;simp only[rst]at hg1 gi gj gp;simp[f0,f7,rst,hg1];refine Qa (gi _) ?_;simp[f0,f7];refine Qa (gj _) ?_;simp[f0,f7];refine Qa (gj _) ?_;simp[f0,f7,hw];refine Qf (gp _) ?_;rintro _ _ ⟨b,s2,rfl,rfl,r2⟩;obtain⟨kb,fb,tb,wb,qb,zb,ksb,hfb,heb,hvb,hbb⟩:=Wo R.tn b;rw[hvb];obtain⟨bo,hbo⟩:∃bo:Ob,bo=.box R.tn [YI kb,YI fb,YI tb,YS wb,YI qb,YL zb 6 (ksb.map N.enc)]:=⟨_,rfl⟩;have hA:=hgA a;rw[hb]at hA;have hB:=λX=>hgB a bo X;rw[hbo]at hB;have g5:=hR.ended.rended 17 f 0 [] 0 true [] (s2.1:Int) false [a.enc,b.enc];rw[he,heb]at g5;simp only[ag]at g5;have hA1:∀h,(XX a)[1]'h=.box R.tn [YI k,YI f,YI t,YS w,YI q,YL za 6 (ks.map N.enc)]:=λh=>by rw[<-hb];simp[hXX]
     simp[f6,hXl,hA,hB,hA1];refine Qa (g5 _) ?_;have hnew:abx R.tn (N.new 17 f s2.1 [] 0 [a,b])=.box R.tn [YI 17,YI f,YI s2.1,YS [],YI 0,YL false 6 [[.int .i64 k,.int .i64 f,.int .i64 t,.str w,.int .i64 q,.sl za 6 (ks.map N.enc)],[.int .i64 kb,.int .i64 fb,.int .i64 tb,.str wb,.int .i64 qb,.sl zb 6 (ksb.map N.enc)]]]:=by rw[abx,N.new,N.enc_mk];simp[he,heb]
     have hs1:=λY=>hset a (N.new 17 f s2.1 [] 0 [a,b]) Y;rw[hnew]at hs1;simp[f6,hXl,hA,hA1,hs1];rcases r2.none' with⟨q',b',hq,rfl,e3⟩|⟨j,hj,rfl⟩
     .refine Qg (H.length+2) 0 (Q14 _) (by simp[hXl]) (by omega) ⟨_,(b',some q'),by simp[f0,f4,f6,hil2],hcut _ _ _,.inl ⟨rfl,by simp,λm=>hRel _ _ ?_⟩⟩;simp[pp,hjb,hjc,hq,PR.then];omega
     .have:=Yr hE d' .term (p1+1);rw[hj]at this;obtain⟨v1,v2,v3⟩:=this;have v2:=v2 rfl;have v3:=v3 v2;refine Qg (H.length+2) d' (Q14 _) (by simp[hXl]) (by omega) ⟨_,(j,none),by simp[f0,f4,f6,hil2],hcut _ _ _,.inr ⟨j,rfl,hs2,by omega,?_,v3,by omega⟩⟩;rw[hpe];simp[pp,hjb,hjc,hj,PR.then,hf]
end
end
section
def Wq{tr:TypeId}{z z':Bool}{L:List Tk}{n:Nat}{g:G}{H:Hp}{i:Nat}{s s':PSt}{k f t a:Int}{w:Bs}{rows:List (List D)}(ks:List N)(hrows:rows=ks.map N.enc)(hz:rows=[]->z'=true)(hr:Rel L n g s (N.new k f t w a ks) s'):
 ∃r',Nrm (.tup [.agg [YI k,YI f,YI t,YS w,YI a,YL z' 6 rows],YI s'.1]) r'/\RQ tr z L n g H i [] s r' (H.set i (rst tr z L s'.2)):=by
 refine⟨.tup [.agg [YI k,YI f,YI t,YS w,YI a,YL rows.isEmpty 6 rows],YI s'.1],?_,N.new k f t w a ks,s',?_,by simp,hr⟩
 .intro κ v h;cases h with
  |tup vs _ hl hh=>
   refine .tup vs _ (by simpa using hl) λj v a hv ha=>?_;match j with
   |0=>simp at ha;subst ha;exact Ql2 hz κ v (hh 0 v _ hv rfl)
   |1=>exact hh 1 v _ hv ha
   |j+2=>simp at ha
 .rw[N.v_new,hrows];cases ks<;>rfl
def US(P:Program)(tr:TypeId)(z:Bool)(L:List Tk)(n:Nat)(g:G)(f:FuncId):Prop:=∀(H X:Hp)(i p:Nat),i<H.length->Qet L n g (p,none)->Qc P f [.ptr i 0,YI p] (H.set i (rst tr z L none)++X) (RQ tr z L n g H i X (p,none))
def US_of{P:Program}{tr:TypeId}{z:Bool}{L:List Tk}{n:Nat}{g:G}{f:FuncId}(h:∀(H:Hp) (i p:Nat),i<H.length->Qet L n g (p,none)->Qc P f [.ptr i 0,YI p] (H.set i (rst tr z L none)) (RQ tr z L n g H i [] (p,none))):US P tr z L n g f:=by intro H X i p hi hp;have:=h (H++X) i p (by simp;omega) hp;rw[Q18 _ _ hi]at this;refine this.mono ?_;rintro r H' ⟨m,s',rfl,rfl,hr⟩;refine⟨m,s',rfl,?_,hr⟩;rw[Q2k,Q18 _ _ hi]
section
variable{P:Program}{R:RF}{z:Bool}{L:List Tk}
def RHas.block'(hR:RHas P R)(hx:HasT P [7] R.block (Qge R.want R.is R.stmt R.ended R.tn))(hE:Wz L)(hL:L.length<=1048576)(n:Nat)(hn:n<=1099511627776)(hS:∀m,m<n->US P R.tr z L m .stmt R.stmt):UR P R.tr z L (n+1) .block R.block:=by
 refine Qiz λH i s hi hpp=>?_;refine Ye (Qe hx (by simp[Qge]) λO _=>?_);have hp1:=hpp.1.1;simp only[G.c]at hp1;have g1:=λX=>hR.wantA (z:=z) (s:=s) (X:=X) hi hpp.2 (by omega) [123];generalize h1:Qr L [123] s=s1 at g1;have b1:=W8 h1;simp[Qge];refine Qa (g1 _) ?_;simp;obtain⟨XX,hXX⟩:∃XX:List N->Hp,XX=λks=>[zbx R.tn,.tok ks.length 6 R.tn]:=⟨_,rfl⟩;have hXl:∀a,(XX a).length=2:=λa=>by rw[hXX];rfl
 obtain⟨E,hE0⟩:∃E:Fr->Hp->Prop,E=λfr H'=>∃(ks:List N)(s':PSt),(fr 0=.ptr i 0/\fr 1=YI s.1/\fr 4=.ptr H.length 0/\fr 6=YI s'.1/\fr 7=.osl true 6 (ks.map N.enc) (H.length+1))/\(s'.2=none->s'.1<L.length)/\s'.1<=1125899906842624/\Rel L (n+1) .block s (N.new 6 s.1 (Qr L [125] s').1 [] 0 ks) (Qr L [125] s')/\H'=H.set i (rst R.tr z L s'.2)++XX ks:=⟨_,rfl⟩;refine Qm 0 E (λ_ _=>False) ?_ (λ_ _ h=>h.elim) ?_;rotate_left
 .intro fr H' h;subst hE0;obtain⟨ks,s',⟨f0,f1,f4,f6,f7⟩,hlt,hb,hr,rfl⟩:=h;have g2:=λX=>hR.wantA (z:=z) (s:=s') (X:=X) hi hlt hb [125];generalize Qr L [125] s'=s2 at g2 hr;simp[f0,f6];refine Qa (g2 _) ?_;have g5:=λH0=>hR.ended.rendedT 6 (s.1:Int) 0 [] 0 true [] (s2.1:Int) true (ks.map N.enc) H0 (H.length+1);simp only[ag]at g5;simp[f1,f7,hXl];refine Qa (g5 _ (by simp[hXl])) ?_;subst hXX;simp[f4,zbx];simp[RetK,rcut O,nl];exact Wq (z':=true) ks rfl (λ_=>rfl) hr
 have hE1:∀fr (ks:List N) (s':PSt),(fr 0=.ptr i 0/\fr 1=YI s.1/\fr 4=.ptr H.length 0/\fr 6=YI s'.1/\fr 7=.osl true 6 (ks.map N.enc) (H.length+1))->(s'.2=none->s'.1<L.length)->s'.1<=1125899906842624->Rel L (n+1) .block s (N.new 6 s.1 (Qr L [125] s').1 [] 0 ks) (Qr L [125] s')->E fr (H.set i (rst R.tr z L s'.2)++XX ks):=λfr ks s' a b c d=>by subst hE0;exact⟨ks,s',a,b,c,d,rfl⟩
 clear hE0;have hF:=lfs (KT:=1) (m0:=2) (m1:=3) (λn=>n) O hi [zbx R.tn] hXX rfl rfl rfl λ_=>rfl;obtain⟨hcut,hcut0,hg0,hgT,hgT1,hgB,hgC,hsT⟩:=hF;rw[show H.set i (rst R.tr z L s1.2)++[Ob.box R.tn [YI 0,YI 0,YI 0,YS [],YI 0,YL true 6 []],.tok 0 6 R.tn]=H.set i (rst R.tr z L s1.2)++XX [] by rw[hXX];rfl];refine Q4 (H.length+2) (λd fr H'=>∃(ks:List N)(s':PSt),(fr 0=.ptr i 0/\fr 1=YI s.1/\fr 4=.ptr H.length 0/\fr 6=YI s'.1/\fr 7=.osl true 6 (ks.map N.enc) (H.length+1))/\H'=H.set i (rst R.tr z L s'.2)++XX ks/\
  ((d=0/\s'.2≠none/\s'.1<=1125899906842624/\∀m,Rel L (n+1) .block s m s')\/∃p1,s'=(p1,none)/\s.2=none/\d<=n/\pp L (n+1) .block s.1=(pp L d (.stmts ks) p1).then (λm j=>.ok (N.new 6 s.1 j [] 0 m.ks) j)/\p1<L.length/\16*(L.length-p1)+7<=d/\ks.length<=p1)) (match s1.2 with|none=>n|some _=>0) (by simp[hXl]) ⟨[],s1,?_⟩ ?_
 .have hil2:i<H.length+2:=by omega
  refine⟨by simp[hil2],hcut0 _ _,?_⟩;subst h1;obtain⟨p,st⟩:=s;cases st with
  |some q=>exact .inl ⟨rfl,by simp,by simp only[Yo];simp only at hp1;omega,λm=>by simp[Rel]⟩
  |none=>
   obtain⟨hp2,hp3⟩:=hpp.1.2.2 rfl;simp only[G.c]at hp2 hp3;by_cases c1:isT L p [123]=true
   .have l1:=Q6 hE c1;simp[c1];refine⟨by simp[pp,Qv,c1],l1,by omega⟩
   .simp[c1];refine⟨by omega,λm=>?_⟩;simp[Rel,pp,Qv,c1];omega
 .rintro d fr H' ⟨ks,s',⟨f0,f1,f4,f6,f7⟩,rfl,hd⟩;have hil2:i<H.length+2:=by omega
  rcases hd with⟨rfl,q1,qb,q2⟩|⟨p1,rfl,hs2,hdn,hpe,hp1',hrk,hks⟩
  .obtain⟨p',st'⟩:=s';cases st' with
   |none=>simp at q1
   |some q=>
    have hg1:=hg0 (some q);have hq:¬(q:Int)<0:=by omega
    have hE2:=λfr h=>hE1 fr ks (p',some q) h (λe=>by cases e) qb (q2 _);simp only[rst]at hg1 hE2;simp[f0,f6,rst,hg1,hq];exact hE2 _ (by simp[f0,f1,f4,f6,f7,hXl])
  .obtain⟨d',rfl⟩:∃d',d=d'+1:=⟨d-1,by omega⟩;have hRel:∀m s',(match(pp L (d'+1) (.stmts ks) p1).then (λm j=>.ok (N.new 6 s.1 j [] 0 m.ks) j)with|.out=>False|.bad q=>s'.2=some q/\s'.1<=L.length+(n+1)|.ok m' k=>m=m'/\s'=(k,none))->Rel L (n+1) .block s m s':=λm s' h=>by unfold Rel;rw[hs2];simp only;rw[hpe];exact h
   have hg1:=hg0 none;have gi:=λX=>hR.isA (z:=z) (st:=none) (X:=X) hi hp1' [125];cases hjb:isT L p1 [125]with
   |true=>have hE2:=λfr h=>hE1 fr ks (p1,none) h (λ_=>hp1') (by simp only;omega) (hRel _ _ (by simp[pp,PR.then,hjb,N.bag,N.new,N.ks]));rw[hjb]at gi;simp only[rst]at hg1 gi hE2;simp[f0,f6,rst,hg1];refine Qa (gi _) ?_;simp;exact hE2 _ (by simp[f0,f1,f4,f6,f7,hXl])
   |false=>
    have gp:=λX=>hS d' (by omega) H X i p1 hi ⟨⟨by simp only[G.c];omega,by simp only[G.c];omega,λ_=>⟨by simp only;omega,by simp only[G.c];omega⟩⟩,λ_=>hp1'⟩;rw[hjb]at gi;simp only[rst]at hg1 gi gp;simp[f0,f6,rst,hg1];refine Qa (gi _) ?_;simp[f0,f6];refine Qf (gp _) ?_;rintro _ _ ⟨b,s2,rfl,rfl,r2⟩;obtain⟨kb,fb,tb,wb,qb,zb,ksb,hfb,heb,hvb,hbb⟩:=Wo R.tn b;rw[hvb];obtain⟨bo,hbo⟩:∃bo:Ob,bo=.box R.tn [YI kb,YI fb,YI tb,YS wb,YI qb,YL zb 6 (ksb.map N.enc)]:=⟨_,rfl⟩;have hB:=λX=>hgB ks bo X;rw[hbo]at hB;have hT:=hgT ks;have hT1:=hgT1 ks;have hs1:=hsT ks b;have hbd:(ks.length+1)*72<=140737488355328:=by omega
    have hmap:ks.map N.enc++[[.int .i64 kb,.int .i64 fb,.int .i64 tb,.str wb,.int .i64 qb,.sl zb 6 (ksb.map N.enc)]]=(ks++[b]).map N.enc:=by simp[heb]
    simp[f7,hXl,hB,hT,hT1,appA,slOf,hbd,hs1,hmap];rcases r2.none' with⟨q',b',hq,rfl,e3⟩|⟨j,hj,rfl⟩
    .refine Qg (H.length+2) 0 (Q14 _) (by simp[hXl]) (by omega) ⟨ks++[b],(b',some q'),by simp[f0,f1,f4,hil2],hcut _ _ _,.inl ⟨rfl,by simp,by simp only;omega,λm=>hRel _ _ ?_⟩⟩;simp[pp,hjb,hq,PR.then];omega
    .have:=Yr hE d' .stmt p1;rw[hj]at this;obtain⟨v1,v2,v3⟩:=this;have v2:=v2 rfl;refine Qg (H.length+2) d' (Q14 _) (by simp[hXl]) (by omega) ⟨ks++[b],(j,none),by simp[f0,f1,f4,hil2],hcut _ _ _,.inr ⟨j,rfl,hs2,by omega,?_,v3 v2,by have:=v3 v2;omega,by simp;omega⟩⟩;rw[hpe];simp[pp,hjb,hj,PR.then]
end
end
end Go.Zam
