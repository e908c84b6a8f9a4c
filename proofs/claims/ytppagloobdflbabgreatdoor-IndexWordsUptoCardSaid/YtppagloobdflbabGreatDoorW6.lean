import Derived.Test.YtppagloobdflbabGreatDoorW5
import Derived.Test.YtppagloobdflbabGreatDoorW3
import Derived.Sort.Row
import Derived.Sort.Grow
import Derived.Sort.EncStr
import Derived.Laws.AppendOwn
import Derived.Test.YtppagloobdflbabGreatDoorW4
import Derived.Lib.SlicesCompact
import Derived.Sort.Walk0
import Derived.KernelRfl
set_option linter.all false
set_option maxRecDepth 100000
set_option maxHeartbeats 4000000
namespace Go.Zam
variable{P:Program}
section
def scW0(tp:TypeId):C:=.ops [⟨(some 3),none,.box tp 1 (.t 0)⟩] false
def scW1(tfp:TypeId):C:=.ops [
 ⟨(some 7),none,.load 1 false (.t 3)⟩,
 ⟨(some 8),none,.nilCheck (.t 7)⟩,
 ⟨(some 9),none,.faddr 1 (.t 8)⟩,
 ⟨(some 10),none,.load 1 false (.t 9)⟩,
 ⟨(some 6),none,.alloc tfp [.nilp]⟩,
 ⟨none,none,.store 1 (.t 6) (.t 10)⟩] false
def scWl(res:FuncId):List IOp:=[⟨(some 11),none,.mkfn (.func res) [] [(.t 6),(.t 3)]⟩]
def scW2(tf:TypeId):C:=.seq (.ops [
 ⟨(some 12),none,.load 1 false (.t 3)⟩,
 ⟨(some 13),none,.mkMap⟩,
 ⟨(some 14),none,.mv (.t 1)⟩,
 ⟨(some 15),none,.load 1 false (.t 6)⟩,
 ⟨(some 16),none,.build [.nilm,(.bool false),.nilp] [(0,1,(.t 13)),(1,1,(.t 14)),(2,1,(.t 15))]⟩,
 ⟨(some 17),none,.box tf 3 (.t 16)⟩,
 ⟨(some 18),none,.nilCheck (.t 12)⟩,
 ⟨(some 19),none,.faddr 1 (.t 18)⟩,
 ⟨none,none,.store 1 (.t 19) (.t 17)⟩] false)
 (.ops [
  ⟨(some 20),none,.mv (.t 2)⟩,
  ⟨(some 21),none,.callv (.t 20) []⟩] false)
def HasW(P:Program)(F:SF):Prop:=∃fn,P.funcs[F.within]?=some fn/\Qsw P [] fn=some (22,scW0 F.tp,scW1 F.tfp,scWl F.res,11,scW2 F.tf)
structure OInv(F:SF)(c:SC)(S:SM)(now:A)(item:Int)(G:Nms)(E:List (Nat×Nat×Frm))(H:Hp):Prop where
 s:SInv F c S now item G H
 ch:Ve F H now E
 off:∀x∈E,(c.off x.1/\x.1≠c.ib/\x.1≠c.g)/\(c.off x.2.1/\x.2.1≠c.ib/\x.2.1≠c.g)
section
variable{P:Program}{F:SF}{c:SC}{S S':SM}{now:A}{item:Int}{G:Nms}{H:Hp}{E:List (Nat×Nat×Frm)}
def NInv.o{i m:Nat}{fr:Nms}{lam:Bool}(h:NInv F c S item G i m fr lam E H):OInv F c S (.ptr i 0) item G ((i,m,⟨fr,lam⟩)::E) H:=⟨h.s,h.ch,h.off⟩
def OInv.app(h:OInv F c S now item G E H)(X:Hp):OInv F c S now item G E (H++X):=⟨h.s.app X,h.ch.app X,h.off⟩
def Qur(h:SInv F c S now item G H){H':Hp}(hl:H'.length=H.length)(X:Hp):sput F c S' (H'++X)=sput F c S' H'++X:=by obtain⟨a,b,d,e,-⟩:=h.lt;unfold sput;rw[Q18 _ _ (by omega),Q18 _ _ (by simp;omega),Q18 _ _ (by simp;omega),Q18 _ _ (by simp;omega)]
def Vk(F:SF)(c:SC)(now:A)(item:Int)(lam:Bool)(H:Hp):Hp:=(H.set c.ib (.box F.tb [.ptr c.im 0,.ptr (H.length+3) 0,.map c.g,YI item]))++[.box F.tp [.ptr c.ib 0],.box F.tfp [now],.mp [],.box F.tf [.map (H.length+2),YB lam,now]]
def Y6{j:Nat}{o:Ob}(hj:H[j]?=some o)(h:j≠c.ib)(item:Int)(lam:Bool):(Vk F c now item lam H)[j]?=some o:=by unfold Vk;exact Wj (by rw[Q15 (Ne.symm h)];exact hj) _
def Qel{lam:Bool}(k:Nat):(Vk F c now item lam H)[H.length+k]?=([.box F.tp [.ptr c.ib 0],.box F.tfp [now],.mp [],.box F.tf [.map (H.length+2),YB lam,now]]:Hp)[k]?:=by unfold Vk;rw[Q2j (by simp)];simp
def OInv.inner(h:OInv F c S now item G E H)(lam:Bool):NInv F c S item G (H.length+3) (H.length+2) [] lam E (Vk F c now item lam H):=by
 obtain⟨p1,p2,p3,p4,p5,p6⟩:=h.s.lt;obtain⟨na,nb,nd,ne,nf⟩:=h.s.nd;have hlt:=h.ch.lt;refine⟨⟨Y6 h.s.m na.2.2.2.1 _ _,Y6 h.s.b nb.2.2.1 _ _,Y6 h.s.e nd.2.1 _ _,Y6 h.s.v ne.1 _ _,?_,Y6 h.s.g nf.symm _ _,h.s.nd⟩,?_,λx hx=>?_,by omega,λx hx=>?_⟩
 .unfold Vk;exact Wj (by rw[Q17 p5]) _
 .refine⟨rfl,λx hx=>by have:=(hlt x hx).1;omega,now,Qel 3,Qel 2,h.ch.keep λx hx=>?_⟩;have h1:=h.off x hx;have h2:=hlt x hx;exact⟨by rw[Q12 h2.1];exact Y6 (Q12 h2.1) h1.1.2.1 _ _,by rw[Q12 h2.2];exact Y6 (Q12 h2.2) h1.2.2.1 _ _⟩
 .rcases Q2v.1 hx with rfl|hx
  .refine⟨⟨⟨?_,?_,?_,?_⟩,?_,?_⟩,⟨⟨?_,?_,?_,?_⟩,?_,?_⟩⟩<;>simp only<;>omega
  .exact h.off x hx
 .have:=hlt x hx;omega
def SHas.within'(hF:SHas P F)(hW:HasW P F)(h:OInv F c S now item G E H)(lam:Bool){g:FuncId}{cap:List A}(hg:Wd P g=true){es:Nms}(hdo:Qc P g cap (Vk F c now item lam H) (λr H2=>r=.tup []/\H2=nput F c S' (H.length+2) es (Vk F c now item lam H))):
 Qc P F.within [.ptr c.ib 0,YB lam,.fn (.func g) [] cap] H (λr H'=>r=.tup []/\H'=sput F c S' H):=by
 obtain⟨fn,hf,hd⟩:=hW;refine Qpe hf hd (by simp) λO=>?_;have hi:=h.s.i;have hA:=Wj hi;obtain⟨p1,p2,p3,p4,p5,p6⟩:=h.s.lt;simp only[scW0,scW1,scWl,scW2];simp[hA];refineλ_=>?_;have hnow:(now=.d .nilp/\E=[])\/∃i m f r,E=(i,m,f)::r/\now=.ptr i 0/\i<H.length:=h.ch.val;have hflat:now=.d .nilp\/∃k,now=.ptr k 0:=by
  rcases hnow with⟨h1,-⟩|⟨i,-,-,-,-,h1,-⟩
  .exact .inl h1
  .exact .inr ⟨i,h1⟩
 have step:∀X:Hp,Hp.cut H.length ((nput F c S' (H.length+2) es (Vk F c now item lam H)).set c.ib (.box F.tb [.ptr c.im 0,now,.map c.g,YI item]))=sput F c S' H:=λ_=>by unfold nput Vk;rw[Qur h.s (by simp),Q3j _ _ (by rw[Yp,Q21];omega),Q18 _ _ (by rw[Yp,Q21];exact p5),Qpu h.s.offI,Q32,Hp.set_self (by rw[V1 h.s.offI];exact hi)];exact Qi7 h.s O _
 have hN:=(h.inner lam).nput S' es;have q1:(nput F c S' (H.length+2) es (Vk F c now item lam H))[H.length+1]?=some (.box F.tfp [now]):=by unfold nput;rw[Q15 (by omega),V1 ⟨by omega,by omega,by omega,by omega⟩];exact Qel 1
 have q2:(nput F c S' (H.length+2) es (Vk F c now item lam H))[H.length]?=some (.box F.tp [.ptr c.ib 0]):=by unfold nput;rw[Q15 (by omega),V1 ⟨by omega,by omega,by omega,by omega⟩];exact Qel 0
 have q3:=hN.s.i;have hres:=hF.res' q1 q2 q3 hflat;have hlen:H.length<=(nput F c S' (H.length+2) es (Vk F c now item lam H)).length:=by rw[Yw];simp[Vk]
 have hst:=step [];unfold Vk at hdo hres hst hlen;have hB:∀X,(H++X).set c.ib (.box F.tb [.ptr c.im 0,.ptr (H.length+3) 0,.map c.g,YI item])=H.set c.ib (.box F.tb [.ptr c.im 0,.ptr (H.length+3) 0,.map c.g,YI item])++X:=λX=>Q18 _ _ p5;rcases hflat with rfl|⟨k,rfl⟩;all_goals
  simp;refine⟨_,_,⟨rfl,rfl⟩,hF.kRes,λ_=>?_⟩;simp[hA,hB];refine⟨hg,Qa hdo ?_⟩;simp;intro κ w vs hr hl hv;refine(hres κ w vs hr hl hv).mono ?_;rintro e u w' ⟨h1,v,κ',H',h2,h3,h4,rfl⟩;exact⟨h1,v,κ',_,h2,h3,h4,H.length,Q14 _,by simpa using hlen,hst⟩
def Qnj(h:OInv F c S now item G E H)(X:Hp):sput F c S' (H++X)=sput F c S' H++X:=Qb9 h.s X
def Qpj(P:Program)(F:SF)(n:N):Prop:=∀(c:SC)(S:SM)(item:Int)(G:Nms)(i m:Nat)(fr:Nms)(lam:Bool)(E:List (Nat×Nat×Frm))(H:Hp),NInv F c S item G i m fr lam E H->FOk S.bs.length G->FOk S.bs.length fr->(∀x∈E,FOk S.bs.length x.2.2.es)->
 S.sz+2*n.size<=2199023255552->E.length+n.size<=1099511627775->Qc P F.node [.ptr c.ib 0,n.v] H (λr H'=>r=.tup []/\H'=nput F c (Z0 G item n (E.map λx=>x.2.2) fr lam S).2 m (Z0 G item n (E.map λx=>x.2.2) fr lam S).1 H)
def Qma(G:Nms)(item:Int)(x:N)(E:List Frm)(lam:Bool):∀(l:List N)(fr:Nms)(S:SM),Wa G item (l++[x]) E fr lam S=Z0 G item x E (Wa G item l E fr lam S).1 lam (Wa G item l E fr lam S).2
 |[],fr,S=>by rw[Q2u,Qcf,Qdg,Qdg]
 |y::r,fr,S=>by rw[Q2m,Qcf,Qma G item x E lam r,Qcf]
def Qkj(item:Int)(x:N):∀(l:List N)(fr:Nms)(S:SM),We item (l++[x]) fr S=Ym 3 item x (We item l fr S).1 (We item l fr S).2
 |[],fr,S=>rfl
 |y::r,fr,S=>by rw[Q2m,We,Qkj item x r];rfl
def SHas.kids'(hF:SHas P F){k f t:Int}{w:Bs}{a:Int}{z:Bool}{ks:List N}(ih:∀p∈ks,Qpj P F p){i m:Nat}{fr:Nms}{lam:Bool}(h:NInv F c S item G i m fr lam E H)(hG:FOk S.bs.length G)(hfr:FOk S.bs.length fr)(hE:∀x∈E,FOk S.bs.length x.2.2.es)(hb:S.sz+2*N.sizes ks<=2199023255552)(hl:E.length+N.sizes ks<=1099511627775):
 Qc P F.kids [.ptr c.ib 0,N.v (.mk k f t w a z ks)] H (λr H'=>r=.tup []/\H'=nput F c (Wa G item ks (E.map λx=>x.2.2) fr lam S).2 m (Wa G item ks (E.map λx=>x.2.2) fr lam S).1 H):=by
 refine Qe hF.kids (by simp[Qmg]) λO _=>?_;rw[N.v_mk];have hib:=h.s.lt.2.2.2.2.1;have hsl:=N.sizes_len ks;obtain⟨bx,hbx⟩:∃bx,bx=Ob.box F.tn [YI k,YI f,YI t,YS w,YI a,YL z 6 (ks.map N.enc)]:=⟨_,rfl⟩;have hbc:bx.clr (H.length+1)=bx:=by subst hbx;simp
 have hcut1:∀S' fr' X,Hp.cut (H.length+1) (nput F c S' m fr' H++bx::X)=nput F c S' m fr' H++[bx]:=λS' fr' X=>by
  have e:nput F c S' m fr' H++bx::X=(nput F c S' m fr' (H++[bx]))++X:=by rw[Qal h];simp
  have hcl1:Hp.Closed (H++[bx]):=Closed.snoc O λn hn=>by subst hbx;simp
  have:=Qdc (S':=S') (fr':=fr') (h.app [bx]) hcl1 X;rw[Q2l,Q3v]at this;rw[e,this,Qal h]
 have hcut0:Hp.cut (H.length+1) (H++[bx])=H++[bx]:=by have:=hcut1 S fr [];rw[Qja h]at this;exact this
 simp[Qmg];rw[<-hbx];refine Qz 0 (λfr' H'=>H'=nput F c (Wa G item ks (E.map λx=>x.2.2) fr lam S).2 m (Wa G item ks (E.map λx=>x.2.2) fr lam S).1 H++[bx]) ?_ ?_
 .refine Q8 (H.length+1) ks.length (λj fr' H'=>fr' 0=.ptr c.ib 0/\fr' 7=YL z 6 (ks.map N.enc)/\H'=nput F c (Wa G item (ks.take j) (E.map λx=>x.2.2) fr lam S).2 m (Wa G item (ks.take j) (E.map λx=>x.2.2) fr lam S).1 H++[bx]) (by omega) (by decide) (by simp) (by simp) ?_ ?_ ?_
  .rw[Q38,Qdg,Qja h];simp[hcut0];omega
  .rintro j fr' H' hj f9 f8 ⟨f0,f7,rfl⟩;have hr:=Qt N.enc hj;have hm:=Q20 hj;have hsz:N.sizes (ks.take j)+(ks[j]).size<=N.sizes ks:=by
    have:ks=ks.take j++ks[j]::ks.drop (j+1):=by rw[Q46];simp
    have e:N.sizes ks=N.sizes (ks.take j)+(ks[j].size+N.sizes (ks.drop (j+1))):=by conv=>lhs;rw[this,N.sizes_app,N.sizes_cons]
    omega
   have hgr:=Qb7 (λp _=>grew p) (ks:=ks.take j) G item (E.map λx=>x.2.2) fr lam S hfr;have hn1:=h.nput (Wa G item (ks.take j) (E.map λx=>x.2.2) fr lam S).2 (Wa G item (ks.take j) (E.map λx=>x.2.2) fr lam S).1;have hstep:Wa G item (ks.take (j+1)) (E.map λx=>x.2.2) fr lam S=Z0 G item ks[j] (E.map λx=>x.2.2) (Wa G item (ks.take j) (E.map λx=>x.2.2) fr lam S).1 lam (Wa G item (ks.take j) (E.map λx=>x.2.2) fr lam S).2:=by rw[Q2e hj,Qma]
   have ihj:=ih _ hm;generalize ks[j]=x at hr hsz ihj hstep;obtain⟨g1,g2,g3⟩:=hgr;generalize Wa G item (ks.take j) (E.map λx=>x.2.2) fr lam S=KP at g1 g2 g3 hn1 hstep⊢;obtain⟨fr1,S1⟩:=KP;simp only at g1 g2 g3 hn1 hstep⊢;have hlen:H.length=(nput F c S1 m fr1 H).length:=Yw.symm;have ihc:=λX=>ihj c S1 item G i m fr1 lam E _ (hn1.app (bx::X)) (hG.mono g1) g3 (λx hx=>(hE x hx).mono g1) (by omega) (by omega);obtain⟨k2,f2,t2,w2,a2,z2,ks2⟩:=x;rw[N.enc_mk]at hr;rw[N.v_mk]at ihc;have hk:∀X Y,(nput F c S1 m fr1 H++bx::X)++Y=nput F c S1 m fr1 H++bx::(X++Y):=λX Y=>by simp
   have hlb:(nput F c S1 m fr1 H++[bx]).length=H.length+1:=by simp[Yw]
   simp[f9,f7,hr,f0];rw[show nput F c S1 m fr1 H++[bx,Ob.box F.tn [YI k2,YI f2,YI t2,YS w2,YI a2,YL z2 6 (ks2.map N.enc)]]=nput F c S1 m fr1 H++bx::[Ob.box F.tn [YI k2,YI f2,YI t2,YS w2,YI a2,YL z2 6 (ks2.map N.enc)]]from rfl];refine Qa (ihc _) ?_;rw[Qal hn1,Qgb h.offM.1];simp;refine Q3 (H.length+1) (Q14 _) (by simp[f9,f8,Yw]) ?_;simp[f0,f7,hstep,hcut1];omega
  .rintro fr' H' f9 f8 ⟨f0,f7,rfl⟩;rw[Q2f (Q14 _)];simp
 .rintro fr' H' rfl;simp;simp[RetK,Yw,Qdc h O]
end
end
section
section
variable{P:Program}{F:SF}{c:SC}{S S':SM}{now:A}{item:Int}{G:Nms}{H:Hp}{E:List (Nat×Nat×Frm)}
def SHas.closedC'(hF:SHas P F){p q b:N}{z:Bool}(ih:Qpj P F b){i m:Nat}{lam:Bool}(h:NInv F c S item G i m [] lam E H)(hG:FOk S.bs.length G)(hE:∀x∈E,FOk S.bs.length x.2.2.es)(hb:S.sz+2*N.sizes [p,q,b]<=2199023255552)(hl:E.length+N.sizes [p,q,b]<=1099511627775){al ab:Nat}(h1:H[al]?=some (.box F.ts [YL z 6 ([p,q,b].map N.enc)]))(h2:H[ab]?=some (.box F.tp [.ptr c.ib 0]))(hoa:(c.off al/\al≠m)/\(c.off ab/\ab≠m)):
 Qc P F.closedC [.ptr al 0,.ptr ab 0] H (λr H'=>r=.tup []/\H'=nput F c (Z0 G item b (E.map λx=>x.2.2) (We item p.ks [] S).1 lam (We item p.ks [] S).2).2 m (Z0 G item b (E.map λx=>x.2.2) (We item p.ks [] S).1 lam (We item p.ks [] S).2).1 H):=by
 refine Qe hF.closedC (by simp[Qfj]) λO _=>?_;have hal:=Wl h1;have hab:=Wl h2;have hps:p.ks.length+b.size+1<=N.sizes [p,q,b]:=by simp only[N.sizes_cons,N.sizes_nil];have:=N.sizes_len p.ks;have:=N.size_ks p;omega
 have hr0:Zam.rowAt ([p,q,b].map N.enc) 0=some p.enc:=rfl;have hr2:Zam.rowAt ([p,q,b].map N.enc) 2=some b.enc:=rfl;simp only[Q2w,Q25]at h1 hr0 hr2;have hbe:b.v=.agg (b.enc.map .d):=rfl;have hgr0:=Grew.binds (item:=item) p.ks (FOk.nil S.bs.length);have hn0:=h.nput (We item p.ks [] S).2 (We item p.ks [] S).1;have ihb:=ih c (We item p.ks [] S).2 item G i m (We item p.ks [] S).1 lam E _ hn0 (hG.mono hgr0.bs) hgr0.ok (λx hx=>(hE x hx).mono hgr0.bs) (by have:=hgr0.sz;omega) (by omega);rw[Qgb h.offM.1]at ihb;have hat:∀S' fr' X,(nput F c S' m fr' H++X)[al]?=some (.box F.ts [YL z 6 [p.enc,q.enc,b.enc]])/\(nput F c S' m fr' H++X)[ab]?=some (.box F.tp [.ptr c.ib 0]):=λS' fr' X=>by
  refine⟨Wj ?_ X,Wj ?_ X⟩
  .unfold nput;rw[Q15 (Ne.symm hoa.1.2),V1 hoa.1.1];exact h1
  .unfold nput;rw[Q15 (Ne.symm hoa.2.2),V1 hoa.2.1];exact h2
 have hat0:∀S' fr',(nput F c S' m fr' H)[al]?=some (.box F.ts [YL z 6 [p.enc,q.enc,b.enc]])/\(nput F c S' m fr' H)[ab]?=some (.box F.tp [.ptr c.ib 0]):=λS' fr'=>by have:=hat S' fr' [];rwa[Q2k]at this
 have hbs:b.enc.length=6:=by cases b;rw[N.enc_mk];rfl
 obtain⟨pk,pf,pt,pw,pa,pz,pks⟩:=p;rw[N.enc_mk]at h1 hr0 hr2;simp only[N.enc_mk]at hat hat0;simp only[N.ks]at hgr0 hn0 ihb hps⊢;generalize hres:Z0 G item b (E.map λx=>x.2.2) (We item pks [] S).1 lam (We item pks [] S).2=R at ihb⊢;simp[Qfj,h1,hr0];refine Qz 0 (λfr' H'=>fr' 0=.ptr al 0/\fr' 1=.ptr ab 0/\H'=nput F c (We item pks [] S).2 m (We item pks [] S).1 H) ?_ ?_
 .refine Q8 H.length pks.length (λj fr' H'=>fr' 0=.ptr al 0/\fr' 1=.ptr ab 0/\fr' 7=YL pz 6 (pks.map N.enc)/\H'=nput F c (We item (pks.take j) [] S).2 m (We item (pks.take j) [] S).1 H) (by omega) (by decide) (by simp) (by simp) ?_ ?_ ?_
  .rw[Q38,We,Qja h];simp[Qb O,hal,hab]
  .rintro j fr' H' hj f9 f8 ⟨f0,f1,f7,rfl⟩;have hr:=Qt N.enc hj;have hgr:=Grew.binds (item:=item) (pks.take j) (FOk.nil S.bs.length);have hn1:=h.nput (We item (pks.take j) [] S).2 (We item (pks.take j) [] S).1;have hstep:We item (pks.take (j+1)) [] S=Ym 3 item pks[j] (We item (pks.take j) [] S).1 (We item (pks.take j) [] S).2:=by rw[Q2e hj,Qkj]
   have hll:(pks.take j).length<=pks.length:=by simp;omega
   obtain⟨ga,gb⟩:=hat0 (We item (pks.take j) [] S).2 (We item (pks.take j) [] S).1;have gA:=λX=>(hat (We item (pks.take j) [] S).2 (We item (pks.take j) [] S).1 X).2;generalize pks[j]=x at hr hstep;obtain⟨g1,g2,g3⟩:=hgr;generalize We item (pks.take j) [] S=KP at g1 g2 g3 hn1 hstep ga gb gA⊢;obtain⟨fr1,S1⟩:=KP;simp only at g1 g2 g3 hn1 hstep ga gb gA⊢;have gbind:=λX=>hF.bind' (hn1.s.app X) (Wj hn1.mp X) ⟨h.offM.1,h.offM.2.1⟩ x 3 (by omega);have hi1:=λX=>(hn1.s.app X).i;obtain⟨c1,c2,up,c3,c4,c5⟩:=hn1.ch;have hc3:=Wj c3;obtain⟨k2,f2,t2,w2,a2,z2,ks2⟩:=x;rw[N.enc_mk]at hr;rw[N.v_mk]at gbind;have hlen:H.length=(nput F c S1 m fr1 H).length:=Yw.symm;have hlast:∀bx:Ob,(nput F c S1 m fr1 H++[bx])[H.length]?=some bx:=λbx=>by rw[hlen];simp
   have hpush:∀bx:Ob,(nput F c S1 m fr1 H).length=H.length:=λ_=>Yw;simp[f9,f7,hr,f0,f1,Yw];generalize hX:Ob.box F.tn [YI k2,YI f2,YI t2,YS w2,YI a2,YL z2 6 (ks2.map N.enc)]=bx;have hs0:(nput F c S1 m fr1 H++[Ob.box F.tn [YI 0,YI 0,YI 0,YS [],YI 0,YL true 6 []]]).set H.length bx=nput F c S1 m fr1 H++[bx]:=by rw[hlen,Qpy];simp
   have gb1:=gbind [bx];rw[Qal hn1,Qgb h.offM.1]at gb1;have w1:=gA [bx];have w2':=hi1 [bx];have w3:=hc3 [bx];have w4:=hlast bx;have wl:(nput F c S1 m fr1 H++[bx]).length=H.length+1:=by simp[Yw]
   generalize nput F c S1 m fr1 H++[bx]=W at gb1 w1 w2' w3 w4 wl⊢;subst hX;simp[f1,w1,w2',w3,w4];refine Qf2 gb1 ?_;simp;refine Q3 H.length (Q14 _) (by simp[f9,f8,Yw]) ?_;simp[f0,f1,f7,hal,hab,hstep,Qdc h O]
  .rintro fr' H' f9 f8 ⟨f0,f1,f7,rfl⟩;rw[Q2f (Q14 _)];simp[f0,f1]
 .rintro fr' H' ⟨f0,f1,rfl⟩;obtain⟨ga,gb⟩:=hat0 (We item pks [] S).2 (We item pks [] S).1;generalize nput F c (We item pks [] S).2 m (We item pks [] S).1 H=W at ihb ga gb;simp[f0,f1,ga,gb,hr2];have hbv:(A.agg (b.enc.map .d))=b.v:=rfl;rw[<-hbv]at ihb;obtain⟨bk,bf,bt,bw,ba,bz,bks⟩:=b;simp only[N.enc_mk]at ihb⊢;simp at ihb⊢;refine Qf2 ihb ?_;simp;simp[RetK,Yw,Qqb h O]
def SHas.closed'(hF:SHas P F)(hW:HasW P F){ks:List N}{z:Bool}(ih:∀p∈ks,Qpj P F p)(h:OInv F c S now item G E H)(lam:Bool)(hG:FOk S.bs.length G)(hE:∀x∈E,FOk S.bs.length x.2.2.es)(hb:S.sz+2*N.sizes ks<=2199023255552)(hl:E.length+N.sizes ks<=1099511627775):
 Qc P F.closed [.ptr c.ib 0,YL z 6 (ks.map N.enc),YB lam] H (λr H'=>r=.tup []/\H'=sput F c (Yq G item ks (E.map λx=>x.2.2) lam S) H):=by
 refine Qe hF.closed (by simp[Qeg]) λO _=>?_;by_cases h3:ks.length=3
 .have hks:∃p q b,ks=[p,q,b]:=by
   match ks,h3 with
   |[p,q,b],_=>exact⟨p,q,b,rfl⟩
  obtain⟨p,q,b,rfl⟩:=hks;rw[Qcd];obtain⟨p1,p2,p3,p4,p5,p6⟩:=h.s.lt;have hO:=h.app [.box F.tp [.ptr c.ib 0],.box F.ts [YL z 6 ([p,q,b].map N.enc)]];have hin:=hO.inner lam;have hL:(H++[Ob.box F.tp [.ptr c.ib 0],.box F.ts [YL z 6 ([p,q,b].map N.enc)]]:Hp).length=H.length+2:=by simp
  have a1:(H++[Ob.box F.tp [.ptr c.ib 0],.box F.ts [YL z 6 ([p,q,b].map N.enc)]]:Hp)[H.length+1]?=some (.box F.ts [YL z 6 ([p,q,b].map N.enc)]):=by simp
  have a2:(H++[Ob.box F.tp [.ptr c.ib 0],.box F.ts [YL z 6 ([p,q,b].map N.enc)]]:Hp)[H.length]?=some (.box F.tp [.ptr c.ib 0]):=by simp
  have gd:=hF.closedC' (z:=z) (ih b (by simp)) hin hG hE hb hl (Y6 a1 (by omega) _ _) (Y6 a2 (by omega) _ _) (by rw[hL];refine⟨⟨⟨?_,?_,?_,?_⟩,?_⟩,⟨⟨?_,?_,?_,?_⟩,?_⟩⟩<;>omega);have gw:=hF.within' hW hO lam hF.kClosedC gd;rw[Qnj h]at gw;simp only[Q2w,Q25]at gw⊢;simp[Qeg];refine Qa gw ?_;simp;simp[RetK,Yp,Qi7 h.s O]
 .rw[Qfa _ _ h3,Qf7 h.s];have h3':¬((ks.length:Int)=3):=by omega
  simp[Qeg,h3'];simp[RetK,Qd O]
def SHas.node'(hF:SHas P F)(hW:HasW P F)(n:N):Qpj P F n:=by
 induction n using N.ind with
 |h k f t w a z ks ih=>
 intro c S item G i m fr lam E H h hG hfr hE hb hl;refine Qe hF.node (by simp[Qbm]) λO _=>?_;rw[N.size_mk]at hb hl;obtain⟨p1,p2,p3,p4,p5,p6⟩:=h.s.lt;obtain⟨bb,hbb⟩:∃bb,bb=Ob.box F.tp [.ptr c.ib 0]:=⟨_,rfl⟩;obtain⟨bx,hbx⟩:∃bx,bx=Ob.box F.tn [YI k,YI f,YI t,YS w,YI a,YL z 6 (ks.map N.enc)]:=⟨_,rfl⟩;have hA:=h.app [bb,bx];have a1:(H++[bb,bx]:Hp)[H.length+1]?=some bx:=by simp
 have a2:(H++[bb,bx]:Hp)[H.length]?=some bb:=by simp
 have hE':∀x∈(i,m,(⟨fr,lam⟩:Frm))::E,FOk S.bs.length x.2.2.es:=λx hx=>by
  rcases Q2v.1 hx with rfl|hx
  .exact hfr
  .exact hE x hx
 have hmap:((i,m,(⟨fr,lam⟩:Frm))::E).map (λx=>x.2.2)=⟨fr,lam⟩::E.map λx=>x.2.2:=rfl;have hfin:∀S' fr' X,Hp.cut H.length (nput F c S' m fr' H++X)=nput F c S' m fr' H:=λS' fr' X=>Qdc h O X;have hi:=hA.s.i;rw[Ql3];by_cases h6:k=6
 .rw[if_pos h6];subst h6;have hO:=hA.o;have hin:=hO.inner false;have gk:=hF.kids' (k:=6) (f:=f) (t:=t) (w:=w) (a:=a) (z:=z) ih hin hG (FOk.nil _) hE' (by omega) (by simp only[Q2i];omega);rw[hmap]at gk;have gd:Qc P F.nodeC [.ptr H.length 0,.ptr (H.length+1) 0] (Vk F c (.ptr i 0) item false (H++[bb,bx])) (λr H2=>r=.tup []/\H2=nput F c (Wa G item ks (⟨fr,lam⟩::E.map λx=>x.2.2) [] false S).2 ((H++[bb,bx]:Hp).length+2) (Wa G item ks (⟨fr,lam⟩::E.map λx=>x.2.2) [] false S).1 (Vk F c (.ptr i 0) item false (H++[bb,bx]))):=by refine Qe hF.nodeC (by simp[Qjj]) λhcl2 _=>?_;have b1:=Y6 (F:=F) (now:=.ptr i 0) a1 (by omega:H.length+1≠c.ib) item false;have b2:=Y6 (F:=F) (now:=.ptr i 0) a2 (by omega:H.length≠c.ib) item false;rw[hbx,hbb]at b1 b2;rw[N.v_mk]at gk;have hcut:=Qqb (S':=(Wa G item ks (⟨fr,lam⟩::E.map λx=>x.2.2) [] false S).2) (fr':=(Wa G item ks (⟨fr,lam⟩::E.map λx=>x.2.2) [] false S).1) hin hcl2;generalize Wa G item ks (⟨fr,lam⟩::E.map λx=>x.2.2) [] false S=R at gk hcut⊢;rw[hbx,hbb]at gk hcut⊢;generalize Vk F c (.ptr i 0) item false (H++[Ob.box F.tp [.ptr c.ib 0],Ob.box F.tn [YI 6,YI f,YI t,YS w,YI a,YL z 6 (ks.map N.enc)]])=W at b1 b2 gk hcut⊢;simp[Qjj,b1,b2];simp at gk;refine Qa gk ?_;simp at hcut⊢;simp[RetK,Yw,hcut]
  have gw:=hF.within' hW hO false hF.kNodeC gd;rw[Qnj h.o]at gw;have hfin':=hfin (Wa G item ks (⟨fr,lam⟩::E.map λx=>x.2.2) [] false S).2 fr [bb,bx];rw[Qga h]at hfin';rw[Qga h];generalize Wa G item ks (⟨fr,lam⟩::E.map λx=>x.2.2) [] false S=R at gw hfin'⊢;subst hbb;subst hbx;rw[N.v_mk];simp[Qbm];refine Qa gw ?_;simp;simp[RetK,Yp,hfin']
 rw[if_neg h6];have gk:=hF.kids' (k:=k) (f:=f) (t:=t) (w:=w) (a:=a) (z:=z) ih hA hG hfr hE (by omega) (by omega);by_cases h7:k=7
 .rw[if_pos h7];subst h7;have hgr:=Qb7 (λp _=>grew p) (ks:=ks) G item (E.map λx=>x.2.2) fr lam S hfr;have hN:=hA.nput (Wa G item ks (E.map λx=>x.2.2) fr lam S).2 (Wa G item ks (E.map λx=>x.2.2) fr lam S).1;have gb:=hF.bind' hN.s hN.mp ⟨h.offM.1,h.offM.2.1⟩ (.mk 7 f t w a z ks) 4 (by have:=hgr.sz;omega);rw[Qgb h.offM.1]at gb;have b0:(nput F c (Wa G item ks (E.map λx=>x.2.2) fr lam S).2 m (Wa G item ks (E.map λx=>x.2.2) fr lam S).1 (H++[bb,bx]))[H.length]?=some bb:=by rw[Qal h,<-Yw (F:=F) (c:=c) (S:=(Wa G item ks (E.map λx=>x.2.2) fr lam S).2) (m:=m) (fr:=(Wa G item ks (E.map λx=>x.2.2) fr lam S).1)];simp
  have b1:(nput F c (Wa G item ks (E.map λx=>x.2.2) fr lam S).2 m (Wa G item ks (E.map λx=>x.2.2) fr lam S).1 (H++[bb,bx]))[H.length+1]?=some bx:=by rw[Qal h,<-Yw (F:=F) (c:=c) (S:=(Wa G item ks (E.map λx=>x.2.2) fr lam S).2) (m:=m) (fr:=(Wa G item ks (E.map λx=>x.2.2) fr lam S).1)];simp
  have b2:=hN.s.i;obtain⟨-,-,up,b3,-,-⟩:=hN.ch;have hfin':=hfin (Ym 4 item (.mk 7 f t w a z ks) (Wa G item ks (E.map λx=>x.2.2) fr lam S).1 (Wa G item ks (E.map λx=>x.2.2) fr lam S).2).2 (Ym 4 item (.mk 7 f t w a z ks) (Wa G item ks (E.map λx=>x.2.2) fr lam S).1 (Wa G item ks (E.map λx=>x.2.2) fr lam S).2).1 [bb,bx];generalize Wa G item ks (E.map λx=>x.2.2) fr lam S=R at gk gb b0 b1 b2 b3 hfin'⊢;rw[N.v_mk]at gk gb⊢;generalize Ym 4 item (.mk 7 f t w a z ks) R.1 R.2=R2 at gb hfin'⊢;subst hbb;subst hbx;simp[Qbm];refine Qa gk ?_;generalize nput F c R.2 m R.1 (H++_)=W at gb b0 b1 b2 b3⊢;simp[b0,b1,b2,b3];refine Qf2 gb ?_;rw[Qal h];simp;simp[RetK,Yw,hfin']
 rw[if_neg h7];have hff:N.w (.mk k f t w a z ks)=w:=rfl;by_cases h8:k=8
 .rw[if_pos h8];subst h8;have gm:=hF.mention' hA.s hA.ch (.mk 8 f t w a z ks) true (by simp only[Q2i];omega) (by omega) hG hE';rw[hmap,hff]at gm;have hN:=hA.put (S.men (.mk 8 f t w a z ks) true (Yl G w (⟨fr,lam⟩::E.map λx=>x.2.2) 0));have hms:=SM.men_sz S (.mk 8 f t w a z ks) true (Yl G w (⟨fr,lam⟩::E.map λx=>x.2.2) 0);have gk2:=hF.kids' (k:=8) (f:=f) (t:=t) (w:=w) (a:=a) (z:=z) ih hN hG hfr hE (by omega) (by omega);have b0:(sput F c (S.men (.mk 8 f t w a z ks) true (Yl G w (⟨fr,lam⟩::E.map λx=>x.2.2) 0)) (H++[bb,bx]))[H.length]?=some bb:=by rw[V1 ⟨by omega,by omega,by omega,by omega⟩];exact a2
  have b1:(sput F c (S.men (.mk 8 f t w a z ks) true (Yl G w (⟨fr,lam⟩::E.map λx=>x.2.2) 0)) (H++[bb,bx]))[H.length+1]?=some bx:=by rw[V1 ⟨by omega,by omega,by omega,by omega⟩];exact a1
  generalize S.men (.mk 8 f t w a z ks) true (Yl G w (⟨fr,lam⟩::E.map λx=>x.2.2) 0)=S1 at gm gk2 b0 b1⊢;have e1:∀S' fr',nput F c S' m fr' (sput F c S1 (H++[bb,bx]))=nput F c S' m fr' H++[bb,bx]:=λS' fr'=>by rw[<-Qal h];unfold nput;rw[Qf6]
  rw[e1]at gk2;have hfin':=hfin (Wa G item ks (E.map λx=>x.2.2) fr lam S1).2 (Wa G item ks (E.map λx=>x.2.2) fr lam S1).1 [bb,bx];generalize Wa G item ks (E.map λx=>x.2.2) fr lam S1=R at gk2 hfin'⊢;rw[N.v_mk]at gm gk2⊢;subst hbb;subst hbx;simp[Qbm];refine Qa gm ?_;generalize sput F c S1 (H++_)=W at gk2 b0 b1⊢;simp[b0,b1];refine Qa gk2 ?_;simp;simp[RetK,Yw,hfin']
 rw[if_neg h8];by_cases h9:k=23
 .rw[if_pos h9];subst h9;have gm:=hF.mention' hA.s hA.ch (.mk 23 f t w a z ks) false (by simp only[Q2i];omega) (by omega) hG hE';rw[hmap,hff,Qb9 h.s]at gm;have hfin':=hfin (S.men (.mk 23 f t w a z ks) false (Yl G w (⟨fr,lam⟩::E.map λx=>x.2.2) 0)) fr [bb,bx];rw[Qga h]at hfin'⊢;generalize S.men (.mk 23 f t w a z ks) false (Yl G w (⟨fr,lam⟩::E.map λx=>x.2.2) 0)=S1 at gm hfin'⊢;rw[N.v_mk]at gm⊢;subst hbb;subst hbx;simp[Qbm];refine Qa gm ?_;simp;simp[RetK,Yp,hfin']
 rw[if_neg h9];by_cases h10:k=28
 .rw[if_pos h10];subst h10;have gc:=hF.closed' hW (z:=z) ih hA.o true hG hE' (by omega) (by simp only[Q2i];omega);rw[hmap,Qb9 h.s]at gc;have hfin':=hfin (Yq G item ks (⟨fr,lam⟩::E.map λx=>x.2.2) true S) fr [bb,bx];rw[Qga h]at hfin'⊢;generalize Yq G item ks (⟨fr,lam⟩::E.map λx=>x.2.2) true S=S1 at gc hfin'⊢;rw[N.v_mk];subst hbb;subst hbx;simp[Qbm];refine Qa gc ?_;simp;simp[RetK,Yp,hfin']
 rw[if_neg h10];rw[Qal h]at gk;have hfin':=hfin (Wa G item ks (E.map λx=>x.2.2) fr lam S).2 (Wa G item ks (E.map λx=>x.2.2) fr lam S).1 [bb,bx];generalize Wa G item ks (E.map λx=>x.2.2) fr lam S=R at gk hfin'⊢;rw[N.v_mk]at gk⊢;subst hbb;subst hbx;simp[Qbm,h6,h7,h8,h9,h10];refine Qa gk ?_;simp;simp[RetK,Yw,hfin']
end
end
section
def Qm0:Cmp Vx where
 refl x:=by simp[Vx]
 anti x y:=by unfold Vx;constructor<;>intro h<;>(split at h<;>split<;>try split)<;>(try split at h)<;>(try omega)<;>simp_all<;>omega
 trans x y z h1 h2:=by
  unfold Vx at*
  (repeat' split at h1)<;>(repeat' split at h2)<;>(repeat' split)<;>omega
def cBad(a b:Int×Int):Int:=Vx a.1 b.1
def Z4:Cmp cBad:=Cmp.on (α:=Int×Int) Qm0 Prod.fst
def V2(n:N):SM:=⟨(allP n).bs,(allP n).ms,ssort cBad (allP n).bad⟩
def Qd8(x:N):∀(l:List N)(i:Int)(G:Nms)(S:SM),W5 i (l++[x]) G S=(if x.k=2 then Ym 1 (i+l.length) x (W5 i l G S).1 (W5 i l G S).2 else if x.k=3 then Ym 2 (i+l.length) x (W5 i l G S).1 (W5 i l G S).2 else W5 i l G S)
 |[],i,G,S=>by simp only[Q2u,W5,Q3b,Q40,Q5x]
 |y::r,i,G,S=>by
  have e:i+1+(r.length:Int)=i+((y::r).length:Int):=by simp;omega
  simp only[Q2m,W5];split
  .rw[Qd8 x r,e]
  .split
   .rw[Qd8 x r,e]
   .rw[Qd8 x r,e]
def Qmx(G:Nms)(x:N):∀(l:List N)(i:Int)(S:SM),Zr G i (l++[x]) S=(if x.k=3 then Yq G (i+l.length) x.ks [] false (Zr G i l S)else Zr G i l S)
 |[],i,S=>by simp only[Q2u,Zr,Q3b,Q40,Q5x]
 |y::r,i,S=>by
  have e:i+1+(r.length:Int)=i+((y::r).length:Int):=by simp;omega
  simp only[Q2m,Zr];rw[Qmx G x r,e]
def Qb1:∀(l:List N)(i:Int)(G:Nms)(S:SM),FOk S.bs.length G->Grew S (W5 i l G S).2 l.length (W5 i l G S).1
 |[],i,G,S,h=>⟨Q14 _,by simp[W5],h⟩
 |n::r,i,G,S,h=>by
  simp only[W5,Q2i];have step:∀k:Int,Grew S (W5 (i+1) r (Ym k i n G S).1 (Ym k i n G S).2).2 (r.length+1) (W5 (i+1) r (Ym k i n G S).1 (Ym k i n G S).2).1:=λk=>by have h1:=Grew.bind h k i n;have h2:=Qb1 r (i+1) _ _ h1.ok;refine⟨Q3d h1.bs h2.bs,?_,h2.ok⟩;have:=h1.sz;have:=h2.sz;omega
  split
  .exact step 1
  .split
   .exact step 2
   .have h2:=Qb1 r (i+1) G S h;exact⟨h2.bs,by have:=h2.sz;omega,h2.ok⟩
def Qdy(G:Nms):∀(l:List N)(i:Int)(S:SM),S.bs.length<=(Zr G i l S).bs.length/\(Zr G i l S).sz<=S.sz+2*N.sizes l
 |[],i,S=>by simp[Zr]
 |n::r,i,S=>by
  simp only[Zr,N.sizes_cons];have h1:=Qkb (ks:=n.ks) (λp _=>grew p) G i [] false S;have h3:=N.size_ks n;split
  .have h2:=Qdy G r (i+1) (Yq G i n.ks [] false S);omega
  .have h2:=Qdy G r (i+1) S;omega
def scC(L:Nat):SC:=⟨L+5,L+2,L+3,L+4,L+7,L+6⟩
def scY(F:SF)(L:Nat)(bx:Ob)(S:SM)(G:Nms)(it:Int):Hp:=[bx,.box F.tm [YL true 4 [],YL true 4 [],YL true 2 []],.tok S.bs.length 4 F.bd,.tok S.ms.length 4 F.mn,.vec 2 F.ed S.bad.length (S.bad.map Q2),mbox F (scC L) S,.mp (Vw G),.box F.tb [.ptr (L+5) 0,.d .nilp,.map (L+6),YI it]]
section
variable{P:Program}{F:SF}{S S':SM}{G G':Nms}{H:Hp}{it:Int}{bx:Ob}
def Qtk(X:Hp):SInv F (scC H.length) S (.d .nilp) it G (H++(scY F H.length bx S G it++X)):=by
 refine⟨?_,?_,?_,?_,?_,?_,?_⟩
 .simp only[scC,scY,Q2m,Q2u,Qs];rfl
 .simp only[scC,scY,Q2m,Q2u,Qs];rfl
 .simp only[scC,scY,Q2m,Q2u,Qs];rfl
 .simp only[scC,scY,Q2m,Q2u,Qs];rfl
 .simp only[scC,scY,Q2m,Q2u,Qs];rfl
 .simp only[scC,scY,Q2m,Q2u,Qs];rfl
 .simp only[scC];omega
def Qwi(X:Hp):nput F (scC H.length) S' (H.length+6) G' (H++(scY F H.length bx S G it++X))=H++(scY F H.length bx S' G' it++X):=by simp only[nput,sput,scC,scY,Q2m,Q2u,Zd];rfl
def Qwh(X:Hp):sput F (scC H.length) S' (H++(scY F H.length bx S G it++X))=H++(scY F H.length bx S' G it++X):=by simp only[sput,scC,scY,Q2m,Q2u,Zd];rfl
def Qku(O:H.Closed)(hbx:∀n,bx.clr n=bx)(X:Hp):Hp.cut (H.length+8) (H++(scY F H.length bx S G it++X))=H++scY F H.length bx S G it:=by
 rw[Qi O];have:((scY F H.length bx S G it++X).take 8)=scY F H.length bx S G it:=by simp[scY]
 rw[this];simp only[scY,Q2w,Q25,hbx,Qhc];rw[Qqd (by simp[scC]) (by simp[scC]) (by simp[scC])];simp
def Qr3(srt cmp:FuncId):C:=.seq (.ops [
 ⟨(some 65),none,.faddr 2 (.t 3)⟩,
 ⟨(some 66),none,.load 1 false (.t 65)⟩,
 ⟨(some 67),none,.call srt [(.t 66),(.c (.fn cmp))]⟩] false)
 (.seq (.ops [
  ⟨(some 68),none,.load 3 true (.t 3)⟩,
  ⟨none,none,.store 3 (.t 2) (.t 68)⟩] false)
 (.ret))
def SHas.ofW(hF:SHas P F)(hW:HasW P F){fof:FuncId}(hof:HasT P [5000003,8200003,6000034,6000043] fof (Qmf F.bind F.closed F.srt F.cmp F.tn F.tm F.tb F.bd F.mn F.ed)){k f t:Int}{w:Bs}{a:Int}{z:Bool}{ks:List N}(hn:N.sizes ks<=68719476736)(q:Nat)(K:A->Hp->Prop)(hq:H.Closed->∀(it:Int) (fr:Fr),fr 3=.ptr (H.length+5) 0->fr 2=.ptr (H.length+1) 0->AWp P H.length (Qr3 F.srt F.cmp) (Fin [.cell 2 3 true] (H.length+q) K) fr
 (H++scY F H.length (.box F.tn [YI k,YI f,YI t,YS w,YI a,YL z 6 (ks.map N.enc)]) (Zr (W5 0 ks [] ⟨[],[],[]⟩).1 0 ks (W5 0 ks [] ⟨[],[],[]⟩).2) (W5 0 ks [] ⟨[],[],[]⟩).1 it)):
 Qc P fof [N.v (.mk k f t w a z ks)] H K:=by
 obtain⟨fn,hf,hcf⟩:=hof;refine Zu q hf hcf (by simp[Qmf]) λO _=>?_;have hq:=hq O;rw[N.v_mk];have hsl:=N.sizes_len ks;obtain⟨bx,hbx⟩:∃bx,bx=Ob.box F.tn [YI k,YI f,YI t,YS w,YI a,YL z 6 (ks.map N.enc)]:=⟨_,rfl⟩;have hbc:∀n,bx.clr n=bx:=λn=>by subst hbx;simp
 rw[<-hbx]at hq;simp[Qmf];rw[<-hbx];have hstart:(H++[bx,.box F.tm [YL true 4 [],YL true 4 [],YL true 2 []],.tok 0 4 F.bd,.tok 0 4 F.mn,.vec 2 F.ed 0 [],.box F.tm [.osl true 4 [] (H.length+2),.osl true 4 [] (H.length+3),.vsl (H.length+4) 0 0],.mp [],.box F.tb [.ptr (H.length+5) 0,.d .nilp,.map (H.length+6),YI 0]]:Hp)=H++scY F H.length bx ⟨[],[],[]⟩ [] 0:=rfl;rw[hstart];have hbx1:∀S G it X,(H++(scY F H.length bx S G it++X))[H.length]?=some bx:=λS G it X=>by simp only[scY,Q2m,Vv];rfl
 refine Qz 0 (λfr' H'=>fr' 1=.ptr H.length 0/\fr' 2=.ptr (H.length+1) 0/\fr' 3=.ptr (H.length+5) 0/\fr' 4=.ptr (H.length+7) 0/\∃it,H'=H++scY F H.length bx (W5 0 ks [] ⟨[],[],[]⟩).2 (W5 0 ks [] ⟨[],[],[]⟩).1 it) ?_ ?_
 .refine Q8 (H.length+8) ks.length (λj fr' H'=>fr' 1=.ptr H.length 0/\fr' 2=.ptr (H.length+1) 0/\fr' 3=.ptr (H.length+5) 0/\fr' 4=.ptr (H.length+7) 0/\fr' 13=YL z 6 (ks.map N.enc)/\∃it,H'=H++scY F H.length bx (W5 0 (ks.take j) [] ⟨[],[],[]⟩).2 (W5 0 (ks.take j) [] ⟨[],[],[]⟩).1 it) (by omega) (by decide) (by simp[scY]) (by simp) ?_ ?_ ?_
  .have hc0:=Qku (F:=F) (S:=⟨[],[],[]⟩) (G:=[]) (it:=0) O hbc [];rw[Q2k]at hc0;rw[Q38];refine⟨by simp,by simp,by simp,by simp,by simp,0,?_⟩;rw[hc0];rfl
  .rintro j fr' H' hj f9 f8 ⟨f1,f2,f3,f4,f13,it,rfl⟩;have hr:=Qt N.enc hj;have hll:(ks.take j).length=j:=by simp;omega
   have hgr:=Qb1 (ks.take j) 0 [] ⟨[],[],[]⟩ (FOk.nil _);have hstep:=Qd8 ks[j] (ks.take j) 0 [] ⟨[],[],[]⟩;rw[<-Q2e hj,hll,Q6g]at hstep;generalize ks[j]=x at hr hstep;obtain⟨g1,g2,g3⟩:=hgr;have hz:SM.sz ⟨[],[],[]⟩=0:=rfl;rw[hll,hz]at g2;generalize W5 0 (ks.take j) [] ⟨[],[],[]⟩=TP at g1 g2 g3 hstep⊢;obtain⟨G1,S1⟩:=TP;simp only at g1 g2 g3 hstep⊢;obtain⟨k2,f2',t2,w2,a2,z2,ks2⟩:=x;have gb:=λ(X:Hp)(kind:Int)=>hF.bind' (Qtk (F:=F) (bx:=bx) (S:=S1) (G:=G1) (it:=(j:Int)) (H:=H) X) (m:=H.length+6) (es:=G1) (by simp only[scY,Q2m,Q2u,Qs];rfl) ⟨⟨by simp only[scC];omega,by simp only[scC];omega,by simp only[scC];omega,by simp only[scC];omega⟩,by simp only[scC];omega⟩ (.mk k2 f2' t2 w2 a2 z2 ks2) kind (by omega);simp only[Qwi]at gb;have hcut:=λ(S':SM)(G':Nms) X=>Qku (F:=F) (S:=S') (G:=G') (it:=(j:Int)) O hbc X;rw[N.enc_mk]at hr;rw[N.v_mk]at gb;have e7:∀(S:SM)(G:Nms)(it:Int) X,(scY F H.length bx S G it++X)[7]?=some (.box F.tb [.ptr (H.length+5) 0,.d .nilp,.map (H.length+6),YI it]):=λ_ _ it X=>rfl;have e8:∀(S:SM)(G:Nms)(it:Int)(x:Ob),(scY F H.length bx S G it++[x])[8]?=some x:=λ_ _ it x=>rfl;have s8:∀(it:Int)(x y:Ob),(scY F H.length bx S1 G1 it++[x]).set 8 y=scY F H.length bx S1 G1 it++[y]:=λit x y=>rfl;have s7:∀(it:Int) X,(scY F H.length bx S1 G1 it++X).set 7 (.box F.tb [.ptr (H.length+5) 0,.d .nilp,.map (H.length+6),YI j])=scY F H.length bx S1 G1 (j:Int)++X:=λit X=>rfl;have lY:∀S G it,(scY F H.length bx S G it).length=8:=λ_ _ _=>rfl;simp[f9,f13,hr,f4,lY,e7,e8,s8,s7,-getElem?_pos];have nxt:∀(S':SM)(G':Nms)(fr2:Fr)(X:Hp),fr2 15=YI j->fr2 14=YI ks.length->fr2 1=.ptr H.length 0->fr2 2=.ptr (H.length+1) 0->fr2 3=.ptr (H.length+5) 0->fr2 4=.ptr (H.length+7) 0->fr2 13=YL z 6 (ks.map N.enc)->W5 0 (ks.take (j+1)) [] ⟨[],[],[]⟩=(G',S')->
    Qm7 (λj fr' H'=>fr' 1=.ptr H.length 0/\fr' 2=.ptr (H.length+1) 0/\fr' 3=.ptr (H.length+5) 0/\fr' 4=.ptr (H.length+7) 0/\fr' 13=YL z 6 (ks.map N.enc)/\∃it,H'=H++scY F H.length bx (W5 0 (ks.take j) [] ⟨[],[],[]⟩).2 (W5 0 (ks.take j) [] ⟨[],[],[]⟩).1 it) .mk (H.length+8) ks.length 15 14 44 j fr2 (H++(scY F H.length bx S' G' (j:Int)++X)):=λS' G' fr2 X u15 u14 u1 u2 u3 u4 u13 hst=>by
    refine Q3 (H.length+8) (Q14 _) (by simp[lY,u15,u14]) ?_;refine⟨by simp[u1],by simp[u2],by simp[u3],by simp[u4],by simp[u13],j,?_⟩;rw[hcut,hst]
   by_cases h2:k2=2
   .subst h2;rw[if_pos (show(N.mk 2 f2' t2 w2 a2 z2 ks2).k=2 from rfl)]at hstep;have gb1:=gb [Ob.box F.tn [YI 2,YI f2',YI t2,YS w2,YI a2,YL z2 6 (ks2.map N.enc)]] 1;simp[f4,e7,e8,-getElem?_pos];refine Qf2 gb1 ?_;simp;refine nxt _ _ _ _ (by simp[f9]) (by simp[f8]) (by simp[f1]) (by simp[f2]) (by simp[f3]) (by simp[f4]) (by simp[f13]) ?_;rw[hstep]
   .by_cases h3:k2=3
    .subst h3;rw[if_neg (show¬(N.mk 3 f2' t2 w2 a2 z2 ks2).k=2 from h2),if_pos (show(N.mk 3 f2' t2 w2 a2 z2 ks2).k=3 from rfl)]at hstep;have gb1:=gb [Ob.box F.tn [YI 3,YI f2',YI t2,YS w2,YI a2,YL z2 6 (ks2.map N.enc)]] 2;simp[f4,e7,e8,-getElem?_pos];refine Qf2 gb1 ?_;simp;refine nxt _ _ _ _ (by simp[f9]) (by simp[f8]) (by simp[f1]) (by simp[f2]) (by simp[f3]) (by simp[f4]) (by simp[f13]) ?_;rw[hstep]
    .rw[if_neg (show¬(N.mk k2 f2' t2 w2 a2 z2 ks2).k=2 from h2),if_neg (show¬(N.mk k2 f2' t2 w2 a2 z2 ks2).k=3 from h3)]at hstep;simp[h2,h3,f4,e7,e8,-getElem?_pos];exact nxt _ _ _ _ (by simp[f9]) (by simp[f8]) (by simp[f1]) (by simp[f2]) (by simp[f3]) (by simp[f4]) (by simp[f13]) hstep
  .rintro fr' H' f9 f8 ⟨f1,f2,f3,f4,f13,it,rfl⟩;rw[Q2f (Q14 _)];simp[f1,f2,f3,f4];exact⟨it,rfl⟩
 .rintro fr' H' ⟨f1,f2,f3,f4,it,rfl⟩;have hgT:=Qb1 ks 0 [] ⟨[],[],[]⟩ (FOk.nil _);generalize W5 0 ks [] ⟨[],[],[]⟩=TP at hq hgT⊢;obtain⟨G,S0⟩:=TP;obtain⟨t1,t2,t3⟩:=hgT;have hz:SM.sz ⟨[],[],[]⟩=0:=rfl;rw[hz]at t2;simp only at hq t1 t2 t3⊢;have e0:∀S (it:Int),(scY F H.length bx S G it)[0]?=some bx:=λ_ _=>rfl;have e0':∀S (it:Int) X,(scY F H.length bx S G it++X)[0]?=some bx:=λ_ _ _=>rfl;have ebx:(H++scY F H.length bx S0 G it)[H.length]?=some bx:=by rw[Vv];rfl
  rw[hbx]at ebx;have lY:∀S G it,(scY F H.length bx S G it).length=8:=λ_ _ _=>rfl;have e7:∀(S:SM)(it:Int) X,(scY F H.length bx S G it++X)[7]?=some (.box F.tb [.ptr (H.length+5) 0,.d .nilp,.map (H.length+6),YI it]):=λ_ it X=>rfl;have e8:∀(S:SM)(it:Int)(x:Ob),(scY F H.length bx S G it++[x])[8]?=some x:=λ_ it x=>rfl;have s8:∀(S:SM)(it:Int)(x y:Ob),(scY F H.length bx S G it++[x]).set 8 y=scY F H.length bx S G it++[y]:=λ_ it x y=>rfl;have s7:∀(S:SM)(it j:Int) X,(scY F H.length bx S G it++X).set 7 (.box F.tb [.ptr (H.length+5) 0,.d .nilp,.map (H.length+6),YI j])=scY F H.length bx S G j++X:=λ_ it j X=>rfl;have e00:(scY F H.length bx S0 G it)[0]?=some (Ob.box F.tn [YI k,YI f,YI t,YS w,YI a,YL z 6 (ks.map N.enc)]):=by rw[<-hbx];rfl
  simp[f1,e00,-getElem?_pos];refine Qz 3 (λfr' H'=>fr' 2=.ptr (H.length+1) 0/\fr' 3=.ptr (H.length+5) 0/\∃it,H'=H++scY F H.length bx (Zr G 0 ks S0) G it) ?_ ?_
  .refine Q8 (H.length+8) ks.length (λj fr' H'=>fr' 2=.ptr (H.length+1) 0/\fr' 3=.ptr (H.length+5) 0/\fr' 4=.ptr (H.length+7) 0/\fr' 46=YL z 6 (ks.map N.enc)/\∃it,H'=H++scY F H.length bx (Zr G 0 (ks.take j) S0) G it) (by omega) (by decide) (by simp[scY]) (by simp) ?_ ?_ ?_
   .have hc0:=Qku (F:=F) (S:=S0) (G:=G) (it:=it) O hbc [];rw[Q2k]at hc0;rw[Q38];refine⟨by simp[f2],by simp[f3],by simp[f4],by simp,it,?_⟩;rw[hc0];rfl
   .rintro j fr' H' hj f9 f8 ⟨f2,f3,f4,f13,it,rfl⟩;have hr:=Qt N.enc hj;have hll:(ks.take j).length=j:=by simp;omega
    have hgr:=Qdy G (ks.take j) 0 S0;have hstep:=Qmx G ks[j] (ks.take j) 0 S0;rw[<-Q2e hj,hll,Q6g]at hstep;have hsz:N.sizes (ks.take j)+(ks[j]).size<=N.sizes ks:=by
     have:ks=ks.take j++ks[j]::ks.drop (j+1):=by rw[Q46];simp
     have e:N.sizes ks=N.sizes (ks.take j)+(ks[j].size+N.sizes (ks.drop (j+1))):=by conv=>lhs;rw[this,N.sizes_app,N.sizes_cons]
     omega
    generalize ks[j]=x at hr hstep hsz;generalize Zr G 0 (ks.take j) S0=S1 at hgr hstep⊢;obtain⟨k2,f2',t2',w2,a2,z2,ks2⟩:=x;rw[N.size_mk]at hsz;have hcut:=λ(S':SM) X=>Qku (F:=F) (S:=S') (G:=G) (it:=(j:Int)) O hbc X;have hO:∀X,OInv F (scC H.length) S1 (.d .nilp) j G [] (H++(scY F H.length bx S1 G (j:Int)++X)):=λX=>⟨Qtk X,rfl,by simp⟩;have gc:=λX=>hF.closed' hW (z:=z2) (ks:=ks2) (λp _=>hF.node' hW p) (hO X) false (t3.mono hgr.1) (by simp) (by omega) (by simp;omega);simp only[Qwh,Q25]at gc;rw[N.enc_mk]at hr;have nxt:∀(S':SM)(fr2:Fr)(X:Hp),fr2 48=YI j->fr2 47=YI ks.length->fr2 2=.ptr (H.length+1) 0->fr2 3=.ptr (H.length+5) 0->fr2 4=.ptr (H.length+7) 0->fr2 46=YL z 6 (ks.map N.enc)->Zr G 0 (ks.take (j+1)) S0=S'->
     Qm7 (λj fr' H'=>fr' 2=.ptr (H.length+1) 0/\fr' 3=.ptr (H.length+5) 0/\fr' 4=.ptr (H.length+7) 0/\fr' 46=YL z 6 (ks.map N.enc)/\∃it,H'=H++scY F H.length bx (Zr G 0 (ks.take j) S0) G it) .mk (H.length+8) ks.length 48 47 64 j fr2 (H++(scY F H.length bx S' G (j:Int)++X)):=λS' fr2 X u15 u14 u2 u3 u4 u13 hst=>by
     refine Q3 (H.length+8) (Q14 _) (by simp[lY,u15,u14]) ?_;refine⟨by simp[u2],by simp[u3],by simp[u4],by simp[u13],j,?_⟩;rw[hcut,hst]
    by_cases h3:k2=3
    .subst h3;rw[if_pos (show(N.mk 3 f2' t2' w2 a2 z2 ks2).k=3 from rfl)]at hstep;simp[f9,f13,hr,f4,lY,e7,e8,s8,s7,-getElem?_pos];refine Qa (gc _) ?_;simp;exact nxt _ _ _ (by simp[f9]) (by simp[f8]) (by simp[f2]) (by simp[f3]) (by simp[f4]) (by simp[f13]) hstep
    .rw[if_neg (show¬(N.mk k2 f2' t2' w2 a2 z2 ks2).k=3 from h3)]at hstep;simp[f9,f13,hr,f4,lY,e7,e8,s8,s7,h3,-getElem?_pos];exact nxt _ _ _ (by simp[f9]) (by simp[f8]) (by simp[f2]) (by simp[f3]) (by simp[f4]) (by simp[f13]) hstep
   .rintro fr' H' f9 f8 ⟨f2,f3,f4,f13,it,rfl⟩;rw[Q2f (Q14 _)];simp[f2,f3];exact⟨it,rfl⟩
  .rintro fr' H' ⟨f2,f3,it,rfl⟩;exact hq it fr' f3 f2
end
end
section
def Qki(item:Int)(x:N):∀(l:List N)(M:List Nm)(S:SM),Yd item (l++[x]) M S=Wx 3 item x (Yd item l M S).1 (Yd item l M S).2
 |[],M,S=>rfl
 |y::r,M,S=>by rw[Q2m,Yd,Qki item x r];rfl
def Ql9(item:Int)(x:N):∀(l:List N)(M:List Nm)(S:SM),Wr item (l++[x]) M S=Qae item x (Wr item l M S).1 (Wr item l M S).2
 |[],M,S=>by rw[Q2u,Qa0,Qb5,Qb5]
 |y::r,M,S=>by rw[Q2m,Qa0,Ql9 item x r,Qa0]
def Zc(M:List Nm)(n:Nat):(nms M).clr n=nms M:=by simp[nms]
section
variable{P:Program}{F:RSF}{c:RSC}{S S':SM}{H:Hp}
def Qno(h:RSInv F c S H)(hc:H.Closed):Hp.cut H.length (rsput F c S' H)=rsput F c S' H:=by have:=Qce (S':=S') h hc [];rwa[Q2k]at this
def Qua(P:Program)(F:RSF)(n:N):Prop:=∀(c:RSC)(S:SM)(item:Int)(M:List Nm)(H:Hp),RSInv F c S H->NmOk S.bs.length M->S.sz+2*n.size<=1099511627776->M.length+n.size<=1099511627776->
 Qc P F.rnode [.ptr c.im 0,nms M,n.v,YI item] H (λr H'=>r=nms (Qae item n M S).1/\H'=rsput F c (Qae item n M S).2 H)
def RSHas.closed'(hF:RSHas P F){ks:List N}{z:Bool}(ih:∀p∈ks,Qua P F p)(h:RSInv F c S H)(item:Int)(M:List Nm)(hM:NmOk S.bs.length M)(lam:Bool)(hb:S.sz+2*N.sizes ks<=1099511627776)(hl:M.length+N.sizes ks<=1099511627776):
 Qc P F.rclosed [.ptr c.im 0,nms M,YL z 6 (ks.map N.enc),YI item,YB lam] H (λr H'=>r=.tup []/\H'=rsput F c (Yk item ks M lam S) H):=by
 refine Qe hF.rclosed (by simp[Qcv]) λO _=>?_;by_cases h3:ks.length=3;case neg=>
  rw[Qe9 _ h3,Qay h];have h3':¬((ks.length:Int)=3):=by omega
  simp[Qcv,h3'];simp[RetK,Qb O]
 have hks:∃p q b,ks=[p,q,b]:=by
  match ks,h3 with
  |[p,q,b],_=>exact⟨p,q,b,rfl⟩
 obtain⟨p,q,b,rfl⟩:=hks;have gbeg:=hF.begin' M lam (by omega) H;rw[Qaj];have hps:p.ks.length+b.size+1<=N.sizes [p,q,b]:=by simp only[N.sizes_cons,N.sizes_nil];have:=N.sizes_len p.ks;have:=N.size_ks p;omega
 have hM1:=hM.new lam;have hpl:=h.lt.1;have hgr0:=GrewR.binds (item:=item) p.ks hM1;have ihb:=λH2=>ih b (by simp) c (Yd item p.ks (⟨0,true,lam⟩::M) S).2 item (Yd item p.ks (⟨0,true,lam⟩::M) S).1 (rsput F c (Yd item p.ks (⟨0,true,lam⟩::M) S).2 H2);have ihb:=λH2 hh=>ihb H2 hh hgr0.ok (by have:=hgr0.sz;omega) (by have:=hgr0.len;simp only[Q2i]at this;omega);have ihb:=ihb H (h.put _);rw[Qad]at ihb;have hr0:Zam.rowAt ([p,q,b].map N.enc) 0=some p.enc:=rfl;have hr2:Zam.rowAt ([p,q,b].map N.enc) 2=some b.enc:=rfl;simp only[Q2w,Q25]at hr0 hr2⊢;obtain⟨pk,pf,pt,pw,pa,pz,pks⟩:=p;rw[N.enc_mk]at hr0 hr2⊢;simp only[N.ks]at ihb hps hgr0⊢;generalize hM0:(⟨0,true,lam⟩:Nm)::M=M0 at gbeg hM1 ihb hgr0⊢;have hM0l:M0.length=M.length+1:=by rw[<-hM0];rfl
 generalize Qae item b (Yd item pks M0 S).1 (Yd item pks M0 S).2=R at ihb⊢;simp[Qcv];refine Qa gbeg ?_;simp;refine Qz 0 (λfr H'=>fr 0=.ptr c.im 0/\fr 2=YL z 6 [[.int .i64 pk,.int .i64 pf,.int .i64 pt,.str pw,.int .i64 pa,.sl pz 6 (pks.map N.enc)],q.enc,b.enc]/\fr 3=YI item/\fr 10=nms (Yd item pks M0 S).1/\H'=rsput F c (Yd item pks M0 S).2 H) ?_ ?_
 .refine Vl H.length pks.length (λj fr H'=>fr 0=.ptr c.im 0/\fr 2=YL z 6 [[.int .i64 pk,.int .i64 pf,.int .i64 pt,.str pw,.int .i64 pa,.sl pz 6 (pks.map N.enc)],q.enc,b.enc]/\fr 3=YI item/\fr 10=nms (Yd item (pks.take j) M0 S).1/\H'=rsput F c (Yd item (pks.take j) M0 S).2 H) (by omega) (by decide) (by simp) (by simp) ?_ ?_
  .rw[Q38,Yd,Qay h];exact⟨by simp[hpl],by simp,by simp,Zc _ _,Qb O⟩
  .rintro j fr H' hj f11 ⟨f0,f2,f3,f10,rfl⟩;simp[f11,f2,hr0];refine Qh (λhd=>?_) (λhd=>?_)
   .have hlt:j<pks.length:=by simp at hd;omega
    have hr:=Qt N.enc hlt;have hgr:=GrewR.binds (item:=item) (pks.take j) hM1;have hll:(pks.take j).length=j:=by simp;omega
    have hstep:Yd item (pks.take (j+1)) M0 S=Wx 3 item pks[j] (Yd item (pks.take j) M0 S).1 (Yd item (pks.take j) M0 S).2:=by rw[Q2e hlt,Qki]
    generalize pks[j]=x at hr hstep;obtain⟨g1,g2,g3,g4⟩:=hgr;rw[hll]at g2 g3;generalize Yd item (pks.take j) M0 S=KP at g1 g2 g3 g4 hstep f10⊢;obtain⟨M1,S1⟩:=KP;simp only at g1 g2 g3 g4 hstep f10⊢;have gb:=hF.bind' (h.put S1) M1 g4 x 3 item (by omega) (by omega);rw[Qad]at gb;obtain⟨k2,f2',t2,w2,a2,z2,ks2⟩:=x;rw[N.enc_mk]at hr;rw[N.v_mk]at gb;simp[f0,f2,f3,f10,f11,hr0,hr];refine Qa gb ?_;simp;refine Wp H.length (Q14 _) hlt (by simp[Wt,f11]) ?_;refine⟨by simp[f0,hpl],by simp[f2],by simp[f3],?_,?_⟩
    .rw[hstep];exact Zc _ _
    .rw[hstep];exact Qno h O
   .have hjj:j=pks.length:=by simp at hd;omega
    subst hjj;rw[Q2f (Q14 _)]at f10⊢;simp[f0,f2,f3,f10]
 .rintro fr H' ⟨f0,f2,f3,f10,rfl⟩;have hbv:(A.agg (b.enc.map .d))=b.v:=rfl;rw[<-hbv]at ihb;have hbs:b.enc.length=6:=by cases b;rw[N.enc_mk];rfl
  obtain⟨bk,bf,bt,bw,ba,bz,bks⟩:=b;simp only[N.enc_mk]at ihb hr2 f2⊢;simp[f0,f2,f3,f10,hr2];simp at ihb;refine Qa ihb ?_;simp;simp[RetK,Wt,Qno h O]
def Qop(rnode:FuncId):C:=.seq (.seq (.ops [
 ⟨(some 41),none,.mv (.t 10)⟩,
 ⟨(some 42),none,.faddr 5 (.t 6)⟩,
 ⟨(some 43),none,.load 1 false (.t 42)⟩,
 ⟨(some 44),none,.lenL (.t 43)⟩,
 ⟨(some 45),none,.bin .lss (.t 41) (.t 44)⟩] false)
 (.cond (.t 45) (.skip)
 (.exit 1)))
 (.seq (.blk 2 (.ops [
  ⟨(some 48),none,.mv (.t 0)⟩,
  ⟨(some 49),none,.mv (.t 9)⟩,
  ⟨(some 50),none,.faddr 5 (.t 6)⟩,
  ⟨(some 51),none,.load 1 false (.t 50)⟩,
  ⟨(some 52),none,.mv (.t 10)⟩,
  ⟨(some 53),none,.iaddr 6 (.t 51) (.t 52)⟩,
  ⟨(some 54),none,.load 6 true (.t 53)⟩,
  ⟨(some 55),none,.mv (.t 3)⟩,
  ⟨(some 56),none,.call rnode [(.t 48),(.t 49),(.t 54),(.t 55)]⟩,
  ⟨(some 9),none,.mv (.t 56)⟩] false))
 (.ops [
  ⟨(some 46),none,.mv (.t 10)⟩,
  ⟨(some 47),none,.bin .add (.t 46) (.c (.int .i64 1))⟩,
  ⟨(some 10),none,.mv (.t 47)⟩] false))
def RSHas.node'(hF:RSHas P F)(n:N):Qua P F n:=by
 induction n using N.ind with
 |h k f t w a z ks ih=>
 intro c S item M H h hM hb hl;refine Qe hF.rnode (by simp[Qag]) λO _=>?_;rw[N.size_mk]at hb hl;rw[N.v_mk];have hsl:=N.sizes_len ks;obtain⟨p1,p2,p3,p4⟩:=h.lt;obtain⟨bx,hbx⟩:∃bx,bx=Ob.box F.tn [YI k,YI f,YI t,YS w,YI a,YL z 6 (ks.map N.enc)]:=⟨_,rfl⟩;have hbc:∀n,bx.clr n=bx:=λn=>by subst hbx;simp
 have hbc1:∀(S':SM)(X:Hp),Hp.cut (H.length+1) (rsput F c S' H++bx::X)=rsput F c S' H++[bx]:=λS' X=>by have hcl1:Hp.Closed (H++[bx]):=Closed.snoc O λn hn=>hbc n;have:=Qce (S':=S') (h.app [bx]) hcl1 X;rw[Qf9 h]at this;simpa using this
 have hfin:∀S' X,Hp.cut H.length (rsput F c S' H++X)=rsput F c S' H:=λS' X=>Qce h O X;have hbr:∀(S':SM)(X:Hp),(rsput F c S' H++bx::X)[H.length]?=some bx:=λS' X=>by rw[show H.length=(rsput F c S' H).length from Wt.symm];simp
 have hself:H++[bx]=rsput F c S H++[bx]:=by rw[Qay h]
 have loop:∀(M0:List Nm)(S0:SM)(Q:Ex->Fr->Hp->Prop)(fr:Fr)(tg:Tag (Q,Qop F.rnode)),NmOk S0.bs.length M0->S0.sz+2*N.sizes ks<=1099511627776->M0.length+N.sizes ks<=1099511627776->fr 0=.ptr c.im 0->fr 1=nms M->fr 3=YI item->fr 6=.ptr H.length 0->fr 9=nms M0->fr 10=YI 0->
  (∀fr2:Fr,fr2 0=.ptr c.im 0->fr2 1=nms M->fr2 3=YI item->fr2 6=.ptr H.length 0->fr2 9=nms (Wr item ks M0 S0).1->Q (.exit 1) fr2 (rsput F c (Wr item ks M0 S0).2 H++[bx]))->
  Qeu Q (Qop F.rnode) tg P H.length fr (rsput F c S0 H++[bx]):=by
  intro M0 S0 Q fr tg hM0 hb0 hl0 u0 u1 u3 u6 u9 u10 hQ;unfold Qop at tg⊢;refine Qz 1 (λfr H'=>fr 0=.ptr c.im 0/\fr 1=nms M/\fr 3=YI item/\fr 6=.ptr H.length 0/\fr 9=nms (Wr item ks M0 S0).1/\H'=rsput F c (Wr item ks M0 S0).2 H++[bx]) ?_ ?_
  .refine Vl (H.length+1) ks.length (λj fr H'=>fr 0=.ptr c.im 0/\fr 1=nms M/\fr 3=YI item/\fr 6=.ptr H.length 0/\fr 9=nms (Wr item (ks.take j) M0 S0).1/\H'=rsput F c (Wr item (ks.take j) M0 S0).2 H++[bx]) (by omega) (by decide) (by simp[Wt]) (by simp[u10]) ?_ ?_
   .rw[Q38,Qb5];refine⟨by simp[u0];omega,by simp[u1,Zc,-A.clr],by simp[u3],by simp[u6],by simp[u9,Zc,-A.clr],hbc1 S0 []⟩
   .rintro j fr H' hj f10 ⟨f0,f1,f3,f6,f9,rfl⟩;have hgr:=λ(l:List N)(hlk:∀p∈l,p∈ks)=>Qa3 (λp _=>Qxp p) (ks:=l) item M0 S0 hM0;have hgj:=hgr (ks.take j) λp hp=>Q4q hp;have hstep:∀(hlt:j<ks.length),Wr item (ks.take (j+1)) M0 S0=Qae item ks[j] (Wr item (ks.take j) M0 S0).1 (Wr item (ks.take j) M0 S0).2:=λhlt=>by rw[Q2e hlt,Ql9]
    have hsz:∀(hlt:j<ks.length),N.sizes (ks.take j)+(ks[j]).size<=N.sizes ks:=λhlt=>by
     have:ks=ks.take j++ks[j]::ks.drop (j+1):=by rw[Q46];simp
     have e:N.sizes ks=N.sizes (ks.take j)+(ks[j].size+N.sizes (ks.drop (j+1))):=by conv=>lhs;rw[this,N.sizes_app,N.sizes_cons]
     omega
    have hend:j=ks.length->Wr item (ks.take j) M0 S0=Wr item ks M0 S0:=λe=>by rw[e,Q2f (Q14 _)]
    generalize Wr item (ks.take j) M0 S0=KP at hgj hstep hend f9⊢;obtain⟨M1,S1⟩:=KP;obtain⟨g1,g2,g3,g4⟩:=hgj;simp only at g1 g2 g3 g4 hstep f9⊢;have hs1:=(h.put S1).app [bx];have ihj:=λ(hlt:j<ks.length)=>ih ks[j] (Q20 hlt) c S1 item M1 _ hs1 g4 (by have:=hsz hlt;omega) (by have:=hsz hlt;omega);have e1:∀S',rsput F c S' (rsput F c S1 H++[bx])=rsput F c S' H++[bx]:=λS'=>by rw[Qf9 (h.put S1),Qad]
    have hb0':=hbr S1 [];have hlen:(rsput F c S1 H++[bx]).length=H.length+1:=by simp[Wt]
    have hc1:=λS'=>hbc1 S' [];generalize hW:rsput F c S1 H++[bx]=W at ihj hb0' hlen e1⊢;rw[hbx]at hb0';simp[f10,f6,hb0'];refine Qh (λhd=>?_) (λhd=>?_)
    .have hlt:j<ks.length:=by simp at hd;omega
     have hr:=Qt N.enc hlt;have gn:=ihj hlt;have hst:=hstep hlt;generalize ks[j]=x at hr gn hst;obtain⟨k2,f2',t2,w2,a2,z2,ks2⟩:=x;rw[N.enc_mk]at hr;rw[N.v_mk]at gn;simp[f0,f3,f6,f9,f10,hb0',hr];refine Qa gn ?_;rw[e1];simp;refine Wp (H.length+1) (Q14 _) hlt (by simp[Wt,f10]) ?_;refine⟨by simp[f0];omega,by simp[f1,Zc,-A.clr],by simp[f3],by simp[f6],?_,?_⟩
     .rw[hst];simp[Zc,-A.clr]
     .rw[hst];exact hc1 _
    .have hjj:j=ks.length:=by simp at hd;omega
     have he:=hend hjj;simp;refine⟨f0,f1,f3,f6,?_,?_⟩
     .rw[<-he];exact f9
     .rw[<-he];exact hW.symm
  .rintro fr H' ⟨f0,f1,f3,f6,f9,rfl⟩;exact hQ fr f0 f1 f3 f6 f9
 have hbr0:=hbr S [];rw[<-hself]at hbr0;have hbx0:=hbx;have hrn:∀S':SM,rsput F c S' (H++[bx])=rsput F c S' H++[bx]:=λS'=>Qf9 h [bx];have hwf:N.w (.mk k f t w a z ks)=w:=rfl;rw[Qhs];by_cases h23:k=23
 .subst h23;rw[if_neg (by decide),if_neg (by decide),if_neg (by decide),if_pos rfl];have gm:=hF.mention' (h.app [bx]) M hM (.mk 23 f t w a z ks) false (by omega) (by omega);rw[hrn,hwf]at gm;generalize S.men (.mk 23 f t w a z ks) false (Vh S.bs w M)=S1 at gm⊢;rw[N.v_mk]at gm;subst hbx;simp[Qag];refine Qa gm ?_;simp;simp[RetK,Wt,hfin,Zc,-A.clr]
 by_cases h28:k=28
 .subst h28;rw[if_neg (by decide),if_neg (by decide),if_neg (by decide),if_neg (by decide),if_pos rfl];have gc:=hF.closed' (z:=z) ih (h.app [bx]) item M hM true (by omega) (by omega);rw[hrn]at gc;generalize Yk item ks M true S=S1 at gc⊢;subst hbx;simp[Qag];refine Qa gc ?_;simp;simp[RetK,Wt,hfin,Zc,-A.clr]
 rw[if_neg h23,if_neg h28];by_cases h6:k=6
 .rw[if_pos h6];subst h6;have gbeg:=hF.begin' M false (by omega) (H++[bx]);have lp:=loop (⟨0,true,false⟩::M) S;have hq0:=hbr (Wr item ks (⟨0,true,false⟩::M) S).2 [];have hcutf:=hfin (Wr item ks (⟨0,true,false⟩::M) S).2 [bx];have hlen:(rsput F c (Wr item ks (⟨0,true,false⟩::M) S).2 H++[bx]).length=H.length+1:=by simp[Wt]
  simp[Qag];rw[<-hbx];refine Qa gbeg ?_;generalize hW:H++[bx]=W at hbr0⊢;rw[hbx]at hbr0;simp[hbr0];rw[<-hW,hself];refine lp _ _ _ (hM.new false) (by omega) (by simp only[Q2i];omega) (by simp) (by simp) (by simp) (by simp) (by simp) (by simp) λfr2 u0 u1 u3 u6 u9=>?_;generalize rsput F c (Wr item ks (⟨0,true,false⟩::M) S).2 H++[bx]=W2 at hq0 hcutf hlen⊢;rw[hbx]at hq0;simp[u0,u1,u6,hq0];simp[RetK,hlen,hcutf,Zc,-A.clr]
 rw[if_neg h6];by_cases h7:k=7
 .rw[if_pos h7];subst h7;have hgr:=Qa3 (λp _=>Qxp p) (ks:=ks) item M S hM;have gb:=hF.bind' ((h.put (Wr item ks M S).2).app [bx]) (Wr item ks M S).1 hgr.ok (.mk 7 f t w a z ks) 4 item (by have:=hgr.sz;omega) (by have:=hgr.len;omega);rw[Qf9 (h.put _),Qad]at gb;have lp:=loop M S;have hq0:=hbr (Wr item ks M S).2 [];generalize hR2:Wx 4 item (.mk 7 f t w a z ks) (Wr item ks M S).1 (Wr item ks M S).2=R2 at gb⊢;have hcutf:=hfin R2.2 [bx];have hlen:(rsput F c R2.2 H++[bx]).length=H.length+1:=by simp[Wt]
  rw[N.v_mk]at gb;simp[Qag];rw[<-hbx,hself];refine lp _ _ _ hM (by omega) (by omega) (by simp) (by simp) (by simp) (by simp) (by simp) (by simp) λfr2 u0 u1 u3 u6 u9=>?_;generalize rsput F c (Wr item ks M S).2 H++[bx]=W2 at hq0 gb⊢;rw[hbx]at hq0;simp[u0,u1,u3,u6,u9,hq0];refine Qa gb ?_;generalize rsput F c R2.2 H++[bx]=W3 at hcutf hlen⊢;simp;simp[RetK,hlen,hcutf,Zc,-A.clr]
 rw[if_neg h7];by_cases h8:k=8
 .rw[if_pos h8];subst h8;have gm:=hF.mention' (h.app [bx]) M hM (.mk 8 f t w a z ks) true (by omega) (by omega);rw[hrn,hwf]at gm;have hms:=SM.men_sz S (.mk 8 f t w a z ks) true (Vh S.bs w M);have hM1:NmOk (S.men (.mk 8 f t w a z ks) true (Vh S.bs w M)).bs.length M:=hM;generalize S.men (.mk 8 f t w a z ks) true (Vh S.bs w M)=S1 at gm hms hM1⊢;rw[N.v_mk]at gm;have lp:=loop M S1;have hq1:=hbr S1 [];have hq0:=hbr (Wr item ks M S1).2 [];have hcutf:=hfin (Wr item ks M S1).2 [bx];have hlen:(rsput F c (Wr item ks M S1).2 H++[bx]).length=H.length+1:=by simp[Wt]
  simp[Qag];rw[<-hbx];refine Qa gm ?_;generalize hW:rsput F c S1 H++[bx]=W at hq1⊢;rw[hbx]at hq1;simp[hq1];rw[<-hW];refine lp _ _ _ hM1 (by omega) (by omega) (by simp) (by simp) (by simp) (by simp) (by simp) (by simp) λfr2 u0 u1 u3 u6 u9=>?_;generalize rsput F c (Wr item ks M S1).2 H++[bx]=W2 at hq0 hcutf hlen⊢;rw[hbx]at hq0;simp[u0,u1,u6,u9,hq0];simp[RetK,hlen,hcutf,Zc,-A.clr]
 rw[if_neg h8];have lp:=loop M S;have hq0:=hbr (Wr item ks M S).2 [];have hcutf:=hfin (Wr item ks M S).2 [bx];have hlen:(rsput F c (Wr item ks M S).2 H++[bx]).length=H.length+1:=by simp[Wt]
 simp[Qag,h23,h28,h8,h6];rw[<-hbx,hself];refine lp _ _ _ hM (by omega) (by omega) (by simp) (by simp) (by simp) (by simp) (by simp) (by simp) λfr2 u0 u1 u3 u6 u9=>?_;generalize rsput F c (Wr item ks M S).2 H++[bx]=W2 at hq0 hcutf hlen⊢;rw[hbx]at hq0;simp[u0,u1,u6,u9,hq0,h7,h6];simp[RetK,hlen,hcutf,Zc,-A.clr]
end
end
section
def Qd6(x:N):∀(l:List N)(i:Int)(M:List Nm)(S:SM),Wv i (l++[x]) M S=(if x.k=2 then Wx 1 (i+l.length) x (Wv i l M S).1 (Wv i l M S).2 else if x.k=3 then Wx 2 (i+l.length) x (Wv i l M S).1 (Wv i l M S).2 else Wv i l M S)
 |[],i,M,S=>by simp only[Q2u,Wv,Q3b,Q40,Q5x]
 |y::r,i,M,S=>by
  have e:i+1+(r.length:Int)=i+((y::r).length:Int):=by simp;omega
  simp only[Q2m,Wv];split
  .rw[Qd6 x r,e]
  .split
   .rw[Qd6 x r,e]
   .rw[Qd6 x r,e]
def Qmw(M:List Nm)(x:N):∀(l:List N)(i:Int)(S:SM),V6 M i (l++[x]) S=(if x.k=3 then Yk (i+l.length) x.ks M false (V6 M i l S)else V6 M i l S)
 |[],i,S=>by simp only[Q2u,V6,Q3b,Q40,Q5x]
 |y::r,i,S=>by
  have e:i+1+(r.length:Int)=i+((y::r).length:Int):=by simp;omega
  simp only[Q2m,V6];rw[Qmw M x r,e]
def Qd7:∀(l:List N)(i:Int)(M:List Nm)(S:SM),NmOk S.bs.length M->GrewR S (Wv i l M S).2 l.length M (Wv i l M S).1
 |[],i,M,S,h=>⟨Q14 _,by simp[Wv],by simp[Wv],h⟩
 |n::r,i,M,S,h=>by
  simp only[Wv,Q2i];have step:∀k:Int,GrewR S (Wv (i+1) r (Wx k i n M S).1 (Wx k i n M S).2).2 (r.length+1) M (Wv (i+1) r (Wx k i n M S).1 (Wx k i n M S).2).1:=λk=>by
   have h1:=GrewR.bind h k i n;have h2:=Qd7 r (i+1) _ _ h1.ok;refine⟨Q3d h1.bs h2.bs,?_,?_,h2.ok⟩
   .have:=h1.sz;have:=h2.sz;omega
   .have:=h1.len;have:=h2.len;omega
  split
  .exact step 1
  .split
   .exact step 2
   .have h2:=Qd7 r (i+1) M S h;exact⟨h2.bs,by have:=h2.sz;omega,by have:=h2.len;omega,h2.ok⟩
def Qen(M:List Nm):∀(l:List N)(i:Int)(S:SM),NmOk S.bs.length M->S.bs.length<=(V6 M i l S).bs.length/\(V6 M i l S).sz<=S.sz+2*N.sizes l
 |[],i,S,h=>by simp[V6]
 |n::r,i,S,h=>by
  simp only[V6,N.sizes_cons];have h1:=Qis (ks:=n.ks) (λp _=>Qxp p) i M false S h;have h3:=N.size_ks n;split
  .have h2:=Qen M r (i+1) (Yk i n.ks M false S) (h.mono h1.1);omega
  .have h2:=Qen M r (i+1) S h;omega
def rC(L:Nat):RSC:=⟨L+5,L+2,L+3,L+4⟩
def rY(F:RSF)(L:Nat)(bx:Ob)(S:SM):Hp:=[bx,.box F.rtm [YL true 4 [],YL true 4 [],YL true 2 []],.tok S.bs.length 4 F.rbd,.tok S.ms.length 4 F.rmn,.tok S.bad.length 2 F.red,rbox F (rC L) S]
def SM.encR(S:SM):List D:=[.sl true 4 (S.bs.map Qw),.sl true 4 (S.ms.map Ya),.sl true 2 (S.bad.map Q2)]
def Qt3{x y:Int×Int}:cBad x y<=0↔x.1<=y.1:=by unfold cBad Vx;split<;>(try split)<;>omega
def Qzj{x y:Int×Int}:cBad x y<0↔x.1<y.1:=by unfold cBad Vx;split<;>(try split)<;>omega
section
variable{P:Program}{F:RSF}{S S':SM}{H:Hp}{bx:Ob}
def Q0z(X:Hp):RSInv F (rC H.length) S (H++(rY F H.length bx S++X)):=by
 refine⟨?_,?_,?_,?_,?_⟩
 .simp only[rC,rY,Q2m,Q2u,Qs];rfl
 .simp only[rC,rY,Q2m,Q2u,Qs];rfl
 .simp only[rC,rY,Q2m,Q2u,Qs];rfl
 .simp only[rC,rY,Q2m,Q2u,Qs];rfl
 .simp only[rC];omega
def Qtn:RSInv F (rC H.length) S (H++rY F H.length bx S):=by have:=Q0z (F:=F) (S:=S) (H:=H) (bx:=bx) [];rwa[Q2k]at this
def Q0y(X:Hp):rsput F (rC H.length) S' (H++(rY F H.length bx S++X))=H++(rY F H.length bx S'++X):=by simp only[rsput,rC,rY,Q2m,Q2u,Zd];rfl
def Qtm:rsput F (rC H.length) S' (H++rY F H.length bx S)=H++rY F H.length bx S':=by have:=Q0y (F:=F) (S:=S) (S':=S') (H:=H) (bx:=bx) [];rwa[Q2k,Q2k]at this
def Qwu(O:H.Closed)(hbx:∀n,bx.clr n=bx)(X:Hp):Hp.cut (H.length+6) (H++(rY F H.length bx S++X))=H++rY F H.length bx S:=by
 rw[Qi O];have:((rY F H.length bx S++X).take 6)=rY F H.length bx S:=by simp[rY]
 rw[this];simp only[rY,Q2w,Q25,hbx];rw[Qp3 (by simp[rC]) (by simp[rC]) (by simp[rC])];simp
def Qwv(red:TypeId):C:=(.seq (.ops [
 ⟨(some 7),none,.mv (.c (.sl true 2 []))⟩] false)
 (.seq (.seq (.ops [
  ⟨(some 8),none,.mv (.c (.int .i64 0))⟩] false)
  (.blk 4 (.loop (.seq (.seq (.ops [
   ⟨(some 76),none,.mv (.t 8)⟩,
   ⟨(some 77),none,.mv (.t 3)⟩,
   ⟨(some 78),none,.nilCheck (.t 77)⟩,
   ⟨(some 79),none,.faddr 2 (.t 78)⟩,
   ⟨(some 80),none,.load 1 false (.t 79)⟩,
   ⟨(some 81),none,.lenL (.t 80)⟩,
   ⟨(some 82),none,.bin .lss (.t 76) (.t 81)⟩] false)
   (.cond (.t 82) (.skip)
   (.exit 4)))
   (.seq (.blk 5 (.seq (.ops [
    ⟨(some 85),none,.mv (.t 7)⟩,
    ⟨(some 86),none,.lenL (.t 85)⟩,
    ⟨(some 9),none,.mv (.t 86)⟩] false)
    (.seq (.blk 6 (.loop (.seq (.seq (.ops [
      ⟨(some 87),none,.mv (.t 9)⟩,
      ⟨(some 88),none,.bin .gtr (.t 87) (.c (.int .i64 0))⟩,
      ⟨(some 89),none,.mv (.t 88)⟩,
      ⟨(some 90),(some (89,true)),.mv (.t 7)⟩,
      ⟨(some 91),(some (89,true)),.mv (.t 9)⟩,
      ⟨(some 92),(some (89,true)),.bin .sub (.t 91) (.c (.int .i64 1))⟩,
      ⟨(some 93),(some (89,true)),.iaddr 2 (.t 90) (.t 92)⟩,
      ⟨(some 94),(some (89,true)),.faddr 0 (.t 93)⟩,
      ⟨(some 95),(some (89,true)),.load 1 false (.t 94)⟩,
      ⟨(some 96),(some (89,true)),.mv (.t 3)⟩,
      ⟨(some 97),(some (89,true)),.nilCheck (.t 96)⟩,
      ⟨(some 98),(some (89,true)),.faddr 2 (.t 97)⟩,
      ⟨(some 99),(some (89,true)),.load 1 false (.t 98)⟩,
      ⟨(some 100),(some (89,true)),.mv (.t 8)⟩,
      ⟨(some 101),(some (89,true)),.iaddr 2 (.t 99) (.t 100)⟩,
      ⟨(some 102),(some (89,true)),.faddr 0 (.t 101)⟩,
      ⟨(some 103),(some (89,true)),.load 1 false (.t 102)⟩,
      ⟨(some 104),(some (89,true)),.bin .gtr (.t 95) (.t 103)⟩,
      ⟨(some 105),none,.pick (.t 89) (.t 104) (.c (.bool false))⟩] true)
     (.cond (.t 105) (.skip)
     (.exit 6)))
     (.blk 7 (.ops [
      ⟨(some 106),none,.mv (.t 9)⟩,
      ⟨(some 107),none,.bin .sub (.t 106) (.c (.int .i64 1))⟩,
      ⟨(some 9),none,.mv (.t 107)⟩] false)))))
    (.seq (.ops [
     ⟨(some 10),none,.nilT 2 red⟩] false)
    (.seq (.ops [
     ⟨(some 108),none,.mv (.t 10)⟩,
     ⟨(some 109),none,.mv (.t 7)⟩,
     ⟨(some 110),none,.mv (.t 9)⟩,
     ⟨(some 111),none,.slice 2 (.t 109) none (some (.t 110)) none⟩,
     ⟨(some 112),none,.app 2 16 red (.t 108) (.t 111)⟩,
     ⟨(some 10),none,.mv (.t 112)⟩] false)
    (.seq (.ops [
     ⟨(some 113),none,.mv (.t 10)⟩,
     ⟨(some 114),none,.mv (.t 3)⟩,
     ⟨(some 115),none,.nilCheck (.t 114)⟩,
     ⟨(some 116),none,.faddr 2 (.t 115)⟩,
     ⟨(some 117),none,.load 1 false (.t 116)⟩,
     ⟨(some 118),none,.mv (.t 8)⟩,
     ⟨(some 119),none,.iaddr 2 (.t 117) (.t 118)⟩,
     ⟨(some 120),none,.load 2 true (.t 119)⟩,
     ⟨(some 121),none,.bslice 2 [(.t 120)]⟩,
     ⟨(some 122),none,.app 2 16 red (.t 113) (.t 121)⟩,
     ⟨(some 10),none,.mv (.t 122)⟩] false)
    (.ops [
     ⟨(some 123),none,.mv (.t 10)⟩,
     ⟨(some 124),none,.mv (.t 7)⟩,
     ⟨(some 125),none,.mv (.t 9)⟩,
     ⟨(some 126),none,.slice 2 (.t 124) (some (.t 125)) none none⟩,
     ⟨(some 127),none,.app 2 16 red (.t 123) (.t 126)⟩,
     ⟨(some 7),none,.mv (.t 127)⟩] false)))))))
   (.ops [
    ⟨(some 83),none,.mv (.t 8)⟩,
    ⟨(some 84),none,.bin .add (.t 83) (.c (.int .i64 1))⟩,
    ⟨(some 8),none,.mv (.t 84)⟩] false))))))
 (.seq (.ops [
  ⟨(some 128),none,.mv (.t 3)⟩,
  ⟨(some 129),none,.mv (.t 7)⟩,
  ⟨(some 130),none,.nilCheck (.t 128)⟩,
  ⟨(some 131),none,.faddr 2 (.t 130)⟩,
  ⟨none,none,.store 1 (.t 131) (.t 129)⟩] false)
 (.seq (.ops [
  ⟨(some 132),none,.mv (.t 3)⟩,
  ⟨(some 133),none,.nilCheck (.t 132)⟩,
  ⟨(some 134),none,.load 3 true (.t 133)⟩,
  ⟨none,none,.store 3 (.t 2) (.t 134)⟩] false)
 (.ret)))))
def Q00(O:H.Closed)(hbx:∀n,bx.clr n=bx)(hS:S.sz<=1099511627776)(fr:Fr)(f2:fr 2=.ptr (H.length+1) 0)(f3:fr 3=.ptr (H.length+5) 0):
 AWp P H.length (Qwv F.red) (Fin [.cell 2 3 true] H.length λr H'=>r=.agg ((SM.encR ⟨S.bs,S.ms,ssort cBad S.bad⟩).map .d)/\H'=H) fr (H++rY F H.length bx S):=by
 obtain⟨bs,ms,bad⟩:=S;have hbl:bad.length<=1099511627776:=by unfold SM.sz at hS;simp only at hS;omega
 have y5:∀X,(rY F H.length bx ⟨bs,ms,bad⟩++X)[5]?=some (.box F.rtm [.osl true 4 (bs.map Qw) (H.length+2),.osl true 4 (ms.map Ya) (H.length+3),.osl true 2 (bad.map Q2) (H.length+4)]):=λ_=>rfl;have y5':(rY F H.length bx ⟨bs,ms,bad⟩)[5]?=some (.box F.rtm [.osl true 4 (bs.map Qw) (H.length+2),.osl true 4 (ms.map Ya) (H.length+3),.osl true 2 (bad.map Q2) (H.length+4)]):=rfl;have lY:(rY F H.length bx ⟨bs,ms,bad⟩).length=6:=rfl;have hc:=Qwu (F:=F) (S:=⟨bs,ms,bad⟩) O hbx;have y1':∀B,((rY F H.length bx ⟨bs,ms,bad⟩).set 5 B)[1]?=some (.box F.rtm [YL true 4 [],YL true 4 [],YL true 2 []]):=λ_=>rfl;have y1:(rY F H.length bx ⟨bs,ms,bad⟩)[1]?=some (.box F.rtm [YL true 4 [],YL true 4 [],YL true 2 []]):=rfl;have y6:∀x,(rY F H.length bx ⟨bs,ms,bad⟩++[x])[6]?=some x:=λ_=>rfl;have s6:∀x y,(rY F H.length bx ⟨bs,ms,bad⟩++[x]).set 6 y=rY F H.length bx ⟨bs,ms,bad⟩++[y]:=λ_ _=>rfl;have hc0:Hp.cut (H.length+6) (H++rY F H.length bx ⟨bs,ms,bad⟩)=H++rY F H.length bx ⟨bs,ms,bad⟩:=by have:=hc [];rwa[Q2k]at this
 unfold Qwv;simp;refine Qz 4 (λfr H'=>fr 2=.ptr (H.length+1) 0/\fr 3=.ptr (H.length+5) 0/\fr 7=YL true 2 ((ssort cBad bad).map Q2)/\H'=H++rY F H.length bx ⟨bs,ms,bad⟩) ?_ ?_
 .refine Vl (H.length+6) bad.length (λj fr H'=>fr 2=.ptr (H.length+1) 0/\fr 3=.ptr (H.length+5) 0/\fr 7=YL true 2 ((ssort cBad (bad.take j)).map Q2)/\H'=H++rY F H.length bx ⟨bs,ms,bad⟩) (by omega) (by decide) (by simp[lY]) (by simp) ?_ ?_
  .rw[Q38];exact⟨by simp[f2],by simp[f3],by simp[ssort],hc0⟩
  .rintro j fr H' hj f8 ⟨f2,f3,f7,rfl⟩;simp[f8,f3,y5',-getElem?_pos];refine Qh (λhd=>?_) (λhd=>?_)
   .have hlt:j<bad.length:=by simp at hd;omega
    have hr:=Qt Q2 hlt;have hsl:(ssort cBad (bad.take j)).length=j:=by rw[Ww Z4];simp;omega
    have hsorted:=(Wi Z4 (bad.take j)).1;have hsp:ssort cBad (bad.take (j+1))=ssort cBad (ssort cBad (bad.take j)++[bad[j]]):=by rw[Q2e hlt];exact(Qi6 Z4 ((Wi Z4 (bad.take j)).2.append (Alk.refl _))).symm
    generalize hxx:bad[j]=x at hr hsp;generalize ssort cBad (bad.take j)=L at hsl hsorted hsp f7⊢;obtain⟨xa,xe⟩:=x;simp only[Q2]at hr;have hr0:∀X,(rY F H.length bx ⟨bs,ms,bad⟩++X)[5]?=_:=y5;simp[f7,f8,f3,hsl];refine Qz 6 (λfr H'=>fr 2=.ptr (H.length+1) 0/\fr 3=.ptr (H.length+5) 0/\fr 7=YL true 2 (L.map Q2)/\fr 8=YI j/\H'=H++rY F H.length bx ⟨bs,ms,bad⟩/\∃q:Nat,q<=L.length/\fr 9=YI q/\(∀y∈L.take q,y.1<=xa)/\∀y∈L.drop q,xa<y.1) ?_ ?_
    .refine Wy (H.length+6) (λfr H'=>fr 2=.ptr (H.length+1) 0/\fr 3=.ptr (H.length+5) 0/\fr 7=YL true 2 (L.map Q2)/\fr 8=YI j/\H'=H++rY F H.length bx ⟨bs,ms,bad⟩/\∃q:Nat,q<=L.length/\fr 9=YI q/\∀y∈L.drop q,xa<y.1) (λfr _=>muI (fr 9)) (by simp[lY]) ?_ ?_
     .exact⟨by simp[f2],by simp[f3],by simp[f7],by simp[f8],hc0,j,by omega,by simp,by rw[Q6c (by omega)];simp⟩
     .rintro fr H' ⟨f2,f3,f7,f8,rfl,q,hq,f9,hdr⟩;cases q with
      |zero=>simp[f9,f7,f8,f3,f2];exact⟨0,by omega,rfl,by simp,by simpa using hdr⟩
      |succ q=>
       have hql:q<L.length:=by omega
       have hrq:=Qt Q2 hql;have hwq:IntKind.i64.wrap (((q:Int)+1)-1)=q:=by rw[wi64 (by omega)];omega
       have hwq3:IntKind.i64.wrap (q:Int)=q:=by rw[wi64 (by omega)]
       have hwq2:(((q+1:Nat):Int))=(q:Int)+1:=by omega
       rw[hwq2]at f9;have hpos:(0:Int)<(q:Int)+1:=by omega
       have hdrop:L.drop q=L[q]::L.drop (q+1):=(Q2o hql);have htake:L.take (q+1)=L.take q++[L[q]]:=Q2e hql;have hsq:∀y∈L.take q,y.1<=(L[q]).1:=λy hy=>by
        have h1:Sorted cBad (L.take q++L.drop q):=by rw[Q2x];exact hsorted
        have h2:=(Sorted.append (c:=cBad)).1 h1;exact Qt3.1 (h2.2.2 y hy L[q] (by rw[hdrop];exact List.mem_cons_self))
       generalize L[q]=y at hrq hdrop htake hsq;obtain⟨ya,ye⟩:=y;simp only[Q2]at hrq;by_cases hc1:xa<ya
       .simp[f9,f7,f8,f3,y5',hr,hrq,hwq,hwq3,hpos,hc1,-getElem?_pos];refine Wf (by simp[lY]) ⟨by simp[f2],by simp[f3],by simp[f7],by simp[f8],hc0,q,by omega,by simp,?_⟩ ?_
        .rw[hdrop];intro y hy;rcases Q2v.1 hy with rfl|hy
         .exact hc1
         .exact hdr y hy
        .show muI (YI q)<muI (YI ((q:Int)+1));simp only[muI];omega
       .simp[f9,f7,f8,f3,f2,y5',hr,hrq,hwq,hwq3,hpos,hc1,-getElem?_pos];refine⟨q+1,by omega,by simp,?_,λa b h=>hdr (a,b) h⟩;rw[htake];intro a b hy;rcases Q2r.1 hy with hy|hy
        .have:=hsq (a,b) hy;simp only at this⊢;omega
        .simp at hy;omega
    .rintro fr H' ⟨f2,f3,f7,f8,rfl,q,hq,f9,hta,hdr⟩;have hres:ssort cBad (bad.take (j+1))=L.take q++(xa,xe)::L.drop q:=by rw[hsp];have:=Qd9 Z4 (a:=L.take q) (b:=L.drop q) (x:=(xa,xe)) (by rw[Q2x];exact hsorted) (λy hy=>Qt3.2 (hta y hy)) (λy hy=>Qzj.2 (hdr y hy));rw[Q2x]at this;exact this
     have hq0:(0:Int)<=(q:Int):=by omega
     have hqL:(q:Int)<=(L.length:Int):=by omega
     have hfit1:q*16<=140737488355328:=by omega
     have hfit2:(q+1)*16<=140737488355328:=by omega
     have hfit3:(q+1+(L.length-q))*16<=140737488355328:=by omega
     have hmin:min q L.length=q:=by omega
     have s1:subL (L.map Q2) 0 (q:Int)=some ((L.take q).map Q2):=by rw[Qks (by simp;omega)];simp[Q56]
     have s2:subL (L.map Q2) (q:Int) (L.length:Int)=some ((L.drop q).map Q2):=by
      rw[Qks (by simp;omega)];have:(List.map Q2 L).length-q=L.length-q:=by simp
      simp[Q57];rw[Q2f (by simp)]
     have hlt':(L.take q).length=q:=by simp;omega
     have hld:(L.drop q).length=L.length-q:=by simp
     simp[-List.map_take,-List.map_drop,s1,s2,f7,f8,f9,f3,appA,hq,hmin,hfit1,hfit2,hfit3,y5,y6,s6,hr,lY,-getElem?_pos];refine Wp (H.length+6) (Q14 _) hlt (by simp[lY,f8]) ?_;rw[hres,hc];exact⟨by simp[f2],by simp[f3],by simp[Q2,-List.map_take,-List.map_drop],rfl⟩
   .have hjj:j=bad.length:=by simp at hd;omega
    rw[hjj,Q2f (Q14 _)]at f7;simp[f2,f3,f7]
 .rintro fr H' ⟨f2,f3,f7,rfl⟩;simp[f2,f3,f7,y5',y1,y1',lY,-getElem?_pos];simp only[RetK];refine⟨by simp,?_,Qd O _⟩;simp[SM.encR]
def RSHas.of'(hF:RSHas P F){fof:FuncId}(hof:HasT P [10,11] fof (Qk1 F.rbind F.rclosed F.tn F.rtm F.red F.rbd F.rmn))(n:N)(hn:n.size<=68719476736)(H:Hp):
 Qc P fof [n.v] H (λr H'=>r=.agg ((SM.encR ⟨(allR n).bs,(allR n).ms,ssort cBad (allR n).bad⟩).map .d)/\H'=H):=by
 refine Qe hof (by simp[Qk1]) λO _=>?_;obtain⟨k,f,t,w,a,z,ks⟩:=n;rw[N.size_mk]at hn;rw[N.v_mk];have hsl:=N.sizes_len ks;have hz:SM.sz ⟨[],[],[]⟩=0:=rfl;have hnm:NmOk (SM.mk [] [] []).bs.length []:=λx hx=>absurd hx (by simp);have hall:allR (.mk k f t w a z ks)=V6 (Wv 0 ks [] ⟨[],[],[]⟩).1 0 ks (Wv 0 ks [] ⟨[],[],[]⟩).2:=rfl;rw[hall];obtain⟨bx,hbx⟩:∃bx,bx=Ob.box F.tn [YI k,YI f,YI t,YS w,YI a,YL z 6 (ks.map N.enc)]:=⟨_,rfl⟩;have hbc:∀n,bx.clr n=bx:=λn=>by subst hbx;simp
 have tail:=λ(S:SM) hS fr f2 f3=>Q00 (P:=P) (F:=F) (S:=S) O hbc hS fr f2 f3;unfold Qwv at tail;simp[Qk1];rw[<-hbx];have hstart:(H++[bx,.box F.rtm [YL true 4 [],YL true 4 [],YL true 2 []],.tok 0 4 F.rbd,.tok 0 4 F.rmn,.tok 0 2 F.red,.box F.rtm [.osl true 4 [] (H.length+2),.osl true 4 [] (H.length+3),.osl true 2 [] (H.length+4)]]:Hp)=H++rY F H.length bx ⟨[],[],[]⟩:=rfl;rw[hstart];have hcut:=λ(S':SM) X=>Qwu (F:=F) (S:=S') O hbc X;have hc0:∀S':SM,Hp.cut (H.length+6) (H++rY F H.length bx S')=H++rY F H.length bx S':=λS'=>by have:=hcut S' [];rwa[Q2k]at this
 have e0:∀S',(rY F H.length bx S')[0]?=some (Ob.box F.tn [YI k,YI f,YI t,YS w,YI a,YL z 6 (ks.map N.enc)]):=λS'=>by rw[<-hbx];rfl
 have lY:∀S',(rY F H.length bx S').length=6:=λ_=>rfl;refine Qz 0 (λfr H'=>fr 1=.ptr H.length 0/\fr 2=.ptr (H.length+1) 0/\fr 3=.ptr (H.length+5) 0/\fr 4=nms (Wv 0 ks [] ⟨[],[],[]⟩).1/\H'=H++rY F H.length bx (Wv 0 ks [] ⟨[],[],[]⟩).2) ?_ ?_
 .refine Vl (H.length+6) ks.length (λj fr H'=>fr 1=.ptr H.length 0/\fr 2=.ptr (H.length+1) 0/\fr 3=.ptr (H.length+5) 0/\fr 4=nms (Wv 0 (ks.take j) [] ⟨[],[],[]⟩).1/\H'=H++rY F H.length bx (Wv 0 (ks.take j) [] ⟨[],[],[]⟩).2) (by omega) (by decide) (by simp[lY]) (by simp) ?_ ?_
  .rw[Q38];exact⟨by simp,by simp,by simp,by simp[nms,Wv],hc0 _⟩
  .rintro j fr H' hj f5 ⟨f1,f2,f3,f4,rfl⟩;have hgr:=Qd7 (ks.take j) 0 [] ⟨[],[],[]⟩ hnm;have hll:(ks.take j).length=j:=by simp;omega
   have hstep:∀(hlt:j<ks.length),Wv 0 (ks.take (j+1)) [] ⟨[],[],[]⟩=_:=λhlt=>by rw[Q2e hlt,Qd6,hll,Q6g]
   have hend:j=ks.length->Wv 0 (ks.take j) [] ⟨[],[],[]⟩=Wv 0 ks [] ⟨[],[],[]⟩:=λe=>by rw[e,Q2f (Q14 _)]
   obtain⟨-,g2,g3,g4⟩:=hgr;rw[hll,hz]at g2;rw[hll]at g3;simp only[Q3b]at g3;generalize Wv 0 (ks.take j) [] ⟨[],[],[]⟩=TP at g2 g3 g4 hstep hend f4⊢;obtain⟨M1,S1⟩:=TP;simp only at g2 g3 g4 hstep f4⊢;have gb:=λ(x:N)(kind:Int)=>hF.bind' (Qtn (F:=F) (S:=S1) (bx:=bx) (H:=H)) M1 g4 x kind (j:Int) (by omega) (by omega);simp only[Qtm]at gb;simp[f5,f1,e0,-getElem?_pos];refine Qh (λhd=>?_) (λhd=>?_)
   .have hlt:j<ks.length:=by simp at hd;omega
    have hr:=Qt N.enc hlt;have hst:=hstep hlt;generalize ks[j]=x at hr hst;obtain⟨k2,f2',t2,w2,a2,z2,ks2⟩:=x;rw[N.enc_mk]at hr;have nxt:∀(S':SM)(M':List Nm)(fr2:Fr),fr2 1=.ptr H.length 0->fr2 2=.ptr (H.length+1) 0->fr2 3=.ptr (H.length+5) 0->fr2 5=YI j->fr2 4=nms M'->Wv 0 (ks.take (j+1)) [] ⟨[],[],[]⟩=(M',S')->
     Qm8 (λj fr H'=>fr 1=.ptr H.length 0/\fr 2=.ptr (H.length+1) 0/\fr 3=.ptr (H.length+5) 0/\fr 4=nms (Wv 0 (ks.take j) [] ⟨[],[],[]⟩).1/\H'=H++rY F H.length bx (Wv 0 (ks.take j) [] ⟨[],[],[]⟩).2) .mk (H.length+6) ks.length 5 18 19 j fr2 (H++rY F H.length bx S'):=λS' M' fr2 u1 u2 u3 u5 u4 hs=>by
     refine Wp (H.length+6) (Q14 _) hlt (by simp[lY,u5]) ?_;refine⟨by simp[u1],by simp[u2],by simp[u3],?_,?_⟩
     .rw[hs];simp[u4,Zc,-A.clr]
     .rw[hs];exact hc0 _
    by_cases h2:k2=2
    .subst h2;rw[if_pos (show(N.mk 2 f2' t2 w2 a2 z2 ks2).k=2 from rfl)]at hst;have gb1:=gb (.mk 2 f2' t2 w2 a2 z2 ks2) 1;rw[N.v_mk]at gb1;simp[f5,f1,f3,f4,e0,hr,-getElem?_pos];refine Qa gb1 ?_;simp[f5,f1,f3,f4,e0,hr,-getElem?_pos];exact nxt _ _ _ (by simp[f1]) (by simp[f2]) (by simp[f3]) (by simp[f5]) (by simp[Wx]) hst
    .by_cases h3:k2=3
     .subst h3;rw[if_neg (show¬(N.mk 3 f2' t2 w2 a2 z2 ks2).k=2 from h2),if_pos (show(N.mk 3 f2' t2 w2 a2 z2 ks2).k=3 from rfl)]at hst;have gb1:=gb (.mk 3 f2' t2 w2 a2 z2 ks2) 2;rw[N.v_mk]at gb1;simp[f5,f1,f3,f4,e0,hr,-getElem?_pos];refine Qa gb1 ?_;simp[f5,f1,f3,f4,e0,hr,-getElem?_pos];exact nxt _ _ _ (by simp[f1]) (by simp[f2]) (by simp[f3]) (by simp[f5]) (by simp[Wx]) hst
     .rw[if_neg (show¬(N.mk k2 f2' t2 w2 a2 z2 ks2).k=2 from h2),if_neg (show¬(N.mk k2 f2' t2 w2 a2 z2 ks2).k=3 from h3)]at hst;simp[f5,f1,f3,f4,e0,hr,h2,h3,-getElem?_pos];exact nxt _ _ _ (by simp[f1]) (by simp[f2]) (by simp[f3]) (by simp[f5]) (by simp[f4]) hst
   .have hjj:j=ks.length:=by simp at hd;omega
    have he:=hend hjj;simp;refine⟨f1,f2,f3,?_,?_⟩
    .rw[<-he];exact f4
    .rw[<-he]
 .rintro fr H' ⟨f1,f2,f3,f4,rfl⟩;have hgT:=Qd7 ks 0 [] ⟨[],[],[]⟩ hnm;obtain⟨-,t2,t3,t4⟩:=hgT;rw[hz]at t2;simp only[Q3b]at t3;generalize Wv 0 ks [] ⟨[],[],[]⟩=TP at t2 t3 t4 f4⊢;obtain⟨G,S0⟩:=TP;simp only at t2 t3 t4 f4⊢;simp[f1];refine Qz 2 (λfr H'=>fr 2=.ptr (H.length+1) 0/\fr 3=.ptr (H.length+5) 0/\H'=H++rY F H.length bx (V6 G 0 ks S0)) ?_ ?_
  .refine Vl (H.length+6) ks.length (λj fr H'=>fr 1=.ptr H.length 0/\fr 2=.ptr (H.length+1) 0/\fr 3=.ptr (H.length+5) 0/\fr 4=nms G/\H'=H++rY F H.length bx (V6 G 0 (ks.take j) S0)) (by omega) (by decide) (by simp[lY]) (by simp) ?_ ?_
   .rw[Q38];exact⟨by simp[f1],by simp[f2],by simp[f3],by simp[f4,Zc,-A.clr],hc0 _⟩
   .rintro j fr H' hj f6 ⟨f1,f2,f3,f4,rfl⟩;have hgr:=Qen G (ks.take j) 0 S0 t4;have hll:(ks.take j).length=j:=by simp;omega
    have hstep:∀(hlt:j<ks.length),V6 G 0 (ks.take (j+1)) S0=_:=λhlt=>by rw[Q2e hlt,Qmw,hll,Q6g]
    have hsz:∀(hlt:j<ks.length),N.sizes (ks.take j)+(ks[j]).size<=N.sizes ks:=λhlt=>by
     have:ks=ks.take j++ks[j]::ks.drop (j+1):=by rw[Q46];simp
     have e:N.sizes ks=N.sizes (ks.take j)+(ks[j].size+N.sizes (ks.drop (j+1))):=by conv=>lhs;rw[this,N.sizes_app,N.sizes_cons]
     omega
    have hend:j=ks.length->V6 G 0 (ks.take j) S0=V6 G 0 ks S0:=λe=>by rw[e,Q2f (Q14 _)]
    obtain⟨g1,g2⟩:=hgr;generalize V6 G 0 (ks.take j) S0=S1 at g1 g2 hstep hend⊢;simp[f6,f1,e0,-getElem?_pos];refine Qh (λhd=>?_) (λhd=>?_)
    .have hlt:j<ks.length:=by simp at hd;omega
     have hr:=Qt N.enc hlt;have hst:=hstep hlt;have hz1:=hsz hlt;generalize ks[j]=x at hr hst hz1;obtain⟨k2,f2',t2',w2,a2,z2,ks2⟩:=x;rw[N.enc_mk]at hr;rw[N.size_mk]at hz1;have gc:=hF.closed' (ks:=ks2) (z:=z2) (λp _=>hF.node' p) (Qtn (F:=F) (S:=S1) (bx:=bx) (H:=H)) (j:Int) G (t4.mono g1) false (by omega) (by omega);simp only[Qtm]at gc;have nxt:∀(S':SM)(fr2:Fr),fr2 1=.ptr H.length 0->fr2 2=.ptr (H.length+1) 0->fr2 3=.ptr (H.length+5) 0->fr2 6=YI j->fr2 4=nms G->V6 G 0 (ks.take (j+1)) S0=S'->
      Qm8 (λj fr H'=>fr 1=.ptr H.length 0/\fr 2=.ptr (H.length+1) 0/\fr 3=.ptr (H.length+5) 0/\fr 4=nms G/\H'=H++rY F H.length bx (V6 G 0 (ks.take j) S0)) .mk (H.length+6) ks.length 6 57 58 j fr2 (H++rY F H.length bx S'):=λS' fr2 u1 u2 u3 u6 u4 hs=>by
      refine Wp (H.length+6) (Q14 _) hlt (by simp[lY,u6]) ?_;refine⟨by simp[u1],by simp[u2],by simp[u3],by simp[u4,Zc,-A.clr],?_⟩;rw[hs];exact hc0 _
     by_cases h3:k2=3
     .subst h3;rw[if_pos (show(N.mk 3 f2' t2' w2 a2 z2 ks2).k=3 from rfl)]at hst;simp[f6,f1,f3,f4,e0,hr,-getElem?_pos];refine Qa gc ?_;simp;exact nxt _ _ (by simp[f1]) (by simp[f2]) (by simp[f3]) (by simp[f6]) (by simp[f4]) hst
     .rw[if_neg (show¬(N.mk k2 f2' t2' w2 a2 z2 ks2).k=3 from h3)]at hst;simp[f6,f1,f3,f4,e0,hr,h3,-getElem?_pos];exact nxt _ _ (by simp[f1]) (by simp[f2]) (by simp[f3]) (by simp[f6]) (by simp[f4]) hst
    .have hjj:j=ks.length:=by simp at hd;omega
     have he:=hend hjj;simp;refine⟨f2,f3,?_⟩;rw[<-he]
  .rintro fr H' ⟨f2,f3,rfl⟩;have hgD:=(Qen G ks 0 S0 t4).2;generalize V6 G 0 ks S0=S at hgD⊢;have ht:=tail S (by omega) fr f2 f3;simpa using ht
end
end
section
end
def Qnl:∀(s:Bs),Vf s=match s with
 |[]=>[]
 |[b]=>if b∈([40,41,123,125,44,59,58,46,61,43,45,42,60]:List UInt8)then[b]else[]
 |b::c::_=>if b=61/\c=61 then[61,61]else if b∈([40,41,123,125,44,59,58,46,61,43,45,42,60]:List UInt8)then[b]else[]:=by
 intro s;match s with
 |[]=>rfl
 |[b]=>
  simp only[Vf,Vu,List.find?,List.isPrefixOf];by_cases h:b∈([40,41,123,125,44,59,58,46,61,43,45,42,60]:List UInt8)
  .simp only[Q2v,Q4l,or_false]at h;rcases h with rfl|rfl|rfl|rfl|rfl|rfl|rfl|rfl|rfl|rfl|rfl|rfl|rfl<;>rfl
  .simp only[Q2v,Q4l,or_false,not_or]at h;obtain⟨h1,h2,h3,h4,h5,h6,h7,h8,h9,h10,h11,h12,h13⟩:=h;have g:∀x:UInt8,b≠x->(x==b)=false:=λx h=>by simpa using Ne.symm h
   simp[g _ h1,g _ h2,g _ h3,g _ h4,g _ h5,g _ h6,g _ h7,g _ h8,g _ h9,g _ h10,g _ h11,g _ h12,g _ h13,h1,h2,h3,h4,h5,h6,h7,h8,h9,h10,h11,h12,h13]
 |b::c::r=>
  simp only[Vf,Vu,List.find?,List.isPrefixOf];by_cases h:b∈([40,41,123,125,44,59,58,46,61,43,45,42,60]:List UInt8)
  .by_cases hc:c=61
   .subst hc;simp only[Q2v,Q4l,or_false]at h;rcases h with rfl|rfl|rfl|rfl|rfl|rfl|rfl|rfl|rfl|rfl|rfl|rfl|rfl<;>rfl
   .have gc:((61:UInt8)==c)=false:=by simpa using Ne.symm hc
    simp only[Q2v,Q4l,or_false]at h;rcases h with rfl|rfl|rfl|rfl|rfl|rfl|rfl|rfl|rfl|rfl|rfl|rfl|rfl<;>simp[gc,hc]
  .simp only[Q2v,Q4l,or_false,not_or]at h;obtain⟨h1,h2,h3,h4,h5,h6,h7,h8,h9,h10,h11,h12,h13⟩:=h;have g:∀x:UInt8,b≠x->(x==b)=false:=λx h=>by simpa using Ne.symm h
   simp[g _ h1,g _ h2,g _ h3,g _ h4,g _ h5,g _ h6,g _ h7,g _ h8,g _ h9,g _ h10,g _ h11,g _ h12,g _ h13,h1,h2,h3,h4,h5,h6,h7,h8,h9,h10,h11,h12,h13]
def Qys(b:UInt8):Vf [b]=if b∈([40,41,123,125,44,59,58,46,61,43,45,42,60]:List UInt8)then[b]else[]:=Qnl [b]
def Qpx(b c:UInt8)(r:Bs):Vf (b::c::r)=if b=61/\c=61 then[61,61]else if b∈([40,41,123,125,44,59,58,46,61,43,45,42,60]:List UInt8)then[b]else[]:=Qnl (b::c::r)
def Qum(b:UInt8)(r:Bs):tokN (b::r)=if Wh b then
 if(b::r).take (runN wordB (b::r))∈Yu then(0,2,runN wordB (b::r))else if 40<runN wordB (b::r)then(26,0,0)else(0,1,runN wordB (b::r))
 else if Wc b then
 if Qct ((b::r).take (runN wordB (b::r)))then(0,3,runN wordB (b::r))else(23,0,0)
 else if b=34 then
 if(strV (b::r)).2=0 then(0,4,(strV (b::r)).1.length)else(22,0,0)
 else if Vf (b::r)=[]then(21,0,0)else(0,5,(Vf (b::r)).length):=rfl
section
section
variable{L:List Tk}
end
section
variable{L L':List Tk}{d b lo c:Nat}
end
end
section
section
variable{L L':List Tk}{d b:Nat}
end
end
section
section
variable{L L':List Tk}{d b:Nat}
end
end
def Qp8(L:List Tk):(Q5 L).1.size<=1+4*L.length:=by
 have hn:N.none.size=1:=N.size_none;unfold Q5;split
 .simp only;omega
 .cases hF:Qaz L with
  |out=>simp only;omega
  |bad q=>simp only;omega
  |ok m j=>
   simp only;split
   .simp only;omega
   .have hsz:=Qky (L:=L) (16*L.length+8) (.file []) 0 trivial;rw[show pp L (16*L.length+8) (.file []) 0=.ok m j from hF]at hsz;simp only[Sz,G.k1,G.sz,N.sizes_nil]at hsz;have hadv:=Yg (L:=L) (16*L.length+8) (.file []) 0;rw[show pp L (16*L.length+8) (.file []) 0=.ok m j from hF]at hadv;obtain⟨v1,-,v3⟩:=hadv;simp only;omega
def Qbi(s:Bs):(Qx s).2.1.size<=16001:=by
 unfold Qx;split
 .simp only[N.size_none];omega
 .rename_i h;split
  .simp only[N.size_none];omega
  .have:=Qp8 (lexS s).1;have:=(Qje (s:=s) (by simpa using h)).2.2.2.2;simp only;omega
section
open Go.Proofs
structure Un where
 n:Bs
 t:Bs
 tk:List Tk
 tr:N
 sm:SM
 bad:Int
 pos:Int
def Un.enc(u:Un):List D:=[.str u.n,.str u.t,.sl true 4 (u.tk.map Qp)]++u.tr.enc++u.sm.enc++[.int .i64 u.bad,.int .i64 u.pos]
def Un.encR(u:Un):List D:=[.str u.n,.str u.t,.sl true 4 (u.tk.map Qp)]++u.tr.enc++u.sm.encR++[.int .i64 u.bad,.int .i64 u.pos]
def Un.enc_len(u:Un):u.enc.length=14:=by obtain⟨n,t,tk,⟨k,f,to,w,a,z,ks⟩,sm,b,p⟩:=u;simp[Un.enc,N.enc_mk,SM.enc]
def Wk(m:Mod):Un:=⟨m.n,m.t,(Qx m.t).1,(Qx m.t).2.1,if(Qx m.t).2.2.1=0 then V2 (Qx m.t).2.1 else⟨[],[],[]⟩,(Qx m.t).2.2.1,(Qx m.t).2.2.2⟩
section
variable{P:Program}{H0:Hp}
def Qz7(P:Program)(H0:Hp)(f:Nat):Prop:=∀(s:Bs),s.length<=1048576->∀H,Pre0 H0 H->
 Qc P f [YS s] H (λr H'=>r=.tup [YL true 4 ((Qx s).1.map Qp),(Qx s).2.1.v,YI (Qx s).2.2.1,YI (Qx s).2.2.2]/\H'=H)
def SofOk(P:Program)(f:Nat):Prop:=∀(n:N),n.size<=68719476736->∀H,Qc P f [n.v] H (λr H'=>r=.agg ((V2 n).enc.map .d)/\H'=H)
def Q1q(P:Program)(f:Nat):Prop:=∀(n:N),n.size<=68719476736->∀H,Qc P f [n.v] H (λr H'=>r=.agg ((V2 n).encR.map .d)/\H'=H)
def Has.pjRead{f pof sof tM tU:Nat}(h:Has P f (Qmj pof sof tM tU))(hp:Qz7 P H0 pof)(hs:SofOk P sof)(m:Mod)(hm:m.t.length<=1048576)(H:Hp)(hH:Pre0 H0 H):
 Qc P f [.agg [YS m.n,YS m.t]] H (λr H'=>r=.agg ((Wk m).enc.map .d)/\H'=H):=by
 refine Qe h (by simp[Qmj]) λO _=>?_;have g1:=λX=>hp m.t hm (H++X) (hH.app X);have g2:=λX=>hs (Qx m.t).2.1 (Q3d (Qbi m.t) (by decide)) (H++X);unfold Wk;obtain⟨n,t⟩:=m;simp only at g1 g2⊢;generalize Qx t=p at g1 g2⊢;obtain⟨tk,tr,bad,pos⟩:=p;simp only at g1 g2⊢;generalize V2 tr=S at g2⊢;obtain⟨bs,ms,bd⟩:=S;obtain⟨k,fr,to,w,a,z,ks⟩:=tr;simp only[N.v_mk,N.enc_mk,SM.enc,Q2w,Q25]at g1 g2;simp[Qmj];refine Qa (g1 _) ?_;simp;by_cases hb:bad=0
 .subst hb;simp;refine Qa (g2 _) ?_;simp;simp[RetK,Qd O,Un.enc,SM.enc,N.enc_mk]
 .simp[hb];simp[RetK,Qd O,Un.enc,SM.enc,N.enc_mk,hb]
def Has.pjRread{f rof sofR tM tR:Nat}(h:Has P f (Qjl rof sofR tM tR))(hp:Qz7 P H0 rof)(hs:Q1q P sofR)(m:Mod)(hm:m.t.length<=1048576)(H:Hp)(hH:Pre0 H0 H):
 Qc P f [.agg [YS m.n,YS m.t]] H (λr H'=>r=.agg ((Wk m).encR.map .d)/\H'=H):=by
 refine Qe h (by simp[Qjl]) λO _=>?_;have g1:=λX=>hp m.t hm (H++X) (hH.app X);have g2:=λX=>hs (Qx m.t).2.1 (Q3d (Qbi m.t) (by decide)) (H++X);unfold Wk;obtain⟨n,t⟩:=m;simp only at g1 g2⊢;generalize Qx t=p at g1 g2⊢;obtain⟨tk,tr,bad,pos⟩:=p;simp only at g1 g2⊢;generalize V2 tr=S at g2⊢;obtain⟨bs,ms,bd⟩:=S;obtain⟨k,fr,to,w,a,z,ks⟩:=tr;simp only[N.v_mk,N.enc_mk,SM.encR,Q2w,Q25]at g1 g2;simp[Qjl];refine Qa (g1 _) ?_;simp;by_cases hb:bad=0
 .subst hb;simp;refine Qa (g2 _) ?_;simp;simp[RetK,Qd O,Un.encR,SM.encR,N.enc_mk]
 .simp[hb];simp[RetK,Qd O,Un.encR,SM.encR,N.enc_mk,hb]
end
end
section
open Go.Proofs
def cU(a b:Un):Int:=Q7 a.n b.n
def V8:Cmp cU:=Qa7.on Un.n
def Un.enc_eq(u:Un):∃l,l.length=13/\u.enc=.str u.n::l:=⟨_,by have:=u.enc_len;obtain⟨n,t,tk,⟨k,f,to,w,a,z,ks⟩,sm,b,p⟩:=u;simp[Un.enc,N.enc_mk,SM.enc],rfl⟩
def list13{α:Type}:∀{l:List α},l.length=13->∃a b c d e f g h i j k m n,l=[a,b,c,d,e,f,g,h,i,j,k,m,n]
 |[a,b,c,d,e,f,g,h,i,j,k,m,n],_=>⟨a,b,c,d,e,f,g,h,i,j,k,m,n,rfl⟩
def Un.ld(u:Un)(H:Hp):ldA H 14 (.eptr u.enc)=some (rowE Un.enc u):=by obtain⟨l,hl,hu⟩:=u.enc_eq;obtain⟨a,b,c,d,e,f',g,h,i,j,k,m',n',rfl⟩:=list13 hl;simp[ldA,rowE,hu,cutL]
def Has.pjCmpU{f cmpS nan tU:Nat}(h:Has P f (Qh8 cmpS tU))(hs:Has P cmpS (V5 nan))(hn:Has P nan Qap)(u v:Un)(H:Hp):
 Qc P f [.agg (rowE Un.enc u),.agg (rowE Un.enc v)] H (λr H'=>r=YI (cU u v)/\H'=H):=by
 obtain⟨fn,hf,hcf⟩:=h;obtain⟨l,hl,hu⟩:=u.enc_eq;obtain⟨m,hm,hv⟩:=v.enc_eq;obtain⟨a,b,c,d,e,f',g,h,i,j,k,m',n',rfl⟩:=list13 hl;obtain⟨a',b',c',d',e',f'',g',h',i',j',k',m'',n'',rfl⟩:=list13 hm;refine Qy hf hcf (by simp[Qh8]) λO _=>?_;simp[Qh8,rowE,hu,hv];refine Qa (Qd0 hs.choose_spec.1 hs.choose_spec.2 hn.choose_spec.1 hn.choose_spec.2 _ _) ?_;simp[RetK,Qd O,cU]
def Has.pjCmpUS{f cmpS nan tU:Nat}(h:Has P f (Qdr cmpS tU))(hs:Has P cmpS (V5 nan))(hn:Has P nan Qap)(u:Un)(s:Bs)(H:Hp):
 Qc P f [.agg (rowE Un.enc u),YS s] H (λr H'=>r=YI (Q7 u.n s)/\H'=H):=by
 obtain⟨fn,hf,hcf⟩:=h;obtain⟨l,hl,hu⟩:=u.enc_eq;obtain⟨a,b,c,d,e,f',g,h,i,j,k,m',n',rfl⟩:=list13 hl;refine Qy hf hcf (by simp[Qdr]) λO _=>?_;simp[Qdr,rowE,hu];refine Qa (Qd0 hs.choose_spec.1 hs.choose_spec.2 hn.choose_spec.1 hn.choose_spec.2 _ _) ?_;simp[RetK,Qd O]
def lbU(S:List Un)(s:Bs):Nat:=(S.takeWhile λu=>decide (Q7 u.n s<0)).length
def Q1b{S:List Un}{s:Bs}{k:Nat}(h1:k<=S.length)(h2:∀j u,j<k->S[j]?=some u->Q7 u.n s<0)(h3:∀u,S[k]?=some u->¬Q7 u.n s<0):lbU S s=k:=by
 unfold lbU;induction S generalizing k with
 |nil=>simp at h1;simp[h1]
 |cons x S ih=>
  cases k with
  |zero=>have:=h3 x rfl;simp[this]
  |succ k=>have h:=h2 0 x (by omega) rfl;rw[Q6k,if_pos (by simpa using h),Q2i];rw[ih (by simpa using h1) (λj u hj hu=>h2 (j+1) u (by omega) (by simpa using hu)) (λu hu=>h3 u (by simpa using hu))]
def Has.pjBins{f g:Nat}(h:Has P f Qh9)(S:List Un)(z:Bool)(s:Bs)(hl:S.length<=1048576)(hso:∀(i j:Nat) (u v:Un),i<=j->S[i]?=some u->S[j]?=some v->Q7 v.n s<0->Q7 u.n s<0)(hg:Wd P g=true)(hc:∀(u:Un) (H:Hp),Qc P g [.agg (rowE Un.enc u),YS s] H (λr H'=>r=YI (Q7 u.n s)/\H'=H))(H:Hp):
 Qc P f [YL z 14 (S.map Un.enc),YS s,.d (.fn g)] H (λr H'=>r=.tup [YI (lbU S s),YB (match S[lbU S s]? with|some u=>decide (Q7 u.n s=0)|none=>false)]/\H'=H):=by
 refine Qe h (by simp[Qh9]) λO _=>?_;simp[Qh9];refine Qz 0 (λfr H'=>fr 0=YL z 14 (S.map Un.enc)/\fr 1=YS s/\fr 2=.d (.fn g)/\fr 8=YI S.length/\fr 9=YI (lbU S s:Nat)/\H'=H) ?_ ?_
 .refine Wy H.length (λfr H'=>∃lo hi:Nat,lo<=hi/\hi<=S.length/\(∀j u,j<lo->S[j]?=some u->Q7 u.n s<0)/\(∀j u,hi<=j->S[j]?=some u->¬Q7 u.n s<0)/\
   fr 0=YL z 14 (S.map Un.enc)/\fr 1=YS s/\fr 2=.d (.fn g)/\fr 8=YI S.length/\fr 9=YI lo/\fr 10=YI hi/\H'=H)
   (λfr H'=>match fr 9,fr 10 with|.d (.int _ k),.d (.int _ l)=>(l-k).toNat|_,_=>0) (by simp) ?_ ?_
  .refine⟨0,S.length,by omega,by omega,λj u hj=>by omega,λj u hj hu=>absurd (Q11.1 hu).1 (by omega),?_⟩;simp[Qb O]
  rintro fr H' ⟨lo,hi,e1,e2,eA,eB,f0,f1,f2,f8,f9,f10,hH'⟩;rw[hH'];simp[f9,f10];refine Qh (λh4=>?_) (λh4=>?_)
  .have h4:lo<hi:=by simp at h4;omega
   have v1:IntKind.i64.wrap ((lo:Int)+hi)=lo+hi:=wi64 (by omega);have v2:=Qir (n:=(lo:Int)+hi) (by omega) (by omega);generalize hk:(lo+hi)/2=k;have hk2:((lo:Int)+hi)/2=k:=by omega
   rw[hk2]at v2;have v4:IntKind.i64.wrap ((k:Int)+1)=k+1:=wi64 (by omega);obtain⟨u,hu⟩:∃u,S[k]?=some u:=⟨_,Q12 (by omega)⟩;have hr:Zam.rowAt (S.map Un.enc) (k:Int)=some u.enc:=by simp[Zam.rowAt,hu]
   simp[f0,f1,f2,f9,f10,v1,Qhn,v2,hr,u.ld,hg,-ldA];refine Qa (hc u _) ?_;simp;refine Qh (λh5=>?_) (λh5=>?_)
   .have h5:Q7 u.n s<0:=by simpa using h5
    simp[v4];refine Wf (m:=H.length) (by simp) ⟨k+1,hi,by omega,by omega,?_,eB,?_⟩ ?_
    .intro j x hj hx;exact hso j k x u (by omega) hx hu h5
    .simp[f0,f1,f2,f8,f9,f10,Qb O]
    .simp[f9,f10];omega
   .have h5:¬Q7 u.n s<0:=by simpa using h5
    simp;refine Wf (m:=H.length) (by simp) ⟨lo,k,by omega,by omega,eA,?_,?_⟩ ?_
    .intro j x hj hx h6;exact h5 (hso k j u x hj hu hx h6)
    .simp[f0,f1,f2,f8,f9,f10,Qb O]
    .simp[f9,f10];omega
  .have:lo=hi:=by simp at h4;omega
   subst this;simp[f0,f1,f2,f8,f9];rw[Q1b (by omega) eA (λu hu=>eB lo u (Q14 _) hu)]
 .rintro fr H' ⟨f0,f1,f2,f8,f9,rfl⟩;have hle:lbU S s<=S.length:=(List.takeWhile_prefix _).length_le;simp[f0,f1,f2,f8,f9];refine Qj0 (by simp) (λh=>?_) (λh=>?_)
  .have hlt:lbU S s<S.length:=by simpa using h
   have hu:S[lbU S s]?=some S[lbU S s]:=Q12 hlt;generalize S[lbU S s]=u at hu;have hr:Zam.rowAt (S.map Un.enc) ((lbU S s:Nat):Int)=some u.enc:=by simp[Zam.rowAt,hu]
   simp[f0,f1,f2,f8,f9,hr,u.ld,hg,hlt,-ldA];refine Qa (hc u _) ?_;simp;simp[RetK,Qb O,hu]
  .have hlt:¬lbU S s<S.length:=by simpa using h
   have hn:S[lbU S s]?=none:=by simp;omega
   simp[h];simp[RetK,Qb O];rw[hn]
end
section
open Go.RowKit (Below)
open Go.Proofs Go.Sort
def Qkk(w:World)(n:Nat):Below w.heap.size w (Go.Sort.ahead w n):=⟨rfl,rfl,rfl,Q14 _,λ_ _=>rfl⟩
def Qm2(w:World)(os:Array Obj):Below w.heap.size w (grow w os):=⟨rfl,rfl,rfl,by simp[grow],λk hk=>by simp[grow,Q3o hk]⟩
end
section
open Go.RowKit (Below)
open Go.Proofs Go.Sort
end
end Go.Zam
namespace Go.Zam
abbrev Str':=List UInt8
namespace Ty
end Ty
end Go.Zam
namespace Go.Zam
open Classical
namespace Ty
end Ty
end Go.Zam
namespace Go.Zam
open Classical
namespace Ty
end Ty
end Go.Zam
namespace Go.Zam
open Classical
namespace Ty
end Ty
end Go.Zam
namespace Go.Zam
variable{P:Program}
section
open Classical
end
section
open Classical
end
section
open Go.RowKit (Below)
open Go.Proofs Go.Sort
end
section
open Go.Proofs
end
section
open Classical
end
section
open Classical
end
section
section
variable{P:Program}{F:PF}
end
end
section
open Classical
end
section
open Go.Proofs
open Classical
section
variable{L:List Tk}{b:Nat}
end
end
section
open Classical
end
section
open Classical
end
section
open Classical
section
variable{P:Program}{bt:Nat}
end
end
section
open Classical
section
variable{P:Program}{t:Nat}
end
end
end Go.Zam
namespace Go.Zam
open Classical
namespace Ty
end Ty
section
variable{P:Program}{t:Nat}{H0:Hp}
end
end Go.Zam
namespace Go.Zam
variable{P:Program}
section
open Classical
section
variable{P:Program}{t:Nat}{H0:Hp}
end
end
section
open Classical
section
variable{c:Bool}{k k':Int}{z z' y y':Bool}{ns ns':List Str'}{ps ps':List T}
end
end
section
open Classical
section
variable{P:Program}{t tS:TypeId}
end
end
section
open Classical
section
variable{P:Program}{t:Nat}{H0:Hp}
end
end
section
open Classical
end
section
open Classical
end
section
open Go.Proofs
def pA(S:List Un):A:=.eptr [.sl S.isEmpty 14 (S.map Un.enc)]
def zU:List D:=[.str [],.str [],.sl true 4 [],.int .i64 0,.int .i64 0,.int .i64 0,.str [],.int .i64 0,.sl true 6 [],.sl true 4 [],.sl true 4 [],.sl true 2 [],.int .i64 0,.int .i64 0]
def Vo(S:List Un)(s:Bs):Option Un:=match S[lbU S s]? with
 |some u=>if Q7 u.n s=0 then some u else none
 |none=>none
def Qpo{H X:Hp}(R:List (List D))(j:Nat){b sz e:Nat}(r:List D)(hj:j<R.length)(hb:(R.length+1)*b<=140737488355328):
 appA (H++(.tok j sz e::X)) sz b e [r] (.osl true sz (R.take j) H.length)=some (.osl true sz (R.take j++[r]) H.length,H++(.tok (j+1) sz e::X)):=by
 have hl:(R.take j).length=j:=by simp;omega
 have:=Qiy (H:=H++(.tok j sz e::X)) (t:=H.length) (sz:=sz) (b:=b) (e:=e) (z:=true) (rows:=R.take j) (new:=[r]) (by simp[hl]) (by rw[hl];simp only[Q3v];exact Q3d (Q2z _ (by omega)) hb);rw[this,hl];simp
def Has.pjUnit{f bins cmpUS cmpS nan tU:Nat}(h:Has P f (Qfl bins cmpUS tU))(hb:Has P bins Qh9)(hc:Has P cmpUS (Qdr cmpS tU))(hk:Wd P cmpUS=true)(hs:Has P cmpS (V5 nan))(hn:Has P nan Qap)(S:List Un)(s:Bs)(hl:S.length<=1048576)(hso:∀(i j:Nat) (u v:Un),i<=j->S[i]?=some u->S[j]?=some v->Q7 v.n s<0->Q7 u.n s<0)(H:Hp):
 Qc P f [pA S,YS s] H (λr H'=>r=.tup [.agg (((Vo S s).elim zU Un.enc).map .d),YB (Vo S s).isSome]/\H'=H):=by
 refine Qe h (by simp[Qfl]) λO _=>?_;have g:=λX=>Has.pjBins hb S S.isEmpty s hl hso hk (λu H=>Has.pjCmpUS hc hs hn u s H) (H++X);unfold Vo;simp[Qfl,pA];refine Qa (g _) ?_;cases hu:S[lbU S s]? with
 |none=>simp;simp[RetK,Qd O,zU]
 |some u=>
  by_cases h0:Q7 u.n s=0
  .have hr:Zam.rowAt (S.map Un.enc) ((lbU S s:Nat):Int)=some u.enc:=by simp[Zam.rowAt,hu]
   obtain⟨l,hl,he⟩:=u.enc_eq;obtain⟨a,b,c,d,e,f',g,h,i,j,k,m',n',rfl⟩:=list13 hl;simp[h0,hr,he];simp[RetK,Qd O,h0,he]
  .simp[h0];simp[RetK,Qd O,zU,h0]
def Has.pjNames{f tU tS:Nat}(h:HasT P [3] f (Qgf tU tS))(S:List Un)(hl:S.length<=1048576)(H:Hp):
 Qc P f [pA S] H (λr H'=>r=YL true 1 (S.map λu=>[.str u.n])/\H'=H):=by
 refine Qe h (by simp[Qgf]) λO _=>?_;simp[Qgf,pA];refine Qz 0 (λfr H'=>fr 3=.osl true 1 (S.map λu=>[.str u.n]) H.length/\H'=H++[.tok S.length 1 tS]) ?_ ?_
 .refine Q8 (H.length+1) S.length (λj fr H'=>fr 11=YL S.isEmpty 14 (S.map Un.enc)/\fr 3=.osl true 1 ((S.map λu=>[D.str u.n]).take j) H.length/\H'=H++[.tok j 1 tS]) (by omega) (by decide) (by simp) (by simp) ?_ ?_ ?_
  .simp[Qi O]
  .rintro j fr H' hj fi fn ⟨f11,f3,rfl⟩;obtain⟨u,hu⟩:∃u,S[j]?=some u:=⟨_,Q12 hj⟩;have hr:Zam.rowAt (S.map Un.enc) (j:Int)=some u.enc:=by simp[Zam.rowAt,hu]
   obtain⟨l,hl',he⟩:=u.enc_eq;obtain⟨a,b,c,d,e,f',g,h,i,j',k,m',n',rfl⟩:=list13 hl';have ht:(S.map λu=>[D.str u.n]).take (j+1)=(S.map λu=>[D.str u.n]).take j++[[.str u.n]]:=by rw[Q39,Q2d,hu];rfl
   have happ:=λX=>Qpo (H:=H) (X:=X) (S.map λu=>[D.str u.n]) j (b:=16) (sz:=1) (e:=tS) [.str u.n] (by simpa using hj) (by simp;omega);simp[fi,f11,hr,he,f3,happ];refine Q3 (H.length+1) (Q14 _) (by simp[fi,fn]) ?_;simp[f11,Qi O,ht]
  .rintro fr H' fi fn ⟨f11,f3,rfl⟩;simp;rw[f3,Q2f (by simp)]
 .rintro fr H' ⟨f3,rfl⟩;simp[f3];simp[RetK,Qd O]
end
section
open Go.Proofs
def chkU:Option Bs->List Un->Int
 |_,[]=>0
 |p,u::r=>if Yz u.n=false then 1 else if p=some u.n then 4 else chkU (some u.n) r
def pvU(S:List Un)(j:Nat):Option Bs:=match j with
 |0=>none
 |j+1=>(S[j]?).map Un.n
structure SortU(P:Program)(clone srt stb ins sym rot swp cU cmpS nan tU:Nat):Prop where
 clone:HasT P [1000005] clone (Qch 14 216 tU)
 srt:Has P srt (Vs stb)
 stb:Has P stb (Qao ins sym)
 ins:Has P ins (Vg 14)
 sym:Has P sym (Zn 14 rot sym)
 rot:Has P rot (Z2 swp)
 swp:Has P swp (Y4 14)
 cmpU:Has P cU (Qh8 cmpS tU)
 kCmpU:Wd P cU=true
 cmpS:Has P cmpS (V5 nan)
 nan:Has P nan Qap
def Qw5{f clone srt stb ins sym rot swp cmpU cmpS nan tU isName tP:Nat}(hC:SortU P clone srt stb ins sym rot swp cmpU cmpS nan tU)(h:Has P f (Qfm clone srt isName cmpU tP tU))(hN:∀s H,Qc P isName [YS s] H (λr H'=>r=YB (Yz s)/\H'=H)){H:Hp}(l:List Un)(hl0:l≠[])(hl:l.length<=8)(z:Bool)(k:Nat)(K:A->Hp->Prop)(hok:H.Closed->chkU none (ssort cU l)=0->RetK K .mk (H.length+k) (some (.tup [.ptr (H.length+2) 0,YI 0])) (H++[.arr 14 [],arrE Un.enc 14 (ssort cU l),.box tP [.msl (H.length+1) 0 l.length]]))(herr:∀e X,H.Closed->chkU none (ssort cU l)=e->e≠0->RetK K .mk (H.length+k) (some (.tup [.d .nilp,YI e])) (H++X)):
 Qc P f [YL z 14 (l.map Un.enc)] H K:=by
 have hlen:=Ww V8 l;refine Zu k h.choose_spec.1 h.choose_spec.2 (by simp[Qfm]) λO _=>?_;have h8:¬(8:Int)<l.length:=by omega
 simp[Qfm,h8];refine Qa (Qo9 hC.clone.choose_spec.1 hC.clone.choose_spec.2 (rows:=l.map Un.enc) (by simpa using hl0) (by simp;omega)) ?_;simp;have hss:∀X,Qc P srt [.msl (H.length+1) 0 l.length,.d (.fn cmpU)] (H++[.arr 14 [],arrE Un.enc 14 l]++X) (λr' H'=>r'=.tup []/\H'=H++[.arr 14 [],arrE Un.enc 14 (ssort cU l)]++X):=λX=>by
  have:=Qda Un.enc_len V8 hC.srt.choose_spec.1 hC.srt.choose_spec.2 hC.stb.choose_spec.1 hC.stb.choose_spec.2 hC.ins.choose_spec.1 hC.ins.choose_spec.2 hC.sym.choose_spec.1 hC.sym.choose_spec.2 hC.rot.choose_spec.1 hC.rot.choose_spec.2 hC.swp.choose_spec.1 hC.swp.choose_spec.2
   (g:=.d (.fn cmpU)) (λH x y Q t hq=>by simp only[Qx5];exact⟨hC.kCmpU,Vj (Has.pjCmpU hC.cmpU hC.cmpS hC.nan x y H) hq⟩) (H:=H++[.arr 14 [],arrE Un.enc 14 l]++X) (i:=H.length+1) (L:=l) (λm _=>by simp) (by simp) (by omega)
  refine this.mono ?_;rintro r H' ⟨rfl,rfl⟩;exact⟨rfl,by simp⟩
 have hss1:=hss [.box tP [.msl (H.length+1) 0 l.length]];rw[show arrE Un.enc 14 l=.arr 14 ((l.map Un.enc).map (List.map .d)) by simp[arrE,rowE]]at hss1;simp at hss1;refine Qa hss1 ?_;clear hss1 hss;generalize hS:ssort cU l=S at*;rw[<-hlen];rw[<-hlen]at hok;have hS8:S.length<=8:=by omega
 have hi:∀X:Hp,(H++.arr 14 []::arrE Un.enc 14 S::X)[H.length+1]?=some (arrE Un.enc 14 S):=λX=>by simp
 simp;refine Qm 0 (λfr H'=>fr 4=.ptr (H.length+2) 0/\chkU none S=0/\H'=H++[.arr 14 [],arrE Un.enc 14 S,.box tP [.msl (H.length+1) 0 S.length]])
  (λfr H'=>∃e X,chkU none S=e/\e≠0/\fr 2=.d .nilp/\fr 3=YI e/\H'=H++X) ?_ ?_ ?_
 .refine Q8 (H.length+3) S.length (λj fr H'=>fr 4=.ptr (H.length+2) 0/\fr 22=.msl (H.length+1) 0 S.length/\chkU none S=chkU (pvU S j) (S.drop j)/\H'=H++[.arr 14 [],arrE Un.enc 14 S,.box tP [.msl (H.length+1) 0 S.length]]) (by omega) (by decide) (by simp) (by simp) ?_ ?_ ?_
  .simp[Qi O,Wn,pvU,-Ob.clr];exact⟨by simp,by simp⟩
  .rintro j fr H' hj fi fn ⟨f4,f22,hch,rfl⟩;obtain⟨u,hu⟩:∃u,S[j]?=some u:=⟨_,Q12 hj⟩;have hdr:S.drop j=u::S.drop (j+1):=by rw[Q2o hj];congr 1;rw[Q12 hj]at hu;cases hu;rfl
   rw[hdr]at hch;simp only[chkU]at hch;obtain⟨l13,hl',he⟩:=u.enc_eq;obtain⟨a,b,c,d,e,f',g,h,i,j',k',m',n',rfl⟩:=list13 hl';have h1:=Yt (n:=S.length) (hi [.box tP [.msl (H.length+1) 0 S.length]]) rfl hj;have h2:=Qab Un.enc_len (hi [.box tP [.msl (H.length+1) 0 S.length]]) hu;rw[rowE,he]at h2;simp only[Q2w,Q25]at h2;simp[fi,f4,f22,h1,h2,Qxj,Qwd,-W4,-ldA,-stA];refine Qa (hN _ _) ?_;simp;cases hb:Yz u.n with
   |false=>rw[if_pos hb]at hch;simp[hch]
   |true=>
    rw[if_neg (by rw[hb];decide)]at hch;have hps:pvU S (j+1)=some u.n:=by simp[pvU,hu]
    by_cases hj0:j=0
    .subst hj0;rw[if_neg (by simp[pvU])]at hch;simp;refine Q3 (H.length+3) (Q14 _) (by simp[fi,fn]) ?_;simp[f4,f22,Qi O,Wn,-Ob.clr];refine⟨by rw[hch];simp[pvU,hu],by simp,by simp⟩
    .have hjp:0<j:=by omega
     obtain⟨v,hv⟩:∃v,S[j-1]?=some v:=⟨_,Q12 (by omega)⟩;have hpv:pvU S j=some v.n:=by obtain⟨j,rfl⟩:∃i,j=i+1:=⟨j-1,by omega⟩;simp only[Nat.add_sub_cancel]at hv;simp[pvU,hv]
     rw[hpv]at hch;have hw:IntKind.i64.wrap ((j:Int)-1)=((j-1:Nat):Int):=by rw[wi64 (by omega)];omega
     have h3:=Yt (n:=S.length) (k:=j-1) (hi [.box tP [.msl (H.length+1) 0 S.length],.box tU [A.d (D.str u.n),A.d a,A.d b,A.d c,A.d d,A.d e,A.d f',A.d g,A.d h,A.d i,A.d j',A.d k',A.d m',A.d n']]) rfl (by omega);obtain⟨lv,-,hev⟩:=v.enc_eq;have h4:=Qzl (hi [.box tP [.msl (H.length+1) 0 S.length],.box tU [A.d (D.str u.n),A.d a,A.d b,A.d c,A.d d,A.d e,A.d f',A.d g,A.d h,A.d i,A.d j',A.d k',A.d m',A.d n']]) hv (j:=0) (by rw[hev];rfl);simp[f4,hjp,hw,h3,h4,Qxj,Qwd,-W4,-ldA,-stA];by_cases hvu:v.n=u.n
     .rw[if_pos (by rw[hvu])]at hch;simp[hvu,hch]
     .rw[if_neg (by simpa using hvu)]at hch;simp[hvu];refine Q3 (H.length+3) (Q14 _) (by simp[fi,fn]) ?_;simp[f4,f22,Qi O,Wn,hps,hch,-Ob.clr];exact⟨by simp,by simp⟩
  .rintro fr H' fi fn ⟨f4,f22,hch,rfl⟩;simp[f4];rw[hch,Q5k];rfl
 .rintro fr H' ⟨e,X,h1,h2,f2,f3,rfl⟩;simp[f2,f3];exact herr e X O h1 h2
 .rintro fr H' ⟨f4,h1,rfl⟩;simp[f4];exact hok O h1
def ofU(l:List Un):List Un×Int:=if 8<l.length then([],5)else(if chkU none (ssort cU l)=0 then ssort cU l else[],chkU none (ssort cU l))
def ofA(l:List Un):A:=.tup [if(ofU l).2=0 then pA (ofU l).1 else .d .nilp,YI (ofU l).2]
def Has.pjOf{f clone srt stb ins sym rot swp cmpU cmpS nan tU isName tP:Nat}(hC:SortU P clone srt stb ins sym rot swp cmpU cmpS nan tU)(h:Has P f (Qfm clone srt isName cmpU tP tU))(hN:∀s H,Qc P isName [YS s] H (λr H'=>r=YB (Yz s)/\H'=H)){H:Hp}(l:List Un)(hb:l.length<=1048576)(z:Bool)(hz:l=[]->z=true):
 Qc P f [YL z 14 (l.map Un.enc)] H (λr H'=>r=ofA l/\H'=H):=by
 by_cases h8:8<l.length
 .have ho:ofA l=.tup [.d .nilp,YI 5]:=by simp[ofA,ofU,h8]
  rw[ho];refine Qy h.choose_spec.1 h.choose_spec.2 (by simp[Qfm]) λO _=>?_;have h8':(8:Int)<l.length:=by omega
  simp[Qfm,h8'];simp[RetK,Qb O]
 by_cases h0:l=[]
 .subst h0;obtain rfl:=hz rfl;have ho:ofA []=.tup [.eptr [.sl true 14 []],YI 0]:=rfl;rw[ho];refine Qc.freezeBoxD (b:=0) (ty:=tP) (X:=[.box tP [YL true 14 []]]) rfl ?_;refine Zu 1 h.choose_spec.1 h.choose_spec.2 (by simp[Qfm]) λO _=>?_;simp[Qfm];refine Qa (Qpa hC.clone.choose_spec.1 hC.clone.choose_spec.2) ?_;simp;refine Qa (Qcp (sz:=14) hC.srt.choose_spec.1 hC.srt.choose_spec.2 hC.stb.choose_spec.1 hC.stb.choose_spec.2 hC.ins.choose_spec.1 hC.ins.choose_spec.2 (λm _=>by simp)) ?_;simp;refine Qz 0 (λfr H'=>fr 4=.ptr H.length 0/\H'=H++[.box tP [YL true 14 []]]) ?_ ?_
  .refine Q8 (H.length+1) 0 (λj fr H'=>fr 4=.ptr H.length 0/\H'=H++[.box tP [YL true 14 []]]) (by omega) (by decide) (by simp) (by simp) ?_ ?_ ?_
   .simp[Qi O]
   .rintro j fr H' hj;exact absurd hj (by omega)
   .rintro fr H' fi fn ⟨f4,rfl⟩;simp[f4]
  .rintro fr H' ⟨f4,rfl⟩;simp[f4];simp[RetK,Qi O]
 have hlen:=Ww V8 l;by_cases hc:chkU none (ssort cU l)=0
 .have hne:(ssort cU l).isEmpty=false:=by
   cases hs:ssort cU l with
   |nil=>rw[hs]at hlen;exact absurd (Q2b hlen.symm) h0
   |cons _ _=>rfl
  have ho:ofA l=.tup [.eptr [.sl false 14 ((ssort cU l).map Un.enc)],YI 0]:=by simp[ofA,ofU,h8,hc,pA,hne]
  rw[ho];refine Qc.freezeBox (i:=1) (b:=2) (ty:=tP) (X:=[.arr 14 [],arrE Un.enc 14 (ssort cU l),.box tP [.msl (H.length+1) 0 l.length]]) (by simp[arrE,rowE]) (by simp[hlen]) ?_;refine Qw5 hC h hN l h0 (by omega) z 3 _ (λO _=>?_) (λe X _ h1 h2=>absurd (h1.symm.trans hc) h2);simp[RetK,hlen,Qi O,Wn,-Ob.clr];exact⟨by simp,by simp⟩
 .have ho:ofA l=.tup [.d .nilp,YI (chkU none (ssort cU l))]:=by simp[ofA,ofU,h8,hc]
  rw[ho];refine Qw5 hC h hN l h0 (by omega) z 0 _ (λ_ h1=>absurd h1 hc) (λe X O h1 h2=>?_);subst h1;simp[RetK,Qd O]
end
end Go.Zam
namespace Go.Zam
variable{P:Program}
open Go.Proofs
namespace R2
end R2
end Go.Zam
namespace Go.Zam
variable{P:Program}
section
open Go.Proofs
end
section
open Go.Proofs
def gtS(x y:Mod):Qbg .gtr y.n x.n=some (.bool (decide (cM x y<0))):=by
 have e:(!(Op.bytesLess y.n x.n||decide (y.n=x.n)))=decide (cM x y<0):=by
  unfold cM;by_cases h:Q7 x.n y.n<0
  .have h1:=Qah.1 h;have h2:=Qri h1;have h3:y.n≠x.n:=λe=>by rw[e,Qb8]at h1;cases h1
   simp[h,h2,h3]
  .have h1:Op.bytesLess x.n y.n=false:=by
    cases hb:Op.bytesLess x.n y.n with
    |false=>rfl
    |true=>exact absurd (Qah.2 hb) h
   by_cases h3:y.n=x.n
   .have:=Qa7.refl x.n;simp[h3,this]
   .have h2:Op.bytesLess y.n x.n=true:=by
     cases hb:Op.bytesLess y.n x.n with
     |true=>rfl
     |false=>exact absurd (Qix _ _ hb h1) h3
    simp[h,h2]
 simp only[Qbg,e]
end
section
open Go.Proofs
section
variable{P:Program}{H0:Hp}
def Qx8(P:Program)(H0:Hp)(f:Nat):Prop:=∀(m:Mod),m.t.length<=1048576->∀H,Pre0 H0 H->Qc P f [.agg [YS m.n,YS m.t]] H (λr H'=>r=.agg ((Wk m).enc.map .d)/\H'=H)
def Qt9(P:Program)(H0:Hp)(f:Nat):Prop:=∀(m:Mod),m.t.length<=1048576->∀H,Pre0 H0 H->Qc P f [.agg [YS m.n,YS m.t]] H (λr H'=>r=.agg ((Wk m).encR.map .d)/\H'=H)
def HasT.pjLoad{f read of_ tM tU:Nat}(h:HasT P [4] f (Qfn read of_ tM tU))(hr:Qx8 P H0 read)(ho:∀(l:List Un) (z:Bool),l.length<=1048576->(l=[]->z=true)->∀H,Qc P of_ [YL z 14 (l.map Un.enc)] H (λr H'=>r=ofA l/\H'=H))(l:List Mod)(z:Bool)(ht:∀m∈l,m.t.length<=1048576)(H:Hp)(hH:Pre0 H0 H):
 Qc P f [YL z 2 (l.map encM)] H (λr H'=>r=ofA (l.map Wk)/\H'=H):=by
 obtain⟨fn,hf,hcf⟩:=h;by_cases h8:8<l.length
 .have hoe:ofA (l.map Wk)=.tup [.d .nilp,YI 5]:=by simp[ofA,ofU,h8]
  rw[hoe];refine Qy hf hcf (by simp[Qfn]) λO _=>?_;have h8':(8:Int)<l.length:=by omega
  simp[Qfn,h8'];simp[RetK,Qb O]
 refine Qy hf hcf (by simp[Qfn]) λO _=>?_;have h8':¬(8:Int)<l.length:=by omega
 simp[Qfn,h8'];refine Qz 0 (λfr H'=>fr 4=.osl true 14 ((l.map Wk).map Un.enc) H.length/\H'=H++[.tok l.length 14 tU]) ?_ ?_
 .refine Q8 (H.length+1) l.length (λj fr H'=>fr 10=YL z 2 (l.map encM)/\fr 4=.osl true 14 (((l.map Wk).map Un.enc).take j) H.length/\H'=H++[.tok j 14 tU]) (by omega) (by decide) (by simp) (by simp) ?_ ?_ ?_
  .simp[Qi O]
  .rintro j fr H' hj fi fn ⟨f10,f4,rfl⟩;obtain⟨m,hm⟩:∃m,l[j]?=some m:=⟨_,Q12 hj⟩;have hrow:Zam.rowAt (l.map encM) (j:Int)=some [.str m.n,.str m.t]:=by simp[Zam.rowAt,hm,encM]
   have hrd:=λX=>hr m (ht m (Q2p hm)) (H++X) (hH.app X);obtain⟨l13,hl',he⟩:=(Wk m).enc_eq;obtain⟨a,b,c,d,e,f',g,h,i,j',k',m',n',rfl⟩:=list13 hl';have ht':((l.map Wk).map Un.enc).take (j+1)=((l.map Wk).map Un.enc).take j++[(Wk m).enc]:=by rw[Q39,Q2d,Q2d,hm];rfl
   rw[he]at ht';have happ:=λX=>Qpo (H:=H) (X:=X) ((l.map Wk).map Un.enc) j (b:=216) (sz:=14) (e:=tU) [.str (Wk m).n,a,b,c,d,e,f',g,h,i,j',k',m',n'] (by simpa using hj) (by simp;omega);generalize(l.map Wk).map Un.enc=R at*;simp[fi,f10,f4,hrow];refine Qa (hrd _) ?_;simp[he,f4,happ];refine Q3 (H.length+1) (Q14 _) (by simp[fi,fn]) ?_;simp[f10,Qi O,ht']
  .rintro fr H' fi fn ⟨f10,f4,rfl⟩;simp;rw[f4,Q2f (by simp),Q5c]
 .rintro fr H' ⟨f4,rfl⟩;simp[f4];have hof:=ho (l.map Wk) true (by simp;omega) (λ_=>rfl) (H++[.tok l.length 14 tU]);rw[Q5c]at hof;refine Qa (Qc.osl1 hof) ?_;unfold ofA;by_cases hz:(ofU (l.map Wk)).2=0
  .simp only[if_pos hz,pA];simp;simp[RetK,Qd O]
  .simp only[if_neg hz];simp;simp[RetK,Qd O]
end
end
section
open Go.Proofs
def Un.encR_eq(u:Un):∃l,l.length=13/\u.encR=.str u.n::l:=⟨_,by obtain⟨n,t,tk,⟨k,f,to,w,a,z,ks⟩,sm,b,p⟩:=u;simp[Un.encR,N.enc_mk,SM.encR],rfl⟩
section
variable{P:Program}{H0:Hp}
def ofR(l:List Un):A:=.tup [YL true 14 ((ofU l).1.map Un.encR),YI (ofU l).2]
def HasT.pjRload{f rread risName tR:Nat}(h:HasT P [7,4] f (Qdq rread risName tR))(hrr:Qt9 P H0 rread)(hN:∀s H,Qc P risName [YS s] H (λr H'=>r=YB (Yz s)/\H'=H))(l:List Mod)(z:Bool)(ht:∀m∈l,m.t.length<=1048576)(H:Hp)(hH:Pre0 H0 H):
 Qc P f [YL z 2 (l.map encM)] H (λr H'=>r=ofR (l.map Wk)/\H'=H):=by
 obtain⟨fn,hf,hcf⟩:=h;by_cases h8:8<l.length
 .have hoe:ofR (l.map Wk)=.tup [YL true 14 [],YI 5]:=by simp[ofR,ofU,h8]
  rw[hoe];refine Qy hf hcf (by simp[Qdq]) λO _=>?_;have h8':(8:Int)<l.length:=by omega
  simp[Qdq,h8'];simp[RetK,Qb O]
 obtain⟨L,hL⟩:∃L,L=l.map Wk:=⟨_,rfl⟩;rw[<-hL];have hLl:L.length=l.length:=by rw[hL];simp
 refine Qy hf hcf (by simp[Qdq]) λO _=>?_;have h8':¬(8:Int)<l.length:=by omega
 simp[Qdq,h8'];refine Qz 0 (λfr H'=>fr 4=YL true 14 ((ssort cU L).map Un.encR)/\H'=H) ?_ ?_
 .refine Vl H.length l.length (λi fr H'=>fr 0=YL z 2 (l.map encM)/\fr 4=YL true 14 ((ssort cU (L.take i)).map Un.encR)/\H'=H) (by omega) (by decide) (by simp) (by simp) ?_ ?_
  .simp[Qd O,ssort]
  rintro i fr H' hi f5 ⟨f0,f4,rfl⟩;simp[f5,f0];refine Qh (λh=>?_) (λh=>?_)
  .have hia:i<l.length:=by simpa using h
   obtain⟨m,hm⟩:∃m,l[i]?=some m:=⟨_,Q12 hia⟩;have hr:Zam.rowAt (l.map encM) (i:Int)=some [.str m.n,.str m.t]:=by simp[Zam.rowAt,hm,encM]
   obtain⟨x,hx⟩:∃x,x=Wk m:=⟨_,rfl⟩;have hxn:x.n=m.n:=by rw[hx];rfl
   have hrd:=λX=>hrr m (ht m (Q2p hm)) (H'++X) (hH.app X);rw[<-hx]at hrd;have ht:L.take (i+1)=L.take i++[x]:=by rw[Q39,hL,Q2d,hm,hx];rfl
   have hsl:=Ww V8 (L.take i);have hso:=(Wi V8 (L.take i)).1;have hsn:∀a b,ssort cU (L.take i)=a++b->(∀y∈a,cU y x<=0)->(∀y∈b,cU x y<0)->ssort cU (L.take (i+1))=a++x::b:=λa b e ha hb=>by rw[ht,<-Qd9 V8 (by rw[<-e];exact hso) ha hb];refine Qi6 V8 ?_;refine Alk.append ?_ (Alk.refl _);rw[<-e];exact((Wi V8 (L.take i)).2).symm
   have hlt:(L.take i).length=i:=by rw[hL];simp;omega
   rw[hlt]at hsl;generalize ssort cU (L.take i)=S at f4 hsl hso hsn;have hg:∀y:Un,Qbg .gtr y.n m.n=some (.bool (decide (cU x y<0))):=λy=>by have:=gtS ⟨m.n,[]⟩ ⟨y.n,[]⟩;unfold cU;rw[hxn];exact this
   obtain⟨lx,hlx,hex⟩:=x.encR_eq;obtain⟨xa,xb,xc,xd,xe,xf,xg,xh,xi,xj,xk,xm,xn,rfl⟩:=list13 hlx;simp[f4];refine Qz 2 (λfr H2=>∃a:Nat,a<=S.length/\(∀y∈S.drop a,cU x y<0)/\(∀y∈S.take a,cU y x<=0)/\fr 0=YL z 2 (l.map encM)/\fr 4=YL true 14 (S.map Un.encR)/\fr 5=YI i/\fr 6=YI a/\H2=H') ?_ ?_
   .refine Q4 H'.length (λd fr H2=>∃a:Nat,a<d/\a<=S.length/\(∀y∈S.drop a,cU x y<0)/\fr 0=YL z 2 (l.map encM)/\fr 4=YL true 14 (S.map Un.encR)/\fr 5=YI i/\fr 6=YI a/\H2=H') (S.length+1) (by simp) ⟨S.length,by omega,Q14 _,by simp,?_⟩ ?_
    .simp[f0,f4,f5,Qb O,hsl]
    rintro d fr H2 ⟨a,hd,ha,hb,f0,f4,f5,f6,rfl⟩;simp[f6];rcases Nat.eq_zero_or_pos a with rfl|hpos
    .simp[f6];exact⟨0,by omega,by simpa using hb,by simp,by simp[f0],by simp[f4],by simp[f5],by simp[f6]⟩
    .obtain⟨b,rfl⟩:∃b,a=b+1:=⟨a-1,by omega⟩;have hbs:b<S.length:=by omega
     have hrb:=Qt Un.encR hbs;have hw:IntKind.i64.wrap ((b:Int)+1-1)=b:=by rw[wi64 (by omega)];omega
     have hw':IntKind.i64.wrap (b:Int)=b:=wi64 (by omega);have hp:(0:Int)<(b:Int)+1:=by omega
     have hgb:=hg S[b];have hsp:∀y∈S.take b,cU y S[b]<=0:=by have h1:=hso;rw[<-Q2x b S,Q2o hbs]at h1;have:=(Sorted.append (c:=cU)).1 h1;exactλy hy=>this.2.2 y hy _ (List.mem_cons_self ..)
     have hdr:S.drop b=S[b]::S.drop (b+1):=Q2o hbs;have htk:S.take (b+1)=S.take b++[S[b]]:=Q2e hbs;generalize S[b]=y at hrb hgb hsp hdr htk;obtain⟨ly,hly,hey⟩:=y.encR_eq;rw[hey]at hrb;simp[f0,f4,f5,f6,hp,hw,hw',hr,hrb,hgb,-Qbg];refine Qh (λh2=>?_) (λh2=>?_)
     .have h2:cU x y<0:=by simpa using h2
      simp[f6,hw,hw'];obtain⟨d',rfl⟩:∃d',d=d'+1:=⟨d-1,by omega⟩;refine Qg H2.length d' (Q14 _) (by simp) (by omega) ⟨b,by omega,by omega,?_,?_⟩
      .rw[hdr];intro v hv;rcases Q2v.1 hv with rfl|hv
       .exact h2
       .exact hb v hv
      .simp[f0,f4,f5,Qb O]
     .have h2:¬cU x y<0:=by simpa using h2
      simp;refine⟨b+1,ha,hb,?_,by simp[f0],by simp[f4],by simp[f5],by simp[f6]⟩;rw[htk];have hyx:=(V8.not_lt).1 h2;intro v hv;rcases Q2r.1 hv with hv|hv
      .exact V8.trans _ _ _ (hsp v hv) hyx
      .rw[Q3t.1 hv];exact hyx
   .rintro fr H2 ⟨a,ha,hb,htk,f0,f4,f5,f6,rfl⟩;have hS':=hsn (S.take a) (S.drop a) (Q2x a S).symm htk hb;have s1:subL (S.map Un.encR) 0 (a:Int)=some ((S.take a).map Un.encR):=by simp[subL,ha,Q56]
    have s2:subL (S.map Un.encR) (a:Int) (S.length:Int)=some ((S.drop a).map Un.encR):=by
     have:(S.length-a)=(S.drop a).length:=by simp
     simp[subL,ha,Q57];rw[Q2f (by simp)]
    have la:(S.take a).length=a:=by simp;omega
    have lb:(S.drop a).length=S.length-a:=by simp
    simp[f0,f4,f5,f6,s1,s2,hr,appA];rw[if_pos (by omega)];simp[f0,f4,f5,f6,s1,s2,hr,appA];refine Qa (hrd _) ?_;simp[hex,appA];rw[if_pos (by omega)];simp[f0,f4,f5,f6,s1,s2,hr,appA];rw[if_pos (by omega)];simp;refine Wp H2.length (Q14 _) hia (by simp[f5]) ?_;rw[hS'];refine⟨by simp[f0],?_,Qd O _⟩;simp[hex,Q56,Q57]
  .have hia:l.length<=i:=by simpa using h
   rw[Q2f (by rw[hL];simpa using hia)]at f4;simp[f4]
 .rintro fr H' ⟨f4,rfl⟩;simp[f4];have hlen:=Ww V8 L;have ho:ofR L=.tup [YL true 14 ((if chkU none (ssort cU L)=0 then ssort cU L else[]).map Un.encR),YI (chkU none (ssort cU L))]:=by
   have:¬8<L.length:=by omega
   simp[ofR,ofU,this]
  rw[ho];generalize ssort cU L=S at*;have hS8:S.length<=8:=by omega
  refine Qm 4 (λfr H2=>fr 4=YL true 14 (S.map Un.encR)/\chkU none S=0/\H2=H')
   (λfr H2=>∃e,chkU none S=e/\e≠0/\fr 2=YL true 14 []/\fr 3=YI e/\H2=H') ?_ ?_ ?_
  .refine Vl H'.length S.length (λi fr H2=>fr 4=YL true 14 (S.map Un.encR)/\chkU none S=chkU (pvU S i) (S.drop i)/\H2=H') (by omega) (by decide) (by simp) (by simp) ?_ ?_
   .simp[f4,Qb O,pvU]
   rintro i fr H2 hi f8 ⟨f4,hch,rfl⟩;simp[f8,f4];refine Qh (λh=>?_) (λh=>?_)
   .have hj:i<S.length:=by simpa using h
    obtain⟨u,hu⟩:∃u,S[i]?=some u:=⟨_,Q12 hj⟩;have hdr:S.drop i=u::S.drop (i+1):=by rw[Q2o hj];congr 1;rw[Q12 hj]at hu;cases hu;rfl
    rw[hdr]at hch;simp only[chkU]at hch;have hps:pvU S (i+1)=some u.n:=by simp[pvU,hu]
    obtain⟨lu,hlu,heu⟩:=u.encR_eq;have hru:Zam.rowAt (S.map Un.encR) (i:Int)=some (.str u.n::lu):=by simp[Zam.rowAt,hu,heu]
    obtain⟨xa,xb,xc,xd,xe,xf,xg,xh,xi,xj,xk,xm,xn,rfl⟩:=list13 hlu;simp[f4,f8,hru];refine Qa (hN _ _) ?_;simp;cases hb:Yz u.n with
    |false=>rw[if_pos hb]at hch;simp[hch]
    |true=>
     rw[if_neg (by rw[hb];decide)]at hch;by_cases hj0:i=0
     .subst hj0;rw[if_neg (by simp[pvU])]at hch;simp[f4,f8];refine Wp H2.length (Q14 _) hj (by simp[f8]) ?_;simp[f4,Qb O];rw[hch];simp[pvU,hu]
     .have hjp:0<i:=by omega
      obtain⟨v,hv⟩:∃v,S[i-1]?=some v:=⟨_,Q12 (by omega)⟩;have hpv:pvU S i=some v.n:=by obtain⟨j,rfl⟩:∃j,i=j+1:=⟨i-1,by omega⟩;simp only[Nat.add_sub_cancel]at hv;simp[pvU,hv]
      rw[hpv]at hch;have hw:IntKind.i64.wrap ((i:Int)-1)=((i-1:Nat):Int):=by rw[wi64 (by omega)];omega
      obtain⟨lv,hlv,hev⟩:=v.encR_eq;have hrv:Zam.rowAt (S.map Un.encR) ((i-1:Nat):Int)=some (.str v.n::lv):=by
       have:((i-1:Nat):Int).toNat=i-1:=by omega
       simp[Zam.rowAt,hv,hev]
      obtain⟨ya,yb,yc,yd,ye,yf,yg,yh,yi,yj,yk,ym,yn,rfl⟩:=list13 hlv;simp[f4,f8,hjp,hw,hru,hrv];by_cases hvu:v.n=u.n
      .rw[if_pos (by rw[hvu])]at hch;simp[hvu,hch]
      .rw[if_neg (by simpa using hvu)]at hch;have huv:¬u.n=v.n:=λe=>hvu e.symm;simp[hvu,huv];refine Wp H2.length (Q14 _) hj (by simp[f8]) ?_;simp[f4,Qb O,hps,hch]
   .have hia:S.length<=i:=by simpa using h
    rw[Q22 hia]at hch;simp[f4];exact hch
  .rintro fr H2 ⟨e,h1,h2,f2,f3,rfl⟩;simp[f2,f3];simp[RetK,Qb O,h1,h2]
  .rintro fr H2 ⟨f4,h1,rfl⟩;simp[f4,h1];simp[RetK,Qb O,h1]
end
end
section
open Go.Proofs
def fdU(s:Bs):List Un->Int->Int
 |[],_=>-1
 |u::r,i=>if u.n=s then i else fdU s r (i+1)
def itU(w:Bs):List SBd->Int->Int->Int
 |[],_,pos=>pos
 |b::r,i,pos=>itU w r (i+1) (if b.k=2/\b.w=w then i else pos)
def Has.pjRfind{f:Nat}(h:Has P f Qjm)(S:List Un)(z:Bool)(s:Bs)(hl:S.length<=1048576)(H:Hp):
 Qc P f [YL z 14 (S.map Un.encR),YS s] H (λr H'=>r=YI (fdU s S 0)/\H'=H):=by
 refine Qe h (by simp[Qjm]) λO _=>?_;simp[Qjm];refine Qm 0 (λfr H'=>fdU s S 0=-1/\H'=H) (λfr H'=>fr 4=YI (fdU s S 0)/\H'=H) ?_ ?_ ?_
 .refine Vl H.length S.length (λi fr H'=>fr 0=YL z 14 (S.map Un.encR)/\fr 1=YS s/\fdU s S 0=fdU s (S.drop i) i/\H'=H) (by omega) (by decide) (by simp) (by simp) ?_ ?_
  .simp[Qb O]
  rintro i fr H' hi f5 ⟨f0,f1,hd,rfl⟩;simp[f5,f0];refine Qh (λh=>?_) (λh=>?_)
  .have hj:i<S.length:=by simpa using h
   obtain⟨u,hu⟩:∃u,S[i]?=some u:=⟨_,Q12 hj⟩;have hdr:S.drop i=u::S.drop (i+1):=by rw[Q2o hj];congr 1;rw[Q12 hj]at hu;cases hu;rfl
   rw[hdr]at hd;simp only[fdU]at hd;obtain⟨lu,hlu,heu⟩:=u.encR_eq;have hru:Zam.rowAt (S.map Un.encR) (i:Int)=some (.str u.n::lu):=by simp[Zam.rowAt,hu,heu]
   obtain⟨xa,xb,xc,xd,xe,xf,xg,xh,xi,xj,xk,xm,xn,rfl⟩:=list13 hlu;simp[f0,f1,f5,hru];by_cases hus:u.n=s
   .rw[if_pos hus]at hd;simp[hus,f5,hd]
   .rw[if_neg hus]at hd;simp[hus];refine Wp H'.length (Q14 _) hj (by simp[f5]) ?_;simp[f0,f1,Qb O,hd]
  .have hia:S.length<=i:=by simpa using h
   rw[Q22 hia]at hd;simp;exact hd
 .rintro fr H' ⟨f4,rfl⟩;simp[f4];simp[RetK,Qb O]
 .rintro fr H' ⟨h1,rfl⟩;simp[h1];simp[RetK,Qb O,h1]
end
section
def SWd(L:List Tk)(w:Bs)(a:Int):Prop:=0<=a/\w=txT L a.toNat/\kdT L a.toNat=1
def SWd.mk'{L:List Tk}{i:Nat}(h:kdT L i=1):SWd L (txT L i) (i:Int):=⟨by omega,by simp,by simpa using h⟩
def SWd.mk1{L:List Tk}{i:Nat}(h:kdT L (i+1)=1):SWd L (txT L (i+1)) ((i:Int)+1):=by have:=SWd.mk' h;simpa using this
def SWd.mk3{L:List Tk}{i:Nat}(h:kdT L (i+3)=1):SWd L (txT L (i+3)) ((i:Int)+3):=by have:=SWd.mk' h;simpa using this
def SWd.lt{L:List Tk}{w:Bs}{a:Int}(h:SWd L w a):0<=a/\a.toNat<L.length:=⟨h.1,Qc6 (by rw[h.2.2];decide)⟩
def ScP(L:List Tk):List N->Int->Int->Prop
 |[],b,e=>b<=e
 |x::r,b,e=>x.k=5/\b<=x.at_/\SWd L x.w x.at_/\ScP L r (x.at_+1) e
mutual
def Sc(L:List Tk):N->Int->Int->Prop
 |.mk k f t w a z ks,b,e=>
 if k=7\/k=8 then SWd L w a/\b<=a/\ScS L ks (a+1) e
 else if k=23 then SWd L w a/\b<=a/\a<e
 else if k=28 then ScC L ks b e
 else ScS L ks b e
def ScS(L:List Tk):List N->Int->Int->Prop
 |[],b,e=>b<=e
 |n::r,b,e=>∃m,Sc L n b m/\ScS L r m e
def ScC(L:List Tk):List N->Int->Int->Prop
 |[],_,_=>False
 |[_],_,_=>False
 |[_,_],_,_=>False
 |[p,_,c],b,e=>∃m,ScP L p.ks b m/\Sc L c m e
 |_::_::_::_::_,_,_=>False
end
section
variable{L:List Tk}
def Qgu(k f t:Int)(w:Bs)(a:Int)(z:Bool)(ks:List N)(b e:Int):Sc L (.mk k f t w a z ks) b e=
 if k=7\/k=8 then SWd L w a/\b<=a/\ScS L ks (a+1) e
 else if k=23 then SWd L w a/\b<=a/\a<e
 else if k=28 then ScC L ks b e
 else ScS L ks b e:=by rw[Sc]
def Qi1(b e:Int):ScS L [] b e=(b<=e):=by rw[ScS]
def Qd3(n:N)(r:List N)(b e:Int):ScS L (n::r) b e=∃m,Sc L n b m/\ScS L r m e:=by rw[ScS]
def Qjz(p q c:N)(b e:Int):ScC L [p,q,c] b e=∃m,ScP L p.ks b m/\Sc L c m e:=by rw[ScC]
def Qpi{ks:List N}{b e:Int}(h:ScC L ks b e):∃p q c m,ks=[p,q,c]/\ScP L p.ks b m/\Sc L c m e:=by
 match ks,h with
 |[],h=>rw[ScC]at h;exact h.elim
 |[_],h=>rw[ScC]at h;exact h.elim
 |[_,_],h=>rw[ScC]at h;exact h.elim
 |[p,q,c],h=>rw[ScC]at h;obtain⟨m,h1,h2⟩:=h;exact⟨p,q,c,m,rfl,h1,h2⟩
 |_::_::_::_::_,h=>rw[ScC]at h;exact h.elim
def ScP.le:∀{l:List N} {b e:Int},ScP L l b e->b<=e
 |[],_,_,h=>h
 |x::r,b,e,h=>by have:=ScP.le h.2.2.2;have:=h.2.1;omega
def ScP.mono:∀{l:List N} {b e b' e':Int},ScP L l b e->b'<=b->e<=e'->ScP L l b' e'
 |[],b,e,b',e',h,h1,h2=>by simp only[ScP]at h⊢;omega
 |x::r,b,e,b',e',h,h1,h2=>⟨h.1,by have:=h.2.1;omega,h.2.2.1,ScP.mono h.2.2.2 (Q16 _) h2⟩
def ScP.snoc:∀{l:List N} {b e e':Int} {x:N},ScP L l b e->x.k=5->e<=x.at_->SWd L x.w x.at_->x.at_+1<=e'->ScP L (l++[x]) b e'
 |[],b,e,e',x,h,h0,h1,h2,h3=>⟨h0,by simp only[ScP]at h;omega,h2,h3⟩
 |y::r,b,e,e',x,h,h0,h1,h2,h3=>⟨h.1,h.2.1,h.2.2.1,ScP.snoc h.2.2.2 h0 h1 h2 h3⟩
def ScOk(L:List Tk)(n:N):Prop:=∀b e,Sc L n b e->b<=e/\∀b' e',b'<=b->e<=e'->Sc L n b' e'
def Qr4{ks:List N}(ih:∀p∈ks,ScOk L p):∀b e,ScS L ks b e->b<=e/\∀b' e',b'<=b->e<=e'->ScS L ks b' e':=by
 induction ks with
 |nil=>intro b e h;rw[Qi1]at h;exact⟨h,λb' e' h1 h2=>by rw[Qi1];omega⟩
 |cons n r ih2=>intro b e h;rw[Qd3]at h;obtain⟨m,h1,h2⟩:=h;obtain⟨a1,a2⟩:=ih n (by simp) _ _ h1;obtain⟨b1,b2⟩:=ih2 (λp hp=>ih p (by simp[hp])) _ _ h2;refine⟨by omega,λb' e' h3 h4=>?_⟩;rw[Qd3];exact⟨m,a2 _ _ h3 (Q16 _),b2 _ _ (Q16 _) h4⟩
def Qtj(n:N):ScOk L n:=by
 induction n using N.ind with
 |h k f t w a z ks ih=>
 intro b e h;have hS:=Qr4 (L:=L) ih;rw[Qgu]at h;by_cases h1:k=7\/k=8
 .rw[if_pos h1]at h;obtain⟨p1,p2,p3⟩:=h;obtain⟨q1,q2⟩:=hS _ _ p3;refine⟨by omega,λb' e' h3 h4=>?_⟩;rw[Qgu,if_pos h1];exact⟨p1,by omega,q2 _ _ (Q16 _) h4⟩
 rw[if_neg h1]at h;by_cases h2:k=23
 .rw[if_pos h2]at h;refine⟨by omega,λb' e' h3 h4=>?_⟩;rw[Qgu,if_neg h1,if_pos h2];exact⟨h.1,by omega,by omega⟩
 rw[if_neg h2]at h;by_cases h3:k=28
 .rw[if_pos h3]at h;obtain⟨p,q,c,m,rfl,p1,p2⟩:=Qpi h;obtain⟨q1,q2⟩:=ih c (by simp) _ _ p2;have:=p1.le;refine⟨by omega,λb' e' h5 h6=>?_⟩;rw[Qgu,if_neg h1,if_neg h2,if_pos h3,Qjz];exact⟨m,p1.mono h5 (Q16 _),q2 _ _ (Q16 _) h6⟩
 rw[if_neg h3]at h;obtain⟨q1,q2⟩:=hS _ _ h;refine⟨q1,λb' e' h5 h6=>?_⟩;rw[Qgu,if_neg h1,if_neg h2,if_neg h3];exact q2 _ _ h5 h6
def Sc.le{n:N}{b e:Int}(h:Sc L n b e):b<=e:=(Qtj n b e h).1
def Sc.mono{n:N}{b e b' e':Int}(h:Sc L n b e)(h1:b'<=b)(h2:e<=e'):Sc L n b' e':=(Qtj n b e h).2 b' e' h1 h2
def ScS.le{ks:List N}{b e:Int}(h:ScS L ks b e):b<=e:=(Qr4 (λp _=>Qtj p) b e h).1
def ScS.mono{ks:List N}{b e b' e':Int}(h:ScS L ks b e)(h1:b'<=b)(h2:e<=e'):ScS L ks b' e':=(Qr4 (λp _=>Qtj p) b e h).2 b' e' h1 h2
def ScS.nil{b e:Int}(h:b<=e):ScS L [] b e:=by rw[Qi1];exact h
def ScS.cons{n:N}{r:List N}{b m m' e:Int}(h:Sc L n b m)(hr:ScS L r m' e)(hm:m<=m'):ScS L (n::r) b e:=by rw[Qd3];exact⟨m,h,hr.mono hm (Q16 _)⟩
def ScS.app{r:List N}{e':Int}:∀{ks:List N} {b e:Int},ScS L ks b e->ScS L r e e'->ScS L (ks++r) b e'
 |[],b,e,h,hr=>by rw[Qi1]at h;exact hr.mono h (Q16 _)
 |p::l,b,e,h,hr=>by rw[Qd3]at h;obtain⟨m,h1,h2⟩:=h;rw[Q2m,Qd3];exact⟨m,h1,ScS.app h2 hr⟩
def ScS.snoc{ks:List N}{x:N}{b e i j e':Int}(h:ScS L ks b e)(hx:Sc L x i j)(h1:e<=i)(h2:j<=e'):ScS L (ks++[x]) b e':=h.app (ScS.cons (hx.mono h1 (Q16 _)) (ScS.nil h2) (Q16 _))
def Sc.new{k f t:Int}{w:Bs}{a:Int}{ks:List N}{b e:Int}(h:decide (k=7\/k=8\/k=23\/k=28)=false)(hs:ScS L ks b e):Sc L (N.new k f t w a ks) b e:=by simp only[decide_eq_false_iff_not,not_or]at h;rw[N.new,Qgu,if_neg (by omega),if_neg (by omega),if_neg (by omega)];exact hs
def Sc.none{b e:Int}(h:b<=e):Sc L N.none b e:=Sc.new (by decide) (ScS.nil h)
def Sc.lam{f t:Int}{w:Bs}{a:Int}{p q c:N}{b m e:Int}(hp:ScP L p.ks b m)(hc:Sc L c m e):Sc L (N.new 28 f t w a [p,q,c]) b e:=by rw[N.new,Qgu,if_neg (by omega),if_neg (by omega),if_pos rfl,Qjz];exact⟨m,hp,hc⟩
def Sc.name{f t:Int}{w:Bs}{a:Int}{b e:Int}(hw:SWd L w a)(h1:b<=a)(h2:a<e):Sc L (N.new 23 f t w a []) b e:=by rw[N.new,Qgu,if_neg (by omega),if_pos rfl];exact⟨hw,h1,h2⟩
def Sc.bound{k f t:Int}{w:Bs}{a:Int}{ks:List N}{b e:Int}(hk:k=7\/k=8)(hw:SWd L w a)(h1:b<=a)(h2:ScS L ks (a+1) e):Sc L (N.new k f t w a ks) b e:=by rw[N.new,Qgu,if_pos hk];exact⟨hw,h1,h2⟩
structure It(L:List Tk)(x:N)(b e:Int):Prop where
 fr:b<=x.f
 lo:x.f<=x.at_
 hi:x.at_<x.t
 to:x.t<=e
 wd:SWd L x.w x.at_
 is:(x.k=2/\∃p,x.ks=[p]/\x.f<=p.at_/\p.at_<x.t/\SWd L p.w p.at_)\/(x.k=3/\ScC L x.ks (x.at_+1) x.t)
def ItS(L:List Tk):List N->Int->Int->Prop
 |[],b,e=>b<=e
 |x::r,b,e=>It L x b x.t/\ItS L r x.t e
def ItS.snoc:∀{l:List N} {b i:Int} {x:N},ItS L l b i->It L x i x.t->ItS L (l++[x]) b x.t
 |[],b,i,x,h,hx=>⟨⟨by simp only[ItS]at h;have:=hx.fr;omega,hx.lo,hx.hi,hx.to,hx.wd,hx.is⟩,Q16 _⟩
 |y::r,b,i,x,h,hx=>⟨h.1,ItS.snoc h.2 hx⟩
def ScQ(L:List Tk)(i:Nat):G->N->Nat->Prop
 |.list .param _,m,j=>ScP L m.ks i j
 |.list _ _,m,j=>ScS L m.ks i j
 |.listL .param _ ks,m,j=>∀b:Int,ScP L ks b i->ScP L m.ks b j
 |.listL _ _ ks,m,j=>∀b:Int,ScS L ks b i->ScS L m.ks b j
 |.stmts ks,m,j=>∀b:Int,ScS L ks b i->ScS L m.ks b j
 |.file ks,m,j=>ItS L ks 0 i->ItS L m.ks 0 j
 |.use,m,j|.defn,m,j=>It L m i j/\m.t=j
 |.params,m,j=>ScP L m.ks i j
 |.param,m,j=>m.k=5/\(i:Int)<=m.at_/\SWd L m.w m.at_/\m.at_+1<=j
 |.sumL a,m,j|.termL a,m,j|.postL a,m,j=>∀b:Int,Sc L a b i->Sc L m b j
 |_,m,j=>Sc L m i j
def ApR.wordK{P:N->Nat->Prop}{k:Nat}{h:Bs->Nat->PR}(hh:kdT L k=1->ApR P (h (txT L k) (k+1))):ApR P (Yn L k h):=by
 unfold Yn;split
 .rename_i e;exact hh e
 .trivial
def ApR.iteK{P:N->Nat->Prop}{c:Prop}[Decidable c]{a b:PR}(ha:c->ApR P a)(hb:ApR P b):ApR P (if c then a else b):=by
 split
 .rename_i e;exact ha e
 .exact hb
def ApR.lastS{P:N->Nat->Prop}{n:Nat}(ih:∀g i,g.flat->ApR (ScQ L i g) (pp L n g i)){g:G}{k:Nat}(hg:g.flat)(hh:∀m j,k<=j->(g.strict=true->k<j)->ScQ L k g m j->P m j):ApR P (pp L n g k):=by
 have h1:=ih g k hg;have h2:=Yg (L:=L) n g k;generalize pp L n g k=r at h1 h2;cases r with
 |out=>trivial
 |bad j=>trivial
 |ok m j=>exact hh _ j h2.1 h2.2.1 h1
def ApR.thenS{P:N->Nat->Prop}{n:Nat}(ih:∀g i,g.flat->ApR (ScQ L i g) (pp L n g i)){g:G}{k:Nat}{h:N->Nat->PR}(hg:g.flat)(hh:∀m j,k<=j->(g.strict=true->k<j)->ScQ L k g m j->ApR P (h m j)):ApR P ((pp L n g k).then h):=by
 have h1:=ih g k hg;have h2:=Yg (L:=L) n g k;generalize pp L n g k=r at h1 h2;cases r with
 |out=>trivial
 |bad j=>trivial
 |ok m j=>exact hh m j h2.1 h2.2.1 h1
def Qp7:∀(n:Nat)(g:G)(i:Nat),g.flat->ApR (ScQ L i g) (pp L n g i)
 |0,g,i,_=>trivial
 |n+1,g,i,hg=>by
  have ih:=Qp7 n;cases g
  case listL one e ks=>
   simp only[pp];cases one<;>simp only[G.flat,G.one,Q2c]at hg
   case param=>refine ApR.thenS ih trivial λm j h1 h2 h3=>?_;obtain⟨p0,p1,p2,p3⟩:=h3;refine ApR.ite (ApR.ok λb hb=>?_) (ApR.want (ApR.lastS ih rfl λx j' h1' h2' h3' b hb=>h3' b (ScP.snoc hb p0 p1 p2 (by omega))));exact ScP.snoc hb p0 p1 p2 (by omega)
   all_goals
    refine ApR.thenS ih trivial λm j h1 h2 h3=>?_;refine ApR.ite (ApR.ok λb hb=>?_) (ApR.want (ApR.lastS ih rfl λx j' h1' h2' h3' b hb=>h3' b (ScS.snoc hb h3 (Q16 _) (by omega))));exact ScS.snoc hb h3 (Q16 _) (by omega)
  case list one e=>
   simp only[pp];cases one<;>simp only[G.flat,G.one,Q2c]at hg
   case param=>refine ApR.ite (ApR.ok ?_) (ApR.lastS ih rfl λx j h1 h2 h3=>h3 i (Q16 _));show(i:Int)<=_;omega
   all_goals
    refine ApR.ite (ApR.ok ?_) (ApR.lastS ih rfl λx j h1 h2 h3=>h3 i (ScS.nil (Q16 _)));exact(show ScS L [] _ _ from ScS.nil (by omega))
  case stmts ks=>simp only[pp];refine ApR.ite (ApR.ok λb hb=>hb.mono (Q16 _) (by omega)) (ApR.thenS ih trivial λm j h1 h2 h3=>ApR.lastS ih trivial λx j' h1' h2' h3' b hb=>h3' b (ScS.snoc hb h3 (Q16 _) (Q16 _)))
  case file ks=>
   simp only[pp];refine ApR.ite (ApR.ok λhb=>hb) (ApR.ite ?_ ?_)
   all_goals exact ApR.thenS ih trivial λm j h1 h2 h3=>ApR.lastS ih trivial λx j' h1' h2' h3' hb=>h3' (h3.2▸ItS.snoc hb ⟨h3.1.fr,h3.1.lo,h3.1.hi,Q16 _,h3.1.wd,h3.1.is⟩)
  case use=>simp only[pp];refine ApR.want (ApR.wordK λw1=>ApR.want (ApR.wordK λw2=>ApR.want (ApR.ok ?_)));refine⟨⟨Q16 _,?_,?_,?_,SWd.mk3 w2,.inl ⟨rfl,_,rfl,?_,?_,SWd.mk1 w1⟩⟩,?_⟩<;>simp only[N.new,N.f,N.t,N.at_]<;>omega
  case defn=>
   simp only[pp];refine ApR.want (ApR.wordK λw1=>ApR.thenS ih trivial λp j h1 h2 h3=>ApR.thenS ih trivial λt j' h1' h2' h3'=>ApR.thenS ih trivial λb k h1'' h2'' h3''=>ApR.ok ?_);have h2:=h2 rfl;refine⟨⟨Q16 _,?_,?_,?_,SWd.mk1 w1,.inr ⟨rfl,?_⟩⟩,rfl⟩
   .simp only[N.new,N.f,N.at_];omega
   .simp only[N.new,N.t,N.at_];omega
   .simp only[N.new,N.t];omega
   .simp only[N.new,N.ks,N.at_,N.t];rw[Qjz];have h3:ScP L p.ks _ _:=h3;have h3'':Sc L b _ _:=h3'';exact⟨j',h3.mono (by omega) (by omega),h3''⟩
  case params=>simp only[pp];refine ApR.want (ApR.thenS ih rfl λm j h1 h2 h3=>ApR.ok ?_);have h3:ScP L m.ks _ _:=h3;exact h3.mono (by omega) (Q16 _)
  case param=>simp only[pp];refine ApR.wordK λw1=>ApR.thenS ih trivial λt j h1 h2 h3=>ApR.ok ⟨rfl,Q16 _,SWd.mk' w1,?_⟩;simp only[N.new,N.at_];omega
  case typed=>simp only[pp];refine ApR.ite (ApR.lastS ih trivial λm j h1 h2 h3=>?_) (ApR.ok (show Sc L _ _ _ from Sc.none (Q16 _)));have h3:Sc L m _ _:=h3;exact h3.mono (by omega) (Q16 _)
  case sumL a=>
   simp only[pp];refine ApR.ite ?_ (ApR.ite ?_ (ApR.ok λb hb=>hb))
   all_goals
    refine ApR.thenS ih trivial λm j h1 h2 h3=>ApR.lastS ih trivial λx j' h1' h2' h3' b hb=>h3' b ?_;exact(show Sc L _ _ _ from Sc.new (by decide) (ScS.cons hb (ScS.cons h3 (ScS.nil (Q16 _)) (Q16 _)) (by omega)))
  case termL a=>simp only[pp];refine ApR.ite ?_ (ApR.ok λb hb=>hb);refine ApR.thenS ih trivial λm j h1 h2 h3=>ApR.lastS ih trivial λx j' h1' h2' h3' b hb=>h3' b ?_;exact(show Sc L _ _ _ from Sc.new (by decide) (ScS.cons hb (ScS.cons h3 (ScS.nil (Q16 _)) (Q16 _)) (by omega)))
  case postL a=>
   simp only[pp];refine ApR.ite (ApR.word ?_) (ApR.ite ?_ (ApR.ok λb hb=>hb))
   .refine ApR.lastS ih trivial λx j' h1' h2' h3' b hb=>h3' b ?_;exact(show Sc L _ _ _ from Sc.new (by decide) (ScS.cons hb (ScS.nil (Q16 _)) (by omega)))
   .refine ApR.thenS ih rfl λm j h1 h2 h3=>ApR.lastS ih trivial λx j' h1' h2' h3' b hb=>h3' b ?_;have h3:ScS L m.ks _ _:=h3;exact(show Sc L _ _ _ from Sc.new (by decide) (ScS.cons hb h3 (by omega)))
  case block=>simp only[pp];refine ApR.want (ApR.thenS ih trivial λm j h1 h2 h3=>ApR.ok ?_);have h3:=h3 _ (ScS.nil (Q16 _));exact(show Sc L _ _ _ from Sc.new (by decide) (h3.mono (by omega) (Q16 _)))
  case expr=>
   simp only[pp];refine ApR.thenS ih trivial λa j h1 h2 h3=>ApR.ite ?_ (ApR.ite ?_ (ApR.ok h3))
   all_goals
    refine ApR.thenS ih trivial λm j' h1' h2' h3'=>ApR.ok ?_;exact(show Sc L _ _ _ from Sc.new (by decide) (ScS.cons h3 (ScS.cons h3' (ScS.nil (Q16 _)) (Q16 _)) (by omega)))
  case sum=>simp only[pp];exact ApR.thenS ih trivial λa j h1 h2 h3=>ApR.lastS ih trivial λx j' h1' h2' h3'=>h3' _ h3
  case term=>simp only[pp];exact ApR.thenS ih trivial λa j h1 h2 h3=>ApR.lastS ih trivial λx j' h1' h2' h3'=>h3' _ h3
  case post=>simp only[pp];exact ApR.thenS ih trivial λa j h1 h2 h3=>ApR.lastS ih trivial λx j' h1' h2' h3'=>h3' _ h3
  case kind=>
   simp only[pp];refine ApR.ite (ApR.ok (show Sc L _ _ _ from Sc.new (by decide) (ScS.nil (by omega)))) (ApR.ite (ApR.ok (show Sc L _ _ _ from Sc.new (by decide) (ScS.nil (by omega)))) (ApR.ite (ApR.ok (show Sc L _ _ _ from Sc.new (by decide) (ScS.nil (by omega)))) (ApR.ite ?_ ?_)))
   .refine ApR.thenS ih rfl λm j h1 h2 h3=>ApR.ok ?_;have h3:ScS L m.ks _ _:=h3;exact(show Sc L _ _ _ from Sc.new (by decide) (h3.mono (by omega) (Q16 _)))
   .refine ApR.want (ApR.want (ApR.thenS ih rfl λm j h1 h2 h3=>ApR.want (ApR.thenS ih trivial λt j' h1' h2' h3'=>ApR.ok ?_)));have h3:ScS L m.ks _ _:=h3;exact(show Sc L _ _ _ from Sc.new (by decide) ((h3.mono (by omega) (Q16 _)).snoc h3' (by omega) (Q16 _)))
  case tfield=>simp only[pp];refine ApR.word (ApR.want (ApR.thenS ih trivial λm j h1 h2 h3=>ApR.ok ?_));exact(show Sc L _ _ _ from Sc.new (by decide) (ScS.cons (Sc.mono h3 (by omega) (Q16 _)) (ScS.nil (Q16 _)) (Q16 _)))
  case stmt=>
   simp only[pp];refine ApR.ite (ApR.wordK λw1=>ApR.thenS ih trivial λt j h1 h2 h3=>ApR.want (ApR.thenS ih trivial λx j' h1' h2' h3'=>ApR.want (ApR.ok ?_))) (ApR.ite ?_ (ApR.ite ?_ (ApR.ite ?_ (ApR.ite ?_ (ApR.iteK (λw1=>?_) ?_)))))
   .exact(show Sc L _ _ _ from Sc.bound (.inl rfl) (SWd.mk1 w1) (by omega) (ScS.cons (Sc.mono h3 (by omega) (Q16 _)) (ScS.cons h3' (ScS.nil (Q16 _)) (by omega)) (by omega)))
   .refine ApR.thenS ih trivial λc j h1 h2 h3=>ApR.thenS ih trivial λb j' h1' h2' h3'=>ApR.ite (ApR.thenS ih trivial λo j'' h1'' h2'' h3''=>ApR.ok ?_) (ApR.ok ?_)
    .exact(show Sc L _ _ _ from Sc.new (by decide) (ScS.cons (Sc.mono h3 (by omega) (Q16 _)) (ScS.cons h3' (ScS.cons h3'' (ScS.nil (Q16 _)) (Q16 _)) (by omega)) (Q16 _)))
    .exact(show Sc L _ _ _ from Sc.new (by decide) (ScS.cons (Sc.mono h3 (by omega) (Q16 _)) (ScS.cons h3' (ScS.cons (Sc.none (Q16 _)) (ScS.nil (Q16 _)) (Q16 _)) (Q16 _)) (Q16 _)))
   .refine ApR.thenS ih trivial λc j h1 h2 h3=>ApR.thenS ih trivial λb j' h1' h2' h3'=>ApR.ok ?_;exact(show Sc L _ _ _ from Sc.new (by decide) (ScS.cons (Sc.mono h3 (by omega) (Q16 _)) (ScS.cons h3' (ScS.nil (Q16 _)) (Q16 _)) (Q16 _)))
   .refine ApR.thenS ih trivial λc j h1 h2 h3=>ApR.want (ApR.ok ?_);exact(show Sc L _ _ _ from Sc.new (by decide) (ScS.cons (Sc.mono h3 (by omega) (Q16 _)) (ScS.nil (by omega)) (Q16 _)))
   .refine ApR.thenS ih trivial λc j h1 h2 h3=>ApR.want (ApR.ok ?_);exact(show Sc L _ _ _ from Sc.new (by decide) (ScS.cons (Sc.mono h3 (by omega) (Q16 _)) (ScS.nil (by omega)) (Q16 _)))
   .refine ApR.thenS ih trivial λc j h1 h2 h3=>ApR.want (ApR.ok ?_);exact(show Sc L _ _ _ from Sc.bound (.inr rfl) (SWd.mk' w1.1) (Q16 _) (ScS.cons (Sc.mono h3 (by omega) (Q16 _)) (ScS.nil (by omega)) (Q16 _)))
   .refine ApR.thenS ih trivial λc j h1 h2 h3=>ApR.want (ApR.ok ?_);exact(show Sc L _ _ _ from Sc.new (by decide) (ScS.cons h3 (ScS.nil (by omega)) (Q16 _)))
  case atom=>
   simp only[pp];refine ApR.ite (ApR.ok (show Sc L _ _ _ from Sc.new (by decide) (ScS.nil (by omega)))) (ApR.ite (ApR.ok (show Sc L _ _ _ from Sc.new (by decide) (ScS.nil (by omega)))) (ApR.iteK (λw1=>ApR.ok (show Sc L _ _ _ from Sc.name (SWd.mk' w1) (Q16 _) (by omega))) (ApR.ite (ApR.ok (show Sc L _ _ _ from Sc.new (by decide) (ScS.nil (by omega)))) (ApR.ite ?_ (ApR.ite ?_ ?_)))))
   .refine ApR.thenS ih trivial λc j h1 h2 h3=>ApR.want (ApR.ok ?_);exact(show Sc L _ _ _ from Sc.new (by decide) (ScS.cons (Sc.mono h3 (by omega) (Q16 _)) (ScS.nil (by omega)) (Q16 _)))
   .refine ApR.thenS ih rfl λm j h1 h2 h3=>ApR.ok ?_;have h3:ScS L m.ks _ _:=h3;exact(show Sc L _ _ _ from Sc.new (by decide) (h3.mono (by omega) (Q16 _)))
   .refine ApR.want (ApR.thenS ih trivial λp j h1 h2 h3=>ApR.thenS ih trivial λt j' h1' h2' h3'=>ApR.thenS ih trivial λb j'' h1'' h2'' h3''=>ApR.ok ?_);have h3:ScP L p.ks _ _:=h3;have h3'':Sc L b _ _:=h3'';exact(show Sc L _ _ _ from Sc.lam (h3.mono (by omega) (by omega)) h3'')
  case entry=>simp only[pp];refine ApR.word (ApR.want (ApR.thenS ih trivial λm j h1 h2 h3=>ApR.ok ?_));exact(show Sc L _ _ _ from Sc.new (by decide) (ScS.cons (Sc.mono h3 (by omega) (Q16 _)) (ScS.nil (Q16 _)) (Q16 _)))
end
end
section
def evB(bs:List SBd)(t:Int):Nat:=bs.countP λb=>decide (b.a=t)
def evM(ms:List Mn)(t:Int):Nat:=ms.countP λm=>decide (m.a=t)
def indS(b e t:Int):Nat:=if b<=t/\t<e then 1 else 0
def Qk9(a b:List SBd)(t:Int):evB (a++b) t=evB a t+evB b t:=List.countP_append
def Qtx(a b:List Mn)(t:Int):evM (a++b) t=evM a t+evM b t:=List.countP_append
def Qzf(t:Int):evB [] t=0:=rfl
def Qze(t:Int):evM [] t=0:=rfl
def Qty(b:SBd)(t:Int):evB [b] t=if b.a=t then 1 else 0:=by simp[evB,Q6b]
def Qzd(b:Mn)(t:Int):evM [b] t=if b.a=t then 1 else 0:=by simp[evM,Q6b]
def Qek{b m m' e:Int}(h1:b<=m)(h:m<=m')(h2:m'<=e)(t:Int):indS b m t+indS m' e t<=indS b e t:=by unfold indS;split<;>split<;>split<;>omega
def Qfx{b e b' e':Int}(h1:b'<=b)(h2:e<=e')(t:Int):indS b e t<=indS b' e' t:=by unfold indS;split<;>split<;>omega
def Qgi{a b e t:Int}(h1:b<=a)(h2:a<e):(if a=t then 1 else 0)<=indS b e t:=by unfold indS;split<;>split<;>omega
def Qip{b e t:Int}(h:0<indS b e t):b<=t/\t<e:=by
 unfold indS at h;split at h
 .assumption
 .omega
def bAt(bs:List SBd)(i:Int):SBd:=bs.getD i.toNat default
def Ys(bs:List SBd)(lo b it:Int)(M:List Nm):Prop:=∀x∈M,x.beg=false->0<=x.to/\x.to<bs.length/\((bAt bs x.to).k<3\/(lo<=(bAt bs x.to).a/\(bAt bs x.to).a<b/\(bAt bs x.to).i=it))
def Qog(bs:List SBd)(lo it:Int)(m:Mn):Prop:=m.t=-1\/(0<=m.t/\m.t<bs.length/\((bAt bs m.t).k<3\/(lo<=(bAt bs m.t).a/\(bAt bs m.t).a<m.a/\(bAt bs m.t).i=it)))
def Qla{bs:List SBd}{i:Int}(h0:0<=i)(h:i<bs.length)(l:List SBd):bAt (bs++l) i=bAt bs i:=Qmp h0 h l
def Ys.app{bs:List SBd}{lo b it:Int}{M:List Nm}(h:Ys bs lo b it M)(l:List SBd):Ys (bs++l) lo b it M:=λx hx hb=>by obtain⟨h1,h2,h3⟩:=h x hx hb;rw[Qla h1 h2];exact⟨h1,by simp;omega,h3⟩
def Ys.mono{bs:List SBd}{lo b b' it:Int}{M:List Nm}(h:Ys bs lo b it M)(hb:b<=b'):Ys bs lo b' it M:=λx hx hb'=>by obtain⟨h1,h2,h3⟩:=h x hx hb';exact⟨h1,h2,h3.imp id λ⟨a,b,c⟩=>⟨a,by omega,c⟩⟩
def Ys.beg{bs:List SBd}{lo b it:Int}{M:List Nm}(h:Ys bs lo b it M)(lam:Bool):Ys bs lo b it (⟨0,true,lam⟩::M):=λx hx hb=>by
 rcases Q2v.1 hx with rfl|hx
 .cases hb
 .exact h x hx hb
def Qog.app{bs:List SBd}{lo it:Int}{m:Mn}(h:Qog bs lo it m)(l:List SBd):Qog (bs++l) lo it m:=by
 rcases h with h|⟨h1,h2,h3⟩
 .exact .inl h
 .refine .inr ?_;rw[Qla h1 h2];exact⟨h1,by simp;omega,h3⟩
structure Went(TL:List Tk)(lo it:Int)(c:Int->Nat)(S S':SM):Prop where
 ex:∃nb nm nd,S'.bs=S.bs++nb/\S'.ms=S.ms++nm/\S'.bad=S.bad++nd/\(∀t,evB nb t+evM nm t<=c t)/\(∀x∈nb,3<=x.k/\x.k<=4/\x.i=it/\SWd TL x.w x.a)/\(∀m∈nm,Qog S'.bs lo it m/\kdT TL m.a.toNat=1)/\∀x∈nd,0<c x.1
section
variable{TL:List Tk}{lo it:Int}
def Went.refl{c:Int->Nat}(S:SM):Went TL lo it c S S:=⟨[],[],[],by simp,by simp,by simp,by simp[evB,evM],by simp,by simp,by simp⟩
def Went.trans{c1 c2 c:Int->Nat}{S S1 S2:SM}(h1:Went TL lo it c1 S S1)(h2:Went TL lo it c2 S1 S2)(hc:∀t,c1 t+c2 t<=c t):Went TL lo it c S S2:=by
 obtain⟨nb,nm,nd,a1,a2,a3,a4,a5,a6,a7⟩:=h1.ex;obtain⟨nb',nm',nd',b1,b2,b3,b4,b5,b6,b7⟩:=h2.ex;refine⟨nb++nb',nm++nm',nd++nd',by rw[b1,a1,Q2g],by rw[b2,a2,Q2g],by rw[b3,a3,Q2g],λt=>?_,λx hx=>?_,λm hm=>?_,λx hx=>?_⟩
 .rw[Qk9,Qtx];have:=a4 t;have:=b4 t;have:=hc t;omega
 .exact(Q2r.1 hx).elim (a5 x) (b5 x)
 .rcases Q2r.1 hm with hm|hm
  .rw[b1];exact⟨(a6 m hm).1.app _,(a6 m hm).2⟩
  .exact b6 m hm
 .rcases Q2r.1 hx with hx|hx
  .have:=a7 x hx;have:=hc x.1;omega
  .have:=b7 x hx;have:=hc x.1;omega
def Went.mono{c c':Int->Nat}{S S':SM}(h:Went TL lo it c S S')(hc:∀t,c t<=c' t):Went TL lo it c' S S':=by obtain⟨nb,nm,nd,a1,a2,a3,a4,a5,a6,a7⟩:=h.ex;exact⟨nb,nm,nd,a1,a2,a3,λt=>Q3d (a4 t) (hc t),a5,a6,λx hx=>Q6l (a7 x hx) (hc _)⟩
def Went.bs{c:Int->Nat}{S S':SM}(h:Went TL lo it c S S'):∃nb,S'.bs=S.bs++nb:=by obtain⟨nb,nm,nd,a1,-⟩:=h.ex;exact⟨nb,a1⟩
def Qjd{bs:List SBd}{w:Bs}:∀{M:List Nm} {far i f:Int},Vy bs w M far=some (i,f)->∃x∈M,x.beg=false/\x.to=i/\Zk bs x=w
 |[],far,i,f,h=>by cases h
 |x::r,far,i,f,h=>by
  simp only[Vy]at h;split at h
  .obtain⟨y,h1,h2⟩:=Qjd h;exact⟨y,by simp[h1],h2⟩
  .rename_i hb;split at h
   .rename_i hw;cases h
    exact⟨x,by simp,by simpa using hb,rfl,hw⟩
   .obtain⟨y,h1,h2⟩:=Qjd h;exact⟨y,by simp[h1],h2⟩
def Qsk{bs:List SBd}{M:List Nm}{b:Int}(h:Ys bs lo b it M)(w:Bs){a:Int}(ha:b<=a)(wr:Bool):Qog bs lo it ⟨a,(Vh bs w M).1,wr,(Vh bs w M).2⟩:=by
 unfold Vh;cases hl:Vy bs w M 0 with
 |none=>exact .inl rfl
 |some p=>obtain⟨i,f⟩:=p;obtain⟨x,hx,hb,rfl,-⟩:=Qjd hl;obtain⟨h1,h2,h3⟩:=h x hx hb;refine .inr ?_;simp only;split<;>exact⟨h1,h2,h3.imp id λ⟨p,q,r⟩=>⟨p,by simp only;omega,r⟩⟩
def Went.men{bs0:List SBd}{S:SM}{M:List Nm}{b:Int}(h:Ys S.bs lo b it M)(n:N)(hw:SWd TL n.w n.at_)(hb:b<=n.at_)(wr:Bool):Went TL lo it (indS n.at_ (n.at_+1)) S (S.men n wr (Vh S.bs n.w M)):=by
 refine⟨[],[⟨n.at_,(Vh S.bs n.w M).1,wr,(Vh S.bs n.w M).2⟩],if(Vh S.bs n.w M).1<0 then[(n.at_,30)]else if wr/\(S.bs.getD (Vh S.bs n.w M).1.toNat default).k<3 then[(n.at_,35)]else[],by simp[SM.men],rfl,?_,λt=>?_,by simp,λm hm=>?_,λx hx=>?_⟩
 .simp only[SM.men];split
  .rfl
  .split
   .rfl
   .simp
 .rw[Qzf,Qzd,Q3i];exact Qgi (Q16 _) (by show n.at_<n.at_+1;omega)
 .simp only[Q3t]at hm;subst hm;exact⟨Qsk h n.w hb wr,hw.2.2⟩
 .have:x.1=n.at_:=by
   split at hx
   .simp at hx;rw[hx]
   .split at hx
    .simp at hx;rw[hx]
    .simp at hx
  rw[this];have:=Qgi (a:=n.at_) (b:=n.at_) (e:=n.at_+1) (t:=n.at_) (Q16 _) (by omega);simp only[if_true]at this;omega
def Went.bind{S:SM}{M:List Nm}{b:Int}(h:Ys S.bs lo b it M)(n:N)(hl:lo<=n.at_)(hw:SWd TL n.w n.at_){kind:Int}(hk:3<=kind/\kind<=4){e:Int}(he:n.at_<e)(hbe:b<=e):
 Went TL lo it (indS n.at_ (n.at_+1)) S (Wx kind it n M S).2/\Ys (Wx kind it n M S).2.bs lo e it (Wx kind it n M S).1:=by
 refine⟨⟨[⟨n.at_,kind,n.w,it⟩],[],if dupR S.bs n.w M then[(n.at_,31)]else[],rfl,by simp[Wx,SM.bind],?_,λt=>?_,λx hx=>?_,by simp,λx hx=>?_⟩,λx hx hb=>?_⟩
 .simp only[Wx,SM.bind];split
  .rfl
  .simp
 .rw[Qze,Qty,Q4g];exact Qgi (Q16 _) (by show n.at_<n.at_+1;omega)
 .simp only[Q3t]at hx;subst hx;exact⟨hk.1,hk.2,rfl,hw⟩
 .have:x.1=n.at_:=by
   split at hx
   .simp at hx;rw[hx]
   .simp at hx
  rw[this];have:=Qgi (a:=n.at_) (b:=n.at_) (e:=n.at_+1) (t:=n.at_) (Q16 _) (by omega);simp only[if_true]at this;omega
 .simp only[Wx]at hx;rcases Q2v.1 hx with rfl|hx
  .have hg:bAt (S.bs++[⟨n.at_,kind,n.w,it⟩]) (S.bs.length:Int)=⟨n.at_,kind,n.w,it⟩:=by simp[bAt]
   show _/\_/\_;simp only[Wx,SM.bind,hg];exact⟨by omega,by simp;omega,.inr ⟨hl,he,trivial⟩⟩
  .exact((h.app [⟨n.at_,kind,n.w,it⟩]).mono hbe) x hx hb
def Went.binds:∀(l:List N){b e:Int}{S:SM}{M:List Nm},ScP TL l b e->lo<=b->Ys S.bs lo b it M->Went TL lo it (indS b e) S (Yd it l M S).2/\Ys (Yd it l M S).2.bs lo e it (Yd it l M S).1
 |[],b,e,S,M,h,hl,hi=>⟨.refl _,hi.mono h⟩
 |n::r,b,e,S,M,h,hl,hi=>by obtain⟨h0,h1,h2,h3⟩:=h;obtain⟨a1,a2⟩:=Went.bind hi n (by omega) h2 (kind:=3) (by decide) (e:=n.at_+1) (by omega) (by omega);obtain⟨b1,b2⟩:=Went.binds r h3 (by omega) a2;have:=h3.le;exact⟨a1.trans b1 λt=>Q3d (Qek (by omega) (Q16 _) (by omega) t) (Qfx h1 (Q16 _) t),b2⟩
def Qx4(TL:List Tk)(lo it:Int)(n:N):Prop:=∀(b e:Int)(S:SM)(M:List Nm),Sc TL n b e->lo<=b->Ys S.bs lo b it M->Went TL lo it (indS b e) S (Qae it n M S).2/\Ys (Qae it n M S).2.bs lo e it (Qae it n M S).1
def Qf3{ks:List N}(ih:∀p∈ks,Qx4 TL lo it p):∀(b e:Int)(S:SM)(M:List Nm),ScS TL ks b e->lo<=b->Ys S.bs lo b it M->Went TL lo it (indS b e) S (Wr it ks M S).2/\Ys (Wr it ks M S).2.bs lo e it (Wr it ks M S).1:=by
 induction ks with
 |nil=>intro b e S M h hl hi;rw[Qb5];rw[Qi1]at h;exact⟨.refl _,hi.mono h⟩
 |cons n r ih2=>intro b e S M h hl hi;rw[Qd3]at h;obtain⟨m,h1,h2⟩:=h;obtain⟨a1,a2⟩:=ih n (by simp) b m S M h1 hl hi;have:=h1.le;obtain⟨b1,b2⟩:=ih2 (λp hp=>ih p (by simp[hp])) m e _ _ h2 (by omega) a2;have:=h2.le;rw[Qa0];exact⟨a1.trans b1 λt=>Qek (by omega) (Q16 _) (by omega) t,b2⟩
def Qj4{ks:List N}(ih:∀p∈ks,Qx4 TL lo it p){b e:Int}{S:SM}{M:List Nm}(h:ScC TL ks b e)(hl:lo<=b)(hi:Ys S.bs lo b it M)(lam:Bool):Went TL lo it (indS b e) S (Yk it ks M lam S):=by obtain⟨p,q,c,m,rfl,h1,h2⟩:=Qpi h;rw[Qaj];obtain⟨a1,a2⟩:=Went.binds p.ks h1 hl (hi.beg lam);have:=h1.le;obtain⟨b1,-⟩:=ih c (by simp) m e _ _ h2 (by omega) a2;have:=h2.le;exact a1.trans b1 λt=>Qek (by omega) (Q16 _) (by omega) t
def went(n:N):Qx4 TL lo it n:=by
 induction n using N.ind with
 |h k f t w a z ks ih=>
 intro b e S M h hl hi;rw[Qgu]at h;rw[Qhs];by_cases h78:k=7\/k=8
 .rw[if_pos h78]at h;obtain⟨h1,h2,h3⟩:=h;have hle:=h3.le;rcases h78 with rfl|rfl
  .rw[if_neg (by decide),if_pos rfl];obtain⟨a1,a2⟩:=Qf3 ih (a+1) e S M h3 (by omega) (hi.mono (by omega));obtain⟨b1,b2⟩:=Went.bind a2 (.mk 7 f t w a z ks) (by show lo<=a;omega) h1 (kind:=4) (by decide) (e:=e) (by show a<e;omega) (Q16 _);refine⟨a1.trans b1 λt=>?_,b2⟩;have:=Qek (b:=a) (m:=a+1) (m':=a+1) (e:=e) (by omega) (Q16 _) (by omega) t;have:=Qfx (b:=a) (e:=e) (b':=b) (e':=e) h2 (Q16 _) t;simp only[N.at_];omega
  .rw[if_neg (by decide),if_neg (by decide),if_pos rfl];have a1:=Went.men (TL:=TL) (bs0:=[]) hi (.mk 8 f t w a z ks) h1 h2 true;have hs':Ys (S.men (.mk 8 f t w a z ks) true (Vh S.bs w M)).bs lo (a+1) it M:=Ys.mono (b:=b) hi (by omega);obtain⟨b1,b2⟩:=Qf3 ih (a+1) e _ M h3 (by omega) hs';refine⟨a1.trans b1 λt=>?_,b2⟩;have:=Qek (b:=a) (m:=a+1) (m':=a+1) (e:=e) (by omega) (Q16 _) (by omega) t;have:=Qfx (b:=a) (e:=e) (b':=b) (e':=e) h2 (Q16 _) t;simp only[N.at_];omega
 rw[if_neg h78]at h;by_cases h23:k=23
 .rw[if_pos h23]at h;subst h23;obtain⟨h1,h2,h3⟩:=h;rw[if_neg (by decide),if_neg (by decide),if_neg (by decide),if_pos rfl];have a1:=Went.men (TL:=TL) (bs0:=[]) hi (.mk 23 f t w a z ks) h1 h2 false;exact⟨a1.mono λt=>Qfx h2 (by simp only[N.at_];omega) t,by rw[Qxc];exact hi.mono (by omega)⟩
 rw[if_neg h23]at h;by_cases h28:k=28
 .rw[if_pos h28]at h;subst h28;rw[if_neg (by decide),if_neg (by decide),if_neg (by decide),if_neg (by decide),if_pos rfl];have a1:=Qj4 ih h hl hi true;have hle:b<=e:=by obtain⟨p,q,c,m,rfl,h1,h2⟩:=Qpi h;have:=h1.le;have:=h2.le;omega
  obtain⟨nb,hnb⟩:=a1.bs;exact⟨a1,by simp only[hnb];exact(hi.app nb).mono hle⟩
 rw[if_neg h28]at h;by_cases h6:k=6
 .subst h6;rw[if_pos rfl];obtain⟨a1,-⟩:=Qf3 ih b e S _ h hl (hi.beg false);obtain⟨nb,hnb⟩:=a1.bs;exact⟨a1,by simp only[hnb];exact(hi.app nb).mono h.le⟩
 .rw[if_neg h6,if_neg (by omega),if_neg (by omega),if_neg h23,if_neg h28];exact Qf3 ih b e S M h hl hi
end
def Qkf:List N->Int->Nat
 |[],_=>0
 |x::r,t=>indS x.at_ (x.at_+1) t+Qkf r t
def Qgt:List N->Int->Nat
 |[],_=>0
 |x::r,t=>indS (x.at_+1) x.t t+Qgt r t
def c_le{TL:List Tk}:∀{l:List N} {b e:Int},ItS TL l b e->∀t,Qkf l t+Qgt l t<=indS b e t
 |[],_,_,_,t=>Q49 _
 |x::r,b,e,h,t=>by
  obtain⟨h1,h2⟩:=h;have hle:x.t<=e:=by
   clear h1;induction r generalizing x with
   |nil=>exact h2
   |cons y r ih=>have:=h2.1;have:=ih y h2.2;have:=this;have h3:=h2.1.fr;have h4:=h2.1.lo;have h5:=h2.1.hi;omega
  have:=c_le h2 t;have a1:=Qek (b:=x.at_) (m:=x.at_+1) (m':=x.at_+1) (e:=x.t) (by omega) (Q16 _) (by have:=h1.hi;omega) t;have a2:=Qfx (b:=x.at_) (e:=x.t) (b':=b) (e':=x.t) (by have:=h1.fr;have:=h1.lo;omega) (Q16 _) t;have a3:=Qek (b:=b) (m:=x.t) (m':=x.t) (e:=e) (by have:=h1.fr;have:=h1.lo;have:=h1.hi;omega) (Q16 _) hle t;simp only[Qkf,Qgt];omega
def ItS.le{TL:List Tk}:∀{l:List N} {b e:Int},ItS TL l b e->b<=e
 |[],_,_,h=>h
 |x::r,b,e,h=>by have:=ItS.le h.2;have h3:=h.1.fr;have h4:=h.1.lo;have h5:=h.1.hi;omega
def ItS.get{TL:List Tk}:∀{l:List N} {b e:Int},ItS TL l b e->∀(i:Nat)(x:N),l[i]?=some x->It TL x b x.t/\x.t<=e
 |[],_,_,_,i,x,h=>by simp at h
 |y::r,b,e,h,0,x,hx=>by simp at hx;subst hx;exact⟨h.1,ItS.le h.2⟩
 |y::r,b,e,h,i+1,x,hx=>by obtain⟨h1,h2⟩:=ItS.get h.2 i x (by simpa using hx);have h3:=h.1.fr;have h4:=h.1.lo;have h5:=h.1.hi;exact⟨⟨by have:=h1.fr;omega,h1.lo,h1.hi,h1.to,h1.wd,h1.is⟩,h2⟩
def Qnf{TL:List Tk}:∀(l:List N){b e:Int}(i:Int)(S:SM)(M:List Nm),ItS TL l b e->0<=i->(∀x∈M,x.beg=false/\0<=x.to/\x.to<S.bs.length/\(bAt S.bs x.to).k<3)->
 ∃nb nd,(Wv i l M S).2=⟨S.bs++nb,S.ms,S.bad++nd⟩/\nb.length=l.length/\(∀(j:Nat)(x:N),l[j]?=some x->nb[j]?=some ⟨x.at_,x.k-1,x.w,i+j⟩)/\(∀t,evB nb t<=Qkf l t)/\(∀x∈nd,0<Qkf l x.1)/\
 ∀x∈(Wv i l M S).1,x.beg=false/\0<=x.to/\x.to<(S.bs++nb).length/\(bAt (S.bs++nb) x.to).k<3
 |[],b,e,i,S,M,h,hi,hM=>⟨[],[],by simp[Wv],rfl,by simp,by simp[evB,Qkf],by simp,by simpa[Wv]using hM⟩
 |n::r,b,e,i,S,M,h,hi,hM=>by
  have hk:n.k=2\/n.k=3:=by rcases h.1.is with⟨h,-⟩|⟨h,-⟩<;>simp[h]
  have hstep:Wv i (n::r) M S=Wv (i+1) r (Wx (n.k-1) i n M S).1 (Wx (n.k-1) i n M S).2:=by
   rcases hk with hk|hk
   .simp only[Wv,hk,if_true];rfl
   .simp only[Wv,hk,if_true];rfl
  have hM':∀x∈(Wx (n.k-1) i n M S).1,x.beg=false/\0<=x.to/\x.to<(Wx (n.k-1) i n M S).2.bs.length/\(bAt (Wx (n.k-1) i n M S).2.bs x.to).k<3:=λx hx=>by
   simp only[Wx]at hx⊢;rcases Q2v.1 hx with rfl|hx
   .have hg:bAt (S.bs++[⟨n.at_,n.k-1,n.w,i⟩]) (S.bs.length:Int)=⟨n.at_,n.k-1,n.w,i⟩:=by simp[bAt]
    simp only[SM.bind,hg];exact⟨trivial,by omega,by simp;omega,by omega⟩
   .obtain⟨h1,h2,h3,h4⟩:=hM x hx;simp only[SM.bind,Qla h2 h3];exact⟨h1,h2,by simp;omega,h4⟩
  obtain⟨nb,nd,a1,a2,a3,a4,a5,a6⟩:=Qnf r (i+1) _ _ h.2 (by omega) hM';refine⟨⟨n.at_,n.k-1,n.w,i⟩::nb,(if dupR S.bs n.w M then[(n.at_,31)]else[])++nd,?_,by simp[a2],λj x hx=>?_,λt=>?_,λx hx=>?_,?_⟩
  .rw[hstep,a1];simp only[Wx,SM.bind,Q2g,List.singleton_append]
   congr 1;split<;>simp
  .cases j with
   |zero=>simp at hx;subst hx;simp
   |succ j=>have:=a3 j x (by simpa using hx);rw[Q4u,this];congr 2;omega
  .have e1:evB (⟨n.at_,n.k-1,n.w,i⟩::nb) t=evB [⟨n.at_,n.k-1,n.w,i⟩] t+evB nb t:=Qk9 [_] nb t;rw[e1,Qty];have:=a4 t;have h2:=Qgi (a:=n.at_) (b:=n.at_) (e:=n.at_+1) (t:=t) (Q16 _) (by omega);simp only[Qkf];omega
  .simp only[Qkf];rcases Q2r.1 hx with hx|hx
   .split at hx
    .simp at hx;have h2:=Qgi (a:=n.at_) (b:=n.at_) (e:=n.at_+1) (t:=n.at_) (Q16 _) (by omega);simp only[if_true]at h2;rw[hx];simp only;omega
    .simp at hx
   .have:=a5 x hx;omega
  .rw[hstep];have e2:(Wx (n.k-1) i n M S).2.bs++nb=S.bs++⟨n.at_,n.k-1,n.w,i⟩::nb:=by simp[Wx,SM.bind]
   rw[e2]at a6;exact a6
structure MOk(TL:List Tk)(ks:List N)(bs:List SBd)(m:Mn):Prop where
 kd:kdT TL m.a.toNat=1
 ex:∃(j:Nat)(x:N),ks[j]?=some x/\x.k=3/\x.at_+1<=m.a/\m.a<x.t/\Qog bs (x.at_+1) j m
def MOk.app{TL:List Tk}{ks:List N}{bs:List SBd}{m:Mn}(h:MOk TL ks bs m)(l:List SBd):MOk TL ks (bs++l) m:=by obtain⟨j,x,h1,h2,h3,h4,h5⟩:=h.ex;exact⟨h.kd,j,x,h1,h2,h3,h4,h5.app l⟩
structure BOk(TL:List Tk)(ks:List N)(b:SBd):Prop where
 ex:∃(j:Nat)(x:N),ks[j]?=some x/\x.k=3/\x.at_+1<=b.a/\b.a<x.t/\b.i=j/\3<=b.k/\b.k<=4/\SWd TL b.w b.a
def Qjv{TL:List Tk}{ks:List N}{M:List Nm}:∀(l:List N){b e:Int}(i:Nat)(S:SM),ItS TL l b e->(∀(j:Nat)(x:N),l[j]?=some x->ks[i+j]?=some x)->(∀x∈M,x.beg=false/\0<=x.to/\x.to<S.bs.length/\(bAt S.bs x.to).k<3)->
 ∃nb nm nd,V6 M i l S=⟨S.bs++nb,S.ms++nm,S.bad++nd⟩/\(∀t,evB nb t+evM nm t<=Qgt l t)/\(∀x∈nd,0<Qgt l x.1)/\(∀x∈nb,BOk TL ks x)/\∀m∈nm,MOk TL ks (S.bs++nb) m
 |[],b,e,i,S,h,hk,hM=>⟨[],[],[],by simp[V6],by simp[evB,evM,Qgt],by simp,by simp,by simp⟩
 |n::r,b,e,i,S,h,hk,hM=>by
  have hk':∀(j:Nat)(x:N),r[j]?=some x->ks[i+1+j]?=some x:=λj x hx=>by have:=hk (j+1) x (by simpa using hx);rw[<-this];congr 1;omega
  have hcast:((i+1:Nat):Int)=(i:Int)+1:=by omega
  rcases h.1.is with⟨k2,-⟩|⟨k3,hc⟩
  .obtain⟨nb,nm,nd,a1,a2,a3,a4,a5⟩:=Qjv r (i+1) S h.2 hk' hM;refine⟨nb,nm,nd,?_,λt=>?_,λx hx=>?_,a4,a5⟩
   .simp only[V6];rw[if_neg (by omega),<-hcast];exact a1
   .have:=a2 t;simp only[Qgt];omega
   .have:=a3 x hx;simp only[Qgt];omega
  .have hS:Ys S.bs (n.at_+1) (n.at_+1) i M:=λx hx hb=>by obtain⟨-,h2,h3,h4⟩:=hM x hx;exact⟨h2,h3,.inl h4⟩
   have hw:=Qj4 (TL:=TL) (ks:=n.ks) (λp _=>went p) hc (Q16 _) hS false;obtain⟨nb1,nm1,nd1,b1,b2,b3,b4,b5,b6,b7⟩:=hw.ex;have hM':∀x∈M,x.beg=false/\0<=x.to/\x.to<(Yk i n.ks M false S).bs.length/\(bAt (Yk i n.ks M false S).bs x.to).k<3:=λx hx=>by obtain⟨h1,h2,h3,h4⟩:=hM x hx;rw[b1,Qla h2 h3];exact⟨h1,h2,by simp;omega,h4⟩
   obtain⟨nb,nm,nd,a1,a2,a3,a4,a5⟩:=Qjv r (i+1) _ h.2 hk' hM';have hki:=hk 0 n rfl;rw[Q4g]at hki;refine⟨nb1++nb,nm1++nm,nd1++nd,?_,λt=>?_,λx hx=>?_,λx hx=>?_,λm hm=>?_⟩
   .simp only[V6];rw[if_pos k3,<-hcast,a1,b1,b2,b3];simp only[Q2g]
   .rw[Qk9,Qtx];have:=a2 t;have:=b4 t;simp only[Qgt];omega
   .simp only[Qgt];rcases Q2r.1 hx with hx|hx
    .have:=b7 x hx;omega
    .have:=a3 x hx;omega
   .rcases Q2r.1 hx with hx|hx
    .obtain⟨c1,c2,c3,c4⟩:=b5 x hx;have hpos:0<evB nb1 x.a:=Q36.2 ⟨x,hx,by simp⟩;have:=b4 x.a;obtain⟨d1,d2⟩:=Qip (b:=n.at_+1) (e:=n.t) (t:=x.a) (by omega);exact⟨i,n,hki,k3,d1,d2,c3,c1,c2,c4⟩
    .exact a4 x hx
   .rw[<-Q2g,<-b1];rcases Q2r.1 hm with hm|hm
    .have hpos:0<evM nm1 m.a:=Q36.2 ⟨m,hm,by simp⟩;have:=b4 m.a;obtain⟨d1,d2⟩:=Qip (b:=n.at_+1) (e:=n.t) (t:=m.a) (by omega);exact MOk.app ⟨(b6 m hm).2,i,n,hki,k3,d1,d2,(b6 m hm).1⟩ nb
    .exact a5 m hm
structure Named(TL:List Tk)(n:N)(e:Int)(S:SM):Prop where
 once:∀t,evB S.bs t+evM S.ms t<=indS 0 e t
 tops:∀(j:Nat)(x:N),n.ks[j]?=some x->S.bs[j]?=some ⟨x.at_,x.k-1,x.w,j⟩
 locs:∀(j:Nat)(b:SBd),S.bs[j]?=some b->n.ks.length<=j->BOk TL n.ks b
 ms:∀m∈S.ms,MOk TL n.ks S.bs m
 bad:∀x∈S.bad,0<=x.1/\x.1<e
 len:n.ks.length<=S.bs.length
def named{TL:List Tk}{n:N}{e:Int}(h:ItS TL n.ks 0 e):Named TL n e (allR n):=by
 obtain⟨nb,nd,a1,a2,a3,a4,a5,a6⟩:=Qnf n.ks 0 ⟨[],[],[]⟩ [] h (Q16 _) (by simp);simp only[Q2u]at a1 a6;have hM:∀x∈(Wv 0 n.ks [] ⟨[],[],[]⟩).1,x.beg=false/\0<=x.to/\x.to<(Wv 0 n.ks [] ⟨[],[],[]⟩).2.bs.length/\(bAt (Wv 0 n.ks [] ⟨[],[],[]⟩).2.bs x.to).k<3:=by rw[a1];exact a6
 obtain⟨nb1,nm1,nd1,b1,b2,b3,b4,b5⟩:=Qjv (ks:=n.ks) n.ks 0 _ h (λj x hx=>by rw[Q3i];exact hx) hM;have b1':allR n=_:=b1;simp only[a1]at b1' b5;have hc:=λt=>c_le h t;refine⟨λt=>?_,λj x hx=>?_,λj b hb hj=>?_,?_,λx hx=>?_,?_⟩
 .rw[b1'];simp only[Q2u,Qk9];have:=a4 t;have:=b2 t;have:=hc t;omega
 .have:=a3 j x hx;rw[b1'];simp only;have hj:j<nb.length:=(Q11.1 this).1;rw[Q19 hj,this]
  congr 2;omega
 .rw[b1']at hb;simp only at hb;rw[Q2j (by omega)]at hb;exact b4 b (Q2p hb)
 .rw[b1'];simp only[Q2u];exact b5
 .rw[b1']at hx;simp only at hx;rcases Q2r.1 hx with hx|hx
  .have:=a5 x hx;have:=hc x.1;exact Qip (by omega)
  .have:=b3 x hx;have:=hc x.1;exact Qip (by omega)
 .rw[b1'];simp only[Q2l];omega
end
end Go.Zam
namespace Go.Zam
namespace N
end N
section
variable{L L':List Tk}
end
def Qn6{α:Type}{p:α->Bool}:∀{l:List α} {i j:Nat} {x y:α},l.countP p<=1->l[i]?=some x->l[j]?=some y->p x=true->p y=true->i=j
 |[],i,j,x,y,h,hi,_,_,_=>by simp at hi
 |z::r,i,j,x,y,h,hi,hj,hx,hy=>by
  rw[Q6b]at h;have pos:∀(k:Nat)(u:α),r[k]?=some u->p u=true->0<r.countP p:=λk u hk hu=>Q36.2 ⟨u,Q2p hk,hu⟩;cases i with
  |zero=>
   simp at hi;subst hi;cases j with
   |zero=>rfl
   |succ j=>have:=pos j y (by simpa using hj) hy;rw[hx,if_pos rfl]at h;omega
  |succ i=>
   cases j with
   |zero=>simp at hj;subst hj;have:=pos i x (by simpa using hi) hx;rw[hy,if_pos rfl]at h;omega
   |succ j=>have:=Qn6 (l:=r) (i:=i) (j:=j) (by omega) (by simpa using hi) (by simpa using hj) hx hy;omega
def Use_(F:SM)(q:Nat)(t:Int):Prop:=(∃b,F.bs[q]?=some b/\b.a=t)\/∃m∈F.ms,m.a=t/\m.t=(q:Int)
section
variable{TL L':List Tk}{q:Nat}{name:Bs}{F:SM}{lo it:Int}
end
end Go.Zam
namespace Go.Zam
variable{P:Program}
section
def Qbj{s:Bs}(h:(Qx s).2.2.1=0):∃(m:N)(j:Nat),(Qx s).1=(lexS s).1/\(Qx s).2.1=m/\Qaz (lexS s).1=.ok m j/\m.depth<=60/\(lexS s).2.1=0/\ItS (lexS s).1 m.ks 0 j/\j<=(lexS s).1.length/\Q5 (lexS s).1=(m,0,0):=by
 unfold Qx at h⊢;by_cases h1:(lexS s).2.1=0
 .rw[if_neg (by simp[h1])]at h⊢;by_cases h2:(Q5 (lexS s).1).2.1=0
  .rw[if_neg (by simp[h2])]at h⊢;have hp:Q5 (lexS s).1=Q5 (lexS s).1:=rfl
   conv at h2=>lhs;unfold Q5
   conv at hp=>rhs;unfold Q5
   split at h2
   .simp at h2
   .rename_i hc;rw[if_neg hc]at hp;cases hF:Qaz (lexS s).1 with
    |out=>rw[hF]at h2;simp at h2
    |bad q=>rw[hF]at h2;simp at h2
    |ok m j=>
     rw[hF]at h2 hp;simp only at h2 hp;split at h2
     .simp at h2
     .rename_i hd;rw[if_neg hd]at hp;have hs:=Qp7 (L:=(lexS s).1) (16*(lexS s).1.length+8) (.file []) 0 trivial;have ha:=Yg (L:=(lexS s).1) (16*(lexS s).1.length+8) (.file []) 0;have hF2:=hF;unfold Qaz at hF2;rw[hF2]at hs ha;obtain⟨-,-,a3⟩:=ha;refine⟨m,j,rfl,by rw[hp],rfl,by omega,h1,hs (Q16 _),?_,hp⟩;by_cases hj:0<j
      .exact a3 hj
      .omega
  .rw[if_pos (by simpa using h2)]at h;exact absurd h h2
 .rw[if_pos (by simpa using h1)]at h;exact absurd h h1
def Yv(S:SM)(i:Nat):List Int:=(bAt S.bs i).a::(S.ms.filter λm=>decide (m.t=(i:Int))).map Mn.a
section
variable{TL:List Tk}{n:N}{e:Int}{S:SM}
def Named.item(h:Named TL n e S)(hI:ItS TL n.ks 0 e){j:Nat}{b:SBd}(hb:S.bs[j]?=some b):∃(i:Nat)(x:N),n.ks[i]?=some x/\b.i=i/\x.f<=b.a/\b.a<x.t/\SWd TL b.w b.a/\((b.k<=2/\i=j/\b.a=x.at_/\b.k=x.k-1/\b.w=x.w)\/(3<=b.k/\b.k<=4/\x.k=3/\n.ks.length<=j)):=by
 by_cases hj:j<n.ks.length
 .have hx:=Q12 hj;have:=h.tops j _ hx;rw[hb]at this;cases this
  obtain⟨g,-⟩:=hI.get j _ hx;refine⟨j,_,hx,rfl,g.lo,g.hi,g.wd,.inl ⟨?_,rfl,rfl,rfl,rfl⟩⟩;rcases g.is with⟨h,-⟩|⟨h,-⟩<;>simp only[h]<;>omega
 .obtain⟨i,x,h1,h2,h3,h4,h5,h6,h7,h8⟩:=(h.locs j b hb (by omega)).ex;obtain⟨g,-⟩:=hI.get i _ h1;have:=g.lo;exact⟨i,x,h1,h5,by omega,h4,h8,.inr ⟨h6,h7,h2,by omega⟩⟩
def Named.uses_in(h:Named TL n e S)(hI:ItS TL n.ks 0 e){j:Nat}(hj:j<S.bs.length){t:Int}(ht:t∈Yv S j):0<=t/\t<e/\0<evB S.bs t+evM S.ms t:=by
 have hpos:0<evB S.bs t+evM S.ms t:=by
  unfold Yv at ht;rcases Q2v.1 ht with rfl|ht
  .have:0<evB S.bs (bAt S.bs j).a:=Q36.2 ⟨bAt S.bs j,by unfold bAt;rw[Q31,Q3a,Q12 hj];exact Q20 hj,by simp⟩;omega
  .obtain⟨m,hm,rfl⟩:=Q3c.1 ht;have:0<evM S.ms m.a:=Q36.2 ⟨m,(Q3l.1 hm).1,by simp⟩;omega
 have:=h.once t;obtain⟨a,b⟩:=Qip (b:=0) (e:=e) (t:=t) (by omega);exact⟨a,b,hpos⟩
def Named.uses_kd(h:Named TL n e S)(hI:ItS TL n.ks 0 e){j:Nat}(hj:j<S.bs.length){t:Int}(ht:t∈Yv S j):kdT TL t.toNat=1:=by
 unfold Yv at ht;rcases Q2v.1 ht with rfl|ht
 .have hb:S.bs[j]?=some (bAt S.bs j):=by unfold bAt;rw[Q31,Q3a,Q12 hj];rfl
  obtain⟨i,x,-,-,-,-,hw,-⟩:=h.item hI hb;exact hw.2.2
 .obtain⟨m,hm,rfl⟩:=Q3c.1 ht;exact(h.ms m (Q3l.1 hm).1).kd
def Qsx(S:SM)(k:Nat)(hk:k<S.bs.length)(t:Int):(Yv S k).count t=(if(bAt S.bs k).a=t then 1 else 0)+S.ms.countP λm=>decide (m.t=(k:Int))&&decide (m.a=t):=by
 unfold Yv;rw[List.count_cons,List.count,List.countP_map,List.countP_filter];rw[Q7c];congr 1
 .simp only[beq_iff_eq]
 .refine List.countP_congr λm _=>?_;simp[and_comm]
end
section
variable{L:List Tk}{n:N}{e:Int}{S:SM}{us:List Int}{name:Bs}{q:Nat}
def Qv4(hS:S.bs.length>q)(t:Int):t∈Yv S q↔Use_ S q t:=by
 have hb:S.bs[q]?=some (bAt S.bs q):=by unfold bAt;rw[Q31,Q3a,Q12 hS];rfl
 unfold Yv Use_;constructor
 .intro h;rcases Q2v.1 h with rfl|h
  .exact .inl ⟨_,hb,rfl⟩
  .obtain⟨m,hm,rfl⟩:=Q3c.1 h;obtain⟨hm,ht⟩:=Q3l.1 hm;exact .inr ⟨m,hm,rfl,by simpa using ht⟩
 .rintro(⟨b,h1,rfl⟩|⟨m,hm,rfl,ht⟩)
  .rw[hb]at h1;cases h1;simp
  .exact List.mem_cons_of_mem _ (Q3c.2 ⟨m,Q3l.2 ⟨hm,by simpa using ht⟩,rfl⟩)
end
end
section
open Go.Proofs
structure GdU(u:Un):Prop where
 use:∀b∈u.sm.bs,b.k=1->∃(i:Nat)(x p:N),b.i=i/\u.tr.ks[i]?=some x/\x.ks=[p]/\0<=p.at_/\p.at_<u.tk.length
 df:∀b∈u.sm.bs,b.k=2->∃(i:Nat)(x p:N)(r:List N),b.i=i/\u.tr.ks[i]?=some x/\x.ks=p::r
 pos:∀b∈u.sm.bs,0<=b.a/\b.a<u.tk.length
 bad:∀x∈u.sm.bad,0<=x.1/\x.1<u.tk.length
def ScC.three{L:List Tk}{ks:List N}{b e:Int}(h:ScC L ks b e):∃p q c,ks=[p,q,c]:=by
 match ks with
 |[]=>exact h.elim
 |[_]=>exact h.elim
 |[_,_]=>exact h.elim
 |[p,q,c]=>exact⟨p,q,c,rfl⟩
 |_::_::_::_::_=>exact h.elim
def Qws(m:Mod):GdU (Wk m):=by
 by_cases h0:(Qx m.t).2.2.1=0
 .obtain⟨n,j,h1,h2,h3,h4,h5,hI,hj,h6⟩:=Qbj h0;have hsm:(Wk m).sm=V2 n:=by show(if _ then _ else _)=_;rw[if_pos h0,h2]
  have htr:(Wk m).tr=n:=h2;have htk:(Wk m).tk=(lexS m.t).1:=h1;have hN:=named hI;have hall:=Qm3 n;have hbs:(V2 n).bs=(allR n).bs:=by rw[<-hall];rfl
  have hit:∀b∈(allR n).bs,∃(i:Nat)(x:N),n.ks[i]?=some x/\b.i=i/\0<=b.a/\b.a<(lexS m.t).1.length/\(b.k=1->x.k=2)/\(b.k=2->x.k=3):=by
   intro b hb;obtain⟨q,hq⟩:=Q4r hb;obtain⟨i,x,g1,g2,g3,g4,g5,g6⟩:=hN.item hI hq;have gl:=(hI.get i x g1).2;refine⟨i,x,g1,g2,g5.1,by omega,λe=>?_,λe=>?_⟩
   .rcases g6 with g6|g6
    .omega
    .omega
   .rcases g6 with g6|g6
    .omega
    .omega
  refine⟨λb hb hk=>?_,λb hb hk=>?_,λb hb=>?_,λx hx=>?_⟩
  .rw[hsm,hbs]at hb;obtain⟨i,x,g1,g2,g3,g4,g5,g6⟩:=hit b hb;have gI:=hI.get i x g1;rcases gI.1.is with⟨-,p,p1,p2,p3,p4⟩|⟨e,-⟩
   .refine⟨i,x,p,g2,by rw[htr];exact g1,p1,p4.1,?_⟩;rw[htk];have:=gI.2;omega
   .have:=g5 hk;omega
  .rw[hsm,hbs]at hb;obtain⟨i,x,g1,g2,g3,g4,g5,g6⟩:=hit b hb;have gI:=hI.get i x g1;rcases gI.1.is with⟨e,-⟩|⟨-,hc⟩
   .have:=g6 hk;omega
   .obtain⟨p,q,c,hp⟩:=hc.three;exact⟨i,x,p,_,g2,by rw[htr];exact g1,hp⟩
  .rw[hsm,hbs]at hb;obtain⟨i,x,g1,g2,g3,g4,-⟩:=hit b hb;exact⟨g3,by rw[htk];exact g4⟩
  .rw[hsm]at hx;have hx':x∈(allR n).bad:=by rw[<-hall];exact((Wi Z4 _).2.mem Z4).2 hx
   have:=hN.bad x hx';rw[htk];omega
 .have hsm:(Wk m).sm=⟨[],[],[]⟩:=by show(if _ then _ else _)=_;rw[if_neg h0]
  refine⟨?_,?_,?_,?_⟩<;> .rw[hsm];simp
end
section
open Go.Proofs
def Un.enc_all(u:Un):∃z ms,u.enc=[.str u.n,.str u.t,.sl true 4 (u.tk.map Qp),.int .i64 u.tr.k,.int .i64 u.tr.f,.int .i64 u.tr.t,.str u.tr.w,.int .i64 u.tr.at_,.sl z 6 (u.tr.ks.map N.enc),.sl u.sm.bs.isEmpty 4 (u.sm.bs.map Qw),ms,.sl u.sm.bad.isEmpty 2 (u.sm.bad.map Q2),.int .i64 u.bad,.int .i64 u.pos]:=by obtain⟨n,t,tk,⟨k,f,to,w,a,z,ks⟩,sm,b,p⟩:=u;exact⟨z,.sl sm.ms.isEmpty 4 (sm.ms.map Ya),by simp[Un.enc,N.enc_mk,SM.enc,N.k,N.f,N.t,N.w,N.at_,N.ks]⟩
def N.enc_all(n:N):∃z,n.enc=[.int .i64 n.k,.int .i64 n.f,.int .i64 n.t,.str n.w,.int .i64 n.at_,.sl z 6 (n.ks.map N.enc)]:=by obtain⟨k,f,t,w,a,z,ks⟩:=n;exact⟨z,by simp[N.enc_mk,N.k,N.f,N.t,N.w,N.at_,N.ks]⟩
def modN(u:Un)(b:SBd):N:=match u.tr.ks[b.i.toNat]? with
 |some x=>x.ks.headD N.none
 |none=>N.none
def GdU.mod{u:Un}(h:GdU u){b:SBd}(hb:b∈u.sm.bs)(hk:b.k=1):∃(i:Nat)(x:N),b.i=i/\u.tr.ks[i]?=some x/\x.ks=[modN u b]/\0<=(modN u b).at_/\(modN u b).at_<u.tk.length:=by
 obtain⟨i,x,p,h1,h2,h3,h4⟩:=h.use b hb hk;have:modN u b=p:=by unfold modN;rw[h1,Q31,h2];simp[h3]
 rw[this];exact⟨i,x,h1,h2,h3,h4⟩
def impU(S:List Un)(u:Un)(b:SBd):Bs×Int:=if b.k=1 then((modN u b).w,(Vo S (modN u b).w).elim (-1) λv=>itU b.w v.sm.bs 0 (-1))else([],-1)
def Qtc(P:Program)(f:Nat):Prop:=∀(u:Un)(w:Bs),u.sm.bs.length<=1099511627776->∀H,Qc P f [.agg (u.enc.map .d),YS w] H (λr H'=>r=YI (itU w u.sm.bs 0 (-1))/\H'=H)
def Qep(P:Program)(S:List Un)(f:Nat):Prop:=∀(s:Bs)(H:Hp),Qc P f [pA S,YS s] H (λr H'=>r=.tup [.agg (((Vo S s).elim zU Un.enc).map .d),YB (Vo S s).isSome]/\H'=H)
def Has.pjImp{f unit item tU tBd tIm:Nat}{S:List Un}(h:Has P f (Qk6 unit item tU tBd tIm))(hu:Qep P S unit)(hi:Qtc P item)(hS:∀v∈S,v.sm.bs.length<=1099511627776)(u:Un)(hg:GdU u)(b:SBd)(hb:b∈u.sm.bs)(hlk:u.tr.ks.length<=1099511627776)(H:Hp):
 Qc P f [pA S,.agg (u.enc.map .d),.agg ((Qw b).map .d)] H (λr H'=>r=.agg [YS (impU S u b).1,YI (impU S u b).2]/\H'=H):=by
 refine Qe h (by simp[Qk6]) λO _=>?_;obtain⟨z,ms,he⟩:=u.enc_all;by_cases hk:b.k=1
 .obtain⟨i,x,h1,h2,h3,h4,h5⟩:=hg.mod hb hk;have hI:impU S u b=((modN u b).w,(Vo S (modN u b).w).elim (-1) λv=>itU b.w v.sm.bs 0 (-1)):=by rw[impU,if_pos hk]
  rw[hI];have hil:i<u.tr.ks.length:=(Q11.1 h2).1;have hge:¬((u.tr.ks.length:Int)<=(i:Int)):=by omega
  have hr:Zam.rowAt (u.tr.ks.map N.enc) (i:Int)=some x.enc:=by simp[Zam.rowAt,h2]
  obtain⟨zx,hx⟩:=x.enc_all;obtain⟨zm,hm⟩:=(modN u b).enc_all;rw[h3]at hx;have hun:=hu (modN u b).w;generalize modN u b=m at*;have hr0:∀r:List D,Zam.rowAt [r] 0=some r:=λ_=>rfl;simp[Qk6,he,Qw,hk,h1,hge,hr,hr0,hx,hm];refine Qa (hun _) ?_;cases hv:Vo S m.w with
  |none=>simp[zU];simp[RetK,Qd O]
  |some v=>
   have hvS:v∈S:=by
    unfold Vo at hv;split at hv
    .rename_i v' hv';split at hv
     .cases hv;exact Q2p hv'
     .cases hv
    .cases hv
   have hit:=λX=>hi v b.w (hS v hvS) (H++X);obtain⟨zv,mv,hve⟩:=v.enc_all;rw[hve]at hit;simp only[Q2w,Q25]at hit;simp[hve];refine Qa (hit _) ?_;simp;simp[RetK,Qd O]
 .have hI:impU S u b=([],-1):=by rw[impU,if_neg hk]
  rw[hI];simp[Qk6,he,Qw,hk];simp[RetK,Qd O]
end
section
open Go.Proofs
def Qt8(P:Program)(S:List Un)(z:Bool)(f:Nat):Prop:=∀(s:Bs)(H:Hp),Qc P f [YL z 14 (S.map Un.encR),YS s] H (λr H'=>r=YI (fdU s S 0)/\H'=H)
end
section
open Go.Proofs
def Qzm{H X:Hp}{bx:Ob}{R:List (List D)}{n b sz e:Nat}(r:List D)(hn:R.length=n)(hb:(n+1)*b<=140737488355328):
 appA (H++(bx::.tok n sz e::X)) sz b e [r] (.osl true sz R (H.length+1))=some (.osl true sz (R++[r]) (H.length+1),H++(bx::.tok (n+1) sz e::X)):=by
 subst hn;rw[Qiy (H:=H++(bx::.tok R.length sz e::X)) (t:=H.length+1) (by simp) (by simpa using hb)];simp
def Q0d(P:Program)(S:List Un)(u:Un)(f:Nat):Prop:=∀b∈u.sm.bs,∀H,Qc P f [pA S,.agg (u.enc.map .d),.agg ((Qw b).map .d)] H (λr H'=>r=.agg [YS (impU S u b).1,YI (impU S u b).2]/\H'=H)
end
section
open Go.Proofs
def Cmp.lex{α:Type}{c d:α->α->Int}(hc:Cmp c)(hd:Cmp d):Cmp λx y=>if c x y=0 then d x y else c x y:=by
 have hz:∀x y,c x y=0->c y x=0:=λx y h=>by have h1:=hc.anti x y;have h2:=hc.anti y x;omega
 refine⟨λx=>by simp[hc.refl,hd.refl],λx y=>?_,λx y z h1 h2=>?_⟩
 .have h1:=hc.anti x y;have h2:=hc.anti y x;have h3:=hd.anti x y;show(if c x y=0 then d x y else c x y)<0↔0<(if c y x=0 then d y x else c y x);by_cases h:c x y=0
  .rw[if_pos h,if_pos (hz x y h)];exact h3
  .have:¬c y x=0:=λe=>h (hz y x e);rw[if_neg h,if_neg this];exact h1
 .have h1:(if c x y=0 then d x y else c x y)<=0:=h1;have h2:(if c y z=0 then d y z else c y z)<=0:=h2;show(if c x z=0 then d x z else c x z)<=0;have a1:=hc.anti x y;have a2:=hc.anti y x;have a3:=hc.anti y z;have a4:=hc.anti z y;have a5:=hc.anti x z;have a6:=hc.anti z x;have t1:=hc.trans x y z;have t2:=hc.trans z y x;have t3:=hc.trans y z x;have t4:=hc.trans z x y;have t5:=hd.trans x y z;split at h1<;>split at h2<;>split<;>first|omega|exact t5 h1 h2
section
variable{P:Program}
variable{clone srt stb ins sym rot swp cmpD cmpS nanS cmpI nanI cmpE nanE or_ tD:Nat}
end
end
end Go.Zam
