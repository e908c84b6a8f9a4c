import Derived.Test.YtmaoeidknpnaeaaGreatDoorF5
import Derived.Test.YtmaoeidknpnaeaaGreatDoorF3
import Derived.Sort.Row
import Derived.Sort.Grow
import Derived.Sort.EncStr
import Derived.Laws.AppendOwn
import Derived.Test.YtmaoeidknpnaeaaGreatDoorF4
import Derived.Lib.SlicesCompact
import Derived.Sort.Walk0
import Derived.KernelRfl
set_option linter.all false
set_option maxRecDepth 100000
set_option maxHeartbeats 4000000
namespace Go.Zam
variable{P:Program}
section
def scW0(tp:TypeId):C:=.ops [⟨(some 3),none,.box tp 1 (.t 0)⟩] false
def scW1(tfp:TypeId):C:=.ops [
 ⟨(some 7),none,.load 1 false (.t 3)⟩,
 ⟨(some 8),none,.nilCheck (.t 7)⟩,
 ⟨(some 9),none,.faddr 1 (.t 8)⟩,
 ⟨(some 10),none,.load 1 false (.t 9)⟩,
 ⟨(some 6),none,.alloc tfp [.nilp]⟩,
 ⟨none,none,.store 1 (.t 6) (.t 10)⟩] false
def scWl(res:FuncId):List IOp:=[⟨(some 11),none,.mkfn (.func res) [] [(.t 6),(.t 3)]⟩]
def scW2(tf:TypeId):C:=.seq (.ops [
 ⟨(some 12),none,.load 1 false (.t 3)⟩,
 ⟨(some 13),none,.mkMap⟩,
 ⟨(some 14),none,.mv (.t 1)⟩,
 ⟨(some 15),none,.load 1 false (.t 6)⟩,
 ⟨(some 16),none,.build [.nilm,(.bool false),.nilp] [(0,1,(.t 13)),(1,1,(.t 14)),(2,1,(.t 15))]⟩,
 ⟨(some 17),none,.box tf 3 (.t 16)⟩,
 ⟨(some 18),none,.nilCheck (.t 12)⟩,
 ⟨(some 19),none,.faddr 1 (.t 18)⟩,
 ⟨none,none,.store 1 (.t 19) (.t 17)⟩] false)
 (.ops [
  ⟨(some 20),none,.mv (.t 2)⟩,
  ⟨(some 21),none,.callv (.t 20) []⟩] false)
def HasW(P:Program)(F:SF):Prop:=∃fn,P.funcs[F.within]?=some fn/\Qr6 P [] fn=some (22,scW0 F.tp,scW1 F.tfp,scWl F.res,11,scW2 F.tf)
structure OInv(F:SF)(c:SC)(S:SM)(now:A)(item:Int)(G:Nms)(E:List (Nat×Nat×Frm))(H:Hp):Prop where
 s:SInv F c S now item G H
 ch:Vf F H now E
 off:∀x∈E,(c.off x.1/\x.1≠c.ib/\x.1≠c.g)/\(c.off x.2.1/\x.2.1≠c.ib/\x.2.1≠c.g)
section
variable{P:Program}{F:SF}{c:SC}{S S':SM}{now:A}{item:Int}{G:Nms}{H:Hp}{E:List (Nat×Nat×Frm)}
theorem NInv.o{i m:Nat}{fr:Nms}{lam:Bool}(h:NInv F c S item G i m fr lam E H):OInv F c S (.ptr i 0) item G ((i,m,⟨fr,lam⟩)::E) H:=⟨h.s,h.ch,h.off⟩
theorem OInv.app(h:OInv F c S now item G E H)(X:Hp):OInv F c S now item G E (H++X):=⟨h.s.app X,h.ch.app X,h.off⟩
theorem Qtv(h:SInv F c S now item G H){H':Hp}(hl:H'.length=H.length)(X:Hp):sput F c S' (H'++X)=sput F c S' H'++X:=by obtain⟨a,b,d,e,-⟩:=h.lt;unfold sput;rw[Q05 _ _ (by omega),Q05 _ _ (by simp;omega),Q05 _ _ (by simp;omega),Q05 _ _ (by simp;omega)]
def Vk(F:SF)(c:SC)(now:A)(item:Int)(lam:Bool)(H:Hp):Hp:=(H.set c.ib (.box F.tb [.ptr c.im 0,.ptr (H.length+3) 0,.map c.g,YI item]))++[.box F.tp [.ptr c.ib 0],.box F.tfp [now],.mp [],.box F.tf [.map (H.length+2),YB lam,now]]
theorem Y6{j:Nat}{o:Ob}(hj:H[j]?=some o)(h:j≠c.ib)(item:Int)(lam:Bool):(Vk F c now item lam H)[j]?=some o:=by unfold Vk;exact Wg (by rw[Q01 (Ne.symm h)];exact hj) _
theorem Qd9{lam:Bool}(k:Nat):(Vk F c now item lam H)[H.length+k]?=([.box F.tp [.ptr c.ib 0],.box F.tfp [now],.mp [],.box F.tf [.map (H.length+2),YB lam,now]]:Hp)[k]?:=by unfold Vk;rw[Q1e (by simp)];simp
theorem OInv.inner(h:OInv F c S now item G E H)(lam:Bool):NInv F c S item G (H.length+3) (H.length+2) [] lam E (Vk F c now item lam H):=by
 obtain⟨p1,p2,p3,p4,p5,p6⟩:=h.s.lt;obtain⟨na,nb,nd,ne,nf⟩:=h.s.nd;have hlt:=h.ch.lt;refine⟨⟨Y6 h.s.m na.2.2.2.1 _ _,Y6 h.s.b nb.2.2.1 _ _,Y6 h.s.e nd.2.1 _ _,Y6 h.s.v ne.1 _ _,?_,Y6 h.s.g nf.symm _ _,h.s.nd⟩,?_,λx hx=>?_,by omega,λx hx=>?_⟩
 .unfold Vk;exact Wg (by rw[Q02 p5]) _
 .refine⟨rfl,λx hx=>by have:=(hlt x hx).1;omega,now,Qd9 3,Qd9 2,h.ch.keep λx hx=>?_⟩;have h1:=h.off x hx;have h2:=hlt x hx;exact⟨by rw[Q0x h2.1];exact Y6 (Q0x h2.1) h1.1.2.1 _ _,by rw[Q0x h2.2];exact Y6 (Q0x h2.2) h1.2.2.1 _ _⟩
 .rcases Q1o.1 hx with rfl|hx
  .refine⟨⟨⟨?_,?_,?_,?_⟩,?_,?_⟩,⟨⟨?_,?_,?_,?_⟩,?_,?_⟩⟩<;>simp only<;>omega
  .exact h.off x hx
 .have:=hlt x hx;omega
theorem SHas.within'(hF:SHas P F)(hW:HasW P F)(h:OInv F c S now item G E H)(lam:Bool){g:FuncId}{cap:List A}(hg:Wn P g=true){es:Nms}(hdo:Qc P g cap (Vk F c now item lam H) (λr H2=>r=.tup []/\H2=nput F c S' (H.length+2) es (Vk F c now item lam H))):
 Qc P F.within [.ptr c.ib 0,YB lam,.fn (.func g) [] cap] H (λr H'=>r=.tup []/\H'=sput F c S' H):=by
 obtain⟨fn,hf,hd⟩:=hW;refine Qoq hf hd (by simp) λhcl=>?_;have hi:=h.s.i;have hA:=Wg hi;obtain⟨p1,p2,p3,p4,p5,p6⟩:=h.s.lt;simp only[scW0,scW1,scWl,scW2];simp[hA];refineλ_=>?_;have hnow:(now=.d .nilp/\E=[])\/∃i m f r,E=(i,m,f)::r/\now=.ptr i 0/\i<H.length:=h.ch.val;have hflat:now=.d .nilp\/∃k,now=.ptr k 0:=by
  rcases hnow with⟨h1,-⟩|⟨i,-,-,-,-,h1,-⟩
  .exact .inl h1
  .exact .inr ⟨i,h1⟩
 have step:∀X:Hp,Hp.cut H.length ((nput F c S' (H.length+2) es (Vk F c now item lam H)).set c.ib (.box F.tb [.ptr c.im 0,now,.map c.g,YI item]))=sput F c S' H:=λ_=>by unfold nput Vk;rw[Qtv h.s (by simp),Q2k _ _ (by rw[Yq,Q1x];omega),Q05 _ _ (by rw[Yq,Q1x];exact p5),Qo5 h.s.offI,Q2s,Hp.set_self (by rw[Vy h.s.offI];exact hi)];exact Qip h.s hcl _
 have hN:=(h.inner lam).nput S' es;have q1:(nput F c S' (H.length+2) es (Vk F c now item lam H))[H.length+1]?=some (.box F.tfp [now]):=by unfold nput;rw[Q01 (by omega),Vy ⟨by omega,by omega,by omega,by omega⟩];exact Qd9 1
 have q2:(nput F c S' (H.length+2) es (Vk F c now item lam H))[H.length]?=some (.box F.tp [.ptr c.ib 0]):=by unfold nput;rw[Q01 (by omega),Vy ⟨by omega,by omega,by omega,by omega⟩];exact Qd9 0
 have q3:=hN.s.i;have hres:=hF.res' q1 q2 q3 hflat;have hlen:H.length<=(nput F c S' (H.length+2) es (Vk F c now item lam H)).length:=by rw[Yx];simp[Vk]
 have hst:=step [];unfold Vk at hdo hres hst hlen;have hB:∀X,(H++X).set c.ib (.box F.tb [.ptr c.im 0,.ptr (H.length+3) 0,.map c.g,YI item])=H.set c.ib (.box F.tb [.ptr c.im 0,.ptr (H.length+3) 0,.map c.g,YI item])++X:=λX=>Q05 _ _ p5;rcases hflat with rfl|⟨k,rfl⟩;all_goals
  simp;refine⟨_,_,⟨rfl,rfl⟩,hF.kRes,λ_=>?_⟩;simp[hA,hB];refine⟨hg,Qa hdo ?_⟩;simp;intro κ w vs hr hl hv;refine(hres κ w vs hr hl hv).mono ?_;rintro e u w' ⟨h1,v,κ',H',h2,h3,h4,rfl⟩;exact⟨h1,v,κ',_,h2,h3,h4,H.length,Q00 _,by simpa using hlen,hst⟩
theorem Qmy(h:OInv F c S now item G E H)(X:Hp):sput F c S' (H++X)=sput F c S' H++X:=Qby h.s X
def Qov(P:Program)(F:SF)(n:N):Prop:=∀(c:SC)(S:SM)(item:Int)(G:Nms)(i m:Nat)(fr:Nms)(lam:Bool)(E:List (Nat×Nat×Frm))(H:Hp),NInv F c S item G i m fr lam E H->FOk S.bs.length G->FOk S.bs.length fr->(∀x∈E,FOk S.bs.length x.2.2.es)->
 S.sz+2*n.size<=2199023255552->E.length+n.size<=1099511627775->Qc P F.node [.ptr c.ib 0,n.v] H (λr H'=>r=.tup []/\H'=nput F c (Zw G item n (E.map λx=>x.2.2) fr lam S).2 m (Zw G item n (E.map λx=>x.2.2) fr lam S).1 H)
theorem Qln(G:Nms)(item:Int)(x:N)(E:List Frm)(lam:Bool):∀(l:List N)(fr:Nms)(S:SM),Q7 G item (l++[x]) E fr lam S=Zw G item x E (Q7 G item l E fr lam S).1 lam (Q7 G item l E fr lam S).2
 |[],fr,S=>by rw[Q1s,Qb5,Qc8,Qc8]
 |y::r,fr,S=>by rw[Q1n,Qb5,Qln G item x E lam r,Qb5]
theorem Qjy(item:Int)(x:N):∀(l:List N)(fr:Nms)(S:SM),Wb item (l++[x]) fr S=Yn 3 item x (Wb item l fr S).1 (Wb item l fr S).2
 |[],fr,S=>rfl
 |y::r,fr,S=>by rw[Q1n,Wb,Qjy item x r];rfl
theorem SHas.kids'(hF:SHas P F){k f t:Int}{w:Bs}{a:Int}{z:Bool}{ks:List N}(ih:∀p∈ks,Qov P F p){i m:Nat}{fr:Nms}{lam:Bool}(h:NInv F c S item G i m fr lam E H)(hG:FOk S.bs.length G)(hfr:FOk S.bs.length fr)(hE:∀x∈E,FOk S.bs.length x.2.2.es)(hb:S.sz+2*N.sizes ks≤2199023255552)(hl:E.length+N.sizes ks≤1099511627775):
 Qc P F.kids [.ptr c.ib 0,N.v (.mk k f t w a z ks)] H (fun r H'=>r=.tup []∧H'=nput F c (Q7 G item ks (E.map fun x=>x.2.2) fr lam S).2 m (Q7 G item ks (E.map fun x=>x.2.2) fr lam S).1 H):=by
 refine Qe hF.kids (by simp[Qls]) fun hcl _=>?_;rw[N.v_mk];have hib:=h.s.lt.2.2.2.2.1;have hsl:=N.sizes_len ks;obtain⟨bx,hbx⟩:∃bx,bx=Ob.box F.tn [YI k,YI f,YI t,YS w,YI a,YL z 6 (ks.map N.enc)]:=⟨_,rfl⟩;have hbc:bx.clr (H.length+1)=bx:=by subst hbx;simp
 have hcut1:∀S' fr' X,Hp.cut (H.length+1) (nput F c S' m fr' H++bx::X)=nput F c S' m fr' H++[bx]:=fun S' fr' X=>by
  have e:nput F c S' m fr' H++bx::X=(nput F c S' m fr' (H++[bx]))++X:=by rw[Qai h];simp
  have hcl1:Hp.Closed (H++[bx]):=Closed.snoc hcl fun n hn=>by subst hbx;simp
  have:=Qc5 (S':=S') (fr':=fr') (h.app [bx]) hcl1 X;rw[Q1r,Q2t]at this;rw[e,this,Qai h]
 have hcut0:Hp.cut (H.length+1) (H++[bx])=H++[bx]:=by
  have:=hcut1 S fr [];rw[Qis h]at this;exact this
 simp[Qls];rw[←hbx];refine Qy 0 (fun fr' H'=>H'=nput F c (Q7 G item ks (E.map fun x=>x.2.2) fr lam S).2 m (Q7 G item ks (E.map fun x=>x.2.2) fr lam S).1 H++[bx]) ?_ ?_
 .refine Wt (H.length+1) ks.length (fun j fr' H'=>fr' 0=.ptr c.ib 0∧fr' 7=YL z 6 (ks.map N.enc)∧H'=nput F c (Q7 G item (ks.take j) (E.map fun x=>x.2.2) fr lam S).2 m (Q7 G item (ks.take j) (E.map fun x=>x.2.2) fr lam S).1 H++[bx]) (by omega) (by decide) (by simp) (by simp) ?_ ?_ ?_
  .rw[Q20,Qc8,Qis h];simp[hcut0];omega
  .rintro j fr' H' hj f9 f8 ⟨f0,f7,rfl⟩;have hr:=Qt N.enc hj;have hm:=Q1u hj;have hsz:N.sizes (ks.take j)+(ks[j]).size≤N.sizes ks:=by
    have:ks=ks.take j++ks[j]::ks.drop (j+1):=by rw[Q36];simp
    have e:N.sizes ks=N.sizes (ks.take j)+(ks[j].size+N.sizes (ks.drop (j+1))):=by conv=>lhs;rw[this,N.sizes_app,N.sizes_cons]
    omega
   have hgr:=Qbw (fun p _=>grew p) (ks:=ks.take j) G item (E.map fun x=>x.2.2) fr lam S hfr;have hn1:=h.nput (Q7 G item (ks.take j) (E.map fun x=>x.2.2) fr lam S).2 (Q7 G item (ks.take j) (E.map fun x=>x.2.2) fr lam S).1;have hstep:Q7 G item (ks.take (j+1)) (E.map fun x=>x.2.2) fr lam S=Zw G item ks[j] (E.map fun x=>x.2.2) (Q7 G item (ks.take j) (E.map fun x=>x.2.2) fr lam S).1 lam (Q7 G item (ks.take j) (E.map fun x=>x.2.2) fr lam S).2:=by
    rw[Q1b hj,Qln]
   have ihj:=ih _ hm;generalize ks[j]=x at hr hsz ihj hstep;obtain⟨g1,g2,g3⟩:=hgr;generalize Q7 G item (ks.take j) (E.map fun x=>x.2.2) fr lam S=KP at g1 g2 g3 hn1 hstep⊢;obtain⟨fr1,S1⟩:=KP;simp only at g1 g2 g3 hn1 hstep⊢;have hlen:H.length=(nput F c S1 m fr1 H).length:=Yx.symm;have ihc:=fun X=>ihj c S1 item G i m fr1 lam E _ (hn1.app (bx::X)) (hG.mono g1) g3 (fun x hx=>(hE x hx).mono g1) (by omega) (by omega);obtain⟨k2,f2,t2,w2,a2,z2,ks2⟩:=x;rw[N.enc_mk]at hr;rw[N.v_mk]at ihc;have hk:∀X Y,(nput F c S1 m fr1 H++bx::X)++Y=nput F c S1 m fr1 H++bx::(X++Y):=fun X Y=>by simp
   have hlb:(nput F c S1 m fr1 H++[bx]).length=H.length+1:=by simp[Yx]
   simp[f9,f7,hr,f0];rw[show nput F c S1 m fr1 H++[bx,Ob.box F.tn [YI k2,YI f2,YI t2,YS w2,YI a2,YL z2 6 (ks2.map N.enc)]]=nput F c S1 m fr1 H++bx::[Ob.box F.tn [YI k2,YI f2,YI t2,YS w2,YI a2,YL z2 6 (ks2.map N.enc)]]from rfl];refine Qa (ihc _) ?_;rw[Qai hn1,Qfy h.offM.1];simp;refine Wl (H.length+1) (Q00 _) (by simp[f9,f8,Yx]) ?_;simp[f0,f7,hstep,hcut1];omega
  .rintro fr' H' f9 f8 ⟨f0,f7,rfl⟩;rw[Q09 (Q00 _)];simp
 .rintro fr' H' rfl;simp;simp[RetK,Yx,Qc5 h hcl]
end
end
section
section
variable{P:Program}{F:SF}{c:SC}{S S':SM}{now:A}{item:Int}{G:Nms}{H:Hp}{E:List (Nat×Nat×Frm)}
theorem SHas.closedC'(hF:SHas P F){p q b:N}{z:Bool}(ih:Qov P F b){i m:Nat}{lam:Bool}(h:NInv F c S item G i m [] lam E H)(hG:FOk S.bs.length G)(hE:∀x∈E,FOk S.bs.length x.2.2.es)(hb:S.sz+2*N.sizes [p,q,b]≤2199023255552)(hl:E.length+N.sizes [p,q,b]≤1099511627775){al ab:Nat}(h1:H[al]?=some (.box F.ts [YL z 6 ([p,q,b].map N.enc)]))(h2:H[ab]?=some (.box F.tp [.ptr c.ib 0]))(hoa:(c.off al∧al≠m)∧(c.off ab∧ab≠m)):
 Qc P F.closedC [.ptr al 0,.ptr ab 0] H (fun r H'=>r=.tup []∧H'=nput F c (Zw G item b (E.map fun x=>x.2.2) (Wb item p.ks [] S).1 lam (Wb item p.ks [] S).2).2 m (Zw G item b (E.map fun x=>x.2.2) (Wb item p.ks [] S).1 lam (Wb item p.ks [] S).2).1 H):=by
 refine Qe hF.closedC (by simp[Qe6]) fun hcl _=>?_;have hal:=Wh h1;have hab:=Wh h2;have hps:p.ks.length+b.size+1≤N.sizes [p,q,b]:=by
  simp only[N.sizes_cons,N.sizes_nil];have:=N.sizes_len p.ks;have:=N.size_ks p;omega
 have hr0:Zam.rowAt ([p,q,b].map N.enc) 0=some p.enc:=rfl;have hr2:Zam.rowAt ([p,q,b].map N.enc) 2=some b.enc:=rfl;simp only[Q1q,Q10]at h1 hr0 hr2;have hbe:b.v=.agg (b.enc.map .d):=rfl;have hgr0:=Grew.binds (item:=item) p.ks (FOk.nil S.bs.length);have hn0:=h.nput (Wb item p.ks [] S).2 (Wb item p.ks [] S).1;have ihb:=ih c (Wb item p.ks [] S).2 item G i m (Wb item p.ks [] S).1 lam E _ hn0 (hG.mono hgr0.bs) hgr0.ok (fun x hx=>(hE x hx).mono hgr0.bs) (by have:=hgr0.sz;omega) (by omega);rw[Qfy h.offM.1]at ihb;have hat:∀S' fr' X,(nput F c S' m fr' H++X)[al]?=some (.box F.ts [YL z 6 [p.enc,q.enc,b.enc]])∧(nput F c S' m fr' H++X)[ab]?=some (.box F.tp [.ptr c.ib 0]):=fun S' fr' X=>by
  refine⟨Wg ?_ X,Wg ?_ X⟩
  .unfold nput;rw[Q01 (Ne.symm hoa.1.2),Vy hoa.1.1];exact h1
  .unfold nput;rw[Q01 (Ne.symm hoa.2.2),Vy hoa.2.1];exact h2
 have hat0:∀S' fr',(nput F c S' m fr' H)[al]?=some (.box F.ts [YL z 6 [p.enc,q.enc,b.enc]])∧(nput F c S' m fr' H)[ab]?=some (.box F.tp [.ptr c.ib 0]):=fun S' fr'=>by
  have:=hat S' fr' []
  rwa[Q1i]at this
 have hbs:b.enc.length=6:=by cases b;rw[N.enc_mk];rfl
 obtain⟨pk,pf,pt,pw,pa,pz,pks⟩:=p;rw[N.enc_mk]at h1 hr0 hr2;simp only[N.enc_mk]at hat hat0;simp only[N.ks]at hgr0 hn0 ihb hps⊢;generalize hres:Zw G item b (E.map fun x=>x.2.2) (Wb item pks [] S).1 lam (Wb item pks [] S).2=R at ihb⊢;simp[Qe6,h1,hr0];refine Qy 0 (fun fr' H'=>fr' 0=.ptr al 0∧fr' 1=.ptr ab 0∧H'=nput F c (Wb item pks [] S).2 m (Wb item pks [] S).1 H) ?_ ?_
 .refine Wt H.length pks.length (fun j fr' H'=>fr' 0=.ptr al 0∧fr' 1=.ptr ab 0∧fr' 7=YL pz 6 (pks.map N.enc)∧H'=nput F c (Wb item (pks.take j) [] S).2 m (Wb item (pks.take j) [] S).1 H) (by omega) (by decide) (by simp) (by simp) ?_ ?_ ?_
  .rw[Q20,Wb,Qis h];simp[Qb hcl,hal,hab]
  .rintro j fr' H' hj f9 f8 ⟨f0,f1,f7,rfl⟩;have hr:=Qt N.enc hj;have hgr:=Grew.binds (item:=item) (pks.take j) (FOk.nil S.bs.length);have hn1:=h.nput (Wb item (pks.take j) [] S).2 (Wb item (pks.take j) [] S).1;have hstep:Wb item (pks.take (j+1)) [] S=Yn 3 item pks[j] (Wb item (pks.take j) [] S).1 (Wb item (pks.take j) [] S).2:=by
    rw[Q1b hj,Qjy]
   have hll:(pks.take j).length≤pks.length:=by simp;omega
   obtain⟨ga,gb⟩:=hat0 (Wb item (pks.take j) [] S).2 (Wb item (pks.take j) [] S).1;have gA:=fun X=>(hat (Wb item (pks.take j) [] S).2 (Wb item (pks.take j) [] S).1 X).2;generalize pks[j]=x at hr hstep;obtain⟨g1,g2,g3⟩:=hgr;generalize Wb item (pks.take j) [] S=KP at g1 g2 g3 hn1 hstep ga gb gA⊢;obtain⟨fr1,S1⟩:=KP;simp only at g1 g2 g3 hn1 hstep ga gb gA⊢;have gbind:=fun X=>hF.bind' (hn1.s.app X) (Wg hn1.mp X) ⟨h.offM.1,h.offM.2.1⟩ x 3 (by omega);have hi1:=fun X=>(hn1.s.app X).i;obtain⟨c1,c2,up,c3,c4,c5⟩:=hn1.ch;have hc3:=Wg c3;obtain⟨k2,f2,t2,w2,a2,z2,ks2⟩:=x;rw[N.enc_mk]at hr;rw[N.v_mk]at gbind;have hlen:H.length=(nput F c S1 m fr1 H).length:=Yx.symm;have hlast:∀bx:Ob,(nput F c S1 m fr1 H++[bx])[H.length]?=some bx:=fun bx=>by rw[hlen];simp
   have hpush:∀bx:Ob,(nput F c S1 m fr1 H).length=H.length:=fun _=>Yx;simp[f9,f7,hr,f0,f1,Yx];generalize hX:Ob.box F.tn [YI k2,YI f2,YI t2,YS w2,YI a2,YL z2 6 (ks2.map N.enc)]=bx;have hs0:(nput F c S1 m fr1 H++[Ob.box F.tn [YI 0,YI 0,YI 0,YS [],YI 0,YL true 6 []]]).set H.length bx=nput F c S1 m fr1 H++[bx]:=by rw[hlen,Qo9];simp
   have gb1:=gbind [bx];rw[Qai hn1,Qfy h.offM.1]at gb1;have w1:=gA [bx];have w2':=hi1 [bx];have w3:=hc3 [bx];have w4:=hlast bx;have wl:(nput F c S1 m fr1 H++[bx]).length=H.length+1:=by simp[Yx]
   generalize nput F c S1 m fr1 H++[bx]=W at gb1 w1 w2' w3 w4 wl⊢;subst hX;simp[f1,w1,w2',w3,w4];refine Qfn gb1 ?_;simp;refine Wl H.length (Q00 _) (by simp[f9,f8,Yx]) ?_;simp[f0,f1,f7,hal,hab,hstep,Qc5 h hcl]
  .rintro fr' H' f9 f8 ⟨f0,f1,f7,rfl⟩;rw[Q09 (Q00 _)];simp[f0,f1]
 .rintro fr' H' ⟨f0,f1,rfl⟩;obtain⟨ga,gb⟩:=hat0 (Wb item pks [] S).2 (Wb item pks [] S).1;generalize nput F c (Wb item pks [] S).2 m (Wb item pks [] S).1 H=W at ihb ga gb;simp[f0,f1,ga,gb,hr2];have hbv:(A.agg (b.enc.map .d))=b.v:=rfl;rw[←hbv]at ihb;obtain⟨bk,bf,bt,bw,ba,bz,bks⟩:=b;simp only[N.enc_mk]at ihb⊢;simp at ihb⊢;refine Qfn ihb ?_;simp;simp[RetK,Yx,Qpm h hcl]
theorem SHas.closed'(hF:SHas P F)(hW:HasW P F){ks:List N}{z:Bool}(ih:∀p∈ks,Qov P F p)(h:OInv F c S now item G E H)(lam:Bool)(hG:FOk S.bs.length G)(hE:∀x∈E,FOk S.bs.length x.2.2.es)(hb:S.sz+2*N.sizes ks≤2199023255552)(hl:E.length+N.sizes ks≤1099511627775):
 Qc P F.closed [.ptr c.ib 0,YL z 6 (ks.map N.enc),YB lam] H (fun r H'=>r=.tup []∧H'=sput F c (Yr G item ks (E.map fun x=>x.2.2) lam S) H):=by
 refine Qe hF.closed (by simp[Qd6]) fun hcl _=>?_;by_cases h3:ks.length=3
 .have hks:∃p q b,ks=[p,q,b]:=by
   match ks,h3 with
   |[p,q,b],_=>exact⟨p,q,b,rfl⟩
  obtain⟨p,q,b,rfl⟩:=hks;rw[Qb2];obtain⟨p1,p2,p3,p4,p5,p6⟩:=h.s.lt;have hO:=h.app [.box F.tp [.ptr c.ib 0],.box F.ts [YL z 6 ([p,q,b].map N.enc)]];have hin:=hO.inner lam;have hL:(H++[Ob.box F.tp [.ptr c.ib 0],.box F.ts [YL z 6 ([p,q,b].map N.enc)]]:Hp).length=H.length+2:=by simp
  have a1:(H++[Ob.box F.tp [.ptr c.ib 0],.box F.ts [YL z 6 ([p,q,b].map N.enc)]]:Hp)[H.length+1]?=some (.box F.ts [YL z 6 ([p,q,b].map N.enc)]):=by simp
  have a2:(H++[Ob.box F.tp [.ptr c.ib 0],.box F.ts [YL z 6 ([p,q,b].map N.enc)]]:Hp)[H.length]?=some (.box F.tp [.ptr c.ib 0]):=by simp
  have gd:=hF.closedC' (z:=z) (ih b (by simp)) hin hG hE hb hl (Y6 a1 (by omega) _ _) (Y6 a2 (by omega) _ _) (by rw[hL];refine⟨⟨⟨?_,?_,?_,?_⟩,?_⟩,⟨⟨?_,?_,?_,?_⟩,?_⟩⟩<;>omega);have gw:=hF.within' hW hO lam hF.kClosedC gd;rw[Qmy h]at gw;simp only[Q1q,Q10]at gw⊢;simp[Qd6];refine Qa gw ?_;simp;simp[RetK,Yq,Qip h.s hcl]
 .rw[Qex _ _ h3,Qfu h.s];have h3':¬((ks.length:Int)=3):=by omega
  simp[Qd6,h3'];simp[RetK,Qd hcl]
theorem SHas.node'(hF:SHas P F)(hW:HasW P F)(n:N):Qov P F n:=by
 induction n using N.ind with
 |h k f t w a z ks ih=>
 intro c S item G i m fr lam E H h hG hfr hE hb hl;refine Qe hF.node (by simp[Qbd]) fun hcl _=>?_;rw[N.size_mk]at hb hl;obtain⟨p1,p2,p3,p4,p5,p6⟩:=h.s.lt;obtain⟨bb,hbb⟩:∃bb,bb=Ob.box F.tp [.ptr c.ib 0]:=⟨_,rfl⟩;obtain⟨bx,hbx⟩:∃bx,bx=Ob.box F.tn [YI k,YI f,YI t,YS w,YI a,YL z 6 (ks.map N.enc)]:=⟨_,rfl⟩;have hA:=h.app [bb,bx];have a1:(H++[bb,bx]:Hp)[H.length+1]?=some bx:=by simp
 have a2:(H++[bb,bx]:Hp)[H.length]?=some bb:=by simp
 have hE':∀x∈(i,m,(⟨fr,lam⟩:Frm))::E,FOk S.bs.length x.2.2.es:=fun x hx=>by
  rcases Q1o.1 hx with rfl|hx
  .exact hfr
  .exact hE x hx
 have hmap:((i,m,(⟨fr,lam⟩:Frm))::E).map (fun x=>x.2.2)=⟨fr,lam⟩::E.map fun x=>x.2.2:=rfl;have hfin:∀S' fr' X,Hp.cut H.length (nput F c S' m fr' H++X)=nput F c S' m fr' H:=fun S' fr' X=>Qc5 h hcl X;have hi:=hA.s.i;rw[Qlh];by_cases h6:k=6
 .rw[if_pos h6];subst h6;have hO:=hA.o;have hin:=hO.inner false;have gk:=hF.kids' (k:=6) (f:=f) (t:=t) (w:=w) (a:=a) (z:=z) ih hin hG (FOk.nil _) hE' (by omega) (by simp only[Q1d];omega);rw[hmap]at gk;have gd:Qc P F.nodeC [.ptr H.length 0,.ptr (H.length+1) 0] (Vk F c (.ptr i 0) item false (H++[bb,bx])) (fun r H2=>r=.tup []∧H2=nput F c (Q7 G item ks (⟨fr,lam⟩::E.map fun x=>x.2.2) [] false S).2 ((H++[bb,bx]:Hp).length+2) (Q7 G item ks (⟨fr,lam⟩::E.map fun x=>x.2.2) [] false S).1 (Vk F c (.ptr i 0) item false (H++[bb,bx]))):=by
   refine Qe hF.nodeC (by simp[Qi1]) fun hcl2 _=>?_;have b1:=Y6 (F:=F) (now:=.ptr i 0) a1 (by omega:H.length+1≠c.ib) item false;have b2:=Y6 (F:=F) (now:=.ptr i 0) a2 (by omega:H.length≠c.ib) item false;rw[hbx,hbb]at b1 b2;rw[N.v_mk]at gk;have hcut:=Qpm (S':=(Q7 G item ks (⟨fr,lam⟩::E.map fun x=>x.2.2) [] false S).2) (fr':=(Q7 G item ks (⟨fr,lam⟩::E.map fun x=>x.2.2) [] false S).1) hin hcl2;generalize Q7 G item ks (⟨fr,lam⟩::E.map fun x=>x.2.2) [] false S=R at gk hcut⊢;rw[hbx,hbb]at gk hcut⊢;generalize Vk F c (.ptr i 0) item false (H++[Ob.box F.tp [.ptr c.ib 0],Ob.box F.tn [YI 6,YI f,YI t,YS w,YI a,YL z 6 (ks.map N.enc)]])=W at b1 b2 gk hcut⊢;simp[Qi1,b1,b2];simp at gk;refine Qa gk ?_;simp at hcut⊢;simp[RetK,Yx,hcut]
  have gw:=hF.within' hW hO false hF.kNodeC gd;rw[Qmy h.o]at gw;have hfin':=hfin (Q7 G item ks (⟨fr,lam⟩::E.map fun x=>x.2.2) [] false S).2 fr [bb,bx];rw[Qfx h]at hfin';rw[Qfx h];generalize Q7 G item ks (⟨fr,lam⟩::E.map fun x=>x.2.2) [] false S=R at gw hfin'⊢;subst hbb;subst hbx;rw[N.v_mk];simp[Qbd];refine Qa gw ?_;simp;simp[RetK,Yq,hfin']
 rw[if_neg h6];have gk:=hF.kids' (k:=k) (f:=f) (t:=t) (w:=w) (a:=a) (z:=z) ih hA hG hfr hE (by omega) (by omega);by_cases h7:k=7
 .rw[if_pos h7];subst h7;have hgr:=Qbw (fun p _=>grew p) (ks:=ks) G item (E.map fun x=>x.2.2) fr lam S hfr;have hN:=hA.nput (Q7 G item ks (E.map fun x=>x.2.2) fr lam S).2 (Q7 G item ks (E.map fun x=>x.2.2) fr lam S).1;have gb:=hF.bind' hN.s hN.mp ⟨h.offM.1,h.offM.2.1⟩ (.mk 7 f t w a z ks) 4 (by have:=hgr.sz;omega);rw[Qfy h.offM.1]at gb;have b0:(nput F c (Q7 G item ks (E.map fun x=>x.2.2) fr lam S).2 m (Q7 G item ks (E.map fun x=>x.2.2) fr lam S).1 (H++[bb,bx]))[H.length]?=some bb:=by rw[Qai h,←Yx (F:=F) (c:=c) (S:=(Q7 G item ks (E.map fun x=>x.2.2) fr lam S).2) (m:=m) (fr:=(Q7 G item ks (E.map fun x=>x.2.2) fr lam S).1)];simp
  have b1:(nput F c (Q7 G item ks (E.map fun x=>x.2.2) fr lam S).2 m (Q7 G item ks (E.map fun x=>x.2.2) fr lam S).1 (H++[bb,bx]))[H.length+1]?=some bx:=by rw[Qai h,←Yx (F:=F) (c:=c) (S:=(Q7 G item ks (E.map fun x=>x.2.2) fr lam S).2) (m:=m) (fr:=(Q7 G item ks (E.map fun x=>x.2.2) fr lam S).1)];simp
  have b2:=hN.s.i;obtain⟨-,-,up,b3,-,-⟩:=hN.ch;have hfin':=hfin (Yn 4 item (.mk 7 f t w a z ks) (Q7 G item ks (E.map fun x=>x.2.2) fr lam S).1 (Q7 G item ks (E.map fun x=>x.2.2) fr lam S).2).2 (Yn 4 item (.mk 7 f t w a z ks) (Q7 G item ks (E.map fun x=>x.2.2) fr lam S).1 (Q7 G item ks (E.map fun x=>x.2.2) fr lam S).2).1 [bb,bx];generalize Q7 G item ks (E.map fun x=>x.2.2) fr lam S=R at gk gb b0 b1 b2 b3 hfin'⊢;rw[N.v_mk]at gk gb⊢;generalize Yn 4 item (.mk 7 f t w a z ks) R.1 R.2=R2 at gb hfin'⊢;subst hbb;subst hbx;simp[Qbd];refine Qa gk ?_;generalize nput F c R.2 m R.1 (H++_)=W at gb b0 b1 b2 b3⊢;simp[b0,b1,b2,b3];refine Qfn gb ?_;rw[Qai h];simp;simp[RetK,Yx,hfin']
 rw[if_neg h7];have hff:N.w (.mk k f t w a z ks)=w:=rfl;by_cases h8:k=8
 .rw[if_pos h8];subst h8;have gm:=hF.mention' hA.s hA.ch (.mk 8 f t w a z ks) true (by simp only[Q1d];omega) (by omega) hG hE';rw[hmap,hff]at gm;have hN:=hA.put (S.men (.mk 8 f t w a z ks) true (Ym G w (⟨fr,lam⟩::E.map fun x=>x.2.2) 0));have hms:=SM.men_sz S (.mk 8 f t w a z ks) true (Ym G w (⟨fr,lam⟩::E.map fun x=>x.2.2) 0);have gk2:=hF.kids' (k:=8) (f:=f) (t:=t) (w:=w) (a:=a) (z:=z) ih hN hG hfr hE (by omega) (by omega);have b0:(sput F c (S.men (.mk 8 f t w a z ks) true (Ym G w (⟨fr,lam⟩::E.map fun x=>x.2.2) 0)) (H++[bb,bx]))[H.length]?=some bb:=by rw[Vy ⟨by omega,by omega,by omega,by omega⟩];exact a2
  have b1:(sput F c (S.men (.mk 8 f t w a z ks) true (Ym G w (⟨fr,lam⟩::E.map fun x=>x.2.2) 0)) (H++[bb,bx]))[H.length+1]?=some bx:=by rw[Vy ⟨by omega,by omega,by omega,by omega⟩];exact a1
  generalize S.men (.mk 8 f t w a z ks) true (Ym G w (⟨fr,lam⟩::E.map fun x=>x.2.2) 0)=S1 at gm gk2 b0 b1⊢;have e1:∀S' fr',nput F c S' m fr' (sput F c S1 (H++[bb,bx]))=nput F c S' m fr' H++[bb,bx]:=fun S' fr'=>by
   rw[←Qai h];unfold nput;rw[Qft]
  rw[e1]at gk2;have hfin':=hfin (Q7 G item ks (E.map fun x=>x.2.2) fr lam S1).2 (Q7 G item ks (E.map fun x=>x.2.2) fr lam S1).1 [bb,bx];generalize Q7 G item ks (E.map fun x=>x.2.2) fr lam S1=R at gk2 hfin'⊢;rw[N.v_mk]at gm gk2⊢;subst hbb;subst hbx;simp[Qbd];refine Qa gm ?_;generalize sput F c S1 (H++_)=W at gk2 b0 b1⊢;simp[b0,b1];refine Qa gk2 ?_;simp;simp[RetK,Yx,hfin']
 rw[if_neg h8];by_cases h9:k=23
 .rw[if_pos h9];subst h9;have gm:=hF.mention' hA.s hA.ch (.mk 23 f t w a z ks) false (by simp only[Q1d];omega) (by omega) hG hE';rw[hmap,hff,Qby h.s]at gm;have hfin':=hfin (S.men (.mk 23 f t w a z ks) false (Ym G w (⟨fr,lam⟩::E.map fun x=>x.2.2) 0)) fr [bb,bx];rw[Qfx h]at hfin'⊢;generalize S.men (.mk 23 f t w a z ks) false (Ym G w (⟨fr,lam⟩::E.map fun x=>x.2.2) 0)=S1 at gm hfin'⊢;rw[N.v_mk]at gm⊢;subst hbb;subst hbx;simp[Qbd];refine Qa gm ?_;simp;simp[RetK,Yq,hfin']
 rw[if_neg h9];by_cases h10:k=28
 .rw[if_pos h10];subst h10;have gc:=hF.closed' hW (z:=z) ih hA.o true hG hE' (by omega) (by simp only[Q1d];omega);rw[hmap,Qby h.s]at gc;have hfin':=hfin (Yr G item ks (⟨fr,lam⟩::E.map fun x=>x.2.2) true S) fr [bb,bx];rw[Qfx h]at hfin'⊢;generalize Yr G item ks (⟨fr,lam⟩::E.map fun x=>x.2.2) true S=S1 at gc hfin'⊢;rw[N.v_mk];subst hbb;subst hbx;simp[Qbd];refine Qa gc ?_;simp;simp[RetK,Yq,hfin']
 rw[if_neg h10];rw[Qai h]at gk;have hfin':=hfin (Q7 G item ks (E.map fun x=>x.2.2) fr lam S).2 (Q7 G item ks (E.map fun x=>x.2.2) fr lam S).1 [bb,bx];generalize Q7 G item ks (E.map fun x=>x.2.2) fr lam S=R at gk hfin'⊢;rw[N.v_mk]at gk⊢;subst hbb;subst hbx;simp[Qbd,h6,h7,h8,h9,h10];refine Qa gk ?_;simp;simp[RetK,Yx,hfin']
end
end
section
theorem Qmd:Cmp V5 where
 refl x:=by simp[V5]
 anti x y:=by unfold V5;constructor<;>intro h<;>(split at h<;>split<;>try split)<;>(try split at h)<;>(try omega)<;>simp_all<;>omega
 trans x y z h1 h2:=by
  unfold V5 at*
  (repeat' split at h1)<;>(repeat' split at h2)<;>(repeat' split)<;>omega
def cBad(a b:Int×Int):Int:=V5 a.1 b.1
theorem Z0:Cmp cBad:=Cmp.on (α:=Int×Int) Qmd Prod.fst
def Vz(n:N):SM:=⟨(allP n).bs,(allP n).ms,ssort cBad (allP n).bad⟩
theorem Qdz(x:N):∀(l:List N)(i:Int)(G:Nms)(S:SM),W7 i (l++[x]) G S=(if x.k=2 then Yn 1 (i+l.length) x (W7 i l G S).1 (W7 i l G S).2 else if x.k=3 then Yn 2 (i+l.length) x (W7 i l G S).1 (W7 i l G S).2 else W7 i l G S)
 |[],i,G,S=>by simp only[Q1s,W7,Q15,Q3y,Q4t]
 |y::r,i,G,S=>by
  have e:i+1+(r.length:Int)=i+((y::r).length:Int):=by simp;omega
  simp only[Q1n,W7];split
  .rw[Qdz x r,e]
  .split
   .rw[Qdz x r,e]
   .rw[Qdz x r,e]
theorem Qma(G:Nms)(x:N):∀(l:List N)(i:Int)(S:SM),Zo G i (l++[x]) S=(if x.k=3 then Yr G (i+l.length) x.ks [] false (Zo G i l S)else Zo G i l S)
 |[],i,S=>by simp only[Q1s,Zo,Q15,Q3y,Q4t]
 |y::r,i,S=>by
  have e:i+1+(r.length:Int)=i+((y::r).length:Int):=by simp;omega
  simp only[Q1n,Zo];rw[Qma G x r,e]
theorem Qbq:∀(l:List N)(i:Int)(G:Nms)(S:SM),FOk S.bs.length G->Grew S (W7 i l G S).2 l.length (W7 i l G S).1
 |[],i,G,S,h=>⟨Q00 _,by simp[W7],h⟩
 |n::r,i,G,S,h=>by
  simp only[W7,Q1d];have step:∀k:Int,Grew S (W7 (i+1) r (Yn k i n G S).1 (Yn k i n G S).2).2 (r.length+1) (W7 (i+1) r (Yn k i n G S).1 (Yn k i n G S).2).1:=λk=>by have h1:=Grew.bind h k i n;have h2:=Qbq r (i+1) _ _ h1.ok;refine⟨Q2b h1.bs h2.bs,?_,h2.ok⟩;have:=h1.sz;have:=h2.sz;omega
  split
  .exact step 1
  .split
   .exact step 2
   .have h2:=Qbq r (i+1) G S h;exact⟨h2.bs,by have:=h2.sz;omega,h2.ok⟩
theorem Qdp(G:Nms):∀(l:List N)(i:Int)(S:SM),S.bs.length<=(Zo G i l S).bs.length/\(Zo G i l S).sz<=S.sz+2*N.sizes l
 |[],i,S=>by simp[Zo]
 |n::r,i,S=>by
  simp only[Zo,N.sizes_cons];have h1:=Qjq (ks:=n.ks) (λp _=>grew p) G i [] false S;have h3:=N.size_ks n;split
  .have h2:=Qdp G r (i+1) (Yr G i n.ks [] false S);omega
  .have h2:=Qdp G r (i+1) S;omega
def scC(L:Nat):SC:=⟨L+5,L+2,L+3,L+4,L+7,L+6⟩
def scY(F:SF)(L:Nat)(bx:Ob)(S:SM)(G:Nms)(it:Int):Hp:=[bx,.box F.tm [YL true 4 [],YL true 4 [],YL true 2 []],.tok S.bs.length 4 F.bd,.tok S.ms.length 4 F.mn,.vec 2 F.ed S.bad.length (S.bad.map Q2),mbox F (scC L) S,.mp (Vu G),.box F.tb [.ptr (L+5) 0,.d .nilp,.map (L+6),YI it]]
section
variable{P:Program}{F:SF}{S S':SM}{G G':Nms}{H:Hp}{it:Int}{bx:Ob}
theorem Qst(X:Hp):SInv F (scC H.length) S (.d .nilp) it G (H++(scY F H.length bx S G it++X)):=by
 refine⟨?_,?_,?_,?_,?_,?_,?_⟩
 .simp only[scC,scY,Q1n,Q1s,Qv];rfl
 .simp only[scC,scY,Q1n,Q1s,Qv];rfl
 .simp only[scC,scY,Q1n,Q1s,Qv];rfl
 .simp only[scC,scY,Q1n,Q1s,Qv];rfl
 .simp only[scC,scY,Q1n,Q1s,Qv];rfl
 .simp only[scC,scY,Q1n,Q1s,Qv];rfl
 .simp only[scC];omega
theorem Qvm(X:Hp):nput F (scC H.length) S' (H.length+6) G' (H++(scY F H.length bx S G it++X))=H++(scY F H.length bx S' G' it++X):=by simp only[nput,sput,scC,scY,Q1n,Q1s,Zh];rfl
theorem Qvl(X:Hp):sput F (scC H.length) S' (H++(scY F H.length bx S G it++X))=H++(scY F H.length bx S' G it++X):=by simp only[sput,scC,scY,Q1n,Q1s,Zh];rfl
theorem Qj8(hcl:H.Closed)(hbx:∀n,bx.clr n=bx)(X:Hp):Hp.cut (H.length+8) (H++(scY F H.length bx S G it++X))=H++scY F H.length bx S G it:=by
 rw[Qk hcl];have:((scY F H.length bx S G it++X).take 8)=scY F H.length bx S G it:=by simp[scY]
 rw[this];simp only[scY,Q1q,Q10,hbx,Qgu];rw[Qpo (by simp[scC]) (by simp[scC]) (by simp[scC])];simp
def Qrg(srt cmp:FuncId):C:=.seq (.ops [
 ⟨(some 65),none,.faddr 2 (.t 3)⟩,
 ⟨(some 66),none,.load 1 false (.t 65)⟩,
 ⟨(some 67),none,.call srt [(.t 66),(.c (.fn cmp))]⟩] false)
 (.seq (.ops [
  ⟨(some 68),none,.load 3 true (.t 3)⟩,
  ⟨none,none,.store 3 (.t 2) (.t 68)⟩] false)
 (.ret))
theorem SHas.ofW(hF:SHas P F)(hW:HasW P F){fof:FuncId}(hof:HasT P [5000003,8200003,6000034,6000043] fof (Qlr F.bind F.closed F.srt F.cmp F.tn F.tm F.tb F.bd F.mn F.ed)){k f t:Int}{w:Bs}{a:Int}{z:Bool}{ks:List N}(hn:N.sizes ks≤68719476736)(q:Nat)(K:A→Hp→Prop)(hq:H.Closed→∀(it:Int) (fr:Fr),fr 3=.ptr (H.length+5) 0→fr 2=.ptr (H.length+1) 0→AWp P H.length (Qrg F.srt F.cmp) (Fin [.cell 2 3 true] (H.length+q) K) fr
 (H++scY F H.length (.box F.tn [YI k,YI f,YI t,YS w,YI a,YL z 6 (ks.map N.enc)]) (Zo (W7 0 ks [] ⟨[],[],[]⟩).1 0 ks (W7 0 ks [] ⟨[],[],[]⟩).2) (W7 0 ks [] ⟨[],[],[]⟩).1 it)):
 Qc P fof [N.v (.mk k f t w a z ks)] H K:=by
 obtain⟨fn,hf,hcf⟩:=hof;refine Z8 q hf hcf (by simp[Qlr]) fun hcl _=>?_;have hq:=hq hcl;rw[N.v_mk];have hsl:=N.sizes_len ks;obtain⟨bx,hbx⟩:∃bx,bx=Ob.box F.tn [YI k,YI f,YI t,YS w,YI a,YL z 6 (ks.map N.enc)]:=⟨_,rfl⟩;have hbc:∀n,bx.clr n=bx:=fun n=>by subst hbx;simp
 rw[←hbx]at hq;simp[Qlr];rw[←hbx];have hstart:(H++[bx,.box F.tm [YL true 4 [],YL true 4 [],YL true 2 []],.tok 0 4 F.bd,.tok 0 4 F.mn,.vec 2 F.ed 0 [],.box F.tm [.osl true 4 [] (H.length+2),.osl true 4 [] (H.length+3),.vsl (H.length+4) 0 0],.mp [],.box F.tb [.ptr (H.length+5) 0,.d .nilp,.map (H.length+6),YI 0]]:Hp)=H++scY F H.length bx ⟨[],[],[]⟩ [] 0:=rfl;rw[hstart];have hbx1:∀S G it X,(H++(scY F H.length bx S G it++X))[H.length]?=some bx:=fun S G it X=>by simp only[scY,Q1n,Vt];rfl
 refine Qy 0 (fun fr' H'=>fr' 1=.ptr H.length 0∧fr' 2=.ptr (H.length+1) 0∧fr' 3=.ptr (H.length+5) 0∧fr' 4=.ptr (H.length+7) 0∧∃it,H'=H++scY F H.length bx (W7 0 ks [] ⟨[],[],[]⟩).2 (W7 0 ks [] ⟨[],[],[]⟩).1 it) ?_ ?_
 .refine Wt (H.length+8) ks.length (fun j fr' H'=>fr' 1=.ptr H.length 0∧fr' 2=.ptr (H.length+1) 0∧fr' 3=.ptr (H.length+5) 0∧fr' 4=.ptr (H.length+7) 0∧fr' 13=YL z 6 (ks.map N.enc)∧∃it,H'=H++scY F H.length bx (W7 0 (ks.take j) [] ⟨[],[],[]⟩).2 (W7 0 (ks.take j) [] ⟨[],[],[]⟩).1 it) (by omega) (by decide) (by simp[scY]) (by simp) ?_ ?_ ?_
  .have hc0:=Qj8 (F:=F) (S:=⟨[],[],[]⟩) (G:=[]) (it:=0) hcl hbc [];rw[Q1i]at hc0;rw[Q20];refine⟨by simp,by simp,by simp,by simp,by simp,0,?_⟩;rw[hc0];rfl
  .rintro j fr' H' hj f9 f8 ⟨f1,f2,f3,f4,f13,it,rfl⟩;have hr:=Qt N.enc hj;have hll:(ks.take j).length=j:=by simp;omega
   have hgr:=Qbq (ks.take j) 0 [] ⟨[],[],[]⟩ (FOk.nil _);have hstep:=Qdz ks[j] (ks.take j) 0 [] ⟨[],[],[]⟩;rw[←Q1b hj,hll,Q4d]at hstep;generalize ks[j]=x at hr hstep;obtain⟨g1,g2,g3⟩:=hgr;have hz:SM.sz ⟨[],[],[]⟩=0:=rfl;rw[hll,hz]at g2;generalize W7 0 (ks.take j) [] ⟨[],[],[]⟩=TP at g1 g2 g3 hstep⊢;obtain⟨G1,S1⟩:=TP;simp only at g1 g2 g3 hstep⊢;obtain⟨k2,f2',t2,w2,a2,z2,ks2⟩:=x;have gb:=fun(X:Hp)(kind:Int)=>hF.bind' (Qst (F:=F) (bx:=bx) (S:=S1) (G:=G1) (it:=(j:Int)) (H:=H) X) (m:=H.length+6) (es:=G1) (by simp only[scY,Q1n,Q1s,Qv];rfl) ⟨⟨by simp only[scC];omega,by simp only[scC];omega,by simp only[scC];omega,by simp only[scC];omega⟩,by simp only[scC];omega⟩ (.mk k2 f2' t2 w2 a2 z2 ks2) kind (by omega);simp only[Qvm]at gb;have hcut:=fun(S':SM)(G':Nms) X=>Qj8 (F:=F) (S:=S') (G:=G') (it:=(j:Int)) hcl hbc X;rw[N.enc_mk]at hr;rw[N.v_mk]at gb;have e7:∀(S:SM)(G:Nms)(it:Int) X,(scY F H.length bx S G it++X)[7]?=some (.box F.tb [.ptr (H.length+5) 0,.d .nilp,.map (H.length+6),YI it]):=fun _ _ it X=>rfl;have e8:∀(S:SM)(G:Nms)(it:Int)(x:Ob),(scY F H.length bx S G it++[x])[8]?=some x:=fun _ _ it x=>rfl;have s8:∀(it:Int)(x y:Ob),(scY F H.length bx S1 G1 it++[x]).set 8 y=scY F H.length bx S1 G1 it++[y]:=fun it x y=>rfl;have s7:∀(it:Int) X,(scY F H.length bx S1 G1 it++X).set 7 (.box F.tb [.ptr (H.length+5) 0,.d .nilp,.map (H.length+6),YI j])=scY F H.length bx S1 G1 (j:Int)++X:=fun it X=>rfl;have lY:∀S G it,(scY F H.length bx S G it).length=8:=fun _ _ _=>rfl;simp[f9,f13,hr,f4,lY,e7,e8,s8,s7,-getElem?_pos];have nxt:∀(S':SM)(G':Nms)(fr2:Fr)(X:Hp),fr2 15=YI j→fr2 14=YI ks.length→fr2 1=.ptr H.length 0→fr2 2=.ptr (H.length+1) 0→fr2 3=.ptr (H.length+5) 0→fr2 4=.ptr (H.length+7) 0→fr2 13=YL z 6 (ks.map N.enc)→W7 0 (ks.take (j+1)) [] ⟨[],[],[]⟩=(G',S')→
    Qmm (fun j fr' H'=>fr' 1=.ptr H.length 0∧fr' 2=.ptr (H.length+1) 0∧fr' 3=.ptr (H.length+5) 0∧fr' 4=.ptr (H.length+7) 0∧fr' 13=YL z 6 (ks.map N.enc)∧∃it,H'=H++scY F H.length bx (W7 0 (ks.take j) [] ⟨[],[],[]⟩).2 (W7 0 (ks.take j) [] ⟨[],[],[]⟩).1 it) .mk (H.length+8) ks.length 15 14 44 j fr2 (H++(scY F H.length bx S' G' (j:Int)++X)):=fun S' G' fr2 X u15 u14 u1 u2 u3 u4 u13 hst=>by
    refine Wl (H.length+8) (Q00 _) (by simp[lY,u15,u14]) ?_;refine⟨by simp[u1],by simp[u2],by simp[u3],by simp[u4],by simp[u13],j,?_⟩;rw[hcut,hst]
   by_cases h2:k2=2
   .subst h2;rw[if_pos (show(N.mk 2 f2' t2 w2 a2 z2 ks2).k=2 from rfl)]at hstep;have gb1:=gb [Ob.box F.tn [YI 2,YI f2',YI t2,YS w2,YI a2,YL z2 6 (ks2.map N.enc)]] 1;simp[f4,e7,e8,-getElem?_pos];refine Qfn gb1 ?_;simp;refine nxt _ _ _ _ (by simp[f9]) (by simp[f8]) (by simp[f1]) (by simp[f2]) (by simp[f3]) (by simp[f4]) (by simp[f13]) ?_;rw[hstep]
   .by_cases h3:k2=3
    .subst h3;rw[if_neg (show¬(N.mk 3 f2' t2 w2 a2 z2 ks2).k=2 from h2),if_pos (show(N.mk 3 f2' t2 w2 a2 z2 ks2).k=3 from rfl)]at hstep;have gb1:=gb [Ob.box F.tn [YI 3,YI f2',YI t2,YS w2,YI a2,YL z2 6 (ks2.map N.enc)]] 2;simp[f4,e7,e8,-getElem?_pos];refine Qfn gb1 ?_;simp;refine nxt _ _ _ _ (by simp[f9]) (by simp[f8]) (by simp[f1]) (by simp[f2]) (by simp[f3]) (by simp[f4]) (by simp[f13]) ?_;rw[hstep]
    .rw[if_neg (show¬(N.mk k2 f2' t2 w2 a2 z2 ks2).k=2 from h2),if_neg (show¬(N.mk k2 f2' t2 w2 a2 z2 ks2).k=3 from h3)]at hstep;simp[h2,h3,f4,e7,e8,-getElem?_pos];exact nxt _ _ _ _ (by simp[f9]) (by simp[f8]) (by simp[f1]) (by simp[f2]) (by simp[f3]) (by simp[f4]) (by simp[f13]) hstep
  .rintro fr' H' f9 f8 ⟨f1,f2,f3,f4,f13,it,rfl⟩;rw[Q09 (Q00 _)];simp[f1,f2,f3,f4];exact⟨it,rfl⟩
 .rintro fr' H' ⟨f1,f2,f3,f4,it,rfl⟩;have hgT:=Qbq ks 0 [] ⟨[],[],[]⟩ (FOk.nil _);generalize W7 0 ks [] ⟨[],[],[]⟩=TP at hq hgT⊢;obtain⟨G,S0⟩:=TP;obtain⟨t1,t2,t3⟩:=hgT;have hz:SM.sz ⟨[],[],[]⟩=0:=rfl;rw[hz]at t2;simp only at hq t1 t2 t3⊢;have e0:∀S (it:Int),(scY F H.length bx S G it)[0]?=some bx:=fun _ _=>rfl;have e0':∀S (it:Int) X,(scY F H.length bx S G it++X)[0]?=some bx:=fun _ _ _=>rfl;have ebx:(H++scY F H.length bx S0 G it)[H.length]?=some bx:=by rw[Vt];rfl
  rw[hbx]at ebx;have lY:∀S G it,(scY F H.length bx S G it).length=8:=fun _ _ _=>rfl;have e7:∀(S:SM)(it:Int) X,(scY F H.length bx S G it++X)[7]?=some (.box F.tb [.ptr (H.length+5) 0,.d .nilp,.map (H.length+6),YI it]):=fun _ it X=>rfl;have e8:∀(S:SM)(it:Int)(x:Ob),(scY F H.length bx S G it++[x])[8]?=some x:=fun _ it x=>rfl;have s8:∀(S:SM)(it:Int)(x y:Ob),(scY F H.length bx S G it++[x]).set 8 y=scY F H.length bx S G it++[y]:=fun _ it x y=>rfl;have s7:∀(S:SM)(it j:Int) X,(scY F H.length bx S G it++X).set 7 (.box F.tb [.ptr (H.length+5) 0,.d .nilp,.map (H.length+6),YI j])=scY F H.length bx S G j++X:=fun _ it j X=>rfl;have e00:(scY F H.length bx S0 G it)[0]?=some (Ob.box F.tn [YI k,YI f,YI t,YS w,YI a,YL z 6 (ks.map N.enc)]):=by rw[←hbx];rfl
  simp[f1,e00,-getElem?_pos];refine Qy 3 (fun fr' H'=>fr' 2=.ptr (H.length+1) 0∧fr' 3=.ptr (H.length+5) 0∧∃it,H'=H++scY F H.length bx (Zo G 0 ks S0) G it) ?_ ?_
  .refine Wt (H.length+8) ks.length (fun j fr' H'=>fr' 2=.ptr (H.length+1) 0∧fr' 3=.ptr (H.length+5) 0∧fr' 4=.ptr (H.length+7) 0∧fr' 46=YL z 6 (ks.map N.enc)∧∃it,H'=H++scY F H.length bx (Zo G 0 (ks.take j) S0) G it) (by omega) (by decide) (by simp[scY]) (by simp) ?_ ?_ ?_
   .have hc0:=Qj8 (F:=F) (S:=S0) (G:=G) (it:=it) hcl hbc [];rw[Q1i]at hc0;rw[Q20];refine⟨by simp[f2],by simp[f3],by simp[f4],by simp,it,?_⟩;rw[hc0];rfl
   .rintro j fr' H' hj f9 f8 ⟨f2,f3,f4,f13,it,rfl⟩;have hr:=Qt N.enc hj;have hll:(ks.take j).length=j:=by simp;omega
    have hgr:=Qdp G (ks.take j) 0 S0;have hstep:=Qma G ks[j] (ks.take j) 0 S0;rw[←Q1b hj,hll,Q4d]at hstep;have hsz:N.sizes (ks.take j)+(ks[j]).size≤N.sizes ks:=by
     have:ks=ks.take j++ks[j]::ks.drop (j+1):=by rw[Q36];simp
     have e:N.sizes ks=N.sizes (ks.take j)+(ks[j].size+N.sizes (ks.drop (j+1))):=by conv=>lhs;rw[this,N.sizes_app,N.sizes_cons]
     omega
    generalize ks[j]=x at hr hstep hsz;generalize Zo G 0 (ks.take j) S0=S1 at hgr hstep⊢;obtain⟨k2,f2',t2',w2,a2,z2,ks2⟩:=x;rw[N.size_mk]at hsz;have hcut:=fun(S':SM) X=>Qj8 (F:=F) (S:=S') (G:=G) (it:=(j:Int)) hcl hbc X;have hO:∀X,OInv F (scC H.length) S1 (.d .nilp) j G [] (H++(scY F H.length bx S1 G (j:Int)++X)):=fun X=>⟨Qst X,rfl,by simp⟩;have gc:=fun X=>hF.closed' hW (z:=z2) (ks:=ks2) (fun p _=>hF.node' hW p) (hO X) false (t3.mono hgr.1) (by simp) (by omega) (by simp;omega);simp only[Qvl,Q10]at gc;rw[N.enc_mk]at hr;have nxt:∀(S':SM)(fr2:Fr)(X:Hp),fr2 48=YI j→fr2 47=YI ks.length→fr2 2=.ptr (H.length+1) 0→fr2 3=.ptr (H.length+5) 0→fr2 4=.ptr (H.length+7) 0→fr2 46=YL z 6 (ks.map N.enc)→Zo G 0 (ks.take (j+1)) S0=S'→
     Qmm (fun j fr' H'=>fr' 2=.ptr (H.length+1) 0∧fr' 3=.ptr (H.length+5) 0∧fr' 4=.ptr (H.length+7) 0∧fr' 46=YL z 6 (ks.map N.enc)∧∃it,H'=H++scY F H.length bx (Zo G 0 (ks.take j) S0) G it) .mk (H.length+8) ks.length 48 47 64 j fr2 (H++(scY F H.length bx S' G (j:Int)++X)):=fun S' fr2 X u15 u14 u2 u3 u4 u13 hst=>by
     refine Wl (H.length+8) (Q00 _) (by simp[lY,u15,u14]) ?_;refine⟨by simp[u2],by simp[u3],by simp[u4],by simp[u13],j,?_⟩;rw[hcut,hst]
    by_cases h3:k2=3
    .subst h3;rw[if_pos (show(N.mk 3 f2' t2' w2 a2 z2 ks2).k=3 from rfl)]at hstep;simp[f9,f13,hr,f4,lY,e7,e8,s8,s7,-getElem?_pos];refine Qa (gc _) ?_;simp;exact nxt _ _ _ (by simp[f9]) (by simp[f8]) (by simp[f2]) (by simp[f3]) (by simp[f4]) (by simp[f13]) hstep
    .rw[if_neg (show¬(N.mk k2 f2' t2' w2 a2 z2 ks2).k=3 from h3)]at hstep;simp[f9,f13,hr,f4,lY,e7,e8,s8,s7,h3,-getElem?_pos];exact nxt _ _ _ (by simp[f9]) (by simp[f8]) (by simp[f2]) (by simp[f3]) (by simp[f4]) (by simp[f13]) hstep
   .rintro fr' H' f9 f8 ⟨f2,f3,f4,f13,it,rfl⟩;rw[Q09 (Q00 _)];simp[f2,f3];exact⟨it,rfl⟩
  .rintro fr' H' ⟨f2,f3,it,rfl⟩;exact hq it fr' f3 f2
end
end
section
theorem Qjx(item:Int)(x:N):∀(l:List N)(M:List Nm)(S:SM),Ye item (l++[x]) M S=Wy 3 item x (Ye item l M S).1 (Ye item l M S).2
 |[],M,S=>rfl
 |y::r,M,S=>by rw[Q1n,Ye,Qjx item x r];rfl
theorem Qlm(item:Int)(x:N):∀(l:List N)(M:List Nm)(S:SM),Wp item (l++[x]) M S=Qab item x (Wp item l M S).1 (Wp item l M S).2
 |[],M,S=>by rw[Q1s,Qav,Qbu,Qbu]
 |y::r,M,S=>by rw[Q1n,Qav,Qlm item x r,Qav]
theorem Za(M:List Nm)(n:Nat):(nms M).clr n=nms M:=by simp[nms]
section
variable{P:Program}{F:RSF}{c:RSC}{S S':SM}{H:Hp}
theorem Qm2(h:RSInv F c S H)(hc:H.Closed):Hp.cut H.length (rsput F c S' H)=rsput F c S' H:=by have:=Qb3 (S':=S') h hc [];rwa[Q1i]at this
def Qtg(P:Program)(F:RSF)(n:N):Prop:=∀(c:RSC)(S:SM)(item:Int)(M:List Nm)(H:Hp),RSInv F c S H->NmOk S.bs.length M->S.sz+2*n.size<=1099511627776->M.length+n.size<=1099511627776->
 Qc P F.rnode [.ptr c.im 0,nms M,n.v,YI item] H (λr H'=>r=nms (Qab item n M S).1/\H'=rsput F c (Qab item n M S).2 H)
theorem RSHas.closed'(hF:RSHas P F){ks:List N}{z:Bool}(ih:∀p∈ks,Qtg P F p)(h:RSInv F c S H)(item:Int)(M:List Nm)(hM:NmOk S.bs.length M)(lam:Bool)(hb:S.sz+2*N.sizes ks≤1099511627776)(hl:M.length+N.sizes ks≤1099511627776):
 Qc P F.rclosed [.ptr c.im 0,nms M,YL z 6 (ks.map N.enc),YI item,YB lam] H (fun r H'=>r=.tup []∧H'=rsput F c (Yl item ks M lam S) H):=by
 refine Qe hF.rclosed (by simp[Qco]) fun hcl _=>?_;by_cases h3:ks.length=3
 case neg=>
  rw[Qew _ h3,Qau h];have h3':¬((ks.length:Int)=3):=by omega
  simp[Qco,h3'];simp[RetK,Qb hcl]
 have hks:∃p q b,ks=[p,q,b]:=by
  match ks,h3 with
  |[p,q,b],_=>exact⟨p,q,b,rfl⟩
 obtain⟨p,q,b,rfl⟩:=hks;have gbeg:=hF.begin' M lam (by omega) H;rw[Qag];have hps:p.ks.length+b.size+1≤N.sizes [p,q,b]:=by
  simp only[N.sizes_cons,N.sizes_nil];have:=N.sizes_len p.ks;have:=N.size_ks p;omega
 have hM1:=hM.new lam;have hpl:=h.lt.1;have hgr0:=GrewR.binds (item:=item) p.ks hM1;have ihb:=fun H2=>ih b (by simp) c (Ye item p.ks (⟨0,true,lam⟩::M) S).2 item (Ye item p.ks (⟨0,true,lam⟩::M) S).1 (rsput F c (Ye item p.ks (⟨0,true,lam⟩::M) S).2 H2);have ihb:=fun H2 hh=>ihb H2 hh hgr0.ok (by have:=hgr0.sz;omega) (by have:=hgr0.len;simp only[Q1d]at this;omega);have ihb:=ihb H (h.put _);rw[Qaa]at ihb;have hr0:Zam.rowAt ([p,q,b].map N.enc) 0=some p.enc:=rfl;have hr2:Zam.rowAt ([p,q,b].map N.enc) 2=some b.enc:=rfl;simp only[Q1q,Q10]at hr0 hr2⊢;obtain⟨pk,pf,pt,pw,pa,pz,pks⟩:=p;rw[N.enc_mk]at hr0 hr2⊢;simp only[N.ks]at ihb hps hgr0⊢;generalize hM0:(⟨0,true,lam⟩:Nm)::M=M0 at gbeg hM1 ihb hgr0⊢;have hM0l:M0.length=M.length+1:=by rw[←hM0];rfl
 generalize Qab item b (Ye item pks M0 S).1 (Ye item pks M0 S).2=R at ihb⊢;simp[Qco];refine Qa gbeg ?_;simp;refine Qy 0 (fun fr H'=>fr 0=.ptr c.im 0∧fr 2=YL z 6 [[.int .i64 pk,.int .i64 pf,.int .i64 pt,.str pw,.int .i64 pa,.sl pz 6 (pks.map N.enc)],q.enc,b.enc]∧fr 3=YI item∧fr 10=nms (Ye item pks M0 S).1∧H'=rsput F c (Ye item pks M0 S).2 H) ?_ ?_
 .refine Yw H.length pks.length (fun j fr H'=>fr 0=.ptr c.im 0∧fr 2=YL z 6 [[.int .i64 pk,.int .i64 pf,.int .i64 pt,.str pw,.int .i64 pa,.sl pz 6 (pks.map N.enc)],q.enc,b.enc]∧fr 3=YI item∧fr 10=nms (Ye item (pks.take j) M0 S).1∧H'=rsput F c (Ye item (pks.take j) M0 S).2 H) (by omega) (by decide) (by simp) (by simp) ?_ ?_
  .rw[Q20,Ye,Qau h];exact⟨by simp[hpl],by simp,by simp,Za _ _,Qb hcl⟩
  .rintro j fr H' hj f11 ⟨f0,f2,f3,f10,rfl⟩;simp[f11,f2,hr0];refine Qh (fun hd=>?_) (fun hd=>?_)
   .have hlt:j<pks.length:=by simp at hd;omega
    have hr:=Qt N.enc hlt;have hgr:=GrewR.binds (item:=item) (pks.take j) hM1;have hll:(pks.take j).length=j:=by simp;omega
    have hstep:Ye item (pks.take (j+1)) M0 S=Wy 3 item pks[j] (Ye item (pks.take j) M0 S).1 (Ye item (pks.take j) M0 S).2:=by
     rw[Q1b hlt,Qjx]
    generalize pks[j]=x at hr hstep;obtain⟨g1,g2,g3,g4⟩:=hgr;rw[hll]at g2 g3;generalize Ye item (pks.take j) M0 S=KP at g1 g2 g3 g4 hstep f10⊢;obtain⟨M1,S1⟩:=KP;simp only at g1 g2 g3 g4 hstep f10⊢;have gb:=hF.bind' (h.put S1) M1 g4 x 3 item (by omega) (by omega);rw[Qaa]at gb;obtain⟨k2,f2',t2,w2,a2,z2,ks2⟩:=x;rw[N.enc_mk]at hr;rw[N.v_mk]at gb;simp[f0,f2,f3,f10,f11,hr0,hr];refine Qa gb ?_;simp;refine Q8 H.length (Q00 _) hlt (by simp[Ws,f11]) ?_;refine⟨by simp[f0,hpl],by simp[f2],by simp[f3],?_,?_⟩
    .rw[hstep];exact Za _ _
    .rw[hstep];exact Qm2 h hcl
   .have hjj:j=pks.length:=by simp at hd;omega
    subst hjj;rw[Q09 (Q00 _)]at f10⊢;simp[f0,f2,f3,f10]
 .rintro fr H' ⟨f0,f2,f3,f10,rfl⟩;have hbv:(A.agg (b.enc.map .d))=b.v:=rfl;rw[←hbv]at ihb;have hbs:b.enc.length=6:=by cases b;rw[N.enc_mk];rfl
  obtain⟨bk,bf,bt,bw,ba,bz,bks⟩:=b;simp only[N.enc_mk]at ihb hr2 f2⊢;simp[f0,f2,f3,f10,hr2];simp at ihb;refine Qa ihb ?_;simp;simp[RetK,Ws,Qm2 h hcl]
def Qn0(rnode:FuncId):C:=.seq (.seq (.ops [
 ⟨(some 41),none,.mv (.t 10)⟩,
 ⟨(some 42),none,.faddr 5 (.t 6)⟩,
 ⟨(some 43),none,.load 1 false (.t 42)⟩,
 ⟨(some 44),none,.lenL (.t 43)⟩,
 ⟨(some 45),none,.bin .lss (.t 41) (.t 44)⟩] false)
 (.cond (.t 45) (.skip)
 (.exit 1)))
 (.seq (.blk 2 (.ops [
  ⟨(some 48),none,.mv (.t 0)⟩,
  ⟨(some 49),none,.mv (.t 9)⟩,
  ⟨(some 50),none,.faddr 5 (.t 6)⟩,
  ⟨(some 51),none,.load 1 false (.t 50)⟩,
  ⟨(some 52),none,.mv (.t 10)⟩,
  ⟨(some 53),none,.iaddr 6 (.t 51) (.t 52)⟩,
  ⟨(some 54),none,.load 6 true (.t 53)⟩,
  ⟨(some 55),none,.mv (.t 3)⟩,
  ⟨(some 56),none,.call rnode [(.t 48),(.t 49),(.t 54),(.t 55)]⟩,
  ⟨(some 9),none,.mv (.t 56)⟩] false))
 (.ops [
  ⟨(some 46),none,.mv (.t 10)⟩,
  ⟨(some 47),none,.bin .add (.t 46) (.c (.int .i64 1))⟩,
  ⟨(some 10),none,.mv (.t 47)⟩] false))
theorem RSHas.node'(hF:RSHas P F)(n:N):Qtg P F n:=by
 induction n using N.ind with
 |h k f t w a z ks ih=>
 intro c S item M H h hM hb hl;refine Qe hF.rnode (by simp[Qad]) fun hcl _=>?_;rw[N.size_mk]at hb hl;rw[N.v_mk];have hsl:=N.sizes_len ks;obtain⟨p1,p2,p3,p4⟩:=h.lt;obtain⟨bx,hbx⟩:∃bx,bx=Ob.box F.tn [YI k,YI f,YI t,YS w,YI a,YL z 6 (ks.map N.enc)]:=⟨_,rfl⟩;have hbc:∀n,bx.clr n=bx:=fun n=>by subst hbx;simp
 have hbc1:∀(S':SM)(X:Hp),Hp.cut (H.length+1) (rsput F c S' H++bx::X)=rsput F c S' H++[bx]:=fun S' X=>by
  have hcl1:Hp.Closed (H++[bx]):=Closed.snoc hcl fun n hn=>hbc n;have:=Qb3 (S':=S') (h.app [bx]) hcl1 X;rw[Qfw h]at this;simpa using this
 have hfin:∀S' X,Hp.cut H.length (rsput F c S' H++X)=rsput F c S' H:=fun S' X=>Qb3 h hcl X;have hbr:∀(S':SM)(X:Hp),(rsput F c S' H++bx::X)[H.length]?=some bx:=fun S' X=>by rw[show H.length=(rsput F c S' H).length from Ws.symm];simp
 have hself:H++[bx]=rsput F c S H++[bx]:=by rw[Qau h]
 have loop:∀(M0:List Nm)(S0:SM)(Q:Ex→Fr→Hp→Prop)(fr:Fr)(tg:Tag (Q,Qn0 F.rnode)),NmOk S0.bs.length M0→S0.sz+2*N.sizes ks≤1099511627776→M0.length+N.sizes ks≤1099511627776→fr 0=.ptr c.im 0→fr 1=nms M→fr 3=YI item→fr 6=.ptr H.length 0→fr 9=nms M0→fr 10=YI 0→
  (∀fr2:Fr,fr2 0=.ptr c.im 0→fr2 1=nms M→fr2 3=YI item→fr2 6=.ptr H.length 0→fr2 9=nms (Wp item ks M0 S0).1→Q (.exit 1) fr2 (rsput F c (Wp item ks M0 S0).2 H++[bx]))→
  Qeh Q (Qn0 F.rnode) tg P H.length fr (rsput F c S0 H++[bx]):=by
  intro M0 S0 Q fr tg hM0 hb0 hl0 u0 u1 u3 u6 u9 u10 hQ;unfold Qn0 at tg⊢;refine Qy 1 (fun fr H'=>fr 0=.ptr c.im 0∧fr 1=nms M∧fr 3=YI item∧fr 6=.ptr H.length 0∧fr 9=nms (Wp item ks M0 S0).1∧H'=rsput F c (Wp item ks M0 S0).2 H++[bx]) ?_ ?_
  .refine Yw (H.length+1) ks.length (fun j fr H'=>fr 0=.ptr c.im 0∧fr 1=nms M∧fr 3=YI item∧fr 6=.ptr H.length 0∧fr 9=nms (Wp item (ks.take j) M0 S0).1∧H'=rsput F c (Wp item (ks.take j) M0 S0).2 H++[bx]) (by omega) (by decide) (by simp[Ws]) (by simp[u10]) ?_ ?_
   .rw[Q20,Qbu];refine⟨by simp[u0];omega,by simp[u1,Za,-A.clr],by simp[u3],by simp[u6],by simp[u9,Za,-A.clr],hbc1 S0 []⟩
   .rintro j fr H' hj f10 ⟨f0,f1,f3,f6,f9,rfl⟩;have hgr:=fun(l:List N)(hlk:∀p∈l,p∈ks)=>Qay (fun p _=>Qwt p) (ks:=l) item M0 S0 hM0;have hgj:=hgr (ks.take j) fun p hp=>Q3s hp;have hstep:∀(hlt:j<ks.length),Wp item (ks.take (j+1)) M0 S0=Qab item ks[j] (Wp item (ks.take j) M0 S0).1 (Wp item (ks.take j) M0 S0).2:=fun hlt=>by
     rw[Q1b hlt,Qlm]
    have hsz:∀(hlt:j<ks.length),N.sizes (ks.take j)+(ks[j]).size≤N.sizes ks:=fun hlt=>by
     have:ks=ks.take j++ks[j]::ks.drop (j+1):=by rw[Q36];simp
     have e:N.sizes ks=N.sizes (ks.take j)+(ks[j].size+N.sizes (ks.drop (j+1))):=by conv=>lhs;rw[this,N.sizes_app,N.sizes_cons]
     omega
    have hend:j=ks.length→Wp item (ks.take j) M0 S0=Wp item ks M0 S0:=fun e=>by rw[e,Q09 (Q00 _)]
    generalize Wp item (ks.take j) M0 S0=KP at hgj hstep hend f9⊢;obtain⟨M1,S1⟩:=KP;obtain⟨g1,g2,g3,g4⟩:=hgj;simp only at g1 g2 g3 g4 hstep f9⊢;have hs1:=(h.put S1).app [bx];have ihj:=fun(hlt:j<ks.length)=>ih ks[j] (Q1u hlt) c S1 item M1 _ hs1 g4 (by have:=hsz hlt;omega) (by have:=hsz hlt;omega);have e1:∀S',rsput F c S' (rsput F c S1 H++[bx])=rsput F c S' H++[bx]:=fun S'=>by rw[Qfw (h.put S1),Qaa]
    have hb0':=hbr S1 [];have hlen:(rsput F c S1 H++[bx]).length=H.length+1:=by simp[Ws]
    have hc1:=fun S'=>hbc1 S' [];generalize hW:rsput F c S1 H++[bx]=W at ihj hb0' hlen e1⊢;rw[hbx]at hb0';simp[f10,f6,hb0'];refine Qh (fun hd=>?_) (fun hd=>?_)
    .have hlt:j<ks.length:=by simp at hd;omega
     have hr:=Qt N.enc hlt;have gn:=ihj hlt;have hst:=hstep hlt;generalize ks[j]=x at hr gn hst;obtain⟨k2,f2',t2,w2,a2,z2,ks2⟩:=x;rw[N.enc_mk]at hr;rw[N.v_mk]at gn;simp[f0,f3,f6,f9,f10,hb0',hr];refine Qa gn ?_;rw[e1];simp;refine Q8 (H.length+1) (Q00 _) hlt (by simp[Ws,f10]) ?_;refine⟨by simp[f0];omega,by simp[f1,Za,-A.clr],by simp[f3],by simp[f6],?_,?_⟩
     .rw[hst];simp[Za,-A.clr]
     .rw[hst];exact hc1 _
    .have hjj:j=ks.length:=by simp at hd;omega
     have he:=hend hjj;simp;refine⟨f0,f1,f3,f6,?_,?_⟩
     .rw[←he];exact f9
     .rw[←he];exact hW.symm
  .rintro fr H' ⟨f0,f1,f3,f6,f9,rfl⟩;exact hQ fr f0 f1 f3 f6 f9
 have hbr0:=hbr S [];rw[←hself]at hbr0;have hbx0:=hbx;have hrn:∀S':SM,rsput F c S' (H++[bx])=rsput F c S' H++[bx]:=fun S'=>Qfw h [bx];have hwf:N.w (.mk k f t w a z ks)=w:=rfl;rw[Qg8];by_cases h23:k=23
 .subst h23;rw[if_neg (by decide),if_neg (by decide),if_neg (by decide),if_pos rfl];have gm:=hF.mention' (h.app [bx]) M hM (.mk 23 f t w a z ks) false (by omega) (by omega);rw[hrn,hwf]at gm;generalize S.men (.mk 23 f t w a z ks) false (Vi S.bs w M)=S1 at gm⊢;rw[N.v_mk]at gm;subst hbx;simp[Qad];refine Qa gm ?_;simp;simp[RetK,Ws,hfin,Za,-A.clr]
 by_cases h28:k=28
 .subst h28;rw[if_neg (by decide),if_neg (by decide),if_neg (by decide),if_neg (by decide),if_pos rfl];have gc:=hF.closed' (z:=z) ih (h.app [bx]) item M hM true (by omega) (by omega);rw[hrn]at gc;generalize Yl item ks M true S=S1 at gc⊢;subst hbx;simp[Qad];refine Qa gc ?_;simp;simp[RetK,Ws,hfin,Za,-A.clr]
 rw[if_neg h23,if_neg h28];by_cases h6:k=6
 .rw[if_pos h6];subst h6;have gbeg:=hF.begin' M false (by omega) (H++[bx]);have lp:=loop (⟨0,true,false⟩::M) S;have hq0:=hbr (Wp item ks (⟨0,true,false⟩::M) S).2 [];have hcutf:=hfin (Wp item ks (⟨0,true,false⟩::M) S).2 [bx];have hlen:(rsput F c (Wp item ks (⟨0,true,false⟩::M) S).2 H++[bx]).length=H.length+1:=by simp[Ws]
  simp[Qad];rw[←hbx];refine Qa gbeg ?_;generalize hW:H++[bx]=W at hbr0⊢;rw[hbx]at hbr0;simp[hbr0];rw[←hW,hself];refine lp _ _ _ (hM.new false) (by omega) (by simp only[Q1d];omega) (by simp) (by simp) (by simp) (by simp) (by simp) (by simp) fun fr2 u0 u1 u3 u6 u9=>?_;generalize rsput F c (Wp item ks (⟨0,true,false⟩::M) S).2 H++[bx]=W2 at hq0 hcutf hlen⊢;rw[hbx]at hq0;simp[u0,u1,u6,hq0];simp[RetK,hlen,hcutf,Za,-A.clr]
 rw[if_neg h6];by_cases h7:k=7
 .rw[if_pos h7];subst h7;have hgr:=Qay (fun p _=>Qwt p) (ks:=ks) item M S hM;have gb:=hF.bind' ((h.put (Wp item ks M S).2).app [bx]) (Wp item ks M S).1 hgr.ok (.mk 7 f t w a z ks) 4 item (by have:=hgr.sz;omega) (by have:=hgr.len;omega);rw[Qfw (h.put _),Qaa]at gb;have lp:=loop M S;have hq0:=hbr (Wp item ks M S).2 [];generalize hR2:Wy 4 item (.mk 7 f t w a z ks) (Wp item ks M S).1 (Wp item ks M S).2=R2 at gb⊢;have hcutf:=hfin R2.2 [bx];have hlen:(rsput F c R2.2 H++[bx]).length=H.length+1:=by simp[Ws]
  rw[N.v_mk]at gb;simp[Qad];rw[←hbx,hself];refine lp _ _ _ hM (by omega) (by omega) (by simp) (by simp) (by simp) (by simp) (by simp) (by simp) fun fr2 u0 u1 u3 u6 u9=>?_;generalize rsput F c (Wp item ks M S).2 H++[bx]=W2 at hq0 gb⊢;rw[hbx]at hq0;simp[u0,u1,u3,u6,u9,hq0];refine Qa gb ?_;generalize rsput F c R2.2 H++[bx]=W3 at hcutf hlen⊢;simp;simp[RetK,hlen,hcutf,Za,-A.clr]
 rw[if_neg h7];by_cases h8:k=8
 .rw[if_pos h8];subst h8;have gm:=hF.mention' (h.app [bx]) M hM (.mk 8 f t w a z ks) true (by omega) (by omega);rw[hrn,hwf]at gm;have hms:=SM.men_sz S (.mk 8 f t w a z ks) true (Vi S.bs w M);have hM1:NmOk (S.men (.mk 8 f t w a z ks) true (Vi S.bs w M)).bs.length M:=hM;generalize S.men (.mk 8 f t w a z ks) true (Vi S.bs w M)=S1 at gm hms hM1⊢;rw[N.v_mk]at gm;have lp:=loop M S1;have hq1:=hbr S1 [];have hq0:=hbr (Wp item ks M S1).2 [];have hcutf:=hfin (Wp item ks M S1).2 [bx];have hlen:(rsput F c (Wp item ks M S1).2 H++[bx]).length=H.length+1:=by simp[Ws]
  simp[Qad];rw[←hbx];refine Qa gm ?_;generalize hW:rsput F c S1 H++[bx]=W at hq1⊢;rw[hbx]at hq1;simp[hq1];rw[←hW];refine lp _ _ _ hM1 (by omega) (by omega) (by simp) (by simp) (by simp) (by simp) (by simp) (by simp) fun fr2 u0 u1 u3 u6 u9=>?_;generalize rsput F c (Wp item ks M S1).2 H++[bx]=W2 at hq0 hcutf hlen⊢;rw[hbx]at hq0;simp[u0,u1,u6,u9,hq0];simp[RetK,hlen,hcutf,Za,-A.clr]
 rw[if_neg h8];have lp:=loop M S;have hq0:=hbr (Wp item ks M S).2 [];have hcutf:=hfin (Wp item ks M S).2 [bx];have hlen:(rsput F c (Wp item ks M S).2 H++[bx]).length=H.length+1:=by simp[Ws]
 simp[Qad,h23,h28,h8,h6];rw[←hbx,hself];refine lp _ _ _ hM (by omega) (by omega) (by simp) (by simp) (by simp) (by simp) (by simp) (by simp) fun fr2 u0 u1 u3 u6 u9=>?_;generalize rsput F c (Wp item ks M S).2 H++[bx]=W2 at hq0 hcutf hlen⊢;rw[hbx]at hq0;simp[u0,u1,u6,u9,hq0,h7,h6];simp[RetK,hlen,hcutf,Za,-A.clr]
end
end
section
theorem Qdx(x:N):∀(l:List N)(i:Int)(M:List Nm)(S:SM),Ww i (l++[x]) M S=(if x.k=2 then Wy 1 (i+l.length) x (Ww i l M S).1 (Ww i l M S).2 else if x.k=3 then Wy 2 (i+l.length) x (Ww i l M S).1 (Ww i l M S).2 else Ww i l M S)
 |[],i,M,S=>by simp only[Q1s,Ww,Q15,Q3y,Q4t]
 |y::r,i,M,S=>by
  have e:i+1+(r.length:Int)=i+((y::r).length:Int):=by simp;omega
  simp only[Q1n,Ww];split
  .rw[Qdx x r,e]
  .split
   .rw[Qdx x r,e]
   .rw[Qdx x r,e]
theorem Ql9(M:List Nm)(x:N):∀(l:List N)(i:Int)(S:SM),V3 M i (l++[x]) S=(if x.k=3 then Yl (i+l.length) x.ks M false (V3 M i l S)else V3 M i l S)
 |[],i,S=>by simp only[Q1s,V3,Q15,Q3y,Q4t]
 |y::r,i,S=>by
  have e:i+1+(r.length:Int)=i+((y::r).length:Int):=by simp;omega
  simp only[Q1n,V3];rw[Ql9 M x r,e]
theorem Qdy:∀(l:List N)(i:Int)(M:List Nm)(S:SM),NmOk S.bs.length M->GrewR S (Ww i l M S).2 l.length M (Ww i l M S).1
 |[],i,M,S,h=>⟨Q00 _,by simp[Ww],by simp[Ww],h⟩
 |n::r,i,M,S,h=>by
  simp only[Ww,Q1d];have step:∀k:Int,GrewR S (Ww (i+1) r (Wy k i n M S).1 (Wy k i n M S).2).2 (r.length+1) M (Ww (i+1) r (Wy k i n M S).1 (Wy k i n M S).2).1:=λk=>by
   have h1:=GrewR.bind h k i n;have h2:=Qdy r (i+1) _ _ h1.ok;refine⟨Q2b h1.bs h2.bs,?_,?_,h2.ok⟩
   .have:=h1.sz;have:=h2.sz;omega
   .have:=h1.len;have:=h2.len;omega
  split
  .exact step 1
  .split
   .exact step 2
   .have h2:=Qdy r (i+1) M S h;exact⟨h2.bs,by have:=h2.sz;omega,by have:=h2.len;omega,h2.ok⟩
theorem Qeb(M:List Nm):∀(l:List N)(i:Int)(S:SM),NmOk S.bs.length M->S.bs.length<=(V3 M i l S).bs.length/\(V3 M i l S).sz<=S.sz+2*N.sizes l
 |[],i,S,h=>by simp[V3]
 |n::r,i,S,h=>by
  simp only[V3,N.sizes_cons];have h1:=Qia (ks:=n.ks) (λp _=>Qwt p) i M false S h;have h3:=N.size_ks n;split
  .have h2:=Qeb M r (i+1) (Yl i n.ks M false S) (h.mono h1.1);omega
  .have h2:=Qeb M r (i+1) S h;omega
def rC(L:Nat):RSC:=⟨L+5,L+2,L+3,L+4⟩
def rY(F:RSF)(L:Nat)(bx:Ob)(S:SM):Hp:=[bx,.box F.rtm [YL true 4 [],YL true 4 [],YL true 2 []],.tok S.bs.length 4 F.rbd,.tok S.ms.length 4 F.rmn,.tok S.bad.length 2 F.red,rbox F (rC L) S]
def SM.encR(S:SM):List D:=[.sl true 4 (S.bs.map Qq),.sl true 4 (S.ms.map Wq),.sl true 2 (S.bad.map Q2)]
theorem Qs9{x y:Int×Int}:cBad x y<=0↔x.1<=y.1:=by unfold cBad V5;split<;>(try split)<;>omega
theorem Qyj{x y:Int×Int}:cBad x y<0↔x.1<y.1:=by unfold cBad V5;split<;>(try split)<;>omega
section
variable{P:Program}{F:RSF}{S S':SM}{H:Hp}{bx:Ob}
theorem Qz0(X:Hp):RSInv F (rC H.length) S (H++(rY F H.length bx S++X)):=by
 refine⟨?_,?_,?_,?_,?_⟩
 .simp only[rC,rY,Q1n,Q1s,Qv];rfl
 .simp only[rC,rY,Q1n,Q1s,Qv];rfl
 .simp only[rC,rY,Q1n,Q1s,Qv];rfl
 .simp only[rC,rY,Q1n,Q1s,Qv];rfl
 .simp only[rC];omega
theorem Qsw:RSInv F (rC H.length) S (H++rY F H.length bx S):=by have:=Qz0 (F:=F) (S:=S) (H:=H) (bx:=bx) [];rwa[Q1i]at this
theorem Qzz(X:Hp):rsput F (rC H.length) S' (H++(rY F H.length bx S++X))=H++(rY F H.length bx S'++X):=by simp only[rsput,rC,rY,Q1n,Q1s,Zh];rfl
theorem Qsv:rsput F (rC H.length) S' (H++rY F H.length bx S)=H++rY F H.length bx S':=by have:=Qzz (F:=F) (S:=S) (S':=S') (H:=H) (bx:=bx) [];rwa[Q1i,Q1i]at this
theorem Qvy(hcl:H.Closed)(hbx:∀n,bx.clr n=bx)(X:Hp):Hp.cut (H.length+6) (H++(rY F H.length bx S++X))=H++rY F H.length bx S:=by
 rw[Qk hcl];have:((rY F H.length bx S++X).take 6)=rY F H.length bx S:=by simp[rY]
 rw[this];simp only[rY,Q1q,Q10,hbx];rw[Qpe (by simp[rC]) (by simp[rC]) (by simp[rC])];simp
def Qvz(red:TypeId):C:=(.seq (.ops [
 ⟨(some 7),none,.mv (.c (.sl true 2 []))⟩] false)
 (.seq (.seq (.ops [
  ⟨(some 8),none,.mv (.c (.int .i64 0))⟩] false)
  (.blk 4 (.loop (.seq (.seq (.ops [
   ⟨(some 76),none,.mv (.t 8)⟩,
   ⟨(some 77),none,.mv (.t 3)⟩,
   ⟨(some 78),none,.nilCheck (.t 77)⟩,
   ⟨(some 79),none,.faddr 2 (.t 78)⟩,
   ⟨(some 80),none,.load 1 false (.t 79)⟩,
   ⟨(some 81),none,.lenL (.t 80)⟩,
   ⟨(some 82),none,.bin .lss (.t 76) (.t 81)⟩] false)
   (.cond (.t 82) (.skip)
   (.exit 4)))
   (.seq (.blk 5 (.seq (.ops [
    ⟨(some 85),none,.mv (.t 7)⟩,
    ⟨(some 86),none,.lenL (.t 85)⟩,
    ⟨(some 9),none,.mv (.t 86)⟩] false)
    (.seq (.blk 6 (.loop (.seq (.seq (.ops [
      ⟨(some 87),none,.mv (.t 9)⟩,
      ⟨(some 88),none,.bin .gtr (.t 87) (.c (.int .i64 0))⟩,
      ⟨(some 89),none,.mv (.t 88)⟩,
      ⟨(some 90),(some (89,true)),.mv (.t 7)⟩,
      ⟨(some 91),(some (89,true)),.mv (.t 9)⟩,
      ⟨(some 92),(some (89,true)),.bin .sub (.t 91) (.c (.int .i64 1))⟩,
      ⟨(some 93),(some (89,true)),.iaddr 2 (.t 90) (.t 92)⟩,
      ⟨(some 94),(some (89,true)),.faddr 0 (.t 93)⟩,
      ⟨(some 95),(some (89,true)),.load 1 false (.t 94)⟩,
      ⟨(some 96),(some (89,true)),.mv (.t 3)⟩,
      ⟨(some 97),(some (89,true)),.nilCheck (.t 96)⟩,
      ⟨(some 98),(some (89,true)),.faddr 2 (.t 97)⟩,
      ⟨(some 99),(some (89,true)),.load 1 false (.t 98)⟩,
      ⟨(some 100),(some (89,true)),.mv (.t 8)⟩,
      ⟨(some 101),(some (89,true)),.iaddr 2 (.t 99) (.t 100)⟩,
      ⟨(some 102),(some (89,true)),.faddr 0 (.t 101)⟩,
      ⟨(some 103),(some (89,true)),.load 1 false (.t 102)⟩,
      ⟨(some 104),(some (89,true)),.bin .gtr (.t 95) (.t 103)⟩,
      ⟨(some 105),none,.pick (.t 89) (.t 104) (.c (.bool false))⟩] true)
     (.cond (.t 105) (.skip)
     (.exit 6)))
     (.blk 7 (.ops [
      ⟨(some 106),none,.mv (.t 9)⟩,
      ⟨(some 107),none,.bin .sub (.t 106) (.c (.int .i64 1))⟩,
      ⟨(some 9),none,.mv (.t 107)⟩] false)))))
    (.seq (.ops [
     ⟨(some 10),none,.nilT 2 red⟩] false)
    (.seq (.ops [
     ⟨(some 108),none,.mv (.t 10)⟩,
     ⟨(some 109),none,.mv (.t 7)⟩,
     ⟨(some 110),none,.mv (.t 9)⟩,
     ⟨(some 111),none,.slice 2 (.t 109) none (some (.t 110)) none⟩,
     ⟨(some 112),none,.app 2 16 red (.t 108) (.t 111)⟩,
     ⟨(some 10),none,.mv (.t 112)⟩] false)
    (.seq (.ops [
     ⟨(some 113),none,.mv (.t 10)⟩,
     ⟨(some 114),none,.mv (.t 3)⟩,
     ⟨(some 115),none,.nilCheck (.t 114)⟩,
     ⟨(some 116),none,.faddr 2 (.t 115)⟩,
     ⟨(some 117),none,.load 1 false (.t 116)⟩,
     ⟨(some 118),none,.mv (.t 8)⟩,
     ⟨(some 119),none,.iaddr 2 (.t 117) (.t 118)⟩,
     ⟨(some 120),none,.load 2 true (.t 119)⟩,
     ⟨(some 121),none,.bslice 2 [(.t 120)]⟩,
     ⟨(some 122),none,.app 2 16 red (.t 113) (.t 121)⟩,
     ⟨(some 10),none,.mv (.t 122)⟩] false)
    (.ops [
     ⟨(some 123),none,.mv (.t 10)⟩,
     ⟨(some 124),none,.mv (.t 7)⟩,
     ⟨(some 125),none,.mv (.t 9)⟩,
     ⟨(some 126),none,.slice 2 (.t 124) (some (.t 125)) none none⟩,
     ⟨(some 127),none,.app 2 16 red (.t 123) (.t 126)⟩,
     ⟨(some 7),none,.mv (.t 127)⟩] false)))))))
   (.ops [
    ⟨(some 83),none,.mv (.t 8)⟩,
    ⟨(some 84),none,.bin .add (.t 83) (.c (.int .i64 1))⟩,
    ⟨(some 8),none,.mv (.t 84)⟩] false))))))
 (.seq (.ops [
  ⟨(some 128),none,.mv (.t 3)⟩,
  ⟨(some 129),none,.mv (.t 7)⟩,
  ⟨(some 130),none,.nilCheck (.t 128)⟩,
  ⟨(some 131),none,.faddr 2 (.t 130)⟩,
  ⟨none,none,.store 1 (.t 131) (.t 129)⟩] false)
 (.seq (.ops [
  ⟨(some 132),none,.mv (.t 3)⟩,
  ⟨(some 133),none,.nilCheck (.t 132)⟩,
  ⟨(some 134),none,.load 3 true (.t 133)⟩,
  ⟨none,none,.store 3 (.t 2) (.t 134)⟩] false)
 (.ret)))))
theorem Qz1(hcl:H.Closed)(hbx:∀n,bx.clr n=bx)(hS:S.sz≤1099511627776)(fr:Fr)(f2:fr 2=.ptr (H.length+1) 0)(f3:fr 3=.ptr (H.length+5) 0):
 AWp P H.length (Qvz F.red) (Fin [.cell 2 3 true] H.length fun r H'=>r=.agg ((SM.encR ⟨S.bs,S.ms,ssort cBad S.bad⟩).map .d)∧H'=H) fr (H++rY F H.length bx S):=by
 obtain⟨bs,ms,bad⟩:=S;have hbl:bad.length≤1099511627776:=by unfold SM.sz at hS;simp only at hS;omega
 have y5:∀X,(rY F H.length bx ⟨bs,ms,bad⟩++X)[5]?=some (.box F.rtm [.osl true 4 (bs.map Qq) (H.length+2),.osl true 4 (ms.map Wq) (H.length+3),.osl true 2 (bad.map Q2) (H.length+4)]):=fun _=>rfl;have y5':(rY F H.length bx ⟨bs,ms,bad⟩)[5]?=some (.box F.rtm [.osl true 4 (bs.map Qq) (H.length+2),.osl true 4 (ms.map Wq) (H.length+3),.osl true 2 (bad.map Q2) (H.length+4)]):=rfl;have lY:(rY F H.length bx ⟨bs,ms,bad⟩).length=6:=rfl;have hc:=Qvy (F:=F) (S:=⟨bs,ms,bad⟩) hcl hbx;have y1':∀B,((rY F H.length bx ⟨bs,ms,bad⟩).set 5 B)[1]?=some (.box F.rtm [YL true 4 [],YL true 4 [],YL true 2 []]):=fun _=>rfl;have y1:(rY F H.length bx ⟨bs,ms,bad⟩)[1]?=some (.box F.rtm [YL true 4 [],YL true 4 [],YL true 2 []]):=rfl;have y6:∀x,(rY F H.length bx ⟨bs,ms,bad⟩++[x])[6]?=some x:=fun _=>rfl;have s6:∀x y,(rY F H.length bx ⟨bs,ms,bad⟩++[x]).set 6 y=rY F H.length bx ⟨bs,ms,bad⟩++[y]:=fun _ _=>rfl;have hc0:Hp.cut (H.length+6) (H++rY F H.length bx ⟨bs,ms,bad⟩)=H++rY F H.length bx ⟨bs,ms,bad⟩:=by have:=hc [];rwa[Q1i]at this
 unfold Qvz;simp;refine Qy 4 (fun fr H'=>fr 2=.ptr (H.length+1) 0∧fr 3=.ptr (H.length+5) 0∧fr 7=YL true 2 ((ssort cBad bad).map Q2)∧H'=H++rY F H.length bx ⟨bs,ms,bad⟩) ?_ ?_
 .refine Yw (H.length+6) bad.length (fun j fr H'=>fr 2=.ptr (H.length+1) 0∧fr 3=.ptr (H.length+5) 0∧fr 7=YL true 2 ((ssort cBad (bad.take j)).map Q2)∧H'=H++rY F H.length bx ⟨bs,ms,bad⟩) (by omega) (by decide) (by simp[lY]) (by simp) ?_ ?_
  .rw[Q20];exact⟨by simp[f2],by simp[f3],by simp[ssort],hc0⟩
  .rintro j fr H' hj f8 ⟨f2,f3,f7,rfl⟩;simp[f8,f3,y5',-getElem?_pos];refine Qh (fun hd=>?_) (fun hd=>?_)
   .have hlt:j<bad.length:=by simp at hd;omega
    have hr:=Qt Q2 hlt;have hsl:(ssort cBad (bad.take j)).length=j:=by rw[Wx Z0];simp;omega
    have hsorted:=(Wf Z0 (bad.take j)).1;have hsp:ssort cBad (bad.take (j+1))=ssort cBad (ssort cBad (bad.take j)++[bad[j]]):=by
     rw[Q1b hlt];exact(Qio Z0 ((Wf Z0 (bad.take j)).2.append (Alk.refl _))).symm
    generalize hxx:bad[j]=x at hr hsp;generalize ssort cBad (bad.take j)=L at hsl hsorted hsp f7⊢;obtain⟨xa,xe⟩:=x;simp only[Q2]at hr;have hr0:∀X,(rY F H.length bx ⟨bs,ms,bad⟩++X)[5]?=_:=y5;simp[f7,f8,f3,hsl];refine Qy 6 (fun fr H'=>fr 2=.ptr (H.length+1) 0∧fr 3=.ptr (H.length+5) 0∧fr 7=YL true 2 (L.map Q2)∧fr 8=YI j∧H'=H++rY F H.length bx ⟨bs,ms,bad⟩∧∃q:Nat,q≤L.length∧fr 9=YI q∧(∀y∈L.take q,y.1≤xa)∧∀y∈L.drop q,xa<y.1) ?_ ?_
    .refine Wz (H.length+6) (fun fr H'=>fr 2=.ptr (H.length+1) 0∧fr 3=.ptr (H.length+5) 0∧fr 7=YL true 2 (L.map Q2)∧fr 8=YI j∧H'=H++rY F H.length bx ⟨bs,ms,bad⟩∧∃q:Nat,q≤L.length∧fr 9=YI q∧∀y∈L.drop q,xa<y.1) (fun fr _=>muI (fr 9)) (by simp[lY]) ?_ ?_
     .exact⟨by simp[f2],by simp[f3],by simp[f7],by simp[f8],hc0,j,by omega,by simp,by rw[Q47 (by omega)];simp⟩
     .rintro fr H' ⟨f2,f3,f7,f8,rfl,q,hq,f9,hdr⟩;cases q with
      |zero=>
       simp[f9,f7,f8,f3,f2];exact⟨0,by omega,rfl,by simp,by simpa using hdr⟩
      |succ q=>
       have hql:q<L.length:=by omega
       have hrq:=Qt Q2 hql;have hwq:IntKind.i64.wrap (((q:Int)+1)-1)=q:=by rw[wi64 (by omega)];omega
       have hwq3:IntKind.i64.wrap (q:Int)=q:=by rw[wi64 (by omega)]
       have hwq2:(((q+1:Nat):Int))=(q:Int)+1:=by omega
       rw[hwq2]at f9;have hpos:(0:Int)<(q:Int)+1:=by omega
       have hdrop:L.drop q=L[q]::L.drop (q+1):=(Q1h hql);have htake:L.take (q+1)=L.take q++[L[q]]:=Q1b hql;have hsq:∀y∈L.take q,y.1≤(L[q]).1:=fun y hy=>by
        have h1:Sorted cBad (L.take q++L.drop q):=by rw[Q1t];exact hsorted
        have h2:=(Sorted.append (c:=cBad)).1 h1;exact Qs9.1 (h2.2.2 y hy L[q] (by rw[hdrop];exact List.mem_cons_self))
       generalize L[q]=y at hrq hdrop htake hsq;obtain⟨ya,ye⟩:=y;simp only[Q2]at hrq;by_cases hc1:xa<ya
       .simp[f9,f7,f8,f3,y5',hr,hrq,hwq,hwq3,hpos,hc1,-getElem?_pos];refine Wc (by simp[lY]) ⟨by simp[f2],by simp[f3],by simp[f7],by simp[f8],hc0,q,by omega,by simp,?_⟩ ?_
        .rw[hdrop];intro y hy;rcases Q1o.1 hy with rfl|hy
         .exact hc1
         .exact hdr y hy
        .show muI (YI q)<muI (YI ((q:Int)+1));simp only[muI];omega
       .simp[f9,f7,f8,f3,f2,y5',hr,hrq,hwq,hwq3,hpos,hc1,-getElem?_pos];refine⟨q+1,by omega,by simp,?_,fun a b h=>hdr (a,b) h⟩;rw[htake];intro a b hy;rcases Q1p.1 hy with hy|hy
        .have:=hsq (a,b) hy;simp only at this⊢;omega
        .simp at hy;omega
    .rintro fr H' ⟨f2,f3,f7,f8,rfl,q,hq,f9,hta,hdr⟩;have hres:ssort cBad (bad.take (j+1))=L.take q++(xa,xe)::L.drop q:=by
      rw[hsp];have:=Qd0 Z0 (a:=L.take q) (b:=L.drop q) (x:=(xa,xe)) (by rw[Q1t];exact hsorted) (fun y hy=>Qs9.2 (hta y hy)) (fun y hy=>Qyj.2 (hdr y hy));rw[Q1t]at this;exact this
     have hq0:(0:Int)≤(q:Int):=by omega
     have hqL:(q:Int)≤(L.length:Int):=by omega
     have hfit1:q*16≤140737488355328:=by omega
     have hfit2:(q+1)*16≤140737488355328:=by omega
     have hfit3:(q+1+(L.length-q))*16≤140737488355328:=by omega
     have hmin:min q L.length=q:=by omega
     have s1:subL (L.map Q2) 0 (q:Int)=some ((L.take q).map Q2):=by rw[Qj6 (by simp;omega)];simp[Q33]
     have s2:subL (L.map Q2) (q:Int) (L.length:Int)=some ((L.drop q).map Q2):=by
      rw[Qj6 (by simp;omega)];have:(List.map Q2 L).length-q=L.length-q:=by simp
      simp[Q34];rw[Q09 (by simp)]
     have hlt':(L.take q).length=q:=by simp;omega
     have hld:(L.drop q).length=L.length-q:=by simp
     simp[-List.map_take,-List.map_drop,s1,s2,f7,f8,f9,f3,appA,hq,hmin,hfit1,hfit2,hfit3,y5,y6,s6,hr,lY,-getElem?_pos];refine Q8 (H.length+6) (Q00 _) hlt (by simp[lY,f8]) ?_;rw[hres,hc];exact⟨by simp[f2],by simp[f3],by simp[Q2,-List.map_take,-List.map_drop],rfl⟩
   .have hjj:j=bad.length:=by simp at hd;omega
    rw[hjj,Q09 (Q00 _)]at f7;simp[f2,f3,f7]
 .rintro fr H' ⟨f2,f3,f7,rfl⟩;simp[f2,f3,f7,y5',y1,y1',lY,-getElem?_pos];simp only[RetK];refine⟨by simp,?_,Qd hcl _⟩;simp[SM.encR]
theorem RSHas.of'(hF:RSHas P F){fof:FuncId}(hof:HasT P [10,11] fof (Qkf F.rbind F.rclosed F.tn F.rtm F.red F.rbd F.rmn))(n:N)(hn:n.size≤68719476736)(H:Hp):
 Qc P fof [n.v] H (fun r H'=>r=.agg ((SM.encR ⟨(allR n).bs,(allR n).ms,ssort cBad (allR n).bad⟩).map .d)∧H'=H):=by
 refine Qe hof (by simp[Qkf]) fun hcl _=>?_;obtain⟨k,f,t,w,a,z,ks⟩:=n;rw[N.size_mk]at hn;rw[N.v_mk];have hsl:=N.sizes_len ks;have hz:SM.sz ⟨[],[],[]⟩=0:=rfl;have hnm:NmOk (SM.mk [] [] []).bs.length []:=fun x hx=>absurd hx (by simp);have hall:allR (.mk k f t w a z ks)=V3 (Ww 0 ks [] ⟨[],[],[]⟩).1 0 ks (Ww 0 ks [] ⟨[],[],[]⟩).2:=rfl;rw[hall];obtain⟨bx,hbx⟩:∃bx,bx=Ob.box F.tn [YI k,YI f,YI t,YS w,YI a,YL z 6 (ks.map N.enc)]:=⟨_,rfl⟩;have hbc:∀n,bx.clr n=bx:=fun n=>by subst hbx;simp
 have tail:=fun(S:SM) hS fr f2 f3=>Qz1 (P:=P) (F:=F) (S:=S) hcl hbc hS fr f2 f3;unfold Qvz at tail;simp[Qkf];rw[←hbx];have hstart:(H++[bx,.box F.rtm [YL true 4 [],YL true 4 [],YL true 2 []],.tok 0 4 F.rbd,.tok 0 4 F.rmn,.tok 0 2 F.red,.box F.rtm [.osl true 4 [] (H.length+2),.osl true 4 [] (H.length+3),.osl true 2 [] (H.length+4)]]:Hp)=H++rY F H.length bx ⟨[],[],[]⟩:=rfl;rw[hstart];have hcut:=fun(S':SM) X=>Qvy (F:=F) (S:=S') hcl hbc X;have hc0:∀S':SM,Hp.cut (H.length+6) (H++rY F H.length bx S')=H++rY F H.length bx S':=fun S'=>by have:=hcut S' [];rwa[Q1i]at this
 have e0:∀S',(rY F H.length bx S')[0]?=some (Ob.box F.tn [YI k,YI f,YI t,YS w,YI a,YL z 6 (ks.map N.enc)]):=fun S'=>by rw[←hbx];rfl
 have lY:∀S',(rY F H.length bx S').length=6:=fun _=>rfl;refine Qy 0 (fun fr H'=>fr 1=.ptr H.length 0∧fr 2=.ptr (H.length+1) 0∧fr 3=.ptr (H.length+5) 0∧fr 4=nms (Ww 0 ks [] ⟨[],[],[]⟩).1∧H'=H++rY F H.length bx (Ww 0 ks [] ⟨[],[],[]⟩).2) ?_ ?_
 .refine Yw (H.length+6) ks.length (fun j fr H'=>fr 1=.ptr H.length 0∧fr 2=.ptr (H.length+1) 0∧fr 3=.ptr (H.length+5) 0∧fr 4=nms (Ww 0 (ks.take j) [] ⟨[],[],[]⟩).1∧H'=H++rY F H.length bx (Ww 0 (ks.take j) [] ⟨[],[],[]⟩).2) (by omega) (by decide) (by simp[lY]) (by simp) ?_ ?_
  .rw[Q20];exact⟨by simp,by simp,by simp,by simp[nms,Ww],hc0 _⟩
  .rintro j fr H' hj f5 ⟨f1,f2,f3,f4,rfl⟩;have hgr:=Qdy (ks.take j) 0 [] ⟨[],[],[]⟩ hnm;have hll:(ks.take j).length=j:=by simp;omega
   have hstep:∀(hlt:j<ks.length),Ww 0 (ks.take (j+1)) [] ⟨[],[],[]⟩=_:=fun hlt=>by
    rw[Q1b hlt,Qdx,hll,Q4d]
   have hend:j=ks.length→Ww 0 (ks.take j) [] ⟨[],[],[]⟩=Ww 0 ks [] ⟨[],[],[]⟩:=fun e=>by rw[e,Q09 (Q00 _)]
   obtain⟨-,g2,g3,g4⟩:=hgr;rw[hll,hz]at g2;rw[hll]at g3;simp only[Q15]at g3;generalize Ww 0 (ks.take j) [] ⟨[],[],[]⟩=TP at g2 g3 g4 hstep hend f4⊢;obtain⟨M1,S1⟩:=TP;simp only at g2 g3 g4 hstep f4⊢;have gb:=fun(x:N)(kind:Int)=>hF.bind' (Qsw (F:=F) (S:=S1) (bx:=bx) (H:=H)) M1 g4 x kind (j:Int) (by omega) (by omega);simp only[Qsv]at gb;simp[f5,f1,e0,-getElem?_pos];refine Qh (fun hd=>?_) (fun hd=>?_)
   .have hlt:j<ks.length:=by simp at hd;omega
    have hr:=Qt N.enc hlt;have hst:=hstep hlt;generalize ks[j]=x at hr hst;obtain⟨k2,f2',t2,w2,a2,z2,ks2⟩:=x;rw[N.enc_mk]at hr;have nxt:∀(S':SM)(M':List Nm)(fr2:Fr),fr2 1=.ptr H.length 0→fr2 2=.ptr (H.length+1) 0→fr2 3=.ptr (H.length+5) 0→fr2 5=YI j→fr2 4=nms M'→Ww 0 (ks.take (j+1)) [] ⟨[],[],[]⟩=(M',S')→
     Qik (fun j fr H'=>fr 1=.ptr H.length 0∧fr 2=.ptr (H.length+1) 0∧fr 3=.ptr (H.length+5) 0∧fr 4=nms (Ww 0 (ks.take j) [] ⟨[],[],[]⟩).1∧H'=H++rY F H.length bx (Ww 0 (ks.take j) [] ⟨[],[],[]⟩).2) .mk (H.length+6) ks.length 5 18 19 j fr2 (H++rY F H.length bx S'):=fun S' M' fr2 u1 u2 u3 u5 u4 hs=>by
     refine Q8 (H.length+6) (Q00 _) hlt (by simp[lY,u5]) ?_;refine⟨by simp[u1],by simp[u2],by simp[u3],?_,?_⟩
     .rw[hs];simp[u4,Za,-A.clr]
     .rw[hs];exact hc0 _
    by_cases h2:k2=2
    .subst h2;rw[if_pos (show(N.mk 2 f2' t2 w2 a2 z2 ks2).k=2 from rfl)]at hst;have gb1:=gb (.mk 2 f2' t2 w2 a2 z2 ks2) 1;rw[N.v_mk]at gb1;simp[f5,f1,f3,f4,e0,hr,-getElem?_pos];refine Qa gb1 ?_;simp[f5,f1,f3,f4,e0,hr,-getElem?_pos];exact nxt _ _ _ (by simp[f1]) (by simp[f2]) (by simp[f3]) (by simp[f5]) (by simp[Wy]) hst
    .by_cases h3:k2=3
     .subst h3;rw[if_neg (show¬(N.mk 3 f2' t2 w2 a2 z2 ks2).k=2 from h2),if_pos (show(N.mk 3 f2' t2 w2 a2 z2 ks2).k=3 from rfl)]at hst;have gb1:=gb (.mk 3 f2' t2 w2 a2 z2 ks2) 2;rw[N.v_mk]at gb1;simp[f5,f1,f3,f4,e0,hr,-getElem?_pos];refine Qa gb1 ?_;simp[f5,f1,f3,f4,e0,hr,-getElem?_pos];exact nxt _ _ _ (by simp[f1]) (by simp[f2]) (by simp[f3]) (by simp[f5]) (by simp[Wy]) hst
     .rw[if_neg (show¬(N.mk k2 f2' t2 w2 a2 z2 ks2).k=2 from h2),if_neg (show¬(N.mk k2 f2' t2 w2 a2 z2 ks2).k=3 from h3)]at hst;simp[f5,f1,f3,f4,e0,hr,h2,h3,-getElem?_pos];exact nxt _ _ _ (by simp[f1]) (by simp[f2]) (by simp[f3]) (by simp[f5]) (by simp[f4]) hst
   .have hjj:j=ks.length:=by simp at hd;omega
    have he:=hend hjj;simp;refine⟨f1,f2,f3,?_,?_⟩
    .rw[←he];exact f4
    .rw[←he]
 .rintro fr H' ⟨f1,f2,f3,f4,rfl⟩;have hgT:=Qdy ks 0 [] ⟨[],[],[]⟩ hnm;obtain⟨-,t2,t3,t4⟩:=hgT;rw[hz]at t2;simp only[Q15]at t3;generalize Ww 0 ks [] ⟨[],[],[]⟩=TP at t2 t3 t4 f4⊢;obtain⟨G,S0⟩:=TP;simp only at t2 t3 t4 f4⊢;simp[f1];refine Qy 2 (fun fr H'=>fr 2=.ptr (H.length+1) 0∧fr 3=.ptr (H.length+5) 0∧H'=H++rY F H.length bx (V3 G 0 ks S0)) ?_ ?_
  .refine Yw (H.length+6) ks.length (fun j fr H'=>fr 1=.ptr H.length 0∧fr 2=.ptr (H.length+1) 0∧fr 3=.ptr (H.length+5) 0∧fr 4=nms G∧H'=H++rY F H.length bx (V3 G 0 (ks.take j) S0)) (by omega) (by decide) (by simp[lY]) (by simp) ?_ ?_
   .rw[Q20];exact⟨by simp[f1],by simp[f2],by simp[f3],by simp[f4,Za,-A.clr],hc0 _⟩
   .rintro j fr H' hj f6 ⟨f1,f2,f3,f4,rfl⟩;have hgr:=Qeb G (ks.take j) 0 S0 t4;have hll:(ks.take j).length=j:=by simp;omega
    have hstep:∀(hlt:j<ks.length),V3 G 0 (ks.take (j+1)) S0=_:=fun hlt=>by
     rw[Q1b hlt,Ql9,hll,Q4d]
    have hsz:∀(hlt:j<ks.length),N.sizes (ks.take j)+(ks[j]).size≤N.sizes ks:=fun hlt=>by
     have:ks=ks.take j++ks[j]::ks.drop (j+1):=by rw[Q36];simp
     have e:N.sizes ks=N.sizes (ks.take j)+(ks[j].size+N.sizes (ks.drop (j+1))):=by conv=>lhs;rw[this,N.sizes_app,N.sizes_cons]
     omega
    have hend:j=ks.length→V3 G 0 (ks.take j) S0=V3 G 0 ks S0:=fun e=>by rw[e,Q09 (Q00 _)]
    obtain⟨g1,g2⟩:=hgr;generalize V3 G 0 (ks.take j) S0=S1 at g1 g2 hstep hend⊢;simp[f6,f1,e0,-getElem?_pos];refine Qh (fun hd=>?_) (fun hd=>?_)
    .have hlt:j<ks.length:=by simp at hd;omega
     have hr:=Qt N.enc hlt;have hst:=hstep hlt;have hz1:=hsz hlt;generalize ks[j]=x at hr hst hz1;obtain⟨k2,f2',t2',w2,a2,z2,ks2⟩:=x;rw[N.enc_mk]at hr;rw[N.size_mk]at hz1;have gc:=hF.closed' (ks:=ks2) (z:=z2) (fun p _=>hF.node' p) (Qsw (F:=F) (S:=S1) (bx:=bx) (H:=H)) (j:Int) G (t4.mono g1) false (by omega) (by omega);simp only[Qsv]at gc;have nxt:∀(S':SM)(fr2:Fr),fr2 1=.ptr H.length 0→fr2 2=.ptr (H.length+1) 0→fr2 3=.ptr (H.length+5) 0→fr2 6=YI j→fr2 4=nms G→V3 G 0 (ks.take (j+1)) S0=S'→
      Qik (fun j fr H'=>fr 1=.ptr H.length 0∧fr 2=.ptr (H.length+1) 0∧fr 3=.ptr (H.length+5) 0∧fr 4=nms G∧H'=H++rY F H.length bx (V3 G 0 (ks.take j) S0)) .mk (H.length+6) ks.length 6 57 58 j fr2 (H++rY F H.length bx S'):=fun S' fr2 u1 u2 u3 u6 u4 hs=>by
      refine Q8 (H.length+6) (Q00 _) hlt (by simp[lY,u6]) ?_;refine⟨by simp[u1],by simp[u2],by simp[u3],by simp[u4,Za,-A.clr],?_⟩;rw[hs];exact hc0 _
     by_cases h3:k2=3
     .subst h3;rw[if_pos (show(N.mk 3 f2' t2' w2 a2 z2 ks2).k=3 from rfl)]at hst;simp[f6,f1,f3,f4,e0,hr,-getElem?_pos];refine Qa gc ?_;simp;exact nxt _ _ (by simp[f1]) (by simp[f2]) (by simp[f3]) (by simp[f6]) (by simp[f4]) hst
     .rw[if_neg (show¬(N.mk k2 f2' t2' w2 a2 z2 ks2).k=3 from h3)]at hst;simp[f6,f1,f3,f4,e0,hr,h3,-getElem?_pos];exact nxt _ _ (by simp[f1]) (by simp[f2]) (by simp[f3]) (by simp[f6]) (by simp[f4]) hst
    .have hjj:j=ks.length:=by simp at hd;omega
     have he:=hend hjj;simp;refine⟨f2,f3,?_⟩;rw[←he]
  .rintro fr H' ⟨f2,f3,rfl⟩;have hgD:=(Qeb G ks 0 S0 t4).2;generalize V3 G 0 ks S0=S at hgD⊢;have ht:=tail S (by omega) fr f2 f3;simpa using ht
end
end
section
end
theorem Qmz:∀(s:Bs),Vg s=match s with
 |[]=>[]
 |[b]=>if b∈([40,41,123,125,44,59,58,46,61,43,45,42,60]:List UInt8)then[b]else[]
 |b::c::_=>if b=61/\c=61 then[61,61]else if b∈([40,41,123,125,44,59,58,46,61,43,45,42,60]:List UInt8)then[b]else[]:=by
 intro s;match s with
 |[]=>rfl
 |[b]=>
  simp only[Vg,Vs,List.find?,List.isPrefixOf];by_cases h:b∈([40,41,123,125,44,59,58,46,61,43,45,42,60]:List UInt8)
  .simp only[Q1o,Q3i,or_false]at h;rcases h with rfl|rfl|rfl|rfl|rfl|rfl|rfl|rfl|rfl|rfl|rfl|rfl|rfl<;>rfl
  .simp only[Q1o,Q3i,or_false,not_or]at h;obtain⟨h1,h2,h3,h4,h5,h6,h7,h8,h9,h10,h11,h12,h13⟩:=h;have g:∀x:UInt8,b≠x->(x==b)=false:=λx h=>by simpa using Ne.symm h
   simp[g _ h1,g _ h2,g _ h3,g _ h4,g _ h5,g _ h6,g _ h7,g _ h8,g _ h9,g _ h10,g _ h11,g _ h12,g _ h13,h1,h2,h3,h4,h5,h6,h7,h8,h9,h10,h11,h12,h13]
 |b::c::r=>
  simp only[Vg,Vs,List.find?,List.isPrefixOf];by_cases h:b∈([40,41,123,125,44,59,58,46,61,43,45,42,60]:List UInt8)
  .by_cases hc:c=61
   .subst hc;simp only[Q1o,Q3i,or_false]at h;rcases h with rfl|rfl|rfl|rfl|rfl|rfl|rfl|rfl|rfl|rfl|rfl|rfl|rfl<;>rfl
   .have gc:((61:UInt8)==c)=false:=by simpa using Ne.symm hc
    simp only[Q1o,Q3i,or_false]at h;rcases h with rfl|rfl|rfl|rfl|rfl|rfl|rfl|rfl|rfl|rfl|rfl|rfl|rfl<;>simp[gc,hc]
  .simp only[Q1o,Q3i,or_false,not_or]at h;obtain⟨h1,h2,h3,h4,h5,h6,h7,h8,h9,h10,h11,h12,h13⟩:=h;have g:∀x:UInt8,b≠x->(x==b)=false:=λx h=>by simpa using Ne.symm h
   simp[g _ h1,g _ h2,g _ h3,g _ h4,g _ h5,g _ h6,g _ h7,g _ h8,g _ h9,g _ h10,g _ h11,g _ h12,g _ h13,h1,h2,h3,h4,h5,h6,h7,h8,h9,h10,h11,h12,h13]
theorem Qxt(b:UInt8):Vg [b]=if b∈([40,41,123,125,44,59,58,46,61,43,45,42,60]:List UInt8)then[b]else[]:=Qmz [b]
theorem Qo8(b c:UInt8)(r:Bs):Vg (b::c::r)=if b=61/\c=61 then[61,61]else if b∈([40,41,123,125,44,59,58,46,61,43,45,42,60]:List UInt8)then[b]else[]:=Qmz (b::c::r)
theorem Qtq(b:UInt8)(r:Bs):tokN (b::r)=if We b then
 if(b::r).take (runN wordB (b::r))∈Yv then(0,2,runN wordB (b::r))else if 40<runN wordB (b::r)then(26,0,0)else(0,1,runN wordB (b::r))
 else if Q9 b then
 if Qcm ((b::r).take (runN wordB (b::r)))then(0,3,runN wordB (b::r))else(23,0,0)
 else if b=34 then
 if(strV (b::r)).2=0 then(0,4,(strV (b::r)).1.length)else(22,0,0)
 else if Vg (b::r)=[]then(21,0,0)else(0,5,(Vg (b::r)).length):=rfl
section
section
variable{L:List Tk}
end
section
variable{L L':List Tk}{d b lo c:Nat}
end
end
section
section
variable{L L':List Tk}{d b:Nat}
end
end
section
section
variable{L L':List Tk}{d b:Nat}
end
end
theorem Qpj(L:List Tk):(Q4 L).1.size<=1+4*L.length:=by
 have hn:N.none.size=1:=N.size_none;unfold Q4;split
 .simp only;omega
 .cases hF:Qbl L with
  |out=>simp only;omega
  |bad q=>simp only;omega
  |ok m j=>
   simp only;split
   .simp only;omega
   .have hsz:=Qkb (L:=L) (16*L.length+8) (.file []) 0 trivial;rw[show pp L (16*L.length+8) (.file []) 0=.ok m j from hF]at hsz;simp only[Sz,G.k1,G.sz,N.sizes_nil]at hsz;have hadv:=Yj (L:=L) (16*L.length+8) (.file []) 0;rw[show pp L (16*L.length+8) (.file []) 0=.ok m j from hF]at hadv;obtain⟨v1,-,v3⟩:=hadv;simp only;omega
theorem Qck(s:Bs):(Q0 s).2.1.size<=16001:=by
 unfold Q0;split
 .simp only[N.size_none];omega
 .rename_i h;split
  .simp only[N.size_none];omega
  .have:=Qpj (lexS s).1;have:=(Qiw (s:=s) (by simpa using h)).2.2.2.2;simp only;omega
section
open Go.Proofs
structure Un where
 n:Bs
 t:Bs
 tk:List Tk
 tr:N
 sm:SM
 bad:Int
 pos:Int
def Un.enc(u:Un):List D:=[.str u.n,.str u.t,.sl true 4 (u.tk.map Qp)]++u.tr.enc++u.sm.enc++[.int .i64 u.bad,.int .i64 u.pos]
def Un.encR(u:Un):List D:=[.str u.n,.str u.t,.sl true 4 (u.tk.map Qp)]++u.tr.enc++u.sm.encR++[.int .i64 u.bad,.int .i64 u.pos]
theorem Un.enc_len(u:Un):u.enc.length=14:=by obtain⟨n,t,tk,⟨k,f,to,w,a,z,ks⟩,sm,b,p⟩:=u;simp[Un.enc,N.enc_mk,SM.enc]
def Wi(m:Mod):Un:=⟨m.n,m.t,(Q0 m.t).1,(Q0 m.t).2.1,if(Q0 m.t).2.2.1=0 then Vz (Q0 m.t).2.1 else⟨[],[],[]⟩,(Q0 m.t).2.2.1,(Q0 m.t).2.2.2⟩
section
variable{P:Program}{H0:Hp}
def Qy9(P:Program)(H0:Hp)(f:Nat):Prop:=∀(s:Bs),s.length<=1048576->∀H,Pre0 H0 H->
 Qc P f [YS s] H (λr H'=>r=.tup [YL true 4 ((Q0 s).1.map Qp),(Q0 s).2.1.v,YI (Q0 s).2.2.1,YI (Q0 s).2.2.2]/\H'=H)
def SofOk(P:Program)(f:Nat):Prop:=∀(n:N),n.size<=68719476736->∀H,Qc P f [n.v] H (λr H'=>r=.agg ((Vz n).enc.map .d)/\H'=H)
def Q0m(P:Program)(f:Nat):Prop:=∀(n:N),n.size<=68719476736->∀H,Qc P f [n.v] H (λr H'=>r=.agg ((Vz n).encR.map .d)/\H'=H)
theorem Has.pjRead{f pof sof tM tU:Nat}(h:Has P f (Qlv pof sof tM tU))(hp:Qy9 P H0 pof)(hs:SofOk P sof)(m:Mod)(hm:m.t.length≤1048576)(H:Hp)(hH:Pre0 H0 H):
 Qc P f [.agg [YS m.n,YS m.t]] H (fun r H'=>r=.agg ((Wi m).enc.map .d)∧H'=H):=by
 refine Qe h (by simp[Qlv]) fun hcl _=>?_;have g1:=fun X=>hp m.t hm (H++X) (hH.app X);have g2:=fun X=>hs (Q0 m.t).2.1 (Q2b (Qck m.t) (by decide)) (H++X);unfold Wi;obtain⟨n,t⟩:=m;simp only at g1 g2⊢;generalize Q0 t=p at g1 g2⊢;obtain⟨tk,tr,bad,pos⟩:=p;simp only at g1 g2⊢;generalize Vz tr=S at g2⊢;obtain⟨bs,ms,bd⟩:=S;obtain⟨k,fr,to,w,a,z,ks⟩:=tr;simp only[N.v_mk,N.enc_mk,SM.enc,Q1q,Q10]at g1 g2;simp[Qlv];refine Qa (g1 _) ?_;simp;by_cases hb:bad=0
 .subst hb;simp;refine Qa (g2 _) ?_;simp;simp[RetK,Qd hcl,Un.enc,SM.enc,N.enc_mk]
 .simp[hb];simp[RetK,Qd hcl,Un.enc,SM.enc,N.enc_mk,hb]
theorem Has.pjRread{f rof sofR tM tR:Nat}(h:Has P f (Qi3 rof sofR tM tR))(hp:Qy9 P H0 rof)(hs:Q0m P sofR)(m:Mod)(hm:m.t.length≤1048576)(H:Hp)(hH:Pre0 H0 H):
 Qc P f [.agg [YS m.n,YS m.t]] H (fun r H'=>r=.agg ((Wi m).encR.map .d)∧H'=H):=by
 refine Qe h (by simp[Qi3]) fun hcl _=>?_;have g1:=fun X=>hp m.t hm (H++X) (hH.app X);have g2:=fun X=>hs (Q0 m.t).2.1 (Q2b (Qck m.t) (by decide)) (H++X);unfold Wi;obtain⟨n,t⟩:=m;simp only at g1 g2⊢;generalize Q0 t=p at g1 g2⊢;obtain⟨tk,tr,bad,pos⟩:=p;simp only at g1 g2⊢;generalize Vz tr=S at g2⊢;obtain⟨bs,ms,bd⟩:=S;obtain⟨k,fr,to,w,a,z,ks⟩:=tr;simp only[N.v_mk,N.enc_mk,SM.encR,Q1q,Q10]at g1 g2;simp[Qi3];refine Qa (g1 _) ?_;simp;by_cases hb:bad=0
 .subst hb;simp;refine Qa (g2 _) ?_;simp;simp[RetK,Qd hcl,Un.encR,SM.encR,N.enc_mk]
 .simp[hb];simp[RetK,Qd hcl,Un.encR,SM.encR,N.enc_mk,hb]
end
end
section
open Go.Proofs
def cU(a b:Un):Int:=Wa a.n b.n
theorem V6:Cmp cU:=Qcc.on Un.n
theorem Un.enc_eq(u:Un):∃l,l.length=13/\u.enc=.str u.n::l:=⟨_,by have:=u.enc_len;obtain⟨n,t,tk,⟨k,f,to,w,a,z,ks⟩,sm,b,p⟩:=u;simp[Un.enc,N.enc_mk,SM.enc],rfl⟩
theorem list13{α:Type}:∀{l:List α},l.length=13->∃a b c d e f g h i j k m n,l=[a,b,c,d,e,f,g,h,i,j,k,m,n]
 |[a,b,c,d,e,f,g,h,i,j,k,m,n],_=>⟨a,b,c,d,e,f,g,h,i,j,k,m,n,rfl⟩
theorem Un.ld(u:Un)(H:Hp):ldA H 14 (.eptr u.enc)=some (rowE Un.enc u):=by obtain⟨l,hl,hu⟩:=u.enc_eq;obtain⟨a,b,c,d,e,f',g,h,i,j,k,m',n',rfl⟩:=list13 hl;simp[ldA,rowE,hu,cutL]
theorem Has.pjCmpU{f cmpS nan tU:Nat}(h:Has P f (Qhp cmpS tU))(hs:Has P cmpS (V2 nan))(hn:Has P nan Qam)(u v:Un)(H:Hp):
 Qc P f [.agg (rowE Un.enc u),.agg (rowE Un.enc v)] H (λr H'=>r=YI (cU u v)/\H'=H):=by
 obtain⟨fn,hf,hcf⟩:=h;obtain⟨l,hl,hu⟩:=u.enc_eq;obtain⟨m,hm,hv⟩:=v.enc_eq;obtain⟨a,b,c,d,e,f',g,h,i,j,k,m',n',rfl⟩:=list13 hl;obtain⟨a',b',c',d',e',f'',g',h',i',j',k',m'',n'',rfl⟩:=list13 hm;refine Qx hf hcf (by simp[Qhp]) λhcl _=>?_;simp[Qhp,rowE,hu,hv];refine Qa (Qdr hs.choose_spec.1 hs.choose_spec.2 hn.choose_spec.1 hn.choose_spec.2 _ _) ?_;simp[RetK,Qd hcl,cU]
theorem Has.pjCmpUS{f cmpS nan tU:Nat}(h:Has P f (Qdj cmpS tU))(hs:Has P cmpS (V2 nan))(hn:Has P nan Qam)(u:Un)(s:Bs)(H:Hp):
 Qc P f [.agg (rowE Un.enc u),YS s] H (λr H'=>r=YI (Wa u.n s)/\H'=H):=by
 obtain⟨fn,hf,hcf⟩:=h;obtain⟨l,hl,hu⟩:=u.enc_eq;obtain⟨a,b,c,d,e,f',g,h,i,j,k,m',n',rfl⟩:=list13 hl;refine Qx hf hcf (by simp[Qdj]) λhcl _=>?_;simp[Qdj,rowE,hu];refine Qa (Qdr hs.choose_spec.1 hs.choose_spec.2 hn.choose_spec.1 hn.choose_spec.2 _ _) ?_;simp[RetK,Qd hcl]
def lbU(S:List Un)(s:Bs):Nat:=(S.takeWhile λu=>decide (Wa u.n s<0)).length
theorem Qz9{S:List Un}{s:Bs}{k:Nat}(h1:k<=S.length)(h2:∀j u,j<k->S[j]?=some u->Wa u.n s<0)(h3:∀u,S[k]?=some u->¬Wa u.n s<0):lbU S s=k:=by
 unfold lbU;induction S generalizing k with
 |nil=>simp at h1;simp[h1]
 |cons x S ih=>
  cases k with
  |zero=>have:=h3 x rfl;simp[this]
  |succ k=>have h:=h2 0 x (by omega) rfl;rw[Q5g,if_pos (by simpa using h),Q1d];rw[ih (by simpa using h1) (λj u hj hu=>h2 (j+1) u (by omega) (by simpa using hu)) (λu hu=>h3 u (by simpa using hu))]
theorem Has.pjBins{f g:Nat}(h:Has P f Qhq)(S:List Un)(z:Bool)(s:Bs)(hl:S.length<=1048576)(hso:∀(i j:Nat) (u v:Un),i<=j->S[i]?=some u->S[j]?=some v->Wa v.n s<0->Wa u.n s<0)(hg:Wn P g=true)(hc:∀(u:Un) (H:Hp),Qc P g [.agg (rowE Un.enc u),YS s] H (λr H'=>r=YI (Wa u.n s)/\H'=H))(H:Hp):
 Qc P f [YL z 14 (S.map Un.enc),YS s,.d (.fn g)] H (λr H'=>r=.tup [YI (lbU S s),YB (match S[lbU S s]? with|some u=>decide (Wa u.n s=0)|none=>false)]/\H'=H):=by
 refine Qe h (by simp[Qhq]) λhcl _=>?_;simp[Qhq];refine Qy 0 (λfr H'=>fr 0=YL z 14 (S.map Un.enc)/\fr 1=YS s/\fr 2=.d (.fn g)/\fr 8=YI S.length/\fr 9=YI (lbU S s:Nat)/\H'=H) ?_ ?_
 .refine Wz H.length (λfr H'=>∃lo hi:Nat,lo<=hi/\hi<=S.length/\(∀j u,j<lo->S[j]?=some u->Wa u.n s<0)/\(∀j u,hi<=j->S[j]?=some u->¬Wa u.n s<0)/\
   fr 0=YL z 14 (S.map Un.enc)/\fr 1=YS s/\fr 2=.d (.fn g)/\fr 8=YI S.length/\fr 9=YI lo/\fr 10=YI hi/\H'=H)
   (λfr H'=>match fr 9,fr 10 with|.d (.int _ k),.d (.int _ l)=>(l-k).toNat|_,_=>0) (by simp) ?_ ?_
  .refine⟨0,S.length,by omega,by omega,λj u hj=>by omega,λj u hj hu=>absurd (Q0y.1 hu).1 (by omega),?_⟩;simp[Qb hcl]
  rintro fr H' ⟨lo,hi,e1,e2,eA,eB,f0,f1,f2,f8,f9,f10,hH'⟩;rw[hH'];simp[f9,f10];refine Qh (λh4=>?_) (λh4=>?_)
  .have h4:lo<hi:=by simp at h4;omega
   have v1:IntKind.i64.wrap ((lo:Int)+hi)=lo+hi:=wi64 (by omega);have v2:=Qh9 (n:=(lo:Int)+hi) (by omega) (by omega);generalize hk:(lo+hi)/2=k;have hk2:((lo:Int)+hi)/2=k:=by omega
   rw[hk2]at v2;have v4:IntKind.i64.wrap ((k:Int)+1)=k+1:=wi64 (by omega);obtain⟨u,hu⟩:∃u,S[k]?=some u:=⟨_,Q0x (by omega)⟩;have hr:Zam.rowAt (S.map Un.enc) (k:Int)=some u.enc:=by simp[Zam.rowAt,hu]
   simp[f0,f1,f2,f9,f10,v1,Qg3,v2,hr,u.ld,hg,-ldA];refine Qa (hc u _) ?_;simp;refine Qh (λh5=>?_) (λh5=>?_)
   .have h5:Wa u.n s<0:=by simpa using h5
    simp[v4];refine Wc (m:=H.length) (by simp) ⟨k+1,hi,by omega,by omega,?_,eB,?_⟩ ?_
    .intro j x hj hx;exact hso j k x u (by omega) hx hu h5
    .simp[f0,f1,f2,f8,f9,f10,Qb hcl]
    .simp[f9,f10];omega
   .have h5:¬Wa u.n s<0:=by simpa using h5
    simp;refine Wc (m:=H.length) (by simp) ⟨lo,k,by omega,by omega,eA,?_,?_⟩ ?_
    .intro j x hj hx h6;exact h5 (hso k j u x hj hu hx h6)
    .simp[f0,f1,f2,f8,f9,f10,Qb hcl]
    .simp[f9,f10];omega
  .have:lo=hi:=by simp at h4;omega
   subst this;simp[f0,f1,f2,f8,f9];rw[Qz9 (by omega) eA (λu hu=>eB lo u (Q00 _) hu)]
 .rintro fr H' ⟨f0,f1,f2,f8,f9,rfl⟩;have hle:lbU S s<=S.length:=(List.takeWhile_prefix _).length_le;simp[f0,f1,f2,f8,f9];refine Qji (by simp) (λh=>?_) (λh=>?_)
  .have hlt:lbU S s<S.length:=by simpa using h
   have hu:S[lbU S s]?=some S[lbU S s]:=Q0x hlt;generalize S[lbU S s]=u at hu;have hr:Zam.rowAt (S.map Un.enc) ((lbU S s:Nat):Int)=some u.enc:=by simp[Zam.rowAt,hu]
   simp[f0,f1,f2,f8,f9,hr,u.ld,hg,hlt,-ldA];refine Qa (hc u _) ?_;simp;simp[RetK,Qb hcl,hu]
  .have hlt:¬lbU S s<S.length:=by simpa using h
   have hn:S[lbU S s]?=none:=by simp;omega
   simp[h];simp[RetK,Qb hcl];rw[hn]
end
section
open Go.RowKit (Below)
open Go.Proofs Go.Sort
theorem Qjz(w:World)(n:Nat):Below w.heap.size w (Go.Sort.ahead w n):=⟨rfl,rfl,rfl,Q00 _,λ_ _=>rfl⟩
theorem Qmf(w:World)(os:Array Obj):Below w.heap.size w (grow w os):=⟨rfl,rfl,rfl,by simp[grow],λk hk=>by simp[grow,Q2h hk]⟩
end
section
open Go.RowKit (Below)
open Go.Proofs Go.Sort
end
end Go.Zam
namespace Go.Zam
abbrev Str':=List UInt8
namespace Ty
end Ty
end Go.Zam
namespace Go.Zam
open Classical
namespace Ty
end Ty
end Go.Zam
namespace Go.Zam
open Classical
namespace Ty
end Ty
end Go.Zam
namespace Go.Zam
open Classical
namespace Ty
end Ty
end Go.Zam
namespace Go.Zam
variable{P:Program}
section
open Classical
end
section
open Classical
end
section
open Go.RowKit (Below)
open Go.Proofs Go.Sort
end
section
open Go.Proofs
end
section
open Classical
end
section
open Classical
end
section
section
variable{P:Program}{F:PF}
end
end
section
open Classical
end
section
open Go.Proofs
open Classical
section
variable{L:List Tk}{b:Nat}
end
end
section
open Classical
end
section
open Classical
end
section
open Classical
section
variable{P:Program}{bt:Nat}
end
end
section
open Classical
section
variable{P:Program}{t:Nat}
end
end
end Go.Zam
namespace Go.Zam
open Classical
namespace Ty
end Ty
section
variable{P:Program}{t:Nat}{H0:Hp}
end
end Go.Zam
namespace Go.Zam
variable{P:Program}
section
open Classical
section
variable{P:Program}{t:Nat}{H0:Hp}
end
end
section
open Classical
section
variable{c:Bool}{k k':Int}{z z' y y':Bool}{ns ns':List Str'}{ps ps':List T}
end
end
section
open Classical
section
variable{P:Program}{t tS:TypeId}
end
end
section
open Classical
section
variable{P:Program}{t:Nat}{H0:Hp}
end
end
section
open Classical
end
section
open Classical
end
section
open Go.Proofs
def pA(S:List Un):A:=.eptr [.sl S.isEmpty 14 (S.map Un.enc)]
def zU:List D:=[.str [],.str [],.sl true 4 [],.int .i64 0,.int .i64 0,.int .i64 0,.str [],.int .i64 0,.sl true 6 [],.sl true 4 [],.sl true 4 [],.sl true 2 [],.int .i64 0,.int .i64 0]
def Vd(S:List Un)(s:Bs):Option Un:=match S[lbU S s]? with
 |some u=>if Wa u.n s=0 then some u else none
 |none=>none
theorem Qoy{H X:Hp}(R:List (List D))(j:Nat){b sz e:Nat}(r:List D)(hj:j<R.length)(hb:(R.length+1)*b<=140737488355328):
 appA (H++(.tok j sz e::X)) sz b e [r] (.osl true sz (R.take j) H.length)=some (.osl true sz (R.take j++[r]) H.length,H++(.tok (j+1) sz e::X)):=by
 have hl:(R.take j).length=j:=by simp;omega
 have:=Qqz (H:=H++(.tok j sz e::X)) (t:=H.length) (sz:=sz) (b:=b) (e:=e) (z:=true) (rows:=R.take j) (new:=[r]) (by simp[hl]) (by rw[hl];simp only[Q2t];exact Q2b (Q1y _ (by omega)) hb);rw[this,hl];simp
theorem Has.pjUnit{f bins cmpUS cmpS nan tU:Nat}(h:Has P f (Qe8 bins cmpUS tU))(hb:Has P bins Qhq)(hc:Has P cmpUS (Qdj cmpS tU))(hk:Wn P cmpUS=true)(hs:Has P cmpS (V2 nan))(hn:Has P nan Qam)(S:List Un)(s:Bs)(hl:S.length<=1048576)(hso:∀(i j:Nat) (u v:Un),i<=j->S[i]?=some u->S[j]?=some v->Wa v.n s<0->Wa u.n s<0)(H:Hp):
 Qc P f [pA S,YS s] H (λr H'=>r=.tup [.agg (((Vd S s).elim zU Un.enc).map .d),YB (Vd S s).isSome]/\H'=H):=by
 refine Qe h (by simp[Qe8]) λhcl _=>?_;have g:=λX=>Has.pjBins hb S S.isEmpty s hl hso hk (λu H=>Has.pjCmpUS hc hs hn u s H) (H++X);unfold Vd;simp[Qe8,pA];refine Qa (g _) ?_;cases hu:S[lbU S s]? with
 |none=>simp;simp[RetK,Qd hcl,zU]
 |some u=>
  by_cases h0:Wa u.n s=0
  .have hr:Zam.rowAt (S.map Un.enc) ((lbU S s:Nat):Int)=some u.enc:=by simp[Zam.rowAt,hu]
   obtain⟨l,hl,he⟩:=u.enc_eq;obtain⟨a,b,c,d,e,f',g,h,i,j,k,m',n',rfl⟩:=list13 hl;simp[h0,hr,he];simp[RetK,Qd hcl,h0,he]
  .simp[h0];simp[RetK,Qd hcl,zU,h0]
theorem Has.pjNames{f tU tS:Nat}(h:HasT P [3] f (Qf2 tU tS))(S:List Un)(hl:S.length<=1048576)(H:Hp):
 Qc P f [pA S] H (λr H'=>r=YL true 1 (S.map λu=>[.str u.n])/\H'=H):=by
 refine Qe h (by simp[Qf2]) λhcl _=>?_;simp[Qf2,pA];refine Qy 0 (λfr H'=>fr 3=.osl true 1 (S.map λu=>[.str u.n]) H.length/\H'=H++[.tok S.length 1 tS]) ?_ ?_
 .refine Wt (H.length+1) S.length (λj fr H'=>fr 11=YL S.isEmpty 14 (S.map Un.enc)/\fr 3=.osl true 1 ((S.map λu=>[D.str u.n]).take j) H.length/\H'=H++[.tok j 1 tS]) (by omega) (by decide) (by simp) (by simp) ?_ ?_ ?_
  .simp[Qk hcl]
  .rintro j fr H' hj fi fn ⟨f11,f3,rfl⟩;obtain⟨u,hu⟩:∃u,S[j]?=some u:=⟨_,Q0x hj⟩;have hr:Zam.rowAt (S.map Un.enc) (j:Int)=some u.enc:=by simp[Zam.rowAt,hu]
   obtain⟨l,hl',he⟩:=u.enc_eq;obtain⟨a,b,c,d,e,f',g,h,i,j',k,m',n',rfl⟩:=list13 hl';have ht:(S.map λu=>[D.str u.n]).take (j+1)=(S.map λu=>[D.str u.n]).take j++[[.str u.n]]:=by rw[Q29,Q1a,hu];rfl
   have happ:=λX=>Qoy (H:=H) (X:=X) (S.map λu=>[D.str u.n]) j (b:=16) (sz:=1) (e:=tS) [.str u.n] (by simpa using hj) (by simp;omega);simp[fi,f11,hr,he,f3,happ];refine Wl (H.length+1) (Q00 _) (by simp[fi,fn]) ?_;simp[f11,Qk hcl,ht]
  .rintro fr H' fi fn ⟨f11,f3,rfl⟩;simp;rw[f3,Q09 (by simp)]
 .rintro fr H' ⟨f3,rfl⟩;simp[f3];simp[RetK,Qd hcl]
end
section
open Go.Proofs
def chkU:Option Bs->List Un->Int
 |_,[]=>0
 |p,u::r=>if Y0 u.n=false then 1 else if p=some u.n then 4 else chkU (some u.n) r
def pvU(S:List Un)(j:Nat):Option Bs:=match j with
 |0=>none
 |j+1=>(S[j]?).map Un.n
structure SortU(P:Program)(clone srt stb ins sym rot swp cU cmpS nan tU:Nat):Prop where
 clone:HasT P [1000005] clone (Qb7 14 216 tU)
 srt:Has P srt (Vq stb)
 stb:Has P stb (Qal ins sym)
 ins:Has P ins (Vh 14)
 sym:Has P sym (Zk 14 rot sym)
 rot:Has P rot (Zy swp)
 swp:Has P swp (Y4 14)
 cmpU:Has P cU (Qhp cmpS tU)
 kCmpU:Wn P cU=true
 cmpS:Has P cmpS (V2 nan)
 nan:Has P nan Qam
theorem Qv8{f clone srt stb ins sym rot swp cmpU cmpS nan tU isName tP:Nat}(hC:SortU P clone srt stb ins sym rot swp cmpU cmpS nan tU)(h:Has P f (Qe9 clone srt isName cmpU tP tU))(hN:∀s H,Qc P isName [YS s] H (λr H'=>r=YB (Y0 s)/\H'=H)){H:Hp}(l:List Un)(hl0:l≠[])(hl:l.length<=8)(z:Bool)(k:Nat)(K:A->Hp->Prop)(hok:H.Closed->chkU none (ssort cU l)=0->RetK K .mk (H.length+k) (some (.tup [.ptr (H.length+2) 0,YI 0])) (H++[.arr 14 [],arrE Un.enc 14 (ssort cU l),.box tP [.msl (H.length+1) 0 l.length]]))(herr:∀e X,H.Closed->chkU none (ssort cU l)=e->e≠0->RetK K .mk (H.length+k) (some (.tup [.d .nilp,YI e])) (H++X)):
 Qc P f [YL z 14 (l.map Un.enc)] H K:=by
 have hlen:=Wx V6 l;refine Z8 k h.choose_spec.1 h.choose_spec.2 (by simp[Qe9]) λhcl _=>?_;have h8:¬(8:Int)<l.length:=by omega
 simp[Qe9,h8];refine Qa (Qol hC.clone.choose_spec.1 hC.clone.choose_spec.2 (rows:=l.map Un.enc) (by simpa using hl0) (by simp;omega)) ?_;simp;have hss:∀X,Qc P srt [.msl (H.length+1) 0 l.length,.d (.fn cmpU)] (H++[.arr 14 [],arrE Un.enc 14 l]++X) (λr' H'=>r'=.tup []/\H'=H++[.arr 14 [],arrE Un.enc 14 (ssort cU l)]++X):=λX=>by
  have:=Qc3 Un.enc_len V6 hC.srt.choose_spec.1 hC.srt.choose_spec.2 hC.stb.choose_spec.1 hC.stb.choose_spec.2 hC.ins.choose_spec.1 hC.ins.choose_spec.2 hC.sym.choose_spec.1 hC.sym.choose_spec.2 hC.rot.choose_spec.1 hC.rot.choose_spec.2 hC.swp.choose_spec.1 hC.swp.choose_spec.2
   (g:=.d (.fn cmpU)) (λH x y Q t hq=>by simp only[Qxb];exact⟨hC.kCmpU,W5 (Has.pjCmpU hC.cmpU hC.cmpS hC.nan x y H) hq⟩) (H:=H++[.arr 14 [],arrE Un.enc 14 l]++X) (i:=H.length+1) (L:=l) (λm _=>by simp) (by simp) (by omega)
  refine this.mono ?_;rintro r H' ⟨rfl,rfl⟩;exact⟨rfl,by simp⟩
 have hss1:=hss [.box tP [.msl (H.length+1) 0 l.length]];rw[show arrE Un.enc 14 l=.arr 14 ((l.map Un.enc).map (List.map .d)) by simp[arrE,rowE]]at hss1;simp at hss1;refine Qa hss1 ?_;clear hss1 hss;generalize hS:ssort cU l=S at*;rw[<-hlen];rw[<-hlen]at hok;have hS8:S.length<=8:=by omega
 have hi:∀X:Hp,(H++.arr 14 []::arrE Un.enc 14 S::X)[H.length+1]?=some (arrE Un.enc 14 S):=λX=>by simp
 simp;refine Qm 0 (λfr H'=>fr 4=.ptr (H.length+2) 0/\chkU none S=0/\H'=H++[.arr 14 [],arrE Un.enc 14 S,.box tP [.msl (H.length+1) 0 S.length]])
  (λfr H'=>∃e X,chkU none S=e/\e≠0/\fr 2=.d .nilp/\fr 3=YI e/\H'=H++X) ?_ ?_ ?_
 .refine Wt (H.length+3) S.length (λj fr H'=>fr 4=.ptr (H.length+2) 0/\fr 22=.msl (H.length+1) 0 S.length/\chkU none S=chkU (pvU S j) (S.drop j)/\H'=H++[.arr 14 [],arrE Un.enc 14 S,.box tP [.msl (H.length+1) 0 S.length]]) (by omega) (by decide) (by simp) (by simp) ?_ ?_ ?_
  .simp[Qk hcl,Wk,pvU,-Ob.clr];exact⟨by simp,by simp⟩
  .rintro j fr H' hj fi fn ⟨f4,f22,hch,rfl⟩;obtain⟨u,hu⟩:∃u,S[j]?=some u:=⟨_,Q0x hj⟩;have hdr:S.drop j=u::S.drop (j+1):=by rw[Q1h hj];congr 1;rw[Q0x hj]at hu;cases hu;rfl
   rw[hdr]at hch;simp only[chkU]at hch;obtain⟨l13,hl',he⟩:=u.enc_eq;obtain⟨a,b,c,d,e,f',g,h,i,j',k',m',n',rfl⟩:=list13 hl';have h1:=Yu (n:=S.length) (hi [.box tP [.msl (H.length+1) 0 S.length]]) rfl hj;have h2:=Z7 Un.enc_len (hi [.box tP [.msl (H.length+1) 0 S.length]]) hu;rw[rowE,he]at h2;simp only[Q1q,Q10]at h2;simp[fi,f4,f22,h1,h2,Qwl,Qvg,-W6,-ldA,-stA];refine Qa (hN _ _) ?_;simp;cases hb:Y0 u.n with
   |false=>rw[if_pos hb]at hch;simp[hch]
   |true=>
    rw[if_neg (by rw[hb];decide)]at hch;have hps:pvU S (j+1)=some u.n:=by simp[pvU,hu]
    by_cases hj0:j=0
    .subst hj0;rw[if_neg (by simp[pvU])]at hch;simp;refine Wl (H.length+3) (Q00 _) (by simp[fi,fn]) ?_;simp[f4,f22,Qk hcl,Wk,-Ob.clr];refine⟨by rw[hch];simp[pvU,hu],by simp,by simp⟩
    .have hjp:0<j:=by omega
     obtain⟨v,hv⟩:∃v,S[j-1]?=some v:=⟨_,Q0x (by omega)⟩;have hpv:pvU S j=some v.n:=by obtain⟨j,rfl⟩:∃i,j=i+1:=⟨j-1,by omega⟩;simp only[Nat.add_sub_cancel]at hv;simp[pvU,hv]
     rw[hpv]at hch;have hw:IntKind.i64.wrap ((j:Int)-1)=((j-1:Nat):Int):=by rw[wi64 (by omega)];omega
     have h3:=Yu (n:=S.length) (k:=j-1) (hi [.box tP [.msl (H.length+1) 0 S.length],.box tU [A.d (D.str u.n),A.d a,A.d b,A.d c,A.d d,A.d e,A.d f',A.d g,A.d h,A.d i,A.d j',A.d k',A.d m',A.d n']]) rfl (by omega);obtain⟨lv,-,hev⟩:=v.enc_eq;have h4:=Qym (hi [.box tP [.msl (H.length+1) 0 S.length],.box tU [A.d (D.str u.n),A.d a,A.d b,A.d c,A.d d,A.d e,A.d f',A.d g,A.d h,A.d i,A.d j',A.d k',A.d m',A.d n']]) hv (j:=0) (by rw[hev];rfl);simp[f4,hjp,hw,h3,h4,Qwl,Qvg,-W6,-ldA,-stA];by_cases hvu:v.n=u.n
     .rw[if_pos (by rw[hvu])]at hch;simp[hvu,hch]
     .rw[if_neg (by simpa using hvu)]at hch;simp[hvu];refine Wl (H.length+3) (Q00 _) (by simp[fi,fn]) ?_;simp[f4,f22,Qk hcl,Wk,hps,hch,-Ob.clr];exact⟨by simp,by simp⟩
  .rintro fr H' fi fn ⟨f4,f22,hch,rfl⟩;simp[f4];rw[hch,Q3x];rfl
 .rintro fr H' ⟨e,X,h1,h2,f2,f3,rfl⟩;simp[f2,f3];exact herr e X hcl h1 h2
 .rintro fr H' ⟨f4,h1,rfl⟩;simp[f4];exact hok hcl h1
def ofU(l:List Un):List Un×Int:=if 8<l.length then([],5)else(if chkU none (ssort cU l)=0 then ssort cU l else[],chkU none (ssort cU l))
def ofA(l:List Un):A:=.tup [if(ofU l).2=0 then pA (ofU l).1 else .d .nilp,YI (ofU l).2]
theorem Has.pjOf{f clone srt stb ins sym rot swp cmpU cmpS nan tU isName tP:Nat}(hC:SortU P clone srt stb ins sym rot swp cmpU cmpS nan tU)(h:Has P f (Qe9 clone srt isName cmpU tP tU))(hN:∀s H,Qc P isName [YS s] H (λr H'=>r=YB (Y0 s)/\H'=H)){H:Hp}(l:List Un)(hb:l.length<=1048576)(z:Bool)(hz:l=[]->z=true):
 Qc P f [YL z 14 (l.map Un.enc)] H (λr H'=>r=ofA l/\H'=H):=by
 by_cases h8:8<l.length
 .have ho:ofA l=.tup [.d .nilp,YI 5]:=by simp[ofA,ofU,h8]
  rw[ho];refine Qx h.choose_spec.1 h.choose_spec.2 (by simp[Qe9]) λhcl _=>?_;have h8':(8:Int)<l.length:=by omega
  simp[Qe9,h8'];simp[RetK,Qb hcl]
 by_cases h0:l=[]
 .subst h0;obtain rfl:=hz rfl;have ho:ofA []=.tup [.eptr [.sl true 14 []],YI 0]:=rfl;rw[ho];refine Qc.freezeBoxD (b:=0) (ty:=tP) (X:=[.box tP [YL true 14 []]]) rfl ?_;refine Z8 1 h.choose_spec.1 h.choose_spec.2 (by simp[Qe9]) λhcl _=>?_;simp[Qe9];refine Qa (Qom hC.clone.choose_spec.1 hC.clone.choose_spec.2) ?_;simp;refine Qa (Qcg (sz:=14) hC.srt.choose_spec.1 hC.srt.choose_spec.2 hC.stb.choose_spec.1 hC.stb.choose_spec.2 hC.ins.choose_spec.1 hC.ins.choose_spec.2 (λm _=>by simp)) ?_;simp;refine Qy 0 (λfr H'=>fr 4=.ptr H.length 0/\H'=H++[.box tP [YL true 14 []]]) ?_ ?_
  .refine Wt (H.length+1) 0 (λj fr H'=>fr 4=.ptr H.length 0/\H'=H++[.box tP [YL true 14 []]]) (by omega) (by decide) (by simp) (by simp) ?_ ?_ ?_
   .simp[Qk hcl]
   .rintro j fr H' hj;exact absurd hj (by omega)
   .rintro fr H' fi fn ⟨f4,rfl⟩;simp[f4]
  .rintro fr H' ⟨f4,rfl⟩;simp[f4];simp[RetK,Qk hcl]
 have hlen:=Wx V6 l;by_cases hc:chkU none (ssort cU l)=0
 .have hne:(ssort cU l).isEmpty=false:=by
   cases hs:ssort cU l with
   |nil=>rw[hs]at hlen;exact absurd (Q06 hlen.symm) h0
   |cons _ _=>rfl
  have ho:ofA l=.tup [.eptr [.sl false 14 ((ssort cU l).map Un.enc)],YI 0]:=by simp[ofA,ofU,h8,hc,pA,hne]
  rw[ho];refine Qc.freezeBox (i:=1) (b:=2) (ty:=tP) (X:=[.arr 14 [],arrE Un.enc 14 (ssort cU l),.box tP [.msl (H.length+1) 0 l.length]]) (by simp[arrE,rowE]) (by simp[hlen]) ?_;refine Qv8 hC h hN l h0 (by omega) z 3 _ (λhcl _=>?_) (λe X _ h1 h2=>absurd (h1.symm.trans hc) h2);simp[RetK,hlen,Qk hcl,Wk,-Ob.clr];exact⟨by simp,by simp⟩
 .have ho:ofA l=.tup [.d .nilp,YI (chkU none (ssort cU l))]:=by simp[ofA,ofU,h8,hc]
  rw[ho];refine Qv8 hC h hN l h0 (by omega) z 0 _ (λ_ h1=>absurd h1 hc) (λe X hcl h1 h2=>?_);subst h1;simp[RetK,Qd hcl]
end
end Go.Zam
namespace Go.Zam
variable{P:Program}
open Go.Proofs
namespace R2
end R2
end Go.Zam
namespace Go.Zam
variable{P:Program}
section
open Go.Proofs
end
section
open Go.Proofs
theorem gtS(x y:Mod):Qba .gtr y.n x.n=some (.bool (decide (cM x y<0))):=by
 have e:(!(Op.bytesLess y.n x.n||decide (y.n=x.n)))=decide (cM x y<0):=by
  unfold cM;by_cases h:Wa x.n y.n<0
  .have h1:=Qae.1 h;have h2:=Qqt h1;have h3:y.n≠x.n:=λe=>by rw[e,Qbx]at h1;cases h1
   simp[h,h2,h3]
  .have h1:Op.bytesLess x.n y.n=false:=by
    cases hb:Op.bytesLess x.n y.n with
    |false=>rfl
    |true=>exact absurd (Qae.2 hb) h
   by_cases h3:y.n=x.n
   .have:=Qcc.refl x.n;simp[h3,this]
   .have h2:Op.bytesLess y.n x.n=true:=by
     cases hb:Op.bytesLess y.n x.n with
     |true=>rfl
     |false=>exact absurd (Qig _ _ hb h1) h3
    simp[h,h2]
 simp only[Qba,e]
end
section
open Go.Proofs
section
variable{P:Program}{H0:Hp}
def Qxf(P:Program)(H0:Hp)(f:Nat):Prop:=∀(m:Mod),m.t.length<=1048576->∀H,Pre0 H0 H->Qc P f [.agg [YS m.n,YS m.t]] H (λr H'=>r=.agg ((Wi m).enc.map .d)/\H'=H)
def Qtf(P:Program)(H0:Hp)(f:Nat):Prop:=∀(m:Mod),m.t.length<=1048576->∀H,Pre0 H0 H->Qc P f [.agg [YS m.n,YS m.t]] H (λr H'=>r=.agg ((Wi m).encR.map .d)/\H'=H)
theorem HasT.pjLoad{f read of_ tM tU:Nat}(h:HasT P [4] f (Qfa read of_ tM tU))(hr:Qxf P H0 read)(ho:∀(l:List Un) (z:Bool),l.length<=1048576->(l=[]->z=true)->∀H,Qc P of_ [YL z 14 (l.map Un.enc)] H (λr H'=>r=ofA l/\H'=H))(l:List Mod)(z:Bool)(ht:∀m∈l,m.t.length<=1048576)(H:Hp)(hH:Pre0 H0 H):
 Qc P f [YL z 2 (l.map encM)] H (λr H'=>r=ofA (l.map Wi)/\H'=H):=by
 obtain⟨fn,hf,hcf⟩:=h;by_cases h8:8<l.length
 .have hoe:ofA (l.map Wi)=.tup [.d .nilp,YI 5]:=by simp[ofA,ofU,h8]
  rw[hoe];refine Qx hf hcf (by simp[Qfa]) λhcl _=>?_;have h8':(8:Int)<l.length:=by omega
  simp[Qfa,h8'];simp[RetK,Qb hcl]
 refine Qx hf hcf (by simp[Qfa]) λhcl _=>?_;have h8':¬(8:Int)<l.length:=by omega
 simp[Qfa,h8'];refine Qy 0 (λfr H'=>fr 4=.osl true 14 ((l.map Wi).map Un.enc) H.length/\H'=H++[.tok l.length 14 tU]) ?_ ?_
 .refine Wt (H.length+1) l.length (λj fr H'=>fr 10=YL z 2 (l.map encM)/\fr 4=.osl true 14 (((l.map Wi).map Un.enc).take j) H.length/\H'=H++[.tok j 14 tU]) (by omega) (by decide) (by simp) (by simp) ?_ ?_ ?_
  .simp[Qk hcl]
  .rintro j fr H' hj fi fn ⟨f10,f4,rfl⟩;obtain⟨m,hm⟩:∃m,l[j]?=some m:=⟨_,Q0x hj⟩;have hrow:Zam.rowAt (l.map encM) (j:Int)=some [.str m.n,.str m.t]:=by simp[Zam.rowAt,hm,encM]
   have hrd:=λX=>hr m (ht m (Q1g hm)) (H++X) (hH.app X);obtain⟨l13,hl',he⟩:=(Wi m).enc_eq;obtain⟨a,b,c,d,e,f',g,h,i,j',k',m',n',rfl⟩:=list13 hl';have ht':((l.map Wi).map Un.enc).take (j+1)=((l.map Wi).map Un.enc).take j++[(Wi m).enc]:=by rw[Q29,Q1a,Q1a,hm];rfl
   rw[he]at ht';have happ:=λX=>Qoy (H:=H) (X:=X) ((l.map Wi).map Un.enc) j (b:=216) (sz:=14) (e:=tU) [.str (Wi m).n,a,b,c,d,e,f',g,h,i,j',k',m',n'] (by simpa using hj) (by simp;omega);generalize(l.map Wi).map Un.enc=R at*;simp[fi,f10,f4,hrow];refine Qa (hrd _) ?_;simp[he,f4,happ];refine Wl (H.length+1) (Q00 _) (by simp[fi,fn]) ?_;simp[f10,Qk hcl,ht']
  .rintro fr H' fi fn ⟨f10,f4,rfl⟩;simp;rw[f4,Q09 (by simp),Q49]
 .rintro fr H' ⟨f4,rfl⟩;simp[f4];have hof:=ho (l.map Wi) true (by simp;omega) (λ_=>rfl) (H++[.tok l.length 14 tU]);rw[Q49]at hof;refine Qa (Qc.osl1 hof) ?_;unfold ofA;by_cases hz:(ofU (l.map Wi)).2=0
  .simp only[if_pos hz,pA];simp;simp[RetK,Qd hcl]
  .simp only[if_neg hz];simp;simp[RetK,Qd hcl]
end
end
section
open Go.Proofs
theorem Un.encR_eq(u:Un):∃l,l.length=13/\u.encR=.str u.n::l:=⟨_,by obtain⟨n,t,tk,⟨k,f,to,w,a,z,ks⟩,sm,b,p⟩:=u;simp[Un.encR,N.enc_mk,SM.encR],rfl⟩
section
variable{P:Program}{H0:Hp}
def ofR(l:List Un):A:=.tup [YL true 14 ((ofU l).1.map Un.encR),YI (ofU l).2]
theorem HasT.pjRload{f rread risName tR:Nat}(h:HasT P [7,4] f (Qdi rread risName tR))(hrr:Qtf P H0 rread)(hN:∀s H,Qc P risName [YS s] H (λr H'=>r=YB (Y0 s)/\H'=H))(l:List Mod)(z:Bool)(ht:∀m∈l,m.t.length<=1048576)(H:Hp)(hH:Pre0 H0 H):
 Qc P f [YL z 2 (l.map encM)] H (λr H'=>r=ofR (l.map Wi)/\H'=H):=by
 obtain⟨fn,hf,hcf⟩:=h;by_cases h8:8<l.length
 .have hoe:ofR (l.map Wi)=.tup [YL true 14 [],YI 5]:=by simp[ofR,ofU,h8]
  rw[hoe];refine Qx hf hcf (by simp[Qdi]) λhcl _=>?_;have h8':(8:Int)<l.length:=by omega
  simp[Qdi,h8'];simp[RetK,Qb hcl]
 obtain⟨L,hL⟩:∃L,L=l.map Wi:=⟨_,rfl⟩;rw[<-hL];have hLl:L.length=l.length:=by rw[hL];simp
 refine Qx hf hcf (by simp[Qdi]) λhcl _=>?_;have h8':¬(8:Int)<l.length:=by omega
 simp[Qdi,h8'];refine Qy 0 (λfr H'=>fr 4=YL true 14 ((ssort cU L).map Un.encR)/\H'=H) ?_ ?_
 .refine Yw H.length l.length (λi fr H'=>fr 0=YL z 2 (l.map encM)/\fr 4=YL true 14 ((ssort cU (L.take i)).map Un.encR)/\H'=H) (by omega) (by decide) (by simp) (by simp) ?_ ?_
  .simp[Qd hcl,ssort]
  rintro i fr H' hi f5 ⟨f0,f4,rfl⟩;simp[f5,f0];refine Qh (λh=>?_) (λh=>?_)
  .have hia:i<l.length:=by simpa using h
   obtain⟨m,hm⟩:∃m,l[i]?=some m:=⟨_,Q0x hia⟩;have hr:Zam.rowAt (l.map encM) (i:Int)=some [.str m.n,.str m.t]:=by simp[Zam.rowAt,hm,encM]
   obtain⟨x,hx⟩:∃x,x=Wi m:=⟨_,rfl⟩;have hxn:x.n=m.n:=by rw[hx];rfl
   have hrd:=λX=>hrr m (ht m (Q1g hm)) (H'++X) (hH.app X);rw[<-hx]at hrd;have ht:L.take (i+1)=L.take i++[x]:=by rw[Q29,hL,Q1a,hm,hx];rfl
   have hsl:=Wx V6 (L.take i);have hso:=(Wf V6 (L.take i)).1;have hsn:∀a b,ssort cU (L.take i)=a++b->(∀y∈a,cU y x<=0)->(∀y∈b,cU x y<0)->ssort cU (L.take (i+1))=a++x::b:=λa b e ha hb=>by rw[ht,<-Qd0 V6 (by rw[<-e];exact hso) ha hb];refine Qio V6 ?_;refine Alk.append ?_ (Alk.refl _);rw[<-e];exact((Wf V6 (L.take i)).2).symm
   have hlt:(L.take i).length=i:=by rw[hL];simp;omega
   rw[hlt]at hsl;generalize ssort cU (L.take i)=S at f4 hsl hso hsn;have hg:∀y:Un,Qba .gtr y.n m.n=some (.bool (decide (cU x y<0))):=λy=>by have:=gtS ⟨m.n,[]⟩ ⟨y.n,[]⟩;unfold cU;rw[hxn];exact this
   obtain⟨lx,hlx,hex⟩:=x.encR_eq;obtain⟨xa,xb,xc,xd,xe,xf,xg,xh,xi,xj,xk,xm,xn,rfl⟩:=list13 hlx;simp[f4];refine Qy 2 (λfr H2=>∃a:Nat,a<=S.length/\(∀y∈S.drop a,cU x y<0)/\(∀y∈S.take a,cU y x<=0)/\fr 0=YL z 2 (l.map encM)/\fr 4=YL true 14 (S.map Un.encR)/\fr 5=YI i/\fr 6=YI a/\H2=H') ?_ ?_
   .refine Q3 H'.length (λd fr H2=>∃a:Nat,a<d/\a<=S.length/\(∀y∈S.drop a,cU x y<0)/\fr 0=YL z 2 (l.map encM)/\fr 4=YL true 14 (S.map Un.encR)/\fr 5=YI i/\fr 6=YI a/\H2=H') (S.length+1) (by simp) ⟨S.length,by omega,Q00 _,by simp,?_⟩ ?_
    .simp[f0,f4,f5,Qb hcl,hsl]
    rintro d fr H2 ⟨a,hd,ha,hb,f0,f4,f5,f6,rfl⟩;simp[f6];rcases Nat.eq_zero_or_pos a with rfl|hpos
    .simp[f6];exact⟨0,by omega,by simpa using hb,by simp,by simp[f0],by simp[f4],by simp[f5],by simp[f6]⟩
    .obtain⟨b,rfl⟩:∃b,a=b+1:=⟨a-1,by omega⟩;have hbs:b<S.length:=by omega
     have hrb:=Qt Un.encR hbs;have hw:IntKind.i64.wrap ((b:Int)+1-1)=b:=by rw[wi64 (by omega)];omega
     have hw':IntKind.i64.wrap (b:Int)=b:=wi64 (by omega);have hp:(0:Int)<(b:Int)+1:=by omega
     have hgb:=hg S[b];have hsp:∀y∈S.take b,cU y S[b]<=0:=by have h1:=hso;rw[<-Q1t b S,Q1h hbs]at h1;have:=(Sorted.append (c:=cU)).1 h1;exactλy hy=>this.2.2 y hy _ (List.mem_cons_self ..)
     have hdr:S.drop b=S[b]::S.drop (b+1):=Q1h hbs;have htk:S.take (b+1)=S.take b++[S[b]]:=Q1b hbs;generalize S[b]=y at hrb hgb hsp hdr htk;obtain⟨ly,hly,hey⟩:=y.encR_eq;rw[hey]at hrb;simp[f0,f4,f5,f6,hp,hw,hw',hr,hrb,hgb,-Qba];refine Qh (λh2=>?_) (λh2=>?_)
     .have h2:cU x y<0:=by simpa using h2
      simp[f6,hw,hw'];obtain⟨d',rfl⟩:∃d',d=d'+1:=⟨d-1,by omega⟩;refine Qg H2.length d' (Q00 _) (by simp) (by omega) ⟨b,by omega,by omega,?_,?_⟩
      .rw[hdr];intro v hv;rcases Q1o.1 hv with rfl|hv
       .exact h2
       .exact hb v hv
      .simp[f0,f4,f5,Qb hcl]
     .have h2:¬cU x y<0:=by simpa using h2
      simp;refine⟨b+1,ha,hb,?_,by simp[f0],by simp[f4],by simp[f5],by simp[f6]⟩;rw[htk];have hyx:=(V6.not_lt).1 h2;intro v hv;rcases Q1p.1 hv with hv|hv
      .exact V6.trans _ _ _ (hsp v hv) hyx
      .rw[Q2u.1 hv];exact hyx
   .rintro fr H2 ⟨a,ha,hb,htk,f0,f4,f5,f6,rfl⟩;have hS':=hsn (S.take a) (S.drop a) (Q1t a S).symm htk hb;have s1:subL (S.map Un.encR) 0 (a:Int)=some ((S.take a).map Un.encR):=by simp[subL,ha,Q33]
    have s2:subL (S.map Un.encR) (a:Int) (S.length:Int)=some ((S.drop a).map Un.encR):=by
     have:(S.length-a)=(S.drop a).length:=by simp
     simp[subL,ha,Q34];rw[Q09 (by simp)]
    have la:(S.take a).length=a:=by simp;omega
    have lb:(S.drop a).length=S.length-a:=by simp
    simp[f0,f4,f5,f6,s1,s2,hr,appA];rw[if_pos (by omega)];simp[f0,f4,f5,f6,s1,s2,hr,appA];refine Qa (hrd _) ?_;simp[hex,appA];rw[if_pos (by omega)];simp[f0,f4,f5,f6,s1,s2,hr,appA];rw[if_pos (by omega)];simp;refine Q8 H2.length (Q00 _) hia (by simp[f5]) ?_;rw[hS'];refine⟨by simp[f0],?_,Qd hcl _⟩;simp[hex,Q33,Q34]
  .have hia:l.length<=i:=by simpa using h
   rw[Q09 (by rw[hL];simpa using hia)]at f4;simp[f4]
 .rintro fr H' ⟨f4,rfl⟩;simp[f4];have hlen:=Wx V6 L;have ho:ofR L=.tup [YL true 14 ((if chkU none (ssort cU L)=0 then ssort cU L else[]).map Un.encR),YI (chkU none (ssort cU L))]:=by
   have:¬8<L.length:=by omega
   simp[ofR,ofU,this]
  rw[ho];generalize ssort cU L=S at*;have hS8:S.length<=8:=by omega
  refine Qm 4 (λfr H2=>fr 4=YL true 14 (S.map Un.encR)/\chkU none S=0/\H2=H')
   (λfr H2=>∃e,chkU none S=e/\e≠0/\fr 2=YL true 14 []/\fr 3=YI e/\H2=H') ?_ ?_ ?_
  .refine Yw H'.length S.length (λi fr H2=>fr 4=YL true 14 (S.map Un.encR)/\chkU none S=chkU (pvU S i) (S.drop i)/\H2=H') (by omega) (by decide) (by simp) (by simp) ?_ ?_
   .simp[f4,Qb hcl,pvU]
   rintro i fr H2 hi f8 ⟨f4,hch,rfl⟩;simp[f8,f4];refine Qh (λh=>?_) (λh=>?_)
   .have hj:i<S.length:=by simpa using h
    obtain⟨u,hu⟩:∃u,S[i]?=some u:=⟨_,Q0x hj⟩;have hdr:S.drop i=u::S.drop (i+1):=by rw[Q1h hj];congr 1;rw[Q0x hj]at hu;cases hu;rfl
    rw[hdr]at hch;simp only[chkU]at hch;have hps:pvU S (i+1)=some u.n:=by simp[pvU,hu]
    obtain⟨lu,hlu,heu⟩:=u.encR_eq;have hru:Zam.rowAt (S.map Un.encR) (i:Int)=some (.str u.n::lu):=by simp[Zam.rowAt,hu,heu]
    obtain⟨xa,xb,xc,xd,xe,xf,xg,xh,xi,xj,xk,xm,xn,rfl⟩:=list13 hlu;simp[f4,f8,hru];refine Qa (hN _ _) ?_;simp;cases hb:Y0 u.n with
    |false=>rw[if_pos hb]at hch;simp[hch]
    |true=>
     rw[if_neg (by rw[hb];decide)]at hch;by_cases hj0:i=0
     .subst hj0;rw[if_neg (by simp[pvU])]at hch;simp[f4,f8];refine Q8 H2.length (Q00 _) hj (by simp[f8]) ?_;simp[f4,Qb hcl];rw[hch];simp[pvU,hu]
     .have hjp:0<i:=by omega
      obtain⟨v,hv⟩:∃v,S[i-1]?=some v:=⟨_,Q0x (by omega)⟩;have hpv:pvU S i=some v.n:=by obtain⟨j,rfl⟩:∃j,i=j+1:=⟨i-1,by omega⟩;simp only[Nat.add_sub_cancel]at hv;simp[pvU,hv]
      rw[hpv]at hch;have hw:IntKind.i64.wrap ((i:Int)-1)=((i-1:Nat):Int):=by rw[wi64 (by omega)];omega
      obtain⟨lv,hlv,hev⟩:=v.encR_eq;have hrv:Zam.rowAt (S.map Un.encR) ((i-1:Nat):Int)=some (.str v.n::lv):=by
       have:((i-1:Nat):Int).toNat=i-1:=by omega
       simp[Zam.rowAt,hv,hev]
      obtain⟨ya,yb,yc,yd,ye,yf,yg,yh,yi,yj,yk,ym,yn,rfl⟩:=list13 hlv;simp[f4,f8,hjp,hw,hru,hrv];by_cases hvu:v.n=u.n
      .rw[if_pos (by rw[hvu])]at hch;simp[hvu,hch]
      .rw[if_neg (by simpa using hvu)]at hch;have huv:¬u.n=v.n:=λe=>hvu e.symm;simp[hvu,huv];refine Q8 H2.length (Q00 _) hj (by simp[f8]) ?_;simp[f4,Qb hcl,hps,hch]
   .have hia:S.length<=i:=by simpa using h
    rw[Q1w hia]at hch;simp[f4];exact hch
  .rintro fr H2 ⟨e,h1,h2,f2,f3,rfl⟩;simp[f2,f3];simp[RetK,Qb hcl,h1,h2]
  .rintro fr H2 ⟨f4,h1,rfl⟩;simp[f4,h1];simp[RetK,Qb hcl,h1]
end
end
section
open Go.Proofs
def fdU(s:Bs):List Un->Int->Int
 |[],_=>-1
 |u::r,i=>if u.n=s then i else fdU s r (i+1)
def itU(w:Bs):List SBd->Int->Int->Int
 |[],_,pos=>pos
 |b::r,i,pos=>itU w r (i+1) (if b.k=2/\b.w=w then i else pos)
theorem Un.encR_eq2(u:Un):∃a b c d e f g h i k m n,u.encR=[a,b,c,d,e,f,g,h,i,.sl true 4 (u.sm.bs.map Qq),k,m,n,.int .i64 u.pos]:=by obtain⟨n,t,tk,⟨k,f,to,w,a,z,ks⟩,sm,b,p⟩:=u;exact⟨_,_,_,_,_,_,_,_,_,_,_,_,by simp[Un.encR,N.enc_mk,SM.encR];exact⟨rfl,rfl,rfl,rfl,rfl,rfl,rfl,rfl,rfl,rfl,rfl,rfl⟩⟩
theorem Has.pjRfind{f:Nat}(h:Has P f Qi5)(S:List Un)(z:Bool)(s:Bs)(hl:S.length<=1048576)(H:Hp):
 Qc P f [YL z 14 (S.map Un.encR),YS s] H (λr H'=>r=YI (fdU s S 0)/\H'=H):=by
 refine Qe h (by simp[Qi5]) λhcl _=>?_;simp[Qi5];refine Qm 0 (λfr H'=>fdU s S 0=-1/\H'=H) (λfr H'=>fr 4=YI (fdU s S 0)/\H'=H) ?_ ?_ ?_
 .refine Yw H.length S.length (λi fr H'=>fr 0=YL z 14 (S.map Un.encR)/\fr 1=YS s/\fdU s S 0=fdU s (S.drop i) i/\H'=H) (by omega) (by decide) (by simp) (by simp) ?_ ?_
  .simp[Qb hcl]
  rintro i fr H' hi f5 ⟨f0,f1,hd,rfl⟩;simp[f5,f0];refine Qh (λh=>?_) (λh=>?_)
  .have hj:i<S.length:=by simpa using h
   obtain⟨u,hu⟩:∃u,S[i]?=some u:=⟨_,Q0x hj⟩;have hdr:S.drop i=u::S.drop (i+1):=by rw[Q1h hj];congr 1;rw[Q0x hj]at hu;cases hu;rfl
   rw[hdr]at hd;simp only[fdU]at hd;obtain⟨lu,hlu,heu⟩:=u.encR_eq;have hru:Zam.rowAt (S.map Un.encR) (i:Int)=some (.str u.n::lu):=by simp[Zam.rowAt,hu,heu]
   obtain⟨xa,xb,xc,xd,xe,xf,xg,xh,xi,xj,xk,xm,xn,rfl⟩:=list13 hlu;simp[f0,f1,f5,hru];by_cases hus:u.n=s
   .rw[if_pos hus]at hd;simp[hus,f5,hd]
   .rw[if_neg hus]at hd;simp[hus];refine Q8 H'.length (Q00 _) hj (by simp[f5]) ?_;simp[f0,f1,Qb hcl,hd]
  .have hia:S.length<=i:=by simpa using h
   rw[Q1w hia]at hd;simp;exact hd
 .rintro fr H' ⟨f4,rfl⟩;simp[f4];simp[RetK,Qb hcl]
 .rintro fr H' ⟨h1,rfl⟩;simp[h1];simp[RetK,Qb hcl,h1]
theorem Has.pjRitem{f tR:Nat}(h:Has P f (Qi4 tR))(u:Un)(w:Bs)(hl:u.sm.bs.length<=1099511627776)(H:Hp):
 Qc P f [.agg (u.encR.map .d),YS w] H (λr H'=>r=YI (itU w u.sm.bs 0 (-1))/\H'=H):=by
 refine Qe h (by simp[Qi4]) λhcl _=>?_;obtain⟨xa,xb,xc,xd,xe,xf,xg,xh,xi,xk,xm,xn,he⟩:=u.encR_eq2;generalize u.sm.bs=B at*;generalize u.pos=pos at*;simp[Qi4,he];generalize hbx:Ob.box tR [A.d xa,A.d xb,A.d xc,A.d xd,A.d xe,A.d xf,A.d xg,A.d xh,A.d xi,A.d (.sl true 4 (B.map Qq)),A.d xk,A.d xm,A.d xn,A.d (.int .i64 pos)]=bx;refine Qy 0 (λfr H'=>fr 5=YI (itU w B 0 (-1))/\H'=H++[bx]) ?_ ?_
 .refine Yw (H.length+1) B.length (λi fr H'=>fr 1=YS w/\fr 2=.ptr H.length 0/\(∃at_,fr 5=YI at_/\itU w B 0 (-1)=itU w (B.drop i) i at_)/\H'=H++[bx]) (by omega) (by decide) (by simp) (by simp) ?_ ?_
  .simp[Qk hcl,<-hbx]
  rintro i fr H' hi f6 ⟨f1,f2,⟨at_,f5,hd⟩,rfl⟩;simp[f6,f2,<-hbx];refine Qh (λh=>?_) (λh=>?_)
  .have hj:i<B.length:=by simpa using h
   obtain⟨b,hb⟩:∃b,B[i]?=some b:=⟨_,Q0x hj⟩;have hdr:B.drop i=b::B.drop (i+1):=by rw[Q1h hj];congr 1;rw[Q0x hj]at hb;cases hb;rfl
   rw[hdr]at hd;simp only[itU]at hd;have hrb:Zam.rowAt (B.map Qq) (i:Int)=some [.int .i64 b.a,.int .i64 b.k,.str b.w,.int .i64 b.i]:=by simp[Zam.rowAt,hb,Qq]
   simp[f2,f6,hrb];by_cases hk:b.k=2
   .simp[hk,f1,f2,f6,hrb];by_cases hw:b.w=w
    .rw[if_pos ⟨hk,hw⟩]at hd;simp[hw,f6];refine Q8 (H.length+1) (Q00 _) hj (by simp[f6]) ?_;simp[f1,f2,Qk hcl,hd];exact hbx
    .rw[if_neg (λh=>hw h.2)]at hd;simp[hw];refine Q8 (H.length+1) (Q00 _) hj (by simp[f6]) ?_;simp[f1,f2,f5,Qk hcl,hd];exact hbx
   .rw[if_neg (λh=>hk h.1)]at hd;simp[hk];refine Q8 (H.length+1) (Q00 _) hj (by simp[f6]) ?_;simp[f1,f2,f5,Qk hcl,hd];exact hbx
  .have hia:B.length<=i:=by simpa using h
   rw[Q1w hia]at hd;simp[f5,hd,itU];exact hbx
 .rintro fr H' ⟨f5,rfl⟩;simp[f5];simp[RetK,Qd hcl]
end
section
def SWd(L:List Tk)(w:Bs)(a:Int):Prop:=0<=a/\w=txT L a.toNat/\kdT L a.toNat=1
theorem SWd.mk'{L:List Tk}{i:Nat}(h:kdT L i=1):SWd L (txT L i) (i:Int):=⟨by omega,by simp,by simpa using h⟩
theorem SWd.mk1{L:List Tk}{i:Nat}(h:kdT L (i+1)=1):SWd L (txT L (i+1)) ((i:Int)+1):=by have:=SWd.mk' h;simpa using this
theorem SWd.mk3{L:List Tk}{i:Nat}(h:kdT L (i+3)=1):SWd L (txT L (i+3)) ((i:Int)+3):=by have:=SWd.mk' h;simpa using this
def ScP(L:List Tk):List N->Int->Int->Prop
 |[],b,e=>b<=e
 |x::r,b,e=>x.k=5/\b<=x.at_/\SWd L x.w x.at_/\ScP L r (x.at_+1) e
mutual
def Sc(L:List Tk):N->Int->Int->Prop
 |.mk k f t w a z ks,b,e=>
 if k=7\/k=8 then SWd L w a/\b<=a/\ScS L ks (a+1) e
 else if k=23 then SWd L w a/\b<=a/\a<e
 else if k=28 then ScC L ks b e
 else ScS L ks b e
def ScS(L:List Tk):List N->Int->Int->Prop
 |[],b,e=>b<=e
 |n::r,b,e=>∃m,Sc L n b m/\ScS L r m e
def ScC(L:List Tk):List N->Int->Int->Prop
 |[],_,_=>False
 |[_],_,_=>False
 |[_,_],_,_=>False
 |[p,_,c],b,e=>∃m,ScP L p.ks b m/\Sc L c m e
 |_::_::_::_::_,_,_=>False
end
section
variable{L:List Tk}
theorem Qgh(k f t:Int)(w:Bs)(a:Int)(z:Bool)(ks:List N)(b e:Int):Sc L (.mk k f t w a z ks) b e=
 if k=7\/k=8 then SWd L w a/\b<=a/\ScS L ks (a+1) e
 else if k=23 then SWd L w a/\b<=a/\a<e
 else if k=28 then ScC L ks b e
 else ScS L ks b e:=by rw[Sc]
theorem Qii(b e:Int):ScS L [] b e=(b<=e):=by rw[ScS]
theorem Qdu(n:N)(r:List N)(b e:Int):ScS L (n::r) b e=∃m,Sc L n b m/\ScS L r m e:=by rw[ScS]
theorem Qjh(p q c:N)(b e:Int):ScC L [p,q,c] b e=∃m,ScP L p.ks b m/\Sc L c m e:=by rw[ScC]
theorem Qou{ks:List N}{b e:Int}(h:ScC L ks b e):∃p q c m,ks=[p,q,c]/\ScP L p.ks b m/\Sc L c m e:=by
 match ks,h with
 |[],h=>rw[ScC]at h;exact h.elim
 |[_],h=>rw[ScC]at h;exact h.elim
 |[_,_],h=>rw[ScC]at h;exact h.elim
 |[p,q,c],h=>rw[ScC]at h;obtain⟨m,h1,h2⟩:=h;exact⟨p,q,c,m,rfl,h1,h2⟩
 |_::_::_::_::_,h=>rw[ScC]at h;exact h.elim
theorem ScP.le:∀{l:List N} {b e:Int},ScP L l b e->b<=e
 |[],_,_,h=>h
 |x::r,b,e,h=>by have:=ScP.le h.2.2.2;have:=h.2.1;omega
theorem ScP.mono:∀{l:List N} {b e b' e':Int},ScP L l b e→b'≤b→e≤e'→ScP L l b' e'
 |[],b,e,b',e',h,h1,h2=>by simp only[ScP]at h⊢;omega
 |x::r,b,e,b',e',h,h1,h2=>⟨h.1,by have:=h.2.1;omega,h.2.2.1,ScP.mono h.2.2.2 (Q08 _) h2⟩
theorem ScP.snoc:∀{l:List N} {b e e':Int} {x:N},ScP L l b e->x.k=5->e<=x.at_->SWd L x.w x.at_->x.at_+1<=e'->ScP L (l++[x]) b e'
 |[],b,e,e',x,h,h0,h1,h2,h3=>⟨h0,by simp only[ScP]at h;omega,h2,h3⟩
 |y::r,b,e,e',x,h,h0,h1,h2,h3=>⟨h.1,h.2.1,h.2.2.1,ScP.snoc h.2.2.2 h0 h1 h2 h3⟩
def ScOk(L:List Tk)(n:N):Prop:=∀b e,Sc L n b e->b<=e/\∀b' e',b'<=b->e<=e'->Sc L n b' e'
theorem Qrh{ks:List N}(ih:∀p∈ks,ScOk L p):∀b e,ScS L ks b e->b<=e/\∀b' e',b'<=b->e<=e'->ScS L ks b' e':=by
 induction ks with
 |nil=>intro b e h;rw[Qii]at h;exact⟨h,λb' e' h1 h2=>by rw[Qii];omega⟩
 |cons n r ih2=>intro b e h;rw[Qdu]at h;obtain⟨m,h1,h2⟩:=h;obtain⟨a1,a2⟩:=ih n (by simp) _ _ h1;obtain⟨b1,b2⟩:=ih2 (λp hp=>ih p (by simp[hp])) _ _ h2;refine⟨by omega,λb' e' h3 h4=>?_⟩;rw[Qdu];exact⟨m,a2 _ _ h3 (Q08 _),b2 _ _ (Q08 _) h4⟩
theorem Qss(n:N):ScOk L n:=by
 induction n using N.ind with
 |h k f t w a z ks ih=>
 intro b e h;have hS:=Qrh (L:=L) ih;rw[Qgh]at h;by_cases h1:k=7\/k=8
 .rw[if_pos h1]at h;obtain⟨p1,p2,p3⟩:=h;obtain⟨q1,q2⟩:=hS _ _ p3;refine⟨by omega,λb' e' h3 h4=>?_⟩;rw[Qgh,if_pos h1];exact⟨p1,by omega,q2 _ _ (Q08 _) h4⟩
 rw[if_neg h1]at h;by_cases h2:k=23
 .rw[if_pos h2]at h;refine⟨by omega,λb' e' h3 h4=>?_⟩;rw[Qgh,if_neg h1,if_pos h2];exact⟨h.1,by omega,by omega⟩
 rw[if_neg h2]at h;by_cases h3:k=28
 .rw[if_pos h3]at h;obtain⟨p,q,c,m,rfl,p1,p2⟩:=Qou h;obtain⟨q1,q2⟩:=ih c (by simp) _ _ p2;have:=p1.le;refine⟨by omega,λb' e' h5 h6=>?_⟩;rw[Qgh,if_neg h1,if_neg h2,if_pos h3,Qjh];exact⟨m,p1.mono h5 (Q08 _),q2 _ _ (Q08 _) h6⟩
 rw[if_neg h3]at h;obtain⟨q1,q2⟩:=hS _ _ h;refine⟨q1,λb' e' h5 h6=>?_⟩;rw[Qgh,if_neg h1,if_neg h2,if_neg h3];exact q2 _ _ h5 h6
theorem Sc.le{n:N}{b e:Int}(h:Sc L n b e):b<=e:=(Qss n b e h).1
theorem Sc.mono{n:N}{b e b' e':Int}(h:Sc L n b e)(h1:b'<=b)(h2:e<=e'):Sc L n b' e':=(Qss n b e h).2 b' e' h1 h2
theorem ScS.le{ks:List N}{b e:Int}(h:ScS L ks b e):b<=e:=(Qrh (λp _=>Qss p) b e h).1
theorem ScS.mono{ks:List N}{b e b' e':Int}(h:ScS L ks b e)(h1:b'<=b)(h2:e<=e'):ScS L ks b' e':=(Qrh (λp _=>Qss p) b e h).2 b' e' h1 h2
theorem ScS.nil{b e:Int}(h:b<=e):ScS L [] b e:=by rw[Qii];exact h
theorem ScS.cons{n:N}{r:List N}{b m m' e:Int}(h:Sc L n b m)(hr:ScS L r m' e)(hm:m<=m'):ScS L (n::r) b e:=by rw[Qdu];exact⟨m,h,hr.mono hm (Q08 _)⟩
theorem ScS.app{r:List N}{e':Int}:∀{ks:List N} {b e:Int},ScS L ks b e->ScS L r e e'->ScS L (ks++r) b e'
 |[],b,e,h,hr=>by rw[Qii]at h;exact hr.mono h (Q08 _)
 |p::l,b,e,h,hr=>by rw[Qdu]at h;obtain⟨m,h1,h2⟩:=h;rw[Q1n,Qdu];exact⟨m,h1,ScS.app h2 hr⟩
theorem ScS.snoc{ks:List N}{x:N}{b e i j e':Int}(h:ScS L ks b e)(hx:Sc L x i j)(h1:e<=i)(h2:j<=e'):ScS L (ks++[x]) b e':=h.app (ScS.cons (hx.mono h1 (Q08 _)) (ScS.nil h2) (Q08 _))
theorem Sc.new{k f t:Int}{w:Bs}{a:Int}{ks:List N}{b e:Int}(h:decide (k=7\/k=8\/k=23\/k=28)=false)(hs:ScS L ks b e):Sc L (N.new k f t w a ks) b e:=by simp only[decide_eq_false_iff_not,not_or]at h;rw[N.new,Qgh,if_neg (by omega),if_neg (by omega),if_neg (by omega)];exact hs
theorem Sc.none{b e:Int}(h:b<=e):Sc L N.none b e:=Sc.new (by decide) (ScS.nil h)
theorem Sc.lam{f t:Int}{w:Bs}{a:Int}{p q c:N}{b m e:Int}(hp:ScP L p.ks b m)(hc:Sc L c m e):Sc L (N.new 28 f t w a [p,q,c]) b e:=by rw[N.new,Qgh,if_neg (by omega),if_neg (by omega),if_pos rfl,Qjh];exact⟨m,hp,hc⟩
theorem Sc.name{f t:Int}{w:Bs}{a:Int}{b e:Int}(hw:SWd L w a)(h1:b<=a)(h2:a<e):Sc L (N.new 23 f t w a []) b e:=by rw[N.new,Qgh,if_neg (by omega),if_pos rfl];exact⟨hw,h1,h2⟩
theorem Sc.bound{k f t:Int}{w:Bs}{a:Int}{ks:List N}{b e:Int}(hk:k=7\/k=8)(hw:SWd L w a)(h1:b<=a)(h2:ScS L ks (a+1) e):Sc L (N.new k f t w a ks) b e:=by rw[N.new,Qgh,if_pos hk];exact⟨hw,h1,h2⟩
structure It(L:List Tk)(x:N)(b e:Int):Prop where
 fr:b<=x.f
 lo:x.f<=x.at_
 hi:x.at_<x.t
 to:x.t<=e
 wd:SWd L x.w x.at_
 is:(x.k=2/\∃p,x.ks=[p]/\x.f<=p.at_/\p.at_<x.t/\SWd L p.w p.at_)\/(x.k=3/\ScC L x.ks (x.at_+1) x.t)
def ItS(L:List Tk):List N->Int->Int->Prop
 |[],b,e=>b<=e
 |x::r,b,e=>It L x b x.t/\ItS L r x.t e
theorem ItS.snoc:∀{l:List N} {b i:Int} {x:N},ItS L l b i->It L x i x.t->ItS L (l++[x]) b x.t
 |[],b,i,x,h,hx=>⟨⟨by simp only[ItS]at h;have:=hx.fr;omega,hx.lo,hx.hi,hx.to,hx.wd,hx.is⟩,Q08 _⟩
 |y::r,b,i,x,h,hx=>⟨h.1,ItS.snoc h.2 hx⟩
def ScQ(L:List Tk)(i:Nat):G->N->Nat->Prop
 |.list .param _,m,j=>ScP L m.ks i j
 |.list _ _,m,j=>ScS L m.ks i j
 |.listL .param _ ks,m,j=>∀b:Int,ScP L ks b i->ScP L m.ks b j
 |.listL _ _ ks,m,j=>∀b:Int,ScS L ks b i->ScS L m.ks b j
 |.stmts ks,m,j=>∀b:Int,ScS L ks b i->ScS L m.ks b j
 |.file ks,m,j=>ItS L ks 0 i->ItS L m.ks 0 j
 |.use,m,j|.defn,m,j=>It L m i j/\m.t=j
 |.params,m,j=>ScP L m.ks i j
 |.param,m,j=>m.k=5/\(i:Int)<=m.at_/\SWd L m.w m.at_/\m.at_+1<=j
 |.sumL a,m,j|.termL a,m,j|.postL a,m,j=>∀b:Int,Sc L a b i->Sc L m b j
 |_,m,j=>Sc L m i j
theorem ApR.wordK{P:N->Nat->Prop}{k:Nat}{h:Bs->Nat->PR}(hh:kdT L k=1->ApR P (h (txT L k) (k+1))):ApR P (Yo L k h):=by
 unfold Yo;split
 .rename_i e;exact hh e
 .trivial
theorem ApR.iteK{P:N->Nat->Prop}{c:Prop}[Decidable c]{a b:PR}(ha:c->ApR P a)(hb:ApR P b):ApR P (if c then a else b):=by
 split
 .rename_i e;exact ha e
 .exact hb
theorem ApR.lastS{P:N->Nat->Prop}{n:Nat}(ih:∀g i,g.flat->ApR (ScQ L i g) (pp L n g i)){g:G}{k:Nat}(hg:g.flat)(hh:∀m j,k<=j->(g.strict=true->k<j)->ScQ L k g m j->P m j):ApR P (pp L n g k):=by
 have h1:=ih g k hg;have h2:=Yj (L:=L) n g k;generalize pp L n g k=r at h1 h2;cases r with
 |out=>trivial
 |bad j=>trivial
 |ok m j=>exact hh _ j h2.1 h2.2.1 h1
theorem ApR.thenS{P:N->Nat->Prop}{n:Nat}(ih:∀g i,g.flat->ApR (ScQ L i g) (pp L n g i)){g:G}{k:Nat}{h:N->Nat->PR}(hg:g.flat)(hh:∀m j,k<=j->(g.strict=true->k<j)->ScQ L k g m j->ApR P (h m j)):ApR P ((pp L n g k).then h):=by
 have h1:=ih g k hg;have h2:=Yj (L:=L) n g k;generalize pp L n g k=r at h1 h2;cases r with
 |out=>trivial
 |bad j=>trivial
 |ok m j=>exact hh m j h2.1 h2.2.1 h1
theorem Qph:∀(n:Nat)(g:G)(i:Nat),g.flat->ApR (ScQ L i g) (pp L n g i)
 |0,g,i,_=>trivial
 |n+1,g,i,hg=>by
  have ih:=Qph n;cases g
  case listL one e ks=>
   simp only[pp];cases one<;>simp only[G.flat,G.one,Q07]at hg
   case param=>refine ApR.thenS ih trivial λm j h1 h2 h3=>?_;obtain⟨p0,p1,p2,p3⟩:=h3;refine ApR.ite (ApR.ok λb hb=>?_) (ApR.want (ApR.lastS ih rfl λx j' h1' h2' h3' b hb=>h3' b (ScP.snoc hb p0 p1 p2 (by omega))));exact ScP.snoc hb p0 p1 p2 (by omega)
   all_goals
    refine ApR.thenS ih trivial λm j h1 h2 h3=>?_;refine ApR.ite (ApR.ok λb hb=>?_) (ApR.want (ApR.lastS ih rfl λx j' h1' h2' h3' b hb=>h3' b (ScS.snoc hb h3 (Q08 _) (by omega))));exact ScS.snoc hb h3 (Q08 _) (by omega)
  case list one e=>
   simp only[pp];cases one<;>simp only[G.flat,G.one,Q07]at hg
   case param=>refine ApR.ite (ApR.ok ?_) (ApR.lastS ih rfl λx j h1 h2 h3=>h3 i (Q08 _));show(i:Int)<=_;omega
   all_goals
    refine ApR.ite (ApR.ok ?_) (ApR.lastS ih rfl λx j h1 h2 h3=>h3 i (ScS.nil (Q08 _)));exact(show ScS L [] _ _ from ScS.nil (by omega))
  case stmts ks=>simp only[pp];refine ApR.ite (ApR.ok λb hb=>hb.mono (Q08 _) (by omega)) (ApR.thenS ih trivial λm j h1 h2 h3=>ApR.lastS ih trivial λx j' h1' h2' h3' b hb=>h3' b (ScS.snoc hb h3 (Q08 _) (Q08 _)))
  case file ks=>
   simp only[pp];refine ApR.ite (ApR.ok λhb=>hb) (ApR.ite ?_ ?_)
   all_goals exact ApR.thenS ih trivial λm j h1 h2 h3=>ApR.lastS ih trivial λx j' h1' h2' h3' hb=>h3' (h3.2▸ItS.snoc hb ⟨h3.1.fr,h3.1.lo,h3.1.hi,Q08 _,h3.1.wd,h3.1.is⟩)
  case use=>simp only[pp];refine ApR.want (ApR.wordK λw1=>ApR.want (ApR.wordK λw2=>ApR.want (ApR.ok ?_)));refine⟨⟨Q08 _,?_,?_,?_,SWd.mk3 w2,.inl ⟨rfl,_,rfl,?_,?_,SWd.mk1 w1⟩⟩,?_⟩<;>simp only[N.new,N.f,N.t,N.at_]<;>omega
  case defn=>
   simp only[pp];refine ApR.want (ApR.wordK λw1=>ApR.thenS ih trivial λp j h1 h2 h3=>ApR.thenS ih trivial λt j' h1' h2' h3'=>ApR.thenS ih trivial λb k h1'' h2'' h3''=>ApR.ok ?_);have h2:=h2 rfl;refine⟨⟨Q08 _,?_,?_,?_,SWd.mk1 w1,.inr ⟨rfl,?_⟩⟩,rfl⟩
   .simp only[N.new,N.f,N.at_];omega
   .simp only[N.new,N.t,N.at_];omega
   .simp only[N.new,N.t];omega
   .simp only[N.new,N.ks,N.at_,N.t];rw[Qjh];have h3:ScP L p.ks _ _:=h3;have h3'':Sc L b _ _:=h3'';exact⟨j',h3.mono (by omega) (by omega),h3''⟩
  case params=>simp only[pp];refine ApR.want (ApR.thenS ih rfl λm j h1 h2 h3=>ApR.ok ?_);have h3:ScP L m.ks _ _:=h3;exact h3.mono (by omega) (Q08 _)
  case param=>simp only[pp];refine ApR.wordK λw1=>ApR.thenS ih trivial λt j h1 h2 h3=>ApR.ok ⟨rfl,Q08 _,SWd.mk' w1,?_⟩;simp only[N.new,N.at_];omega
  case typed=>simp only[pp];refine ApR.ite (ApR.lastS ih trivial λm j h1 h2 h3=>?_) (ApR.ok (show Sc L _ _ _ from Sc.none (Q08 _)));have h3:Sc L m _ _:=h3;exact h3.mono (by omega) (Q08 _)
  case sumL a=>
   simp only[pp];refine ApR.ite ?_ (ApR.ite ?_ (ApR.ok λb hb=>hb))
   all_goals
    refine ApR.thenS ih trivial λm j h1 h2 h3=>ApR.lastS ih trivial λx j' h1' h2' h3' b hb=>h3' b ?_;exact(show Sc L _ _ _ from Sc.new (by decide) (ScS.cons hb (ScS.cons h3 (ScS.nil (Q08 _)) (Q08 _)) (by omega)))
  case termL a=>simp only[pp];refine ApR.ite ?_ (ApR.ok λb hb=>hb);refine ApR.thenS ih trivial λm j h1 h2 h3=>ApR.lastS ih trivial λx j' h1' h2' h3' b hb=>h3' b ?_;exact(show Sc L _ _ _ from Sc.new (by decide) (ScS.cons hb (ScS.cons h3 (ScS.nil (Q08 _)) (Q08 _)) (by omega)))
  case postL a=>
   simp only[pp];refine ApR.ite (ApR.word ?_) (ApR.ite ?_ (ApR.ok λb hb=>hb))
   .refine ApR.lastS ih trivial λx j' h1' h2' h3' b hb=>h3' b ?_;exact(show Sc L _ _ _ from Sc.new (by decide) (ScS.cons hb (ScS.nil (Q08 _)) (by omega)))
   .refine ApR.thenS ih rfl λm j h1 h2 h3=>ApR.lastS ih trivial λx j' h1' h2' h3' b hb=>h3' b ?_;have h3:ScS L m.ks _ _:=h3;exact(show Sc L _ _ _ from Sc.new (by decide) (ScS.cons hb h3 (by omega)))
  case block=>simp only[pp];refine ApR.want (ApR.thenS ih trivial λm j h1 h2 h3=>ApR.ok ?_);have h3:=h3 _ (ScS.nil (Q08 _));exact(show Sc L _ _ _ from Sc.new (by decide) (h3.mono (by omega) (Q08 _)))
  case expr=>
   simp only[pp];refine ApR.thenS ih trivial λa j h1 h2 h3=>ApR.ite ?_ (ApR.ite ?_ (ApR.ok h3))
   all_goals
    refine ApR.thenS ih trivial λm j' h1' h2' h3'=>ApR.ok ?_;exact(show Sc L _ _ _ from Sc.new (by decide) (ScS.cons h3 (ScS.cons h3' (ScS.nil (Q08 _)) (Q08 _)) (by omega)))
  case sum=>simp only[pp];exact ApR.thenS ih trivial λa j h1 h2 h3=>ApR.lastS ih trivial λx j' h1' h2' h3'=>h3' _ h3
  case term=>simp only[pp];exact ApR.thenS ih trivial λa j h1 h2 h3=>ApR.lastS ih trivial λx j' h1' h2' h3'=>h3' _ h3
  case post=>simp only[pp];exact ApR.thenS ih trivial λa j h1 h2 h3=>ApR.lastS ih trivial λx j' h1' h2' h3'=>h3' _ h3
  case kind=>
   simp only[pp];refine ApR.ite (ApR.ok (show Sc L _ _ _ from Sc.new (by decide) (ScS.nil (by omega)))) (ApR.ite (ApR.ok (show Sc L _ _ _ from Sc.new (by decide) (ScS.nil (by omega)))) (ApR.ite (ApR.ok (show Sc L _ _ _ from Sc.new (by decide) (ScS.nil (by omega)))) (ApR.ite ?_ ?_)))
   .refine ApR.thenS ih rfl λm j h1 h2 h3=>ApR.ok ?_;have h3:ScS L m.ks _ _:=h3;exact(show Sc L _ _ _ from Sc.new (by decide) (h3.mono (by omega) (Q08 _)))
   .refine ApR.want (ApR.want (ApR.thenS ih rfl λm j h1 h2 h3=>ApR.want (ApR.thenS ih trivial λt j' h1' h2' h3'=>ApR.ok ?_)));have h3:ScS L m.ks _ _:=h3;exact(show Sc L _ _ _ from Sc.new (by decide) ((h3.mono (by omega) (Q08 _)).snoc h3' (by omega) (Q08 _)))
  case tfield=>simp only[pp];refine ApR.word (ApR.want (ApR.thenS ih trivial λm j h1 h2 h3=>ApR.ok ?_));exact(show Sc L _ _ _ from Sc.new (by decide) (ScS.cons (Sc.mono h3 (by omega) (Q08 _)) (ScS.nil (Q08 _)) (Q08 _)))
  case stmt=>
   simp only[pp];refine ApR.ite (ApR.wordK λw1=>ApR.thenS ih trivial λt j h1 h2 h3=>ApR.want (ApR.thenS ih trivial λx j' h1' h2' h3'=>ApR.want (ApR.ok ?_))) (ApR.ite ?_ (ApR.ite ?_ (ApR.ite ?_ (ApR.ite ?_ (ApR.iteK (λw1=>?_) ?_)))))
   .exact(show Sc L _ _ _ from Sc.bound (.inl rfl) (SWd.mk1 w1) (by omega) (ScS.cons (Sc.mono h3 (by omega) (Q08 _)) (ScS.cons h3' (ScS.nil (Q08 _)) (by omega)) (by omega)))
   .refine ApR.thenS ih trivial λc j h1 h2 h3=>ApR.thenS ih trivial λb j' h1' h2' h3'=>ApR.ite (ApR.thenS ih trivial λo j'' h1'' h2'' h3''=>ApR.ok ?_) (ApR.ok ?_)
    .exact(show Sc L _ _ _ from Sc.new (by decide) (ScS.cons (Sc.mono h3 (by omega) (Q08 _)) (ScS.cons h3' (ScS.cons h3'' (ScS.nil (Q08 _)) (Q08 _)) (by omega)) (Q08 _)))
    .exact(show Sc L _ _ _ from Sc.new (by decide) (ScS.cons (Sc.mono h3 (by omega) (Q08 _)) (ScS.cons h3' (ScS.cons (Sc.none (Q08 _)) (ScS.nil (Q08 _)) (Q08 _)) (Q08 _)) (Q08 _)))
   .refine ApR.thenS ih trivial λc j h1 h2 h3=>ApR.thenS ih trivial λb j' h1' h2' h3'=>ApR.ok ?_;exact(show Sc L _ _ _ from Sc.new (by decide) (ScS.cons (Sc.mono h3 (by omega) (Q08 _)) (ScS.cons h3' (ScS.nil (Q08 _)) (Q08 _)) (Q08 _)))
   .refine ApR.thenS ih trivial λc j h1 h2 h3=>ApR.want (ApR.ok ?_);exact(show Sc L _ _ _ from Sc.new (by decide) (ScS.cons (Sc.mono h3 (by omega) (Q08 _)) (ScS.nil (by omega)) (Q08 _)))
   .refine ApR.thenS ih trivial λc j h1 h2 h3=>ApR.want (ApR.ok ?_);exact(show Sc L _ _ _ from Sc.new (by decide) (ScS.cons (Sc.mono h3 (by omega) (Q08 _)) (ScS.nil (by omega)) (Q08 _)))
   .refine ApR.thenS ih trivial λc j h1 h2 h3=>ApR.want (ApR.ok ?_);exact(show Sc L _ _ _ from Sc.bound (.inr rfl) (SWd.mk' w1.1) (Q08 _) (ScS.cons (Sc.mono h3 (by omega) (Q08 _)) (ScS.nil (by omega)) (Q08 _)))
   .refine ApR.thenS ih trivial λc j h1 h2 h3=>ApR.want (ApR.ok ?_);exact(show Sc L _ _ _ from Sc.new (by decide) (ScS.cons h3 (ScS.nil (by omega)) (Q08 _)))
  case atom=>
   simp only[pp];refine ApR.ite (ApR.ok (show Sc L _ _ _ from Sc.new (by decide) (ScS.nil (by omega)))) (ApR.ite (ApR.ok (show Sc L _ _ _ from Sc.new (by decide) (ScS.nil (by omega)))) (ApR.iteK (λw1=>ApR.ok (show Sc L _ _ _ from Sc.name (SWd.mk' w1) (Q08 _) (by omega))) (ApR.ite (ApR.ok (show Sc L _ _ _ from Sc.new (by decide) (ScS.nil (by omega)))) (ApR.ite ?_ (ApR.ite ?_ ?_)))))
   .refine ApR.thenS ih trivial λc j h1 h2 h3=>ApR.want (ApR.ok ?_);exact(show Sc L _ _ _ from Sc.new (by decide) (ScS.cons (Sc.mono h3 (by omega) (Q08 _)) (ScS.nil (by omega)) (Q08 _)))
   .refine ApR.thenS ih rfl λm j h1 h2 h3=>ApR.ok ?_;have h3:ScS L m.ks _ _:=h3;exact(show Sc L _ _ _ from Sc.new (by decide) (h3.mono (by omega) (Q08 _)))
   .refine ApR.want (ApR.thenS ih trivial λp j h1 h2 h3=>ApR.thenS ih trivial λt j' h1' h2' h3'=>ApR.thenS ih trivial λb j'' h1'' h2'' h3''=>ApR.ok ?_);have h3:ScP L p.ks _ _:=h3;have h3'':Sc L b _ _:=h3'';exact(show Sc L _ _ _ from Sc.lam (h3.mono (by omega) (by omega)) h3'')
  case entry=>simp only[pp];refine ApR.word (ApR.want (ApR.thenS ih trivial λm j h1 h2 h3=>ApR.ok ?_));exact(show Sc L _ _ _ from Sc.new (by decide) (ScS.cons (Sc.mono h3 (by omega) (Q08 _)) (ScS.nil (Q08 _)) (Q08 _)))
end
end
section
def evB(bs:List SBd)(t:Int):Nat:=bs.countP λb=>decide (b.a=t)
def evM(ms:List Mn)(t:Int):Nat:=ms.countP λm=>decide (m.a=t)
def indS(b e t:Int):Nat:=if b<=t/\t<e then 1 else 0
theorem Qkn(a b:List SBd)(t:Int):evB (a++b) t=evB a t+evB b t:=List.countP_append
theorem Qs3(a b:List Mn)(t:Int):evM (a++b) t=evM a t+evM b t:=List.countP_append
theorem Qyf(t:Int):evB [] t=0:=rfl
theorem Qye(t:Int):evM [] t=0:=rfl
theorem Qs4(b:SBd)(t:Int):evB [b] t=if b.a=t then 1 else 0:=by simp[evB,Q46]
theorem Qyd(b:Mn)(t:Int):evM [b] t=if b.a=t then 1 else 0:=by simp[evM,Q46]
theorem Qd8{b m m' e:Int}(h1:b<=m)(h:m<=m')(h2:m'<=e)(t:Int):indS b m t+indS m' e t<=indS b e t:=by unfold indS;split<;>split<;>split<;>omega
theorem Qfj{b e b' e':Int}(h1:b'<=b)(h2:e<=e')(t:Int):indS b e t<=indS b' e' t:=by unfold indS;split<;>split<;>omega
theorem Qf5{a b e t:Int}(h1:b<=a)(h2:a<e):(if a=t then 1 else 0)<=indS b e t:=by unfold indS;split<;>split<;>omega
theorem Qh7{b e t:Int}(h:0<indS b e t):b<=t/\t<e:=by
 unfold indS at h;split at h
 .assumption
 .omega
def bAt(bs:List SBd)(i:Int):SBd:=bs.getD i.toNat default
def Yt(bs:List SBd)(lo b it:Int)(M:List Nm):Prop:=∀x∈M,x.beg=false->0<=x.to/\x.to<bs.length/\((bAt bs x.to).k<3\/(lo<=(bAt bs x.to).a/\(bAt bs x.to).a<b/\(bAt bs x.to).i=it))
def Qns(bs:List SBd)(lo it:Int)(m:Mn):Prop:=m.t=-1\/(0<=m.t/\m.t<bs.length/\((bAt bs m.t).k<3\/(lo<=(bAt bs m.t).a/\(bAt bs m.t).a<m.a/\(bAt bs m.t).i=it)))
theorem Qko{bs:List SBd}{i:Int}(h0:0<=i)(h:i<bs.length)(l:List SBd):bAt (bs++l) i=bAt bs i:=Ql1 h0 h l
theorem Yt.app{bs:List SBd}{lo b it:Int}{M:List Nm}(h:Yt bs lo b it M)(l:List SBd):Yt (bs++l) lo b it M:=λx hx hb=>by obtain⟨h1,h2,h3⟩:=h x hx hb;rw[Qko h1 h2];exact⟨h1,by simp;omega,h3⟩
theorem Yt.mono{bs:List SBd}{lo b b' it:Int}{M:List Nm}(h:Yt bs lo b it M)(hb:b<=b'):Yt bs lo b' it M:=λx hx hb'=>by obtain⟨h1,h2,h3⟩:=h x hx hb';exact⟨h1,h2,h3.imp id λ⟨a,b,c⟩=>⟨a,by omega,c⟩⟩
theorem Yt.beg{bs:List SBd}{lo b it:Int}{M:List Nm}(h:Yt bs lo b it M)(lam:Bool):Yt bs lo b it (⟨0,true,lam⟩::M):=λx hx hb=>by
 rcases Q1o.1 hx with rfl|hx
 .cases hb
 .exact h x hx hb
theorem Qns.app{bs:List SBd}{lo it:Int}{m:Mn}(h:Qns bs lo it m)(l:List SBd):Qns (bs++l) lo it m:=by
 rcases h with h|⟨h1,h2,h3⟩
 .exact .inl h
 .refine .inr ?_;rw[Qko h1 h2];exact⟨h1,by simp;omega,h3⟩
structure Went(TL:List Tk)(lo it:Int)(c:Int->Nat)(S S':SM):Prop where
 ex:∃nb nm nd,S'.bs=S.bs++nb/\S'.ms=S.ms++nm/\S'.bad=S.bad++nd/\(∀t,evB nb t+evM nm t<=c t)/\(∀x∈nb,3<=x.k/\x.k<=4/\x.i=it/\SWd TL x.w x.a)/\(∀m∈nm,Qns S'.bs lo it m/\kdT TL m.a.toNat=1)/\∀x∈nd,0<c x.1
section
variable{TL:List Tk}{lo it:Int}
theorem Went.refl{c:Int->Nat}(S:SM):Went TL lo it c S S:=⟨[],[],[],by simp,by simp,by simp,by simp[evB,evM],by simp,by simp,by simp⟩
theorem Went.trans{c1 c2 c:Int->Nat}{S S1 S2:SM}(h1:Went TL lo it c1 S S1)(h2:Went TL lo it c2 S1 S2)(hc:∀t,c1 t+c2 t<=c t):Went TL lo it c S S2:=by
 obtain⟨nb,nm,nd,a1,a2,a3,a4,a5,a6,a7⟩:=h1.ex;obtain⟨nb',nm',nd',b1,b2,b3,b4,b5,b6,b7⟩:=h2.ex;refine⟨nb++nb',nm++nm',nd++nd',by rw[b1,a1,Q1f],by rw[b2,a2,Q1f],by rw[b3,a3,Q1f],λt=>?_,λx hx=>?_,λm hm=>?_,λx hx=>?_⟩
 .rw[Qkn,Qs3];have:=a4 t;have:=b4 t;have:=hc t;omega
 .exact(Q1p.1 hx).elim (a5 x) (b5 x)
 .rcases Q1p.1 hm with hm|hm
  .rw[b1];exact⟨(a6 m hm).1.app _,(a6 m hm).2⟩
  .exact b6 m hm
 .rcases Q1p.1 hx with hx|hx
  .have:=a7 x hx;have:=hc x.1;omega
  .have:=b7 x hx;have:=hc x.1;omega
theorem Went.mono{c c':Int->Nat}{S S':SM}(h:Went TL lo it c S S')(hc:∀t,c t<=c' t):Went TL lo it c' S S':=by obtain⟨nb,nm,nd,a1,a2,a3,a4,a5,a6,a7⟩:=h.ex;exact⟨nb,nm,nd,a1,a2,a3,λt=>Q2b (a4 t) (hc t),a5,a6,λx hx=>Q5h (a7 x hx) (hc _)⟩
theorem Went.bs{c:Int->Nat}{S S':SM}(h:Went TL lo it c S S'):∃nb,S'.bs=S.bs++nb:=by obtain⟨nb,nm,nd,a1,-⟩:=h.ex;exact⟨nb,a1⟩
theorem Qiv{bs:List SBd}{w:Bs}:∀{M:List Nm} {far i f:Int},Vv bs w M far=some (i,f)->∃x∈M,x.beg=false/\x.to=i/\Zg bs x=w
 |[],far,i,f,h=>by cases h
 |x::r,far,i,f,h=>by
  simp only[Vv]at h;split at h
  .obtain⟨y,h1,h2⟩:=Qiv h;exact⟨y,by simp[h1],h2⟩
  .rename_i hb;split at h
   .rename_i hw;cases h
    exact⟨x,by simp,by simpa using hb,rfl,hw⟩
   .obtain⟨y,h1,h2⟩:=Qiv h;exact⟨y,by simp[h1],h2⟩
theorem Qru{bs:List SBd}{M:List Nm}{b:Int}(h:Yt bs lo b it M)(w:Bs){a:Int}(ha:b<=a)(wr:Bool):Qns bs lo it ⟨a,(Vi bs w M).1,wr,(Vi bs w M).2⟩:=by
 unfold Vi;cases hl:Vv bs w M 0 with
 |none=>exact .inl rfl
 |some p=>obtain⟨i,f⟩:=p;obtain⟨x,hx,hb,rfl,-⟩:=Qiv hl;obtain⟨h1,h2,h3⟩:=h x hx hb;refine .inr ?_;simp only;split<;>exact⟨h1,h2,h3.imp id λ⟨p,q,r⟩=>⟨p,by simp only;omega,r⟩⟩
theorem Went.men{bs0:List SBd}{S:SM}{M:List Nm}{b:Int}(h:Yt S.bs lo b it M)(n:N)(hw:SWd TL n.w n.at_)(hb:b<=n.at_)(wr:Bool):Went TL lo it (indS n.at_ (n.at_+1)) S (S.men n wr (Vi S.bs n.w M)):=by
 refine⟨[],[⟨n.at_,(Vi S.bs n.w M).1,wr,(Vi S.bs n.w M).2⟩],if(Vi S.bs n.w M).1<0 then[(n.at_,30)]else if wr/\(S.bs.getD (Vi S.bs n.w M).1.toNat default).k<3 then[(n.at_,35)]else[],by simp[SM.men],rfl,?_,λt=>?_,by simp,λm hm=>?_,λx hx=>?_⟩
 .simp only[SM.men];split
  .rfl
  .split
   .rfl
   .simp
 .rw[Qyf,Qyd,Q2c];exact Qf5 (Q08 _) (by show n.at_<n.at_+1;omega)
 .simp only[Q2u]at hm;subst hm;exact⟨Qru h n.w hb wr,hw.2.2⟩
 .have:x.1=n.at_:=by
   split at hx
   .simp at hx;rw[hx]
   .split at hx
    .simp at hx;rw[hx]
    .simp at hx
  rw[this];have:=Qf5 (a:=n.at_) (b:=n.at_) (e:=n.at_+1) (t:=n.at_) (Q08 _) (by omega);simp only[if_true]at this;omega
theorem Went.bind{S:SM}{M:List Nm}{b:Int}(h:Yt S.bs lo b it M)(n:N)(hl:lo<=n.at_)(hw:SWd TL n.w n.at_){kind:Int}(hk:3<=kind/\kind<=4){e:Int}(he:n.at_<e)(hbe:b<=e):
 Went TL lo it (indS n.at_ (n.at_+1)) S (Wy kind it n M S).2/\Yt (Wy kind it n M S).2.bs lo e it (Wy kind it n M S).1:=by
 refine⟨⟨[⟨n.at_,kind,n.w,it⟩],[],if dupR S.bs n.w M then[(n.at_,31)]else[],rfl,by simp[Wy,SM.bind],?_,λt=>?_,λx hx=>?_,by simp,λx hx=>?_⟩,λx hx hb=>?_⟩
 .simp only[Wy,SM.bind];split
  .rfl
  .simp
 .rw[Qye,Qs4,Q27];exact Qf5 (Q08 _) (by show n.at_<n.at_+1;omega)
 .simp only[Q2u]at hx;subst hx;exact⟨hk.1,hk.2,rfl,hw⟩
 .have:x.1=n.at_:=by
   split at hx
   .simp at hx;rw[hx]
   .simp at hx
  rw[this];have:=Qf5 (a:=n.at_) (b:=n.at_) (e:=n.at_+1) (t:=n.at_) (Q08 _) (by omega);simp only[if_true]at this;omega
 .simp only[Wy]at hx;rcases Q1o.1 hx with rfl|hx
  .have hg:bAt (S.bs++[⟨n.at_,kind,n.w,it⟩]) (S.bs.length:Int)=⟨n.at_,kind,n.w,it⟩:=by simp[bAt]
   show _/\_/\_;simp only[Wy,SM.bind,hg];exact⟨by omega,by simp;omega,.inr ⟨hl,he,trivial⟩⟩
  .exact((h.app [⟨n.at_,kind,n.w,it⟩]).mono hbe) x hx hb
theorem Went.binds:∀(l:List N){b e:Int}{S:SM}{M:List Nm},ScP TL l b e->lo<=b->Yt S.bs lo b it M->Went TL lo it (indS b e) S (Ye it l M S).2/\Yt (Ye it l M S).2.bs lo e it (Ye it l M S).1
 |[],b,e,S,M,h,hl,hi=>⟨.refl _,hi.mono h⟩
 |n::r,b,e,S,M,h,hl,hi=>by obtain⟨h0,h1,h2,h3⟩:=h;obtain⟨a1,a2⟩:=Went.bind hi n (by omega) h2 (kind:=3) (by decide) (e:=n.at_+1) (by omega) (by omega);obtain⟨b1,b2⟩:=Went.binds r h3 (by omega) a2;have:=h3.le;exact⟨a1.trans b1 λt=>Q2b (Qd8 (by omega) (Q08 _) (by omega) t) (Qfj h1 (Q08 _) t),b2⟩
def Qxa(TL:List Tk)(lo it:Int)(n:N):Prop:=∀(b e:Int)(S:SM)(M:List Nm),Sc TL n b e->lo<=b->Yt S.bs lo b it M->Went TL lo it (indS b e) S (Qab it n M S).2/\Yt (Qab it n M S).2.bs lo e it (Qab it n M S).1
theorem Qfo{ks:List N}(ih:∀p∈ks,Qxa TL lo it p):∀(b e:Int)(S:SM)(M:List Nm),ScS TL ks b e->lo<=b->Yt S.bs lo b it M->Went TL lo it (indS b e) S (Wp it ks M S).2/\Yt (Wp it ks M S).2.bs lo e it (Wp it ks M S).1:=by
 induction ks with
 |nil=>intro b e S M h hl hi;rw[Qbu];rw[Qii]at h;exact⟨.refl _,hi.mono h⟩
 |cons n r ih2=>intro b e S M h hl hi;rw[Qdu]at h;obtain⟨m,h1,h2⟩:=h;obtain⟨a1,a2⟩:=ih n (by simp) b m S M h1 hl hi;have:=h1.le;obtain⟨b1,b2⟩:=ih2 (λp hp=>ih p (by simp[hp])) m e _ _ h2 (by omega) a2;have:=h2.le;rw[Qav];exact⟨a1.trans b1 λt=>Qd8 (by omega) (Q08 _) (by omega) t,b2⟩
theorem Qjl{ks:List N}(ih:∀p∈ks,Qxa TL lo it p){b e:Int}{S:SM}{M:List Nm}(h:ScC TL ks b e)(hl:lo<=b)(hi:Yt S.bs lo b it M)(lam:Bool):Went TL lo it (indS b e) S (Yl it ks M lam S):=by obtain⟨p,q,c,m,rfl,h1,h2⟩:=Qou h;rw[Qag];obtain⟨a1,a2⟩:=Went.binds p.ks h1 hl (hi.beg lam);have:=h1.le;obtain⟨b1,-⟩:=ih c (by simp) m e _ _ h2 (by omega) a2;have:=h2.le;exact a1.trans b1 λt=>Qd8 (by omega) (Q08 _) (by omega) t
theorem went(n:N):Qxa TL lo it n:=by
 induction n using N.ind with
 |h k f t w a z ks ih=>
 intro b e S M h hl hi;rw[Qgh]at h;rw[Qg8];by_cases h78:k=7\/k=8
 .rw[if_pos h78]at h;obtain⟨h1,h2,h3⟩:=h;have hle:=h3.le;rcases h78 with rfl|rfl
  .rw[if_neg (by decide),if_pos rfl];obtain⟨a1,a2⟩:=Qfo ih (a+1) e S M h3 (by omega) (hi.mono (by omega));obtain⟨b1,b2⟩:=Went.bind a2 (.mk 7 f t w a z ks) (by show lo<=a;omega) h1 (kind:=4) (by decide) (e:=e) (by show a<e;omega) (Q08 _);refine⟨a1.trans b1 λt=>?_,b2⟩;have:=Qd8 (b:=a) (m:=a+1) (m':=a+1) (e:=e) (by omega) (Q08 _) (by omega) t;have:=Qfj (b:=a) (e:=e) (b':=b) (e':=e) h2 (Q08 _) t;simp only[N.at_];omega
  .rw[if_neg (by decide),if_neg (by decide),if_pos rfl];have a1:=Went.men (TL:=TL) (bs0:=[]) hi (.mk 8 f t w a z ks) h1 h2 true;have hs':Yt (S.men (.mk 8 f t w a z ks) true (Vi S.bs w M)).bs lo (a+1) it M:=Yt.mono (b:=b) hi (by omega);obtain⟨b1,b2⟩:=Qfo ih (a+1) e _ M h3 (by omega) hs';refine⟨a1.trans b1 λt=>?_,b2⟩;have:=Qd8 (b:=a) (m:=a+1) (m':=a+1) (e:=e) (by omega) (Q08 _) (by omega) t;have:=Qfj (b:=a) (e:=e) (b':=b) (e':=e) h2 (Q08 _) t;simp only[N.at_];omega
 rw[if_neg h78]at h;by_cases h23:k=23
 .rw[if_pos h23]at h;subst h23;obtain⟨h1,h2,h3⟩:=h;rw[if_neg (by decide),if_neg (by decide),if_neg (by decide),if_pos rfl];have a1:=Went.men (TL:=TL) (bs0:=[]) hi (.mk 23 f t w a z ks) h1 h2 false;exact⟨a1.mono λt=>Qfj h2 (by simp only[N.at_];omega) t,by rw[Qwf];exact hi.mono (by omega)⟩
 rw[if_neg h23]at h;by_cases h28:k=28
 .rw[if_pos h28]at h;subst h28;rw[if_neg (by decide),if_neg (by decide),if_neg (by decide),if_neg (by decide),if_pos rfl];have a1:=Qjl ih h hl hi true;have hle:b<=e:=by obtain⟨p,q,c,m,rfl,h1,h2⟩:=Qou h;have:=h1.le;have:=h2.le;omega
  obtain⟨nb,hnb⟩:=a1.bs;exact⟨a1,by simp only[hnb];exact(hi.app nb).mono hle⟩
 rw[if_neg h28]at h;by_cases h6:k=6
 .subst h6;rw[if_pos rfl];obtain⟨a1,-⟩:=Qfo ih b e S _ h hl (hi.beg false);obtain⟨nb,hnb⟩:=a1.bs;exact⟨a1,by simp only[hnb];exact(hi.app nb).mono h.le⟩
 .rw[if_neg h6,if_neg (by omega),if_neg (by omega),if_neg h23,if_neg h28];exact Qfo ih b e S M h hl hi
end
def Qju:List N->Int->Nat
 |[],_=>0
 |x::r,t=>indS x.at_ (x.at_+1) t+Qju r t
def Qgg:List N->Int->Nat
 |[],_=>0
 |x::r,t=>indS (x.at_+1) x.t t+Qgg r t
theorem c_le{TL:List Tk}:∀{l:List N} {b e:Int},ItS TL l b e->∀t,Qju l t+Qgg l t<=indS b e t
 |[],_,_,_,t=>Q38 _
 |x::r,b,e,h,t=>by
  obtain⟨h1,h2⟩:=h;have hle:x.t<=e:=by
   clear h1;induction r generalizing x with
   |nil=>exact h2
   |cons y r ih=>have:=h2.1;have:=ih y h2.2;have:=this;have h3:=h2.1.fr;have h4:=h2.1.lo;have h5:=h2.1.hi;omega
  have:=c_le h2 t;have a1:=Qd8 (b:=x.at_) (m:=x.at_+1) (m':=x.at_+1) (e:=x.t) (by omega) (Q08 _) (by have:=h1.hi;omega) t;have a2:=Qfj (b:=x.at_) (e:=x.t) (b':=b) (e':=x.t) (by have:=h1.fr;have:=h1.lo;omega) (Q08 _) t;have a3:=Qd8 (b:=b) (m:=x.t) (m':=x.t) (e:=e) (by have:=h1.fr;have:=h1.lo;have:=h1.hi;omega) (Q08 _) hle t;simp only[Qju,Qgg];omega
theorem ItS.le{TL:List Tk}:∀{l:List N} {b e:Int},ItS TL l b e->b<=e
 |[],_,_,h=>h
 |x::r,b,e,h=>by have:=ItS.le h.2;have h3:=h.1.fr;have h4:=h.1.lo;have h5:=h.1.hi;omega
theorem ItS.get{TL:List Tk}:∀{l:List N} {b e:Int},ItS TL l b e->∀(i:Nat)(x:N),l[i]?=some x->It TL x b x.t/\x.t<=e
 |[],_,_,_,i,x,h=>by simp at h
 |y::r,b,e,h,0,x,hx=>by simp at hx;subst hx;exact⟨h.1,ItS.le h.2⟩
 |y::r,b,e,h,i+1,x,hx=>by obtain⟨h1,h2⟩:=ItS.get h.2 i x (by simpa using hx);have h3:=h.1.fr;have h4:=h.1.lo;have h5:=h.1.hi;exact⟨⟨by have:=h1.fr;omega,h1.lo,h1.hi,h1.to,h1.wd,h1.is⟩,h2⟩
theorem Qmu{TL:List Tk}:∀(l:List N){b e:Int}(i:Int)(S:SM)(M:List Nm),ItS TL l b e→0≤i→(∀x∈M,x.beg=false∧0≤x.to∧x.to<S.bs.length∧(bAt S.bs x.to).k<3)→
 ∃nb nd,(Ww i l M S).2=⟨S.bs++nb,S.ms,S.bad++nd⟩∧nb.length=l.length∧(∀(j:Nat)(x:N),l[j]?=some x→nb[j]?=some ⟨x.at_,x.k-1,x.w,i+j⟩)∧(∀t,evB nb t≤Qju l t)∧(∀x∈nd,0<Qju l x.1)∧
  ∀x∈(Ww i l M S).1,x.beg=false∧0≤x.to∧x.to<(S.bs++nb).length∧(bAt (S.bs++nb) x.to).k<3
 |[],b,e,i,S,M,h,hi,hM=>⟨[],[],by simp[Ww],rfl,by simp,by simp[evB,Qju],by simp,by simpa[Ww]using hM⟩
 |n::r,b,e,i,S,M,h,hi,hM=>by
  have hk:n.k=2∨n.k=3:=by rcases h.1.is with⟨h,-⟩|⟨h,-⟩<;>simp[h]
  have hstep:Ww i (n::r) M S=Ww (i+1) r (Wy (n.k-1) i n M S).1 (Wy (n.k-1) i n M S).2:=by
   rcases hk with hk|hk
   .simp only[Ww,hk,if_true];rfl
   .simp only[Ww,hk,if_true];rfl
  have hM':∀x∈(Wy (n.k-1) i n M S).1,x.beg=false∧0≤x.to∧x.to<(Wy (n.k-1) i n M S).2.bs.length∧(bAt (Wy (n.k-1) i n M S).2.bs x.to).k<3:=fun x hx=>by
   simp only[Wy]at hx⊢;rcases Q1o.1 hx with rfl|hx
   .have hg:bAt (S.bs++[⟨n.at_,n.k-1,n.w,i⟩]) (S.bs.length:Int)=⟨n.at_,n.k-1,n.w,i⟩:=by simp[bAt]
    simp only[SM.bind,hg];exact⟨trivial,by omega,by simp;omega,by omega⟩
   .obtain⟨h1,h2,h3,h4⟩:=hM x hx;simp only[SM.bind,Qko h2 h3];exact⟨h1,h2,by simp;omega,h4⟩
  obtain⟨nb,nd,a1,a2,a3,a4,a5,a6⟩:=Qmu r (i+1) _ _ h.2 (by omega) hM';refine⟨⟨n.at_,n.k-1,n.w,i⟩::nb,(if dupR S.bs n.w M then[(n.at_,31)]else[])++nd,?_,by simp[a2],fun j x hx=>?_,fun t=>?_,fun x hx=>?_,?_⟩
  .rw[hstep,a1];simp only[Wy,SM.bind,Q1f,Q59]
   congr 1
   split<;>simp
  .cases j with
   |zero=>simp at hx;subst hx;simp
   |succ j=>
    have:=a3 j x (by simpa using hx);rw[Q41,this]
    congr 2
    omega
  .have e1:evB (⟨n.at_,n.k-1,n.w,i⟩::nb) t=evB [⟨n.at_,n.k-1,n.w,i⟩] t+evB nb t:=Qkn [_] nb t;rw[e1,Qs4];have:=a4 t;have h2:=Qf5 (a:=n.at_) (b:=n.at_) (e:=n.at_+1) (t:=t) (Q08 _) (by omega);simp only[Qju];omega
  .simp only[Qju];rcases Q1p.1 hx with hx|hx
   .split at hx
    .simp at hx;have h2:=Qf5 (a:=n.at_) (b:=n.at_) (e:=n.at_+1) (t:=n.at_) (Q08 _) (by omega);simp only[if_true]at h2;rw[hx];simp only;omega
    .simp at hx
   .have:=a5 x hx;omega
  .rw[hstep];have e2:(Wy (n.k-1) i n M S).2.bs++nb=S.bs++⟨n.at_,n.k-1,n.w,i⟩::nb:=by simp[Wy,SM.bind]
   rw[e2]at a6;exact a6
structure MOk(TL:List Tk)(ks:List N)(bs:List SBd)(m:Mn):Prop where
 kd:kdT TL m.a.toNat=1
 ex:∃(j:Nat)(x:N),ks[j]?=some x/\x.k=3/\x.at_+1<=m.a/\m.a<x.t/\Qns bs (x.at_+1) j m
theorem MOk.app{TL:List Tk}{ks:List N}{bs:List SBd}{m:Mn}(h:MOk TL ks bs m)(l:List SBd):MOk TL ks (bs++l) m:=by obtain⟨j,x,h1,h2,h3,h4,h5⟩:=h.ex;exact⟨h.kd,j,x,h1,h2,h3,h4,h5.app l⟩
structure BOk(TL:List Tk)(ks:List N)(b:SBd):Prop where
 ex:∃(j:Nat)(x:N),ks[j]?=some x/\x.k=3/\x.at_+1<=b.a/\b.a<x.t/\b.i=j/\3<=b.k/\b.k<=4/\SWd TL b.w b.a
theorem Qjc{TL:List Tk}{ks:List N}{M:List Nm}:∀(l:List N){b e:Int}(i:Nat)(S:SM),ItS TL l b e->(∀(j:Nat)(x:N),l[j]?=some x->ks[i+j]?=some x)->(∀x∈M,x.beg=false/\0<=x.to/\x.to<S.bs.length/\(bAt S.bs x.to).k<3)->
 ∃nb nm nd,V3 M i l S=⟨S.bs++nb,S.ms++nm,S.bad++nd⟩/\(∀t,evB nb t+evM nm t<=Qgg l t)/\(∀x∈nd,0<Qgg l x.1)/\(∀x∈nb,BOk TL ks x)/\∀m∈nm,MOk TL ks (S.bs++nb) m
 |[],b,e,i,S,h,hk,hM=>⟨[],[],[],by simp[V3],by simp[evB,evM,Qgg],by simp,by simp,by simp⟩
 |n::r,b,e,i,S,h,hk,hM=>by
  have hk':∀(j:Nat)(x:N),r[j]?=some x->ks[i+1+j]?=some x:=λj x hx=>by have:=hk (j+1) x (by simpa using hx);rw[<-this];congr 1;omega
  have hcast:((i+1:Nat):Int)=(i:Int)+1:=by omega
  rcases h.1.is with⟨k2,-⟩|⟨k3,hc⟩
  .obtain⟨nb,nm,nd,a1,a2,a3,a4,a5⟩:=Qjc r (i+1) S h.2 hk' hM;refine⟨nb,nm,nd,?_,λt=>?_,λx hx=>?_,a4,a5⟩
   .simp only[V3];rw[if_neg (by omega),<-hcast];exact a1
   .have:=a2 t;simp only[Qgg];omega
   .have:=a3 x hx;simp only[Qgg];omega
  .have hS:Yt S.bs (n.at_+1) (n.at_+1) i M:=λx hx hb=>by obtain⟨-,h2,h3,h4⟩:=hM x hx;exact⟨h2,h3,.inl h4⟩
   have hw:=Qjl (TL:=TL) (ks:=n.ks) (λp _=>went p) hc (Q08 _) hS false;obtain⟨nb1,nm1,nd1,b1,b2,b3,b4,b5,b6,b7⟩:=hw.ex;have hM':∀x∈M,x.beg=false/\0<=x.to/\x.to<(Yl i n.ks M false S).bs.length/\(bAt (Yl i n.ks M false S).bs x.to).k<3:=λx hx=>by obtain⟨h1,h2,h3,h4⟩:=hM x hx;rw[b1,Qko h2 h3];exact⟨h1,h2,by simp;omega,h4⟩
   obtain⟨nb,nm,nd,a1,a2,a3,a4,a5⟩:=Qjc r (i+1) _ h.2 hk' hM';have hki:=hk 0 n rfl;rw[Q27]at hki;refine⟨nb1++nb,nm1++nm,nd1++nd,?_,λt=>?_,λx hx=>?_,λx hx=>?_,λm hm=>?_⟩
   .simp only[V3];rw[if_pos k3,<-hcast,a1,b1,b2,b3];simp only[Q1f]
   .rw[Qkn,Qs3];have:=a2 t;have:=b4 t;simp only[Qgg];omega
   .simp only[Qgg];rcases Q1p.1 hx with hx|hx
    .have:=b7 x hx;omega
    .have:=a3 x hx;omega
   .rcases Q1p.1 hx with hx|hx
    .obtain⟨c1,c2,c3,c4⟩:=b5 x hx;have hpos:0<evB nb1 x.a:=Q2z.2 ⟨x,hx,by simp⟩;have:=b4 x.a;obtain⟨d1,d2⟩:=Qh7 (b:=n.at_+1) (e:=n.t) (t:=x.a) (by omega);exact⟨i,n,hki,k3,d1,d2,c3,c1,c2,c4⟩
    .exact a4 x hx
   .rw[<-Q1f,<-b1];rcases Q1p.1 hm with hm|hm
    .have hpos:0<evM nm1 m.a:=Q2z.2 ⟨m,hm,by simp⟩;have:=b4 m.a;obtain⟨d1,d2⟩:=Qh7 (b:=n.at_+1) (e:=n.t) (t:=m.a) (by omega);exact MOk.app ⟨(b6 m hm).2,i,n,hki,k3,d1,d2,(b6 m hm).1⟩ nb
    .exact a5 m hm
structure Named(TL:List Tk)(n:N)(e:Int)(S:SM):Prop where
 once:∀t,evB S.bs t+evM S.ms t<=indS 0 e t
 tops:∀(j:Nat)(x:N),n.ks[j]?=some x->S.bs[j]?=some ⟨x.at_,x.k-1,x.w,j⟩
 locs:∀(j:Nat)(b:SBd),S.bs[j]?=some b->n.ks.length<=j->BOk TL n.ks b
 ms:∀m∈S.ms,MOk TL n.ks S.bs m
 bad:∀x∈S.bad,0<=x.1/\x.1<e
 len:n.ks.length<=S.bs.length
theorem named{TL:List Tk}{n:N}{e:Int}(h:ItS TL n.ks 0 e):Named TL n e (allR n):=by
 obtain⟨nb,nd,a1,a2,a3,a4,a5,a6⟩:=Qmu n.ks 0 ⟨[],[],[]⟩ [] h (Q08 _) (by simp);simp only[Q1s]at a1 a6;have hM:∀x∈(Ww 0 n.ks [] ⟨[],[],[]⟩).1,x.beg=false/\0<=x.to/\x.to<(Ww 0 n.ks [] ⟨[],[],[]⟩).2.bs.length/\(bAt (Ww 0 n.ks [] ⟨[],[],[]⟩).2.bs x.to).k<3:=by rw[a1];exact a6
 obtain⟨nb1,nm1,nd1,b1,b2,b3,b4,b5⟩:=Qjc (ks:=n.ks) n.ks 0 _ h (λj x hx=>by rw[Q2c];exact hx) hM;have b1':allR n=_:=b1;simp only[a1]at b1' b5;have hc:=λt=>c_le h t;refine⟨λt=>?_,λj x hx=>?_,λj b hb hj=>?_,?_,λx hx=>?_,?_⟩
 .rw[b1'];simp only[Q1s,Qkn];have:=a4 t;have:=b2 t;have:=hc t;omega
 .have:=a3 j x hx;rw[b1'];simp only;have hj:j<nb.length:=(Q0y.1 this).1;rw[Q03 hj,this]
  congr 2;omega
 .rw[b1']at hb;simp only at hb;rw[Q1e (by omega)]at hb;exact b4 b (Q1g hb)
 .rw[b1'];simp only[Q1s];exact b5
 .rw[b1']at hx;simp only at hx;rcases Q1p.1 hx with hx|hx
  .have:=a5 x hx;have:=hc x.1;exact Qh7 (by omega)
  .have:=b3 x hx;have:=hc x.1;exact Qh7 (by omega)
 .rw[b1'];simp only[Q1r];omega
end
end Go.Zam
namespace Go.Zam
namespace N
end N
section
variable{L L':List Tk}
end
theorem Qnj{α:Type}{p:α->Bool}:∀{l:List α} {i j:Nat} {x y:α},l.countP p<=1->l[i]?=some x->l[j]?=some y->p x=true->p y=true->i=j
 |[],i,j,x,y,h,hi,_,_,_=>by simp at hi
 |z::r,i,j,x,y,h,hi,hj,hx,hy=>by
  rw[Q46]at h;have pos:∀(k:Nat)(u:α),r[k]?=some u->p u=true->0<r.countP p:=λk u hk hu=>Q2z.2 ⟨u,Q1g hk,hu⟩;cases i with
  |zero=>
   simp at hi;subst hi;cases j with
   |zero=>rfl
   |succ j=>have:=pos j y (by simpa using hj) hy;rw[hx,if_pos rfl]at h;omega
  |succ i=>
   cases j with
   |zero=>simp at hj;subst hj;have:=pos i x (by simpa using hi) hx;rw[hy,if_pos rfl]at h;omega
   |succ j=>have:=Qnj (l:=r) (i:=i) (j:=j) (by omega) (by simpa using hi) (by simpa using hj) hx hy;omega
def Use_(F:SM)(q:Nat)(t:Int):Prop:=(∃b,F.bs[q]?=some b/\b.a=t)\/∃m∈F.ms,m.a=t/\m.t=(q:Int)
section
variable{TL L':List Tk}{q:Nat}{name:Bs}{F:SM}{lo it:Int}
end
end Go.Zam
namespace Go.Zam
section
theorem Qcl{s:Bs}(h:(Q0 s).2.2.1=0):∃(m:N)(j:Nat),(Q0 s).1=(lexS s).1∧(Q0 s).2.1=m∧Qbl (lexS s).1=.ok m j∧m.depth≤60∧(lexS s).2.1=0∧ItS (lexS s).1 m.ks 0 j∧j≤(lexS s).1.length∧Q4 (lexS s).1=(m,0,0):=by
 unfold Q0 at h⊢;by_cases h1:(lexS s).2.1=0
 .rw[if_neg (by simp[h1])]at h⊢;by_cases h2:(Q4 (lexS s).1).2.1=0
  .rw[if_neg (by simp[h2])]at h⊢;have hp:Q4 (lexS s).1=Q4 (lexS s).1:=rfl
   conv at h2=>lhs;unfold Q4
   conv at hp=>rhs;unfold Q4
   split at h2
   .simp at h2
   .rename_i hc;rw[if_neg hc]at hp;cases hF:Qbl (lexS s).1 with
    |out=>rw[hF]at h2;simp at h2
    |bad q=>rw[hF]at h2;simp at h2
    |ok m j=>
     rw[hF]at h2 hp;simp only at h2 hp;split at h2
     .simp at h2
     .rename_i hd;rw[if_neg hd]at hp;have hs:=Qph (L:=(lexS s).1) (16*(lexS s).1.length+8) (.file []) 0 trivial;have ha:=Yj (L:=(lexS s).1) (16*(lexS s).1.length+8) (.file []) 0;have hF2:=hF;unfold Qbl at hF2;rw[hF2]at hs ha;obtain⟨-,-,a3⟩:=ha;refine⟨m,j,rfl,by rw[hp],rfl,by omega,h1,hs (Q08 _),?_,hp⟩;by_cases hj:0<j
      .exact a3 hj
      .omega
  .rw[if_pos (by simpa using h2)]at h;exact absurd h h2
 .rw[if_pos (by simpa using h1)]at h;exact absurd h h1
def Wv(S:SM)(i:Nat):List Int:=(bAt S.bs i).a::(S.ms.filter λm=>decide (m.t=(i:Int))).map Mn.a
section
variable{TL:List Tk}{n:N}{e:Int}{S:SM}
theorem Named.item(h:Named TL n e S)(hI:ItS TL n.ks 0 e){j:Nat}{b:SBd}(hb:S.bs[j]?=some b):∃(i:Nat)(x:N),n.ks[i]?=some x/\b.i=i/\x.f<=b.a/\b.a<x.t/\SWd TL b.w b.a/\((b.k<=2/\i=j/\b.a=x.at_/\b.k=x.k-1/\b.w=x.w)\/(3<=b.k/\b.k<=4/\x.k=3/\n.ks.length<=j)):=by
 by_cases hj:j<n.ks.length
 .have hx:=Q0x hj;have:=h.tops j _ hx;rw[hb]at this;cases this
  obtain⟨g,-⟩:=hI.get j _ hx;refine⟨j,_,hx,rfl,g.lo,g.hi,g.wd,.inl ⟨?_,rfl,rfl,rfl,rfl⟩⟩;rcases g.is with⟨h,-⟩|⟨h,-⟩<;>simp only[h]<;>omega
 .obtain⟨i,x,h1,h2,h3,h4,h5,h6,h7,h8⟩:=(h.locs j b hb (by omega)).ex;obtain⟨g,-⟩:=hI.get i _ h1;have:=g.lo;exact⟨i,x,h1,h5,by omega,h4,h8,.inr ⟨h6,h7,h2,by omega⟩⟩
theorem Named.uses_in(h:Named TL n e S)(hI:ItS TL n.ks 0 e){j:Nat}(hj:j<S.bs.length){t:Int}(ht:t∈Wv S j):0<=t/\t<e/\0<evB S.bs t+evM S.ms t:=by
 have hpos:0<evB S.bs t+evM S.ms t:=by
  unfold Wv at ht;rcases Q1o.1 ht with rfl|ht
  .have:0<evB S.bs (bAt S.bs j).a:=Q2z.2 ⟨bAt S.bs j,by unfold bAt;rw[Q2e,Q11,Q0x hj];exact Q1u hj,by simp⟩;omega
  .obtain⟨m,hm,rfl⟩:=Q2l.1 ht;have:0<evM S.ms m.a:=Q2z.2 ⟨m,(Q23.1 hm).1,by simp⟩;omega
 have:=h.once t;obtain⟨a,b⟩:=Qh7 (b:=0) (e:=e) (t:=t) (by omega);exact⟨a,b,hpos⟩
theorem Named.uses_kd(h:Named TL n e S)(hI:ItS TL n.ks 0 e){j:Nat}(hj:j<S.bs.length){t:Int}(ht:t∈Wv S j):kdT TL t.toNat=1:=by
 unfold Wv at ht;rcases Q1o.1 ht with rfl|ht
 .have hb:S.bs[j]?=some (bAt S.bs j):=by unfold bAt;rw[Q2e,Q11,Q0x hj];rfl
  obtain⟨i,x,-,-,-,-,hw,-⟩:=h.item hI hb;exact hw.2.2
 .obtain⟨m,hm,rfl⟩:=Q2l.1 ht;exact(h.ms m (Q23.1 hm).1).kd
theorem Qr7(S:SM)(k:Nat)(hk:k<S.bs.length)(t:Int):(Wv S k).count t=(if(bAt S.bs k).a=t then 1 else 0)+S.ms.countP λm=>decide (m.t=(k:Int))&&decide (m.a=t):=by
 unfold Wv;rw[List.count_cons,List.count,List.countP_map,List.countP_filter];rw[Nat.add_comm];congr 1
 .simp only[beq_iff_eq]
 .refine List.countP_congr λm _=>?_;simp[and_comm]
end
section
variable{L:List Tk}{n:N}{e:Int}{S:SM}{us:List Int}{name:Bs}{q:Nat}
theorem Qu7(hS:S.bs.length>q)(t:Int):t∈Wv S q↔Use_ S q t:=by
 have hb:S.bs[q]?=some (bAt S.bs q):=by unfold bAt;rw[Q2e,Q11,Q0x hS];rfl
 unfold Wv Use_;constructor
 .intro h;rcases Q1o.1 h with rfl|h
  .exact .inl ⟨_,hb,rfl⟩
  .obtain⟨m,hm,rfl⟩:=Q2l.1 h;obtain⟨hm,ht⟩:=Q23.1 hm;exact .inr ⟨m,hm,rfl,by simpa using ht⟩
 .rintro(⟨b,h1,rfl⟩|⟨m,hm,rfl,ht⟩)
  .rw[hb]at h1;cases h1;simp
  .exact List.mem_cons_of_mem _ (Q2l.2 ⟨m,Q23.2 ⟨hm,by simpa using ht⟩,rfl⟩)
end
end
section
open Go.Proofs
structure GdU(u:Un):Prop where
 use:∀b∈u.sm.bs,b.k=1->∃(i:Nat)(x p:N),b.i=i/\u.tr.ks[i]?=some x/\x.ks=[p]/\0<=p.at_/\p.at_<u.tk.length
 df:∀b∈u.sm.bs,b.k=2->∃(i:Nat)(x p:N)(r:List N),b.i=i/\u.tr.ks[i]?=some x/\x.ks=p::r
 pos:∀b∈u.sm.bs,0<=b.a/\b.a<u.tk.length
 bad:∀x∈u.sm.bad,0<=x.1/\x.1<u.tk.length
theorem ScC.three{L:List Tk}{ks:List N}{b e:Int}(h:ScC L ks b e):∃p q c,ks=[p,q,c]:=by
 match ks with
 |[]=>exact h.elim
 |[_]=>exact h.elim
 |[_,_]=>exact h.elim
 |[p,q,c]=>exact⟨p,q,c,rfl⟩
 |_::_::_::_::_=>exact h.elim
theorem Qvw(m:Mod):GdU (Wi m):=by
 by_cases h0:(Q0 m.t).2.2.1=0
 .obtain⟨n,j,h1,h2,h3,h4,h5,hI,hj,h6⟩:=Qcl h0;have hsm:(Wi m).sm=Vz n:=by show(if _ then _ else _)=_;rw[if_pos h0,h2]
  have htr:(Wi m).tr=n:=h2;have htk:(Wi m).tk=(lexS m.t).1:=h1;have hN:=named hI;have hall:=Qmi n;have hbs:(Vz n).bs=(allR n).bs:=by rw[<-hall];rfl
  have hit:∀b∈(allR n).bs,∃(i:Nat)(x:N),n.ks[i]?=some x/\b.i=i/\0<=b.a/\b.a<(lexS m.t).1.length/\(b.k=1->x.k=2)/\(b.k=2->x.k=3):=by
   intro b hb;obtain⟨q,hq⟩:=Q3c hb;obtain⟨i,x,g1,g2,g3,g4,g5,g6⟩:=hN.item hI hq;have gl:=(hI.get i x g1).2;refine⟨i,x,g1,g2,g5.1,by omega,λe=>?_,λe=>?_⟩
   .rcases g6 with g6|g6
    .omega
    .omega
   .rcases g6 with g6|g6
    .omega
    .omega
  refine⟨λb hb hk=>?_,λb hb hk=>?_,λb hb=>?_,λx hx=>?_⟩
  .rw[hsm,hbs]at hb;obtain⟨i,x,g1,g2,g3,g4,g5,g6⟩:=hit b hb;have gI:=hI.get i x g1;rcases gI.1.is with⟨-,p,p1,p2,p3,p4⟩|⟨e,-⟩
   .refine⟨i,x,p,g2,by rw[htr];exact g1,p1,p4.1,?_⟩;rw[htk];have:=gI.2;omega
   .have:=g5 hk;omega
  .rw[hsm,hbs]at hb;obtain⟨i,x,g1,g2,g3,g4,g5,g6⟩:=hit b hb;have gI:=hI.get i x g1;rcases gI.1.is with⟨e,-⟩|⟨-,hc⟩
   .have:=g6 hk;omega
   .obtain⟨p,q,c,hp⟩:=hc.three;exact⟨i,x,p,_,g2,by rw[htr];exact g1,hp⟩
  .rw[hsm,hbs]at hb;obtain⟨i,x,g1,g2,g3,g4,-⟩:=hit b hb;exact⟨g3,by rw[htk];exact g4⟩
  .rw[hsm]at hx;have hx':x∈(allR n).bad:=by rw[<-hall];exact((Wf Z0 _).2.mem Z0).2 hx
   have:=hN.bad x hx';rw[htk];omega
 .have hsm:(Wi m).sm=⟨[],[],[]⟩:=by show(if _ then _ else _)=_;rw[if_neg h0]
  refine⟨?_,?_,?_,?_⟩<;> .rw[hsm];simp
end
end Go.Zam
