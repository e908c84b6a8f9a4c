import Derived.Laws.BytesString
import Derived.Test.YtppagloobdflbabGreatDoorW1
import Derived.Laws.MakeOwn
import Derived.Laws.StructEq
import Derived.MapKept
import Derived.Deep.LoopGhost
import Derived.Tactics
import Derived.Test.YtppagloobdflbabGreatDoorProg
set_option linter.all false
set_option maxRecDepth 100000
set_option maxHeartbeats 4000000
namespace Go.Zam
section
open Go.RowKit (Below)
section
variable{P:Program}{κ:K}{nt:NT}{fr:Fr}{H H':Hp}{a:Act}{w:World}{x:A}{tok:List Nat}
def Qca{t e:TypeId}{ti:TypeInfo}(h1:Yj P t=some (e,ti)):P.underlying t=some (.slice e)/\P.info? e=some ti:=by
 unfold Yj at h1;split at h1
 .rename_i e' he;simp only[Q13,prdI]at h1;obtain⟨i,hi,rfl,rfl⟩:=h1;exact⟨he,hi⟩
 .cases h1
def Qr6{sz:Nat}{b:A}{r:List D}(h:Yf sz b=some r):b.cells.length=sz/\b.cells.all A.flat=true/\r.length=sz/\∀(j:Nat)(c:A)(d:D),b.cells[j]?=some c->r[j]?=some d->c.toD=some d:=by
 unfold Yf at h;split at h
 .rename_i hc;have key:∀(l:List A)(r:List D),l.mapM A.toD=some r->r.length=l.length/\∀(j:Nat)(c:A)(d:D),l[j]?=some c->r[j]?=some d->c.toD=some d:=by
   intro l;induction l with
   |nil=>intro r h;simp at h;subst h;simp
   |cons y l ih=>
    intro r h;simp only[Q3k,Q2h,Q2a,Q2q,somI]at h;obtain⟨d0,hd0,r',hr',rfl⟩:=h;obtain⟨i1,i2⟩:=ih r' hr';refine⟨by simp[i1],λj c d hc hd=>?_⟩;cases j with
    |zero=>simp at hc hd;subst hc;subst hd;exact hd0
    |succ j=>exact i2 j c d (by simpa using hc) (by simpa using hd)
  obtain⟨k1,k2⟩:=key _ _ h;exact⟨hc.1,hc.2,by rw[k1,hc.1],k2⟩
 .cases h
def Qvi{sz:Nat}:∀(ps:List (Nat×Value))(rows:List (List D))(n:Nat)(cells:Array Value),ps.length=rows.length->cells.size=(n+rows.length)*sz->
 (∀(i:Nat)(p:Nat×Value),ps[i]?=some p->p.1=n+i)->
 (∀(i:Nat)(p:Nat×Value)(r:List D),ps[i]?=some p->rows[i]?=some r->p.2.cells.size=sz/\r.length=sz/\∀(j:Nat)(u:Value)(d:D),p.2.cells.toList[j]?=some u->r[j]?=some d->DR κ.σ u d)->
 ∃out:Array Value,Instr.fill (λi=>some (i*sz,sz)) cells ps=some out/\out.size=cells.size/\(∀i,i<n*sz->out.toList[i]?=cells.toList[i]?)/\
 ∀(k j:Nat)(r:List D)(d:D),rows[k]?=some r->r[j]?=some d->∃u,out.toList[(n+k)*sz+j]?=some u/\DR κ.σ u d:=by
 intro ps;induction ps with
 |nil=>intro rows n cells hl _ _ _;have:rows=[]:=Q2b (by simpa using hl.symm);subst this;exact⟨cells,rfl,rfl,λ_ _=>rfl,by simp⟩
 |cons p ps ih=>
  intro rows n cells hl hsz hnum hp;cases rows with
  |nil=>simp at hl
  |cons r rows=>
   obtain⟨i,v⟩:=p;have hi:i=n:=by simpa using hnum 0 (i,v) rfl
   subst hi;obtain⟨c1,c2,c3⟩:=hp 0 (i,v) r rfl rfl;simp only at c1 c3;have hfit:i*sz+sz<=cells.size:=by rw[hsz,Q2i,Q29,Q29];omega
   have hfs:=Qnz (i*sz) v cells;have hsz2:(v.cells.zipIdx.foldl (λcs (p:Value×Nat)=>cs.setIfInBounds (i*sz+p.2) p.1) cells).size=cells.size:=by rw[<-Q5v,hfs,Qcr];simp
   obtain⟨out,h1,h2,h3,h4⟩:=ih rows (i+1) _ (by simpa using hl) (by rw[hsz2,hsz,Q2i];congr 1;omega)
    (λk p hk=>by have:=hnum (k+1) p (by simpa using hk);omega) (λk p r hk hr=>hp (k+1) p r (by simpa using hk) (by simpa using hr))
   refine⟨out,?_,h2.trans hsz2,λk hk=>?_,λk j r' d hr' hd=>?_⟩
   .simp only[Instr.fill];rw[if_neg (by simp;omega)];exact h1
   .rw[h3 k (by rw[Q29];omega),hfs,Qe7 _ _ _ _ (by simp;omega),if_neg (by omega)]
   .cases k with
    |zero=>
     simp at hr';subst hr';have hj:j<sz:=by rw[<-c2];exact(Q11.1 hd).1
     have hjv:j<v.cells.toList.length:=by simpa[c1]using hj
     refine⟨v.cells.toList[j],?_,c3 j _ d (Q12 hjv) hd⟩;rw[Q4g,h3 _ (by rw[Q29];omega),hfs,Qe7 _ _ _ _ (by simp;omega),if_pos (by simp;omega)];rw[show i*sz+j-i*sz=j by omega];exact Q12 hjv
    |succ k=>have:=h4 k j r' d (by simpa using hr') hd;rwa[show i+1+k=i+(k+1) by omega]at this
def Qcs:∀(n:Nat)(l:List (Nat×Operand)),Vd n l=true->∀(i:Nat)(p:Nat×Operand),l[i]?=some p->p.1=n+i
 |_,[],_,i,p,h=>by simp at h
 |n,(m,y)::r,hp,i,p,h=>by
  simp only[Vd,Q2t,beq_iff_eq]at hp;cases i with
  |zero=>simp at h;subst h;simpa using hp.1
  |succ i=>have:=Qcs (n+1) r hp.2 i p (by simpa using h);omega
def Qc2{t e:TypeId}{ti:TypeInfo}{n:Nat}{parts:Array (Nat×Operand)}{ps:List Arg}{rows:List (List D)}(hs:SR κ nt fr H a w)(h1:Yj P t=some (e,ti))(hp:Vd 0 parts.toList=true)(hn:parts.size=n)(hlim:n*ti.size<=2^24)(hz:(Y0 P e).map (·.length)=some ti.size)(hpos:0<ti.size)(hps:parts.toList.mapM (λ(x:Nat×Operand)=>cArg P e x.2)=some ps)(hr:ps.mapM (λx=>Yf ti.size (x.ev fr))=some rows):
 rows.length=n/\(∀(k:Nat)(r:List D),rows[k]?=some r->r.length=ti.size)/\∃c:Array Value,c.size=n*ti.size/\(Instr.buildSlice t n (parts.map λ(i,x)=>(i,a.eval x))).run P w=.ok (.slice (some ⟨w.heap.size,0,none⟩) n n) (w.alloc (.cells c e))/\
  ∀(k j:Nat)(r:List D)(d:D),rows[k]?=some r->r[j]?=some d->∃u,c[k*ti.size+j]?=some u/\DR κ.σ u d:=by
 obtain⟨ht,hi⟩:=Qca h1;have keyA:∀(l:List (Nat×Operand))(ps:List Arg)(rows:List (List D)),l.mapM (λ(x:Nat×Operand)=>cArg P e x.2)=some ps->ps.mapM (λx=>Yf ti.size (x.ev fr))=some rows->
  l.length=rows.length/\(∀(k:Nat)(r:List D),rows[k]?=some r->r.length=ti.size)/\∀(i:Nat)(p:Nat×Value)(r:List D),(l.map λx=>(x.1,a.eval x.2))[i]?=some p->rows[i]?=some r->
   p.2.cells.size=ti.size/\r.length=ti.size/\∀(j:Nat)(u:Value)(d:D),p.2.cells.toList[j]?=some u->r[j]?=some d->DR κ.σ u d:=by
  intro l;induction l with
  |nil=>intro ps rows h h';simp at h;subst h;simp at h';subst h';simp
  |cons y l ih=>
   intro ps rows h h';simp only[Q3k,Q2h,Q2a,Q2q,somI]at h;obtain⟨y',hy',ps',hps',rfl⟩:=h;simp only[Q3k,Q2h,Q2a,Q2q,somI]at h';obtain⟨r0,hr0,rows',hrows',rfl⟩:=h';obtain⟨i1,i2,i3⟩:=ih ps' rows' hps' hrows';obtain⟨q1,q2,q3,q4⟩:=Qr6 hr0;refine⟨by simp[i1],λk r hk=>?_,λi p r hp hr=>?_⟩
   ·cases k with
    |zero=>simp at hk;subst hk;exact q3
    |succ k=>exact i2 k r (by simpa using hk)
   ·cases i with
    |zero=>
     simp at hp hr;subst hp;subst hr;have hv:=Ql hy' hs;obtain⟨s1,s2⟩:=A.cells_of hv q2;refine⟨by rw[<-q1,<-s1];simp,q3,λj u d hu hd=>?_⟩;have hj:j<(y'.ev fr).cells.length:=by rw[q1,<-q3];exact(Q11.1 hd).1
     exact Qng (s2 j u _ hu (Q12 hj)) (q4 j _ d (Q12 hj) hd)
    |succ i=>exact i3 i p r (by simpa using hp) (by simpa using hr)
 obtain⟨k1,k2,k3⟩:=keyA _ _ _ hps hr;have hlen:rows.length=n:=by rw[<-k1,<-hn];simp
 obtain⟨zl,hzl⟩:∃zl,Y0 P e=some zl:=by cases hzz:Y0 P e with
  |none=>rw[hzz]at hz;cases hz
  |some zl=>exact⟨zl,rfl⟩
 obtain⟨ti',zv,z1,z2,z3,-⟩:=Qbc hzl;have:ti'=ti:=by rw[hi]at z1;cases z1;rfl
 subst this;have hzlen:zv.cells.size=ti'.size:=by rw[z3];rw[hzl]at hz;simpa using hz
 have hnum:∀(i:Nat)(p:Nat×Value),(parts.toList.map λx=>(x.1,a.eval x.2))[i]?=some p->p.1=0+i:=λi p hpi=>by
  simp only[Q2d,Q13]at hpi;obtain⟨q,hq,rfl⟩:=hpi;exact Qcs 0 _ hp i q hq
 have hbuild:∀(zz:Array Value),∃c:Array Value,c.size=n*ti'.size/\Instr.fill (λi=>some (i*ti'.size,ti'.size)) ((Array.range (n*ti'.size)).map (zz[·%zz.size]!)) (parts.toList.map λx=>(x.1,a.eval x.2))=some c/\
  ∀(k j:Nat)(r:List D)(d:D),rows[k]?=some r->r[j]?=some d->∃u,c[k*ti'.size+j]?=some u/\DR κ.σ u d:=λzz=>by
  obtain⟨out,f1,f2,f3,f4⟩:=Qvi (κ:=κ) (sz:=ti'.size) (parts.toList.map λx=>(x.1,a.eval x.2)) rows 0 ((Array.range (n*ti'.size)).map (zz[·%zz.size]!)) (by simpa using k1) (by simp[hlen]) hnum k3;refine⟨out,by rw[f2];simp,f1,λk j r d hk hd=>?_⟩;obtain⟨u,hu,hdr⟩:=f4 k j r d hk hd;exact⟨u,by simpa using hu,hdr⟩
 refine⟨hlen,k2,?_⟩;have e2:(Array.map (λ(x:Nat×Operand)=>match x with|(i,y)=>(i,a.eval y)) parts).toList=parts.toList.map λx=>(x.1,a.eval x.2):=by simp
 by_cases hn0:n*ti'.size=0
 ·obtain⟨c,hcs,hcf,hcv⟩:=hbuild #[];refine⟨c,hcs,?_,hcv⟩;simp only[Instr.buildSlice,Q27,run_underlying ht,Q2s,sizeOf,typeInfo,run_program,hi,Q3u];rw[if_neg (by omega),if_pos hn0];simp only[Q27,Q3u,Q2s];rw[e2,hcf];rfl
 ·obtain⟨c,hcs,hcf,hcv⟩:=hbuild zv.cells;refine⟨c,hcs,?_,hcv⟩;simp only[Instr.buildSlice,Q27,run_underlying ht,Q2s,sizeOf,typeInfo,run_program,hi,Q3u];rw[if_neg (by omega),if_neg hn0];simp only[zeroValue,typeInfo,Q27,run_program,Q2s,hi,Q3u,z2];rw[e2,hcf];rfl
def Qq4{t e:TypeId}{ti:TypeInfo}{n:Nat}{parts:Array (Nat×Operand)}{ps:List Arg}(hs:SR κ nt fr H a w)(h1:Yj P t=some (e,ti))(hp:Vd 0 parts.toList=true)(hn:parts.size=n)(hlim:n*ti.size<=2^24)(hz:(Y0 P e).map (·.length)=some ti.size)(hpos:0<ti.size)(hps:parts.toList.mapM (λ(x:Nat×Operand)=>cArg P e x.2)=some ps)(h:Qj fr H (.bslice ti.size ps)=some (x,H')):
 Does P (do pure (.value (<-Instr.buildSlice t n (parts.map λ(i,x)=>(i,a.eval x))))) w κ H' x:=by
 simp only[Qj,Q13]at h;obtain⟨rows,hr,h⟩:=h;simp only[prdI]at h;obtain⟨rfl,rfl⟩:=h;obtain⟨k1,k2,c,k3,k4,k5⟩:=Qc2 hs h1 hp hn hlim hz hpos hps hr;subst k1;obtain⟨p1,p2⟩:=hs.hr.pushRow c (rows.length*ti.size) e;refine⟨_,_,_,.inl (Wg _ _ _ k4),p1,p2,.d ?_⟩;have:=DR.new (τ:=Ze κ.σ w.heap.size c (rows.length*ti.size)) false rows w.heap.size ti.size rows.length c (by simp) (by omega) k2 (λo ho=>by simp[Ze,ho]) (λk j r d hk hd=>by
  obtain⟨u,hu,hdr⟩:=k5 k j r d hk hd;exact⟨u,hu,hdr.mono p1.σ⟩)
 exact this
def Qo5{t e:TypeId}{ti:TypeInfo}{n:Nat}{parts:Array (Nat×Operand)}{ps:List Arg}(hs:SR κ nt fr H a w)(h1:Yj P t=some (e,ti))(hp:Vd 0 parts.toList=true)(hn:parts.size=n)(hlim:n*ti.size<=2^24)(hz:(Y0 P e).map (·.length)=some ti.size)(hpos:0<ti.size)(hps:parts.toList.mapM (λ(x:Nat×Operand)=>cArg P e x.2)=some ps)(h:Qj fr H (.bsliceT ti.size e ps)=some (x,H')):
 Does P (do pure (.value (<-Instr.buildSlice t n (parts.map λ(i,x)=>(i,a.eval x))))) w κ H' x:=by
 simp only[Qj,Q13]at h;obtain⟨rows,hr,h⟩:=h;simp only[prdI]at h;obtain⟨rfl,rfl⟩:=h;obtain⟨k1,k2,c,k3,k4,k5⟩:=Qc2 hs h1 hp hn hlim hz hpos hps hr;subst k1;obtain⟨p1,p2⟩:=hs.hr.pushRow c (rows.length*ti.size) e;have hw:(w.alloc (.cells c e)).heap[w.heap.size]?=some (.cells c e):=by show(w.heap.push _)[w.heap.size]?=_;simp
 let κ1:K:={κ with σ:=Ze κ.σ w.heap.size c (rows.length*ti.size)};let κ2:K:={κ1 with β:=upd κ1.β H.length (.reg w.heap.size (rows.length*ti.size) (rows.length*ti.size) rows.length ti.size)};have hn':κ1.β H.length=.none:=p2.dom _ (Q14 _);have hle:κ1.le κ2:=K.le_upd hn' _;have hbx:∀i b,(κ1.β i).block=some b->b<w.heap.size:=λi b hb=>(hs.hr.ex i b hb).2;refine⟨_,_,κ2,.inl (Wg _ _ _ k4),K.le_trans p1 hle,⟨p2.below,p2.st,λi z hz=>?_,λi hi=>?_,λi b hb=>?_,λi b o ho=>?_,λi j b hi hj=>?_,λi z hz=>?_⟩,.osl ?_ ?_⟩
 ·by_cases hi:i<H.length
  ·rw[Q19 hi]at hz;exact(p2.ob i z hz).mono hle (Qu _ _ (by omega)) λb _=>rfl
  ·have:i=H.length:=by
    have:=(Q11.1 hz).1;simp at this;omega
   subst this;simp at hz;subst hz;exact .inr ⟨w.heap.size,_,_,c,0,0,Qk _ _ _,hw,by omega,.inl ⟨rfl,rfl⟩⟩
 ·have h1:H.length+1<=i:=by simpa using hi
  show upd κ1.β H.length _ i=_;rw[Qu _ _ (by omega)];exact p2.dom i (by omega)
 ·by_cases hi:i=H.length
  ·subst hi;have:some w.heap.size=some b:=by rw[<-hb];show _=(upd κ1.β H.length _ H.length).block;rw[Qk];rfl
   cases this
   exact⟨hs.hr.below.size,by simp⟩
  ·have hb':(κ1.β i).block=some b:=by rw[<-hb];show _=(upd κ1.β H.length _ i).block;rw[Qu _ _ hi]
   exact p2.ex i b hb'
 ·by_cases hi:i=H.length
  ·subst hi;have ho':(Bind.reg w.heap.size (rows.length*ti.size) (rows.length*ti.size) rows.length ti.size).owns b o:=by
    have:=ho;change(upd κ1.β H.length _ H.length).owns b o at this
    rwa[Qk]at this
   obtain⟨rfl,ho2⟩:=ho';show Ze κ.σ w.heap.size c (rows.length*ti.size) w.heap.size o=none;simp only[Ze,if_true];rw[if_neg (by omega)]
  ·have ho':(κ1.β i).owns b o:=by
    have:=ho;change(upd κ1.β H.length _ i).owns b o at this
    rwa[Qu _ _ hi]at this
   exact p2.exσ i b o ho'
 ·have hnew:∀k,k≠H.length->(κ2.β k).block=some b->b<w.heap.size:=λk hk hb=>by
   change(upd κ1.β H.length _ k).block=some b at hb;rw[Qu _ _ hk]at hb;exact hbx k b hb
  have hat:(κ2.β H.length).block=some w.heap.size:=by show(upd κ1.β H.length _ H.length).block=_;rw[Qk];rfl
  by_cases h1:i=H.length<;>by_cases h2:j=H.length
  ·omega
  ·subst h1;rw[hat]at hi;cases hi;have:=hnew j h2 hj;omega
  ·subst h2;rw[hat]at hj;cases hj;have:=hnew i h1 hi;omega
  ·change(upd κ1.β H.length _ i).block=some b at hi;change(upd κ1.β H.length _ j).block=some b at hj;rw[Qu _ _ h1]at hi;rw[Qu _ _ h2]at hj;exact p2.exd i j b hi hj
 ·by_cases hi:i<H.length
  ·rw[Q19 hi]at hz;exact p2.fl i z hz
  ·have:i=H.length:=by
    have:=(Q11.1 hz).1;simp at this;omega
   subst this;simp at hz;subst hz;rfl
 ·have:=DR.new (τ:=Ze κ.σ w.heap.size c (rows.length*ti.size)) false rows w.heap.size ti.size rows.length c (by simp) (by omega) k2 (λo ho=>by simp[Ze,ho]) (λk j r d hk hd=>by
   obtain⟨u,hu,hdr⟩:=k5 k j r d hk hd;exact⟨u,hu,hdr.mono p1.σ⟩)
  exact this
 ·show Qez (upd κ1.β H.length _ H.length) _ _;rw[Qk];exact⟨Q14 _,λ_=>⟨0,rows.length,rfl,Q14 _,by simp,by simp,rfl⟩⟩
def Qo4{t e:TypeId}{ti:TypeInfo}{n:Nat}{parts:Array (Nat×Operand)}{ps:List Arg}(hs:SR κ nt fr H a w)(h1:Yj P t=some (e,ti))(hp:Vd 0 parts.toList=true)(hn:parts.size=n)(hlim:n*ti.size<=2^24)(hz:(Y0 P e).map (·.length)=some ti.size)(hpos:0<ti.size)(hps:parts.toList.mapM (λ(x:Nat×Operand)=>cArg P e x.2)=some ps)(h:Qj fr H (.bsliceV ti.size e ps)=some (x,H')):
 Does P (do pure (.value (<-Instr.buildSlice t n (parts.map λ(i,x)=>(i,a.eval x))))) w κ H' x:=by
 simp only[Qj,Q13]at h;obtain⟨rows,hr,h⟩:=h;simp only[prdI]at h;obtain⟨rfl,rfl⟩:=h;obtain⟨k1,k2,c,k3,k4,k5⟩:=Qc2 hs h1 hp hn hlim hz hpos hps hr;subst k1;have:=hs.hr.push (.cells c e) (.vec w.heap.size rows.length rows.length 1 ti.size) (.vec ti.size e 1 rows) rfl rfl (by
  refine .inr ⟨w.heap.size,rows.length,c,Qk _ _ _,λh0=>absurd h0 (by decide),?_,Q14 _,by rw[k3];exact Q14 _,λj r hj=>⟨k2 j r hj,λq x hx=>?_⟩⟩
  ·show(w.heap.push _)[w.heap.size]?=_;simp
  ·exact k5 j q r x hj hx)
 exact⟨_,_,_,.inl (Wg _ _ _ k4),this.1,this.2,.vsl _ _ _ _ _ (Q14 _) (by
  show Qc3 (upd κ.β H.length _ H.length) _ _ _;rw[Qk];exact⟨Q14 _,λ_=>⟨Q14 _,rfl⟩⟩)⟩
def Qo6{t e:TypeId}{ti:TypeInfo}{n:Nat}{parts:Array (Nat×Operand)}{ps:List Arg}(hs:SR κ nt fr H a w)(h1:Yj P t=some (e,ti))(hp:Vd 0 parts.toList=true)(hn:parts.size=n)(hlim:n*ti.size<=2^24)(hz:(Y0 P e).map (·.length)=some ti.size)(hpos:0<ti.size)(hps:parts.toList.mapM (λ(x:Nat×Operand)=>cArg P e x.2)=some ps)(h:Qj fr H (.bsliceM ti.size ps)=some (x,H')):
 Does P (do pure (.value (<-Instr.buildSlice t n (parts.map λ(i,x)=>(i,a.eval x))))) w κ H' x:=by
 simp only[Qj,Q13]at h;obtain⟨rows,hr,h⟩:=h;simp only[prdI]at h;obtain⟨rfl,rfl⟩:=h;obtain⟨k1,k2,c,k3,k4,k5⟩:=Qc2 hs h1 hp hn hlim hz hpos hps hr;subst k1;obtain⟨κ',p1,p2,p3⟩:=hs.hr.pushArr c ti.size (rows.map (List.map .d)) e
  (λk q hq=>by
   simp only[Q2d,Q13]at hq;obtain⟨q',h1,rfl⟩:=hq;simpa using k2 k q' h1)
  (by simp[A.flat,Q2n])
  (λk j q y hq hy=>by
   simp only[Q2d,Q13]at hq;obtain⟨q',h1,rfl⟩:=hq;simp only[Q2d,Q13]at hy;obtain⟨d,h2,rfl⟩:=hy;obtain⟨u',u1,u2⟩:=k5 k j q' d h1 h2;exact⟨u',u1,.d u2⟩) rows.length (by simp) (by simp)
 exact⟨_,_,κ',.inl (Wg _ _ _ k4),p1,p2,by simpa using p3⟩
def Qn1{l a b:D}{r:Bool}{u v:Value}{σ:St}(h:eqD l a b=some r)(hu:DR σ u a)(hv:DR σ v b){t:TypeId}(ht:Qbh P t=some l)(d:Nat)(w:World):(Op.equalIn (d+1) t u v).run P w=.ok r w:=by
 have hs:∀s:ByteArray,s.toList=s.data.toList:=λs=>by rw[ByteArray.toList_eq]
 unfold eqD at h;split at h
 .cases h
  unfold Qbh at ht;split at ht
  .rename_i e;cases hu;cases hv
   exact run_equalIn_bool w d t _ _ e
  .cases ht
  .cases ht
  .cases ht
 .split at h
  .rename_i hk;subst hk;cases h
   unfold Qbh at ht;split at ht
   .cases ht
   .rename_i e;cases hu;cases hv
    exact run_equalIn_int w d t _ _ _ _ e
   .cases ht
   .cases ht
  .cases h
 .cases h
  unfold Qbh at ht;split at ht
  .cases ht
  .cases ht
  .rename_i e;cases hu;cases hv
   rw[run_equalIn_string w d t _ _ e,hs,hs];congr 1;rw[Q6i];simp
  .cases ht
 .cases h
def Qa8{t:TypeId}{l:D}(ht:Qbh P t=some l){cs:Array Value}{off:Nat}{v:Value}(hv:cs[off]?=some v)(w:World):(part t cs off).run P w=.ok v w:=by
 unfold Qbh at ht;split at ht
 .rename_i e;simp[part,isAgg,run_underlying e,hv]
 .rename_i e;simp[part,isAgg,run_underlying e,hv]
 .rename_i e;simp[part,isAgg,run_underlying e,hv]
 .cases ht
def Qit{κ:K}(d:Nat)(w:World)(vs us:Array Value):∀(fs:List Field)(k:Nat)(ls:List D)(ars bs:List A)(b:Bool),Qmq P k fs=some ls->eqDs ls ars bs=some b->
 (∀(j:Nat)(a:A),ars[j]?=some a->∃v,vs[k+j]?=some v/\VR κ v a)->(∀(j:Nat)(a:A),bs[j]?=some a->∃v,us[k+j]?=some v/\VR κ v a)->(Op.eqFields (d+1) vs us fs).run P w=.ok b w
 |[],k,ls,ars,bs,b,hf,he,_,_=>by
  simp only[Qmq,somI]at hf;subst hf;unfold eqDs at he;split at he
  .cases he;rfl
  .contradiction
  .cases he
 |f::fs,k,ls,ars,bs,b,hf,he,hv,hu=>by
  simp only[Qmq]at hf;split at hf
  .rename_i hc;simp only[Q2t,beq_iff_eq,bne_iff_ne,ne_eq]at hc;obtain⟨hoff,hname⟩:=hc;split at hf
   .rename_i l ls' h1 h2;cases hf
    unfold eqDs at he;split at he
    .contradiction
    .rename_i l0 ls0 a r a' s h3;cases h3
     split at he
     .rename_i h t h4 h5;cases he
      obtain⟨v,v1,v2⟩:=hv 0 _ rfl;obtain⟨u,u1,u2⟩:=hu 0 _ rfl;rw[Q4g]at v1 u1;have ih:=Qit d w vs us fs (k+1) ls' r s t h2 h5 (λj a hj=>by
       have:=hv (j+1) a (by simpa using hj);rwa[show k+(j+1)=k+1+j by omega]at this) (λj a hj=>by
       have:=hu (j+1) a (by simpa using hj);rwa[show k+(j+1)=k+1+j by omega]at this)
      simp only[Op.eqFields,hname,not_false_eq_true,ne_eq,if_true,Q27];rw[hoff,Qa8 h1 v1];simp only[Q2s];rw[Qa8 h1 u1];simp only[Q2s];rw[Qn1 h4 v2.d_inv u2.d_inv h1];simp only[Q2s];cases h with
      |true=>simpa using ih
      |false=>simp
     .cases he
    .cases he
   .cases hf
  .cases hf
def Qqx:∀{l m:List D} {a b:List A} {r:Bool},eqDs (l++m) a b=some r->∃s t,eqDs l (a.take l.length) (b.take l.length)=some s/\eqDs m (a.drop l.length) (b.drop l.length)=some t/\r=(s&&t)
 |[],m,a,b,r,h=>⟨true,r,by simp[eqDs],by simpa using h,by simp⟩
 |x::l,m,a,b,r,h=>by
  rw[Q2m]at h;unfold eqDs at h;split at h
  .contradiction
  .rename_i h3;cases h3
   split at h
   .rename_i h4 h5;cases h
    obtain⟨s,t,p,q,rfl⟩:=Qqx h5;refine⟨_&&s,t,?_,by simpa using q,by rw[Bool.and_assoc]⟩;simp only[Q2i,List.take_succ_cons];unfold eqDs;rw[h4,p]
   .cases h
  .cases h
def Qho{t:TypeId}{gs:Array Field}{i:TypeInfo}(ht:P.underlying t=some (.struct gs))(hi:P.info? t=some i)(cs:Array Value)(off:Nat)(w:World):
 (part t cs off).run P w=.ok (.agg (cs.extract off (off+i.size))) w:=by
 simp[part,isAgg,run_underlying ht,sizeOf,typeInfo,hi]
def Qc7{κ:K}(d:Nat)(w:World)(vs us:Array Value):∀(fs:List Field)(k:Nat)(ls:List D)(ars bs:List A)(b:Bool),Qcz P k fs=some ls->eqDs ls ars bs=some b->
 (∀(j:Nat)(a:A),ars[j]?=some a->∃v,vs[k+j]?=some v/\VR κ v a)->(∀(j:Nat)(a:A),bs[j]?=some a->∃v,us[k+j]?=some v/\VR κ v a)->(Op.eqFields (d+2) vs us fs).run P w=.ok b w
 |[],k,ls,ars,bs,b,hf,he,_,_=>by
  simp only[Qcz,somI]at hf;subst hf;unfold eqDs at he;split at he
  .cases he;rfl
  .contradiction
  .cases he
 |f::fs,k,ls,ars,bs,b,hf,he,hv,hu=>by
  simp only[Qcz]at hf;split at hf
  .rename_i hc;simp only[Q2t,beq_iff_eq,bne_iff_ne,ne_eq]at hc;obtain⟨hoff,hname⟩:=hc;split at hf
   .rename_i l h1;obtain⟨ls',h2,rfl⟩:=Q13.1 hf;unfold eqDs at he;split at he
    .contradiction
    .rename_i l0 ls0 a r a' s h3;cases h3
     split at he
     .rename_i h t h4 h5;cases he
      obtain⟨v,v1,v2⟩:=hv 0 _ rfl;obtain⟨u,u1,u2⟩:=hu 0 _ rfl;rw[Q4g]at v1 u1;have ih:=Qc7 d w vs us fs (k+1) ls' r s t h2 h5 (λj a hj=>by
       have:=hv (j+1) a (by simpa using hj);rwa[show k+(j+1)=k+1+j by omega]at this) (λj a hj=>by
       have:=hu (j+1) a (by simpa using hj);rwa[show k+(j+1)=k+1+j by omega]at this)
      simp only[Op.eqFields,hname,not_false_eq_true,ne_eq,if_true,Q27];rw[hoff,Qa8 h1 v1];simp only[Q2s];rw[Qa8 h1 u1];simp only[Q2s];rw[Qn1 h4 v2.d_inv u2.d_inv h1];simp only[Q2s];cases h with
      |true=>simpa using ih
      |false=>simp
     .cases he
    .cases he
   .split at hf
    .rename_i gs i ht hi;split at hf
     .rename_i l hp hl;split at hf
      .rename_i hsz;rw[beq_iff_eq]at hsz;obtain⟨ls',h2,rfl⟩:=Q13.1 hf;obtain⟨s,t,h4,h5,rfl⟩:=Qqx he;have ih:=Qc7 d w vs us fs (k+l.length) ls' _ _ t h2 h5 (λj a hj=>by
        have:=hv (l.length+j) a (by simpa using hj);rwa[<-Q3r]at this) (λj a hj=>by
        have:=hu (l.length+j) a (by simpa using hj);rwa[<-Q3r]at this)
       have hfo:P.fieldsOf f.type=gs:=by simp[Program.fieldsOf,ht]
       have hin:(Op.equalIn (d+2) f.type (.agg (vs.extract k (k+i.size))) (.agg (us.extract k (k+i.size)))).run P w=.ok s w:=by
        rw[run_equalIn_agg w (d+1) f.type _ _ (by rw[hfo];exact ht) hp,hfo];refine Qit (κ:=κ) d w _ _ gs.toList 0 l _ _ s hl h4 (λj a hj=>?_) (λj a hj=>?_)
        .have hlt:j<l.length:=by have:=(Q11.1 hj).1;rw[Q3p]at this;omega
         rw[Q43 hlt]at hj;obtain⟨v,v1,v2⟩:=hv j a hj;refine⟨v,?_,v2⟩;have hb:=(Q24.1 v1).1;rw[Q3i,Q7b,if_pos (by omega)];exact v1
        .have hlt:j<l.length:=by have:=(Q11.1 hj).1;rw[Q3p]at this;omega
         rw[Q43 hlt]at hj;obtain⟨v,v1,v2⟩:=hu j a hj;refine⟨v,?_,v2⟩;have hb:=(Q24.1 v1).1;rw[Q3i,Q7b,if_pos (by omega)];exact v1
       simp only[Op.eqFields,hname,not_false_eq_true,ne_eq,if_true,Q27];rw[hoff,Qho ht hi];simp only[Q2s];rw[Qho ht hi];simp only[Q2s];rw[hin];simp only[Q2s];cases s with
       |true=>simpa using ih
       |false=>simp
      .cases hf
     .cases hf
    .cases hf
  .cases hf
def Qq2{op:BinOp}{neg:Bool}(hop:op=if neg then .neq else .eql){t:TypeId}{y z:Operand}{y' z':Arg}{fs:Array Field}{l:List D}(hs:SR κ nt fr H a w)(ht:P.underlying t=some (.struct fs))(hl:Qcz P 0 fs.toList=some l)(hp:P.stoodInHeld t=false)(hm:P.eqGuardType P.depth t=false)(hy:cArg P t y=some y')(hz:cArg P t z=some z')(h:Qj fr H (.eqA neg l y' z')=some (x,H')):
 Does P (do pure (.value (<-(do eqGuard op t y z (a.eval y) (a.eval z);binOp op t (a.eval y) (a.eval z))))) w κ H' x:=by
 simp only[Qj]at h;split at h
 .rename_i cs ds e1 e2;simp only[Q13]at h;obtain⟨b,hb,h⟩:=h;simp only[prdI]at h;obtain⟨rfl,rfl⟩:=h;have h1:=Ql hy hs;have h2:=Ql hz hs;rw[e1]at h1;rw[e2]at h2;generalize hev1:a.eval y=v1 at h1;generalize hev2:a.eval z=v2 at h2;cases h1 with
  |agg vs _ hvl hv=>
  cases h2 with
  |agg us _ hul hu=>
  have hfo:P.fieldsOf t=fs:=by simp[Program.fieldsOf,ht]
  have heq:(Op.equalIn 10000 t (.agg vs.toArray) (.agg us.toArray)).run P w=.ok b w:=by
   rw[run_equalIn_agg w 9999 t _ _ (by rw[hfo];exact ht) hp,hfo];refine Qc7 (κ:=κ) 9997 w _ _ fs.toList 0 l cs ds b hl hb (λj a hj=>?_) (λj a hj=>?_)
   .have:j<vs.length:=by rw[hvl];exact(Q11.1 hj).1
    exact⟨vs[j],by simp[this],hv j _ a (Q12 this) hj⟩
   .have:j<us.length:=by rw[hul];exact(Q11.1 hj).1
    exact⟨us[j],by simp[this],hu j _ a (Q12 this) hj⟩
  refine .same (Wg _ _ _ ?_) hs.hr (.d (.bool _));simp only[Q27,run_eqGuard_agg w op t y z _ _ hm,Q2s];subst hop;cases neg with
  |true=>simp only[if_true];rw[run_neq_struct,heq];simp
  |false=>simp only[Q2c,if_false];rw[run_eql_struct,heq];simp
 .cases h
def Zz(t u e ty:TypeId)(i:TypeInfo)(ht:P.underlying t=some (.slice e))(hu:∃d,P.underlying u=some d/\∀k,d≠.int k)(hi:P.info? e=some i)(base:Option Addr)(sLen sCap n:Nat)(x:Value)(news:List Value)(hlen:(Builtin.lenOf x).run P w=.ok n w)(hfc:(Builtin.firstCells i.size n x).run P w=.ok news.toArray w)(hroom:sLen+n<=sCap)(w':World)(hst:∀ad,base=some ad->(storeCells (ad.add (sLen*i.size)) news).run P w=.ok () w')(hno:base=none->w'=w):
 (Builtin.append_ #[t,u] ty #[.slice base sLen sCap,x]).run P w=.ok (.slice base (sLen+n) sCap) w':=by
 obtain⟨d,hd,_⟩:=hu;cases base with
 |none=>have:=hno rfl;subst this;simp[Builtin.append_,run_underlying ht,run_underlying hd,sizeOf,typeInfo,hi,hlen,hroom,hfc]
 |some ad=>have:=hst ad rfl;simp[Builtin.append_,run_underlying ht,run_underlying hd,sizeOf,typeInfo,hi,hlen,hroom,hfc,this]
def V3(t u e ty:TypeId)(i:TypeInfo)(z:Value)(ht:P.underlying t=some (.slice e))(hu:∃d,P.underlying u=some d/\∀k,d≠.int k)(hi:P.info? e=some i)(hzv:i.zero=some z)(base:Option Addr)(sLen sCap n:Nat)(x:Value)(olds news:List Value)(hlen:(Builtin.lenOf x).run P w=.ok n w)(hfc:(Builtin.firstCells i.size n x).run P w.drew=.ok news.toArray w.drew)(hfo:(Builtin.firstCells i.size sLen (.slice base sLen sCap)).run P w.drew=.ok olds.toArray w.drew)(hroom:sCap<sLen+n)(hby:0<i.bytes)(hfit:(sLen+n)*i.bytes<=140737488355328):
 (Builtin.append_ #[t,u] ty #[.slice base sLen sCap,x]).run P w=
 .ok (.slice (some ⟨w.heap.size,0,none⟩) (sLen+n) (grownCap w (sLen+n) sCap e)) (w.drew.alloc (.cells (olds.toArray++news.toArray++Builtin.zeroCells z.cells (grownCap w (sLen+n) sCap e-(sLen+n))) e)):=by
 obtain⟨d,hd,_⟩:=hu;have hn:¬(sLen+n<=sCap):=by omega
 have h63:¬(9223372036854775807<((sLen:Int)+(n:Int))):=by have:sLen+n<=(sLen+n)*i.bytes:=Nat.le_mul_of_pos_right _ hby;omega
 have h48:¬(281474976710656<Builtin.nextslicecap (sLen+n) sCap*i.bytes):=by have:=growslice_fits hroom hfit;omega
 simp[Builtin.append_,run_underlying ht,run_underlying hd,sizeOf,typeInfo,zeroValue,hi,hzv,hlen,hn,h63,h48,Question.forced,hfc,hfo,newRow,grownCap];congr 2;apply Array.ext';simp[Q2g]
def Qx3{t u e ty:TypeId}{ti:TypeInfo}{z0:Value}(hr:HR κ H w)(ht:P.underlying t=some (.slice e))(hu:∃d,P.underlying u=some d/\∀k,d≠.int k)(hi:P.info? e=some ti)(hz0:ti.zero=some z0)(hzs:z0.cells.size=ti.size)(hby:0<ti.bytes){v xv:Value}{xa:A}(hv:VR κ v xa)(new:List (List D))(news:List Value)(hlen:(Builtin.lenOf xv).run P w=.ok new.length w)(hfc:∀w1:World,(∀b o,w1.cell? ⟨b,o,none⟩=w.cell? ⟨b,o,none⟩)->(Builtin.firstCells ti.size new.length xv).run P w1=.ok news.toArray w1)(hnl:news.length=new.length*ti.size)(hrow:∀(k:Nat) (r:List D),new[k]?=some r->r.length=ti.size)(hnv:∀(k j:Nat) (r:List D) (d:D),new[k]?=some r->r[j]?=some d->∃q,news[k*ti.size+j]?=some q/\DR κ.σ q d)(h1c:∀q∈news,q.oneCell'=true)(h:appA H ti.size ti.bytes e new xa=some (x,H')):
 ∃q w' κ',(Builtin.append_ #[t,u] ty #[v,xv]).run P w=.ok q w'/\κ.le κ'/\HR κ' H' w'/\VR κ' q x:=by
 unfold appA at h;split at h
 .rename_i z s rows tk;split at h
  .rename_i n s' e' hH;split at h
   .rename_i hc;obtain⟨rfl,rfl,rfl,rfl,hfit⟩:=hc;cases h
    have hv0:=hv;cases hv with
    |osl hd hf=>
    obtain⟨ad,cap,olds,rfl,hcap,hnil,hol,hoc,hov,ho1,hrows⟩:=hd.cells (λb o q hq=>hr.st b o q hq);by_cases hnew:new=[]
    .subst hnew;have hn0:news=[]:=Q2b (by simpa using hnl);subst hn0;refine⟨.slice ad (rows.length+0) cap,w,κ,Zz t u e' ty ti ht hu hi ad rows.length cap 0 xv [] hlen (hfc w λ_ _=>rfl) (by simpa using hcap) w (λ_ _=>rfl) (λ_=>rfl),K.le_refl κ,?_,?_⟩
     .have:H.set tk (.tok (rows.length+([]:List (List D)).length) ti.size e')=H:=by
       simp only[Q3b,Q4g];refine Q3e λj=>?_;by_cases hj:tk=j
       .subst hj;rw[Q17 (Q11.1 hH).1,hH]
       .rw[Q15 hj]
      rw[this];exact hr
     .simpa using hv0
    .have hpos:0<new.length:=Q3g.2 hnew;by_cases hroom:rows.length+new.length<=cap
     .cases ad with
      |none=>obtain⟨-,h0,-⟩:=hnil rfl;omega
      |some q=>
       obtain⟨qb,qo,qs⟩:=q;have hq1:qs=none:=by
        have ho:=hr.ob tk _ hH;rcases ho with⟨h1,-⟩|⟨b,e,c,cur,lo,hi,h1,-⟩
        .rw[h1]at hf;obtain⟨-,hq⟩:=hf;cases hq
        .rw[h1]at hf;obtain⟨-,hq⟩:=hf;obtain⟨o,cap',he,-⟩:=hq rfl;cases he;rfl
       subst hq1;obtain⟨c1,c2,κ',c3,c4,c5⟩:=hr.appendIn hH hv0 new hnew news hrow hnl hnv rfl hroom;refine⟨_,_,κ',Zz t u e' ty ti ht hu hi (some ⟨qb,qo,none⟩) rows.length cap new.length xv news hlen (hfc w λ_ _=>rfl) hroom (w.setCells qb (qo+rows.length*ti.size) news) (λad he=>?_) (λh0=>by cases h0),c3,c4,c5⟩;cases he;rw[Zt];have:=run_storeCells_cells (P:=P) qb (qo+rows.length*ti.size) news 0 w (by simpa using c1) (by simpa using c2) h1c;simpa using this
     .have hge:=grownCap_ge w (rows.length+new.length) cap e';have hfo:(Builtin.firstCells ti.size rows.length (.slice ad rows.length cap)).run P w.drew=.ok olds.toArray w.drew:=by
       cases ad with
       |none=>obtain⟨h0,-,-⟩:=hnil rfl;have:olds=[]:=Q2b (by rw[hol,h0];simp);rw[this];rfl
       |some q=>exact run_firstCells_some w.drew ti.size rows.length q rows.length cap olds hol (by simpa using(hoc q rfl).2)
      have hrun:=V3 t u e' ty ti z0 ht hu hi hz0 ad rows.length cap new.length xv olds news hlen (hfc w.drew λ_ _=>rfl) hfo (by omega) hby hfit;have hr':=hr.drew;obtain⟨κ',k1,k2,k3⟩:=hr'.regrow hH (olds.toArray++news.toArray++Builtin.zeroCells z0.cells (grownCap w (rows.length+new.length) cap e'-(rows.length+new.length))) (rows++new) (grownCap w (rows.length+new.length) cap e') z
       (by simp;omega) (by simpa using hge) (by rw[Q4k,Q4k,Q3s,Q3s,size_zeroCells,hzs,hol,hnl,<-Q29,<-Q29];congr 1;omega)
       (λk r hk=>by
        by_cases hkl:k<rows.length
        .rw[Q19 hkl]at hk;exact hrows k r hk
        .rw[Q2j (by omega)]at hk;exact hrow _ r hk)
       (λk j r d hk hd'=>by
        have hcell:∀m,m<olds.length+news.length->(olds.toArray++news.toArray++Builtin.zeroCells z0.cells (grownCap w (rows.length+new.length) cap e'-(rows.length+new.length)))[m]?=(olds++news)[m]?:=λm hm=>by rw[Q3o (by simpa using hm)];simp
        by_cases hkl:k<rows.length
        .rw[Q19 hkl]at hk;obtain⟨q,q1,q2⟩:=hov k j r d hk hd';have hlt:=(Q11.1 q1).1;exact⟨q,by rw[hcell _ (by omega),Q19 hlt];exact q1,q2⟩
        .rw[Q2j (by omega)]at hk;obtain⟨q,q1,q2⟩:=hnv (k-rows.length) j r d hk hd';have hlt:=(Q11.1 q1).1;have hidx:k*ti.size+j=olds.length+((k-rows.length)*ti.size+j):=by
          rw[hol];have:k*ti.size=rows.length*ti.size+(k-rows.length)*ti.size:=by rw[<-Q29];congr 1;omega
          omega
         refine⟨q,?_,q2⟩;rw[hidx,hcell _ (by omega),Q2j (by omega)];rw[show olds.length+((k-rows.length)*ti.size+j)-olds.length=(k-rows.length)*ti.size+j by omega];exact q1)
      refine⟨_,_,κ',hrun,k1,?_,?_⟩
      .simpa using k2
      .simpa using k3
   .cases h
  .cases h
 .rename_i s;split at h
  .rename_i hc;obtain⟨rfl,hfit⟩:=hc;cases h
   have hval:v=.slice none 0 0:=by
    rcases hv.d_inv.sl_inv with⟨e1,-⟩|⟨_,_,_,e1,-⟩|⟨b,o,cap,f,e1,hz,-⟩
    .exact e1
    .cases e1
    .exact absurd rfl (hz rfl)
   subst hval;by_cases hnew:new=[]
   .subst hnew;have hn0:news=[]:=Q2b (by simpa using hnl);subst hn0;exact⟨_,w,κ,Zz t u e ty ti ht hu hi none 0 0 0 xv [] hlen (hfc w λ_ _=>rfl) (Q14 _) w (λ_ _=>rfl) (λ_=>rfl),K.le_refl κ,hr,.d (.nilsl _)⟩
   .have hpos:0<new.length:=Q3g.2 hnew;have hge:=grownCap_ge w (0+new.length) 0 e;have hrun:=V3 t u e ty ti z0 ht hu hi hz0 none 0 0 new.length xv [] news hlen (hfc w.drew λ_ _=>rfl) rfl (by omega) hby (by simpa using hfit);obtain⟨p1,p2⟩:=hr.drew.pushRow (#[]++news.toArray++Builtin.zeroCells z0.cells (grownCap w (0+new.length) 0 e-(0+new.length))) (new.length*ti.size) e;refine⟨_,_,_,hrun,p1,p2,.d ?_⟩;have hge':new.length<=grownCap w (0+new.length) 0 e:=by omega
    have:=DR.new (τ:=Ze κ.σ w.drew.heap.size (#[]++news.toArray++Builtin.zeroCells z0.cells (grownCap w (0+new.length) 0 e-(0+new.length))) (new.length*ti.size)) true new w.heap.size ti.size (grownCap w (0+new.length) 0 e)
     (#[]++news.toArray++Builtin.zeroCells z0.cells (grownCap w (0+new.length) 0 e-(0+new.length))) (λ_=>hnew) hge' hrow (λo ho=>by simp[Ze,ho]) (λk j r d hk hd'=>by obtain⟨q,q1,q2⟩:=hnv k j r d hk hd';have hlt:=(Q11.1 q1).1;refine⟨q,?_,q2.mono p1.σ⟩;rw[Q3o (by simpa using hlt)];simpa using q1)
    rw[Q3i]at this⊢;exact this
  .cases h
 .rename_i i;split at h
  .rename_i s hH;split at h
   .rename_i hc;obtain⟨rfl,hfit⟩:=hc;have hv0:=hv;cases hv with
    |msl _ _ _ b sz o cap hb hl ho hz=>
    obtain rfl:=hz rfl;split at h
    .cases h
     have hn0:news=[]:=Q2b (by simpa using hnl);subst hn0;exact⟨_,w,κ,Zz t u e ty ti ht hu hi (some ⟨b,o,none⟩) 0 0 0 xv [] hlen (hfc w λ_ _=>rfl) (Q14 _) w (λ_ _=>rfl) (λ_=>rfl),K.le_refl κ,hr,hv0⟩
    .rename_i r rs;cases h
     have hge:=grownCap_ge w (0+(r::rs).length) 0 e;have hrun:=V3 t u e ty ti z0 ht hu hi hz0 (some ⟨b,o,none⟩) 0 0 (r::rs).length xv [] news hlen (hfc w.drew λ_ _=>rfl) (run_firstCells_some w.drew ti.size 0 ⟨b,o,none⟩ 0 0 [] (by simp) (by simp)) (by simp) hby (by simpa using hfit);obtain⟨κ',p1,p2,p3⟩:=hr.drew.pushArr (#[]++news.toArray++Builtin.zeroCells z0.cells (grownCap w (0+(r::rs).length) 0 e-(0+(r::rs).length))) ti.size ((r::rs).map (List.map .d)) e
      (λk q hq=>by simp only[Q2d,Q13]at hq;obtain⟨q',h1,rfl⟩:=hq;simpa using hrow k q' h1)
      (by simp[A.flat,Q2n])
      (λk j q y hq hy=>by simp only[Q2d,Q13]at hq;obtain⟨q',h1,rfl⟩:=hq;simp only[Q2d,Q13]at hy;obtain⟨d,h2,rfl⟩:=hy;obtain⟨u',u1,u2⟩:=hnv k j q' d h1 h2;have hlt:=(Q11.1 u1).1;refine⟨u',?_,.d u2⟩;rw[Q3o (by simpa using hlt)];simpa using u1) (grownCap w (0+(r::rs).length) 0 e) (by simpa using hge) (λh0=>by simp at h0)
     refine⟨_,_,κ',hrun,p1,p2,?_⟩;simpa using p3
   .cases h
  .cases h
 .cases h
def Qxv{t u e ty:TypeId}{ti:TypeInfo}{z0:Value}{y z:Operand}{y' z':Arg}{xs:Array Operand}{ts:Array TypeId}{eu:TypeId}(hs:SR κ nt fr H a w)(hts:ts.toList=[t,u])(hxs:xs.toList=[y,z])(h1:Yj P t=some (e,ti))(hu:P.underlying u=some (.slice eu))(hz0:ti.zero=some z0)(hzs:z0.cells.size=ti.size)(hby:0<ti.bytes)(hy:cArg P t y=some y')(hz:cArg P t z=some z')(h:Qj fr H (.app ti.size ti.bytes e y' z')=some (x,H')):
 Does P (do pure (.value (<-Builtin.append_ ts ty (xs.map a.eval)))) w κ H' x:=by
 have e1:ts=#[t,u]:=by cases ts;simp at hts;subst hts;rfl
 have e2:xs=#[y,z]:=by cases xs;simp at hxs;subst hxs;rfl
 subst e1;subst e2;obtain⟨ht,hi⟩:=Qca h1;simp only[Qj]at h;split at h
 .rename_i new hnew;have hv:=Ql hy hs;have hx:=Ql hz hs;have hd:∃zz,DR κ.σ (a.eval z) (.sl zz ti.size new):=by
   unfold slOf at hnew;split at hnew
   .rename_i zz s rows e3;split at hnew
    .rename_i hsz;cases hnew;subst hsz;rw[e3]at hx;exact⟨zz,hx.d_inv⟩
    .cases hnew
   .rename_i zz s rows tk e3;split at hnew
    .rename_i hsz;cases hnew;subst hsz;rw[e3]at hx
     generalize a.eval z=v at hx;cases hx with|osl hd _=>exact⟨zz,hd⟩
    .cases hnew
   .cases hnew
  obtain⟨zz,hd⟩:=hd;obtain⟨ad,cap,news,e3,hcap,hnil,hnl,hnc,hnv,hn1,hrow⟩:=hd.cells (λb o q hq=>hs.hr.st b o q hq);obtain⟨q,w',κ',c1,c2,c3,c4⟩:=Qx3 (ty:=ty) hs.hr ht ⟨_,hu,λk=>by simp⟩ hi hz0 hzs hby hv (xv:=a.eval z) new news (by rw[e3];rfl) (λw1 hw1=>by
   rw[e3];cases ad with
   |none=>obtain⟨h0,-,-⟩:=hnil rfl;have:news=[]:=Q2b (by rw[hnl,h0];simp);rw[this];rfl
   |some q=>
    obtain⟨qb,qo,qs⟩:=q;obtain⟨hq1,hq2⟩:=hnc _ rfl;by_cases hnw:new=[]
    .subst hnw;have hn0:news=[]:=Q2b (by simpa using hnl);subst hn0;exact run_firstCells_some w1 ti.size 0 ⟨qb,qo,qs⟩ 0 cap [] (by simp) (by simp)
    have hq1:=hq1 hnw;simp only at hq1;subst hq1;exact run_firstCells_some w1 ti.size new.length ⟨qb,qo,none⟩ new.length cap news hnl (λj v hv=>by have:=hq2 j v hv;rw[Zt]at this⊢;rw[hw1];exact this)) hnl hrow hnv hn1 h
  exact⟨q,w',κ',.inl (Wg _ _ _ (by simpa using c1)),c2,c3,c4⟩
 .cases h
def Qgq:∀(vs:List Value)(b o:Nat)(w:World),(w.setCells b o vs).heap.size=w.heap.size
 |[],_,_,_=>rfl
 |x::r,b,o,w=>by rw[World.setCells,Qgq r];simp
def Qe8{B:Nat}{w0:World}:∀(vs:List Value)(b o:Nat)(w:World),B<=b->Below B w0 w->Below B w0 (w.setCells b o vs)
 |[],_,_,_,_,h=>h
 |x::r,b,o,w,hb,h=>by rw[World.setCells];exact Qe8 r b (o+1) _ hb (h.setCell (p:=⟨b,o,none⟩) hb x)
def Qcc{ty:TypeId}{fz:Nat×Nat}:∀(vs:List Value)(b o:Nat)(w:World),(∀k,k≠b->(w.setCells b o vs).heap[k]?=w.heap[k]?)/\∀cur,w.heap[b]?=some (.cells cur ty fz)->∃cur',(w.setCells b o vs).heap[b]?=some (.cells cur' ty fz)/\cur'.size=cur.size
 |[],b,o,w=>⟨λ_ _=>rfl,λcur hc=>⟨cur,hc,rfl⟩⟩
 |x::r,b,o,w=>by obtain⟨i1,i2⟩:=Qcc (ty:=ty) (fz:=fz) r b (o+1) (w.setCell ⟨b,o,none⟩ x);refine⟨λk hk=>by rw[World.setCells,i1 k hk];exact Below.heap_setCell w _ x k hk,λcur hc=>?_⟩;obtain⟨cur',h1,h2⟩:=i2 (cur.setIfInBounds o x) (by simp[World.setCell,Q3w,hc]);exact⟨cur',h1,by simpa using h2⟩
def Zs{w:World}{b:Nat}{cur:Array Value}{ty:TypeId}{fz:Nat×Nat}(h:w.heap[b]?=some (.cells cur ty fz))(o:Nat):w.cell? ⟨b,o,none⟩=cur[o]?:=by simp[World.cell?,h]
def Qvv{t u e ty:TypeId}{ti:TypeInfo}{z0:Value}{x':A}(hr:HR κ H w)(ht:P.underlying t=some (.slice e))(hu:∃d,P.underlying u=some d/\∀k,d≠.int k)(hi:P.info? e=some ti)(hz0:ti.zero=some z0)(hzs:z0.cells.size=ti.size)(hby:0<ti.bytes){v xv:Value}{xa:A}(hv:VR κ v xa)(r:List D)(new:List (List D))(news:List Value)(hlen:(Builtin.lenOf xv).run P w=.ok (new.length+1) w)(hfc:∀w1:World,(∀b o,w1.cell? ⟨b,o,none⟩=w.cell? ⟨b,o,none⟩)->(Builtin.firstCells ti.size (new.length+1) xv).run P w1=.ok news.toArray w1)(hnl:news.length=(new.length+1)*ti.size)(hrow:∀(k:Nat) (q:List D),(r::new)[k]?=some q->q.length=ti.size)(hnv:∀(k j:Nat) (q:List D) (d:D),(r::new)[k]?=some q->q[j]?=some d->∃y,news[k*ti.size+j]?=some y/\DR κ.σ y d)(h1c:∀q∈news,q.oneCell'=true)(h:Qkl H ti.size ti.bytes e r new xa=some (x',H')):
 ∃q w' κ',(Builtin.append_ #[t,u] ty #[v,xv]).run P w=.ok q w'/\κ.le κ'/\HR κ' H' w'/\VR κ' q x':=by
 unfold Qkl at h;split at h
 .rename_i s;split at h
  .rename_i hc;obtain⟨rfl,hfit⟩:=hc;cases h
   have hval:v=.slice none 0 0:=by
    rcases hv.d_inv.sl_inv with⟨e1,-⟩|⟨_,_,_,e1,-⟩|⟨b,o,cap,f,e1,hz,-⟩
    .exact e1
    .cases e1
    .exact absurd rfl (hz rfl)
   subst hval;have hge:=grownCap_ge w (0+(new.length+1)) 0 e;have hrun:=V3 t u e ty ti z0 ht hu hi hz0 none 0 0 (new.length+1) xv [] news hlen (hfc w.drew λ_ _=>rfl) rfl (by omega) hby (by simpa using hfit);generalize hN:#[]++news.toArray++Builtin.zeroCells z0.cells (grownCap w (0+(new.length+1)) 0 e-(0+(new.length+1)))=N at hrun;have hNs:(grownCap w (0+(new.length+1)) 0 e)*ti.size<=N.size:=by
    have h1:(#[]++news.toArray++Builtin.zeroCells z0.cells (grownCap w (0+(new.length+1)) 0 e-(0+(new.length+1)))).size=((new.length+1)+(grownCap w (0+(new.length+1)) 0 e-(0+(new.length+1))))*ti.size:=by simp only[Q4k,Q3s,size_zeroCells,hzs,hnl,Q29,Q3i,Q3b]
    rw[<-hN,h1];exact Q2z _ (by omega)
   have hNg:∀m,m<news.length->N[m]?=news[m]?:=λm hm=>by rw[<-hN,Q3o (by simpa using hm)];simp
   have hpush:=hr.drew.push (.cells N e) (.vec w.heap.size (grownCap w (0+(new.length+1)) 0 e) (new.length+1) 0 ti.size) (.vec ti.size e 0 (r::new)) rfl rfl (by refine .inr ⟨w.heap.size,grownCap w (0+(new.length+1)) 0 e,N,Qk _ _ _,λ_=>by simp,by show(w.heap.push _)[w.heap.size]?=_;simp,by simp only[Q2i];omega,hNs,λj q hj=>⟨hrow j q hj,λk x hk=>?_⟩⟩;obtain⟨y,y1,y2⟩:=hnv j k q x hj hk;have hlt:=(Q11.1 y1).1;exact⟨y,by rw[hNg _ hlt];exact y1,y2⟩);refine⟨_,_,_,hrun,hpush.1,hpush.2,?_⟩;rw[Q3i];refine .vsl _ _ _ _ _ (by simpa using hge) ?_;show Qc3 (upd κ.β H.length _ H.length) _ _ _;rw[Qk];exact⟨Q14 _,λ_=>⟨Q14 _,rfl⟩⟩
  .cases h
 .rename_i i k len;split at h
  .rename_i s e' k' rows hH;split at h
   .rename_i hc;obtain⟨rfl,rfl,rfl,hlr,hfit⟩:=hc;cases h
    have hil:i<H.length:=(Q11.1 hH).1;rcases hr.ob i _ hH with⟨hβ,rfl,rfl⟩|⟨b,c,cur,hβ,-,hheap,hle0,hsz,hcells0⟩
    .
     obtain rfl:len=0:=by simpa using hlr
     cases hv with
     |vsl _ _ _ ad cap hlc hf=>
     rw[hβ]at hf;obtain⟨-,-,hf2⟩:=hf;cases hf2;have hge:=grownCap_ge w (0+(new.length+1)) 0 e';have hrun:=V3 t u e' ty ti z0 ht hu hi hz0 none 0 0 (new.length+1) xv [] news hlen (hfc w.drew λ_ _=>rfl) rfl (by omega) hby (by simpa using hfit);generalize hN:#[]++news.toArray++Builtin.zeroCells z0.cells (grownCap w (0+(new.length+1)) 0 e'-(0+(new.length+1)))=N at hrun;have hNs:(grownCap w (0+(new.length+1)) 0 e')*ti.size<=N.size:=by
      have h1:(#[]++news.toArray++Builtin.zeroCells z0.cells (grownCap w (0+(new.length+1)) 0 e'-(0+(new.length+1)))).size=((new.length+1)+(grownCap w (0+(new.length+1)) 0 e'-(0+(new.length+1))))*ti.size:=by simp only[Q4k,Q3s,size_zeroCells,hzs,hnl,Q29,Q3i,Q3b]
      rw[<-hN,h1];exact Q2z _ (by omega)
     have hNg:∀m,m<news.length->N[m]?=news[m]?:=λm hm=>by rw[<-hN,Q3o (by simpa using hm)];simp
     have hkl2:∀b' c',Bind.le .nilV (.vec b' c' (new.length+1) (0+1) ti.size):=λb' c'=>.inr (.inr ⟨_,_,_,_,_,rfl,by omega⟩);have hrep:=hr.drew.replace i (.vec w.heap.size (grownCap w (0+(new.length+1)) 0 e') (new.length+1) (0+1) ti.size) (.vec ti.size e' (0+1) (r::new)) (w':=w.drew.alloc (.cells N e')) hil (by rw[hβ];exact hkl2 _ _) rfl
      (by show w.heap.size<=(w.heap.push _).size;simp) (hr.drew.below.alloc hr.drew.below.size _) (λk hk _=>Below.heap_alloc w.drew _ k hk) (λb' o hb'=>by rw[hβ]at hb';cases hb') (λb' hb'=>.inr (by
       cases hb'
       exact⟨rfl,by show w.heap.size<(w.heap.push _).size;simp⟩)) (by
      refine .inr ⟨w.heap.size,grownCap w (0+(new.length+1)) 0 e',N,by show upd κ.β i _ i=_;rw[Qk];simp,λ_=>by simp,by show(w.heap.push _)[w.heap.size]?=_;simp,by simp only[Q2i];omega,hNs,λj q hj=>⟨hrow j q hj,λk x hk=>?_⟩⟩;obtain⟨y,y1,y2⟩:=hnv j k q x hj hk;have hlt:=(Q11.1 y1).1;exact⟨y,by rw[hNg _ hlt];exact y1,y2⟩)
     refine⟨_,_,_,hrun,hrep.1,hrep.2,?_⟩;rw[Q3i];refine .vsl _ _ _ _ _ (by simpa using hge) ?_;show Qc3 (upd κ.β i _ i) _ _ _;rw[Qk];exact⟨by omega,λ_=>⟨by omega,rfl⟩⟩
    cases hv with
    |vsl _ _ _ ad cap hlc hf=>
    rw[hβ]at hf;have hf2:=(hf.2 rfl).2;cases hf2;have hcells:∀(j:Nat)(q:List D),(rows.take len)[j]?=some q->q.length=ti.size/\∀(m:Nat)(x:D),q[m]?=some x->∃v,cur[j*ti.size+m]?=some v/\DR κ.σ v x:=λj q hj=>by
     rw[Q4c]at hj;split at hj
     .exact hcells0 j q hj
     .cases hj
    have hRl:(rows.take len).length=len:=by simp;omega
    have hkl:Bind.le (.vec b c rows.length k' ti.size) (.vec b c (len+(new.length+1)) (k'+1) ti.size):=.inr (.inr ⟨_,_,_,_,rfl,by omega⟩);have hkl2:∀b' c',Bind.le (.vec b c rows.length k' ti.size) (.vec b' c' (len+(new.length+1)) (k'+1) ti.size):=λb' c'=>.inr (.inr ⟨_,_,_,_,rfl,by omega⟩);have hle:len<=c:=by omega
    generalize rows.take len=R at hcells hRl;have hbx:=hr.ex i b (by rw[hβ];rfl);have hown:∀b' o,(κ.β i).block=some b'->(κ.β i).owns b' o:=λb' o hb'=>by rw[hβ]at hb'⊢;cases hb';exact rfl
    subst hRl;by_cases hroom:R.length+(new.length+1)<=c
    .
     have hin:R.length*ti.size+news.length<=cur.size:=by rw[hnl,<-Q29];exact Q3d (Q2z _ hroom) hsz
     have hcell:∀j,j<news.length->(w.cell? ⟨b,R.length*ti.size+j,none⟩).isSome=true:=λj hj=>by rw[Zs hheap];simp;omega
     have hfz:∀j,j<news.length->w.frozen? ⟨b,R.length*ti.size+j,none⟩=false:=λj hj=>by simp[World.frozen?,hheap]
     have hrun:=Zz t u e' ty ti ht hu hi (some ⟨b,0,none⟩) R.length c (new.length+1) xv news hlen (hfc w λ_ _=>rfl) hroom (w.setCells b (R.length*ti.size) news) (λad he=>by
      cases he
      rw[Zt,Q3i];have:=run_storeCells_cells (P:=P) b (R.length*ti.size) news 0 w (by simpa using hcell) (by simpa using hfz) h1c;simpa using this) (λh0=>by cases h0)
     obtain⟨cur',hh1,hh2⟩:=(Qcc (ty:=e') (fz:=(0,0)) news b (R.length*ti.size) w).2 cur hheap;have hrep:=hr.replace i (.vec b c (R.length+(new.length+1)) (k'+1) ti.size) (.vec ti.size e' (k'+1) (R++r::new)) (w':=w.setCells b (R.length*ti.size) news) hil (by rw[hβ];exact hkl2 _ _) rfl
      (by rw[Qgq];exact Q14 _) (Qe8 news b _ w hbx.1 hr.below) (λk hk hne=>(Qcc (ty:=e') (fz:=(0,0)) news b (R.length*ti.size) w).1 k (λe=>hne (by rw[hβ,e];rfl))) hown (λb' hb'=>.inl (by rw[hβ];exact hb')) (by
      refine .inr ⟨b,c,cur',by show upd κ.β i _ i=_;rw[Qk];simp,λ_=>by simp,hh1,by simpa using hroom,by rw[hh2];exact hsz,λj q hj=>?_⟩;by_cases hjl:j<R.length
      .rw[Q19 hjl]at hj;refine⟨(hcells j q hj).1,λm x hx=>?_⟩;obtain⟨y,y1,y2⟩:=(hcells j q hj).2 m x hx;refine⟨y,?_,y2⟩;have hm:m<ti.size:=by rw[<-(hcells j q hj).1];exact(Q11.1 hx).1
       have hlt:j*ti.size+m<R.length*ti.size:=by have:(j+1)*ti.size<=R.length*ti.size:=Q2z _ hjl;rw[Q29]at this;omega
       rw[<-Zs hh1,Q64 b news _ w ⟨b,_,none⟩ (λ_ _=>.inl hlt),Zs hheap];exact y1
      .rw[Q2j (by omega)]at hj;refine⟨hrow _ q hj,λm x hx=>?_⟩;obtain⟨y,y1,y2⟩:=hnv _ m q x hj hx;refine⟨y,?_,y2⟩;have hlt:=(Q11.1 y1).1;have hidx:j*ti.size+m=R.length*ti.size+((j-R.length)*ti.size+m):=by
        have:j*ti.size=R.length*ti.size+(j-R.length)*ti.size:=by rw[<-Q29];congr 1;omega
        omega
       rw[<-Zs hh1,hidx,Q67 b news _ w hcell _ hlt,<-y1];exact(Q12 hlt).symm)
     refine⟨_,_,_,hrun,hrep.1,hrep.2,.vsl _ _ _ _ _ (by omega) ?_⟩;show Qc3 (upd κ.β i _ i) _ _ _;rw[Qk];exact⟨Q14 _,λ_=>⟨Q14 _,rfl⟩⟩
    .
     have hge:=grownCap_ge w (R.length+(new.length+1)) c e';have hol:(cur.toList.take (R.length*ti.size)).length=R.length*ti.size:=by have:R.length*ti.size<=c*ti.size:=Q2z _ hle;simp;omega
     have hrun:=V3 t u e' ty ti z0 ht hu hi hz0 (some ⟨b,0,none⟩) R.length c (new.length+1) xv (cur.toList.take (R.length*ti.size)) news hlen (hfc w.drew λ_ _=>rfl)
      (run_firstCells_some w.drew ti.size R.length ⟨b,0,none⟩ R.length c _ hol (λj v hv=>by
       have hj:j<R.length*ti.size:=by rw[<-hol];exact(Q11.1 hv).1
       rw[Q43 hj]at hv;rw[Zt,Q3i];show w.cell? _=_;rw[Zs hheap,<-Q7g];exact hv)) (by omega) hby hfit
     generalize hN:(cur.toList.take (R.length*ti.size)).toArray++news.toArray++Builtin.zeroCells z0.cells (grownCap w (R.length+(new.length+1)) c e'-(R.length+(new.length+1)))=N at hrun;have hNs:(grownCap w (R.length+(new.length+1)) c e')*ti.size<=N.size:=by rw[<-hN,Q4k,Q4k,Q3s,Q3s,size_zeroCells,hzs,hol,hnl,<-Q29,<-Q29];exact Q2z _ (by omega)
     have hNg:∀m,m<R.length*ti.size+news.length->N[m]?=(cur.toList.take (R.length*ti.size)++news)[m]?:=λm hm=>by rw[<-hN,Q3o (by simp[hol];rw[hol]at*;omega)];simp
     have hrep:=hr.drew.replace i (.vec w.heap.size (grownCap w (R.length+(new.length+1)) c e') (R.length+(new.length+1)) (k'+1) ti.size) (.vec ti.size e' (k'+1) (R++r::new)) (w':=w.drew.alloc (.cells N e')) hil (by rw[hβ];exact hkl2 _ _) rfl
      (by show w.heap.size<=(w.heap.push _).size;simp) (hr.drew.below.alloc hr.drew.below.size _) (λk hk _=>Below.heap_alloc w.drew _ k hk) hown (λb' hb'=>.inr (by
       cases hb'
       exact⟨rfl,by show w.heap.size<(w.heap.push _).size;simp⟩)) (by
      refine .inr ⟨w.heap.size,grownCap w (R.length+(new.length+1)) c e',N,by show upd κ.β i _ i=_;rw[Qk];simp,λ_=>by simp,by show(w.heap.push _)[w.heap.size]?=_;simp,by simpa using hge,hNs,λj q hj=>?_⟩;by_cases hjl:j<R.length
      .rw[Q19 hjl]at hj;refine⟨(hcells j q hj).1,λm x hx=>?_⟩;obtain⟨y,y1,y2⟩:=(hcells j q hj).2 m x hx;refine⟨y,?_,y2⟩;have hm:m<ti.size:=by rw[<-(hcells j q hj).1];exact(Q11.1 hx).1
       have hlt:j*ti.size+m<R.length*ti.size:=by have:(j+1)*ti.size<=R.length*ti.size:=Q2z _ hjl;rw[Q29]at this;omega
       rw[hNg _ (by omega),Q19 (by rw[hol];exact hlt),Q43 hlt,Q7g];exact y1
      .rw[Q2j (by omega)]at hj;refine⟨hrow _ q hj,λm x hx=>?_⟩;obtain⟨y,y1,y2⟩:=hnv _ m q x hj hx;refine⟨y,?_,y2⟩;have hlt:=(Q11.1 y1).1;have hidx:j*ti.size+m=R.length*ti.size+((j-R.length)*ti.size+m):=by
        have:j*ti.size=R.length*ti.size+(j-R.length)*ti.size:=by rw[<-Q29];congr 1;omega
        omega
       rw[hidx,hNg _ (by omega),Q2j (by omega),hol,Q4a];exact y1)
     refine⟨_,_,_,hrun,hrep.1,hrep.2,.vsl _ _ _ _ _ (by omega) ?_⟩;show Qc3 (upd κ.β i _ i) _ _ _;rw[Qk];exact⟨Q14 _,λ_=>⟨Q14 _,rfl⟩⟩
   .cases h
  .cases h
 .cases h
def Qvp{t u e ty:TypeId}{ti:TypeInfo}{z0:Value}{y z:Operand}{y' z':Arg}{xs:Array Operand}{ts:Array TypeId}{eu:TypeId}(hs:SR κ nt fr H a w)(hts:ts.toList=[t,u])(hxs:xs.toList=[y,z])(h1:Yj P t=some (e,ti))(hu:P.underlying u=some (.slice eu))(hz0:ti.zero=some z0)(hzs:z0.cells.size=ti.size)(hby:0<ti.bytes)(hy:cArg P t y=some y')(hz:cArg P t z=some z')(h:Qj fr H (.appV ti.size ti.bytes e y' z')=some (x,H')):
 Does P (do pure (.value (<-Builtin.append_ ts ty (xs.map a.eval)))) w κ H' x:=by
 have e1:ts=#[t,u]:=by cases ts;simp at hts;subst hts;rfl
 have e2:xs=#[y,z]:=by cases xs;simp at hxs;subst hxs;rfl
 subst e1;subst e2;obtain⟨ht,hi⟩:=Qca h1;simp only[Qj]at h;split at h
 .rename_i r new hnew;have hv:=Ql hy hs;have hx:=Ql hz hs;have hd:∃zz,DR κ.σ (a.eval z) (.sl zz ti.size (r::new)):=by
   unfold slOf at hnew;split at hnew
   .rename_i zz s rows e3;split at hnew
    .rename_i hsz;cases hnew;subst hsz;rw[e3]at hx;exact⟨zz,hx.d_inv⟩
    .cases hnew
   .rename_i zz s rows tk e3;split at hnew
    .rename_i hsz;cases hnew;subst hsz;rw[e3]at hx
     generalize a.eval z=v at hx;cases hx with|osl hd _=>exact⟨zz,hd⟩
    .cases hnew
   .cases hnew
  obtain⟨zz,hd⟩:=hd;obtain⟨ad,cap,news,e3,hcap,hnil,hnl,hnc,hnv,hn1,hrow⟩:=hd.cells (λb o q hq=>hs.hr.st b o q hq);obtain⟨q,w',κ',c1,c2,c3,c4⟩:=Qvv (ty:=ty) hs.hr ht ⟨_,hu,λk=>by simp⟩ hi hz0 hzs hby hv (xv:=a.eval z) r new news (by rw[e3];rfl) (λw1 hw1=>by
   rw[e3];cases ad with
   |none=>obtain⟨h0,-,-⟩:=hnil rfl;cases h0
   |some q=>obtain⟨qb,qo,qs⟩:=q;obtain⟨hq1,hq2⟩:=hnc _ rfl;have hq1:=hq1 (by simp);simp only at hq1;subst hq1;exact run_firstCells_some w1 ti.size (new.length+1) ⟨qb,qo,none⟩ (new.length+1) cap news hnl (λj v hv=>by have:=hq2 j v hv;rw[Zt]at this⊢;rw[hw1];exact this)) hnl hrow hnv hn1 h
  exact⟨q,w',κ',.inl (Wg _ _ _ (by simpa using c1)),c2,c3,c4⟩
 .cases h
def pushes(ns:List Int):∀s:ByteArray,(ns.foldl (λr n=>r.push (UInt8.ofNat n.toNat)) s).data.toList=s.data.toList++ns.map λn=>UInt8.ofNat n.toNat:=by
 induction ns with
 |nil=>intro s;simp
 |cons n ns ih=>
  intro s;simp only[Q6e,ih,Q2w];have:(s.push (UInt8.ofNat n.toNat)).data.toList=s.data.toList++[UInt8.ofNat n.toNat]:=by show(s.data.push _).toList=_;simp
  rw[this,Q2g];rfl
def Qne:∀(rows:List (List D))(l:List UInt8),rows.mapM Qpc=some l->∃ns:List Int,rows=ns.map (λn=>[.int .u8 n])/\l=ns.map λn=>UInt8.ofNat n.toNat
 |[],l,h=>by simp at h;subst h;exact⟨[],rfl,rfl⟩
 |r::rows,l,h=>by
  simp only[Q3k,Q2h,Q2a,Q2q,somI]at h;obtain⟨b,hb,l',hl,rfl⟩:=h;obtain⟨ns,rfl,rfl⟩:=Qne rows l' hl;unfold Qpc at hb;split at hb
  .rename_i n;cases hb
   exact⟨n::ns,rfl,rfl⟩
  .cases hb
open Go.MapKept
def Qss{t:TypeId}(hs:SR κ nt fr H a w)(h:Qj fr H .mkMap=some (x,H')):Does P (do pure (.value (<-Instr.makeMap t none))) w κ H' x:=by simp only[Qj,somI,prdI]at h;obtain⟨rfl,rfl⟩:=h;have hp:=hs.hr.push (.map #[] 0) (.map w.heap.size) (.mp []) rfl rfl ⟨w.heap.size,#[],0,Qk _ _ _,by show(w.heap.push _)[w.heap.size]?=_;simp,rfl,λj x hx=>by simp at hx⟩;exact⟨_,_,_,.inl (Wg _ _ _ rfl),hp.1,hp.2,.map _ _ (Qk _ _ _)⟩
def Qbk{kt:TypeId}{d:TypeDesc}{key k:D}{v:Value}{σ:St}(hd:P.underlying kt=some d)(hp:Qbh P kt=some key)(hk:Qcg key k=true)(hv:DR σ v k):IsKey d v:=by unfold Qbh at hp;rw[hd]at hp;cases d<;>simp only[somI,reduceCtorEq]at hp<;>subst hp<;>cases hv<;>simp_all[Qcg,IsKey]
def ba_eq(s s':ByteArray):s=s'↔s.data.toList=s'.data.toList:=by obtain⟨⟨s⟩⟩:=s;obtain⟨⟨s'⟩⟩:=s';simp
def Quu{key k k':D}{u v:Value}{σ:St}(hk:Qcg key k=true)(hk':Qcg key k'=true)(hu:DR σ u k)(hv:DR σ v k'):u=v↔Qgr k k'=true:=by
 cases hu<;>first|(cases key<;>simp[Qcg]at hk;done)|skip
 all_goals cases hv<;>first|(cases key<;>simp[Qcg]at hk hk';done)|skip
 .simp[Qgr]
 .cases key<;>simp[Qcg]at hk hk'
  subst hk;subst hk';simp[Qgr]
 .simp[Qgr,ba_eq]
def Qhb{d:TypeDesc}{key k:D}{u:Value}(hu:DR κ.σ u k)(hkk:Qcg key k=true)(hiu:IsKey d u)(val:A):∀(l:List MapEntry)(m:List (D×A))(i:Nat),l.length=m.length->(∀e∈m,Qcg key e.1=true)->(∀x∈l,IsKey d x.key)->
 (∀(j:Nat)(x:D×A),m[j]?=some x->∃e,l[j]?=some e/\DR κ.σ e.key x.1/\VR κ e.val x.2)->
 (Qam k m=none/\Instr.findNow d u l i=some none/\Qaf k val m=m++[(k,val)])\/
 ∃j e a',Qam k m=some a'/\Instr.findNow d u l i=some (some (i+j,e.val))/\l[j]?=some e/\e.key=u/\VR κ e.val a'/\Qaf k val m=m.set j (k,val)
 |[],m,i,hl,_,_,_=>by have:m=[]:=Q2b hl.symm;subst this;exact .inl ⟨rfl,rfl,rfl⟩
 |e::l,[],i,hl,_,_,_=>by simp at hl
 |e::l,x::m,i,hl,hm,hi,hr=>by
  obtain⟨e',h1,h2,h3⟩:=hr 0 x rfl;simp only[Q45,somI]at h1;subst h1;obtain⟨r,hr1,hr2⟩:=sameNow_of_keys hiu (hi e (by simp));have hiff:=Quu (hkk) (hm x (by simp)) hu h2;cases hsk:Qgr k x.1 with
  |true=>have hue:=hiff.2 hsk;have:r=true:=hr2.2 hue;subst this;exact .inr ⟨0,e,x.2,by simp[Qam,hsk],by simp[Instr.findNow,hr1],rfl,hue.symm,h3,by simp[Qaf,hsk]⟩
  |false=>
   have hr0:r=false:=by
    cases r with
    |false=>rfl
    |true=>have:=hiff.1 (hr2.1 rfl);rw[hsk]at this;cases this
   subst hr0;rcases Qhb hu hkk hiu val l m (i+1) (by simpa using hl) (λe he=>hm e (by simp[he])) (λy hy=>hi y (by simp[hy])) (λj y hy=>by have:=hr (j+1) y (by simpa using hy);simpa using this)with⟨q1,q2,q3⟩|⟨j,e2,a',q1,q2,q3,q4,q5,q6⟩
   .exact .inl ⟨by simp[Qam,hsk,q1],by simp[Instr.findNow,hr1,q2],by simp[Qaf,hsk,q3]⟩
   .exact .inr ⟨j+1,e2,a',by simp[Qam,hsk,q1],by simp[Instr.findNow,hr1,q2];omega,by simpa using q3,q4,q5,by simp[Qaf,hsk,q6]⟩
def Qv1{et:TypeId}{z:List D}(hz:Y0 P et=some z)(w:World):∃v,(zeroValue et).run P w=.ok v w/\VR κ v (zA (zAgg P et) z):=by
 obtain⟨ti,zv,z1,z2,z3,z4⟩:=Qbc hz;refine⟨zv,by simp[zeroValue,typeInfo,z1,z2],?_⟩;unfold zA zAgg;rw[z1];simp only[Option.bind_some,z2];cases zv with
 |agg cs=>
  simp only[if_true];have:=VR.agg (κ:=κ) cs.toList (z.map .d) (by simpa[Value.cells]using z3) (λi v a hv ha=>by simp only[Q2d,Q13]at ha;obtain⟨d,hd,rfl⟩:=ha;exact .d (z4 _ i v d (by simpa[Value.cells]using hv) hd));simpa using this
 |_=>
  simp only[Q2c,if_false];cases z with
  |nil=>simp[Value.cells]at z3
  |cons d r=>exact .d (z4 _ 0 _ d (by simp[Value.cells]) rfl)
def Qxr{t kt et:TypeId}{key:D}{z:List D}{ok:Bool}{y k:Operand}{y' k':Arg}(hs:SR κ nt fr H a w)(ht:P.underlying t=some (.map kt et))(hk:Qbh P kt=some key)(hz:Y0 P et=some z)(hy:cArg P t y=some y')(hkk:cArg P kt k=some k')(h:Qj fr H (.lkp ok key (zAgg P et) z y' k')=some (x,H')):
 Does P (do pure (.value (<-Instr.lookup t (a.eval y) (a.eval k) ok))) w κ H' x:=by
 have hv:=Ql hy hs;have hkv:=Ql hkk hs;obtain⟨d,hd⟩:∃d,P.underlying kt=some d:=by
  cases e:P.underlying kt with
  |none=>simp[Qbh,e]at hk
  |some d=>exact⟨d,rfl⟩
 obtain⟨zv,hzv,hzr⟩:=Qv1 (κ:=κ) hz w;have fin0:∀(es:Array MapEntry),((a.eval y=.map none/\es=#[])\/∃r clock,a.eval y=.map (some r)/\w.heap[r]?=some (.map es clock))->∀kd,DR κ.σ (a.eval k) kd->Qcg key kd=true->Instr.findNow d (a.eval k) es.toList 0=some none->∀xx,xx=(if ok then A.tup [zA (zAgg P et) z,.d (.bool false)]else zA (zAgg P et) z)->
  Does P (do pure (.value (<-Instr.lookup t (a.eval y) (a.eval k) ok))) w κ H xx:=by
  rintro es hes kd hdr hko hfn xx rfl;have hik:=Qbk hd hk hko hdr;refine .same (u:=if ok then .tuple #[zv,.bool false]else zv) (Wg _ _ _ ?_) hs.hr ?_
  .rcases hes with⟨e1,rfl⟩|⟨r,clock,e1,e2⟩
   .rw[e1];simp[Instr.lookup,run_underlying ht,run_checkKey hd hik,run_findKey hd hfn,hzv]
   .rw[e1];simp[Instr.lookup,run_underlying ht,MapKept.run_getObj_map e2,run_checkKey hd hik,run_findKey hd hfn,hzv]
  .cases ok with
   |false=>simpa using hzr
   |true=>
    simp only[if_true];exact .tup [zv,.bool false] _ rfl (λi v a hv ha=>by
     match i with
     |0=>simp at hv ha;subst hv;subst ha;exact hzr
     |1=>simp at hv ha;subst hv;subst ha;exact .d (.bool _)
     |i+2=>simp at hv)
 simp only[Qj]at h;split at h
 .rename_i kd i e1 e2;rw[e2]at hv;rw[e1]at hkv;split at h
  .rename_i l hH;split at h
   .rename_i hok;simp only[mpOk,Q2t,Q2n]at hok;obtain⟨hko,hall⟩:=hok;obtain⟨b,es,clock,hβ,hheap,hlen,hes⟩:=hs.hr.ob i _ hH;generalize hev:a.eval y=vy at hv;cases hv with
    |map _ b' hb=>
    obtain rfl:b'=b:=by rw[hb]at hβ;cases hβ;rfl
    have hik:=Qbk hd hk hko hkv.d_inv;have hrel:∀(j:Nat)(x:D×A),l[j]?=some x->∃e,es.toList[j]?=some e/\DR κ.σ e.key x.1/\VR κ e.val x.2:=λj x hx=>by obtain⟨e,h1,h2,h3⟩:=hes j x hx;exact⟨e,by simpa using h1,h2,h3⟩
    have hisk:∀e∈es.toList,IsKey d e.key:=λe he=>by
     obtain⟨j,hj,rfl⟩:=Q3h he;have hj':j<l.length:=by rw[<-hlen];simpa using hj
     obtain⟨e',h1,h2,-⟩:=hrel j l[j] (Q12 hj');rw[Q12 hj]at h1;cases h1;exact Qbk hd hk (hall _ (Q20 hj')) h2
    rcases Qhb hkv.d_inv hko hik (.undef) es.toList l 0 (by simpa using hlen) (λe he=>hall e he) hisk hrel with⟨q1,q2,-⟩|⟨j,e,a',q1,q2,q3,q4,q5,-⟩
    .rw[q1]at h;cases h
     rw[<-hev];exact fin0 es (.inr ⟨b',clock,hev,hheap⟩) kd hkv.d_inv hko q2 _ rfl
    .rw[q1]at h;cases h
     rw[<-hev];refine .same (u:=if ok then .tuple #[e.val,.bool true]else e.val) (Wg _ _ _ ?_) hs.hr ?_
     .rw[hev];simp[Instr.lookup,run_underlying ht,MapKept.run_getObj_map hheap,run_checkKey hd hik,run_findKey hd q2]
     .cases ok with
      |false=>simpa using q5
      |true=>
       simp only[if_true];exact .tup [e.val,.bool true] _ rfl (λi v a hv ha=>by
        match i with
        |0=>simp at hv ha;subst hv;subst ha;exact q5
        |1=>simp at hv ha;subst hv;subst ha;exact .d (.bool _)
        |i+2=>simp at hv)
   .cases h
  .cases h
 .rename_i kd e1 e2;rw[e2]at hv;rw[e1]at hkv;split at h
  .rename_i hko;cases h
   have hev:a.eval y=.map none:=by generalize a.eval y=vy at hv;cases hv with|d h=>cases h;rfl
   exact fin0 #[] (.inl ⟨hev,rfl⟩) kd hkv.d_inv hko rfl _ rfl
  .cases h
 .cases h
def Qse{t kt et:TypeId}{key kd:D}{i:Nat}{l:List (D×A)}{vm vk vv:Value}{va:A}(hr:HR κ H w)(ht:P.underlying t=some (.map kt et))(hk:Qbh P kt=some key)(hm:VR κ vm (.map i))(hkv:DR κ.σ vk kd)(hvv:VR κ vv va)(hH:H[i]?=some (.mp l))(hok:mpOk key kd l=true)(hf:va.flat=true):∃w',(Instr.mapUpdate t vm vk vv).run P w=.ok () w'/\HR κ (H.set i (.mp (Qaf kd va l))) w':=by
 obtain⟨d,hd⟩:∃d,P.underlying kt=some d:=by
  cases e:P.underlying kt with
  |none=>simp[Qbh,e]at hk
  |some d=>exact⟨d,rfl⟩
 simp only[mpOk,Q2t,Q2n]at hok;obtain⟨hko,hall⟩:=hok;have hil:i<H.length:=(Q11.1 hH).1;obtain⟨b,es,clock,hβ,hheap,hlen,hes⟩:=hr.ob i _ hH;cases hm with
 |map _ b' hb=>
 obtain rfl:b'=b:=by rw[hb]at hβ;cases hβ;rfl
 have hik:=Qbk hd hk hko hkv;have hrel:∀(j:Nat)(x:D×A),l[j]?=some x->∃e,es.toList[j]?=some e/\DR κ.σ e.key x.1/\VR κ e.val x.2:=λj x hx=>by obtain⟨e,h1,h2,h3⟩:=hes j x hx;exact⟨e,by simpa using h1,h2,h3⟩
 have hisk:∀e∈es.toList,IsKey d e.key:=λe he=>by
  obtain⟨j,hj,rfl⟩:=Q3h he;have hj':j<l.length:=by rw[<-hlen];simpa using hj
  obtain⟨e',h1,h2,-⟩:=hrel j l[j] (Q12 hj');rw[Q12 hj]at h1;cases h1;exact Qbk hd hk (hall _ (Q20 hj')) h2
 have hfl:=hr.fl i _ hH;have put:∀(es':Array MapEntry)(c':Nat),es'.size=(Qaf kd va l).length->(∀(j:Nat)(x:D×A),(Qaf kd va l)[j]?=some x->∃e,es'[j]?=some e/\DR κ.σ e.key x.1/\VR κ e.val x.2)->(Qaf kd va l).all (λe=>e.2.flat)=true->
  HR κ (H.set i (.mp (Qaf kd va l))) {w with heap:=w.heap.setIfInBounds b' (.map es' c')}:=λes' c' hl hrl hff=>by
  have hlt:b'<w.heap.size:=(Q24.1 hheap).1;have hne:∀k,k≠b'->(w.heap.setIfInBounds b' (.map es' c'))[k]?=w.heap[k]?:=(heap_set hheap).2;have hbx:=hr.ex i b' (by rw[hb];rfl);have hrep:=hr.replace i (κ.β i) (.mp (Qaf kd va l)) (w':={w with heap:=w.heap.setIfInBounds b' (.map es' c')}) hil (Bind.le_refl _) hff (by simp) ⟨hr.below.os,hr.below.tape,hr.below.output,by simpa using hr.below.size,λk hk=>(hne k (by omega)).trans (hr.below.block k hk)⟩
   (λk _ hk=>hne k (λe=>hk (by rw[hb,e];rfl))) (λb2 o hb2=>by rw[hb]at hb2⊢;cases hb2;exact rfl) (λb2 hb2=>.inl hb2) ⟨b',es',c',by show upd κ.β i _ i=_;rw[Qk];exact hb,(heap_set hheap).1,hl,λj x hx=>by
    have hsame:(upd κ.β i (κ.β i))=κ.β:=by
     funext j;by_cases hj:j=i
     .subst hj;rw[Qk]
     .rw[Qu _ _ hj]
    rw[hsame];exact hrl j x hx⟩
  have hsame:(upd κ.β i (κ.β i))=κ.β:=by
   funext j;by_cases hj:j=i
   .subst hj;rw[Qk]
   .rw[Qu _ _ hj]
  rw[hsame]at hrep;exact hrep.2
 rcases Qhb hkv hko hik va es.toList l 0 (by simpa using hlen) (λe he=>hall e he) hisk hrel with⟨q1,q2,q3⟩|⟨j,e,a',q1,q2,q3,q4,q5,q6⟩
 .refine⟨_,by simp[Instr.mapUpdate,run_underlying ht,MapKept.run_getObj_map hheap,run_checkKey hd hik,run_findKey hd q2,run_setObj_map _ hheap,Result.andThen];rfl,put _ _ (by rw[q3];simp[hlen]) (λj x hx=>?_) ?_⟩
  .rw[q3]at hx;by_cases hj:j<l.length
   .rw[Q19 hj]at hx;obtain⟨e,h1,h2⟩:=hes j x hx;exact⟨e,by rw[Array.getElem?_push_lt (by omega)];rw[<-h1];exact(Q50 (by omega)).symm,h2⟩
   .rw[Q2j (by omega)]at hx;have hj0:j-l.length=0:=by have:=(Q11.1 hx).1;simp at this;omega
    rw[hj0]at hx;simp at hx;subst hx;have:j=es.size:=by omega
    subst this;exact⟨_,Array.getElem?_push_size,hkv,hvv⟩
  .rw[q3];simp only[Ob.flat]at hfl;simp[List.all_append,hf];simpa using hfl
 .have hj:es[j]?=some e:=by simpa using q3
  refine⟨_,by simp[Instr.mapUpdate,run_underlying ht,MapKept.run_getObj_map hheap,run_checkKey hd hik,run_findKey hd q2,hj,q4,run_keyThatStays hik,run_setObj_map _ hheap,Result.andThen];rfl,put _ _ (by rw[q6];simp[hlen]) (λm x hx=>?_) ?_⟩
  .rw[q6]at hx;by_cases hmj:j=m
   .subst hmj;have hjl:j<l.length:=by rw[<-hlen];exact(Q24.1 hj).1
    rw[Q17 hjl]at hx;cases hx;refine⟨{e with key:=vk,val:=vv},?_,hkv,hvv⟩;simp[Q3w,hj]
   .rw[Q15 hmj]at hx;obtain⟨e',h1,h2⟩:=hes m x hx;exact⟨e',by simp[Q3w,hmj,h1],h2⟩
  .rw[q6];simp only[Ob.flat,Q2n]at hfl⊢;intro y hy;rcases Q3z hy with h1|h1
   .exact hfl y h1
   .subst h1;exact hf
def Qsr{t kt et:TypeId}{key:D}{y k v:Operand}{y' k' v':Arg}(hs:SR κ nt fr H a w)(ht:P.underlying t=some (.map kt et))(hk:Qbh P kt=some key)(hy:cArg P t y=some y')(hkk:cArg P kt k=some k')(hvv:cArg P et v=some v')(h:Qj fr H (.mpUpd key y' k' v')=some (x,H')):
 Does P (do Instr.mapUpdate t (a.eval y) (a.eval k) (a.eval v);pure .skip) w κ H' x:=by
 have hv:=Ql hy hs;have hkv:=Ql hkk hs;have hvr:=Ql hvv hs;simp only[Qj]at h;split at h
 .rename_i i kd e1 e2;rw[e1]at hv;rw[e2]at hkv;split at h
  .rename_i l hH;split at h
   .rename_i hok;cases h
    obtain⟨w',h1,h2⟩:=Qse hs.hr ht hk hv hkv.d_inv hvr hH hok.1 hok.2;exact⟨undef,w',κ,.inr ⟨by simp only[Q27,h1,Q2s,Q3u],rfl⟩,K.le_refl κ,h2,.tup [] [] rfl (by simp)⟩
   .cases h
  .cases h
 .cases h
end
end
section
open Go.RowKit (Below)
def Qlh{P:Program}{κ:K}{nt:NT}{fr:Fr}{H H':Hp}{a:Act}{w:World}{x:A}{tok:List Nat}{o:Oper}{i:I}(hc:compI P tok o=some i)(hs:SR κ nt fr H a w)(h:Qj fr H i=some (x,H')):
 Does P (execOp a.eval o) w κ H' x:=by
 obtain⟨dst,op,ty,pos,aft,g⟩:=o;cases op with
 |move y=>exact Qn3 hs hc h
 |assign y=>exact Qn3 (pos:=pos) (aft:=aft) (g:=g) (dst:=dst) hs hc h
 |pick c y z=>simp only[compI,Q2h,Q2a,Q2q,somI]at hc;obtain⟨c',h1,y',h2,z',h3,rfl⟩:=hc;exact Qvl hs h1 h2 h3 h
 |alloc t=>
  simp only[compI]at hc;split at hc
  .split at hc
   .rename_i _ h1;cases hc
    exact Qq7 hs h1 h
   .cases hc
  .split at hc
   .split at hc
    .rename_i _ h1;split at hc
     .rename_i hj;cases hc
      exact Qq8 hs h1 hj h
     .cases hc
    .cases hc
   .simp only[Q13]at hc;obtain⟨cs,h1,rfl⟩:=hc;exact Qsv hs h1 h
 |box t y=>
  simp only[compI]at hc;split at hc
  .simp only[Q13]at hc;obtain⟨y',h1,rfl⟩:=hc;exact Qxu hs h1 h
  .cases hc
 |load t p=>
  simp only[compI]at hc;split at hc
  .rename_i d i' hd hi;split at hc
   .cases hagg:Z8 d with
    |true=>rw[hagg]at hc;simp only[if_true,Q13]at hc;obtain⟨p',hp,rfl⟩:=hc;exact noS h
    |false=>rw[hagg]at hc;simp only[Q2c,if_false,Q13]at hc;obtain⟨p',hp,rfl⟩:=hc;exact noS h
   .cases hagg:Z8 d with
    |true=>rw[hagg]at hc;simp only[if_true,Q13]at hc;obtain⟨p',hp,rfl⟩:=hc;exact Qn4 hs hd hi hp (by rw[hagg];exact h)
    |false=>rw[hagg]at hc;simp only[Q2c,if_false,Q13]at hc;obtain⟨p',hp,rfl⟩:=hc;exact Qn4 hs hd hi hp (by rw[hagg];exact h)
  .cases hc
 |store t p v=>
  simp only[compI]at hc;split at hc
  .rename_i i' hi;simp only[Q2h,Q2a,Q2q,somI]at hc;obtain⟨p',hp,v',hv,rfl⟩:=hc;exact Qsp hs hi hp hv h
  .cases hc
 |nilCheck y=>simp only[compI,Q13]at hc;obtain⟨y',hy,rfl⟩:=hc;exact Qnd hs rfl hy h
 |binOp op t y z yt=>
  simp only[compI]at hc;split at hc
  .simp only[Q2h,Q2a,Q2q,somI]at hc;obtain⟨y',hy,z',hz,rfl⟩:=hc;exact Qq5 hs hy hz h
  .simp only[Q2h,Q2a,Q2q,somI]at hc;obtain⟨y',hy,z',hz,rfl⟩:=hc;exact Qq5 hs hy hz h
  .rename_i ht;split at hc
   .simp only[Q2h,Q2a,Q2q,somI]at hc;obtain⟨y',hy,z',hz,rfl⟩:=hc;exact Qq6 (neg:=false) rfl hs ht hy hz h
   .simp only[Q2h,Q2a,Q2q,somI]at hc;obtain⟨y',hy,z',hz,rfl⟩:=hc;exact Qq6 (neg:=true) rfl hs ht hy hz h
   .cases hc
  .rename_i e ht;split at hc
   .simp only[Q13]at hc;obtain⟨y',hy,rfl⟩:=hc;exact Qkd (neg:=false) rfl hs ht hy h
   .simp only[Q13]at hc;obtain⟨y',hy,rfl⟩:=hc;exact Qkd (neg:=true) rfl hs ht hy h
   .cases hc
  .rename_i e ht;split at hc
   .simp only[Q13]at hc;obtain⟨y',hy,rfl⟩:=hc;exact Qke (neg:=false) rfl hs ht hy h
   .simp only[Q13]at hc;obtain⟨y',hy,rfl⟩:=hc;exact Qke (neg:=true) rfl hs ht hy h
   .cases hc
  .rename_i fs ht;split at hc
   .rename_i l hl hp hm;split at hc
    .simp only[Q2h,Q2a,Q2q,somI]at hc;obtain⟨y',hy,z',hz,rfl⟩:=hc;exact Qq2 (neg:=false) rfl hs ht hl hp hm hy hz h
    .simp only[Q2h,Q2a,Q2q,somI]at hc;obtain⟨y',hy,z',hz,rfl⟩:=hc;exact Qq2 (neg:=true) rfl hs ht hl hp hm hy hz h
    .cases hc
   .cases hc
  .cases hc
 |unOp op t y=>simp only[compI,Q13]at hc;obtain⟨y',hy,rfl⟩:=hc;exact Qzg hs hy h
 |convert s t y=>
  simp only[compI]at hc;split at hc
  .rename_i k0 k h1 h2;simp only[Q13]at hc;obtain⟨y',hy,rfl⟩:=hc;exact Qxt hs h1 h2 hy h
  .rename_i h1 h2;simp only[Q13]at hc;obtain⟨y',hy,rfl⟩:=hc;exact noS h
  .rename_i e h1 h2;split at hc
   .rename_i he;simp only[Q13]at hc;obtain⟨y',hy,rfl⟩:=hc;exact noS h
   .cases hc
  .cases hc
 |makeFunc fn f1 f2=>simp only[compI,Q2h,Q2a,Q2q,somI]at hc;obtain⟨y1,h1,y2,h2,rfl⟩:=hc;exact Qvm hs h1 h2 h
 |fieldAddr s y f=>
  simp only[compI]at hc;split at hc
  .rename_i fs hfs;split at hc
   .rename_i fd hfd;split at hc
    .rename_i i' hi;split at hc
     .cases hc
     .rename_i hsz;simp only[Q13]at hc;obtain⟨y',hy,rfl⟩:=hc;exact Qsu hs hfs hfd hi hsz hy h
    .cases hc
   .cases hc
  .cases hc
 |field s y f=>
  simp only[compI]at hc;split at hc
  .rename_i fs hfs;split at hc
   .rename_i fd hfd;split at hc
    .rename_i d i' hd hi;cases hagg:Z8 d with
     |true=>rw[hagg]at hc;simp only[if_true,Q13]at hc;obtain⟨p',hp,rfl⟩:=hc;exact Qq1 hs hfs hfd hd hi hp (by rw[hagg];exact h)
     |false=>rw[hagg]at hc;simp only[Q2c,if_false,Q13]at hc;obtain⟨p',hp,rfl⟩:=hc;exact Qq1 hs hfs hfd hd hi hp (by rw[hagg];exact h)
    .cases hc
   .cases hc
  .cases hc
 |indexAddr t y z=>
  simp only[compI]at hc;split at hc
  .rename_i e ti h1;split at hc
   .simp only[Q2h,Q2a,Q2q,somI]at hc;obtain⟨y',hy,z',hz,rfl⟩:=hc;exact noS h
   .simp only[Q2h,Q2a,Q2q,somI]at hc;obtain⟨y',hy,z',hz,rfl⟩:=hc;exact Qst hs h1 hy hz h
  .cases hc
 |index t y z=>
  simp only[compI]at hc;split at hc
  .rename_i ht;simp only[Q2h,Q2a,Q2q,somI]at hc;obtain⟨y',hy,z',hz,rfl⟩:=hc;exact Qvk hs ht hy hz h
  .rename_i n e ht;split at hc
   .rename_i d ti hd hti;split at hc
    .rename_i hb;simp only[Q2t,Q5a,beq_iff_eq]at hb;simp only[Q2h,Q2a,Q2q,somI]at hc;obtain⟨y',hy,z',hz,rfl⟩:=hc;exact noS h
    .cases hc
   .cases hc
  .cases hc
 |slice t y lo hi mx=>
  simp only[compI]at hc;split at hc
  .rename_i ht;simp only[Q2h,Q2a,Q2q,somI]at hc;obtain⟨y',hy,lo',h1,hi',h2,rfl⟩:=hc;exact Qq0 hs ht hy h1 h2 h
  .rename_i e ht;split at hc
   .rename_i ti hti;split at hc
    .split at hc
     .rename_i hi2;simp only[Q2h,Q2a,Q2q,somI]at hc;obtain⟨y',hy,hi',h2,rfl⟩:=hc;exact noS h
     .cases hc
    .simp only[Q2h,Q2a,Q2q,somI]at hc;obtain⟨y',hy,lo',h1,hi',h2,mx',h3,rfl⟩:=hc;exact Qsq hs ht hti hy h1 h2 h3 h
   .cases hc
  .cases hc
 |build t parts=>
  simp only[compI]at hc;split at hc
  .rename_i fs z hfs hz;simp only[Q2h,Q2a,Q2q]at hc;obtain⟨ps,hps,hc⟩:=hc;split at hc
   .rename_i hall;split at hc
    .simp only[somI]at hc;subst hc;simp only[Qj,Q13,prdI]at h;obtain⟨cs,hcs,rfl,rfl⟩:=h;exact(Qmv (x:=.agg cs) hs hfs hz hps hall (by simp only[Qj,hcs,Q3q])).tokd _
    .simp only[somI]at hc;subst hc;exact Qmv hs hfs hz hps hall h
   .cases hc
  .rename_i n e z hfs hz;split at hc
   .rename_i ei hei;simp only[Q2h,Q2a,Q2q,somI]at hc;obtain⟨ps,hps,rfl⟩:=hc;exact Qq3 hs hfs hei hz hps h
   .cases hc
  .cases hc
 |buildSlice t n parts=>
  simp only[compI]at hc;split at hc
  .rename_i e ti h1;split at hc
   .rename_i hb;simp only[Q2t,beq_iff_eq,decide_eq_true_eq]at hb;obtain⟨⟨⟨⟨b1,b2⟩,b3⟩,b4⟩,b5⟩:=hb;simp only[Q2h,Q2a,Q2q]at hc;obtain⟨ps,hps,hc⟩:=hc;split at hc
    .simp only[somI]at hc;subst hc;exact Qo5 hs h1 b1 b2 b3 b4 b5 hps h
    .split at hc
     .simp only[somI]at hc;subst hc;exact Qo6 hs h1 b1 b2 b3 b4 b5 hps h
     .split at hc
      .simp only[somI]at hc;subst hc;exact Qo4 hs h1 b1 b2 b3 b4 b5 hps h
      .simp only[somI]at hc;subst hc;exact Qq4 hs h1 b1 b2 b3 b4 b5 hps h
   .cases hc
  .cases hc
 |makeMap t r=>
  cases r with
  |none=>simp only[compI,somI]at hc;subst hc;exact Qss hs h
  |some r=>simp[compI]at hc
 |lookup t y k ok=>
  simp only[compI]at hc;split at hc
  .rename_i kt et ht;split at hc
   .rename_i kd z hk hz;simp only[Q2h,Q2a,Q2q,somI]at hc;obtain⟨y',hy,k',hkk,rfl⟩:=hc;exact Qxr hs ht hk hz hy hkk h
   .cases hc
  .cases hc
 |mapUpdate t y k v=>
  simp only[compI]at hc;split at hc
  .rename_i kt et ht;split at hc
   .rename_i kd hk;simp only[Q2h,Q2a,Q2q,somI]at hc;obtain⟨y',hy,k',hkk,v',hvv,rfl⟩:=hc;exact Qsr hs ht hk hy hkk hvv h
   .cases hc
  .cases hc
 |makeSlice t l c=>
  simp only[compI]at hc;split at hc
  .rename_i e ti h1;split at hc
   .rename_i z hz;split at hc
    .rename_i hb;simp only[Q2t,beq_iff_eq,decide_eq_true_eq]at hb;obtain⟨⟨⟨b1,b2⟩,b3⟩,b4⟩:=hb;simp only[Q2h,Q2a,Q2q,somI]at hc;obtain⟨l',hl,c',hc',rfl⟩:=hc;exact noS h
    .cases hc
   .cases hc
  .cases hc
 |extract y n=>simp only[compI,Q13]at hc;obtain⟨y',hy,rfl⟩:=hc;exact Qxs hs hy h
 |call c=>
  obtain⟨callee,xs,ts⟩:=c;simp only[compI]at hc;cases callee with
  |builtin b=>
   have hres:∀(s:Sem Value),(∀cs,builtin b ts ty cs (xs.map a.eval)=(do pure (.value (<-s))))->
    Does P (do pure (.value (<-s))) w κ H' x->Does P (execOp a.eval {dst:=dst,op:=.call {callee:=.builtin b,args:=xs,argTypes:=ts},type:=ty,pos:=pos,after:=aft,guard:=g}) w κ H' x:=by
    rintro s hb ⟨u,w',κ',hr,rest⟩;refine⟨u,w',κ',?_,rest⟩;have:(execOp a.eval {dst:=dst,op:=.call {callee:=.builtin b,args:=xs,argTypes:=ts},type:=ty,pos:=pos,after:=aft,guard:=g}).run P w=(do pure (Next.value (<-s)):Sem Next).run P w:=by simp only[execOp,resolve,Q27,Q3u,Q2s,invoke];rw[hb];simp
    rw[this];exact hr
   cases b with
   |len=>
    simp only at hc;split at hc
    .rename_i t y h0 hx;split at hc
     .rename_i ht;simp only[Q13]at hc;obtain⟨y',hy,rfl⟩:=hc;exact hres _ (λ_=>rfl) (Qvn hs ht h0 hx hy h)
     .rename_i e ht;simp only[Q13]at hc;obtain⟨y',hy,rfl⟩:=hc;exact hres _ (λ_=>rfl) (Qvo hs ht h0 hx hy h)
     .cases hc
    .cases hc
   |max=>
    simp only at hc;split at hc
    .rename_i y z hx;simp only[Q2h,Q2a,Q2q,somI]at hc;obtain⟨y',hy,z',hz,rfl⟩:=hc;exact hres (Builtin.max_ ts ty (xs.map a.eval)) (λ_=>rfl) (Qt0 (ts:=ts) (ty:=ty) (isMax:=true) hs hx hy hz h)
    .cases hc
   |min=>
    simp only at hc;split at hc
    .rename_i y z hx;simp only[Q2h,Q2a,Q2q,somI]at hc;obtain⟨y',hy,z',hz,rfl⟩:=hc;exact hres (Builtin.min_ ts ty (xs.map a.eval)) (λ_=>rfl) (Qt0 (ts:=ts) (ty:=ty) (isMax:=false) hs hx hy hz h)
    .cases hc
   |append=>
    simp only at hc;split at hc
    .rename_i t u y z hts hxs;split at hc
     .rename_i e ti h1;split at hc
      .cases hc
      .rename_i hb;simp only[Q35,decide_eq_true_eq,bne_iff_ne,ne_eq,not_or,Decidable.not_not]at hb;obtain⟨⟨b1,b2⟩,b3⟩:=hb;obtain⟨z0,hz0,hzs⟩:∃z0,ti.zero=some z0/\z0.cells.size=ti.size:=by
        cases hzz:ti.zero with
        |none=>rw[hzz]at b3;simp at b3
        |some z0=>rw[hzz]at b3;exact⟨z0,rfl,by simpa using b3⟩
       split at hc
       .rename_i eu hu;split at hc
        .simp only[Q2h,Q2a,Q2q,somI]at hc;obtain⟨y',hy,z',hz,rfl⟩:=hc;exact hres _ (λ_=>rfl) (Qvp hs hts hxs h1 hu hz0 hzs (by omega) hy hz h)
        .simp only[Q2h,Q2a,Q2q,somI]at hc;obtain⟨y',hy,z',hz,rfl⟩:=hc;exact hres _ (λ_=>rfl) (Qxv hs hts hxs h1 hu hz0 hzs (by omega) hy hz h)
       .rename_i hu;split at hc
        .rename_i hb1;simp only[Q2t,beq_iff_eq]at hb1;simp only[Q2h,Q2a,Q2q,somI]at hc;obtain⟨y',hy,z',hz,rfl⟩:=hc;exact hres _ (λ_=>rfl) (noS h)
        .cases hc
       .cases hc
     .cases hc
    .cases hc
   |_=>cases hc
  |value f=>
   cases f with
   |func f=>
    simp only at hc;split at hc
    .split at hc
     all_goals
      simp only[Q13]at hc;obtain⟨ys,-,rfl⟩:=hc;cases h
    .cases hc
   |_=>simp only[Q2h,Q2a,Q2q,somI]at hc;obtain⟨y,-,ys,-,rfl⟩:=hc;cases h
  |invoke r m=>cases hc
 |_=>cases hc
end
section
open Go.RowKit (Below)
inductive C where
 |skip
 |ops (l:List IOp) (draw:Bool)
 |both (a b:C)
 |seq (a b:C)
 |cond (c:Arg) (a b:C)
 |blk (id:Nat) (c:C)
 |loop (c:C)
 |exit (id:Nat)
 |ret
 |bad
 |any (l:List IOp) (w:List (List Nat))
 deriving Inhabited
def Qby(ops:Array Oper):Option (Nat×Bool)->Option (Option (Nat×Bool))
 |none=>some none
 |some (j,want)=>((ops[j]?).bind (·.dst)).map λs=>some (s,want)
def Q9:IOp:={dst:=none,g:=none,i:=.callv (.c .nilf) []}
def V7(P:Program)(nt:Nat)(tok:List Nat)(ops:Array Oper)(o:Oper):IOp:=
 match Qby ops o.guard,compI P tok o with
 |some g,some i=>if(o.dst.map λd=>decide (d<nt)).getD true then{dst:=o.dst,g:=g,i:=i}else Q9
 |_,_=>Q9
def Arg.slots:Arg->List Nat
 |.t s=>[s]
 |.c _=>[]
def Qdb:Option Arg->List Nat
 |some x=>x.slots
 |none=>[]
def I.slots:I->List Nat
 |.mv x|.box _ _ x|.load _ _ x|.nilCheck x|.isNilS _ x|.isNilP _ x|.un _ x|.cvt _ x|.cvtS x|.cvtBS x|.faddr _ x|.fld _ _ _ x|.ext x _|.lenS x|.lenL x=>x.slots
 |.nilT _ _|.nilW _ _|.alloc _ _|.allocT ..|.allocU ..=>[]
 |.pick a b c=>a.slots++b.slots++c.slots
 |.store _ x y|.bin _ x y|.beq _ x y|.eqA _ _ x y|.iaddr _ x y|.sidx x y|.aidx _ x y|.mm _ x y|.app _ _ _ x y|.appS _ x y=>x.slots++y.slots
 |.sslice x l h=>x.slots++Qdb l++Qdb h
 |.slice _ x l h m=>x.slots++Qdb l++Qdb h++Qdb m
 |.build _ ps|.buildT _ _ ps=>ps.flatMap λx=>x.2.2.slots
 |.bslice _ ps|.bsliceT _ _ ps|.bsliceV _ _ ps|.bsliceM _ ps=>ps.flatMap Arg.slots
 |.mkSl _ _ _ x y|.appV _ _ _ x y|.cutV _ x y|.iaddrV _ x y|.lkp _ _ _ _ x y=>x.slots++y.slots
 |.loadV _ _ x=>x.slots
 |.mkMap=>[]
 |.mpUpd _ x k v=>x.slots++k.slots++v.slots
 |.mkfn _ a b=>a.flatMap Arg.slots++b.flatMap Arg.slots
 |.call _ l|.callE _ l=>l.flatMap Arg.slots
 |.callv f l=>f.slots++l.flatMap Arg.slots
def IOp.reads(o:IOp):List Nat:=o.i.slots++(match o.g with|some (s,_)=>[s]|none=>[])
def I.cls:I->Nat
 |.load ..|.iaddr ..|.lkp ..|.iaddrV ..|.loadV ..=>1
 |.nilT ..|.nilW ..|.mkMap|.alloc ..|.allocT ..|.allocU ..|.box ..|.bsliceT ..|.bsliceV ..|.buildT ..|.bsliceM ..|.mkSl ..|.app ..|.appV ..|.appS ..=>2
 |.call ..|.callv ..=>3
 |.store ..|.mpUpd ..|.callE ..=>4
 |_=>0
def I.vread:I->Bool
 |.iaddrV ..|.loadV ..=>true
 |_=>false
def I.vapp:I->Bool
 |.appV ..=>true
 |_=>false
def clash(a b:Nat):Bool:=(a==4&&b != 0)||(b==4&&a != 0)||(a==2&&(b==2||b==3))||(b==2&&a==3)
def tied(a b:IOp):Bool:=clash a.i.cls b.i.cls||(match a.dst with|some d=>b.reads.contains d||b.dst==some d|none=>false)||(match b.dst with|some d=>a.reads.contains d|none=>false)
def Qso(l:List IOp)(ops:Array Oper)(bf:Array Nat):Bool:=
 !((l.any λo=>o.i.vread)&&(l.any λo=>o.i.vapp))&&
 (List.range ops.size).all λj=>
  ((ops.getD j default).after.all λe=> !Region.binds .any e||decide (e.on<j))&&
  (List.range j).all λi=> !tied (l.getD i Q9) (l.getD j Q9)||(bf.getD j 0).testBit i
def waits(o:Oper)(i:Nat):Bool:=o.after.any λe=>Region.binds .any e&&e.on==i
def Qhm(a b:IOp):Bool:=(match a.dst with|some d=>b.reads.contains d||b.dst==some d|none=>false)||(match b.dst with|some d=>a.reads.contains d|none=>false)
def Qgk(l:List IOp)(ops:Array Oper)(listed:Array Bool)(i:Nat):Bool:=(l.getD i Q9).i.cls==0&&(l.getD i Q9).g.isNone&&(List.range ops.size).all λj=>j==i||listed.getD j false||waits (ops.getD j default) i|| !Qhm (l.getD i Q9) (l.getD j Q9)
def alts:List C->C
 |[]=>.skip
 |[c]=>c
 |c::r=>.both c (alts r)
def orders(l:List IOp)(ops:Array Oper):Nat->Nat->Array Bool->C
 |0,_,listed=>if(Region.ready .any ops listed).isEmpty then .skip else .bad
 |n+1,b,listed=>
  let r:=Region.ready .any ops listed
  if r.isEmpty then .skip else
  match r.find? (Qgk l ops listed)with
  |some i=>.seq (.ops [l.getD i Q9] false) (orders l ops n b (listed.setIfInBounds i true))
  |none=>if b<r.length then .bad else alts (r.map λi=>.seq (.ops [l.getD i Q9] false) (orders l ops n (b/r.length) (listed.setIfInBounds i true)))
def Qew(ops:Array Oper):List (List Nat):=ops.toList.map λo=>(o.after.toList.filter (Region.binds .any)).map (·.on)
def Qgz(w:List (List Nat))(S:List Bool):List Nat:=(List.range w.length).filter λi=> !S.getD i true&&(w.getD i []).all λj=>S.getD j false
def Z3(P:Program)(nt:Nat)(tok:List Nat):Code->C
 |.skip=>.skip
 |.region _ ops false=>.ops (ops.toList.map (V7 P nt tok ops)) false
 |.region id ops true=>if Qso (ops.toList.map (V7 P nt tok ops)) ops (Region.before ops)&&P.follows .mixedOrders&& !tok.contains 4000000 then .ops (ops.toList.map (V7 P nt tok ops)) true
  else if P.follows .mixedOrders&&tok.contains (10000000+id)then .any (ops.toList.map (V7 P nt tok ops)) (Qew ops)
  else if P.follows .mixedOrders then orders (ops.toList.map (V7 P nt tok ops)) ops ops.size 120 (Array.replicate ops.size false)else .bad
 |.seq a b=>.seq (Z3 P nt tok a) (Z3 P nt tok b)
 |.cond c a b=>match cArg P 0 c with
  |some c'=>.cond c' (Z3 P nt tok a) (Z3 P nt tok b)
  |none=>.bad
 |.block id c=>.blk id (Z3 P nt tok c)
 |.loop c=>.loop (Z3 P nt tok c)
 |.exit id=>.exit id
 |.ret=>.ret
 |_=>.bad
def Qc(P:Program)(f:FuncId)(args:List A)(H:Hp)(Q:A->Hp->Prop):Prop:=
 ∀(κ:K)(w:World)(vs:List Value),HR κ H w->vs.length=args.length->(∀(i:Nat)(v:Value)(a:A),vs[i]?=some v->args[i]?=some a->VR κ v a)->
  Calls P f vs.toArray w λe w'=>∃v κ' x H',e=.returned v/\κ.le κ'/\HR κ' H' w'/\VR κ' v x/\Q x H'
def Qc.mono{P:Program}{f:FuncId}{args:List A}{H:Hp}{Q Q':A->Hp->Prop}(h:Qc P f args H Q)(hq:∀x H',Q x H'->Q' x H'):Qc P f args H Q':=λκ w vs hr hl hv=>(h κ w vs hr hl hv).mono λ_ _ ⟨v,κ',x,H',h1,h2,h3,h4,h5⟩=>⟨v,κ',x,H',h1,h2,h3,h4,hq x H' h5⟩
def runI(P:Program)(fr:Fr)(H:Hp)(i:I)(K:A->Hp->Prop):Prop:=
 match i with
 |.call f args|.callE f args=>Qc P f (args.map (Arg.ev fr)) H K
 |.callv f args=>match f.ev fr with
  |.d (.fn g)=>Wd P g=true/\Qc P g (args.map (Arg.ev fr)) H K
  |.fn (.func g) first cap=>Wd P g=true/\Qc P g (first++args.map (Arg.ev fr)++cap) H K
  |_=>False
 |i=>match Qj fr H i with
  |some (v,H')=>K v H'
  |none=>False
def AGd(x:A)(fr:Fr)(b:Bool)(T F:Fr->Prop):Prop:=
 match x with
 |.d (.bool c)=>if c=b then T fr else F fr
 |.tup []=>F fr
 |_=>False
def AOps(P:Program):List IOp->(Fr->Hp->Prop)->Fr->Hp->Prop
 |[],K,fr,H=>K fr H
 |o::r,K,fr,H=>
  match o.g with
  |none=>runI P fr H o.i λv H'=>AOps P r K (fr.put o.dst v) H'
  |some (s,b)=>AGd (fr s) fr b (λfr=>runI P fr H o.i λv H'=>AOps P r K (fr.put o.dst v) H') (λfr=>AOps P r K (fr.put o.dst (.tup [])) H)
def runD(P:Program)(fr:Fr)(H:Hp)(i:I)(K:A->Hp->Prop):Prop:=
 match i with
 |.call f args=>∃v,Qc P f (args.map (Arg.ev fr)) H (λv' H'=>v'=v/\H'=H)/\K v H
 |.callE f args=>∃v H1,Qc P f (args.map (Arg.ev fr)) H (λv' H'=>v'=v/\H'=H1)/\K v H1
 |.callv f args=>match f.ev fr with
  |.d (.fn g)=>Wd P g=true/\∃v,Qc P g (args.map (Arg.ev fr)) H (λv' H'=>v'=v/\H'=H)/\K v H
  |.fn (.func g) first cap=>Wd P g=true/\∃v,Qc P g (first++args.map (Arg.ev fr)++cap) H (λv' H'=>v'=v/\H'=H)/\K v H
  |_=>False
 |i=>match Qj fr H i with
  |some (v,H')=>K v H'
  |none=>False
def Vn(P:Program):List IOp->(Fr->Hp->Prop)->Fr->Hp->Prop
 |[],K,fr,H=>K fr H
 |o::r,K,fr,H=>
  match o.g with
  |none=>runD P fr H o.i λv H'=>Vn P r K (fr.put o.dst v) H'
  |some (s,b)=>AGd (fr s) fr b (λfr=>runD P fr H o.i λv H'=>Vn P r K (fr.put o.dst v) H') (λfr=>Vn P r K (fr.put o.dst (.tup [])) H)
inductive Ex where
 |normal
 |exit (id:Nat)
 |ret
def Ex.then(K:Fr->Hp->Prop)(Q:Ex->Fr->Hp->Prop):Ex->Fr->Hp->Prop
 |.normal,fr,H=>K fr H
 |e,fr,H=>Q e fr H
def Ex.blk(id:Nat)(Q:Ex->Fr->Hp->Prop):Ex->Fr->Hp->Prop
 |.exit i,fr,H=>if i=id then Q .normal fr H else Q (.exit i) fr H
 |e,fr,H=>Q e fr H
def ABr(x:A)(T F:Prop):Prop:=
 match x with
 |.d (.bool c)=>if c=true then T else F
 |_=>False
def Again(m:Nat)(J:Fr->Hp->Prop)(μ:Fr->Hp->Nat)(n:Nat)(fr:Fr)(H:Hp):Prop:=∃k,m<=k/\k<=H.length/\J (fr.clr k) (Hp.cut k H)/\μ (fr.clr k) (Hp.cut k H)<n
def AWp(P:Program)(n0:Nat):C->(Ex->Fr->Hp->Prop)->Fr->Hp->Prop
 |.skip,Q,fr,H=>Q .normal fr H
 |.ops l false,Q,fr,H=>AOps P l (Q .normal) fr H
 |.ops l true,Q,fr,H=>Vn P l (Q .normal) fr H
 |.both a b,Q,fr,H=>AWp P n0 a Q fr H/\AWp P n0 b Q fr H
 |.seq a b,Q,fr,H=>AWp P n0 a (Ex.then (AWp P n0 b Q) Q) fr H
 |.cond c a b,Q,fr,H=>ABr (c.ev fr) (AWp P n0 a Q fr H) (AWp P n0 b Q fr H)
 |.blk id c,Q,fr,H=>AWp P n0 c (Ex.blk id Q) fr H
 |.loop c,Q,fr,H=>∃(m:Nat)(J:Fr->Hp->Prop)(μ:Fr->Hp->Nat),n0<=m/\m<=H.length/\J (fr.clr m) (Hp.cut m H)/\
  ∀fr H,J fr H->AWp P n0 c (Ex.then (Again m J μ (μ fr H)) Q) fr H
 |.exit id,Q,fr,H=>Q (.exit id) fr H
 |.ret,Q,fr,H=>Q .ret fr H
 |.bad,_,_,_=>False
 |.any l w,Q,fr,H=>∃Inv:List Bool->Fr->Hp->Prop,Inv (List.replicate w.length false) fr H/\
  ∀(S:List Bool)(fr:Fr)(H:Hp),S.length=w.length->Inv S fr H->(Qgz w S=[]->Q .normal fr H)/\∀i∈Qgz w S,AOps P [l.getD i Q9] (Inv (S.set i true)) fr H
def ExR:Exit->Ex->Prop
 |.normal,.normal=>True
 |.exit i,.exit j=>i=j
 |.ret,.ret=>True
 |_,_=>False
def Post(κ0:K)(nt:NT)(Q:Ex->Fr->Hp->Prop):Exit->Act->World->Prop:=λe a w=>∃κ fr H e',ExR e e'/\κ0.le κ/\SR κ nt fr H a w/\Q e' fr H
def Qli{P:Program}{fr:Fr}{H:Hp}{i:I}{K:A->Hp->Prop}(h:runI P fr H i K):(∃f l,i=.call f l\/i=.callE f l)\/(∃f l,i=.callv f l)\/∃v H',Qj fr H i=some (v,H')/\K v H':=by
 cases i with
 |call f l=>exact .inl ⟨f,l,.inl rfl⟩
 |callE f l=>exact .inl ⟨f,l,.inr rfl⟩
 |callv f l=>exact .inr (.inl ⟨f,l,rfl⟩)
 |_=>
  refine .inr (.inr ?_);simp only[runI]at h;split at h
  .rename_i v H' e;exact⟨v,H',e,h⟩
  .exact h.elim
def Qbr{P:Program}{f:FuncId}(h:Wd P f=true)(args:Array Value)(w:World):(callFunc f args).run P w=.ok (.enter f args) w:=by
 unfold Wd at h;split at h
 .rename_i fn hf;simp only[Q2t,Q5a]at h;obtain⟨h1,h2⟩:=h;have h1':fn.body.isNone=false:=by cases hb:fn.body<;>simp_all
  simp only[callFunc,Q27,run_program,Q2s,hf,h2,h1',Q2c,if_false,Q3u]
 .cases h
def Qf0{P:Program}{ts:Array TypeId}{xs:Array Operand}{ys:List Arg}(h:Qkg P ts xs=some ys){κ:K}{nt:NT}{fr:Fr}{H:Hp}{a:Act}{w:World}(hs:SR κ nt fr H a w):
 (xs.map a.eval).toList.length=ys.length/\∀(i:Nat)(v:Value)(b:A),(xs.map a.eval).toList[i]?=some v->(ys.map (Arg.ev fr))[i]?=some b->VR κ v b:=by
 unfold Qkg at h;split at h
 .rename_i hsz;obtain⟨h1,h2⟩:=Qs4 hs _ _ h;have hl:(xs.toList.zip ts.toList).length=xs.size:=by simp;omega
  have hm:(xs.toList.zip ts.toList).map (λx=>a.eval x.1)=(xs.map a.eval).toList:=by rw[Array.toList_map,<-List.map_fst_zip (l₁:=xs.toList) (l₂:=ts.toList) (by simp;omega),Q5c];simp only[Q55];rw[List.map_fst_zip (by simp;omega)]
  rw[hm]at h2;exact⟨by rw[<-h1,hl];simp,h2⟩
 .cases h
def Qmy{P:Program}{tok:List Nat}{o:Oper}{f:FuncId}{l:List Arg}(hc:compI P tok o=some (.call f l)\/compI P tok o=some (.callE f l)):
 ∃xs ts,o.op=.call {callee:=.value (.func f),args:=xs,argTypes:=ts}/\Wd P f=true/\Qkg P ts xs=some l:=by
 obtain⟨dst,op,ty,pos,aft,g⟩:=o;cases op with
 |call c=>
  obtain⟨callee,xs,ts⟩:=c;simp only[compI]at hc;cases callee with
  |builtin b=>cases b<;>simp only at hc<;>(try (repeat' split at hc))<;>simp[Q2a]at hc
  |value x=>
   cases x with
   |func f'=>
    simp only at hc;split at hc
    .rename_i hok;have:∃ys,Qkg P ts xs=some ys/\f'=f/\ys=l:=by
      split at hc
      .simpa[Q13]using hc
      .simpa[Q13]using hc
     obtain⟨ys,hys,rfl,rfl⟩:=this;exact⟨xs,ts,rfl,hok,hys⟩
    .simp at hc
   |_=>simp[Q2a]at hc
  |invoke r m=>simp at hc
 |_=>simp only[compI]at hc<;>(try (repeat' split at hc))<;>simp[Q2a]at hc
def Qrc{P:Program}{tok:List Nat}{o:Oper}{f:Arg}{l:List Arg}(hc:compI P tok o=some (.callv f l)):
 ∃x xs ts,o.op=.call {callee:=.value x,args:=xs,argTypes:=ts}/\cArg P 0 x=some f/\Qkg P ts xs=some l:=by
 obtain⟨dst,op,ty,pos,aft,g⟩:=o;cases op with
 |call c=>
  obtain⟨callee,xs,ts⟩:=c;simp only[compI]at hc;cases callee with
  |builtin b=>cases b<;>simp only at hc<;>(try (repeat' split at hc))<;>simp[Q2a]at hc
  |value x=>
   cases x with
   |func f'=>
    simp only at hc;split at hc
    .split at hc<;>simp at hc
    .cases hc
   |_=>simp only[Q2h,Q2a,Q2q,somI,I.callv.injEq]at hc;obtain⟨y,hy,ys,hys,rfl,rfl⟩:=hc;exact⟨_,xs,ts,rfl,hy,hys⟩
  |invoke r m=>cases hc
 |_=>simp only[compI]at hc<;>(try (repeat' split at hc))<;>simp[Q2a]at hc
def Qqq{α:Type}(a b c:List α)(i:Nat):(a++b++c)[i]?=if i<a.length then a[i]? else if i<a.length+b.length then b[i-a.length]? else c[i-a.length-b.length]?:=by
 by_cases h1:i<a.length
 .rw[if_pos h1,Q2g,Q19 h1]
 .rw[if_neg h1];by_cases h2:i<a.length+b.length
  .rw[if_pos h2,Q2g,Q2j (by omega),Q19 (by omega)]
  .rw[if_neg h2,Q2j (by simp;omega)]
   congr 1;simp;omega
def Qos(f:Operand->Value)(xs:Array Operand):xs.map f=(xs.toList.map f).toArray:=by rw[<-Q6w,Q5n]
def Zv(P:Program)(fr:Fr)(i:I)(R:FuncId->List A->Prop):Prop:=
 match i with
 |.call f args|.callE f args=>R f (args.map (Arg.ev fr))
 |.callv f args=>match f.ev fr with
  |.d (.fn g)=>Wd P g=true/\R g (args.map (Arg.ev fr))
  |.fn (.func g) first cap=>Wd P g=true/\R g (first++args.map (Arg.ev fr)++cap)
  |_=>False
 |_=>False
def Qem{P:Program}{κ:K}{nt:NT}{fr:Fr}{H:Hp}{a:Act}{w:World}{tok:List Nat}{o:Oper}{i:I}{R:FuncId->List A->Prop}(hc:compI P tok o=some i)(hs:SR κ nt fr H a w)(h:Zv P fr i R):
 ∃(f:FuncId)(vs:List Value)(ars:List A),(execOp a.eval o).run P w=.ok (.enter f vs.toArray) w/\vs.length=ars.length/\(∀(i:Nat)(v:Value)(b:A),vs[i]?=some v->ars[i]?=some b->VR κ v b)/\R f ars:=by
 cases i with
 |call f l=>obtain⟨xs,ts,hop,hok,hargs⟩:=Qmy (.inl hc);obtain⟨dst,op,ty,pos,aft,g⟩:=o;simp only at hop;subst hop;obtain⟨h1,h2⟩:=Qf0 hargs hs;refine⟨f,(xs.map a.eval).toList,_,?_,by rw[h1];simp,h2,h⟩;simp only[execOp,resolve,Act.eval,Deferred.ofValue,Q27,Q3u,Q2s,invoke];rw[Qbr hok];simp[Qos]
 |callE f l=>obtain⟨xs,ts,hop,hok,hargs⟩:=Qmy (.inr hc);obtain⟨dst,op,ty,pos,aft,g⟩:=o;simp only at hop;subst hop;obtain⟨h1,h2⟩:=Qf0 hargs hs;refine⟨f,(xs.map a.eval).toList,_,?_,by rw[h1];simp,h2,h⟩;simp only[execOp,resolve,Act.eval,Deferred.ofValue,Q27,Q3u,Q2s,invoke];rw[Qbr hok];simp[Qos]
 |callv f l=>
  obtain⟨x,xs,ts,hop,hx,hargs⟩:=Qrc hc;obtain⟨dst,op,ty,pos,aft,g⟩:=o;simp only at hop;subst hop;obtain⟨h1,h2⟩:=Qf0 hargs hs;have hv:=Ql hx hs;simp only[Zv]at h;split at h
  .rename_i g e;rw[e]at hv;refine⟨g,(xs.map a.eval).toList,_,?_,by rw[h1];simp,h2,h.2⟩;simp only[execOp,resolve,hv.fn_inv,Deferred.ofValue,Q27,Q3u,Q2s,invoke];rw[Qbr h.1];simp[Qos]
  .rename_i g first cap e;rw[e]at hv;generalize hev:a.eval x=v at hv;cases hv with
   |fn _ vs1 vs2 _ _ hl1 hl2 p1 p2=>
    refine⟨g,vs1++(xs.map a.eval).toList++vs2,_,?_,by simp only[Q2l,hl1,hl2,h1,Q2y],λi u b hu hb=>?_,h.2⟩
    .simp only[execOp,resolve,hev,Deferred.ofValue,Q27,Q3u,Q2s,invoke];rw[Qbr h.1];simp
    .rw[Qqq]at hu hb;rw[Q2y,<-h1,<-hl1]at hb;split at hu
     .rename_i hi;rw[if_pos hi]at hb;exact p1 i u b hu hb
     .rename_i hi;rw[if_neg hi]at hb;split at hu
      .rename_i hi2;rw[if_pos hi2]at hb;exact h2 _ u b hu hb
      .rename_i hi2;rw[if_neg hi2]at hb;exact p2 _ u b hu hb
  .exact h.elim
 |_=>exact h.elim
def Ql1{P:Program}{κ0 κ:K}{nt:NT}{fr:Fr}{H:Hp}{a:Act}{w:World}{tok:List Nat}{o:Oper}{i:I}{K:A->Hp->Prop}{next:Act->World->Prop}{Q:Exit->Act->World->Prop}(hc:compI P tok o=some i)(hd:∀x,o.dst=some x->x<nt)(h0:κ0.le κ)(hs:SR κ nt fr H a w)(h:runI P fr H i K)(hn:∀κ' v H' u w',κ0.le κ'->SR κ' nt (fr.put o.dst v) H' (a.put o.dst u) w'->K v H'->next (a.put o.dst u) w'):o.wp P a w next Q:=by
 unfold Oper.wp;have call:Zv P fr i (λf ars=>Qc P f ars H K)->o.upon P a next Q ((execOp a.eval o).run P w):=by intro he;obtain⟨f,vs,ars,hrun,hl,hv,hcall⟩:=Qem hc hs he;rw[hrun,Oper.upon_enter];refine(hcall κ w vs hs.hr hl hv).mono ?_;rintro e w' ⟨v,κ',x,H',rfl,h1,h2,h3,h4⟩;exact hn κ' x H' v w' (h0.trans h1) (hs.put h1 h2 hd h3) h4
 rcases Qli h with⟨f,l,rfl|rfl⟩|⟨f,l,rfl⟩|⟨v,H',hst,hk⟩
 .exact call h
 .exact call h
 .exact call h
 .obtain⟨u,w',κ',hr,h1,h2,h3⟩:=Qlh hc hs hst;rcases hr with hr|⟨hr,rfl⟩
  .rw[hr,Oper.upon_value];exact hn κ' v H' u w' (h0.trans h1) (hs.put h1 h2 hd h3) hk
  .rw[hr,Oper.upon_skip];exact hn κ' v H' undef w' (h0.trans h1) (hs.put h1 h2 hd h3) hk
def Qeo{P:Program}{nt:Nat}{tok:List Nat}{ops:Array Oper}{o:Oper}:V7 P nt tok ops o=Q9\/
 ∃g i,Qby ops o.guard=some g/\compI P tok o=some i/\(∀x,o.dst=some x->x<nt)/\V7 P nt tok ops o={dst:=o.dst,g:=g,i:=i}:=by
 unfold V7;split
 .rename_i g i hg hi;split
  .rename_i hd;exact .inr ⟨g,i,hg,hi,λx hx=>by rw[hx]at hd;simpa using hd,rfl⟩
  .exact .inl rfl
 .exact .inl rfl
def Qlf(t:Array Value)(s:Nat)(b:Bool):Bool:=match t[s]? with|some (.bool c)=>c==b|_=>false
def Qcn{ops:Array Oper}{o:Oper}{s:Nat}{b:Bool}(hg:Qby ops o.guard=some (some (s,b)))(tmps:Array Value):
 Region.wanted o (yielded ops tmps)=Qlf tmps s b:=by
 unfold Qlf;unfold Qby at hg;split at hg
 .cases hg
 .rename_i j want e;simp only[Q13,somI,prdI]at hg;obtain⟨s',hs',rfl,rfl⟩:=hg;simp only[Region.wanted,e,yielded,hs',Option.bind_some];cases ht:tmps[s']? with
  |none=>rfl
  |some v=>cases v<;>rfl
def Qbd{ops:Array Oper}{o:Oper}(hg:Qby ops o.guard=some none)(y:Nat->Option Bool):Region.wanted o y=true:=by
 unfold Qby at hg;split at hg
 .rename_i e;simp[Region.wanted,e]
 .simp only[Q13]at hg;obtain⟨_,_,h⟩:=hg;cases h
def Qcx{κ:K}{nt:NT}{fr:Fr}{H:Hp}{a:Act}{w:World}(hs:SR κ nt fr H a w){s:Nat}{b:Bool}{T F:Fr->Prop}(h:AGd (fr s) fr b T F):
 (Qlf a.tmps s b=true/\T fr)\/(Qlf a.tmps s b=false/\F fr):=by
 unfold Qlf;have hv:=hs.vr s;unfold AGd at h;split at h
 .rename_i c e;rw[e]at hv;have hget:a.tmps[s]?=some (.bool c):=by
   have:=hv.bool_inv;rw[Q23]at this;cases ht:a.tmps[s]? with
   |none=>rw[ht]at this;cases this
   |some v=>rw[ht]at this;simpa using this
  rw[hget];split at h
  .rename_i hcb;exact .inl ⟨by simpa using hcb,h⟩
  .rename_i hcb;exact .inr ⟨by simpa using hcb,h⟩
 .rename_i e;rw[e]at hv;refine .inr ⟨?_,h⟩;generalize hx:a.tmps.getD s undef=v at hv;cases hv with
  |tup vs _ hl _=>
   have:vs=[]:=Q2b (by simpa using hl);subst this;rw[Q23]at hx;cases ht:a.tmps[s]? with
   |none=>rfl
   |some u=>rw[ht]at hx;simp at hx;subst hx;rfl
 .exact h.elim
def Qu5{P:Program}{κ0:K}{nt:NT}{tok:List Nat}{ops:Array Oper}{K:Fr->Hp->Prop}{Q:Exit->Act->World->Prop}(hK:∀κ fr H a w,κ0.le κ->SR κ nt fr H a w->K fr H->Q .normal a w):
 ∀(l:List Oper)(κ:Zam.K)(fr:Fr)(H:Hp)(a:Act)(w:World),κ0.le κ->SR κ nt fr H a w->AOps P (l.map (V7 P nt tok ops)) K fr H->wpList P ops Q l a w:=by
 intro l;induction l with
 |nil=>intro κ fr H a w h0 hs h;exact hK κ fr H a w h0 hs h
 |cons o l ih=>
  intro κ fr H a w h0 hs h;simp only[Q2w,AOps]at h;rcases Qeo (P:=P) (nt:=nt) (tok:=tok) (ops:=ops) (o:=o)with hb|⟨g,i,hg,hi,hd,hcomp⟩
  .rw[hb]at h;simp[Q9,runI,Arg.ev]at h
  .rw[hcomp]at h;simp only at h;have step:∀fr,SR κ nt fr H a w->runI P fr H i (λv H'=>AOps P (l.map (V7 P nt tok ops)) K (fr.put o.dst v) H')->o.wp P a w (wpList P ops Q l) Q:=λfr hs h=>Ql1 hi hd h0 hs h (λκ' v H' u w' h0' hs' hk=>ih κ' _ _ _ _ h0' hs' hk)
   cases g with
   |none=>simp only at h;unfold wpList;rw[if_pos (Qbd hg _)];exact .inl (step fr hs h)
   |some sb=>
    obtain⟨s,b⟩:=sb;simp only at h;unfold wpList;rw[Qcn hg];rcases Qcx hs h with⟨h1,h2⟩|⟨h1,h2⟩
    .rw[h1];simp only[if_true];exact .inl (step fr hs h2)
    .rw[h1];simp only[Q2c,if_false];exact ih κ _ _ _ _ h0 (hs.put (Zam.K.le_refl κ) hs.hr hd (.tup [] [] rfl (by simp))) h2
end
section
open Go.RowKit (Below)
def Qod(P:Program)(fr:Fr)(H:Hp)(i:I)(v:A)(H':Hp):Prop:=(Zv P fr i (λf ars=>Qc P f ars H (λv' H''=>v'=v/\H''=H'))/\(i.cls=4\/H'=H))\/(i.cls≠3/\Qj fr H i=some (v,H'))
def Qoc(P:Program)(fr:Fr)(H:Hp)(o:IOp)(v:A)(H':Hp):Prop:=
 match o.g with
 |none=>Qod P fr H o.i v H'
 |some (s,b)=>(fr s=.d (.bool b)/\Qod P fr H o.i v H')\/((fr s=.d (.bool (!b))\/fr s=.tup [])/\v=.tup []/\H'=H)
def Qnn{P:Program}{fr:Fr}{H:Hp}{i:I}{K:A->Hp->Prop}(h:runD P fr H i K):∃v H',Qod P fr H i v H'/\K v H':=by
 cases i with
 |call f l=>obtain⟨v,h1,h2⟩:=h;exact⟨v,H,.inl ⟨h1,.inr rfl⟩,h2⟩
 |callE f l=>obtain⟨v,H1,h1,h2⟩:=h;exact⟨v,H1,.inl ⟨h1,.inl rfl⟩,h2⟩
 |callv f l=>
  simp only[runD]at h;split at h
  .rename_i g e;obtain⟨h0,v,h1,h2⟩:=h;exact⟨v,H,.inl ⟨by simp only[Zv,e];exact⟨h0,h1⟩,.inr rfl⟩,h2⟩
  .rename_i g first cap e;obtain⟨h0,v,h1,h2⟩:=h;exact⟨v,H,.inl ⟨by simp only[Zv,e];exact⟨h0,h1⟩,.inr rfl⟩,h2⟩
  .exact h.elim
 |_=>
  simp only[runD]at h;split at h
  .rename_i v H' e;exact⟨v,H',.inr ⟨by simp[I.cls],e⟩,h⟩
  .exact h.elim
def Qqz{P:Program}{K:Fr->Hp->Prop}:∀(l:List IOp)(fr:Fr)(H:Hp),Vn P l K fr H->
 ∃(frs:Nat->Fr)(Hs:Nat->Hp)(vs:Nat->A),frs 0=fr/\Hs 0=H/\(∀(k:Nat)(o:IOp),l[k]?=some o->Qoc P (frs k) (Hs k) o (vs k) (Hs (k+1))/\frs (k+1)=(frs k).put o.dst (vs k))/\K (frs l.length) (Hs l.length)
 |[],fr,H,h=>⟨λ_=>fr,λ_=>H,λ_=>.undef,rfl,rfl,by simp,h⟩
 |o::r,fr,H,h=>by
  have key:∃v H',Qoc P fr H o v H'/\Vn P r K (fr.put o.dst v) H':=by
   simp only[Vn]at h;unfold Qoc;cases hg:o.g with
   |none=>rw[hg]at h;exact Qnn h
   |some sb=>
    obtain⟨s,b⟩:=sb;rw[hg]at h;simp only at h⊢;unfold AGd at h;split at h
    .rename_i c e;split at h
     .rename_i hc;subst hc;obtain⟨v,H',h1,h2⟩:=Qnn h;exact⟨v,H',.inl ⟨e,h1⟩,h2⟩
     .rename_i hc;refine⟨.tup [],H,.inr ⟨.inl ?_,rfl,rfl⟩,h⟩;rw[e];cases b<;>cases c<;>simp_all
    .rename_i e;exact⟨.tup [],H,.inr ⟨.inr e,rfl,rfl⟩,h⟩
    .exact h.elim
  obtain⟨v,H',h1,h2⟩:=key;obtain⟨frs,Hs,vs,r1,r2,r3,r4⟩:=Qqz r _ _ h2;refine⟨λk=>match k with|0=>fr|k+1=>frs k,λk=>match k with|0=>H|k+1=>Hs k,λk=>match k with|0=>v|k+1=>vs k,rfl,rfl,λk q hq=>?_,r4⟩;cases k with
  |zero=>simp at hq;subst hq;simp only[r1,r2];exact⟨h1,trivial⟩
  |succ k=>exact r3 k q (by simpa using hq)
def Qsl{P:Program}{fr:Fr}{i:I}{R:FuncId->List A->Prop}(h:Zv P fr i R):i.cls=3\/i.cls=4:=by cases i<;>first|exact .inl rfl|exact .inr rfl|exact h.elim
def W9{fr fr':Fr}{x:Arg}(h:∀s∈x.slots,fr' s=fr s):x.ev fr'=x.ev fr:=by
 cases x with
 |t s=>exact h s (by simp[Arg.slots])
 |c d=>rfl
def Vr{fr fr':Fr}{l:List Arg}(h:∀s∈l.flatMap Arg.slots,fr' s=fr s):l.map (Arg.ev fr')=l.map (Arg.ev fr):=Q41 λx hx=>W9 λs hs=>h s (Q5j.2 ⟨x,hx,hs⟩)
def Qbs{fr fr':Fr}{d:Nat}{x:Option Arg}(h:∀s∈Qdb x,fr' s=fr s):Y8 fr' d x=Y8 fr d x:=by
 cases x with
 |none=>rfl
 |some x=>simp only[Y8];rw[W9 (fr:=fr) (fr':=fr') (x:=x) h]
def Qe5{fr fr':Fr}{H:Hp}{i:I}(h:∀s∈i.slots,fr' s=fr s):Qj fr' H i=Qj fr H i:=by
 cases i with
 |nilT=>rfl
 |nilW=>rfl
 |alloc=>rfl
 |allocT=>rfl
 |allocU=>rfl
 |mkMap=>rfl
 |call=>rfl
 |callE=>rfl
 |callv=>rfl
 |build z ps=>simp only[Qj];congr 2;refine Q41 λx hx=>?_;rw[W9 (fr:=fr) (fr':=fr') (x:=x.2.2) λs hs=>h s (Q5j.2 ⟨x,hx,hs⟩)]
 |buildT ts z ps=>simp only[Qj];congr 2;refine Q41 λx hx=>?_;rw[W9 (fr:=fr) (fr':=fr') (x:=x.2.2) λs hs=>h s (Q5j.2 ⟨x,hx,hs⟩)]
 |bslice sz ps=>
  simp only[Qj];congr 1;have:∀l:List Arg,(∀s∈l.flatMap Arg.slots,fr' s=fr s)->l.mapM (λx=>Yf sz (x.ev fr'))=l.mapM (λx=>Yf sz (x.ev fr)):=by
   intro l;induction l with
   |nil=>intro _;rfl
   |cons x l ih=>intro hl;simp only[Q3k];rw[W9 (fr:=fr) (fr':=fr') (x:=x) λs hs=>hl s (by simp[hs]),ih λs hs=>hl s (by simp only[Q37,Q2r];exact .inr hs)]
  exact this ps h
 |bsliceT sz e ps=>
  simp only[Qj];congr 1;have:∀l:List Arg,(∀s∈l.flatMap Arg.slots,fr' s=fr s)->l.mapM (λx=>Yf sz (x.ev fr'))=l.mapM (λx=>Yf sz (x.ev fr)):=by
   intro l;induction l with
   |nil=>intro _;rfl
   |cons x l ih=>intro hl;simp only[Q3k];rw[W9 (fr:=fr) (fr':=fr') (x:=x) λs hs=>hl s (by simp[hs]),ih λs hs=>hl s (by simp only[Q37,Q2r];exact .inr hs)]
  exact this ps h
 |bsliceV sz e ps=>
  simp only[Qj];congr 1;have:∀l:List Arg,(∀s∈l.flatMap Arg.slots,fr' s=fr s)->l.mapM (λx=>Yf sz (x.ev fr'))=l.mapM (λx=>Yf sz (x.ev fr)):=by
   intro l;induction l with
   |nil=>intro _;rfl
   |cons x l ih=>intro hl;simp only[Q3k];rw[W9 (fr:=fr) (fr':=fr') (x:=x) λs hs=>hl s (by simp[hs]),ih λs hs=>hl s (by simp only[Q37,Q2r];exact .inr hs)]
  exact this ps h
 |bsliceM sz ps=>
  simp only[Qj];congr 1;have:∀l:List Arg,(∀s∈l.flatMap Arg.slots,fr' s=fr s)->l.mapM (λx=>Yf sz (x.ev fr'))=l.mapM (λx=>Yf sz (x.ev fr)):=by
   intro l;induction l with
   |nil=>intro _;rfl
   |cons x l ih=>intro hl;simp only[Q3k];rw[W9 (fr:=fr) (fr':=fr') (x:=x) λs hs=>hl s (by simp[hs]),ih λs hs=>hl s (by simp only[Q37,Q2r];exact .inr hs)]
  exact this ps h
 |mkSl=>rfl
 |box ty n x=>have h:∀s∈x.slots,fr' s=fr s:=h;simp only[Qj];rw[W9 h]
 |mkfn f a b=>simp only[Qj];rw[Vr (l:=a) λs hs=>h s (by simp only[I.slots,Q2r];exact .inl hs),Vr (l:=b) λs hs=>h s (by simp only[I.slots,Q2r];exact .inr hs)]
 |pick c x y=>simp only[I.slots,Q2r]at h;simp only[Qj];rw[W9 (x:=c) λs hs=>h s (.inl (.inl hs)),W9 (x:=x) λs hs=>h s (.inl (.inr hs)),W9 (x:=y) λs hs=>h s (.inr hs)]
 |sslice x lo hi=>
  simp only[I.slots,Q2r]at h;simp only[Qj];rw[W9 (x:=x) λs hs=>h s (.inl (.inl hs))];split
  .rw[Qbs (x:=lo) λs hs=>h s (.inl (.inr hs)),Qbs (x:=hi) λs hs=>h s (.inr hs)]
  .rfl
 |slice sz x lo hi mx=>
  simp only[I.slots,Q2r]at h;simp only[Qj];rw[W9 (x:=x) λs hs=>h s (.inl (.inl (.inl hs)))];split
  .rw[Qbs (x:=lo) λs hs=>h s (.inl (.inl (.inr hs))),Qbs (x:=hi) λs hs=>h s (.inl (.inr hs))];cases mx with
   |none=>cases Y8 fr 0 lo<;>cases Y8 fr _ hi<;>rfl
   |some m=>have:=Qbs (d:=0) (x:=some m) λs hs=>h s (.inr hs);cases Y8 fr 0 lo<;>cases Y8 fr _ hi<;>simp only[this]
  .rfl
 |iaddrV=>rfl
 |loadV=>rfl
 |cutV=>rfl
 |mpUpd key x k v=>simp only[I.slots,Q2r]at h;simp only[Qj];rw[W9 (x:=x) λs hs=>h s (.inl (.inl hs)),W9 (x:=k) λs hs=>h s (.inl (.inr hs)),W9 (x:=v) λs hs=>h s (.inr hs)]
 |aidx=>rfl
 |appS=>rfl
 |cvtS=>rfl
 |cvtBS=>rfl
 |ext x n=>simp only[Qj];rw[W9 (x:=x) h]
 |store n x y|bin op x y|appV sz by' e x y|lkp ok key ag z x y|eqA op l x y|beq op x y|iaddr n x y|sidx x y|mm b x y|app n m e x y=>simp only[I.slots,Q2r]at h;simp only[Qj];rw[W9 (x:=x) λs hs=>h s (.inl hs),W9 (x:=y) λs hs=>h s (.inr hs)]
 |mv x|load n g x|nilCheck x|isNilS n x|isNilP n x|un op x|cvt k x|faddr n x|fld o n g x|lenS x|lenL x=>simp only[Qj];rw[W9 (x:=x) h]
def Qiu{P:Program}{fr fr':Fr}{i:I}{R:FuncId->List A->Prop}(h:∀s∈i.slots,fr' s=fr s):Zv P fr' i R↔Zv P fr i R:=by
 cases i with
 |call f l=>simp only[Zv];rw[Vr h]
 |callE f l=>simp only[Zv];rw[Vr h]
 |callv f l=>simp only[I.slots,Q2r]at h;simp only[Zv];rw[W9 (x:=f) λs hs=>h s (.inl hs),Vr (l:=l) λs hs=>h s (.inr hs)]
 |_=>exact Q3m
def Qlj{fr:Fr}{H:Hp}{i:I}(hc:i.cls=0):Qj fr H i=(Qj fr [] i).map λp=>(p.1,H):=by
 cases i<;>first|(simp only[I.cls]at hc;exact absurd hc (by decide))|skip
 all_goals
  simp only[Qj]
  (repeat' split)<;>simp_all[Option.map_map,Q55]
def Qgw{fr:Fr}{H H':Hp}{i:I}{v:A}(hc:i.cls=0)(h:Qj fr H i=some (v,H')):H'=H/\∀H2,Qj fr H2 i=some (v,H2):=by rw[Qlj hc]at h;simp only[Q13,prdI]at h;obtain⟨p,hp,rfl,rfl⟩:=h;exact⟨rfl,λH2=>by rw[Qlj hc,hp];rfl⟩
def Ob.fix(v:Bool):Ob->Bool
 |.tok ..=>false
 |.vec ..=>v
 |_=>true
def Alike(v:Bool)(n:Nat)(H H2:Hp):Prop:=∀j,j<n->∀o:Ob,o.fix v=true->(H[j]?=some o↔H2[j]?=some o)
def A.at?:A->Option Nat
 |.ptr i _|.aptr i _ _|.msl i _ _|.vsl i _ _|.vptr i _ _ _|.map i=>some i
 |_=>none
def Qvb{vv:Bool}{H H2:Hp}{n m:Nat}{p:A}{cs:List A}(h:ldA H n p=some cs)(hp:∀j,p.at?=some j->j<m)(ha:Alike vv m H H2):ldA H2 n p=some cs:=by
 unfold ldA at h;split at h
 .rename_i i off;split at h
  .rename_i c e;simp only[ldA,(ha i (hp i rfl) _ rfl).1 e];exact h
  .cases h
 .rename_i i k off;split at h
  .rename_i sz rows e;simp only[ldA,(ha i (hp i rfl) _ rfl).1 e];exact h
  .cases h
 .exact h
 .cases h
def Qo1{vv:Bool}{H H2:Hp}{sz m:Nat}{p q u:A}(h:W4 H sz p q=some u)(hp:∀j,p.at?=some j->j<m)(ha:Alike vv m H H2):W4 H2 sz p q=some u:=by
 unfold W4 at h;split at h
 .exact h
 .exact h
 .rename_i i off len k n;split at h
  .rename_i s rows e;simp only[W4,(ha i (hp i rfl) _ rfl).1 e];exact h
  .cases h
 .cases h
def Qlk{fr:Fr}{H H':Hp}{i:I}{v:A}(hc:i.cls=1){vv:Bool}(hvv:i.vread=true->vv=true)(h:Qj fr H i=some (v,H')):
 H'=H/\∀(H2:Hp)(m:Nat),(∀s∈i.slots,∀j,(fr s).at?=some j->j<m)->Alike vv m H H2->Qj fr H2 i=some (v,H2):=by
 have evat:∀(x:Arg)(m:Nat),(∀s∈x.slots,∀j,(fr s).at?=some j->j<m)->∀j,(x.ev fr).at?=some j->j<m:=by
  intro x m hx j hj;cases x with
  |t s=>exact hx s (by simp[Arg.slots]) j hj
  |c d=>cases d<;>cases hj
 cases i<;>first|(simp only[I.cls]at hc;exact absurd hc (by decide))|skip
 case load n g x=>simp only[Qj,Q13,prdI]at h;obtain⟨cs,h1,h2,h3⟩:=h;refine⟨h3.symm,λH2 m hs ha=>?_⟩;simp only[Qj,Qvb h1 (evat x m hs) ha,Q3q,somI,prdI];exact⟨h2,trivial⟩
 case iaddr n x y=>simp only[Qj,Q13,prdI]at h;obtain⟨u,h1,h2,h3⟩:=h;refine⟨h3.symm,λH2 m hs ha=>?_⟩;have:=Qo1 h1 (evat x m λs hx=>hs s (by simp only[I.slots,Q2r];exact .inl hx)) ha;simp only[Qj,this,Q3q,somI,prdI];exact⟨h2,trivial⟩
 case iaddrV=>exact noS h
 case loadV=>exact noS h
 case lkp ok key ag z x y=>
  have hat:=λm (hs:∀s∈(I.lkp ok key ag z x y).slots,∀j,(fr s).at?=some j->j<m)=>evat x m λs hx=>hs s (by simp only[I.slots,Q2r];exact .inl hx);simp only[Qj]at h;split at h
  .rename_i kd i e1 e2;split at h
   .rename_i l hH;split at h
    .rename_i hok;split at h<;>(cases h;refine⟨rfl,λH2 m hs ha=>?_⟩;have:=(ha i (hat m hs i (by rw[e2];rfl)) _ rfl).1 hH;simp only[Qj,e1,e2,this,hok,if_true];simp only[*])
    .cases h
   .cases h
  .rename_i kd e1 e2;split at h
   .rename_i hok;cases h
    exact⟨rfl,λH2 m hs ha=>by simp only[Qj,e1,e2,hok,if_true]⟩
   .cases h
  .cases h
def Alike.refl(v:Bool)(n:Nat)(H:Hp):Alike v n H H:=λ_ _ _ _=>Q3m
def Alike.symm{v:Bool}{n:Nat}{H H2:Hp}(h:Alike v n H H2):Alike v n H2 H:=λj hj o ho=>(h j hj o ho).symm
def Alike.trans{v:Bool}{n:Nat}{H H2 H3:Hp}(h:Alike v n H H2)(k:Alike v n H2 H3):Alike v n H H3:=λj hj o ho=>(h j hj o ho).trans (k j hj o ho)
def Alike.mono{v:Bool}{n m:Nat}{H H2:Hp}(h:Alike v n H H2)(hm:m<=n):Alike v m H H2:=λj hj=>h j (by omega)
def Va{vv:Bool}(H:Hp)(y:Ob):H.length<=(H++[y]).length/\Alike vv H.length H (H++[y]):=⟨by simp,λj hj _ _=>by rw[Q19 hj]⟩
def Qs7{vv:Bool}{H H':Hp}{sz by':Nat}{e:TypeId}{new:List (List D)}{p v:A}(h:appA H sz by' e new p=some (v,H')):H.length<=H'.length/\Alike vv H.length H H':=by
 unfold appA at h;split at h
 .rename_i z s rows t;split at h
  .rename_i n s' e' hH;split at h
   .cases h
    refine⟨by simp,λj hj o ho=>?_⟩;by_cases hjt:t=j
    .subst hjt;rw[hH,Q17 hj];exact⟨λh=>(by cases h;cases ho),λh=>(by cases h;cases ho)⟩
    .rw[Q15 hjt]
   .cases h
  .cases h
 .split at h
  .cases h;exact⟨Q14 _,.refl _ _ _⟩
  .cases h
 .split at h
  .split at h
   .split at h
    .cases h;exact⟨Q14 _,.refl _ _ _⟩
    .cases h;exact Va _ _
   .cases h
  .cases h
 .cases h
def Qav{vv:Bool}:∀(l:List (Nat×Nat×TypeId))(H:Hp)(cs:List A),H.length<=(tokA H l cs).2.length/\Alike vv H.length H (tokA H l cs).2
 |[],H,cs=>⟨Q14 _,.refl _ _ _⟩
 |(j,sz,e)::r,H,cs=>by
  simp only[tokA];split
  .split
   .obtain⟨h1,h2⟩:=Qav (vv:=vv) r (H++[.tok 0 sz e]) (cs.set j (.osl true sz [] H.length));simp only[Q2l,Q3v]at h1 h2;exact⟨by omega,(Va H _).2.trans (h2.mono (by omega))⟩
   .split
    .rename_i s _ _ _;obtain⟨h1,h2⟩:=Qav (vv:=vv) r (H++[.vec s e 0 []]) (cs.set j (.vsl H.length 0 0));simp only[Q2l,Q3v]at h1 h2;exact⟨by omega,(Va H _).2.trans (h2.mono (by omega))⟩
    .exact Qav r H cs
  .exact Qav r H cs
def Qr0{fr:Fr}{H H':Hp}{i:I}{v:A}(hc:i.cls=2){vv:Bool}(hvv:i.vapp=true->vv=false)(h:Qj fr H i=some (v,H')):H.length<=H'.length/\Alike vv H.length H H':=by
 cases i<;>first|(simp only[I.cls]at hc;exact absurd hc (by decide))|skip
 case nilT=>simp only[Qj,somI,prdI]at h;rw[<-h.2];exact Va _ _
 case nilW=>simp only[Qj,somI,prdI]at h;rw[<-h.2];exact Va _ _
 case alloc=>simp only[Qj,somI,prdI]at h;rw[<-h.2];exact Va _ _
 case mkMap=>simp only[Qj,somI,prdI]at h;rw[<-h.2];exact Va _ _
 case allocU ty cs ts=>simp only[Qj,somI,prdI]at h;rw[<-h.2];obtain⟨h1,h2⟩:=Qav (vv:=vv) ts H (cs.map .d);exact⟨by simp;omega,λj hj x y=>by rw[Q19 (by omega)];exact h2 j hj x y⟩
 case allocT=>simp only[Qj,somI,prdI]at h;rw[<-h.2];exact⟨by simp,λj hj _ _=>by rw[Q19 hj]⟩
 case box=>
  simp only[Qj]at h;split at h
  .simp only[somI,prdI]at h;rw[<-h.2];exact Va _ _
  .cases h
 case buildT ts z ps=>simp only[Qj,Q13,prdI]at h;obtain⟨cs,-,-,h3⟩:=h;rw[<-h3];exact Qav _ _ _
 case bsliceT=>simp only[Qj,Q13,prdI]at h;obtain⟨rows,-,-,h3⟩:=h;rw[<-h3];exact Va _ _
 case bsliceV=>simp only[Qj,Q13,prdI]at h;obtain⟨rows,-,-,h3⟩:=h;rw[<-h3];exact Va _ _
 case bsliceM=>simp only[Qj,Q13,prdI]at h;obtain⟨rows,-,-,h3⟩:=h;rw[<-h3];exact Va _ _
 case mkSl=>exact noS h
 case app=>
  simp only[Qj]at h;split at h
  .exact Qs7 h
  .cases h
 case appS=>exact noS h
 case appV=>
  obtain rfl:vv=false:=hvv rfl;simp only[Qj]at h;split at h
  .unfold Qkl at h;split at h
   .split at h
    .cases h;exact Va _ _
    .cases h
   .rename_i i k len hk;split at h
    .rename_i hH;split at h
     .cases h
      refine⟨by simp,λj hj o ho=>?_⟩;by_cases hji:i=j
      .subst hji;rw[hH,Q17 hj];exact⟨λh=>(by cases h;cases ho),λh=>(by cases h;cases ho)⟩
      .rw[Q15 hji]
     .cases h
    .cases h
   .cases h
  .cases h
def Qxz(i:I):i.cls=0\/i.cls=1\/i.cls=2\/i.cls=3\/i.cls=4:=by cases i<;>simp[I.cls]
end
section
open Go.RowKit (Below)
def inB(acc:Array Nat)(es:Array Edge):Nat:=es.foldl (λs e=>if Region.binds .any e then s|||2^e.on|||acc.getD e.on 0 else s) 0
def Qxn(acc:Array Nat)(es:Array Edge)(k:Nat)(h:(inB acc es).testBit k=true):∃e∈es,Region.binds .any e=true/\(e.on=k\/(acc.getD e.on 0).testBit k=true):=by
 have key:∀(l:List Edge)(s:Nat),(l.foldl (λs e=>if Region.binds .any e then s|||2^e.on|||acc.getD e.on 0 else s) s).testBit k=true->
  s.testBit k=true\/∃e∈l,Region.binds .any e=true/\(e.on=k\/(acc.getD e.on 0).testBit k=true):=by
  intro l;induction l with
  |nil=>intro s h;exact .inl h
  |cons e l ih=>
   intro s h;rw[Q6e]at h;rcases ih _ h with h1|⟨e',he',h2⟩
   .split at h1
    .rename_i hb;simp only[Nat.testBit_or,Q35,Nat.testBit_two_pow,decide_eq_true_eq]at h1;rcases h1 with(h1|h1)|h1
     .exact .inl h1
     .exact .inr ⟨e,by simp,hb,.inl h1⟩
     .exact .inr ⟨e,by simp,hb,.inr h1⟩
    .exact .inl h1
   .exact .inr ⟨e',by simp[he'],h2⟩
 unfold inB at h;rw[<-Q6o]at h;rcases key _ _ h with h1|⟨e,he,h2⟩
 .simp at h1
 .exact⟨e,by simpa using he,h2⟩
def Qvu:∀(l:List Oper)(acc:Array Nat),(∀i,i<acc.size->(l.foldl (λacc o=>acc.push (inB acc o.after)) acc).getD i 0=acc.getD i 0)/\
 ∀(j:Nat)(o:Oper),l[j]?=some o->∃accj:Array Nat,(∀i,accj.getD i 0=(l.foldl (λacc o=>acc.push (inB acc o.after)) acc).getD i 0\/accj.getD i 0=0)/\
  (l.foldl (λacc o=>acc.push (inB acc o.after)) acc).getD (acc.size+j) 0=inB accj o.after:=by
 intro l;induction l with
 |nil=>intro acc;exact⟨λ_ _=>rfl,by simp⟩
 |cons o l ih=>
  intro acc;obtain⟨h1,h2⟩:=ih (acc.push (inB acc o.after));simp only[Q6e];have hpush:∀i,i<acc.size->(acc.push (inB acc o.after)).getD i 0=acc.getD i 0:=λi hi=>by simp[Array.getElem?_push,Nat.ne_of_lt hi]
  refine⟨λi hi=>by rw[h1 i (by simp;omega),hpush i hi],λj q hq=>?_⟩;cases j with
  |zero=>
   simp at hq;subst hq;refine⟨acc,λi=>?_,?_⟩
   .by_cases hi:i<acc.size
    .left;rw[h1 i (by simp;omega),hpush i hi]
    .right;simp[Array.getElem?_eq_none (Q5h hi)]
   .rw[Q4g,h1 acc.size (by simp)];simp
  |succ j=>obtain⟨accj,a1,a2⟩:=h2 j q (by simpa using hq);refine⟨accj,a1,?_⟩;rw[<-a2];simp only[Array.size_push];congr 1;omega
def Qrj{ops:Array Oper}{j k:Nat}{o:Oper}(ho:ops[j]?=some o)(h:((Region.before ops).getD j 0).testBit k=true):
 ∃e∈o.after,Region.binds .any e=true/\(e.on=k\/((Region.before ops).getD e.on 0).testBit k=true):=by
 have hb:Region.before ops=ops.toList.foldl (λacc o=>acc.push (inB acc o.after)) #[]:=by unfold Region.before;rw[<-Q6o];rfl
 obtain⟨accj,h1,h2⟩:=(Qvu ops.toList #[]).2 j o (by simpa using ho);simp only[Q3s,Q3b,Q3i]at h2;rw[hb,h2]at h;obtain⟨e,he,h3,h4⟩:=Qxn _ _ _ h;refine⟨e,he,h3,h4.imp id λh5=>?_⟩;rcases h1 e.on with h6|h6
 .rw[hb,<-h6];exact h5
 .rw[h6]at h5;simp at h5
def Qpq{fr:Fr}{H H':Hp}{i:I}{v:A}(hc:i.cls=1){vv:Bool}(hvv:i.vread=true->vv=true)(h:Qj fr H i=some (v,H')):∀(H2:Hp),Alike vv H.length H H2->Qj fr H2 i=some (v,H2):=by
 have lt:∀{j:Nat} {x:Ob},H[j]?=some x->j<H.length:=λh=>(Q11.1 h).1;cases i<;>first|(simp only[I.cls]at hc;exact absurd hc (by decide))|skip
 case load n g x=>
  simp only[Qj,Q13,prdI]at h;obtain⟨cs,h1,h2,h3⟩:=h;intro H2 ha;have:ldA H2 n (x.ev fr)=some cs:=by
   generalize x.ev fr=p at h1;unfold ldA at h1;split at h1
   .split at h1
    .rename_i e;simp only[ldA,(ha _ (lt e) _ rfl).1 e];exact h1
    .cases h1
   .split at h1
    .rename_i e;simp only[ldA,(ha _ (lt e) _ rfl).1 e];exact h1
    .cases h1
   .exact h1
   .cases h1
  simp only[Qj,this,Q3q,somI,prdI];exact⟨h2,trivial⟩
 case iaddr n x y=>
  simp only[Qj,Q13,prdI]at h;obtain⟨u,h1,h2,h3⟩:=h;intro H2 ha;have:W4 H2 n (x.ev fr) (y.ev fr)=some u:=by
   generalize x.ev fr=p at h1;generalize y.ev fr=q at h1;unfold W4 at h1;split at h1
   .exact h1
   .exact h1
   .split at h1
    .rename_i e;simp only[W4,(ha _ (lt e) _ rfl).1 e];exact h1
    .cases h1
   .cases h1
  simp only[Qj,this,Q3q,somI,prdI];exact⟨h2,trivial⟩
 case iaddrV=>exact noS h
 case loadV=>exact noS h
 case lkp ok key ag z x y=>
  intro H2 ha;simp only[Qj]at h;split at h
  .rename_i kd i e1 e2;split at h
   .rename_i l hH;split at h
    .rename_i hok;split at h<;>(cases h;have:=(ha _ (lt hH) _ rfl).1 hH;simp only[Qj,e1,e2,this,hok,if_true];simp only[*])
    .cases h
   .cases h
  .rename_i kd e1 e2;split at h
   .rename_i hok;cases h
    simp only[Qj,e1,e2,hok,if_true]
   .cases h
  .cases h
section run
variable{P:Program}{l:List IOp}{frs:Nat->Fr}{Hs:Nat->Hp}{vs:Nat->A}
def frOf(l:List IOp)(vs:Nat->A)(fr:Fr)(S:Nat->Bool):Nat->Fr
 |0=>fr
 |k+1=>if S k then(frOf l vs fr S k).put (l.getD k Q9).dst (vs k)else frOf l vs fr S k
def Za(l:List IOp)(k:Nat):Bool:=(l.getD k Q9).i.cls==2||(l.getD k Q9).i.cls==4
def hiOf(l:List IOp)(S:Nat->Bool):Nat->Nat
 |0=>0
 |k+1=>if S k&&Za l k then k+1 else hiOf l S k
def Qo2(S:Nat->Bool):∀n,hiOf l S n<=n
 |0=>Q14 _
 |k+1=>by unfold hiOf;split;exact Q14 _;exact Nat.le_succ_of_le (Qo2 S k)
def Qiq(S:Nat->Bool):∀(n k:Nat),k<n->S k=true->Za l k=true->k+1<=hiOf l S n
 |0,k,h,_,_=>by omega
 |n+1,k,h,h1,h2=>by
  unfold hiOf;by_cases hkn:k=n
  .subst hkn;rw[if_pos (by simp[h1,h2])];exact Q14 _
  .split
   .omega
   .exact Qiq S n k (by omega) h1 h2
def Qk8(S:Nat->Bool):∀n,hiOf l S n=0\/∃k,k<n/\hiOf l S n=k+1/\S k=true/\Za l k=true
 |0=>.inl rfl
 |n+1=>by
  unfold hiOf;split
  .rename_i h;simp only[Q2t]at h;exact .inr ⟨n,by omega,rfl,h.1,h.2⟩
  .rcases Qk8 S n with h|⟨k,h1,h2,h3⟩
   .exact .inl h
   .exact .inr ⟨k,by omega,h2,h3⟩
def Qc4{fr:Fr}{d:Option Nat}{v:A}{s:Nat}(h:d≠some s):(fr.put d v) s=fr s:=by
 cases d with
 |none=>rfl
 |some d=>simp only[Fr.put,Fr.set];rw[if_neg (λe=>h (by rw[e]))]
def Qfb{fr:Fr}{v:A}{s:Nat}:(fr.put (some s) v) s=v:=by simp[Fr.put,Fr.set]
def Zj{k:Nat}{o:IOp}(h:l[k]?=some o):l.getD k Q9=o:=by simp[List.getD,h]
def Runs(P:Program)(l:List IOp)(frs:Nat->Fr)(Hs:Nat->Hp)(vs:Nat->A):Prop:=∀(k:Nat)(o:IOp),l[k]?=some o->Qoc P (frs k) (Hs k) o (vs k) (Hs (k+1))/\frs (k+1)=(frs k).put o.dst (vs k)
def Runs.stepD{hr:Runs P l frs Hs vs}{k:Nat}{o:IOp}(ho:l[k]?=some o):Qod P (frs k) (Hs k) o.i (vs k) (Hs (k+1))\/Hs (k+1)=Hs k:=by
 have h:=(hr k o ho).1;unfold Qoc at h;split at h
 .exact .inl h
 .rcases h with⟨-,h⟩|⟨-,-,h⟩
  .exact .inl h
  .exact .inr h
def Runs.quiet(hr:Runs P l frs Hs vs){k:Nat}(hk:k<l.length)(he:Za l k=false):Hs (k+1)=Hs k:=by
 have ho:=Q12 hk;unfold Za at he;rw[Zj ho]at he;simp only[Q5m,beq_eq_false_iff_ne]at he;rcases hr.stepD ho with h|h
 .rcases h with⟨-,h|h⟩|⟨hc,h⟩
  .exact absurd h he.2
  .exact h
  .rcases Qxz (l[k]).i with h0|h0|h0|h0|h0
   .exact(Qgw h0 h).1
   .exact(Qlk h0 (vv:=true) (λ_=>rfl) h).1
   .exact absurd h0 he.1
   .exact absurd h0 hc
   .exact absurd h0 he.2
 .exact h
def Runs.same(hr:Runs P l frs Hs vs){a:Nat}:∀(d:Nat),a+d<=l.length->(∀k,a<=k->k<a+d->Za l k=false)->Hs (a+d)=Hs a
 |0,_,_=>rfl
 |d+1,h,he=>by rw[<-Q3r,hr.quiet (by omega) (he (a+d) (by omega) (by omega))];exact hr.same d (by omega) λk h1 h2=>he k h1 (by omega)
def Runs.alike(hr:Runs P l frs Hs vs){vv:Bool}(hva:vv=true->∀k,(l.getD k Q9).i.vapp=false){a:Nat}:∀(d:Nat),a+d<=l.length->(∀k,a<=k->k<a+d->(l.getD k Q9).i.cls≠4)->(Hs a).length<=(Hs (a+d)).length/\Alike vv (Hs a).length (Hs a) (Hs (a+d))
 |0,_,_=>⟨Q14 _,.refl _ _ _⟩
 |d+1,h,he=>by
  obtain⟨h1,h2⟩:=hr.alike hva d (by omega) λk h1 h2=>he k h1 (by omega);rw[<-Q3r];have hk:a+d<l.length:=by omega
  have ho:=Q12 hk;have hc4:=he (a+d) (by omega) (by omega);have step:(Hs (a+d)).length<=(Hs (a+d+1)).length/\Alike vv (Hs (a+d)).length (Hs (a+d)) (Hs (a+d+1)):=by
   by_cases hE:Za l (a+d)=true
   .rw[Zj ho]at hc4;unfold Za at hE;rw[Zj ho]at hE;simp only[Q35,beq_iff_eq]at hE;have hc2:=hE.resolve_right hc4;rcases hr.stepD ho with hs|hs
    .rcases hs with⟨-,hs|hs⟩|⟨-,hs⟩
     .rw[hc2]at hs;cases hs
     .rw[hs];exact⟨Q14 _,.refl _ _ _⟩
     .exact Qr0 hc2 (λhv=>by
       cases vv with
       |false=>rfl
       |true=>have:=hva rfl (a+d);rw[Zj ho,hv]at this;cases this) hs
    .rw[hs];exact⟨Q14 _,.refl _ _ _⟩
   .rw[hr.quiet hk (by simpa using hE)];exact⟨Q14 _,.refl _ _ _⟩
  exact⟨Q3d h1 step.1,h2.trans (step.2.mono h1)⟩
end run
def VR.at_lt{κ:K}{n:Nat}(hd:∀i,n<=i->κ.β i=.none){v:Value}{a:A}(h:VR κ v a){j:Nat}(hj:a.at?=some j):j<n:=by
 have hlt:∀i,κ.β i≠.none->i<n:=λi hi=>Q6u λhle=>hi (hd i hle);cases h with
 |msl i off len b sz o cap hb h1 h2 h3=>simp only[A.at?,somI]at hj;subst hj;exact hlt _ (by rcases hb with⟨_,hb⟩|hb<;>rw[hb]<;>simp)
 |ptr i off b hb=>simp only[A.at?,somI]at hj;subst hj;exact hlt _ (by rw[hb];simp)
 |vsl i k len ad cap _ hf=>simp only[A.at?,somI]at hj;subst hj;exact hlt _ (by intro h0;rw[h0]at hf;exact hf)
 |vptr i k idx off b o hf=>simp only[A.at?,somI]at hj;subst hj;exact hlt _ (by intro h0;rw[h0]at hf;exact hf)
 |map i b hb=>simp only[A.at?,somI]at hj;subst hj;exact hlt _ (by rw[hb];simp)
 |aptr i idx off b sz hb=>simp only[A.at?,somI]at hj;subst hj;exact hlt _ (by rcases hb with⟨_,hb⟩|hb<;>rw[hb]<;>simp)
 |_=>simp[A.at?]at hj
def Qcj(n k:Nat):(Array.replicate n false).getD k false=false:=by
 rw[Q23];by_cases h:k<n
 .simp[h]
 .simp[h]
def Qgj(listed:Array Bool)(i k:Nat)(hi:i<listed.size):(listed.setIfInBounds i true).getD k false=(listed.getD k false||k==i):=by
 rw[Q23,Q23];by_cases h:i=k
 .subst h;simp[hi]
 .rw[Q6s h];have:(k==i)=false:=by simpa usingλe=>h e.symm
  simp[this]
section main
variable{P:Program}{κ0:K}{nt:NT}{tok:List Nat}{ops:Array Oper}{l:List IOp}{frs:Nat->Fr}{Hs:Nat->Hp}{vs:Nat->A}{S:Nat->Bool}
structure Ctx(ops:Array Oper)(l:List IOp)(S:Nat->Bool):Prop where
 len:l.length=ops.size
 tied:∀i j,i<j->j<ops.size->Go.Zam.tied (l.getD i Q9) (l.getD j Q9)=true->((Region.before ops).getD j 0).testBit i=true
 va:(l.any λo=>o.i.vread)=true->∀k,(l.getD k Q9).i.vapp=false
 cl:∀j,j<ops.size->S j=true->∀k,((Region.before ops).getD j 0).testBit k=true->S k=true
def Qun{a b:IOp}{s:Nat}(h:a.dst=some s)(h2:s∈b.reads):tied a b=true:=by simp[tied,h,h2]
def Qrx{a b:IOp}{s:Nat}(h:b.dst=some s)(h2:s∈a.reads):tied a b=true:=by simp[tied,h,h2]
def Qv8{a b:IOp}{s:Nat}(h:a.dst=some s)(h2:b.dst=some s):tied a b=true:=by simp[tied,h,h2]
def Qaw{a b:IOp}(h:clash a.i.cls b.i.cls=true):tied a b=true:=by simp[tied,h]
def Ctx.slot(c:Ctx ops l S)(hr:Runs P l frs Hs vs){i:Nat}(hi:i<ops.size)(hiS:S i=false)(hb:∀k,((Region.before ops).getD i 0).testBit k=true->S k=true){s:Nat}(hs:s∈(l.getD i Q9).reads):
 ∀m,m<=ops.size->frOf l vs (frs 0) S m s=frs (min m i) s:=by
 intro m;induction m with
 |zero=>intro _;simp[frOf]
 |succ m ih=>
  intro hm;have ih':=ih (by omega);have ho:=Q12 (l:=l) (i:=m) (by rw[c.len];omega);have hstep:=(hr m _ ho).2;by_cases hmi:m<i
  .rw[Q5s (by omega),hstep];rw[Q5s (by omega)]at ih';by_cases hd:(l[m]'(by rw[c.len];omega)).dst=some s
   .have hS:=hb m (c.tied m i hmi hi (Qun (by rw[Zj ho];exact hd) hs));unfold frOf;rw[if_pos hS,Zj ho,hd,Qfb,Qfb]
   .rw[Qc4 hd];unfold frOf;split
    .rw[Zj ho,Qc4 hd];exact ih'
    .exact ih'
  .rw[Q6t (by omega)];rw[Q6t (by omega)]at ih';unfold frOf;split
   .rename_i hS;rw[Zj ho];by_cases hd:(l[m]'(by rw[c.len];omega)).dst=some s
    .exfalso
     have hne:m≠i:=λe=>by subst e;rw[hiS]at hS;cases hS
     have:=c.cl m (by omega) hS i (c.tied i m (by omega) (by omega) (Qrx (by rw[Zj ho];exact hd) hs));rw[hiS]at this;cases this
    .rw[Qc4 hd];exact ih'
   .exact ih'
def Ctx.next(c:Ctx ops l S){i:Nat}(hi:i<ops.size)(hiS:S i=false)(fr:Fr):
 frOf l vs fr (λk=>S k||k==i) ops.size=(frOf l vs fr S ops.size).put (l.getD i Q9).dst (vs i):=by
 funext s
 have lo:∀m,m<=i->frOf l vs fr (λk=>S k||k==i) m s=frOf l vs fr S m s:=by
  intro m;induction m with
  |zero=>intro _;rfl
  |succ m ih=>
   intro hm;unfold frOf
   have:(S m||m==i)=S m:=by have:(m==i)=false:=by simp;omega
                            rw[this,Q5q]
   simp only[this];split
   .by_cases hd:(l.getD m Q9).dst=some s
    .rw[hd,Qfb,Qfb]
    .rw[Qc4 hd,Qc4 hd];exact ih (by omega)
   .exact ih (by omega)
 by_cases hd:(l.getD i Q9).dst=some s
 .rw[hd,Qfb];have hi':∀m,i<m->m<=ops.size->frOf l vs fr (λk=>S k||k==i) m s=vs i:=by
   intro m;induction m with
   |zero=>intro h;omega
   |succ m ih=>
    intro h1 h2;unfold frOf;by_cases hmi:m=i
    .subst hmi;rw[if_pos (by simp),hd,Qfb]
    .have:(S m||m==i)=S m:=by have:(m==i)=false:=by simpa using hmi
                              rw[this,Q5q]
     simp only[this];split
     .rename_i hS;have hdm:(l.getD m Q9).dst≠some s:=λe=>by have:=c.cl m (by omega) hS i (c.tied i m (by omega) (by omega) (Qv8 hd e));rw[hiS]at this;cases this
      rw[Qc4 hdm];exact ih (by omega) (by omega)
     .exact ih (by omega) (by omega)
  exact hi' _ hi (Q14 _)
 .rw[Qc4 hd];have:∀m,frOf l vs fr (λk=>S k||k==i) m s=frOf l vs fr S m s:=by
   intro m;induction m with
   |zero=>rfl
   |succ m ih=>
    unfold frOf;by_cases hmi:m=i
    .subst hmi;rw[if_pos (by simp),if_neg (by rw[hiS];simp),Qc4 hd];exact ih
    .have:(S m||m==i)=S m:=by have:(m==i)=false:=by simpa using hmi
                              rw[this,Q5q]
     simp only[this];split
     .by_cases hdm:(l.getD m Q9).dst=some s
      .rw[hdm,Qfb,Qfb]
      .rw[Qc4 hdm,Qc4 hdm];exact ih
     .exact ih
  exact this _
def Ctx.hi_quiet{i:Nat}(he:Za l i=false):∀n,hiOf l (λk=>S k||k==i) n=hiOf l S n
 |0=>rfl
 |n+1=>by
  unfold hiOf;rw[Ctx.hi_quiet he n];by_cases hni:n=i
  .subst hni;simp[he]
  .have:(n==i)=false:=by simpa using hni
   simp only[this,Q5q]
def Ctx.exact(c:Ctx ops l S)(hr:Runs P l frs Hs vs){i:Nat}(hi:i<ops.size)(hiS:S i=false)(hb:∀k,((Region.before ops).getD i 0).testBit k=true->S k=true)(hc:∀q,(q=2\/q=4)->clash q (l.getD i Q9).i.cls=true/\clash (l.getD i Q9).i.cls q=true):hiOf l S ops.size<=i/\Hs (hiOf l S ops.size)=Hs i:=by
 have heff:∀k,Za l k=true->(l.getD k Q9).i.cls=2\/(l.getD k Q9).i.cls=4:=λk hk=>by unfold Za at hk;simpa using hk
 have hle:hiOf l S ops.size<=i:=by
  rcases Qk8 (l:=l) S ops.size with h|⟨k,h1,h2,h3,h4⟩
  .omega
  .rw[h2];refine Q6u λhle=>?_;have hne:i≠k:=λe=>by subst e;rw[hiS]at h3;cases h3
   have:=c.cl k h1 h3 i (c.tied i k (by omega) h1 (Qaw (hc _ (heff k h4)).2));rw[hiS]at this;cases this
 refine⟨hle,?_⟩;have:=hr.same (a:=hiOf l S ops.size) (i-hiOf l S ops.size) (by rw[c.len];omega) (λk h1 h2=>by
  cases he:Za l k with
  |false=>rfl
  |true=>
   have hki:k<i:=by omega
   have hS:=hb k (c.tied k i hki hi (Qaw (hc _ (heff k he)).1));have:=Qiq (l:=l) S ops.size k (by omega) hS he;omega)
 rw[<-this];congr 1;omega
def Ctx.eff(c:Ctx ops l S){i:Nat}(hi:i<ops.size)(hiS:S i=false)(he:Za l i=true):hiOf l (λk=>S k||k==i) ops.size=i+1:=by
 have h1:=Qiq (l:=l) (λk=>S k||k==i) ops.size i hi (by simp) he;rcases Qk8 (l:=l) (λk=>S k||k==i) ops.size with h|⟨k,k1,k2,k3,k4⟩
 .omega
 .by_cases hk:k=i
  .rw[k2,hk]
  .exfalso
   have hS:S k=true:=by have:(k==i)=false:=by simpa using hk
                        rwa[this,Q5q]at k3
   have heff:∀k,Za l k=true->(l.getD k Q9).i.cls=2\/(l.getD k Q9).i.cls=4:=λk hk=>by unfold Za at hk;simpa using hk
   have O:clash (l.getD i Q9).i.cls (l.getD k Q9).i.cls=true:=by rcases heff i he with e1|e1<;>rcases heff k k4 with e2|e2<;>rw[e1,e2]<;>rfl
   have:=c.cl k k1 hS i (c.tied i k (by omega) k1 (Qaw O));rw[hiS]at this;cases this
def Ctx.load(c:Ctx ops l S)(hr:Runs P l frs Hs vs){i:Nat}(hi:i<ops.size)(hiS:S i=false)(hb:∀k,((Region.before ops).getD i 0).testBit k=true->S k=true)(h1:(l.getD i Q9).i.cls=1){fr:Fr}{v:A}{H':Hp}(hst:Qj fr (Hs i) (l.getD i Q9).i=some (v,H'))(hat:∀s∈(l.getD i Q9).i.slots,∀j,(fr s).at?=some j->j<(Hs (hiOf l S ops.size)).length):
 Qj fr (Hs (hiOf l S ops.size)) (l.getD i Q9).i=some (v,Hs (hiOf l S ops.size)):=by
 have hvr:(l.getD i Q9).i.vread=true->(l.any λo=>o.i.vread)=true:=λh=>by
  have hil:i<l.length:=by rw[c.len];exact hi
  rw[Zj (Q12 hil)]at h;exact Q5l.2 ⟨_,Q20 hil,h⟩
 by_cases hle:hiOf l S ops.size<=i
 .have:=hr.alike c.va (a:=hiOf l S ops.size) (i-hiOf l S ops.size) (by rw[c.len];omega) (λk k1 k2 hk4=>by have hS:=hb k (c.tied k i (by omega) hi (Qaw (by rw[hk4,h1];rfl)));have:=Qiq (l:=l) S ops.size k (by omega) hS (by unfold Za;rw[hk4];rfl);omega)
  rw[show hiOf l S ops.size+(i-hiOf l S ops.size)=i by omega]at this;exact(Qlk h1 hvr hst).2 _ _ hat this.2.symm
 .rcases Qk8 (l:=l) S ops.size with h|⟨k,k1,k2,k3,k4⟩
  .omega
  .have:=hr.alike c.va (a:=i) (hiOf l S ops.size-i) (by rw[c.len];have:=Qo2 (l:=l) S ops.size;omega) (λq q1 q2 hq4=>by
    have hqi:q≠i:=λe=>by subst e;rw[h1]at hq4;cases hq4
    have hqS:S q=true:=by
     by_cases hqk:q=k
     .subst hqk;exact k3
     .refine c.cl k k1 k3 q (c.tied q k (by omega) k1 (Qaw ?_));have:(l.getD k Q9).i.cls=2\/(l.getD k Q9).i.cls=4:=by unfold Za at k4;simpa using k4
      rcases this with e|e<;>rw[hq4,e]<;>rfl
    have:=c.cl q (by omega) hqS i (c.tied i q (by omega) (by omega) (Qaw (by rw[h1,hq4];rfl)));rw[hiS]at this;cases this)
   rw[show i+(hiOf l S ops.size-i)=hiOf l S ops.size by omega]at this;exact Qpq h1 hvr hst _ this.2
end main
def Qe6{o:IOp}{s:Nat}(h:s∈o.i.slots):s∈o.reads:=by simp[IOp.reads,h]
def Qsn{P:Program}{κ0:K}{nt:NT}{tok:List Nat}{ops:Array Oper}{K:Fr->Hp->Prop}{Q:Exit->Act->World->Prop}(hK:∀κ fr H a w,κ0.le κ->SR κ nt fr H a w->K fr H->Q .normal a w)(hok:Qso (ops.toList.map (V7 P nt tok ops)) ops (Region.before ops)=true){κ1:Zam.K}{fr:Fr}{H:Hp}{a:Act}{w:World}(h01:κ0.le κ1)(hs1:SR κ1 nt fr H a w)(h:Vn P (ops.toList.map (V7 P nt tok ops)) K fr H):
 wpAny P .any ops Q ops.size (Array.replicate ops.size false) a w:=by
 obtain⟨frs,Hs,vs,r0,r1,hr,hfin⟩:=Qqz _ _ _ h;generalize hl:ops.toList.map (V7 P nt tok ops)=l at*;have hlen:l.length=ops.size:=by rw[<-hl];simp
 rw[hlen]at hfin;have hget:∀(k:Nat)(o:Oper),ops[k]?=some o->l.getD k Q9=V7 P nt tok ops o/\l[k]?=some (V7 P nt tok ops o):=λk o ho=>by
  have:l[k]?=some (V7 P nt tok ops o):=by rw[<-hl,Q2d];simp[ho]
  exact⟨Zj this,this⟩
 subst r0;subst r1;have hR:Runs P l frs Hs vs:=hr;unfold Qso at hok;simp only[Q2n,Q3y,Q2t,Q35,Q5a,Q6p,decide_eq_true_eq]at hok;obtain⟨hok0,hok⟩:=hok;have hvva:(l.any λo=>o.i.vread)=true->∀k,(l.getD k Q9).i.vapp=false:=λh k=>by
  rw[Q5f]at hok0;rcases hok0 with h0|h0
  .rw[h]at h0;cases h0
  .by_cases hk:k<l.length
   .rw[Zj (Q12 hk)];have:=List.any_eq_false.1 h0 _ (Q20 hk);simpa using this
   .simp[List.getD,Q5d (Q5h hk),Q9,I.vapp]
 have htied:∀i j,i<j->j<ops.size->tied (l.getD i Q9) (l.getD j Q9)=true->((Region.before ops).getD j 0).testBit i=true:=λi j hij hj ht=>((hok j hj).2 i hij).resolve_left (by rw[ht];simp)
 have hedge:∀j o,ops[j]?=some o->∀e∈o.after,Region.binds .any e=true->e.on<j:=λj o ho e he hb=>by have hj:j<ops.size:=(Q24.1 ho).1;have:=(hok j hj).1 e (by simpa[ho]using he);exact this.resolve_left (by rw[hb];simp)
 have done:∀(listed:Array Bool)(κ:Zam.K)(a:Act)(w:World),(∀k,k<ops.size->listed.getD k false=true)->κ0.le κ->
  SR κ nt (frOf l vs (frs 0) (λk=>listed.getD k false) ops.size) (Hs (hiOf l (λk=>listed.getD k false) ops.size)) a w->Q .normal a w:=by
  intro listed κ a w hall h0 hs;have e1:∀m,m<=ops.size->frOf l vs (frs 0) (λk=>listed.getD k false) m=frs m:=λm=>by
   induction m with
   |zero=>intro _;rfl
   |succ m ih=>intro hm;have ho:=Q12 (l:=l) (i:=m) (by omega);unfold frOf;rw[if_pos (hall m (by omega)),ih (by omega),(hR m _ ho).2,Zj ho]
  have e2:Hs (hiOf l (λk=>listed.getD k false) ops.size)=Hs ops.size:=by
   have hle:=Qo2 (l:=l) (λk=>listed.getD k false) ops.size;have:=hR.same (a:=hiOf l (λk=>listed.getD k false) ops.size) (ops.size-hiOf l (λk=>listed.getD k false) ops.size) (by omega) (λk h1 h2=>by
    cases he:Za l k with
    |false=>rfl
    |true=>have:=Qiq (l:=l) (λk=>listed.getD k false) ops.size k (by omega) (hall k (by omega)) he;omega)
   rw[<-this];congr 1;omega
  rw[e1 _ (Q14 _),e2]at hs;exact hK κ _ _ a w h0 hs hfin
 have main:∀(fuel:Nat)(listed:Array Bool)(κ:Zam.K)(a:Act)(w:World),listed.size=ops.size->(∀j,j<ops.size->listed.getD j false=true->∀k,((Region.before ops).getD j 0).testBit k=true->listed.getD k false=true)->
  κ0.le κ->SR κ nt (frOf l vs (frs 0) (λk=>listed.getD k false) ops.size) (Hs (hiOf l (λk=>listed.getD k false) ops.size)) a w->((List.range ops.size).filter λk=> !listed.getD k false).length<=fuel->
  wpAny P .any ops Q fuel listed a w:=by
  intro fuel;induction fuel with
  |zero=>
   intro listed κ a w hsz O h0 hs hcnt;have hall:∀k,k<ops.size->listed.getD k false=true:=λk hk=>by
    cases hk':listed.getD k false with
    |true=>rfl
    |false=>
     have:k∈(List.range ops.size).filter λk=> !listed.getD k false:=by simp only[Q3l,Q3y];exact⟨hk,by rw[hk'];rfl⟩
     have:=List.length_pos_of_mem this;omega
   refine⟨?_,?_⟩
   .refine Q5e.2 λi hi=>?_;obtain⟨h1,o,ho,-⟩:=mem_ready.1 hi;have:=hall i (Q24.1 ho).1;have hi':i<listed.size:=by rw[hsz];exact(Q24.1 ho).1
    simp[hi']at h1 this;rw[h1]at this;cases this
   .exact done listed κ a w hall h0 hs
  |succ fuel ih=>
   intro listed κ a w hsz O h0 hs hcnt;refine⟨λhnil=>?_,λi hi=>?_⟩
   .
    refine done listed κ a w (λk hk=>?_) h0 hs;induction k using Nat.strongRecOn with
    |_ k ihk=>
     cases hk':listed.getD k false with
     |true=>rfl
     |false=>
      exfalso
      have ho:ops[k]?=some ops[k]:=Q50 hk;have:k∈Region.ready .any ops listed:=mem_ready.2 ⟨by
       have:k<listed.size:=by omega
       simp[this]at hk'⊢;exact hk',ops[k],ho,λe he hb=>ihk e.on (hedge k _ ho e he hb) (by have:=hedge k _ ho e he hb;omega)⟩
      rw[hnil]at this;cases this
   .obtain⟨h1,o,ho,hbefore⟩:=mem_ready.1 hi;have hi':i<ops.size:=(Q24.1 ho).1;have hil:i<listed.size:=by omega
    have hiS:listed.getD i false=false:=by simp[hil]at h1⊢;exact h1
    have hb:∀k,((Region.before ops).getD i 0).testBit k=true->listed.getD k false=true:=λk hk=>by
     obtain⟨e,he,hbe,hor⟩:=Qrj ho hk;have hon:=hbefore e he hbe;rcases hor with rfl|hor
     .exact hon
     .exact O e.on (by have:=hedge i o ho e he hbe;omega) hon k hor
    have c:Ctx ops l (λk=>listed.getD k false):=⟨hlen,htied,hvva,O⟩;obtain⟨hgd,hg?⟩:=hget i o ho;have hslot:∀s∈(l.getD i Q9).reads,frOf l vs (frs 0) (λk=>listed.getD k false) ops.size s=frs i s:=λs hs=>by
     have:=c.slot hR hi' hiS hb hs ops.size (Q14 _)
     rwa[Q6t (by omega)]at this
    have follow:∀κ' a' w',κ0.le κ'->SR κ' nt ((frOf l vs (frs 0) (λk=>listed.getD k false) ops.size).put (l.getD i Q9).dst (vs i)) (Hs (hiOf l (λk=>listed.getD k false||k==i) ops.size)) a' w'->
     wpAny P .any ops Q fuel (listed.setIfInBounds i true) a' w':=λκ' a' w' h0' hs'=>by
     have hfun:(λk=>(listed.setIfInBounds i true).getD k false)=λk=>listed.getD k false||k==i:=funext λk=>Qgj listed i k hil;refine ih _ κ' a' w' (by simpa using hsz) (λj hj hjS k hk=>?_) h0' ?_ ?_
     .rw[Qgj listed i _ hil]at hjS⊢;simp only[Q35,beq_iff_eq]at hjS⊢;rcases hjS with hjS|rfl
      .exact .inl (O j hj hjS k hk)
      .exact .inl (hb k hk)
     .rw[hfun,c.next hi' hiS];exact hs'
     .have hlt:((List.range ops.size).filter λk=> !(listed.setIfInBounds i true).getD k false).length<((List.range ops.size).filter λk=> !listed.getD k false).length:=by
       have hsub:(List.range ops.size).filter (λk=> !(listed.setIfInBounds i true).getD k false)=((List.range ops.size).filter λk=> !listed.getD k false).filter λk=> !(k==i):=by rw[List.filter_filter];refine List.filter_congr λk _=>?_;rw[Qgj listed i k hil];cases listed.getD k false<;>cases(k==i)<;>rfl
       rw[hsub];refine List.length_filter_lt_length_iff_exists.2 ⟨i,?_,by simp⟩;simp only[Q3l,Q3y];exact⟨hi',by rw[hiS];rfl⟩
      omega
    obtain⟨hstep,-⟩:=hR i _ hg?;have hbad:V7 P nt tok ops o≠Q9:=λe=>by
     rw[e]at hstep;simp only[Qoc,Q9,Qod,Zv,Arg.ev,I.cls]at hstep;rcases hstep with⟨h,-⟩|⟨h,-⟩
     .exact h
     .exact h rfl
    obtain⟨g,ii,hgu,hci,hdst,hcomp⟩:=(Qeo (P:=P) (nt:=nt) (tok:=tok) (ops:=ops) (o:=o)).resolve_left hbad;rw[hcomp]at hstep hgd;have hread:∀s,s∈(l.getD i Q9).i.slots->frOf l vs (frs 0) (λk=>listed.getD k false) ops.size s=frs i s:=λs hs=>hslot s (Qe6 hs);rw[hgd]at hread;simp only at hread;have doit:Qod P (frs i) (Hs i) ii (vs i) (Hs (i+1))->o.wp P a w (wpAny P .any ops Q fuel (listed.setIfInBounds i true)) Q:=by
     intro hsd;rcases hsd with⟨hent,hH⟩|⟨hcls,hst⟩
     .
      rcases Qsl hent with h3|h3
      case inr=>obtain⟨-,hHi⟩:=c.exact hR hi' hiS hb (by rw[hgd];simp only[h3];rintro q (rfl|rfl)<;>exact⟨rfl,rfl⟩);have hent':=(Qiu hread).2 hent;obtain⟨f,us,ars,hrun,hl',hv,hcall⟩:=Qem hci hs hent';unfold Oper.wp;rw[hrun,Oper.upon_enter];rw[<-hHi]at hcall;refine(hcall κ w us hs.hr hl' hv).mono ?_;rintro e w' ⟨v,κ',x,H',rfl,k1,k2,k3,rfl,rfl⟩;refine follow κ' _ w' (h0.trans k1) ?_;rw[c.eff hi' hiS (by unfold Za;rw[hgd];simp only[h3];rfl),hgd];exact hs.put k1 k2 hdst k3
      obtain rfl_:Hs (i+1)=Hs i:=hH.resolve_left (by rw[h3];decide);rw[rfl_]at hent;obtain⟨-,hHi⟩:=c.exact hR hi' hiS hb (by rw[hgd];simp only[h3];rintro q (rfl|rfl)<;>exact⟨rfl,rfl⟩);have hent':=(Qiu hread).2 hent;obtain⟨f,us,ars,hrun,hl',hv,hcall⟩:=Qem hci hs hent';unfold Oper.wp;rw[hrun,Oper.upon_enter];rw[<-hHi]at hcall;refine(hcall κ w us hs.hr hl' hv).mono ?_;rintro e w' ⟨v,κ',x,H',rfl,k1,k2,k3,rfl,rfl⟩;refine follow κ' _ w' (h0.trans k1) ?_;rw[Ctx.hi_quiet (by unfold Za;rw[hgd];simp only[h3];rfl),hgd];exact hs.put k1 k2 hdst k3
     .have hnext:Qj (frOf l vs (frs 0) (λk=>listed.getD k false) ops.size) (Hs (hiOf l (λk=>listed.getD k false) ops.size)) ii=some (vs i,Hs (hiOf l (λk=>listed.getD k false||k==i) ops.size)):=by
       have hcong:Qj (frOf l vs (frs 0) (λk=>listed.getD k false) ops.size) (Hs i) ii=some (vs i,Hs (i+1)):=by rw[Qe5 hread];exact hst
       rcases Qxz ii with h4|h4|h4|h4|h4
       .rw[Ctx.hi_quiet (by unfold Za;rw[hgd];simp only[h4];rfl)];exact(Qgw h4 hcong).2 _
       .rw[Ctx.hi_quiet (by unfold Za;rw[hgd];simp only[h4];rfl)];have:=c.load hR hi' hiS hb (by rw[hgd];exact h4) (fr:=frOf l vs (frs 0) (λk=>listed.getD k false) ops.size) (v:=vs i) (H':=Hs (i+1)) (by rw[hgd];exact hcong) (λs _ j hj=>(hs.vr s).at_lt hs.hr.dom hj);rw[hgd]at this;exact this
       .obtain⟨-,hHi⟩:=c.exact hR hi' hiS hb (by rw[hgd];simp only[h4];rintro q (rfl|rfl)<;>exact⟨rfl,rfl⟩);rw[hHi,c.eff hi' hiS (by unfold Za;rw[hgd];simp only[h4];rfl)];exact hcong
       .exact absurd h4 hcls
       .obtain⟨-,hHi⟩:=c.exact hR hi' hiS hb (by rw[hgd];simp only[h4];rintro q (rfl|rfl)<;>exact⟨rfl,rfl⟩);rw[hHi,c.eff hi' hiS (by unfold Za;rw[hgd];simp only[h4];rfl)];exact hcong
      obtain⟨u,w',κ',hrun,k1,k2,k3⟩:=Qlh hci hs hnext;have hfin':=follow κ' (a.put o.dst u) w' (h0.trans k1) (by rw[hgd];exact hs.put k1 k2 hdst k3);unfold Oper.wp;rcases hrun with hrun|⟨hrun,rfl⟩
      .rw[hrun,Oper.upon_value];exact hfin'
      .rw[hrun,Oper.upon_skip];exact hfin'
    unfold wpOp;simp only[ho];cases g with
    |none=>rw[if_pos (Qbd hgu _)];exact .inl (doit hstep)
    |some sb=>
     obtain⟨s,b⟩:=sb;have hsl:=hslot s (by rw[hgd];simp[IOp.reads]);rw[Qcn hgu];have hgs:∀T F:Prop,(frs i s=.d (.bool b)->T)->((frs i s=.d (.bool (!b))\/frs i s=.tup [])->F)->(frs i s=.d (.bool b)\/(frs i s=.d (.bool (!b))\/frs i s=.tup []))->
      (Qlf a.tmps s b=true/\T)\/(Qlf a.tmps s b=false/\F):=λT F hT hF hor=>by
      have:=Qcx hs (s:=s) (b:=b) (T:=λ_=>T) (F:=λ_=>F) (by
       rw[hsl];rcases hor with e|e|e
       .rw[e];simp only[AGd,if_true];exact hT e
       .rw[e];simp only[AGd];rw[if_neg (by cases b<;>simp)];exact hF (.inl e)
       .rw[e];exact hF (.inr e))
      exact this
     rcases hstep with⟨e,hsd⟩|⟨e,hv,hH⟩
     .rcases hgs True False (λ_=>trivial) (λhh=>by rw[e]at hh;rcases hh with hh|hh;(cases b<;>cases hh);cases hh) (.inl e)with⟨h5,-⟩|⟨-,h5⟩
      .rw[h5];simp only[if_true];exact .inl (doit hsd)
      .exact h5.elim
     .rcases hgs False True (λhh=>by rcases e with e|e;(rw[e]at hh;cases b<;>cases hh);(rw[e]at hh;cases hh)) (λ_=>trivial) (.inr e)with⟨-,h5⟩|⟨h5,-⟩
      .exact h5.elim
      .rw[h5];simp only[Q2c,if_false];refine follow κ _ w h0 ?_;have hHn:Hs (hiOf l (λk=>listed.getD k false||k==i) ops.size)=Hs (hiOf l (λk=>listed.getD k false) ops.size):=by
        by_cases he:Za l i=true
        .have h24:(l.getD i Q9).i.cls=2\/(l.getD i Q9).i.cls=4:=by unfold Za at he;simpa using he
         obtain⟨-,hHi⟩:=c.exact hR hi' hiS hb (by rcases h24 with e|e<;>rw[e]<;>rintro q (rfl|rfl)<;>exact⟨rfl,rfl⟩);rw[hHi,c.eff hi' hiS he,hH]
        .rw[Ctx.hi_quiet (by simpa using he)]
       rw[hHn,hgd,hv];exact hs.put (Zam.K.le_refl κ) hs.hr hdst (.tup [] [] rfl (by simp))
 refine main ops.size _ κ1 a w (by simp) ?_ h01 ?_ ?_
 .intro j _ hj;rw[Qcj]at hj;cases hj
 .have e1:∀n,frOf l vs (frs 0) (λk=>(Array.replicate ops.size false).getD k false) n=frs 0:=λn=>by
   induction n with
   |zero=>rfl
   |succ n ih=>unfold frOf;rw[if_neg (by rw[Qcj];simp)];exact ih
  have e2:∀n,hiOf l (λk=>(Array.replicate ops.size false).getD k false) n=0:=λn=>by
   induction n with
   |zero=>rfl
   |succ n ih=>unfold hiOf;rw[if_neg (by rw[Qcj];simp)];exact ih
  rw[e1,e2];exact hs1
 .exact Q3d (Q4n _ _) (by simp)
end
section
open Go.RowKit (Below)
def Qlv{P:Program}{fr fr':Fr}{H:Hp}{i:I}{K:A->Hp->Prop}(h:∀s∈i.slots,fr' s=fr s):runI P fr' H i K=runI P fr H i K:=by
 cases i with
 |call f l=>simp only[runI];rw[Vr h]
 |callE f l=>simp only[runI];rw[Vr h]
 |callv f l=>simp only[I.slots,Q2r]at h;simp only[runI];rw[W9 (x:=f) λs hs=>h s (.inl hs),Vr (l:=l) λs hs=>h s (.inr hs)]
 |_=>simp only[runI];rw[Qe5 h]
def Qnm{P:Program}{fr:Fr}{H:Hp}{i:I}{K K':A->Hp->Prop}(h:runI P fr H i K)(hk:∀v H',K v H'->K' v H'):runI P fr H i K':=by
 cases i with
 |call f l=>exact Qc.mono h hk
 |callE f l=>exact Qc.mono h hk
 |callv f l=>
  simp only[runI]at h⊢;split at h
  .exact⟨h.1,h.2.mono hk⟩
  .exact⟨h.1,h.2.mono hk⟩
  .exact h.elim
 |_=>
  simp only[runI]at h⊢;split at h
  .exact hk _ _ h
  .exact h.elim
def Qeq{P:Program}{fr fr':Fr}{H:Hp}{o:IOp}{K K':Fr->Hp->Prop}(hf:∀s∈o.reads,fr' s=fr s)(h:AOps P [o] K fr H)(hk:∀v H',K (fr.put o.dst v) H'->K' (fr'.put o.dst v) H'):AOps P [o] K' fr' H:=by
 have hs:∀s∈o.i.slots,fr' s=fr s:=λs hs=>hf s (Qe6 hs);simp only[AOps]at h⊢;cases hg:o.g with
 |none=>rw[hg]at h;simp only at h⊢;rw[Qlv hs];exact Qnm h λv H'=>hk v H'
 |some sb=>
  obtain⟨s,b⟩:=sb;rw[hg]at h;simp only[AGd]at h⊢;rw[hf s (by simp[IOp.reads,hg])];split at h
  .split at h
   .rename_i e;rw[if_pos e,Qlv hs];exact Qnm h λv H'=>hk v H'
   .rename_i e;rw[if_neg e];exact hk _ _ h
  .exact hk _ _ h
  .exact h.elim
def AAny(P:Program)(ops:Array Oper)(l:List IOp)(K:Fr->Hp->Prop):Nat->Array Bool->Fr->Hp->Prop
 |0,listed,fr,H=>Region.ready .any ops listed=[]/\K fr H
 |n+1,listed,fr,H=>(Region.ready .any ops listed=[]->K fr H)/\∀i∈Region.ready .any ops listed,AOps P [l.getD i Q9] (AAny P ops l K n (listed.setIfInBounds i true)) fr H
def Qu6{P:Program}{κ0:K}{nt:NT}{tok:List Nat}{ops:Array Oper}{K:Fr->Hp->Prop}{next:Act->World->Prop}{Q:Exit->Act->World->Prop}(hn:∀κ fr H a w,κ0.le κ->SR κ nt fr H a w->K fr H->next a w){i:Nat}{o:Oper}(ho:ops[i]?=some o){κ:Zam.K}{fr:Fr}{H:Hp}{a:Act}{w:World}(h0:κ0.le κ)(hs:SR κ nt fr H a w)(h:AOps P [V7 P nt tok ops o] K fr H):wpOp P ops Q i next a w:=by
 simp only[AOps]at h;rcases Qeo (P:=P) (nt:=nt) (tok:=tok) (ops:=ops) (o:=o)with hb|⟨g,ii,hg,hi,hd,hcomp⟩
 .rw[hb]at h;simp[Q9,runI,Arg.ev]at h
 .rw[hcomp]at h;simp only at h;have step:∀fr,SR κ nt fr H a w->runI P fr H ii (λv H'=>K (fr.put o.dst v) H')->o.wp P a w next Q:=λfr hs h=>Ql1 hi hd h0 hs h (λκ' v H' u w' h0' hs' hk=>hn κ' _ _ _ _ h0' hs' hk)
  unfold wpOp;rw[ho];simp only;cases g with
  |none=>simp only at h;rw[if_pos (Qbd hg _)];exact .inl (step fr hs h)
  |some sb=>
   obtain⟨s,b⟩:=sb;simp only at h;rw[Qcn hg];rcases Qcx hs h with⟨h1,h2⟩|⟨h1,h2⟩
   .rw[h1];simp only[if_true];exact .inl (step fr hs h2)
   .rw[h1];simp only[Q2c,if_false];exact hn κ _ _ _ _ h0 (hs.put (Zam.K.le_refl κ) hs.hr hd (.tup [] [] rfl (by simp))) h2
def Qob{P:Program}{κ0:K}{nt:NT}{tok:List Nat}{ops:Array Oper}{K:Fr->Hp->Prop}{Q:Exit->Act->World->Prop}(hK:∀κ fr H a w,κ0.le κ->SR κ nt fr H a w->K fr H->Q .normal a w):
 ∀(n:Nat)(listed:Array Bool)(κ:Zam.K)(fr:Fr)(H:Hp)(a:Act)(w:World),κ0.le κ->SR κ nt fr H a w->AAny P ops (ops.toList.map (V7 P nt tok ops)) K n listed fr H->wpAny P .any ops Q n listed a w:=by
 intro n;induction n with
 |zero=>intro listed κ fr H a w h0 hs h;exact⟨h.1,hK κ fr H a w h0 hs h.2⟩
 |succ n ih=>
  intro listed κ fr H a w h0 hs h;refine⟨λe=>hK κ fr H a w h0 hs (h.1 e),λi hi=>?_⟩;obtain⟨-,o,ho,-⟩:=mem_ready.1 hi;have h1:=h.2 i hi;have:(ops.toList.map (V7 P nt tok ops)).getD i Q9=V7 P nt tok ops o:=by
   have:(ops.toList.map (V7 P nt tok ops))[i]?=some (V7 P nt tok ops o):=by rw[Q2d];simp[ho]
   exact Zj this
  rw[this]at h1;exact Qu6 (λκ fr H a w h0 hs h=>ih _ κ fr H a w h0 hs h) ho h0 hs h1
def Qu1{fr:Fr}{d d':Option Nat}{v v':A}(h:∀x,d=some x->d'≠some x):(fr.put d v).put d' v'=(fr.put d' v').put d v:=by
 cases d with
 |none=>rfl
 |some x=>
  cases d' with
  |none=>rfl
  |some y=>have hxy:x≠y:=λe=>h x rfl (by rw[e]);funext s;simp only[Fr.put,Fr.set];by_cases h1:s=x<;>by_cases h2:s=y<;>simp_all
def Qp5{fr:Fr}{d:Option Nat}{v:A}{s:Nat}(h:d≠some s):(fr.put d v) s=fr s:=by
 cases d with
 |none=>rfl
 |some x=>simp only[Fr.put,Fr.set];rw[if_neg];intro e;exact h (by rw[e])
def Qpw{a b:IOp}(h:Qhm a b=false):(∀d,a.dst=some d->d∉b.reads/\b.dst≠some d)/\∀d,b.dst=some d->d∉a.reads:=by
 unfold Qhm at h;rw[Q5m]at h;refine⟨λd hd=>?_,λd hd=>?_⟩
 .have:=h.1;rw[hd]at this;simpa using this
 .have:=h.2;rw[hd]at this;simpa using this
def Qm9{P:Program}{fr:Fr}{H:Hp}{o:IOp}{K:Fr->Hp->Prop}(hc:o.i.cls=0)(hg:o.g=none)(h:AOps P [o] K fr H):∃v,(∀H2,Qj fr H2 o.i=some (v,H2))/\K (fr.put o.dst v) H:=by
 simp only[AOps]at h;rw[hg]at h;simp only at h;rcases Qli h with⟨f,l,e|e⟩|⟨f,l,e⟩|⟨v,H',hst,hk⟩
 .rw[e]at hc;cases hc
 .rw[e]at hc;cases hc
 .rw[e]at hc;cases hc
 .obtain⟨h1,h2⟩:=Qgw hc hst;subst h1;exact⟨v,h2,hk⟩
def Qyh{P:Program}{fr:Fr}{H:Hp}{o:IOp}{K:Fr->Hp->Prop}(hc:o.i.cls=0)(hg:o.g=none){v:A}(h:Qj fr H o.i=some (v,H))(hk:K (fr.put o.dst v) H):AOps P [o] K fr H:=by simp only[AOps];rw[hg];simp only;generalize o.i=i at hc h;cases i<;>first|(simp only[I.cls]at hc;exact absurd hc (by decide))|(simp only[runI,h];exact hk)
def set_comm{listed:Array Bool}{i j:Nat}:(listed.setIfInBounds i true).setIfInBounds j true=(listed.setIfInBounds j true).setIfInBounds i true:=by
 by_cases h:i=j
 .subst h;rfl
 .apply Array.ext';simp only[Q6z];exact Q4j _ _ h
def Qvw{P:Program}{ops:Array Oper}{l:List IOp}{K:Fr->Hp->Prop}{i:Nat}:∀(n:Nat)(listed:Array Bool)(fr:Fr)(H:Hp),i∈Region.ready .any ops listed->Qgk l ops listed i=true->
 AOps P [l.getD i Q9] (AAny P ops l K n (listed.setIfInBounds i true)) fr H->AAny P ops l K (n+1) listed fr H:=by
 intro n;induction n with
 |zero=>
  intro listed fr H hi hf h;refine⟨λe=>by(rw[e]at hi;cases hi),λj hj=>?_⟩;by_cases hij:j=i
  .subst hij;exact h
  .exfalso
   unfold Qgk at hf;simp only[Q2t,beq_iff_eq,Q4p]at hf;obtain⟨v,-,hk⟩:=Qm9 hf.1.1 hf.1.2 h;have:=hk.1;have hj':j∈Region.ready .any ops (listed.setIfInBounds i true):=by
    obtain⟨h1,o,ho,h2⟩:=mem_ready.1 hj;refine mem_ready.2 ⟨by rw[getD_set_ne _ (λe=>hij e.symm)];exact h1,o,ho,λe he hb=>?_⟩;by_cases hei:i=e.on
    .rw[<-hei];obtain⟨h3,_,ho',_⟩:=mem_ready.1 hi;by_cases hlt:i<listed.size
     .simp[hlt]
     .simp[hlt]at h3
    .rw[getD_set_ne _ hei];exact h2 e he hb
   rw[this]at hj';cases hj'
 |succ n ih=>
  intro listed fr H hi hf h;refine⟨λe=>by(rw[e]at hi;cases hi),λj hj=>?_⟩;by_cases hij:j=i
  .subst hij;exact h
  .have hf0:=hf;unfold Qgk at hf;simp only[Q2t,beq_iff_eq,Q4p]at hf;obtain⟨⟨hc,hg⟩,hall⟩:=hf;obtain⟨v,hst,hk⟩:=Qm9 hc hg h;obtain⟨hi1,oi,hoi,hi2⟩:=mem_ready.1 hi;obtain⟨hj1,oj,hoj,hj2⟩:=mem_ready.1 hj;have hisz:i<listed.size:=by
    by_cases hlt:i<listed.size
    .exact hlt
    .simp[hlt]at hi1
   have hjsz:j<listed.size:=by
    by_cases hlt:j<listed.size
    .exact hlt
    .simp[hlt]at hj1
   have hjr:j∈Region.ready .any ops (listed.setIfInBounds i true):=by
    refine mem_ready.2 ⟨by rw[getD_set_ne _ (λe=>hij e.symm)];exact hj1,oj,hoj,λe he hb=>?_⟩;by_cases hei:i=e.on
    .rw[<-hei];simp[hisz]
    .rw[getD_set_ne _ hei];exact hj2 e he hb
   have hir:i∈Region.ready .any ops (listed.setIfInBounds j true):=by
    refine mem_ready.2 ⟨by rw[getD_set_ne _ hij];exact hi1,oi,hoi,λe he hb=>?_⟩;by_cases hei:j=e.on
    .rw[<-hei];simp[hjsz]
    .rw[getD_set_ne _ hei];exact hi2 e he hb
   have hfj:Qgk l ops (listed.setIfInBounds j true) i=true:=by
    unfold Qgk;simp only[Q2t,beq_iff_eq,Q4p];refine⟨⟨hc,hg⟩,?_⟩;rw[Q2n]at hall⊢;intro k hk';have:=hall k hk';simp only[Q35]at this⊢;rcases this with(((h1|h1)|h1)|h1)
    .exact .inl (.inl (.inl h1))
    .refine .inl (.inl (.inr ?_));rw[Qgj listed j k hjsz];simp[h1]
    .exact .inl (.inr h1)
    .exact .inr h1
   have hnt:Qhm (l.getD i Q9) (l.getD j Q9)=false:=by
    rw[Q2n]at hall;have hjo:j<ops.size:=(Q24.1 hoj).1;have:=hall j (Q3y.2 hjo);simp only[Q35,beq_iff_eq,Q5a]at this;rcases this with(((h1|h1)|h1)|h1)
    .exact absurd h1 hij
    .have h3:listed.getD j true=true:=by simp[hjsz]at h1⊢;exact h1
     rw[h3]at hj1;cases hj1
    .exfalso
     have hjd:ops.getD j default=oj:=by simp[hoj]
     rw[hjd]at h1;unfold waits at h1;rw[Array.any_eq_true']at h1;obtain⟨e,he,h4⟩:=h1;simp only[Q2t,beq_iff_eq]at h4;have:=hj2 e he h4.1;rw[h4.2]at this;simp[hisz]at this hi1;rw[hi1]at this;cases this
    .exact h1
   obtain⟨t1,t2⟩:=Qpw hnt;have hj':=hk.2 j hjr;refine Qeq (fr:=fr.put (l.getD i Q9).dst v) (λs hs=>?_) hj' λvj Hj hkj=>?_
   .rw[Qp5];intro e;exact(t1 s e).1 hs
   .refine ih _ _ _ hir hfj (Qyh hc hg (v:=v) ?_ ?_)
    .rw[Qe5 (fr:=fr)]
     .exact hst Hj
     .intro s hs;rw[Qp5];intro e;exact t2 s e (Qe6 hs)
    .rw[Qu1 (λx hx e=>(t1 x e).2 hx),set_comm];exact hkj
def Qrw{P:Program}{n0:Nat}{Q:Ex->Fr->Hp->Prop}{fr:Fr}{H:Hp}:∀(cs:List C),AWp P n0 (alts cs) Q fr H->∀c∈cs,AWp P n0 c Q fr H
 |[],_,c,hc=>by cases hc
 |[c],h,c',hc=>by simp at hc;subst hc;exact h
 |c::c2::r,h,c',hc=>by
  simp only[alts,AWp]at h;rcases Q2v.1 hc with rfl|hc
  .exact h.1
  .exact Qrw (c2::r) h.2 c' hc
def Qsd{P:Program}{n0:Nat}{Q:Ex->Fr->Hp->Prop}{ops:Array Oper}{l:List IOp}:∀(n b:Nat)(listed:Array Bool)(fr:Fr)(H:Hp),AWp P n0 (orders l ops n b listed) Q fr H->AAny P ops l (Q .normal) n listed fr H:=by
 intro n;induction n with
 |zero=>
  intro b listed fr H h;unfold orders at h;split at h
  .rename_i e;exact⟨Q6a.1 e,h⟩
  .exact h.elim
 |succ n ih=>
  intro b listed fr H h;unfold orders at h;simp only at h;split at h
  .rename_i e;have e':=Q6a.1 e;exact⟨λ_=>h,λi hi=>by rw[e']at hi;cases hi⟩
  .split at h
   .rename_i i hi;refine Qvw n listed fr H (Q60 hi) (by simpa using List.find?_some hi) ?_;simp only[AWp]at h;exact Qeq (λ_ _=>rfl) h λv H' hk=>ih _ _ _ _ hk
   .split at h
    .exact h.elim
    .refine⟨λe=>absurd (Q6a.2 e) (by assumption),λi hi=>?_⟩;have:=Qrw _ h _ (Q3c.2 ⟨i,hi,rfl⟩);simp only[AWp]at this;exact Qeq (λ_ _=>rfl) this λv H' hk=>ih _ _ _ _ hk
def Qlx{ops:Array Oper}{listed:Array Bool}{i:Nat}:i∈Qgz (Qew ops) listed.toList↔i∈Region.ready .any ops listed:=by
 unfold Qgz Qew Region.ready;simp only[Q3l,Q3y,Q2y,Q5v];refine and_congr_right λhi=>?_;have e:ops[i]?=some ops[i]:=Q50 hi;have g:∀(j:Nat)(b:Bool),listed.toList.getD j b=listed.getD j b:=λj b=>by simp[List.getD,Q23]
 have h1:(ops.toList.map λo=>(o.after.toList.filter (Region.binds .any)).map (·.on)).getD i []=((ops[i]).after.toList.filter (Region.binds .any)).map (·.on):=by
  simp[List.getD,hi]
 rw[h1,e];simp only[Q3q,Q4e,Q2t,Q2n,Q3c,Q3l,Array.all_eq_true',Q35,Q5a,g];refine and_congr_right λ_=>⟨λh ed he=>?_,?_⟩
 ·cases hb:Region.binds .any ed with
  |false=>exact .inl rfl
  |true=>exact .inr (h _ ⟨ed,⟨by simpa using he,hb⟩,rfl⟩)
 ·rintro h _ ⟨ed,⟨he,hb⟩,rfl⟩;rcases h ed (by simpa using he)with h|h
  ·rw[hb]at h;cases h
  ·exact h
def Qzn{P:Program}{ops:Array Oper}{l:List IOp}{K:Fr->Hp->Prop}{Inv:List Bool->Fr->Hp->Prop}(hi:∀(S:List Bool) (fr:Fr) (H:Hp),S.length=ops.size->Inv S fr H->(Qgz (Qew ops) S=[]->K fr H)/\∀i∈Qgz (Qew ops) S,AOps P [l.getD i Q9] (Inv (S.set i true)) fr H):
 ∀(n:Nat)(listed:Array Bool)(fr:Fr)(H:Hp),listed.size=ops.size->listed.toList.count false<=n->Inv listed.toList fr H->AAny P ops l K n listed fr H:=by
 have nil:∀(listed:Array Bool),Region.ready .any ops listed=[]->Qgz (Qew ops) listed.toList=[]:=λlisted h=>by refine Q5e.2 λi hi=>?_;have:=Qlx.1 hi;rw[h]at this;cases this
 intro n;induction n with
 |zero=>
  intro listed fr H hs hc h;have he:Region.ready .any ops listed=[]:=by
   refine Q5e.2 λi hi=>?_;obtain⟨h1,o,ho,-⟩:=mem_ready.1 hi;have hil:i<listed.size:=by rw[hs];exact(Q24.1 ho).1
   have h2:listed.toList.count false=0:=Nat.le_zero.1 hc;rw[List.count_eq_zero]at h2;refine h2 ?_;have h3:listed.toList[i]'(by simpa using hil)=false:=by simpa[Q23,hil]using h1
   rw[<-h3];exact Q20 _
  exact⟨he,(hi _ fr H (by simpa using hs) h).1 (nil _ he)⟩
 |succ n ih=>
  intro listed fr H hs hc h;obtain⟨h1,h2⟩:=hi _ fr H (by simpa using hs) h;refine⟨λe=>h1 (nil _ e),λi hi=>?_⟩;refine Qeq (λ_ _=>rfl) (h2 i (Qlx.2 hi)) λv H' hk=>ih _ _ _ (by simpa using hs) ?_ (by simpa using hk);obtain⟨hf,o,ho,-⟩:=mem_ready.1 hi;have hil:i<listed.size:=by rw[hs];exact(Q24.1 ho).1
  have h3:listed.toList[i]'(by simpa using hil)=false:=by simpa[Q23,hil]using hf
  have h4:(listed.setIfInBounds i true).toList.count false=listed.toList.count false-1:=by rw[Q6z,List.count_set (h:=by simpa using hil),h3];rfl
  have h5:0<listed.toList.count false:=List.count_pos_iff.2 (by rw[<-h3];exact Q20 _);omega
def Qd2{P:Program}{κ0:K}{nt:NT}{n0:Nat}{tok:List Nat}(hd0:∀i,n0<=i->κ0.β i=.none):∀(code:Code)(Q:Ex->Fr->Hp->Prop)(κ:K)(fr:Fr)(H:Hp)(a:Act)(w:World),κ0.le κ->SR κ nt fr H a w->
 AWp P n0 (Z3 P nt tok code) Q fr H->code.wp P (Post κ0 nt Q) a w:=by
 intro code;induction code with
 |skip=>intro Q κ fr H a w h0 hs h;exact wp_skip ⟨κ,fr,H,.normal,trivial,h0,hs,h⟩
 |region id ops draw=>
  intro Q κ fr H a w h0 hs h;have hK:∀κ fr H a w,κ0.le κ->SR κ nt fr H a w->Q .normal fr H->Post κ0 nt Q .normal a w:=λκ fr H a w h0 hs h=>⟨κ,fr,H,.normal,trivial,h0,hs,h⟩;cases draw with
  |false=>simp only[Z3,AWp]at h;exact wp_region_list (Qu5 hK _ κ fr H a w h0 hs h)
  |true=>
   simp only[Z3]at h;split at h
   .rename_i hok;simp only[Q2t]at hok;simp only[AWp]at h;exact wp_region_any hok.1.2 (Qsn hK hok.1.1 (w:=w.drew) h0 ⟨hs.size,hs.defers,hs.hr.drew,hs.vr⟩ h)
   .split at h
    .rename_i hmix;simp only[Q2t]at hmix;simp only[AWp]at h;obtain⟨Inv,h1,h2⟩:=h;have hw:(Qew ops).length=ops.size:=by simp[Qew]
     rw[hw]at h1 h2;exact wp_region_any hmix.1 (Qob hK _ _ κ fr H a w.drew h0 ⟨hs.size,hs.defers,hs.hr.drew,hs.vr⟩ (Qzn h2 _ _ _ _ (by simp) (by simp) (by simpa using h1)))
    split at h
    .rename_i hmix;exact wp_region_any hmix (Qob hK _ _ κ fr H a w.drew h0 ⟨hs.size,hs.defers,hs.hr.drew,hs.vr⟩ (Qsd _ _ _ _ _ h))
    .simp[AWp]at h
 |seq x y ihx ihy=>
  intro Q κ fr H a w h0 hs h;simp only[Z3,AWp]at h;refine wp_seq (wp_mono (ihx _ κ fr H a w h0 hs h) ?_);rintro e a' w' ⟨κ',fr',H',e',he,h0',hs',hq⟩;cases e<;>cases e'<;>simp only[ExR]at he
  .exact ihy _ κ' fr' H' a' w' h0' hs' hq
  .exact⟨κ',fr',H',.exit _,he,h0',hs',hq⟩
  .exact⟨κ',fr',H',.ret,trivial,h0',hs',hq⟩
 |cond c x y ihx ihy=>
  intro Q κ fr H a w h0 hs h;simp only[Z3]at h;split at h
  .rename_i c' hc;simp only[AWp,ABr]at h;split at h
   .rename_i t e;have hv:=Ql hc hs;rw[e]at hv;refine wp_cond hv.bool_inv ?_;cases t with
    |true=>simp only[if_true]at h⊢;exact ihx Q κ fr H a w h0 hs h
    |false=>simp only[Q2c,if_false]at h⊢;exact ihy Q κ fr H a w h0 hs h
   .exact h.elim
  .exact h.elim
 |block id c ih=>
  intro Q κ fr H a w h0 hs h;simp only[Z3,AWp]at h;refine wp_block (wp_mono (ih _ κ fr H a w h0 hs h) ?_);rintro e a' w' ⟨κ',fr',H',e',he,h0',hs',hq⟩;cases e<;>cases e'<;>simp only[ExR]at he
  .exact⟨κ',fr',H',.normal,trivial,h0',hs',hq⟩
  .rename_i i j;subst he;simp only[Ex.blk]at hq;simp only[Exit.inBlock];split at hq
   .rename_i e;rw[if_pos e];exact⟨κ',fr',H',.normal,trivial,h0',hs',hq⟩
   .rename_i e;rw[if_neg e];exact⟨κ',fr',H',.exit _,rfl,h0',hs',hq⟩
  .exact⟨κ',fr',H',.ret,trivial,h0',hs',hq⟩
 |loop c ih=>
  intro Q κ fr H a w h0 hs h;simp only[Z3,AWp]at h;obtain⟨m,J,μ,hm1,hm2,hJ,hround⟩:=h;have hcut:∀k,m<=k->∀κ:K,κ0.le κ->κ0.le (κ.cut k):=λk hk κ h=>K.le_cut h λi hi=>hd0 i (by omega);refine wp_loop_ghost (λn a w=>∃κ fr H,κ0.le κ/\SR κ nt fr H a w/\J fr H/\μ fr H=n) _ ⟨κ.cut m,_,_,hcut m (Q14 _) κ h0,hs.cut m hm2,hJ,rfl⟩ ?_;rintro n a w ⟨κ,fr,H,h0,hs,hJ,rfl⟩;refine wp_mono (ih _ κ fr H a w h0 hs (hround fr H hJ)) ?_;rintro e a' w' ⟨κ',fr',H',e',he,h0',hs',hq⟩;cases e<;>cases e'<;>simp only[ExR]at he
  .obtain⟨k,hk,q1,q2,q3⟩:=hq;exact⟨_,q3,κ'.cut k,_,_,hcut k hk κ' h0',hs'.cut k q1,q2,rfl⟩
  .exact⟨κ',fr',H',.exit _,he,h0',hs',hq⟩
  .exact⟨κ',fr',H',.ret,trivial,h0',hs',hq⟩
 |exit id=>intro Q κ fr H a w h0 hs h;exact wp_exit ⟨κ,fr,H,.exit id,rfl,h0,hs,h⟩
 |ret=>intro Q κ fr H a w h0 hs h;exact wp_ret ⟨κ,fr,H,.ret,trivial,h0,hs,h⟩
 |_=>intro Q κ fr H a w h0 hs h;exact h.elim
inductive Res where
 |t (s:Nat)
 |cell (s n:Nat) (agg:Bool)
structure IFn where
 nt:Nat
 res:List Res
 body:C
def Qiw(P:Program):ResultVar->Option Res
 |.tmp t=>some (.t t)
 |.cell a t=>match P.underlying t,P.info? t with
  |some d,some i=>if Z8 d then some (.cell a i.size true)else some (.cell a 1 false)
  |_,_=>none
def Qn(P:Program)(tok:List Nat)(fn:Func):Option IFn:=
 match fn.body,fn.results.toList.mapM (Qiw P)with
 |some c,some rs=>some {nt:=fn.ntmps,res:=rs,body:=Z3 P fn.ntmps tok c}
 |_,_=>none
def Qns(fr:Fr)(H:Hp):Res->Option A
 |.t s=>some (fr s)
 |.cell s n agg=>(ldA H n (fr s)).map λcs=>if agg then .agg cs else cs.headD .undef
def resA(fr:Fr)(H:Hp)(rs:List Res):Option A:=
 (rs.mapM (Qns fr H)).map λ
  |[x]=>x
  |xs=>.tup xs
def Fr.init(args:List A):Fr:=λs=>(args[s]?).getD (.tup [])
def Ret(res:List Res)(n0:Nat)(K:A->Hp->Prop):Ex->Fr->Hp->Prop
 |.exit _,_,_=>False
 |_,fr,H=>∃x m,resA fr H res=some x/\n0<=m/\m<=H.length/\K (x.clr m) (Hp.cut m H)
def Qi9(tmps:Array Value):ResultVar->Sem Value
 |.tmp t=>pure (tmps.getD t undef)
 |.cell b t=>do loadVar t (<-asAddr (tmps.getD b undef))
def Qpz{P:Program}{κ:K}{nt:NT}{fr:Fr}{H:Hp}{a:Act}{w:World}(hs:SR κ nt fr H a w):∀(l:List ResultVar)(rs:List Res)(xs:List A),l.mapM (Qiw P)=some rs->rs.mapM (Qns fr H)=some xs->
 ∃vs:List Value,(l.mapM (Qi9 a.tmps)).run P w=.ok vs w/\vs.length=xs.length/\∀(i:Nat)(v:Value)(x:A),vs[i]?=some v->xs[i]?=some x->VR κ v x:=by
 intro l;induction l with
 |nil=>intro rs xs h h';simp at h;subst h;simp at h';subst h';exact⟨[],by simp,rfl,by simp⟩
 |cons r l ih=>
  intro rs xs h h';simp only[Q3k,Q2h,Q2a,Q2q,somI]at h;obtain⟨r',hr',rs',hrs',rfl⟩:=h;simp only[Q3k,Q2h,Q2a,Q2q,somI]at h';obtain⟨x,hx,xs',hxs',rfl⟩:=h';obtain⟨vs,h1,h2,h3⟩:=ih rs' xs' hrs' hxs';have one:∃v,(Qi9 a.tmps r).run P w=.ok v w/\VR κ v x:=by
   cases r with
   |tmp t=>simp only[Qiw,somI]at hr';subst hr';simp only[Qns,somI]at hx;subst hx;exact⟨_,rfl,hs.vr t⟩
   |cell b t=>
    simp only[Qiw]at hr';split at hr'
    .rename_i d i hd hi;cases hagg:Z8 d with
     |true=>rw[hagg]at hr';simp only[if_true,somI]at hr';subst hr';simp only[Qns,Q13,if_true]at hx;obtain⟨cs,hcs,rfl⟩:=hx;obtain⟨ad,us,e1,e2,e3,e4,e5⟩:=Qhx hs.hr hcs (hs.vr b);refine⟨.agg us.toArray,?_,.agg us cs (by omega) e5⟩;simp only[Qi9,e1];have hld:=run_loadCells_list (P:=P) w ad us e4;rw[e2]at hld;simp[asAddr,loadVar,Qb3 hd,hagg,sizeOf,typeInfo,hi,hld]
     |false=>
      rw[hagg]at hr';simp only[Q2c,if_false,somI]at hr';subst hr';simp only[Qns,Q13,Q2c,if_false]at hx;obtain⟨cs,hcs,rfl⟩:=hx;obtain⟨ad,us,e1,e2,e3,e4,e5⟩:=Qhx hs.hr hcs (hs.vr b);match us,e2,cs,e3 with
      |[u],_,[c],_=>
       refine⟨u,?_,e5 0 u c rfl rfl⟩;simp only[Qi9,e1];have h40:=e4 0 u rfl;have hadd:ad.add 0=ad:=by simp[Addr.add]
       rw[hadd]at h40;simp[asAddr,loadVar,Qb3 hd,hagg,h40]
    .cases hr'
  obtain⟨v,hv1,hv2⟩:=one;refine⟨v::vs,?_,by simp[h2],λi u y hu hy=>?_⟩
  .simp only[Q3k,Q27,hv1,Q2s,h1,Q3u]
  .cases i with
   |zero=>simp at hu hy;subst hu;subst hy;exact hv2
   |succ i=>exact h3 i u y (by simpa using hu) (by simpa using hy)
def Qro{P:Program}{f:FuncId}{fn:Func}{tok:List Nat}{ifn:IFn}{args:List A}{H:Hp}{K:A->Hp->Prop}(hf:P.funcs[f]?=some fn)(hc:Qn P tok fn=some ifn)(hn:args.length<=ifn.nt)(h:H.Closed->(∀a∈args,a.flat0=true->a.lo H.length=true)->AWp P H.length ifn.body (Ret ifn.res H.length K) (Fr.init args) H):Qc P f args H K:=by
 intro κ w vs hr hl hv;unfold Qn at hc;split at hc
 .rename_i c rs hb hrs;cases hc
  refine calls_of_wp hf hb ?_;have hvs:∀i v,vs[i]?=some v->∃a,args[i]?=some a/\VR κ v a:=λi v hi=>by
   have:i<args.length:=by rw[<-hl];exact(Q11.1 hi).1
   exact⟨args[i],Q12 this,hv i v _ hi (Q12 this)⟩
  have hlo:∀a∈args,a.flat0=true->a.lo H.length=true:=λa ha hf=>by obtain⟨i,hi,rfl⟩:=Q3h ha;exact(hv i (vs[i]'(by omega)) _ (Q12 _) (Q12 hi)).lo_of hr.dom hf
  have hs:SR κ ⟨fn.ntmps,[]⟩ (Fr.init args) H {tmps:=vs.toArray++Array.replicate (fn.ntmps-vs.toArray.size) undef,defers:=[]} w:=by
   refine⟨by simp only[Q4k,Q3s,Array.size_replicate];simp only at hn;omega,rfl,hr,λs=>?_⟩;simp only[Fr.init];by_cases hlt:s<args.length
   .have hlt':s<vs.length:=by omega
    rw[Q23,Q3o (by simpa using hlt')];simp only[Q7e,Q12 hlt',Q12 hlt,Q4e];exact hv s _ _ (Q12 hlt') (Q12 hlt)
   .rw[Q5d (by omega),Q23,Q6y (by simpa using(by omega:vs.length<=s))];have:((Array.replicate (fn.ntmps-vs.toArray.size) undef)[s-vs.toArray.size]?).getD undef=undef:=by
     by_cases h2:s-vs.toArray.size<fn.ntmps-vs.toArray.size
     .rw[Q44,if_pos h2];rfl
     .rw[Q44,if_neg h2];rfl
    rw[this];exact .tup [] [] rfl (by simp)
  refine wp_mono (Qd2 hr.dom c _ κ _ H _ w (Zam.K.le_refl κ) hs (h hr.closed hlo)) ?_;rintro e a' w' ⟨κ',fr',H',e',he,h0',hs',hq⟩;have fin:(∃x m,resA fr' H' rs=some x/\H.length<=m/\m<=H'.length/\K (x.clr m) (Hp.cut m H'))->a'.defers=[]/\∃v,(results fn a'.tmps).run P w'=.ok v w'/\
   ∃v1 κ1 x1 H1,Ending.returned v=.returned v1/\κ.le κ1/\HR κ1 H1 w'/\VR κ1 v1 x1/\K x1 H1:=by
   rintro⟨x,m,hx,hm1,hm2,hk⟩;refine⟨hs'.defers,?_⟩;simp only[resA,Q13]at hx;obtain⟨xs,hxs,hx⟩:=hx;obtain⟨us,h1,h2,h3⟩:=Qpz hs' _ _ _ hrs hxs;have hrun:(fn.results.mapM (Qi9 a'.tmps)).run P w'=.ok us.toArray w':=by rw[Q63];simp only[Sem.run_map,h1,Q2s]
   have hres:(results fn a'.tmps).run P w'=.ok (if h:us.toArray.size=1 then us.toArray[0]else .tuple us.toArray) w':=by have e0:results fn a'.tmps=(do let vs<-fn.results.mapM (Qi9 a'.tmps);pure (if h:vs.size=1 then vs[0]else .tuple vs)):=rfl;rw[e0];simp only[Q27];rw[hrun];rfl
   refine⟨_,hres,_,κ'.cut m,x.clr m,Hp.cut m H',rfl,Zam.K.le_cut h0' λi hi=>hr.dom i (by omega),hs'.hr.cut m hm2,?_,hk⟩;refine VR.clr m ?_;clear hxs h1 hrun hres;match xs,us,h2,hx,h3 with
   |[y],[u],_,hx,h3=>subst hx;exact h3 0 u y rfl rfl
   |[],[],_,hx,_=>subst hx;exact .tup [] [] rfl (by simp)
   |y1::y2::ys,u1::u2::us',hl2,hx,h3=>subst hx;rw[dif_neg (by simp)];exact .tup _ _ hl2 h3
  cases e<;>cases e'<;>simp only[ExR]at he
  .exact fin hq
  .exact hq.elim
  .exact fin hq
 .cases hc
end
end Go.Zam
namespace Go.Zam.Ix
section
open Go.Proofs
structure Hold{α:Type}(a:α):Prop where
def Hold.p{f:(Nat->UInt8)->(Nat->Int)->(Nat->Int)->IFn}(_:Hold f):IFn:=f (λn=>@OfNat.ofNat UInt8 n UInt8.instOfNat) (λn=>@OfNat.ofNat Int n instOfNat) λn=>-@OfNat.ofNat Int n instOfNat
@[simp↓]theorem Hold.p_eq{f:(Nat->UInt8)->(Nat->Int)->(Nat->Int)->IFn}(h:Hold f):h.p=f (λn=>@OfNat.ofNat UInt8 n UInt8.instOfNat) (λn=>@OfNat.ofNat Int n instOfNat) λn=>-@OfNat.ofNat Int n instOfNat:=rfl
def sX(n:Nat):List (Nat×Nat)->Nat
 |[]=>n
 |(a,b)::r=>match a.beq n with|true=>b|false=>sX n r
inductive R where
 |n
 |o (i:Nat) (r:R)
 |b (x y:R)
def R.c(l:List IOp):R->C
 |.n=>.skip
 |.o i r=>.seq (.ops [l.getD i Q9] false) (r.c l)
 |.b x y=>.both (x.c l) (y.c l)
def sR(n:Nat):List (Nat×R)->Option R
 |[]=>none
 |(a,b)::r=>match a.beq n with|true=>some b|false=>sR n r
structure W where
 u:Nat->UInt8
 p:Nat->Int
 q:Nat->Int
 F:List (Nat×Nat)
 T:List (Nat×Nat)
 R:List (Nat×R)
section
variable(w:W)
mutual
def sD:D->D
 |.int k n=>match n with|.ofNat m=>.int k (w.p m)|.negSucc m=>.int k (w.q (m+1))
 |.str s=>.str (s.map λb=>w.u b.toNat)
 |.sl z n l=>.sl z n (sDll l)
 |.fn f=>.fn (sX f w.F)
 |x=>x
def sDl:List D->List D
 |[]=>[]
 |a::l=>sD a::sDl l
def sDll:List (List D)->List (List D)
 |[]=>[]
 |a::l=>sDl a::sDll l
end
def sA:Arg->Arg
 |.t n=>.t n
 |.c x=>.c (sD w x)
def sT(l:List (Nat×Nat×Nat)):List (Nat×Nat×Nat):=l.map λx=>(x.1,x.2.1,sX x.2.2 w.T)
def sP(l:List (Nat×Nat×Arg)):List (Nat×Nat×Arg):=l.map λx=>(x.1,x.2.1,sA w x.2.2)
def sFn:Fn->Fn
 |.func f=>.func (sX f w.F)
 |x=>x
def sI:I->I
 |.mv x=>.mv (sA w x)
 |.nilT n e=>.nilT n (sX e w.T)
 |.nilW n e=>.nilW n (sX e w.T)
 |.pick c a b=>.pick (sA w c) (sA w a) (sA w b)
 |.alloc t cs=>.alloc (sX t w.T) (sDl w cs)
 |.allocT t cs j n e=>.allocT (sX t w.T) (sDl w cs) j n (sX e w.T)
 |.allocU t cs ts=>.allocU (sX t w.T) (sDl w cs) (sT w ts)
 |.box t n x=>.box (sX t w.T) n (sA w x)
 |.store n x v=>.store n x (sA w v)
 |.bin o x y=>.bin o (sA w x) (sA w y)
 |.beq b x y=>.beq b (sA w x) (sA w y)
 |.sidx x y=>.sidx (sA w x) (sA w y)
 |.iaddr n x y=>.iaddr n x (sA w y)
 |.aidx n x y=>.aidx n x (sA w y)
 |.iaddrV n x y=>.iaddrV n x (sA w y)
 |.sslice x y z=>.sslice (sA w x) (y.map (sA w)) (z.map (sA w))
 |.slice n x y z v=>.slice n x (y.map (sA w)) (z.map (sA w)) (v.map (sA w))
 |.build z l=>.build (sDl w z) (sP w l)
 |.buildT t z l=>.buildT (sT w t) (sDl w z) (sP w l)
 |.bslice n l=>.bslice n (l.map (sA w))
 |.bsliceT n e l=>.bsliceT n (sX e w.T) (l.map (sA w))
 |.bsliceV n e l=>.bsliceV n (sX e w.T) (l.map (sA w))
 |.bsliceM n l=>.bsliceM n (l.map (sA w))
 |.app n m e x y=>.app n m (sX e w.T) x (sA w y)
 |.appV n m e x y=>.appV n m (sX e w.T) x (sA w y)
 |.appS e x y=>.appS (sX e w.T) x (sA w y)
 |.cutV n x y=>.cutV n x (sA w y)
 |.eqA b l x y=>.eqA b (sDl w l) (sA w x) (sA w y)
 |.lkp b k g z x y=>.lkp b (sD w k) g (sDl w z) x (sA w y)
 |.mpUpd k x y v=>.mpUpd (sD w k) x (sA w y) (sA w v)
 |.mkSl n m z x y=>.mkSl n m (sDl w z) (sA w x) (sA w y)
 |.lenS x=>.lenS (sA w x)
 |.cvt k x=>.cvt k (sA w x)
 |.cvtS x=>.cvtS (sA w x)
 |.cvtBS x=>.cvtBS (sA w x)
 |.mm b x y=>.mm b (sA w x) (sA w y)
 |.un o x=>.un o (sA w x)
 |.mkfn f a b=>.mkfn (sFn w f) (a.map (sA w)) (b.map (sA w))
 |.call f l=>.call (sX f w.F) (l.map (sA w))
 |.callE f l=>.callE (sX f w.F) (l.map (sA w))
 |.callv x l=>.callv (sA w x) (l.map (sA w))
 |x=>x
def sO(l:List IOp):List IOp:=l.map λo=>⟨o.dst,o.g,sI w o.i⟩
def gB(P:Program)(tok:List Nat)(o:Oper):Option I:=
 match o.op with
 |.build t l=>
  match P.underlying t,Y0 P t with
  |some (.struct fs),some z=>(l.toList.mapM λ(x:Nat×Operand)=>(fs[x.1]?).bind λfd=>(P.info? fd.type).bind λi=>(cArg P fd.type x.2).map λy=>(fd.offset,i.size,y)).map λps=>if(o.dst.map tok.contains).getD false then .buildT ((Qlm P fs.toList).filter λx=> !(ps.any λp=>p.1==x.1)) z ps else .build z ps
  |_,_=>none
 |.binOp op t x y _=>
  match P.underlying t with
  |some (.struct fs)=>(Qcz P 0 fs.toList).bind λl=>(cArg P t x).bind λx=>(cArg P t y).map λy=>.eqA (match op with|.neq=>true|_=>false) l x y
  |_=>compI P tok o
 |_=>compI P tok o
def gO(P:Program)(tok:List Nat)(ops:Array Oper)(o:Oper):IOp:=
 match Qby ops o.guard,gB P tok o with
 |some g,some i=>⟨o.dst,g,i⟩
 |_,_=>Q9
def gC(P:Program)(tok:List Nat):Code->C
 |.skip=>.skip
 |.region i ops d=>match sR i w.R with
  |some r=>r.c (sO w (ops.toList.map (gO P tok ops)))
  |none=>.ops (sO w (ops.toList.map (gO P tok ops))) d
 |.seq a b=>.seq (gC P tok a) (gC P tok b)
 |.cond c a b=>match cArg P 0 c with
  |some c'=>.cond (sA w c') (gC P tok a) (gC P tok b)
  |none=>.bad
 |.block i a=>.blk i (gC P tok a)
 |.loop a=>.loop (gC P tok a)
 |.exit i=>.exit i
 |.ret=>.ret
 |_=>.bad
end
def gF(P:Program)(R:List (Nat×R))(k:List Nat)(f:Func)(F T:List (Nat×Nat))(u:Nat->UInt8)(p q:Nat->Int):IFn:=
 match f.body,f.results.toList.mapM (Qiw P)with
 |some c,some rs=>⟨f.ntmps,rs,gC ⟨u,p,q,F,T,R⟩ P k c⟩
 |_,_=>⟨0,[],.bad⟩
def J(k:List Nat)(f:Func)(F T:List (Nat×Nat))(R:List (Nat×R):=[]):Hold (gF Tryz.prog R k f F T):=⟨⟩
end
end Go.Zam.Ix
