import Derived.Test.YtppagloobdflbabGreatDoorW3
import Derived.Lib.Bytealg
import Derived.Lib.ParseIntB
import Derived.Lib.DecodeN
import Derived.Shelf.Unicode.DecodeSlow
import Derived.Test.YtppagloobdflbabGreatDoorW2
import Derived.Test.YtppagloobdflbabGreatDoorProg
set_option linter.all false
set_option maxRecDepth 100000
set_option maxHeartbeats 4000000
namespace Go.Zam
variable{P:Program}
section
abbrev Bs:=List UInt8
def Has(P:Program)(f:FuncId)(i:IFn):Prop:=∃fn,P.funcs[f]?=some fn/\Qn P [] fn=some i
def HasT(P:Program)(tk:List Nat)(f:FuncId)(i:IFn):Prop:=∃fn,P.funcs[f]?=some fn/\Qn P tk fn=some i
def Vb(P:Program)(f:FuncId)(p:UInt8->Bool):Prop:=∀(b:UInt8) H,Qc P f [.d (.int .u8 b.toNat)] H (λr H'=>r=YB (p b)/\H'=H)
def Qxi{p:Nat->Prop}:∀n,p n->∃d,p d/\∀e,p e->d<=e:=by
 intro n;induction n using Nat.strongRecOn with
 |ind n ih=>
 intro h;by_cases hm:∃m,m<n/\p m
 .obtain⟨m,hm,hp⟩:=hm;exact ih m hm hp
 .exact⟨n,h,λe he=>Q5h λhl=>hm ⟨e,hl,he⟩⟩
def Qub(J:Nat->Fr->Hp->Prop)(_:Tag J)(m d:Nat)(fr:Fr)(H:Hp):Prop:=∃k d',m<=k/\k<=H.length/\d'<d/\J d' (fr.clr k) (Hp.cut k H)
@[congr]theorem Qz9{J:Nat->Fr->Hp->Prop}{t:Tag J}{m d:Nat}{fr fr':Fr}{H H':Hp}(h:fr=fr')(h2:H=H'):Qub J t m d fr H=Qub J t m d fr' H':=by rw[h,h2]
theorem Qg{J:Nat->Fr->Hp->Prop}{t:Tag J}{m d:Nat}{fr:Fr}{H:Hp}(k d':Nat)(hk:m<=k)(h:k<=H.length)(hd:d'<d)(hj:J d' (fr.clr k) (Hp.cut k H)):Qub J t m d fr H:=⟨k,d',hk,h,hd,hj⟩
def Q4{P:Program}{n0:Nat}{Q:Ex->Fr->Hp->Prop}{fr:Fr}{H:Hp}{c:C}{t:Tag (Q,c)}(m:Nat)(J:Nat->Fr->Hp->Prop)(start:Nat)(h1:n0<=m/\m<=H.length)(h2:J start (fr.clr m) (Hp.cut m H))(h3:∀d fr H,J d fr H->AWp P n0 c (Ex.then (Qub J .mk m d) Q) fr H):Qeu Q c t P n0 fr H:=by
 have key:∀fr H,(∃d,J d fr H)->∃d,J d fr H/\∀e,J e fr H->d<=e:=λfr H ⟨d,h⟩=>Qxi (p:=λd=>J d fr H) d h;let mu:Fr->Hp->Nat:=λfr H=>@dite _ (∃d,J d fr H) (Classical.propDecidable _) (λh=>(key fr H h).choose) (λ_=>0);have hmu:∀fr H (h:∃d,J d fr H),J (mu fr H) fr H/\∀e,J e fr H->mu fr H<=e:=λfr H h=>by have:mu fr H=(key fr H h).choose:=dif_pos h;rw[this];exact(key fr H h).choose_spec
 refine Wy m (λfr H=>∃d,J d fr H) mu h1 ⟨start,h2⟩ ?_;rintro fr H h;obtain⟨g1,g2⟩:=hmu fr H h;refine AWp.mono _ ?_ _ _ (h3 _ _ _ g1);intro e fr' H' hn;cases e with
 |normal=>obtain⟨k,d',k1,k2,k3,k4⟩:=hn;refine Qhg (t:=.mk) k k1 k2 ⟨d',k4⟩ ?_;exact Nat.lt_of_le_of_lt ((hmu _ _ ⟨d',k4⟩).2 d' k4) k3
 |exit j=>exact hn
 |ret=>exact hn
def Vi(b:UInt8):Bool:=decide ((b.toNat:Int)=32)||decide ((b.toNat:Int)=9)||decide ((b.toNat:Int)=10)||decide ((b.toNat:Int)=13)
def Qci(b:UInt8):Bool:=decide ((b.toNat:Int)=35)
def Zh(b:UInt8):Bool:= !decide ((b.toNat:Int)=10)
def wordB(b:UInt8):Bool:=Wh b||Wc b
def Has.letter{f}(h:Has P f Qbq):Vb P f Wh:=λb H=>Qot h.choose_spec.1 h.choose_spec.2 b H
def Has.digit{f}(h:Has P f Qcw):Vb P f Wc:=λb H=>Qq9 h.choose_spec.1 h.choose_spec.2 b H
def Has.blank{f}(h:Has P f Qdj):Vb P f Vi:=λb H=>by
 refine Qe h (by simp[Qdj]) λO _=>?_;simp[Qdj];generalize ha:decide ((b.toNat:Int)=32)=a;generalize hb:decide ((b.toNat:Int)=9)=c;generalize hd:decide ((b.toNat:Int)=10)=d;generalize he:decide ((b.toNat:Int)=13)=e;have hl:Vi b=(a||c||d||e):=by simp only[Vi,ha,hb,hd,he]
 cases a<;>cases c<;>cases d<;>cases e<;>simp[ha,hb,hd,he]<;>simp[RetK,Qb O,hl]
def Has.hash{f}(h:Has P f Qfi):Vb P f Qci:=λb H=>by refine Qe h (by simp[Qfi]) λO _=>?_;simp[Qfi];simp[RetK,Qb O,Qci]
def Has.noNl{f}(h:Has P f Qff):Vb P f Zh:=λb H=>by refine Qe h (by simp[Qff]) λO _=>?_;simp[Qff];simp[RetK,Qb O,Zh]
def Has.wordB{f fl fd}(h:Has P f (Qdl fl fd))(hl:Vb P fl Wh)(hd:Vb P fd Wc):Vb P f Zam.wordB:=λb H=>by
 refine Qe h (by simp[Qdl]) λO _=>?_;simp[Qdl];refine Qa (hl b _) ?_;cases e:Wh b with
 |true=>simp;simp[RetK,Qb O,Zam.wordB,e]
 |false=>simp;refine Qa (hd b _) ?_;simp;simp[RetK,Qb O,Zam.wordB,e]
def Z1(p:UInt8->Bool):Bs->Bool
 |[]=>false
 |b::_=>p b
def scan(ts:TypeId)(text:Bs)(at_:Nat):Ob:=.box ts [YS text,YI at_]
def Yh{s:Bs}{n:Nat}{b:UInt8}{r:Bs}(h:s.drop n=b::r):Yc s (n:Int)=some b/\n<s.length:=by
 have hn:n<s.length:=by
  rcases Q4f n s.length with h'|h'
  .exact h'
  .rw[Q22 h']at h;cases h
 refine⟨?_,hn⟩;have:s[n]=b:=by have e:=Q2o hn;rw[h]at e;exact(List.cons.inj e).1.symm
 simp[Yc,hn,this]
def Has.more{f}(h:Has P f Qbn){k:FuncId}{p:UInt8->Bool}(hk:Wd P k=true)(hp:Vb P k p){H:Hp}{i:Nat}{ts:TypeId}{text:Bs}{n:Nat}(hi:H[i]?=some (scan ts text n)):
 Qc P f [.ptr i 0,.d (.fn k)] H (λr H'=>r=YB (Z1 p (text.drop n))/\H'=H):=by
 refine Qe h (by simp[Qbn]) λO _=>?_;unfold scan at hi;simp[Qbn,hi];cases hd:text.drop n with
 |nil=>
  have hn:¬n<text.length:=by have:=Q3n.1 hd;omega
  simp[hn];simp[RetK,Qb O,Z1]
 |cons b r=>obtain⟨hb,hn⟩:=Yh hd;simp[hn,hi,hb];refine⟨hk,?_⟩;refine Vj (hp b _) ?_;simp;simp[RetK,Qb O,Z1]
def Hp.set_self{H:Hp}{i:Nat}{o:Ob}(h:H[i]?=some o):H.set i o=H:=by obtain⟨hi,e⟩:=Q11.1 h;rw[<-e];exact List.set_getElem_self hi
def runN(p:UInt8->Bool)(s:Bs):Nat:=(s.takeWhile p).length
def Qea(p:UInt8->Bool)(s:Bs):runN p s<=s.length:=by unfold runN;exact List.Sublist.length_le (List.takeWhile_sublist p)
def Qb4(p:UInt8->Bool):∀(s:Bs)(j:Nat),j<=runN p s->Z1 p (s.drop j)=decide (j<runN p s)
 |[],j,h=>by simp[runN]at h⊢;subst h;rfl
 |b::r,0,h=>by cases e:p b<;>simp[runN,Z1,e]
 |b::r,j+1,h=>by
  cases e:p b with
  |false=>simp[runN,e]at h
  |true=>
   have hr:runN p (b::r)=runN p r+1:=by simp[runN,e]
   rw[hr]at h⊢;have:=Qb4 p r j (by omega);simpa using this
def Wl{H:Hp}{i:Nat}{o:Ob}(h:H[i]?=some o):i<H.length:=(Q11.1 h).1
def Qa5(s:Bs)(n j:Nat):(s.drop n).drop j=s.drop (n+j):=by rw[Q30]
def Qe4{s:Bs}{n w:Nat}(h:n+w<=s.length):subL s (n:Int) ((n:Int)+w)=some ((s.drop n).take w):=by rw[Qks ⟨by omega,by omega,by omega⟩];congr 2<;>omega
def Has.word{f fm fw}(h:Has P f (Qfd fm fw))(hm:Has P fm Qbn)(hk:Wd P fw=true)(hw:Vb P fw Zam.wordB){H:Hp}{i:Nat}{ts:TypeId}{text:Bs}{n:Nat}(hi:H[i]?=some (scan ts text n))(hn:n<=text.length)(hl:text.length<=4611686018427387904):
 Qc P f [.ptr i 0] H (λr H'=>r=YS ((text.drop n).take (runN Zam.wordB (text.drop n)))/\H'=H.set i (scan ts text (n+runN Zam.wordB (text.drop n)))):=by
 obtain⟨fn,hf,hcf⟩:=h;have hil:=Wl hi;refine Qy hf hcf (by simp[Qfd]) λO _=>?_;have hi':=hi;unfold scan at hi';simp[Qfd,hi'];have hW:=Qea Zam.wordB (text.drop n);have hstep:=Qb4 Zam.wordB (text.drop n);simp only[Qa5,Q26]at hW hstep;generalize runN Zam.wordB (text.drop n)=W at hW hstep;refine Qm 0 (λfr H'=>fr 0=.ptr i 0/\fr 3=YI n/\H'=H.set i (scan ts text (n+W))) (λ_ _=>False) ?_ (λ_ _ h=>h.elim) ?_
 .refine Q4 H.length (λd fr H'=>∃j,d=W-j/\j<=W/\fr 0=.ptr i 0/\fr 3=YI n/\H'=H.set i (scan ts text (n+j))) W (by simp) ⟨0,?_⟩ ?_
  .simp[Qb O,hil];exact(Hp.set_self hi).symm
  rintro d fr H' ⟨j,rfl,hj,f0,f3,rfl⟩;have hij:(H.set i (scan ts text (n+j)))[i]?=some (scan ts text (n+j)):=by simp[hil]
  have hm':=hm.more hk hw hij;rw[hstep j hj]at hm';simp[f0];refine Qa hm' ?_;simp;refine Qh (λh=>?_) (λh=>?_)
  .have hlt:j<W:=by simpa using h
   have hwr:IntKind.i64.wrap ((n:Int)+j+1)=n+(j+1):=by rw[wi64 (by omega)];omega
   simp[f0,hil,scan,hwr];refine Qg H.length (W-(j+1)) (Q14 _) (by simp) (by omega) ⟨j+1,rfl,by omega,?_⟩;simp[f0,f3,Hp.cut_set,Qb O,hil,scan]
  .have hjj:j=W:=by have:¬j<W:=by simpa using h
                    omega
   subst hjj;simp[f0,f3]
 rintro fr H' ⟨f0,f3,rfl⟩;have hs:=Qe4 (s:=text) (n:=n) (w:=W) (by omega);simp[f0,f3,hil,scan,hs];simp[RetK,Hp.cut_set,Qb O,hil,scan]
end
section
def Qo:Bool->Bs->Nat
 |_,[]=>0
 |false,b::r=>if Vi b then Qo false r+1 else if Qci b then Qo true r+1 else 0
 |true,b::r=>if Zh b then Qo true r+1 else Qo false r+1
def Qbw:∀(c:Bool)(s:Bs),Qo c s<=s.length
 |_,[]=>by simp[Qo]
 |false,b::r=>by
  have h1:=Qbw false r;have h2:=Qbw true r;simp only[Qo,Q2i];split
  .omega
  .split<;>omega
 |true,b::r=>by have h1:=Qbw false r;have h2:=Qbw true r;simp only[Qo,Q2i];split<;>omega
def Ql7:∀(s:Bs),Qo false s=runN Vi s+Qo false (s.drop (runN Vi s))
 |[]=>by simp[Qo,runN]
 |b::r=>by
  cases e:Vi b with
  |false=>simp[runN,e]
  |true=>
   have:=Ql7 r;have hr:runN Vi (b::r)=runN Vi r+1:=by simp[runN,e]
   rw[hr,Q4v,Qo,if_pos e];omega
def Qqf:∀(s:Bs),Qo true s=runN Zh s+Qo false (s.drop (runN Zh s))
 |[]=>by simp[Qo,runN]
 |b::r=>by
  cases e:Zh b with
  |false=>
   have hb:Vi b=true:=by
    have:(b.toNat:Int)=10:=by simpa[Zh]using e
    simp[Vi,this]
   simp[runN,e,Qo,hb]
  |true=>
   have:=Qqf r;have hr:runN Zh (b::r)=runN Zh r+1:=by simp[runN,e]
   rw[hr,Q4v,Qo,if_pos e];omega
def Qnw{s:Bs}(h:Z1 Qci s=true):Qo false s=runN Zh s+Qo false (s.drop (runN Zh s))/\1<=runN Zh s:=by
 cases s with
 |nil=>simp[Z1]at h
 |cons b r=>
  have hb:(b.toNat:Int)=35:=by simpa[Z1,Qci]using h
  have h1:Vi b=false:=by simp[Vi,hb]
  have h2:Qci b=true:=by simp[Qci,hb]
  have h3:Zh b=true:=by simp[Zh,hb]
  have hr:runN Zh (b::r)=runN Zh r+1:=by simp[runN,h3]
  have:=Qqf r;rw[hr,Q4v,Qo,h1,if_neg (by simp),if_pos h2];exact⟨by omega,by omega⟩
def Qva{s:Bs}(h1:Z1 Vi s=false)(h2:Z1 Qci s=false):Qo false s=0:=by
 cases s with
 |nil=>rfl
 |cons b r=>have h1:Vi b=false:=h1;have h2:Qci b=false:=h2;simp[Qo,h1,h2]
def Has.lead{f fm fb fh fl}(h:Has P f (Qfh fm fb fh fl))(hm:Has P fm Qbn)(k1:Wd P fb=true)(p1:Vb P fb Vi)(k2:Wd P fh=true)(p2:Vb P fh Qci)(k3:Wd P fl=true)(p3:Vb P fl Zh){H:Hp}{i:Nat}{ts:TypeId}{text:Bs}{n:Nat}(hi:H[i]?=some (scan ts text n))(hn:n<=text.length)(hl:text.length<=4611686018427387904):
 Qc P f [.ptr i 0] H (λr H'=>r=YS ((text.drop n).take (Qo false (text.drop n)))/\H'=H.set i (scan ts text (n+Qo false (text.drop n)))):=by
 obtain⟨fn,hf,hcf⟩:=h;have hil:=Wl hi;refine Qy hf hcf (by simp[Qfh]) λO _=>?_;have hi':=hi;unfold scan at hi';simp[Qfh,hi'];have hL:=Qbw false (text.drop n);simp only[Q26]at hL;refine Q4 H.length (λd fr H'=>∃j,d=Qo false (text.drop n)-j/\j+Qo false (text.drop (n+j))=Qo false (text.drop n)/\fr 0=.ptr i 0/\fr 3=YI n/\H'=H.set i (scan ts text (n+j))) (Qo false (text.drop n)) (by simp) ⟨0,?_⟩ ?_
 .simp[Qb O,hil];exact(Hp.set_self hi).symm
 generalize Qo false (text.drop n)=L at hL;rintro d fr H' ⟨j,rfl,hj,f0,f3,rfl⟩;simp;have hb:=Ql7 (text.drop (n+j));have hstep:=Qb4 Vi (text.drop (n+j));have hW:=Qea Vi (text.drop (n+j));simp only[Qa5,Q26]at hW hstep hb;generalize runN Vi (text.drop (n+j))=wa at hb hstep hW;refine Qz 2 (λfr H'=>fr 0=.ptr i 0/\fr 3=YI n/\H'=H.set i (scan ts text (n+j+wa))) ?_ ?_
 .refine Q4 H.length (λd fr H'=>∃q,d=wa-q/\q<=wa/\fr 0=.ptr i 0/\fr 3=YI n/\H'=H.set i (scan ts text (n+j+q))) wa (by simp) ⟨0,?_⟩ ?_
  .simp[f0,f3,Hp.cut_set,Qb O,hil,scan]
  rintro d fr H' ⟨q,rfl,hq,f0,f3,rfl⟩;have hij:(H.set i (scan ts text (n+j+q)))[i]?=some (scan ts text (n+j+q)):=by simp[hil]
  have hm':=hm.more k1 p1 hij;rw[hstep q hq]at hm';simp[f0];refine Qa hm' ?_;simp;refine Qh (λh=>?_) (λh=>?_)
  .have hlt:q<wa:=by simpa using h
   have hwr:IntKind.i64.wrap (((n:Int)+j)+q+1)=((n:Int)+j)+(q+1):=by rw[wi64 (by omega)];omega
   simp[f0,hil,scan,hwr];refine Qg H.length (wa-(q+1)) (Q14 _) (by simp) (by omega) ⟨q+1,rfl,by omega,?_⟩;simp[f0,f3,Hp.cut_set,Qb O,hil,scan]
  .have hqq:q=wa:=by
    have:¬q<wa:=by simpa using h
    omega
   subst hqq;simp[f0,f3]
 rintro fr H' ⟨f0,f3,rfl⟩;have hij:(H.set i (scan ts text (n+j+wa)))[i]?=some (scan ts text (n+j+wa)):=by simp[hil]
 have hm':=hm.more k2 p2 hij;simp[f0];refine Qa hm' ?_;cases hh:Z1 Qci (text.drop (n+j+wa))with
 |false=>
  have hnb:Z1 Vi (text.drop (n+j+wa))=false:=by rw[hstep wa (Q14 _)];simp
  have h0:=Qva hnb hh;have hLL:L=j+wa:=by omega
  have hs:=Qe4 (s:=text) (n:=n) (w:=j+wa) (by omega);simp[f0,f3,hil,scan,Q58];simp at hs;simp[hs];simp[RetK,Hp.cut_set,Qb O,hil,scan,hLL,Q58]
 |true=>
  simp;obtain⟨hc,hc1⟩:=Qnw hh;have hstep:=Qb4 Zh (text.drop (n+j+wa));have hW:=Qea Zh (text.drop (n+j+wa));simp only[Qa5,Q26]at hW hstep hc;generalize runN Zh (text.drop (n+j+wa))=wc at hc hc1 hstep hW;refine Qz 4 (λfr H'=>fr 0=.ptr i 0/\fr 3=YI n/\H'=H.set i (scan ts text (n+j+wa+wc))) ?_ ?_
  .refine Q4 H.length (λd fr H'=>∃q,d=wc-q/\q<=wc/\fr 0=.ptr i 0/\fr 3=YI n/\H'=H.set i (scan ts text (n+j+wa+q))) wc (by simp) ⟨0,?_⟩ ?_
   .simp[f0,f3,Hp.cut_set,Qb O,hil,scan]
   rintro d fr H' ⟨q,rfl,hq,f0,f3,rfl⟩;have hij:(H.set i (scan ts text (n+j+wa+q)))[i]?=some (scan ts text (n+j+wa+q)):=by simp[hil]
   have hm':=hm.more k3 p3 hij;rw[hstep q hq]at hm';simp[f0];refine Qa hm' ?_;simp;refine Qh (λh=>?_) (λh=>?_)
   .have hlt:q<wc:=by simpa using h
    have hwr:IntKind.i64.wrap (((n:Int)+j+wa)+q+1)=((n:Int)+j+wa)+(q+1):=by rw[wi64 (by omega)];omega
    simp[f0,hil,scan,hwr];refine Qg H.length (wc-(q+1)) (Q14 _) (by simp) (by omega) ⟨q+1,rfl,by omega,?_⟩;simp[f0,f3,Hp.cut_set,Qb O,hil,scan]
   .have hqq:q=wc:=by
     have:¬q<wc:=by simpa using h
     omega
    subst hqq;simp[f0,f3]
  rintro fr H' ⟨f0,f3,rfl⟩;simp;refine Qg H.length (L-(j+wa+wc)) (Q14 _) (by simp) (by omega) ⟨j+wa+wc,rfl,?_,?_⟩
  .have e:n+(j+wa+wc)=n+j+wa+wc:=by omega
   rw[e];omega
  .simp[f0,f3,Hp.cut_set,Qb O,hil,scan,Q58]
end
section
def Qqi:List Bs:=[[100,101,102],[100,121,110],[101,108,115,101],[102,110],[105,102],[105,110,112,117,116],[105,110,116],[108,101,116],[112,114,105,110,116],[114,101,116,117,114,110],[115,116,114],[117,115,101],[119,104,105,108,101]]
def Qvd(s:Bs):s∈Qqi↔s∈Yu:=by
 constructor
 .intro h;simp only[Qqi,Q2v,Q4l,or_false]at h;rcases h with rfl|rfl|rfl|rfl|rfl|rfl|rfl|rfl|rfl|rfl|rfl|rfl|rfl<;>decide
 .intro h;simp only[Yu,Q2v,Q4l,or_false]at h;rcases h with rfl|rfl|rfl|rfl|rfl|rfl|rfl|rfl|rfl|rfl|rfl|rfl|rfl<;>decide
def Vu:List Bs:=[[61,61],[40],[41],[123],[125],[44],[59],[58],[46],[61],[43],[45],[42],[60]]
def Vf(s:Bs):Bs:=(Vu.find? λx=>x.isPrefixOf s).getD []
def Qrr(P:Program)(f:FuncId):Prop:=∀(s p:Bs) H,Qc P f [YS s,YS p] H (λr H'=>r=YB (p.isPrefixOf s)/\H'=H)
def Has.idx{f}(h:Has P f Qee)(z:Bool)(ns:List Bs)(x:Bs)(hn:ns.length<=1048576)(H:Hp):Qc P f [YL z 1 (ns.map Qbu),YS x] H (λr H'=>(∃q:Int,r=YI q/\(0<=q↔x∈ns))/\H'=H):=by
 refine Qe h (by simp[Qee]) λO _=>?_;simp[Qee];refine Qm 0 (λfr H'=>x∉ns/\H'=H) (λfr H'=>(∃q:Int,fr 4=YI q/\0<=q)/\x∈ns/\H'=H) ?_ ?_ ?_
 .refine Q8 H.length ns.length (λi fr H'=>fr 0=YL z 1 (ns.map Qbu)/\fr 1=YS x/\x∉ns.take i/\H'=H) (by omega) (by decide) (by simp) (by simp) ?_ ?_ ?_
  .simp[Qb O]
  .rintro i fr H' hi f8 f7 ⟨f0,f1,hx,rfl⟩;have hr:=Qt Qbu hi;have ht:ns.take (i+1)=ns.take i++[ns[i]]:=Q2e hi;have hm:=Q20 hi;simp only[Qbu]at hr;generalize ns[i]=w at hr ht hm;simp[f8,f0,f1,hr];refine Qh (λh=>?_) (λh=>?_)
   .have e:x=w:=by simpa using h
    simp;exact e▸hm
   .have e:¬x=w:=by simpa using h
    simp;refine Q3 H'.length (Q14 _) (by simp[f8,f7]) ?_;simp[f0,f1,Qb O,ht,hx,e]
  .rintro fr H' f8 f7 ⟨f0,f1,hx,rfl⟩;rw[Q2f (Q14 _)]at hx;simp[hx]
 .rintro fr H' ⟨⟨q,f4,hq⟩,hx,rfl⟩;simp;simp[RetK,Qb O,f4,hx];exact hq
 .rintro fr H' ⟨hx,rfl⟩;simp;simp[RetK,Qb O,hx]
def Has.has{f fi}(h:Has P f (Qgd fi))(hi:Has P fi Qee)(z:Bool)(ns:List Bs)(x:Bs)(hn:ns.length<=1048576)(H:Hp):Qc P f [YL z 1 (ns.map Qbu),YS x] H (λr H'=>r=YB (decide (x∈ns))/\H'=H):=by refine Qe h (by simp[Qgd]) λO _=>?_;simp[Qgd];refine Qf (hi.idx z ns x hn _) ?_;rintro r H' ⟨⟨q,rfl,hq⟩,rfl⟩;simp;simp[RetK,Qb O,hq]
def Has.keys{f}(h:Has P f Qdh)(H:Hp):Qc P f [] H (λr H'=>r=YL false 1 (Qqi.map Qbu)/\H'=H):=by refine Qe h (by simp[Qdh]) λO _=>?_;simp[Qdh];simp[RetK,Qb O,Qqi,Qbu]
def Has.signs{f}(h:Has P f Qb6)(H:Hp):Qc P f [] H (λr H'=>r=YL false 1 (Vu.map Qbu)/\H'=H):=by refine Qe h (by simp[Qb6]) λO _=>?_;simp[Qb6];simp[RetK,Qb O,Vu,Qbu]
def Has.isKey{f fk fh fi}(h:Has P f (Qdi fk fh))(hk:Has P fk Qdh)(hh:Has P fh (Qgd fi))(hi:Has P fi Qee)(s:Bs)(H:Hp):Qc P f [YS s] H (λr H'=>r=YB (decide (s∈Yu))/\H'=H):=by refine Qe h (by simp[Qdi]) λO _=>?_;simp[Qdi];refine Qa (hk.keys _) ?_;have:=hh.has hi false Qqi s (by decide) H;simp only[Qvd]at this;simp;refine Qa this ?_;simp;simp[RetK,Qb O]
def Has.isName{f fl fk fd}(h:Has P f (Z9 fl fk fd))(hl:Vb P fl Wh)(hd:Vb P fd Wc)(hk:∀s H,Qc P fk [YS s] H (λr H'=>r=YB (decide (s∈Yu))/\H'=H))(s:Bs)(H:Hp):Qc P f [YS s] H (λr H'=>r=YB (Yz s)/\H'=H):=by
 refine Qe h (by simp[Z9]) λO _=>?_;cases s with
 |nil=>simp[Z9];simp[RetK,Qb O,Yz]
 |cons b r=>
 generalize hS:b::r=S;have hb0:Yc S 0=some b:=by subst hS;rfl
 have hN:Yz S=(decide (S.length<=40)&& !decide (S∈Yu)&& !Wc b&&S.all λc=>Wh c||Wc c):=by subst hS;rfl
 have hall:S.all (λc=>Wh c||Wc c)=true->Wh b=false->Wc b=true:=by subst hS;intro h1 h2;simp only[Q6m,Q2t,Q35,h2]at h1;simpa using h1.1
 have hld:Wh b=true->Wc b=false:=by
  intro h;cases e:Wc b with
  |false=>rfl
  |true=>simp only[Wh,Wc,Q35,Q2t,decide_eq_true_eq]at h e;omega
 have hne':¬S=[]:=by subst hS;simp
 by_cases g1:(40:Int)<S.length
 case pos=>
  have:¬S.length<=40:=by omega
  simp[Z9,hne',g1];simp[RetK,Qb O,hN,this]
 have g1':S.length<=40:=by omega
 simp[Z9,hne',g1,hb0];refine Qa (hl b _) ?_;cases hlb:Wh b with
 |false=>
  have hF:Yz S=false:=by
   rw[hN];cases hA:S.all (λc=>Wh c||Wc c)with
   |false=>simp
   |true=>rw[hall hA hlb];simp
  simp;simp[RetK,Qb O,hF]
 |true=>
 simp;refine Qa (hk S _) ?_;by_cases g2:S∈Yu
 case pos=>simp[g2];simp[RetK,Qb O,hN,g2]
 simp[g2];have hN':Yz S=S.all λc=>Wh c||Wc c:=by rw[hN];simp[g1',g2,hld hlb]
 refine Qm 0 (λfr H'=>Yz S=true/\H'=H) (λfr H'=>fr 2=YB false/\Yz S=false/\H'=H) ?_ ?_ ?_
 .refine Q8 H.length S.length (λi fr H'=>fr 0=YS S/\(∀c∈S.take i,(Wh c||Wc c)=true)/\H'=H) (by omega) (by decide) (by simp) (by simp) ?_ ?_ ?_
  .simp[Qb O]
  .rintro i fr H' hi f23 f22 ⟨f0,ha,rfl⟩;have hbi:Yc S (i:Int)=some S[i]:=by simp[Yc,hi]
   have ht:S.take (i+1)=S.take i++[S[i]]:=Q2e hi;have hm:=Q20 hi;generalize S[i]=c at hbi ht hm;simp[f23,f0,hbi];refine Qa (hl c _) ?_;cases hc:Wh c with
   |true=>
    simp;refine Q3 H'.length (Q14 _) (by simp[f23,f22]) ?_;simp[f0,Qb O,ht];intro q hq;rcases hq with hq|rfl
    .simpa using ha q hq
    .exact .inl hc
   |false=>
    simp[f0,hbi];refine Qa (hd c _) ?_;cases hdc:Wc c with
    |true=>
     simp;refine Q3 H'.length (Q14 _) (by simp[f23,f22]) ?_;simp[f0,Qb O,ht];intro q hq;rcases hq with hq|rfl
     .simpa using ha q hq
     .exact .inr hdc
    |false=>
     have hF:Yz S=false:=by rw[hN'];exact List.all_eq_false.2 ⟨c,hm,by simp[hc,hdc]⟩
     simp[hF]
  .rintro fr H' f23 f22 ⟨f0,ha,rfl⟩;rw[Q2f (Q14 _)]at ha;have hT:Yz S=true:=by rw[hN'];exact Q2n.2 ha
   simp[hT]
 .rintro fr H' ⟨f2,hF,rfl⟩;simp;simp[RetK,Qb O,f2,hF]
 .rintro fr H' ⟨hT,rfl⟩;simp;simp[RetK,Qb O,hT]
def Qkr{s:Bs}{n:Nat}(h:n<=s.length):subL s (n:Int) (s.length:Int)=some (s.drop n):=by rw[Qks ⟨by omega,by omega,by omega⟩];congr 1;rw[Q2f (by simp)];simp
def Has.sign{f fs fp}(h:Has P f (Qfe fs fp))(hs:Has P fs Qb6)(hp:Qrr P fp){H:Hp}{i:Nat}{ts:TypeId}{text:Bs}{n:Nat}(hi:H[i]?=some (scan ts text n))(hn:n<=text.length)(hl:text.length<=4611686018427387904):
 Qc P f [.ptr i 0] H (λr H'=>r=YS (Vf (text.drop n))/\H'=H.set i (scan ts text (n+(Vf (text.drop n)).length))):=by
 obtain⟨fn,hf,hcf⟩:=h;have hil:=Wl hi;refine Qy hf hcf (by simp[Qfe]) λO _=>?_;have hi':=hi;unfold scan at hi';simp[Qfe];refine Qa (hs.signs _) ?_;simp;refine Qm 0 (λfr H'=>Vf (text.drop n)=[]/\H'=H) (λfr H'=>fr 2=YS (Vf (text.drop n))/\H'=H.set i (scan ts text (n+(Vf (text.drop n)).length))) ?_ ?_ ?_
 .refine Q8 H.length Vu.length (λj fr H'=>fr 0=.ptr i 0/\fr 5=YL false 1 (Vu.map Qbu)/\(∀x∈Vu.take j,x.isPrefixOf (text.drop n)=false)/\H'=H) (by decide) (by decide) (by simp) (by simp) ?_ ?_ ?_
  .simp[Qb O,hil]
  .rintro j fr H' hj f7 f6 ⟨f0,f5,ha,rfl⟩;have hr:=Qt Qbu hj;have ht:Vu.take (j+1)=Vu.take j++[Vu[j]]:=Q2e hj;have hfind:Vu[j].isPrefixOf (text.drop n)=true->Vf (text.drop n)=Vu[j]:=λh=>by
    have:Vu.find? (λx=>x.isPrefixOf (text.drop n))=some Vu[j]:=by rw[List.find?_eq_some_iff_getElem];refine⟨h,j,hj,rfl,λk hk=>?_⟩;rw[ha Vu[k] (by rw[List.mem_take_iff_getElem];exact⟨k,by omega,rfl⟩)];rfl
    rw[Vf,this];rfl
   have hlen:Vu[j].length<=2:=by
    have:∀x∈Vu,x.length<=2:=by decide
    exact this _ (Q20 hj)
   simp only[Qbu]at hr;generalize Vu[j]=x at hr ht hfind hlen;simp[f7,f5,f0,hr,hi',Qkr hn];refine Vj (hp _ x _) ?_;cases hx:x.isPrefixOf (text.drop n)with
   |true=>have hv:=hfind hx;have hwr:IntKind.i64.wrap ((n:Int)+x.length)=n+x.length:=wi64 (by omega);have hg:H'[i]=Ob.box ts [YS text,YI n]:=(Q11.1 hi').2;simp[f0,hil,hg,hwr];simp[hv,scan]
   |false=>
    simp;refine Q3 H'.length (Q14 _) (by simp[f7,f6]) ?_;simp[f0,f5,Qb O,ht];refine⟨hil,?_⟩;intro q hq;rcases hq with hq|rfl
    .simpa using ha q hq
    .simpa using hx
  .rintro fr H' f7 f6 ⟨f0,f5,ha,rfl⟩;rw[Q2f (Q14 _)]at ha;have:Vu.find? (λx=>x.isPrefixOf (text.drop n))=none:=by rw[List.find?_eq_none];intro x hx;rw[ha x hx];simp
   simp[Vf,this]
 .rintro fr H' ⟨f2,rfl⟩;simp;simp[RetK,Hp.cut_set,Qb O,hil,scan,f2]
 .rintro fr H' ⟨hv,rfl⟩;simp;simp[RetK,Qb O,hv];exact(Hp.set_self hi).symm
end
section
def unesc(c:UInt8):Option UInt8:=if c=110 then some 10 else if c=116 then some 9 else if c=34 then some 34 else if c=92 then some 92 else none
def unqI:Bs->Option Bs
 |[]=>some []
 |[b]=>if b=92 then none else if b.toNat<32\/b=34 then none else some [b]
 |b::c::r=>if b=92 then(unesc c).bind λx=>(unqI r).map (x:: ·)else if b.toNat<32\/b=34 then none else(unqI (c::r)).map (b:: ·)
def unqV(s:Bs):Option Bs:=if s.length<2\/s.head?≠some 34\/s.getLast?≠some 34 then none else unqI ((s.drop 1).take (s.length-2))
def unqR:Option Bs->A
 |some x=>.tup [.d (.str x),.d (.int .i64 0)]
 |none=>.tup [.d (.str []),.d (.int .i64 22)]
def Que(P:Program)(f:FuncId):Prop:=∀(s:Bs)(c:UInt8) H,Qc P f [YS s,.d (.int .u8 c.toNat)] H (λr H'=>r=YI (Lib.indexByte s c)/\H'=H)
def Qrp(P:Program)(f:FuncId)(bt:TypeId):Prop:=∀(H:Hp)(i t:Nat)(a:A)(bs:List UInt8)(c:UInt8),H[i]?=some (.box bt [a,.osl true 1 (Yb bs) t])->(a=.d .nilp\/a=.ptr i 0)->H[t]?=some (.tok bs.length 1 5)->bs.length+1<=140737488355328->
 Qc P f [.ptr i 0,.d (.int .u8 c.toNat)] H (λr H'=>r=.d .nili/\H'=(H.set i (.box bt [.ptr i 0,.osl true 1 (Yb (bs++[c])) t])).set t (.tok (bs++[c]).length 1 5))
def Qqp(c:UInt8):(∃x,unesc c=some x/\0<=Lib.indexByte [110,116,34,92] c/\Yc [10,9,34,92] (Lib.indexByte [110,116,34,92] c)=some x)\/(unesc c=none/\Lib.indexByte [110,116,34,92] c<0):=by
 by_cases h1:c=110
 .subst h1;exact .inl ⟨10,by decide,by decide,by decide⟩
 by_cases h2:c=116
 .subst h2;exact .inl ⟨9,by decide,by decide,by decide⟩
 by_cases h3:c=34
 .subst h3;exact .inl ⟨34,by decide,by decide,by decide⟩
 by_cases h4:c=92
 .subst h4;exact .inl ⟨92,by decide,by decide,by decide⟩
 have e:Lib.indexByte [110,116,34,92] c=-1:=by
  have g:∀x:UInt8,c≠x->(x==c)=false:=λx h=>by simpa using Ne.symm h
  simp[Lib.indexByte,g _ h1,g _ h2,g _ h3,g _ h4]
 rw[e];exact .inr ⟨by simp[unesc,h1,h2,h3,h4],by decide⟩
def Qaa(s:Bs)(n:Nat):Yc s (n:Int)=s[n]?:=by
 have:¬((n:Int)<0):=by omega
 simp[Yc]
def Y7(b c:UInt8):((b.toNat:Int)=(c.toNat:Int))↔b=c:=by
 constructor
 .intro e;exact UInt8.toNat_inj.1 (by omega)
 .rintro rfl;rfl
def HasT.unquote{f fi fw fs bt}(h:HasT P [4] f (Zb fi fw fs bt 5))(hi:Que P fi)(hw:Qrp P fw bt)(hs:Qrq P fs bt)(s:Bs)(hl:s.length<=1048576)(H:Hp):
 Qc P f [YS s] H (λr H'=>r=unqR (unqV s)/\H'=H):=by
 refine Qe h (by simp[Zb]) λO _=>?_;by_cases h1:s.length<2
 case pos=>
  have h1':(s.length:Int)<2:=by omega
  simp[Zb,h1'];simp[RetK,Qb O,unqV,unqR,h1]
 have h1':¬(s.length:Int)<2:=by omega
 obtain⟨b0,hb0⟩:∃b,Yc s 0=some b:=⟨s[0],by simp[Yc]⟩;obtain⟨b1,hb1⟩:∃b,Yc s ((s.length:Int)-1)=some b:=by
  refine⟨s[s.length-1],?_⟩;have e:((s.length:Int)-1)=((s.length-1:Nat):Int):=by omega
  rw[e,Qaa,Q12]
 have hh:s.head?=some b0:=by
  cases s with
  |nil=>simp at h1
  |cons a r=>simpa[Yc]using hb0
 have hg:s.getLast?=some b1:=by
  have e:((s.length:Int)-1)=((s.length-1:Nat):Int):=by omega
  rw[Q61,<-Qaa,<-e];exact hb1
 have hwm:IntKind.i64.wrap ((s.length:Int)-1)=s.length-1:=wi64 (by omega);have byte34:∀b:UInt8,((b.toNat:Int)=34)↔b=34:=λb=>Y7 b 34;have byte92:∀b:UInt8,((b.toNat:Int)=92)↔b=92:=λb=>Y7 b 92;by_cases h2:b0=34
 case neg=>have h2':¬((b0.toNat:Int)=34):=λe=>h2 ((byte34 _).1 e);simp[Zb,h1',hb0,h2'];simp[RetK,Qb O,unqV,unqR,hh,h2]
 by_cases h3:b1=34
 case neg=>have h3':¬((b1.toNat:Int)=34):=λe=>h3 ((byte34 _).1 e);simp[Zb,h1',hb0,h2,hwm,hb1,h3'];simp[RetK,Qb O,unqV,unqR,hg,h3]
 subst h2;subst h3;simp[Zb,h1',hb0,hwm,hb1];have hU:unqV s=unqI ((s.drop 1).take (s.length-2)):=by simp[unqV,h1,hh,hg]
 rw[hU];have hb34:∀b,Yc s ((s.length:Int)-1)=some b->b=34:=λb e=>by rw[hb1]at e;exact(Option.some.inj e).symm
 obtain⟨m,hm⟩:∃m,s.length=m+2:=⟨s.length-2,by omega⟩;obtain⟨I,hI⟩:∃I,I=(s.drop 1).take (s.length-2):=⟨_,rfl⟩;rw[<-hI];have hmi:I.length=m:=by rw[hI];simp;omega
 have hbyte:∀j:Nat,j<m->Yc s ((1:Int)+j)=I[j]?:=λj hj=>by
  have e:((1:Int)+j)=((j+1:Nat):Int):=by omega
  rw[e,Qaa,hI,Q4c,if_pos (by omega),Q4d]
  congr 1;omega
 have hbend:Yc s ((1:Int)+m)=some 34:=by
  have e:((1:Int)+m)=(s.length:Int)-1:=by omega
  rw[e,hb1]
 clear hI hU;refine Qm 0 (λfr H'=>∃x a,unqI I=some x/\x.length<=m/\fr 4=.ptr (H.length+1) 0/\H'=H++[.tok x.length 1 5,.box bt [a,.osl true 1 (Yb x) H.length]]) (λfr H'=>fr 2=YS []/\fr 3=YI 22/\unqI I=none/\∃X,H'=H++X) ?_ ?_ ?_
 .refine Q4 (H.length+2) (λd fr H'=>∃j x a,d=m-j/\j<=m/\unqI I=(unqI (I.drop j)).map (x++ ·)/\x.length<=j/\(a=.d .nilp\/a=.ptr (H.length+1) 0)/\fr 0=YS s/\fr 4=.ptr (H.length+1) 0/\fr 5=YI (1+(j:Int))/\H'=H++[.tok x.length 1 5,.box bt [a,.osl true 1 (Yb x) H.length]]) m (by simp) ⟨0,[],.d .nilp,?_⟩ ?_
  .simp[Qi O,Yb]
  rintro d fr H' ⟨j,x,a,rfl,hj,hq,hxl,ha,f0,f4,f5,rfl⟩;simp[f5,f0,hwm];refine Qh (λhlt=>?_) (λhlt=>?_)
  .have hjm:j<m:=by have:1+(j:Int)<(s.length:Int)-1:=by simpa using hlt
                    omega
   have hb:=hbyte j hjm;rw[Q12 (by omega)]at hb;have hdr:I.drop j=I[j]'(by omega)::I.drop (j+1):=Q2o (by omega);generalize I[j]'(by omega)=b at hb hdr;rw[hdr]at hq;have hw1:IntKind.i64.wrap (1+(j:Int)+1)=1+((j:Int)+1):=by rw[wi64 (by omega)];omega
   have hw2:IntKind.i64.wrap (1+((j:Int)+1)+1)=1+((j:Int)+1+1):=by rw[wi64 (by omega)];omega
   have put:=λ(c:UInt8)=>hw (H++[.tok x.length 1 5,.box bt [a,.osl true 1 (Yb x) H.length]]) (H.length+1) H.length a x c (by simp) ha (by simp) (by omega);simp at put;simp[f5,f0,hb];refine Qh (λh92=>?_) (λh92=>?_)
   .have h92:b=92:=(byte92 b).1 (by simpa using h92);subst h92;by_cases hj1:j+1=m
    .have hnone:unqI I=none:=by have:I.drop (j+1)=[]:=Q22 (by omega);rw[hq,this];rfl
     have hbe:Yc s (1+((j:Int)+1))=some 34:=by
      have e:(1+((j:Int)+1))=1+(m:Int):=by omega
      rw[e,hbend]
     have heq:1+((j:Int)+1)=(s.length:Int)-1:=by omega
     simp[f5,f0,hw1,hbe];refine Qa (hi [110,116,34,92] 34 _) ?_;have hk:Lib.indexByte [110,116,34,92] 34=2:=by decide
     rw[hk];simp[hw1,f0,hwm,heq,hnone]
    .have hjl:j+1<m:=by omega
     have hbc:=hbyte (j+1) hjl;rw[Q12 (by omega)]at hbc;have hdc:I.drop (j+1)=I[j+1]'(by omega)::I.drop (j+1+1):=Q2o (by omega);generalize I[j+1]'(by omega)=c at hbc hdc;rw[hdc]at hq;simp only[Q34,Q6h]at hbc;have hne:¬(1+((j:Int)+1)=(s.length:Int)-1):=by omega
     simp[f5,f0,hw1,hbc];refine Qa (hi [110,116,34,92] c _) ?_;rcases Qqp c with⟨y,g1,g2,g3⟩|⟨g1,g2⟩
     .have hq':unqI I=(unqI (I.drop (j+1+1))).map ((x++[y])++ ·):=by rw[hq];simp only[unqI,g1];cases unqI (I.drop (j+1+1))<;>simp
      generalize Lib.indexByte [110,116,34,92] c=k at g2 g3;have hk:¬k<0:=by omega
      simp[hw1,f0,f4,hwm,hne,hk,g3];refine Qa (put y) ?_;simp[hw2];refine Qg (H.length+2) (m-(j+2)) (Q14 _) (by simp) (by omega) ⟨j+2,x++[y],.ptr (H.length+1) 0,rfl,by omega,hq',by simp;omega,.inr rfl,?_⟩;simp[f0,f4,Qi O,hw2];omega
     .have hnone:unqI I=none:=by rw[hq];simp[unqI,g1]
      generalize Lib.indexByte [110,116,34,92] c=k at g2;simp[hw1,f0,hwm,g2,hnone]
   .have h92:¬b=92:=λe=>by simp[e]at h92
    have hu:∀r,unqI (b::r)=if b.toNat<32\/b=34 then none else(unqI r).map (b:: ·):=λr=>by
     cases r with
     |nil=>simp[unqI,h92]
     |cons c r=>simp[unqI,h92]
    rw[hu]at hq;by_cases hlo:b.toNat<32
    .have hnone:unqI I=none:=by rw[hq];simp[hlo]
     have hlo':(b.toNat:Int)<32:=by omega
     simp[f5,f0,hb,hlo',hnone]
    .have hlo':¬(b.toNat:Int)<32:=by omega
     by_cases h34:b=34
     .have hnone:unqI I=none:=by rw[hq];simp[h34]
      subst h34;simp[f5,f0,hb,hlo',hnone]
     .have h34':¬(b.toNat:Int)=34:=λe=>h34 ((byte34 _).1 e);have hq':unqI I=(unqI (I.drop (j+1))).map ((x++[b])++ ·):=by rw[hq,if_neg (by simp[hlo,h34])];cases unqI (I.drop (j+1))<;>simp
      simp[f5,f0,f4,hb,hlo',h34'];refine Qa (put b) ?_;simp[f5,hw1];refine Qg (H.length+2) (m-(j+1)) (Q14 _) (by simp) (by omega) ⟨j+1,x++[b],.ptr (H.length+1) 0,rfl,by omega,hq',by simp;omega,.inr rfl,?_⟩;simp[f0,f4,Qi O,hw1]
  .have hjm:j=m:=by have:¬(1+(j:Int)<(s.length:Int)-1):=by simpa using hlt
                    omega
   subst hjm;rw[Q22 (by omega),unqI]at hq;simp[f4];refine⟨x,by simpa using hq,hxl,?_⟩;simp
 .rintro fr H' ⟨f2,f3,hn,X,rfl⟩;simp;simp[RetK,Qd O,f2,f3,hn,unqR]
 .rintro fr H' ⟨x,a,hx,hxl,f4,rfl⟩;simp[f4];have w3:=hs (H++[.tok x.length 1 5,.box bt [a,.osl true 1 (Yb x) H.length]]) (H.length+1) H.length a x (by simp) (by simp) (by omega);refine Qa w3 ?_;simp;simp[RetK,Qd O,hx,unqR]
end
section
def Pre0(H0 H:Hp):Prop:=∃X,H=H0++X
def Pre0.app{H0 H:Hp}(h:Pre0 H0 H)(X:Hp):Pre0 H0 (H++X):=by obtain⟨Y,rfl⟩:=h;exact⟨Y++X,by simp⟩
def Pre0.self(H:Hp):Pre0 H H:=⟨[],by simp⟩
def strS:Bs->Option Nat
 |[]=>none
 |[b]=>if b=34 then some 1 else none
 |b::c::r=>if b=34 then some 1 else if b=92 then(strS r).map (.+2)else if b=10 then none else(strS (c::r)).map (.+1)
def strV(s:Bs):Bs×Int:=match strS (s.drop 1)with
 |none=>([],22)
 |some k=>(s.take (k+1),if(unqV (s.take (k+1))).isSome then 0 else 22)
def Qkt:∀{s:Bs} {k:Nat},strS s=some k->1<=k/\k<=s.length
 |[],k,h=>by simp[strS]at h
 |[b],k,h=>by
  simp only[strS]at h;split at h
  .simp at h⊢;omega
  .cases h
 |b::c::r,k,h=>by
  simp only[strS]at h;split at h
  .simp at h⊢;omega
  split at h
  .cases e:strS r with
   |none=>simp[e]at h
   |some q=>have:=Qkt e;simp[e]at h;simp;omega
  split at h
  .cases h
  .cases e:strS (c::r)with
   |none=>simp[e]at h
   |some q=>have:=Qkt e;simp[e]at h;simp at this⊢;omega
def Has.str{f fu}(h:Has P f (Qhz fu))(hu:∀(s:Bs) H,s.length<=1048576->Qc P fu [YS s] H (λr H'=>r=unqR (unqV s)/\H'=H)){H:Hp}{i:Nat}{ts:TypeId}{text:Bs}{n:Nat}(hi:H[i]?=some (scan ts text n))(hn:n<text.length)(hl:text.length<=1048576):
 Qc P f [.ptr i 0] H (λr H'=>(∃k:Nat,r=.tup [YS (strV (text.drop n)).1,YI (strV (text.drop n)).2]/\H'=H.set i (scan ts text k)/\((strV (text.drop n)).2=0->k=n+(strV (text.drop n)).1.length))):=by
 obtain⟨fn,hf,hcf⟩:=h;have hil:=Wl hi;refine Qy hf hcf (by simp[Qhz]) λO _=>?_;have hg:H[i]=Ob.box ts [YS text,YI n]:=(Q11.1 hi).2;have hw0:IntKind.i64.wrap ((n:Int)+1)=n+1:=wi64 (by omega);simp[Qhz,hil,hg,hw0];have hrest:(text.drop n).drop 1=text.drop (n+1):=by rw[Q30]
 have hSV:strV (text.drop n)=match strS (text.drop (n+1))with
  |none=>([],22)
  |some k=>((text.drop n).take (k+1),if(unqV ((text.drop n).take (k+1))).isSome then 0 else 22):=by rw[strV,hrest]
 refine Qm 0 (λfr H'=>strS (text.drop (n+1))=none/\∃k:Nat,H'=H.set i (scan ts text k)) (λfr H'=>∃k:Nat,fr 2=YS (strV (text.drop n)).1/\fr 3=YI (strV (text.drop n)).2/\H'=H.set i (scan ts text k)/\((strV (text.drop n)).2=0->k=n+(strV (text.drop n)).1.length)) ?_ ?_ ?_
 .refine Q4 H.length (λd fr H'=>∃j:Nat,d=text.length+1-(n+1+j)/\n+1+j<=text.length+1/\strS (text.drop (n+1))=(strS (text.drop (n+1+j))).map (.+j)/\fr 0=.ptr i 0/\fr 4=YI n/\H'=H.set i (scan ts text (n+1+j))) (text.length+1-(n+1+0)) (by simp) ⟨0,rfl,by omega,?_,?_⟩ ?_
  .simp
  .simp[Qb O,Hp.cut_set,hil,scan]
  rintro d fr H' ⟨j,rfl,hj,hq,f0,f4,rfl⟩;simp[f0,hil,scan];refine Qh (λhlt=>?_) (λhlt=>?_)
  .have hlt':n+1+j<text.length:=by have:(n:Int)+1+j<text.length:=by simpa using hlt
                                   omega
   have hdr:text.drop (n+1+j)=text[n+1+j]::text.drop (n+1+j+1):=Q2o hlt';have hb:Yc text ((n:Int)+1+j)=some text[n+1+j]:=by
    have e:((n:Int)+1+j)=((n+1+j:Nat):Int):=by omega
    rw[e,Qaa,Q12 hlt']
   generalize text[n+1+j]=b at hdr hb;have hw1:IntKind.i64.wrap ((n:Int)+1+j+1)=(n:Int)+1+(j+1):=by rw[wi64 (by omega)];omega
   have hw2:IntKind.i64.wrap ((n:Int)+1+(j+1)+1)=(n:Int)+1+(j+1+1):=by rw[wi64 (by omega)];omega
   simp[f0,hil,hb];refine Qh (λh34=>?_) (λh34=>?_)
   .have h34:b=34:=(Y7 b 34).1 (by simpa using h34);subst h34;have hS:strS (text.drop (n+1))=some (j+1):=by rw[hq,hdr];cases text.drop (n+1+j+1)<;>simp[strS]<;>omega
    have hsub:subL text (n:Int) ((n:Int)+1+(j+1))=some ((text.drop n).take (j+1+1)):=by have:=Qe4 (s:=text) (n:=n) (w:=j+1+1) (by omega);rw[<-this];congr 1;omega
    simp only[hS]at hSV;have hU:=hu ((text.drop n).take (j+1+1)) (H.set i (scan ts text (n+1+(j+1)))) (by simp;omega);have hlen:((text.drop n).take (j+1+1)).length=j+1+1:=by simp;omega
    generalize(text.drop n).take (j+1+1)=T at hSV hsub hU hlen;simp[f0,f4,hil,hw1,hsub];simp[scan]at hU;refine Qa hU ?_;cases hv:unqV T with
    |none=>simp[unqR];exact⟨by simp[hSV],by simp[hSV,hv],n+1+(j+1),by simp[scan],λh=>by simp[hSV,hv]at h⟩
    |some x=>simp[unqR];exact⟨by simp[hSV],by simp[hSV,hv],n+1+(j+1),by simp[scan],λh=>by simp[hSV,hlen];omega⟩
   .have h34:¬b=34:=λe=>by simp[e]at h34
    simp;refine Qh (λh92=>?_) (λh92=>?_)
    .have h92:b=92:=(Y7 b 92).1 (by simpa using h92);subst h92;simp[f0,hil,hw1,hw2];refine Qg H.length (text.length+1-(n+1+(j+2))) (Q14 _) (by simp) (by omega) ⟨j+2,rfl,by omega,?_,?_⟩
     .rw[hq,hdr];have e2:n+1+(j+2)=n+1+j+1+1:=by omega
      rw[e2];cases hd2:text.drop (n+1+j+1)with
      |nil=>
       have:text.drop (n+1+j+1+1)=[]:=by rw[<-Q30,hd2];rfl
       rw[this];simp[strS]
      |cons c r=>
       have:text.drop (n+1+j+1+1)=r:=by rw[<-Q30,hd2];rfl
       rw[this];simp only[strS];simp;cases strS r<;>simp<;>omega
     .simp[f0,f4,Hp.cut_set,Qb O,hil,scan,hw2];have e3:(n:Int)+1+((j:Int)+1+1)=n+1+(j+2):=by omega
      rw[e3]
    .have h92:¬b=92:=λe=>by simp[e]at h92
     simp;refine Qh (λh10=>?_) (λh10=>?_)
     .have h10:b=10:=(Y7 b 10).1 (by simpa using h10);subst h10;have hS:strS (text.drop (n+1))=none:=by rw[hq,hdr];cases text.drop (n+1+j+1)<;>simp[strS]
      simp only[hS]at hSV;simp[hSV];exact⟨n+1+j,by simp[scan]⟩
     .have h10:¬b=10:=λe=>by simp[e]at h10
      simp[f0,hil,hw1];refine Qg H.length (text.length+1-(n+1+(j+1))) (Q14 _) (by simp) (by omega) ⟨j+1,rfl,by omega,?_,?_⟩
      .rw[hq,hdr];have e2:n+1+(j+1)=n+1+j+1:=by omega
       rw[e2];cases hd2:text.drop (n+1+j+1)with
       |nil=>simp[strS,h34]
       |cons c r=>simp only[strS,h34,h92,h10];simp;cases strS (c::r)<;>simp<;>omega
      .simp[f0,f4,Hp.cut_set,Qb O,hil,scan]
  .have hge:text.length<=n+1+j:=by have:¬((n:Int)+1+j<text.length):=by simpa using hlt
                                   omega
   have hS:strS (text.drop (n+1))=none:=by rw[hq,Q22 hge];rfl
   simp[hS];exact⟨n+1+j,by simp[scan]⟩
 .rintro fr H' ⟨k,f2,f3,rfl,hk⟩;simp;simp[RetK,Hp.cut_set,Qb O,hil,scan,f2,f3];exact⟨k,rfl,hk⟩
 .rintro fr H' ⟨hS,k,rfl⟩;simp only[hS]at hSV;simp;simp[RetK,Hp.cut_set,Qb O,hil,scan,hSV];exact⟨k,rfl⟩
end
section
def Qct(s:Bs):Bool:=match Lib.parseUintB 63 s with
 |.ok _=>true
 |_=>false
def tokN:Bs->Int×Int×Nat
 |[]=>(0,0,0)
 |b::r=>
  if Wh b then
   if(b::r).take (runN wordB (b::r))∈Yu then(0,2,runN wordB (b::r))else if 40<runN wordB (b::r)then(26,0,0)else(0,1,runN wordB (b::r))
  else if Wc b then
   if Qct ((b::r).take (runN wordB (b::r)))then(0,3,runN wordB (b::r))else(23,0,0)
  else if b=34 then
   if(strV (b::r)).2=0 then(0,4,(strV (b::r)).1.length)else(22,0,0)
  else if Vf (b::r)=[]then(21,0,0)else(0,5,(Vf (b::r)).length)
def Qwb(s:Bs):(strV s).2=0\/(strV s).2=22:=by
 unfold strV;split
 .exact .inr rfl
 .simp only;split<;>simp
def Qni(s:Bs):(strV s).2=0->s.take (strV s).1.length=(strV s).1:=by
 unfold strV;split
 .simp
 .rename_i k hk;have:=Qkt hk;intro _;simp only[Q3p];simp only[Q26]at this;rw[Q5s (by omega)]
def Qln(s:Bs):s.take (Vf s).length=Vf s:=by
 unfold Vf;cases h:Vu.find? (λx=>x.isPrefixOf s)with
 |none=>simp
 |some x=>have:=List.find?_some h;have hp:x<+:s:=List.isPrefixOf_iff_prefix.1 (by simpa using this);simp only[Q4e];exact(List.prefix_iff_eq_take.1 hp).symm
def Qz8(P:Program)(H0:Hp)(f:FuncId):Prop:=∀(s:Bs) H,Pre0 H0 H->s.length<=1048576->Qc P f [YS s] H (λr H'=>r=YI (if Qct s then 0 else 23)/\H'=H)
def Qof(H:Hp)(i:Nat)(ts:TypeId)(text:Bs)(n:Nat)(S:Bs)(T:Int×Int×Nat):A->Hp->Prop:=λr H'=>∃(k:Int)(x:Bs)(m:Nat),r=.tup [.agg [YI k,YI n,YS [],YS x],YI T.1]/\H'=H.set i (scan ts text m)/\(T.1=0->k=T.2.1/\x=S.take T.2.2/\m=n+T.2.2)
def Has.next{H0:Hp}{f fm fl fw fk fd fn fs fg tt}(h:Has P f (Qfg fm fl fw fk fd fn fs fg tt))(hm:Has P fm Qbn)(kl:Wd P fl=true)(hl:Vb P fl Wh)(kd:Wd P fd=true)(hd':Vb P fd Wc)(hw:∀{H:Hp} {i:Nat} {ts:TypeId} {text:Bs} {n:Nat},H[i]?=some (scan ts text n)->n<=text.length->text.length<=1048576->Qc P fw [.ptr i 0] H (λr H'=>r=YS ((text.drop n).take (runN Zam.wordB (text.drop n)))/\H'=H.set i (scan ts text (n+runN Zam.wordB (text.drop n)))))(hk:∀s H,Qc P fk [YS s] H (λr H'=>r=YB (decide (s∈Yu))/\H'=H))(hn:Qz8 P H0 fn)(hs:∀{H:Hp} {i:Nat} {ts:TypeId} {text:Bs} {n:Nat},H[i]?=some (scan ts text n)->n<text.length->text.length<=1048576->Qc P fs [.ptr i 0] H (λr H'=>(∃k:Nat,r=.tup [YS (strV (text.drop n)).1,YI (strV (text.drop n)).2]/\H'=H.set i (scan ts text k)/\((strV (text.drop n)).2=0->k=n+(strV (text.drop n)).1.length))))(hg:∀{H:Hp} {i:Nat} {ts:TypeId} {text:Bs} {n:Nat},H[i]?=some (scan ts text n)->n<=text.length->text.length<=1048576->Qc P fg [.ptr i 0] H (λr H'=>r=YS (Vf (text.drop n))/\H'=H.set i (scan ts text (n+(Vf (text.drop n)).length)))){H:Hp}{i:Nat}{ts:TypeId}{text:Bs}{n:Nat}(hH:Pre0 H0 H)(h0i:H0.length<=i)(hi:H[i]?=some (scan ts text n))(hnl:n<=text.length)(htl:text.length<=1048576):
 Qc P f [.ptr i 0] H (Qof H i ts text n (text.drop n) (tokN (text.drop n))):=by
 obtain⟨fnn,hf,hcf⟩:=h;have hil:=Wl hi;have hpre:∀o X,Pre0 H0 (H.set i o++X):=λo X=>by obtain⟨Y,rfl⟩:=hH;rw[Q3j _ _ h0i,Q2g];exact⟨_,rfl⟩
 refine Qy hf hcf (by simp[Qfg]) λO _=>?_;have hgi:H[i]=Ob.box ts [YS text,YI n]:=(Q11.1 hi).2;have hil':i<H.length+1:=by omega
 have hset:∀(o o':Ob),(H.set i o++[o']).length=H.length+1:=λo o'=>by simp
 have hhi:∀o',(H++[o'])[i]?=some (scan ts text n):=λo'=>by rw[Q19 hil];exact hi
 have hset2:∀o o',(H++[o']).set i o=H.set i o++[o']:=λo o'=>by rw[Q18 _ _ hil]
 have hfin:∀(S:Bs)(T:Int×Int×Nat)(x:Bs)(k e:Int)(m:Nat)(HB:Hp),HB=H.set i (scan ts text m)++[Ob.box tt [YI k,YI n,YS [],YS x]]->e=T.1->(T.1=0->k=T.2.1/\x=S.take T.2.2/\m=n+T.2.2)->
  RetK (Qof H i ts text n S T) .mk H.length (some (.tup [.agg [YI k,YI n,YS [],YS x],YI e])) HB:=by
  intro S T x k e m HB hHB he hp;subst he;have hc:Hp.cut H.length HB=H.set i (scan ts text m):=by rw[hHB,<-hset2,Hp.cut_set,Qd O];simp[scan]
  have hq:Qof H i ts text n S T (.tup [.agg [YI k,YI n,YS [],YS x],YI T.1]) (H.set i (scan ts text m)):=⟨k,x,m,rfl,rfl,hp⟩;have hl:H.length<=HB.length:=by rw[hHB];simp
  generalize Qof H i ts text n S T=Q at hq⊢;simp[RetK,hc,hl];exact hq
 simp[Qfg,hil,hgi,hil',Q65];cases hd:text.drop n with
 |nil=>
  have hn0:n=text.length:=by have:=Q3n.1 hd;omega
  have hn1:decide ((n:Int)=text.length)=true:=decide_eq_true (by omega);rw[hn1];simp;exact hfin _ _ _ _ _ n _ (by rw[Hp.set_self hi]) rfl (by simp[tokN])
 |cons b r=>
 obtain⟨hb,hlt⟩:=Yh hd;have hn1:¬((n:Int)=text.length):=by omega
 have hT:tokN (b::r)=if Wh b then
  if(b::r).take (runN Zam.wordB (b::r))∈Yu then(0,2,runN Zam.wordB (b::r))else if 40<runN Zam.wordB (b::r)then(26,0,0)else(0,1,runN Zam.wordB (b::r))
  else if Wc b then
   if Qct ((b::r).take (runN Zam.wordB (b::r)))then(0,3,runN Zam.wordB (b::r))else(23,0,0)
  else if b=34 then
   if(strV (b::r)).2=0 then(0,4,(strV (b::r)).1.length)else(22,0,0)
  else if Vf (b::r)=[]then(21,0,0)else(0,5,(Vf (b::r)).length):=rfl
 generalize tokN (b::r)=T at hT;have g1:=λo'=>hm.more kl hl (hhi o');have g2:=λo'=>hm.more kd hd' (hhi o');have g3:=λo'=>hw (hhi o') hnl htl;have g4:=λo'=>hs (hhi o') hlt htl;have g5:=λo'=>hg (hhi o') hnl htl;rw[hd]at g1 g2;simp only[hd,hset2]at g3 g4 g5;have hrl:=Qea Zam.wordB (b::r);have hbl:(b::r).length=text.length-n:=by rw[<-hd];simp
 have hrw:((b::r).take (runN Zam.wordB (b::r))).length=runN Zam.wordB (b::r):=by simp only[Q3p];omega
 simp only[Z1]at g1 g2;simp[hn1];refine Qa (g1 _) ?_;cases hlb:Wh b with
 |true=>
  rw[hlb,if_pos rfl]at hT;simp;refine Qa (g3 _) ?_;generalize hWd:(b::r).take (runN Zam.wordB (b::r))=W at hT hrw;generalize runN Zam.wordB (b::r)=w at hT hrw hWd;simp;refine Qa (hk W _) ?_;by_cases hkW:W∈Yu
  .rw[if_pos hkW]at hT;simp[hkW];exact hfin _ _ _ _ _ (n+w) _ rfl (by rw[hT]) (by simp[hT,hWd])
  .rw[if_neg hkW]at hT;by_cases h40:40<w
   .rw[if_pos h40]at hT;have h40':(40:Int)<w:=by omega
    simp[hkW,hrw,h40'];exact hfin _ _ _ _ _ (n+w) _ rfl (by rw[hT]) (by simp[hT])
   .rw[if_neg h40]at hT;have h40':¬(40:Int)<w:=by omega
    simp[hkW,hrw,h40'];exact hfin _ _ _ _ _ (n+w) _ rfl (by rw[hT]) (by simp[hT,hWd])
 |false=>
  rw[hlb]at hT;simp only[Q2c,if_false]at hT;simp;refine Qa (g2 _) ?_;cases hdb:Wc b with
  |true=>
   rw[hdb,if_pos rfl]at hT;simp;refine Qa (g3 _) ?_;generalize hWd:(b::r).take (runN Zam.wordB (b::r))=W at hT hrw;generalize runN Zam.wordB (b::r)=w at hT hrw hWd hrl;simp;refine Vj (hn W _ (hpre _ _) (by omega)) ?_;cases hnu:Qct W with
   |true=>rw[hnu,if_pos rfl]at hT;simp;exact hfin _ _ _ _ _ (n+w) _ rfl (by rw[hT]) (by simp[hT,hWd])
   |false=>rw[hnu]at hT;simp only[Q2c,if_false]at hT;simp;exact hfin _ _ _ _ _ (n+w) _ rfl (by rw[hT]) (by simp[hT])
  |false=>
   rw[hdb]at hT;simp only[Q2c,if_false]at hT;simp[hil,hil',hgi,hb,Q65];by_cases h34:b=34
   .rw[if_pos h34]at hT;have h34':(b.toNat:Int)=34:=(Y7 b 34).2 h34;simp[h34'];refine Qf (g4 _) ?_;rintro x H1 ⟨k,rfl,rfl,hk2⟩;have hst:=Qni (b::r);have hse:=Qwb (b::r);generalize strV (b::r)=SV at hT hk2 hst hse;obtain⟨S,e⟩:=SV;simp only at hT hk2 hst hse;simp;rcases hse with rfl|rfl
    .simp only[if_true]at hT;exact hfin _ _ _ _ _ k _ rfl (by rw[hT]) (by simp[hT,hst rfl,hk2 rfl])
    .simp at hT;exact hfin _ _ _ _ _ k _ rfl (by rw[hT]) (by simp[hT])
   .rw[if_neg h34]at hT;have h34':¬(b.toNat:Int)=34:=λe=>h34 ((Y7 b 34).1 e);simp[h34'];refine Qa (g5 _) ?_;have hgt:=Qln (b::r);generalize Vf (b::r)=G at hT hgt;by_cases hG:G=[]
    .rw[if_pos hG]at hT;simp[hG];exact hfin _ _ _ _ _ n _ rfl (by rw[hT]) (by simp[hT])
    .rw[if_neg hG]at hT;simp[hG];exact hfin _ _ _ _ _ (n+G.length) _ rfl (by rw[hT]) (by simp[hT,hgt])
end
section
def decU(s:Bs):Nat×Nat:=if s=[]then(65533,0)else Lib.decodeN s.length (s.getD 0 0).toNat (s.getD 1 0).toNat (s.getD 2 0).toNat (s.getD 3 0).toNat
def Qiv{s:Bs}(h:s≠[]):1<=(decU s).2/\(decU s).2<=s.length:=by
 have hl:1<=s.length:=by cases s with
  |nil=>exact absurd rfl h
  |cons a r=>simp
 unfold decU;rw[if_neg h];generalize(s.getD 0 0).toNat=b0;generalize(s.getD 1 0).toNat=b1;generalize(s.getD 2 0).toNat=b2;generalize(s.getD 3 0).toNat=b3;unfold Lib.decodeN
 (repeat' split)<;>simp only<;>omega
def badF:Nat->Bs->Nat->Int
 |0,_,_=>-1
 |f+1,s,n=>if s=[]then-1 else if decU s=(65533,1)then n else badF f (s.drop (decU s).2) (n+(decU s).2)
def badS(s:Bs):Int:=badF s.length s 0
def Qgm:∀(f g:Nat)(s:Bs)(n:Nat),s.length<=f->s.length<=g->badF f s n=badF g s n
 |0,0,s,n,_,_=>rfl
 |0,g+1,s,n,h,_=>by have:s=[]:=Q2b (by omega);simp[badF,this]
 |f+1,0,s,n,_,h=>by have:s=[]:=Q2b (by omega);simp[badF,this]
 |f+1,g+1,s,n,h1,h2=>by
  by_cases hs:s=[]
  .simp[badF,hs]
  .simp only[badF,hs,if_false];split
   .rfl
   .have:=Qiv hs;exact Qgm f g _ _ (by simp;omega) (by simp;omega)
def Qrv(P:Program)(H0:Hp)(f:FuncId):Prop:=∀(s:Bs) H,Pre0 H0 H->Qc P f [YS s] H (λr H'=>r=.tup [.d (.int .i32 ((decU s).1:Int)),YI ((decU s).2:Int)]/\H'=H)
def Has.bad{H0:Hp}{f fd}(h:Has P f (Qh1 fd))(hd:Qrv P H0 fd)(s:Bs)(hl:s.length<=1048576)(H:Hp)(hH:Pre0 H0 H):Qc P f [YS s] H (λr H'=>r=YI (badS s)/\H'=H):=by
 refine Qe h (by simp[Qh1]) λO _=>?_;simp[Qh1];refine Qm 0 (λfr H'=>badS s=-1/\H'=H) (λfr H'=>fr 2=YI (badS s)/\H'=H) ?_ ?_ ?_
 .refine Q4 H.length (λd fr H'=>∃n:Nat,d=s.length-n/\n<=s.length/\badS s=badF (s.length-n) (s.drop n) n/\fr 0=YS s/\fr 3=YI n/\H'=H) (s.length-0) (by simp) ⟨0,rfl,by omega,rfl,?_⟩ ?_
  .simp[Qb O]
  rintro d fr H' ⟨n,rfl,hn,hb,f0,f3,rfl⟩;simp[f0,f3];refine Qh (λhlt=>?_) (λhlt=>?_)
  .have hlt:n<s.length:=by simpa using hlt
   have hne:s.drop n≠[]:=λe=>by have:=Q3n.1 e;omega
   have hds:=hd (s.drop n) H' hH;have hdl:=Qiv hne;have hdr:∀k,(s.drop n).drop k=s.drop (n+k):=λk=>Q30 ..;have hfl:s.length-n=(s.length-n-1)+1:=by omega
   rw[hfl,badF,if_neg hne]at hb;simp only[Q26]at hdl;simp[f0,f3,Qkr hn];refine Qa hds ?_;simp only[hdr]at hb;generalize decU (s.drop n)=D at hb hdl;obtain⟨R,W⟩:=D;simp only at hb hdl;have hwr:IntKind.i64.wrap ((n:Int)+W)=((n+W:Nat):Int):=by rw[wi64 (by omega)];omega
   simp;by_cases hR:R=65533
   .have hR':(R:Int)=65533:=by omega
    by_cases hW:W=1
    .have hW':(W:Int)=1:=by omega
     rw[if_pos (by rw[hR,hW])]at hb;simp[hR',hW',f3,hb]
    .have hW':¬(W:Int)=1:=by omega
     rw[if_neg (by simp[hW])]at hb;simp[hR',hW',f3,hwr];refine Qg H'.length (s.length-(n+W)) (Q14 _) (by simp) (by omega) ⟨n+W,rfl,by omega,?_,?_⟩
     .rw[hb];exact Qgm _ _ _ _ (by simp;omega) (by simp)
     .simp[f0,Qb O]
   .have hR':¬(R:Int)=65533:=by omega
    rw[if_neg (by simp[hR])]at hb;simp[hR',f3,hwr];refine Qg H'.length (s.length-(n+W)) (Q14 _) (by simp) (by omega) ⟨n+W,rfl,by omega,?_,?_⟩
    .rw[hb];exact Qgm _ _ _ _ (by simp;omega) (by simp)
    .simp[f0,Qb O]
  .have hge:n=s.length:=by have:¬(n<s.length):=by simpa using hlt
                           omega
   have:badS s=-1:=by rw[hb,hge];simp[badF]
   simp[this]
 .rintro fr H' ⟨f2,rfl⟩;simp;simp[RetK,Qb O,f2]
 .rintro fr H' ⟨hb,rfl⟩;simp;simp[RetK,Qb O,hb]
structure Tk where
 k:Int
 a:Nat
 l:Bs
 x:Bs
def Qp(t:Tk):List D:=[.int .i64 t.k,.int .i64 (t.a:Int),.str t.l,.str t.x]
def lexF:Nat->Bs->Nat->Nat->List Tk×Int×Int
 |0,_,_,_=>([],0,0)
 |f+1,s,n,c=>
  if(tokN (s.drop (Qo false s))).1≠0 then([],(tokN (s.drop (Qo false s))).1,((n+Qo false s:Nat):Int))
  else if 4000<=c then([],5,((n+Qo false s:Nat):Int))
  else if(tokN (s.drop (Qo false s))).2.1=0 then([⟨(tokN (s.drop (Qo false s))).2.1,n+Qo false s,s.take (Qo false s),(s.drop (Qo false s)).take (tokN (s.drop (Qo false s))).2.2⟩],0,0)
  else if(lexF f ((s.drop (Qo false s)).drop (tokN (s.drop (Qo false s))).2.2) (n+Qo false s+(tokN (s.drop (Qo false s))).2.2) (c+1)).2.1=0 then
   (⟨(tokN (s.drop (Qo false s))).2.1,n+Qo false s,s.take (Qo false s),(s.drop (Qo false s)).take (tokN (s.drop (Qo false s))).2.2⟩::(lexF f ((s.drop (Qo false s)).drop (tokN (s.drop (Qo false s))).2.2) (n+Qo false s+(tokN (s.drop (Qo false s))).2.2) (c+1)).1,0,0)
  else([],(lexF f ((s.drop (Qo false s)).drop (tokN (s.drop (Qo false s))).2.2) (n+Qo false s+(tokN (s.drop (Qo false s))).2.2) (c+1)).2)
def lexS(s:Bs):List Tk×Int×Int:=if 16384<s.length then([],5,16384)else if 0<=badS s then([],20,badS s)else lexF (s.length+1) s 0 0
def Qwa(s:Bs):(strV s).2=0->2<=(strV s).1.length:=by
 unfold strV;split
 .simp
 .rename_i k hk;have:=Qkt hk;intro _;simp only[Q3p];simp only[Q26]at this;omega
def Qlu{p:UInt8->Bool}{b:UInt8}{r:Bs}(h:p b=true):1<=runN p (b::r):=by simp[runN,h]
def Qey:∀(s:Bs),(tokN s).2.2<=s.length/\((tokN s).1=0->(tokN s).2.1=0->s=[])/\((tokN s).1=0->s≠[]->1<=(tokN s).2.2)/\(s=[]->(tokN s).2.1=0)
 |[]=>by simp[tokN]
 |b::r=>by
  have h1:=Qea wordB (b::r);have h2:=Qni (b::r);have h3:=Qln (b::r);have h4:=Qwa (b::r);have h5:Wh b=true->1<=runN wordB (b::r):=λh=>Qlu (by simp[wordB,h]);have h6:Wc b=true->1<=runN wordB (b::r):=λh=>Qlu (by simp[wordB,h]);have h7:(strV (b::r)).2=0->(strV (b::r)).1.length<=(b::r).length:=λh=>by rw[<-h2 h];simp only[Q3p];omega
  have h8:(Vf (b::r)).length<=(b::r).length:=by have:=congrArg List.length h3;simp only[Q3p]at this;omega
  have h9:Vf (b::r)≠[]->1<=(Vf (b::r)).length:=λh=>by
   cases hq:Vf (b::r)with
   |nil=>exact absurd hq h
   |cons a t=>simp
  rw[tokN];generalize runN wordB (b::r)=w at*;generalize strV (b::r)=S at*;generalize Vf (b::r)=G at*
  (repeat' split)<;>simp_all<;>omega
def Qcl(acc:List Tk)(r:List Tk×Int×Int):List Tk×Int×Int:=if r.2.1=0 then(acc++r.1,0,0)else([],r.2)
def Qu9:∀(f:Nat)(s:Bs)(n c:Nat),((lexF f s n c).2.1=0->(lexF f s n c).2.2=0)/\((lexF f s n c).2.1≠0->(lexF f s n c).1=[])
 |0,s,n,c=>by simp[lexF]
 |f+1,s,n,c=>by
  rw[lexF];split
  .rename_i h;exact⟨λe=>absurd e h,λ_=>rfl⟩
  split
  .exact⟨λe=>absurd e (by simp),λ_=>rfl⟩
  split
  .exact⟨λ_=>rfl,λe=>absurd rfl e⟩
  split
  .exact⟨λ_=>rfl,λe=>absurd rfl e⟩
  .rename_i h;exact⟨λe=>absurd e h,λ_=>rfl⟩
def Qn7(f:Nat)(s:Bs)(n c:Nat):Qcl [] (lexF f s n c)=lexF f s n c:=by
 obtain⟨h1,h2⟩:=Qu9 f s n c;generalize lexF f s n c=R at h1 h2;obtain⟨l,e,a⟩:=R;unfold Qcl;split
 .rename_i h;simp only at h h1;simp[h,h1 h]
 .rename_i h;simp only at h h2;simp[h2 h]
def Qmz(acc:List Tk)(t:Tk)(R:List Tk×Int×Int):Qcl (acc++[t]) R=Qcl acc (if R.2.1=0 then(t::R.1,0,0)else([],R.2)):=by unfold Qcl;by_cases h:R.2.1=0<;>simp[h]
def HasT.lex{H0:Hp}{f fb fl fn ts tt}(h:HasT P [7] f (Qgc fb fl fn ts tt))(hb:∀(s:Bs) H,s.length<=1048576->Pre0 H0 H->Qc P fb [YS s] H (λr H'=>r=YI (badS s)/\H'=H))(hl:∀{H:Hp} {i:Nat} {text:Bs} {n:Nat},H[i]?=some (scan ts text n)->n<=text.length->text.length<=1048576->Qc P fl [.ptr i 0] H (λr H'=>r=YS ((text.drop n).take (Qo false (text.drop n)))/\H'=H.set i (scan ts text (n+Qo false (text.drop n)))))(hn:∀{H:Hp} {i:Nat} {text:Bs} {n:Nat},Pre0 H0 H->H0.length<=i->H[i]?=some (scan ts text n)->n<=text.length->text.length<=1048576->Qc P fn [.ptr i 0] H (Qof H i ts text n (text.drop n) (tokN (text.drop n))))(s:Bs)(hs:s.length<=1048576)(H:Hp)(hH:Pre0 H0 H):
 Qc P f [YS s] H (λr H'=>r=.tup [YL true 4 ((lexS s).1.map Qp),YI (lexS s).2.1,YI (lexS s).2.2]/\H'=H):=by
 obtain⟨fnn,hf,hcf⟩:=h;refine Qy hf hcf (by simp[Qgc]) λO _=>?_;by_cases h1:16384<s.length;case pos=>
  have h1':(16384:Int)<s.length:=by omega
  simp[Qgc,h1'];simp[RetK,Qb O,lexS,h1]
 have h1':¬(16384:Int)<s.length:=by omega
 have hbs:=hb s H hs hH;have hL:lexS s=if 0<=badS s then([],20,badS s)else lexF (s.length+1) s 0 0:=by rw[lexS,if_neg h1]
 generalize lexS s=LS at hL;generalize badS s=bs at hL hbs;simp[Qgc,h1'];refine Qa hbs ?_;simp;refine Qh (λh2=>?_) (λh2=>?_)
 .have h2:0<=bs:=by simpa using h2
  rw[if_pos h2]at hL;subst hL;simp;simp[RetK,Qb O]
 have h2:¬0<=bs:=by simpa using h2
 rw[if_neg h2]at hL;simp;have hH0:H0.length<=H.length:=by obtain⟨X,rfl⟩:=hH;simp
 refine Q4 (H.length+2) (λd fr H'=>∃(p:Nat)(acc:List Tk),p<=s.length/\s.length-p<d/\LS=Qcl acc (lexF d (s.drop p) p acc.length)/\acc.length<=4000/\fr 6=.ptr H.length 0/\fr 7=.osl true 4 (acc.map Qp) (H.length+1)/\H'=H++[scan ts s p,.tok acc.length 4 tt]) (s.length+1) (by simp) ⟨0,[],by omega,by omega,?_,by simp,?_⟩ ?_
 .simp only[Q4z,Q3b];rw[hL];exact(Qn7 _ _ _ _).symm
 .simp[Qi O,scan]
 rintro d fr H' ⟨p,acc,hp,hd,hLS,hacc,f6,f7,rfl⟩;obtain⟨d',rfl⟩:∃d',d=d'+1:=⟨d-1,by omega⟩;have g1:=hl (H:=H++[scan ts s p,.tok acc.length 4 tt]) (i:=H.length) (text:=s) (n:=p) (by simp) hp hs;simp at g1;simp[f6];refine Qa g1 ?_;have hll:=Qbw false (s.drop p);simp only[Q26]at hll;rw[lexF]at hLS;simp only[Qa5]at hLS;have g2:=hn (H:=H++[scan ts s (p+Qo false (s.drop p)),.tok acc.length 4 tt]) (i:=H.length) (text:=s) (n:=p+Qo false (s.drop p)) (hH.app _) hH0 (by simp) (by omega) hs;have htl:=Qey (s.drop (p+Qo false (s.drop p)));have hdn:s.drop (p+Qo false (s.drop p))≠[]->p+Qo false (s.drop p)<s.length:=λh=>by
  rcases Q4f (p+Qo false (s.drop p)) s.length with h'|h'
  .exact h'
  .exact absurd (Q22 h') h
 simp only[Q26]at htl;generalize Qo false (s.drop p)=n at hLS hll g2 htl hdn;generalize tokN (s.drop (p+n))=T at hLS g2 htl;obtain⟨e,k,m⟩:=T;simp only at hLS htl;obtain⟨t1,t2,t3,t4⟩:=htl;simp[f6,scan];simp[scan]at g2;refine Qf g2 ?_;rintro x H1 ⟨k',x',m',rfl,rfl,hx⟩;simp only at hx;simp;by_cases he:e=0;case neg=>
  rw[if_pos he]at hLS;simp[he];have:LS=([],e,((p+n:Nat):Int)):=by rw[hLS];simp[Qcl,he]
  simp[RetK,Qd O,this]
 obtain⟨rfl,rfl,rfl⟩:=hx he;rw[if_neg (by simp[he])]at hLS;subst he;have hap:(acc.map Qp).length=acc.length:=by simp
 simp[f7];by_cases h4:4000<=acc.length;case pos=>
  have h4':(4000:Int)<=acc.length:=by omega
  rw[if_pos h4]at hLS;have:LS=([],5,((p+n:Nat):Int)):=by rw[hLS];simp[Qcl]
  simp[h4'];simp[RetK,Qd O,this]
 have h4':¬(4000:Int)<=acc.length:=by omega
 rw[if_neg h4]at hLS;simp[h4',f7,appA];rw[if_pos (by omega)];simp;obtain⟨t,ht⟩:∃t:Tk,t=⟨k',p+n,(s.drop p).take n,(s.drop (p+n)).take m⟩:=⟨_,rfl⟩;have hbt:acc.map Qp++[[.int .i64 k',.int .i64 ((p:Int)+n),.str ((s.drop p).take n),.str ((s.drop (p+n)).take m)]]=(acc++[t]).map Qp:=by simp[Qp,ht]
 rw[<-ht]at hLS;by_cases hk:k'=0
 .rw[if_pos hk]at hLS;have hLS':LS=(acc++[t],0,0):=by rw[hLS];simp[Qcl]
  subst hk;simp[hbt];simp[RetK,Qd O,hLS']
 .rw[if_neg hk,<-Qmz]at hLS;simp[hk,hbt];have hne:s.drop (p+n)≠[]:=λe=>hk (t4 e);have hm1:=t3 rfl hne;have hlt:=hdn hne;refine Qg (H.length+2) d' (Q14 _) (by simp) (by omega) ⟨p+n+m,acc++[t],by omega,by omega,?_,by simp;omega,?_⟩
  .simpa using hLS
  .simp[f6,Qi O,scan]
end
section
end
section
open Go.RowKit (Below)
def Qcm(g3 g4 g0 g1:Nat)(H0:Hp):Prop:=∀w:World,(∀(i:Nat)(g:Nat)(cs:List Value),H0[i]?=some (.glob g cs)->∃ty fr,w.heap[g]?=some (.cells cs.toArray ty fr))->
 Lib.Utf8Tabs g3 g4 w/\(∃te pe,w.cell? ⟨g0,0,none⟩=some (.iface te pe))/\(∃te pe,w.cell? ⟨g1,0,none⟩=some (.iface te pe))
def Qyn{κ:K}{H H0:Hp}{w:World}{g3 g4 g0 g1:Nat}(hr:HR κ H w)(hp:Pre0 H0 H)(hG:Qcm g3 g4 g0 g1 H0):
 Lib.Utf8Tabs g3 g4 w/\(∃te pe,w.cell? ⟨g0,0,none⟩=some (.iface te pe))/\(∃te pe,w.cell? ⟨g1,0,none⟩=some (.iface te pe)):=by
 obtain⟨X,rfl⟩:=hp;refine hG w λi g cs hi=>?_;have hlt:=(Q11.1 hi).1;obtain⟨ty,fr,h⟩:=hr.ob i _ (by rw[Q19 hlt];exact hi);exact⟨ty,fr,by rw[hr.below.block g (Q24.1 h).1];exact h⟩
def Qz2{P:Program}{f:FuncId}{args:List D}{x:A}{H0:Hp}{g3 g4 g0 g1:Nat}(hG:Qcm g3 g4 g0 g1 H0)(h:∀(w:World) (σ:St) (vs:List Value),(Lib.Utf8Tabs g3 g4 w/\(∃te pe,w.cell? ⟨g0,0,none⟩=some (.iface te pe))/\(∃te pe,w.cell? ⟨g1,0,none⟩=some (.iface te pe)))->vs.length=args.length->(∀(i:Nat) (v:Value) (d:D),vs[i]?=some v->args[i]?=some d->DR σ v d)->
 Calls P f vs.toArray w λe w'=>∃v,e=.returned v/\Below w.heap.size w w'/\∀κ:K,VR κ v x)(H:Hp)(hp:Pre0 H0 H):Qc P f (args.map .d) H (λr H'=>r=x/\H'=H):=by
 intro κ w vs hr hl hv;refine(h w κ.σ vs (Qyn hr hp hG) (by simpa using hl) (λi v d hi hd=>(hv i v (.d d) hi (by simp[hd])).d_inv)).mono ?_;rintro e w' ⟨v,rfl,hb,hd⟩;exact⟨v,κ,_,H,rfl,K.le_refl κ,hr.later hb,hd κ,rfl,rfl⟩
def Qra(s:Bs):Lib.decodeGo ⟨s.toArray⟩=decU s:=by
 unfold Lib.decodeGo decU;have hsz:(⟨s.toArray⟩:ByteArray).size=s.length:=by simp[ByteArray.size]
 rw[hsz];by_cases h:s=[]
 · simp[h]
 · have hl:¬ s.length=0:=λ e=>h (Q2b e);rw[if_neg hl,if_neg h,Lib.decode_at,hsz];have hg:∀ i,(⟨s.toArray⟩:ByteArray).get! i=s.getD i 0:=λ i=>by
    show s.toArray[i]! = _;by_cases hi:i<s.length
    · rw[getElem!_pos s.toArray i (by simpa using hi)];simp[List.getD,hi]
    · rw[getElem!_neg s.toArray i (by simpa using hi)];simp[List.getD,hi];rfl
   simp only[hg,Nat.sub_zero,Q3i]
end
def Qba{w:World}{g o:Nat}{v:Value}(h:w.cell? ⟨g,o,none⟩=some v):∃cs ty fr,w.heap[g]?=some (.cells cs ty fr):=by
 unfold World.cell? at h;split at h
 .rename_i c t fr hb;exact⟨c,t,fr,hb⟩
 .cases h
def Qd1{w w':World}{g o:Nat}{v:Value}{cs:Array Value}{ty ty':TypeId}{fr fr':Nat×Nat}(h:w.cell? ⟨g,o,none⟩=some v)(h1:w.heap[g]?=some (.cells cs ty fr))(h2:w'.heap[g]?=some (.cells cs ty' fr')):w'.cell? ⟨g,o,none⟩=some v:=by unfold World.cell? at h⊢;rw[h1]at h;rw[h2];exact h
def Qvc{W:World}{g3 g4 g0 g1:Nat}(hU:Lib.Utf8Tabs g3 g4 W)(h0:∃te pe,W.cell? ⟨g0,0,none⟩=some (.iface te pe))(h1:∃te pe,W.cell? ⟨g1,0,none⟩=some (.iface te pe)):
 ∃H0,Qpm W H0/\Qcm g3 g4 g0 g1 H0:=by
 obtain⟨u1,u2⟩:=hU;obtain⟨t0,p0,h0⟩:=h0;obtain⟨t1,p1,h1⟩:=h1;obtain⟨c3,y3,f3,b3⟩:=Qba (u1 0 (by omega));obtain⟨c4,y4,f4,b4⟩:=Qba (u2 0 (by omega)).1;obtain⟨c0,y0,f0,b0⟩:=Qba h0;obtain⟨c1,y1,f1,b1⟩:=Qba h1;refine⟨[.glob g3 c3.toList,.glob g4 c4.toList,.glob g0 c0.toList,.glob g1 c1.toList],?_,?_⟩
 .intro i x hx
  match i with
  |0=>simp at hx;subst hx;exact⟨g3,_,y3,f3,rfl,by simpa using b3⟩
  |1=>simp at hx;subst hx;exact⟨g4,_,y4,f4,rfl,by simpa using b4⟩
  |2=>simp at hx;subst hx;exact⟨g0,_,y0,f0,rfl,by simpa using b0⟩
  |3=>simp at hx;subst hx;exact⟨g1,_,y1,f1,rfl,by simpa using b1⟩
  |i+4=>simp at hx
 .intro w hw;obtain⟨y3',f3',b3'⟩:=hw 0 g3 _ rfl;obtain⟨y4',f4',b4'⟩:=hw 1 g4 _ rfl;obtain⟨y0',f0',b0'⟩:=hw 2 g0 _ rfl;obtain⟨y1',f1',b1'⟩:=hw 3 g1 _ rfl;simp only[Q5n]at b3' b4' b0' b1';refine⟨⟨λc hc=>Qd1 (u1 c hc) b3 b3',λi hi=>⟨Qd1 (u2 i hi).1 b4 b4',Qd1 (u2 i hi).2 b4 b4'⟩⟩,⟨t0,p0,Qd1 h0 b0 b0'⟩,⟨t1,p1,Qd1 h1 b1 b1'⟩⟩
end Go.Zam
namespace Go.Zam
inductive N where
 |mk (k f t:Int) (w:Bs) (a:Int) (z:Bool) (ks:List N)
namespace N
def k:N->Int|.mk k ..=>k
def f:N->Int|.mk _ f ..=>f
def t:N->Int|.mk _ _ t ..=>t
def w:N->Bs|.mk _ _ _ w ..=>w
def at_:N->Int|.mk _ _ _ _ a _ _=>a
def ks:N->List N|.mk _ _ _ _ _ _ ks=>ks
def new(k f t:Int)(w:Bs)(a:Int)(ks:List N):N:=.mk k f t w a ks.isEmpty ks
mutual
def enc:N->List D
 |.mk k f t w a z ks=>[.int .i64 k,.int .i64 f,.int .i64 t,.str w,.int .i64 a,.sl z 6 (encs ks)]
def encs:List N->List (List D)
 |[]=>[]
 |p::r=>enc p::encs r
end
def Qqy:∀l:List N,encs l=l.map enc
 |[]=>rfl
 |p::r=>by rw[encs,Qqy r];rfl
def enc_mk(k f t:Int)(w:Bs)(a:Int)(z:Bool)(ks:List N):enc (.mk k f t w a z ks)=[.int .i64 k,.int .i64 f,.int .i64 t,.str w,.int .i64 a,.sl z 6 (ks.map enc)]:=by rw[enc,Qqy]
def v(n:N):A:=.agg (n.enc.map .d)
def v_mk(k f t:Int)(w:Bs)(a:Int)(z:Bool)(ks:List N):v (.mk k f t w a z ks)=.agg [YI k,YI f,YI t,YS w,YI a,YL z 6 (ks.map enc)]:=by rw[v,enc_mk];rfl
def v_new(k f t:Int)(w:Bs)(a:Int)(ks:List N):v (new k f t w a ks)=.agg [YI k,YI f,YI t,YS w,YI a,YL ks.isEmpty 6 (ks.map enc)]:=v_mk ..
mutual
theorem ind{Q:N->Prop}(h:∀k f t w a z ks,(∀p∈ks,Q p)->Q (.mk k f t w a z ks)):∀n,Q n
 |.mk k f t w a z ks=>h k f t w a z ks (inds h ks)
theorem inds{Q:N->Prop}(h:∀k f t w a z ks,(∀p∈ks,Q p)->Q (.mk k f t w a z ks)):∀l:List N,∀p∈l,Q p
 |[]=>λp hp=>by simp at hp
 |x::r=>λp hp=>(Q2v.1 hp).elim (λe=>e▸ind h x) (λhp=>inds h r p hp)
end
def none:N:=new 0 0 0 [] 0 []
def bag(ks:List N):N:=new 0 0 0 [] 0 ks
end N
inductive PR where
 |out
 |bad (i:Nat)
 |ok (n:N) (i:Nat)
def PR.then:PR->(N->Nat->PR)->PR
 |.out,_=>.out
 |.bad i,_=>.bad i
 |.ok n i,h=>h n i
inductive G where
 |file (ks:List N)|use|defn|params|param|typed|kind|tfield|block|stmts (ks:List N)|stmt
 |expr|sum|sumL (a:N)|term|termL (a:N)|post|postL (a:N)|atom|entry
 |list (one:G) (e:Bs)|listL (one:G) (e:Bs) (ks:List N)
def isT(L:List Tk)(i:Nat)(x:Bs):Bool:=match L[i]? with
 |some t=>(decide (t.k=2)||decide (t.k=5))&&decide (t.x=x)
 |none=>false
def kdT(L:List Tk)(i:Nat):Int:=match L[i]? with
 |some t=>t.k
 |none=>0
def txT(L:List Tk)(i:Nat):Bs:=match L[i]? with
 |some t=>t.x
 |none=>[]
def kUse:Bs:=[117,115,101]
def kDef:Bs:=[100,101,102]
def kInt:Bs:=[105,110,116]
def kStr:Bs:=[115,116,114]
def kDyn:Bs:=[100,121,110]
def kFn:Bs:=[102,110]
def kIf:Bs:=[105,102]
def Qgs:Bs:=[101,108,115,101]
def Y3:Bs:=[119,104,105,108,101]
def kLet:Bs:=[108,101,116]
def V4:Bs:=[112,114,105,110,116]
def Vz:Bs:=[114,101,116,117,114,110]
def Zf:Bs:=[105,110,112,117,116]
def Qv(L:List Tk)(i:Nat)(x:Bs)(h:Nat->PR):PR:=if isT L i x then h (i+1)else .bad i
def Yn(L:List Tk)(i:Nat)(h:Bs->Nat->PR):PR:=if kdT L i=1 then h (txT L i) (i+1)else .bad i
def pp(L:List Tk):Nat->G->Nat->PR
 |0,_,_=>.out
 |n+1,g,i=>match g with
  |.file ks=>if kdT L i=0 then .ok (N.new 1 0 i [] 0 ks) i
   else if isT L i kUse then(pp L n .use i).then λm j=>pp L n (.file (ks++[m])) j else(pp L n .defn i).then λm j=>pp L n (.file (ks++[m])) j
  |.use=>Qv L i kUse λ_=>Yn L (i+1) λm _=>Qv L (i+2) [46] λ_=>Yn L (i+3) λw _=>Qv L (i+4) [59] λ_=>
   .ok (N.new 2 i (i+5) w (i+3) [N.new 23 (i+1) (i+2) m (i+1) []]) (i+5)
  |.defn=>Qv L i kDef λ_=>Yn L (i+1) λw _=>(pp L n .params (i+2)).then λp j=>(pp L n .typed j).then λt j=>(pp L n .block j).then λb j=>.ok (N.new 3 i j w (i+1) [p,t,b]) j
  |.params=>Qv L i [40] λ_=>(pp L n (.list .param [41]) (i+1)).then λm j=>.ok (N.new 4 i j [] 0 m.ks) j
  |.param=>Yn L i λw _=>(pp L n .typed (i+1)).then λt j=>.ok (N.new 5 i j w i [t]) j
  |.typed=>if isT L i [58]then pp L n .kind (i+1)else .ok N.none i
  |.kind=>if isT L i kInt then .ok (N.new 29 i (i+1) [] 0 []) (i+1)else if isT L i kStr then .ok (N.new 30 i (i+1) [] 0 []) (i+1)else if isT L i kDyn then .ok (N.new 31 i (i+1) [] 0 []) (i+1)
   else if isT L i [123]then(pp L n (.list .tfield [125]) (i+1)).then λm j=>.ok (N.new 32 i j [] 0 m.ks) j
   else Qv L i kFn λ_=>Qv L (i+1) [40] λ_=>(pp L n (.list .kind [41]) (i+2)).then λm j=>Qv L j [58] λ_=>(pp L n .kind (j+1)).then λt j=>.ok (N.new 34 i j [] 0 (m.ks++[t])) j
  |.tfield=>Yn L i λw _=>Qv L (i+1) [58] λ_=>(pp L n .kind (i+2)).then λt j=>.ok (N.new 33 i j w i [t]) j
  |.block=>Qv L i [123] λ_=>(pp L n (.stmts []) (i+1)).then λm j=>.ok (N.new 6 i j [] 0 m.ks) j
  |.stmts ks=>if isT L i [125]then .ok (N.bag ks) (i+1)else(pp L n .stmt i).then λm j=>pp L n (.stmts (ks++[m])) j
  |.stmt=>if isT L i kLet then Yn L (i+1) λw _=>(pp L n .typed (i+2)).then λt j=>Qv L j [61] λ_=>(pp L n .expr (j+1)).then λx j=>Qv L j [59] λ_=>.ok (N.new 7 i (j+1) w (i+1) [t,x]) (j+1)
   else if isT L i kIf then(pp L n .expr (i+1)).then λc j=>(pp L n .block j).then λb j=>if isT L j Qgs then(pp L n .block (j+1)).then λo j=>.ok (N.new 9 i j [] 0 [c,b,o]) j else .ok (N.new 9 i j [] 0 [c,b,N.none]) j
   else if isT L i Y3 then(pp L n .expr (i+1)).then λc j=>(pp L n .block j).then λb j=>.ok (N.new 10 i j [] 0 [c,b]) j
   else if isT L i V4 then(pp L n .expr (i+1)).then λx j=>Qv L j [59] λ_=>.ok (N.new 11 i (j+1) [] 0 [x]) (j+1)
   else if isT L i Vz then(pp L n .expr (i+1)).then λx j=>Qv L j [59] λ_=>.ok (N.new 12 i (j+1) [] 0 [x]) (j+1)
   else if kdT L i=1/\isT L (i+1) [61]=true then(pp L n .expr (i+2)).then λx j=>Qv L j [59] λ_=>.ok (N.new 8 i (j+1) (txT L i) i [x]) (j+1)
   else(pp L n .expr i).then λx j=>Qv L j [59] λ_=>.ok (N.new 13 i (j+1) [] 0 [x]) (j+1)
  |.expr=>(pp L n .sum i).then λa j=>if isT L j [60]then(pp L n .sum (j+1)).then λb j=>.ok (N.new 14 a.f j [] 0 [a,b]) j
   else if isT L j [61,61]then(pp L n .sum (j+1)).then λb j=>.ok (N.new 15 a.f j [] 0 [a,b]) j else .ok a j
  |.sum=>(pp L n .term i).then λa j=>pp L n (.sumL a) j
  |.sumL a=>if isT L i [43]then(pp L n .term (i+1)).then λb j=>pp L n (.sumL (N.new 16 a.f j [] 0 [a,b])) j
   else if isT L i [45]then(pp L n .term (i+1)).then λb j=>pp L n (.sumL (N.new 17 a.f j [] 0 [a,b])) j else .ok a i
  |.term=>(pp L n .post i).then λa j=>pp L n (.termL a) j
  |.termL a=>if isT L i [42]then(pp L n .post (i+1)).then λb j=>pp L n (.termL (N.new 18 a.f j [] 0 [a,b])) j else .ok a i
  |.post=>(pp L n .atom i).then λa j=>pp L n (.postL a) j
  |.postL a=>if isT L i [46]then Yn L (i+1) λw j=>pp L n (.postL (N.new 19 a.f j w (i+1) [a])) j
   else if isT L i [40]then(pp L n (.list .expr [41]) (i+1)).then λm j=>pp L n (.postL (N.new 20 a.f j [] 0 (a::m.ks))) j else .ok a i
  |.atom=>if kdT L i=3 then .ok (N.new 21 i (i+1) (txT L i) i []) (i+1)else if kdT L i=4 then .ok (N.new 22 i (i+1) (txT L i) i []) (i+1)else if kdT L i=1 then .ok (N.new 23 i (i+1) (txT L i) i []) (i+1)
   else if isT L i Zf then .ok (N.new 24 i (i+1) [] 0 []) (i+1)
   else if isT L i [40]then(pp L n .expr (i+1)).then λx j=>Qv L j [41] λ_=>.ok (N.new 25 i (j+1) [] 0 [x]) (j+1)
   else if isT L i [123]then(pp L n (.list .entry [125]) (i+1)).then λm j=>.ok (N.new 26 i j [] 0 m.ks) j
   else Qv L i kFn λ_=>(pp L n .params (i+1)).then λp j=>(pp L n .typed j).then λt j=>(pp L n .block j).then λb j=>.ok (N.new 28 i j [] 0 [p,t,b]) j
  |.entry=>Yn L i λw _=>Qv L (i+1) [58] λ_=>(pp L n .expr (i+2)).then λx j=>.ok (N.new 27 i j w i [x]) j
  |.list one e=>if isT L i e then .ok (N.bag []) (i+1)else pp L n (.listL one e []) i
  |.listL one e ks=>(pp L n one i).then λx j=>if isT L j e then .ok (N.bag (ks++[x])) (j+1)else Qv L j [44] λj=>pp L n (.listL one e (ks++[x])) j
def G.strict:G->Bool
 |.file _|.typed|.sumL _|.termL _|.postL _=>false
 |_=>true
def Yi{L:List Tk}{i:Nat}{x:Bs}(h:isT L i x=true):i<L.length:=by
 unfold isT at h;split at h
 .rename_i t e;exact(Q11.1 e).1
 .cases h
def Qc6{L:List Tk}{i:Nat}(h:kdT L i≠0):i<L.length:=by
 unfold kdT at h;split at h
 .rename_i t e;exact(Q11.1 e).1
 .exact absurd rfl h
def Adv(L:List Tk)(i:Nat)(s:Bool):PR->Prop
 |.ok _ j=>i<=j/\(s=true->i<j)/\(i<j->j<=L.length)
 |_=>True
section
variable{L:List Tk}
def Adv.ok{i j:Nat}{s:Bool}{m:N}(h1:i<=j)(h2:s=true->i<j)(h3:i<j->j<=L.length):Adv L i s (.ok m j):=⟨h1,h2,h3⟩
def Adv.want{i k:Nat}{s:Bool}{x:Bs}{h:Nat->PR}(hh:k+1<=L.length->Adv L i s (h (k+1))):Adv L i s (Qv L k x h):=by
 unfold Qv;split
 .rename_i e;exact hh (Yi e)
 .trivial
def Adv.word{i k:Nat}{s:Bool}{h:Bs->Nat->PR}(hh:k+1<=L.length->Adv L i s (h (txT L k) (k+1))):Adv L i s (Yn L k h):=by
 unfold Yn;split
 .rename_i e;exact hh (Qc6 (by omega))
 .trivial
def Adv.ifT{i k:Nat}{s:Bool}{x:Bs}{a b:PR}(ha:k+1<=L.length->Adv L i s a)(hb:Adv L i s b):Adv L i s (if isT L k x then a else b):=by
 split
 .rename_i e;exact ha (Yi e)
 .exact hb
def Adv.ifK{i k:Nat}{s:Bool}{x:Int}{a b:PR}(hx:x≠0)(ha:k+1<=L.length->Adv L i s a)(hb:Adv L i s b):Adv L i s (if kdT L k=x then a else b):=by
 split
 .rename_i e;exact ha (Qc6 (by omega))
 .exact hb
def Adv.if0{i k:Nat}{s:Bool}{a b:PR}(ha:Adv L i s a)(hb:Adv L i s b):Adv L i s (if kdT L k=0 then a else b):=by
 split
 .exact ha
 .exact hb
def Adv.ifS{i k:Nat}{s:Bool}{x:Bs}{a b:PR}(ha:k+2<=L.length->Adv L i s a)(hb:Adv L i s b):Adv L i s (if kdT L k=1/\isT L (k+1) x=true then a else b):=by
 split
 .rename_i e;exact ha (by have:=Yi e.2;omega)
 .exact hb
def Adv.last{n:Nat}(ih:∀g i,Adv L i g.strict (pp L n g i)){g:G}{k i:Nat}{s:Bool}(h1:i<=k)(h2:i<k->k<=L.length)(h3:s=true->g.strict=true\/i<k):Adv L i s (pp L n g k):=by
 have:=ih g k;generalize pp L n g k=r at this;cases r with
 |out=>trivial
 |bad j=>trivial
 |ok m j=>
  obtain⟨a1,a2,a3⟩:=this;refine⟨by omega,λh=>?_,λh=>by omega⟩;rcases h3 h with h|h
  .have:=a2 h;omega
  .omega
def Adv.thenG{n:Nat}(ih:∀g i,Adv L i g.strict (pp L n g i)){g:G}{k i:Nat}{s:Bool}{h:N->Nat->PR}(hh:∀m j,k<=j->(g.strict=true->k<j)->(k<j->j<=L.length)->Adv L i s (h m j)):Adv L i s ((pp L n g k).then h):=by
 have:=ih g k;generalize pp L n g k=r at this;cases r with
 |out=>trivial
 |bad j=>trivial
 |ok m j=>exact hh m j this.1 this.2.1 this.2.2
def Yg:∀(n:Nat)(g:G)(i:Nat),Adv L i g.strict (pp L n g i)
 |0,g,i=>trivial
 |n+1,g,i=>by
  have ih:=Yg n;cases g;all_goals simp only[pp,G.strict]
  all_goals
   repeat' first
    |exact Adv.bad
    |(refine Adv.want λ_=>?_)
    |(refine Adv.word λ_=>?_)
    |(refine Adv.ifT (λ_=>?_) ?_)
    |(refine Adv.ifK (by decide) (λ_=>?_) ?_)
    |(refine Adv.ifS (λ_=>?_) ?_)
    |(refine Adv.if0 ?_ ?_)
    |(refine Adv.thenG ih λm j h1 h2 h3=>?_;simp only[G.strict,Q2c,false_implies,true_implies]at h2)
    |(refine Adv.ok ?_ ?_ ?_<;>(try simp only[Q2c,false_implies,true_implies])<;>omega)
    |(refine Adv.last ih ?_ ?_ ?_<;>(try simp only[G.strict,Q2c,false_implies,true_implies,false_or,true_or])<;>omega)
def G.c:G->Nat
 |.file _=>7|.use=>1|.defn=>6|.params=>5|.param=>2|.typed=>1|.kind=>1|.tfield=>2|.block=>1|.stmts _=>7|.stmt=>6
 |.expr=>5|.sum=>4|.sumL _=>1|.term=>3|.termL _=>1|.post=>2|.postL _=>1|.atom=>1|.entry=>6
 |.list o _=>o.c+2|.listL o _ _=>o.c+1
end
end Go.Zam
namespace Go.Zam
section
open Go.Proofs
def Qmn(t1:Nat):IFn:=by
 have h:=Ix.J [] Tryz.f132 [] [(47,t1)];conv at h=>arg 1;reduce
 exact h.p
def Qgh:IFn:=by
 have h:=Ix.J [] Tryz.f137 [] [];conv at h=>arg 1;reduce
 exact h.p
def Qqm(c1 t1:Nat):IFn:=by
 have h:=Ix.J [] Tryz.f133 [(132,c1)] [(47,t1)];conv at h=>arg 1;reduce
 exact h.p
def Qgg(c1:Nat):IFn:=by
 have h:=Ix.J [] Tryz.f184 [(133,c1)] [];conv at h=>arg 1;reduce
 exact h.p
def Qic(c1 c2:Nat):IFn:=by
 have h:=Ix.J [] Tryz.f165 [(184,c1),(137,c2)] [];conv at h=>arg 1;reduce
 exact h.p
def Qia(c1 c2 t1:Nat):IFn:=by
 have h:=Ix.J [] Tryz.f166 [(132,c1),(137,c2)] [(47,t1)];conv at h=>arg 1;reduce
 exact h.p
def Qih(t1:Nat):IFn:=by
 have h:=Ix.J [10] Tryz.f131 [] [(37,t1)];conv at h=>arg 1;reduce
 exact h.p
def Qim(t1:Nat):IFn:=by
 have h:=Ix.J [] Tryz.f138 [] [(37,t1)];conv at h=>arg 1;reduce
 exact h.p
def Qmm(t1:Nat):IFn:=by
 have h:=Ix.J [] Tryz.f134 [] [(37,t1)];conv at h=>arg 1;reduce
 exact h.p
def Qii(c1 c2 c3:Nat):IFn:=by
 have h:=Ix.J [] Tryz.f185 [(184,c1),(134,c2),(165,c3)] [];conv at h=>arg 1;reduce
 exact h.p
def Qik(c1 c2 c3 c4 c5 c6 c7 c8 t1:Nat):IFn:=by
 have h:=Ix.J [] Tryz.f89 [(131,c1),(132,c2),(133,c3),(135,c4),(134,c5),(136,c6),(137,c7),(138,c8)] [(37,t1)];conv at h=>arg 1;reduce
 exact h.p
def Qmk(c1 c2 c3 c4 c5 t1:Nat):IFn:=by
 have h:=Ix.J [] Tryz.f135 [(131,c1),(165,c2),(166,c3),(138,c4),(134,c5)] [(37,t1)];conv at h=>arg 1;reduce
 exact h.p
def Qmo(c1 c2 c3 c4 c5 c6 c7 c8 t1:Nat):IFn:=by
 have h:=Ix.J [] Tryz.f136 [(131,c1),(165,c2),(166,c3),(167,c4),(168,c5),(169,c6),(134,c7),(138,c8)] [(37,t1)];conv at h=>arg 1;reduce
 exact h.p
def Qdt(c1 c2 c3 c4 c5 t1 t2:Nat):IFn:=by
 have h:=Ix.J [] Tryz.f167 [(131,c1),(165,c2),(186,c3),(185,c4),(138,c5)] [(171,t1),(37,t2)];conv at h=>arg 1;reduce
 exact h.p
def Qfp(c1 c2 c3 c4 c5 t1:Nat):IFn:=by
 have h:=Ix.J [] Tryz.f186 [(131,c1),(166,c2),(168,c3),(134,c4),(138,c5)] [(37,t1)];conv at h=>arg 1;reduce
 exact h.p
def Qfo(c1 c2 t1:Nat):IFn:=by
 have h:=Ix.J [] Tryz.f168 [(184,c1),(187,c2)] [(37,t1)];conv at h=>arg 1;reduce
 exact h.p
def Qij(c1 c2 c3 c4 c5 c6 c7 c8 c9 t1 t2:Nat):IFn:=by
 have h:=Ix.J [] Tryz.f187 [(131,c1),(184,c2),(201,c3),(185,c4),(165,c5),(187,c6),(134,c7),(137,c8),(138,c9)] [(171,t1),(37,t2)];conv at h=>arg 1;reduce
 exact h.p
def Qds(c1 c2 c3 c4 c5 c6 t1:Nat):IFn:=by
 have h:=Ix.J [] Tryz.f201 [(131,c1),(166,c2),(165,c3),(187,c4),(134,c5),(138,c6)] [(37,t1)];conv at h=>arg 1;reduce
 exact h.p
def Qfr(c1 c2 c3 c4 c5 c6 t1:Nat):IFn:=by
 have h:=Ix.J [] Tryz.f169 [(131,c1),(165,c2),(184,c3),(188,c4),(134,c5),(138,c6)] [(37,t1)];conv at h=>arg 1;reduce
 exact h.p
def Qie(c1 c2 c3 c4 c5 c6 c7 c8 c9 c10 t1:Nat):IFn:=by
 have h:=Ix.J [] Tryz.f188 [(131,c1),(184,c2),(166,c3),(168,c4),(134,c5),(165,c6),(202,c7),(169,c8),(138,c9),(203,c10)] [(37,t1)];conv at h=>arg 1;reduce
 exact h.p
def Qif(c1 t1:Nat):IFn:=by
 have h:=Ix.J [] Tryz.f203 [(132,c1)] [(47,t1)];conv at h=>arg 1;reduce
 exact h.p
def Qil(c1 c2 c3 t1:Nat):IFn:=by
 have h:=Ix.J [] Tryz.f202 [(211,c1),(184,c2),(212,c3)] [(37,t1)];conv at h=>arg 1;reduce
 exact h.p
def Qib(t1:Nat):IFn:=by
 have h:=Ix.J [] Tryz.f212 [] [(37,t1)];conv at h=>arg 1;reduce
 exact h.p
def Qml(c1 c2 c3 t1:Nat):IFn:=by
 have h:=Ix.J [] Tryz.f211 [(215,c1),(184,c2),(212,c3)] [(37,t1)];conv at h=>arg 1;reduce
 exact h.p
def Qid(c1 c2 c3 t1:Nat):IFn:=by
 have h:=Ix.J [] Tryz.f215 [(218,c1),(184,c2),(212,c3)] [(37,t1)];conv at h=>arg 1;reduce
 exact h.p
def Qig(c1 c2 c3 c4 c5 c6 t1:Nat):IFn:=by
 have h:=Ix.J [15] Tryz.f218 [(224,c1),(184,c2),(166,c3),(202,c4),(185,c5),(138,c6)] [(37,t1)];conv at h=>arg 1;reduce
 exact h.p
def Qin(c1 c2 c3 c4 c5 c6 c7 c8 c9 c10 c11 c12 c13 c14 t1 t2 t3:Nat):IFn:=by
 have h:=Ix.J [4000000] Tryz.f224 [(131,c1),(132,c2),(166,c3),(184,c4),(202,c5),(134,c6),(165,c7),(230,c8),(185,c9),(167,c10),(168,c11),(169,c12),(137,c13),(138,c14)] [(171,t1),(37,t2),(47,t3)] [(5,(.o 0 (.b (.o 1 (.o 2 (.o 3 (.o 4 (.o 5 (.o 6 (.o 7 (.o 8 (.o 9 .n))))))))) (.o 2 (.o 3 (.o 4 (.b (.o 1 (.o 5 (.o 6 (.o 7 (.o 8 (.o 9 .n)))))) (.o 5 (.o 1 (.o 6 (.o 7 (.o 8 (.o 9 .n))))))))))))),(8,(.o 0 (.b (.o 1 (.o 2 (.o 3 (.o 4 (.o 5 (.o 6 (.o 7 (.o 8 (.o 9 (.o 10 (.o 11 .n))))))))))) (.o 2 (.o 3 (.o 4 (.b (.o 1 (.o 5 (.o 6 (.o 7 (.o 8 (.o 9 (.o 10 (.o 11 .n)))))))) (.o 5 (.o 6 (.b (.o 1 (.o 7 (.o 8 (.o 9 (.o 10 (.o 11 .n)))))) (.o 7 (.o 1 (.o 8 (.o 9 (.o 10 (.o 11 .n)))))))))))))))),(24,(.b (.o 0 (.b (.o 1 (.b (.o 2 (.b (.o 3 (.o 4 (.o 5 (.o 6 (.o 7 .n))))) (.o 4 (.o 3 (.o 5 (.o 6 (.o 7 .n))))))) (.o 4 (.o 2 (.o 3 (.o 5 (.o 6 (.o 7 .n)))))))) (.b (.o 2 (.b (.o 1 (.b (.o 3 (.o 4 (.o 5 (.o 6 (.o 7 .n))))) (.o 4 (.o 3 (.o 5 (.o 6 (.o 7 .n))))))) (.o 4 (.o 1 (.o 3 (.o 5 (.o 6 (.o 7 .n)))))))) (.o 4 (.b (.o 1 (.o 2 (.o 3 (.o 5 (.o 6 (.o 7 .n)))))) (.o 2 (.o 1 (.o 3 (.o 5 (.o 6 (.o 7 .n))))))))))) (.b (.o 2 (.b (.o 0 (.b (.o 1 (.b (.o 3 (.o 4 (.o 5 (.o 6 (.o 7 .n))))) (.o 4 (.o 3 (.o 5 (.o 6 (.o 7 .n))))))) (.o 4 (.o 1 (.o 3 (.o 5 (.o 6 (.o 7 .n)))))))) (.o 4 (.o 0 (.o 1 (.o 3 (.o 5 (.o 6 (.o 7 .n))))))))) (.o 4 (.b (.o 0 (.b (.o 1 (.o 2 (.o 3 (.o 5 (.o 6 (.o 7 .n)))))) (.o 2 (.o 1 (.o 3 (.o 5 (.o 6 (.o 7 .n)))))))) (.o 2 (.o 0 (.o 1 (.o 3 (.o 5 (.o 6 (.o 7 .n))))))))))))];conv at h=>arg 1;reduce
 exact h.p
def Qfq(c1 c2 c3 c4 c5 c6 t1:Nat):IFn:=by
 have h:=Ix.J [] Tryz.f230 [(131,c1),(166,c2),(165,c3),(202,c4),(134,c5),(138,c6)] [(37,t1)];conv at h=>arg 1;reduce
 exact h.p
def Qbp(c1 c2 t1 t2:Nat):IFn:=by
 have h:=Ix.J [] Tryz.f61 [(89,c1),(90,c2)] [(37,t1),(173,t2)] [(6,(.o 0 (.o 1 (.o 2 (.o 3 (.o 5 (.o 6 (.o 7 (.b (.o 4 (.b (.o 8 (.o 9 (.o 10 (.o 11 .n)))) (.o 9 (.o 10 (.o 8 (.o 11 .n)))))) (.b (.o 8 (.b (.o 4 (.o 9 (.o 10 (.o 11 .n)))) (.o 9 (.o 4 (.o 10 (.o 11 .n)))))) (.o 9 (.b (.o 4 (.o 10 (.o 8 (.o 11 .n)))) (.o 8 (.o 4 (.o 10 (.o 11 .n))))))))))))))))];conv at h=>arg 1;reduce
 exact h.p
def Qql(c1 c2 t1:Nat):IFn:=by
 have h:=Ix.J [] Tryz.f43 [(60,c1),(61,c2)] [(37,t1)] [(6,(.o 0 (.o 1 (.o 2 (.o 3 (.o 7 (.b (.o 4 (.o 5 (.b (.o 6 (.o 8 (.o 9 (.o 10 .n)))) (.o 8 (.o 9 (.o 6 (.o 10 .n))))))) (.o 8 (.o 9 (.o 4 (.o 5 (.o 6 (.o 10 .n)))))))))))))];conv at h=>arg 1;reduce
 exact h.p
def Qdk(c1 t1:Nat):IFn:=by
 have h:=Ix.J [] Tryz.f90 [(90,c1)] [(37,t1)];conv at h=>arg 1;reduce
 exact h.p
end
section
def Nrm(x x':A):Prop:=∀κ v,VR κ v x->VR κ v x'
def Ye{P:Program}{f:FuncId}{args:List A}{H:Hp}{Q:A->Hp->Prop}(h:Qc P f args H (λr H'=>∃r',Nrm r r'/\Q r' H')):Qc P f args H Q:=by intro κ w vs hr hl hv;refine(h κ w vs hr hl hv).mono ?_;rintro e w' ⟨v,κ',x,H',rfl,h1,h2,h3,r',h4,h5⟩;exact⟨v,κ',r',H',rfl,h1,h2,h4 _ _ h3,h5⟩
def DR.isE{σ:St}{v:Value}{z:Bool}{sz:Nat}{rows:List (List D)}(h:DR σ v (.sl z sz rows))(hz:rows=[]->z=true):DR σ v (.sl rows.isEmpty sz rows):=by
 cases h with
 |nilsl=>exact .nilsl sz
 |sl _ _ _ b o cap f hz' hcap hrow hc hd=>exact .sl rows.isEmpty sz rows b o cap f (λe=>by have:=Q6a.1 e;exact absurd this (hz' (hz this))) hcap hrow hc hd
 |emp _ a cap=>exact absurd (hz rfl) (by simp)
def Ql2{a b c d e:A}{z:Bool}{rows:List (List D)}(hz:rows=[]->z=true):Nrm (.agg [a,b,c,d,e,YL z 6 rows]) (.agg [a,b,c,d,e,YL rows.isEmpty 6 rows]):=by
 intro κ v h;cases h with
 |agg vs _ hl hh=>
  refine .agg vs _ (by simpa using hl) λi v a hv ha=>?_;match i with
  |0=>exact hh 0 v _ hv ha
  |1=>exact hh 1 v _ hv ha
  |2=>exact hh 2 v _ hv ha
  |3=>exact hh 3 v _ hv ha
  |4=>exact hh 4 v _ hv ha
  |5=>
   simp at ha;subst ha;have:=hh 5 v _ hv rfl;cases this with
   |d hd=>exact .d (hd.isE hz)
  |i+6=>simp at ha
structure PF where
 (now fail is took want word node done put list file use_ def_ params param typed kind tfield block stmt sets expr with_ sum term post atom entry:FuncId)
 (tn tt tp tb:TypeId)
structure KHas(P:Program)(F:PF):Prop where
 now:Has P F.now (Qmn F.tt)
 fail:Has P F.fail Qgh
 is:Has P F.is (Qqm F.now F.tt)
 took:Has P F.took (Qgg F.is)
 want:Has P F.want (Qic F.took F.fail)
 word:Has P F.word (Qia F.now F.fail F.tt)
 node:HasT P [10] F.node (Qih F.tn)
 done:Has P F.done (Qim F.tn)
 put:Has P F.put (Qmm F.tn)
 list:Has P F.list (Qii F.took F.put F.want)
 kind:Has P F.kind (Qij F.node F.took F.tfield F.list F.want F.kind F.put F.fail F.done F.tb F.tn)
 tfield:Has P F.tfield (Qds F.node F.word F.want F.kind F.put F.done F.tn)
 kTField:Wd P F.tfield=true
 kKind:Wd P F.kind=true
structure PHas(P:Program)(F:PF):Prop extends KHas P F where
 file:Has P F.file (Qik F.node F.now F.is F.use_ F.put F.def_ F.fail F.done F.tn)
 use_:Has P F.use_ (Qmk F.node F.want F.word F.done F.put F.tn)
 def_:Has P F.def_ (Qmo F.node F.want F.word F.params F.typed F.block F.put F.done F.tn)
 params:Has P F.params (Qdt F.node F.want F.param F.list F.done F.tb F.tn)
 param:Has P F.param (Qfp F.node F.word F.typed F.put F.done F.tn)
 typed:Has P F.typed (Qfo F.took F.kind F.tn)
 block:Has P F.block (Qfr F.node F.want F.took F.stmt F.put F.done F.tn)
 stmt:Has P F.stmt (Qie F.node F.took F.word F.typed F.put F.want F.expr F.block F.done F.sets F.tn)
 sets:Has P F.sets (Qif F.now F.tt)
 expr:Has P F.expr (Qil F.sum F.took F.with_ F.tn)
 with_:Has P F.with_ (Qib F.tn)
 sum:Has P F.sum (Qml F.term F.took F.with_ F.tn)
 term:Has P F.term (Qid F.post F.took F.with_ F.tn)
 post:HasT P [15] F.post (Qig F.atom F.took F.word F.expr F.list F.done F.tn)
 atom:HasT P [4000000] F.atom (Qin F.node F.now F.word F.took F.expr F.put F.want F.entry F.list F.params F.typed F.block F.fail F.done F.tb F.tn F.tt)
 entry:Has P F.entry (Qfq F.node F.word F.want F.expr F.put F.done F.tn)
 kParam:Wd P F.param=true
 kExpr:Wd P F.expr=true
 kSum:Wd P F.sum=true
 kTerm:Wd P F.term=true
 kPost:Wd P F.post=true
 kEntry:Wd P F.entry=true
abbrev PSt:=Nat×Option Nat
def pst(tp:TypeId)(z:Bool)(L:List Tk)(s:PSt):Ob:=.box tp [YL z 4 (L.map Qp),YI s.1,YI (if s.2.isSome then 24 else 0),YI ((s.2.getD 0:Nat):Int)]
def Yy(L:List Tk)(x:Bs)(s:PSt):Bool:=s.2.isNone&&isT L s.1 x
def Qac(L:List Tk)(x:Bs)(s:PSt):PSt:=if Yy L x s then(s.1+1,s.2)else s
def Qc0(s:PSt):PSt:=if s.2.isNone then(s.1,some s.1)else s
def Qr(L:List Tk)(x:Bs)(s:PSt):PSt:=if Yy L x s then(s.1+1,s.2)else Qc0 s
def Q0(L:List Tk)(s:PSt):Bool:=s.2.isNone&&decide (kdT L s.1=1)
def W7(L:List Tk)(s:PSt):PSt:=if Q0 L s then(s.1+1,s.2)else if kdT L s.1=1 then s else Qc0 s
def Qe0(L:List Tk)(i:Nat):A:=match L[i]? with
 |some t=>.agg ((Qp t).map .d)
 |none=>.agg [.d (.int .i64 0),.d (.int .i64 0),.d (.str []),.d (.str [])]
def Wj{H:Hp}{i:Nat}{o:Ob}(h:H[i]?=some o)(X:Hp):(H++X)[i]?=some o:=by rw[Q19 (Q11.1 h).1];exact h
def Qdz{H:Hp}{i:Nat}{o:Ob}(O:H.Closed)(ho:o.clr H.length=o):Hp.cut H.length (H.set i o)=H.set i o:=by rw[Hp.cut_set,Qb O,ho]
def Qaq{A X:Hp}{n:Nat}(h:A.length=n):Hp.cut n (A++X)=Hp.cut n A:=by unfold Hp.cut;rw[Q6v (by omega)]
def Qf8{H:Hp}{i:Nat}(h:i<H.length)(o:Ob):(H.set i o)[i]?=some o:=by simp[h]
def up{H X:Hp}{i:Nat}{o o':Ob}(hi:i<H.length):(H.set i o++X).set i o'=H.set i o'++X:=by rw[Q18 _ _ (by simpa using hi)];simp
def upG{H X:Hp}{i:Nat}{o:Ob}(hi:i<H.length):(H.set i o++X)[i]?=some o:=Wj (by simp[hi]) X
def Qhq{tp:TypeId}{z:Bool}{L:List Tk}{s:PSt}{n:Nat}:(pst tp z L s).clr n=pst tp z L s:=by simp[pst]
section
variable{P:Program}{F:PF}{z:Bool}{L:List Tk}{H:Hp}{i:Nat}{s:PSt}
def KHas.now'(hF:KHas P F)(hi:H[i]?=some (pst F.tp z L s)):Qc P F.now [.ptr i 0] H (λr H'=>r=Qe0 L s.1/\H'=H):=by
 refine Qe hF.now (by simp[Qmn]) λO _=>?_;unfold pst at hi;have hA:=Wj hi;simp[Qmn,hA];by_cases h:s.1<L.length
 .have hr:=Qt Qp h;simp[Qp]at hr;simp[h,hA,hr];simp[RetK,Qd O,Qe0,h,Qp]
 .simp[h];simp[RetK,Qd O,Qe0,h]
def KHas.fail'(hF:KHas P F)(hi:H[i]?=some (pst F.tp z L s)):Qc P F.fail [.ptr i 0,YI 24] H (λr H'=>r=.tup []/\H'=H.set i (pst F.tp z L (Qc0 s))):=by
 refine Qe hF.fail (by simp[Qgh]) λO _=>?_;have hil:=Wl hi;obtain⟨j,st⟩:=s;cases st with
 |some q=>rw[show Qc0 (j,some q)=(j,some q)from rfl,Hp.set_self hi];unfold pst at hi;simp[Qgh,hi];simp[RetK,Qb O]
 |none=>
  unfold pst at hi;simp[Qgh,hi,Qf8 hil];simp[RetK,Qc0,pst]
  (refine Qdz O ?_;rfl)
def KHas.is'(hF:KHas P F)(hi:H[i]?=some (pst F.tp z L s))(x:Bs):Qc P F.is [.ptr i 0,YS x] H (λr H'=>r=YB (isT L s.1 x)/\H'=H):=by
 refine Qe hF.is (by simp[Qqm]) λO _=>?_;simp[Qqm];refine Qa (hF.now' hi) ?_;unfold Qe0 isT;cases h:L[s.1]? with
 |none=>simp;simp[RetK,Qd O]
 |some t=>
  obtain⟨k,a,l,w⟩:=t;simp[Qp];by_cases h2:k=2
  .simp[h2];simp[RetK,Qd O,h2]
  .by_cases h5:k=5
   .simp[h2,h5];simp[RetK,Qd O,h5]
   .simp[h2,h5];simp[RetK,Qd O,h2,h5]
def KHas.took'(hF:KHas P F)(hi:H[i]?=some (pst F.tp z L s))(x:Bs)(hs:s.1<=1125899906842624):Qc P F.took [.ptr i 0,YS x] H (λr H'=>r=YB (Yy L x s)/\H'=H.set i (pst F.tp z L (Qac L x s))):=by
 refine Qe hF.took (by simp[Qgg]) λO _=>?_;have hil:=Wl hi;have g:=hF.is' hi x;have hi':=hi;obtain⟨j,st⟩:=s;cases st with
 |some q=>rw[show Qac L x (j,some q)=(j,some q)from rfl,show Yy L x (j,some q)=false from rfl,Hp.set_self hi];unfold pst at hi;simp[Qgg,hi];simp[RetK,Qb O]
 |none=>
  unfold pst at hi';simp[Qgg,hi'];refine Qa g ?_;cases hb:isT L j x with
  |false=>rw[show Qac L x (j,none)=(j,none)from by simp[Qac,Yy,hb],show Yy L x (j,none)=false from by simp[Yy,hb],Hp.set_self hi];simp[hb];simp[RetK,Qb O]
  |true=>
   have hw:IntKind.i64.wrap ((j:Int)+1)=((j+1:Nat):Int):=by simp only at hs;rw[wi64 (by omega)];omega
   simp[hb,hi',Qf8 hil,hw];simp[RetK,Qac,Yy,hb,pst]
   (refine Qdz O ?_;rfl)
def KHas.want'(hF:KHas P F)(hi:H[i]?=some (pst F.tp z L s))(x:Bs)(hs:s.1<=1125899906842624):Qc P F.want [.ptr i 0,YS x] H (λr H'=>r=.tup []/\H'=H.set i (pst F.tp z L (Qr L x s))):=by
 refine Qe hF.want (by simp[Qic]) λO _=>?_;have hil:=Wl hi;simp[Qic];refine Qa (hF.took' hi x hs) ?_;cases hb:Yy L x s with
 |true=>simp[hb];simp[RetK,Qr,Qac,hb];exact Qdz O Qhq
 |false=>
  have h1:Qac L x s=s:=by simp[Qac,hb]
  have h2:Qr L x s=Qc0 s:=by simp[Qr,hb]
  rw[h1,h2,Hp.set_self hi];simp[hb];refine Qa (hF.fail' hi) ?_;simp;simp[RetK];exact Qdz O Qhq
def nob(tn:TypeId)(k f t:Int)(w:Bs)(a:Int)(z:Bool)(rows:List (List D))(q:Nat):Ob:=.box tn [YI k,YI f,YI t,YS w,YI a,.osl z 6 rows q]
def nag(k f t:Int)(w:Bs)(a:Int)(z:Bool)(rows:List (List D))(q:Nat):A:=.agg [YI k,YI f,YI t,YS w,YI a,.osl z 6 rows q]
def KHas.word'(hF:KHas P F)(hi:H[i]?=some (pst F.tp z L s))(hs:s.1<=1125899906842624){j:Nat}{k f t:Int}{w:Bs}{a:Int}{zz:Bool}{rows:List (List D)}{q:Nat}(hq:q<H.length)(hj:H[j]?=some (nob F.tn k f t w a zz rows q))(hij:i≠j):
 Qc P F.word [.ptr i 0,.ptr j 0] H (λr H'=>r=.tup []/\H'=(H.set i (pst F.tp z L (W7 L s))).set j (nob F.tn k f t (if Q0 L s then txT L s.1 else w) (if Q0 L s then(s.1:Int)else a) zz rows q)):=by
 refine Qe hF.word (by simp[Qia]) λO _=>?_;have hil:=Wl hi;have hjl:=Wl hj;have hji:¬j=i:=λe=>hij e.symm;simp[Qia];refine Qa (hF.now' hi) ?_;have hk:∃k' a' l',Qe0 L s.1=.agg [YI k',YI a',YS l',YS (txT L s.1)]/\k'=kdT L s.1:=by
  unfold Qe0 kdT txT;cases L[s.1]? with
  |none=>exact⟨_,_,_,rfl,rfl⟩
  |some t=>exact⟨_,_,_,rfl,rfl⟩
 obtain⟨k',a',l',hk1,hk2⟩:=hk;rw[hk1];have hA:=Wj hi;have hAj:=Wj hj;unfold pst at hA;unfold nob at hAj;simp[hA];by_cases h1:kdT L s.1=1
 .obtain⟨p,st⟩:=s;simp only at h1 hk2 hs;simp[hk2,h1];cases st with
  |some e=>simp[hA];simp[RetK,Qd O,W7,Q0,h1];rw[Hp.set_self hi,Hp.set_self hj]
  |none=>
   have hw:IntKind.i64.wrap ((p:Int)+1)=((p+1:Nat):Int):=by rw[wi64 (by omega)];omega
   have e1:∀X o,(H++X).set j o=H.set j o++X:=λX o=>Q18 _ _ hjl;have e2:∀X o,(H++X).set i o=H.set i o++X:=λX o=>Q18 _ _ hil;have e3:∀X o,(H.set j o++X)[i]?=some (pst F.tp z L (p,none)):=λX o=>Wj (by rw[Q15 hji];exact hi) X;have e4:∀X o,(H.set j o++X)[j]?=some o:=λX o=>Wj (by simp[hjl]) X;have e5:∀X o o',(H.set j o++X).set j o'=H.set j o'++X:=λX o o'=>by rw[Q18 _ _ (by simpa using hjl)];simp
   have e6:∀X o o',(H.set j o++X).set i o'=(H.set i o').set j o++X:=λX o o'=>by rw[Q18 _ _ (by simpa using hil),Q4j _ _ hji]
   unfold pst at e3;simp[hA,hAj,e1,e3,e4,e5,hw];simp only[e6];simp[RetK,W7,Q0,h1];rw[Qaq (by simp),Hp.cut_set,Hp.cut_set,Qb O];simp[nob,hq,pst]
 .simp[hk2,h1];refine Qa (hF.fail' (Wj hi _)) ?_;obtain⟨p,st⟩:=s;have e2:∀X o,(H++X).set i o=H.set i o++X:=λX o=>Q18 _ _ hil;have e3:∀X o,(H.set i o++X)[i]?=some o:=λX o=>Wj (by simp[hil]) X;have e4:Qc0 (p,st)=(p,some (st.getD p)):=by cases st<;>rfl
  rw[e4];simp only[e2];unfold pst at e3⊢;simp[e3];simp only at h1;simp[RetK,W7,Q0,h1,e4];rw[Qaq (by simp),Hp.cut_set,Qb O];have e5:H.set i (pst F.tp z L (p,some (st.getD p)))=(H.set i (pst F.tp z L (p,some (st.getD p)))).set j (nob F.tn k f t w a zz rows q):=by refine(Hp.set_self ?_).symm;rw[Q15 hij];exact hj
  exact e5
def KHas.node'(hF:KHas P F)(hi:H[i]?=some (pst F.tp z L s))(k:Int):
 Qc P F.node [.ptr i 0,YI k] H (λr H'=>r=nag k s.1 0 [] 0 true [] (H.length+1)/\H'=H++[nob F.tn k s.1 0 [] 0 true [] (H.length+1),.tok 0 6 F.tn]):=by
 obtain⟨fn,hf,hcf⟩:=hF.node;refine Zu 2 hf hcf (by simp[Qih]) λO _=>?_;have hA:=Wj hi;unfold pst at hA;simp[Qih,hA,tokA];simp[RetK,nag,nob,Qi O]
def KHas.done'(hF:KHas P F)(hi:H[i]?=some (pst F.tp z L s)){k f t:Int}{w:Bs}{a:Int}{zz:Bool}{rows:List (List D)}{q:Nat}(hq:q<H.length):
 Qc P F.done [.ptr i 0,nag k f t w a zz rows q] H (λr H'=>r=nag k f s.1 w a zz rows q/\H'=H):=by
 refine Qe hF.done (by simp[Qim]) λO _=>?_;have hA:=Wj hi;unfold pst at hA;simp[Qim,nag,hA];simp[RetK,nag,Qd O,hq]
def KHas.put'(hF:KHas P F){j:Nat}{k f t:Int}{w:Bs}{a:Int}{zz z2:Bool}{rows rows2:List (List D)}{q:Nat}(hj:H[j]?=some (nob F.tn k f t w a zz rows q))(hq:H[q]?=some (.tok rows.length 6 F.tn))(hb:(rows.length+rows2.length)*72<=140737488355328):
 Qc P F.put [.ptr j 0,YL z2 6 rows2] H (λr H'=>r=.tup []/\H'=(H.set q (.tok (rows++rows2).length 6 F.tn)).set j (nob F.tn k f t w a zz (rows++rows2) q)):=by
 refine Qe hF.put (by simp[Qmm]) λO _=>?_;have hjl:=Wl hj;have hql:=Wl hq;have hqj:¬q=j:=λe=>by rw[e,hj]at hq;simp[nob]at hq
 have hj2:∀o,(H.set q o)[j]?=some (nob F.tn k f t w a zz rows q):=λo=>by rw[Q15 hqj];exact hj
 unfold nob at hj hj2;simp[Qmm,hj,hq,hj2,appA,hb,slOf];simp[RetK,nob];rw[Hp.cut_set,Hp.cut_set,Qb O];simp[hql]
def Qlq(L:List Tk)(i:Nat):Bool:=decide (kdT L i=1)&&(match L[i+1]? with
 |some t=>decide (t.k=5)&&decide (t.x=[61])
 |none=>false)
def PHas.sets'(hF:PHas P F)(hi:H[i]?=some (pst F.tp z L s))(hs:s.1<=1125899906842624):Qc P F.sets [.ptr i 0] H (λr H'=>r=YB (Qlq L s.1)/\H'=H):=by
 refine Qe hF.sets (by simp[Qif]) λO _=>?_;have hw:IntKind.i64.wrap ((s.1:Int)+1)=((s.1+1:Nat):Int):=by rw[wi64 (by omega)];omega
 have hk:∃k' a' l',Qe0 L s.1=.agg [YI k',YI a',YS l',YS (txT L s.1)]/\k'=kdT L s.1:=by
  unfold Qe0 kdT txT;cases L[s.1]? with
  |none=>exact⟨_,_,_,rfl,rfl⟩
  |some t=>exact⟨_,_,_,rfl,rfl⟩
 obtain⟨k',a',l',hk1,hk2⟩:=hk;have g:=hF.now' hi;rw[hk1]at g;have hi':=hi;unfold pst at hi';simp[Qif];refine Vj g ?_;by_cases h1:kdT L s.1=1
 .simp[hk2,h1,hi',hw];by_cases h2:s.1+1<L.length
  .have h2':¬(L.length:Int)<=(s.1:Int)+1:=by omega
   have hr:=Qt Qp h2;have hg:L[s.1+1]?=some L[s.1+1]:=Q12 h2;generalize L[s.1+1]=t at hr hg;obtain⟨k,a,l,w⟩:=t;simp[Qp]at hr;simp[h2',hi',hw,hr];by_cases h5:k=5
   .simp[h5];simp[RetK,Qd O,Qlq,hg,h1,h5]
   .simp[h5];simp[RetK,Qd O,Qlq,hg,h1,h5]
  .have h2':(L.length:Int)<=(s.1:Int)+1:=by omega
   simp[h2'];simp[RetK,Qb O,Qlq,Q5d (Q5h h2)]
 .simp[hk2,h1];simp[RetK,Qb O,Qlq,h1]
end
end
section
def G.wt:G->Nat
 |.expr|.sum|.sumL _|.term|.termL _|.post|.postL _|.atom|.stmt|.entry=>1
 |_=>0
def PPre(L:List Tk)(n:Nat)(g:G)(s:PSt):Prop:=s.1+16*g.c<=281474976710656/\g.c<=n/\(s.2=none->s.1<=L.length/\16*(L.length-s.1)+g.c<=n)
def Rel(L:List Tk)(n:Nat)(g:G)(s:PSt)(m:N)(s':PSt):Prop:=
 match s.2 with
 |some q=>s'.2=some q/\s'.1<=s.1+g.wt
 |none=>match pp L n g s.1 with
  |.out=>False
  |.bad q=>s'.2=some q/\s'.1<=L.length+n
  |.ok m' k=>m=m'/\s'=(k,none)
def PQ(tp:TypeId)(z:Bool)(L:List Tk)(n:Nat)(g:G)(H:Hp)(i:Nat)(X:Hp)(s:PSt):A->Hp->Prop:=λr H'=>∃m s',r=N.v m/\H'=H.set i (pst tp z L s')++X/\Rel L n g s m s'
def Mo(L:List Tk)(s s':PSt):Prop:=s'.2=none->s.2=none/\s.1<=s'.1/\(s.1<=L.length->s'.1<=L.length)
def Mo.refl{L:List Tk}(s:PSt):Mo L s s:=λh=>⟨h,Q14 _,id⟩
def Mo.trans{L:List Tk}{s t u:PSt}(h:Mo L s t)(k:Mo L t u):Mo L s u:=λe=>by obtain⟨a1,a2,a3⟩:=k e;obtain⟨b1,b2,b3⟩:=h a1;exact⟨b1,by omega,λq=>a3 (b3 q)⟩
def Mo.pre{L:List Tk}{n:Nat}{g g':G}{s s':PSt}(h:Mo L s s')(hp:PPre L (n+1) g s)(hc:g'.c<g.c)(hb:s'.1+16*g'.c<=281474976710656):PPre L n g' s':=by obtain⟨p1,p2,p3⟩:=hp;refine⟨hb,by omega,λe=>?_⟩;obtain⟨a1,a2,a3⟩:=h e;obtain⟨b1,b2⟩:=p3 a1;exact⟨a3 b1,by have:=a3 b1;omega⟩
def UC(P:Program)(tp:TypeId)(z:Bool)(L:List Tk)(n:Nat)(g:G)(f:FuncId):Prop:=∀(H X:Hp)(i:Nat)(s:PSt),i<H.length->PPre L n g s->Qc P f [.ptr i 0] (H.set i (pst tp z L s)++X) (PQ tp z L n g H i X s)
def Qes{P:Program}{tp:TypeId}{z:Bool}{L:List Tk}{n:Nat}{g:G}{f:FuncId}(h:∀(H:Hp) (i:Nat) (s:PSt),i<H.length->PPre L n g s->Qc P f [.ptr i 0] (H.set i (pst tp z L s)) (PQ tp z L n g H i [] s)):UC P tp z L n g f:=by intro H X i s hi hp;have:=h (H++X) i s (by simp;omega) hp;rw[Q18 _ _ hi]at this;refine this.mono ?_;rintro r H' ⟨m,s',rfl,rfl,hr⟩;refine⟨m,s',rfl,?_,hr⟩;rw[Q2k,Q18 _ _ hi]
def UCc(P:Program)(tp tb:TypeId)(z:Bool)(L:List Tk)(n:Nat)(g:G)(f:FuncId):Prop:=∀(H X:Hp)(i q:Nat)(s:PSt),i<H.length->X[q]?=some (.box tb [.ptr i 0])->PPre L n g s->Qc P f [.ptr (H.length+q) 0] (H.set i (pst tp z L s)++X) (PQ tp z L n g H i X s)
def Qs8{P:Program}{tp tb:TypeId}{z:Bool}{L:List Tk}{n:Nat}{g:G}{f:FuncId}(h:∀(H:Hp) (i q:Nat) (s:PSt),i<H.length->(∀o X,(H.set i o++X)[q]?=some (.box tb [.ptr i 0]))->PPre L n g s->Qc P f [.ptr q 0] (H.set i (pst tp z L s)) (PQ tp z L n g H i [] s)):UCc P tp tb z L n g f:=by
 intro H X i q s hi hq hp;have hql:q<X.length:=(Q11.1 hq).1;have:=h (H++X) i (H.length+q) s (by simp;omega) (λo Y=>by rw[Q18 _ _ hi,Q2g,Q2j (by simp)];simp only[Q21,Q4a];rw[Q19 hql];exact hq) hp;rw[Q18 _ _ hi]at this;refine this.mono ?_;rintro r H' ⟨m,s',rfl,rfl,hr⟩;refine⟨m,s',rfl,?_,hr⟩;rw[Q2k,Q18 _ _ hi]
@[simp]theorem gS(H:Hp)(i:Nat)(o:Ob)(X:Hp)(k:Nat):(List.set H i o++X)[H.length+k]?=X[k]?:=by rw[Q2j (by simp)];simp
@[simp]theorem gS0(H:Hp)(i:Nat)(o:Ob)(X:Hp):(List.set H i o++X)[H.length]?=X[0]?:=gS H i o X 0
@[simp]theorem sS(H:Hp)(i:Nat)(o:Ob)(X:Hp)(k:Nat)(x:Ob):(List.set H i o++X).set (H.length+k) x=List.set H i o++X.set k x:=by rw[Q3j _ _ (by simp)];simp
@[simp]theorem sS0(H:Hp)(i:Nat)(o:Ob)(X:Hp)(x:Ob):(List.set H i o++X).set H.length x=List.set H i o++X.set 0 x:=sS H i o X 0 x
theorem pget{tp:TypeId}{z:Bool}{L:List Tk}{H:Hp}{i:Nat}(hi:i<H.length)(s:PSt)(X:Hp):(H.set i (pst tp z L s)++X)[i]?=some (.box tp [YL z 4 (L.map Qp),YI s.1,YI (if s.2.isSome then 24 else 0),YI ((s.2.getD 0:Nat):Int)]):=upG hi
def cutP{tp:TypeId}{z:Bool}{L:List Tk}{H X:Hp}{i:Nat}{s s':PSt}(O:Hp.Closed (H.set i (pst tp z L s))):Hp.cut H.length (H.set i (pst tp z L s')++X)=H.set i (pst tp z L s'):=by
 have e:H.set i (pst tp z L s')=(H.set i (pst tp z L s)).set i (pst tp z L s'):=by simp
 rw[Qaq (by simp),e,Hp.cut_set];have:=Qb O;rw[Q21]at this;rw[this,Qhq]
def Qqw{s s':PSt}(h:Qc0 s=s'):s'.1=s.1:=by subst h;unfold Qc0;split<;>rfl
def W8{L:List Tk}{x:Bs}{s s':PSt}(h:Qr L x s=s'):s'.1<=s.1+1:=by
 subst h;unfold Qr;split
 .simp
 .rw[Qqw rfl];omega
def Vc{L:List Tk}{s s':PSt}(h:W7 L s=s'):s'.1<=s.1+1:=by
 subst h;unfold W7;split
 .simp
 .split
  .omega
  .rw[Qqw rfl];omega
section
variable{P:Program}{F:PF}{z:Bool}{L:List Tk}{H X:Hp}{i:Nat}{s:PSt}
def KHas.nowA(hF:KHas P F)(hi:i<H.length):Qc P F.now [.ptr i 0] (H.set i (pst F.tp z L s)++X) (λr H'=>r=Qe0 L s.1/\H'=H.set i (pst F.tp z L s)++X):=hF.now' (upG hi)
def KHas.failA(hF:KHas P F)(hi:i<H.length):Qc P F.fail [.ptr i 0,YI 24] (H.set i (pst F.tp z L s)++X) (λr H'=>r=.tup []/\H'=H.set i (pst F.tp z L (Qc0 s))++X):=by have:=hF.fail' (s:=s) (z:=z) (L:=L) (upG (X:=X) hi);rwa[up hi]at this
def KHas.isA(hF:KHas P F)(hi:i<H.length)(x:Bs):Qc P F.is [.ptr i 0,YS x] (H.set i (pst F.tp z L s)++X) (λr H'=>r=YB (isT L s.1 x)/\H'=H.set i (pst F.tp z L s)++X):=hF.is' (upG hi) x
def KHas.tookA(hF:KHas P F)(hi:i<H.length)(x:Bs)(hs:s.1<=1125899906842624):Qc P F.took [.ptr i 0,YS x] (H.set i (pst F.tp z L s)++X) (λr H'=>r=YB (Yy L x s)/\H'=H.set i (pst F.tp z L (Qac L x s))++X):=by have:=hF.took' (s:=s) (z:=z) (L:=L) (upG (X:=X) hi) x hs;rwa[up hi]at this
def KHas.wantA(hF:KHas P F)(hi:i<H.length)(x:Bs)(hs:s.1<=1125899906842624):Qc P F.want [.ptr i 0,YS x] (H.set i (pst F.tp z L s)++X) (λr H'=>r=.tup []/\H'=H.set i (pst F.tp z L (Qr L x s))++X):=by have:=hF.want' (s:=s) (z:=z) (L:=L) (upG (X:=X) hi) x hs;rwa[up hi]at this
def KHas.wordA(hF:KHas P F)(hi:i<H.length)(hs:s.1<=1125899906842624){j:Nat}{k f t:Int}{w:Bs}{a:Int}{zz:Bool}{rows:List (List D)}{q:Nat}(hj:X[j]?=some (nob F.tn k f t w a zz rows (H.length+q)))(hq:q<X.length):
 Qc P F.word [.ptr i 0,.ptr (H.length+j) 0] (H.set i (pst F.tp z L s)++X) (λr H'=>r=.tup []/\H'=H.set i (pst F.tp z L (W7 L s))++X.set j (nob F.tn k f t (if Q0 L s then txT L s.1 else w) (if Q0 L s then(s.1:Int)else a) zz rows (H.length+q))):=by
 have:=hF.word' (s:=s) (z:=z) (L:=L) (upG (X:=X) hi) hs (j:=H.length+j) (q:=H.length+q) (by simp;omega) (by rw[gS];exact hj) (by omega);rwa[up hi,sS]at this
def KHas.nodeA(hF:KHas P F)(hi:i<H.length)(k:Int):
 Qc P F.node [.ptr i 0,YI k] (H.set i (pst F.tp z L s)++X) (λr H'=>r=nag k s.1 0 [] 0 true [] (H.length+(X.length+1))/\H'=H.set i (pst F.tp z L s)++(X++[nob F.tn k s.1 0 [] 0 true [] (H.length+(X.length+1)),.tok 0 6 F.tn])):=by
 have:=hF.node' (s:=s) (z:=z) (L:=L) (upG (X:=X) hi) k;simp only[Q2l,Q21,Q3r,Q2g]at this;exact this
def KHas.doneA(hF:KHas P F)(hi:i<H.length){k f t:Int}{w:Bs}{a:Int}{zz:Bool}{rows:List (List D)}{q:Nat}(hq:q<X.length):
 Qc P F.done [.ptr i 0,nag k f t w a zz rows (H.length+q)] (H.set i (pst F.tp z L s)++X) (λr H'=>r=nag k f s.1 w a zz rows (H.length+q)/\H'=H.set i (pst F.tp z L s)++X):=
 hF.done' (upG hi) (by simp;omega)
def KHas.putA(hF:KHas P F){o:Ob}{j:Nat}{k f t:Int}{w:Bs}{a:Int}{zz z2:Bool}{rows rows2:List (List D)}{q:Nat}(hj:X[j]?=some (nob F.tn k f t w a zz rows (H.length+q)))(hq:X[q]?=some (.tok rows.length 6 F.tn))(hb:(rows.length+rows2.length)*72<=140737488355328):
 Qc P F.put [.ptr (H.length+j) 0,YL z2 6 rows2] (H.set i o++X) (λr H'=>r=.tup []/\H'=H.set i o++(X.set q (.tok (rows++rows2).length 6 F.tn)).set j (nob F.tn k f t w a zz (rows++rows2) (H.length+q))):=by
 have:=hF.put' (H:=H.set i o++X) (j:=H.length+j) (q:=H.length+q) (z2:=z2) (rows2:=rows2) (by rw[gS];exact hj) (by rw[gS];exact hq) hb;rwa[sS,sS]at this
end
section
variable{L:List Tk}{x:Bs}{p q:Nat}
@[simp]theorem Q0o:Yy L x (p,some q)=false:=rfl
@[simp]theorem Q0p:Yy L x (p,none)=isT L p x:=by simp[Yy]
@[simp]theorem Q0m:Qac L x (p,some q)=(p,some q):=rfl
@[simp]theorem Q0n:Qac L x (p,none)=if isT L p x then(p+1,none)else(p,none):=by simp[Qac]
@[simp]theorem Q1l:Qc0 (p,some q)=(p,some q):=rfl
@[simp]theorem Q1m:Qc0 (p,none)=(p,some p):=rfl
@[simp]theorem Yo:Qr L x (p,some q)=(p,some q):=rfl
@[simp]theorem Qq:Qr L x (p,none)=if isT L p x then(p+1,none)else(p,some p):=by simp[Qr]
@[simp]theorem Qoj:Q0 L (p,some q)=false:=rfl
@[simp]theorem Qhi:Q0 L (p,none)=decide (kdT L p=1):=by simp[Q0]
@[simp]theorem Z7:W7 L (p,some q)=(p,some q):=by unfold W7;simp
@[simp]theorem Wu:W7 L (p,none)=if kdT L p=1 then(p+1,none)else(p,some p):=by unfold W7;by_cases h:kdT L p=1<;>simp[h]
theorem Qqv{s s':PSt}(h:Qc0 s=s'):Mo L s s':=by
 subst h;unfold Qc0;split
 .intro e;cases e
 .exact .refl s
def Qbe{s s':PSt}(h:Qr L x s=s'):Mo L s s':=by
 subst h;unfold Qr;split
 .rename_i e;simp only[Yy,Q2t,Q4p]at e;exactλ_=>⟨e.1,by simp,λ_=>Yi e.2⟩
 .exact Qqv rfl
def Qc8{s s':PSt}(h:W7 L s=s'):Mo L s s':=by
 subst h;unfold W7;split
 .rename_i e;simp only[Q0,Q2t,Q4p,decide_eq_true_eq]at e;exactλ_=>⟨e.1,by simp,λ_=>Qc6 (by omega)⟩
 .split
  .exact .refl s
  .exact Qqv rfl
def Rel.some'{n:Nat}{g:G}{m:N}{s':PSt}(h:Rel L n g (p,some q) m s'):∃a,s'=(a,some q)/\a<=p+g.wt:=by obtain⟨a,b⟩:=s';obtain⟨h1,h2⟩:=h;simp only at h1 h2;subst h1;exact⟨a,rfl,h2⟩
def Rel.none'{n:Nat}{g:G}{m:N}{s':PSt}(h:Rel L n g (p,none) m s'):(∃q a,pp L n g p=.bad q/\s'=(a,some q)/\a<=L.length+n)\/∃k,pp L n g p=.ok m k/\s'=(k,none):=by
 obtain⟨a,b⟩:=s';simp only[Rel]at h;split at h
 .exact h.elim
 .rename_i q' e;obtain⟨h1,h2⟩:=h;subst h1;exact .inl ⟨q',a,e,rfl,h2⟩
 .rename_i m' k e;obtain⟨rfl,h2⟩:=h;exact .inr ⟨k,e,h2⟩
def Rel.mo{n:Nat}{g:G}{m:N}{s s':PSt}(h:Rel L n g s m s'):Mo L s s':=by
 obtain⟨p,st⟩:=s;cases st with
 |some q=>obtain⟨a,rfl,-⟩:=h.some';intro e;cases e
 |none=>
  rcases h.none' with⟨q,a,-,rfl,-⟩|⟨k,h1,rfl⟩
  .intro e;cases e
  .have:=Yg (L:=L) n g p;rw[h1]at this;obtain⟨a1,a2,a3⟩:=this;exactλ_=>⟨rfl,a1,λh=>by simp only at h⊢;omega⟩
def Rel.le{n:Nat}{g:G}{m:N}{s s':PSt}(h:Rel L n g s m s'):s'.1<=s.1+1\/s'.1<=L.length+n\/(s.1=s'.1\/s'.1<=L.length):=by
 obtain⟨p,st⟩:=s;cases st with
 |some q=>
  obtain⟨a,rfl,h2⟩:=h.some';have:g.wt<=1:=by cases g<;>simp[G.wt]
  exact .inl (by simp only;omega)
 |none=>
  rcases h.none' with⟨q,a,-,rfl,h2⟩|⟨k,h1,rfl⟩
  .exact .inr (.inl h2)
  .have:=Yg (L:=L) n g p;rw[h1]at this;obtain⟨a1,a2,a3⟩:=this;exact .inr (.inr (by simp only;omega))
def Rel.wt0{n:Nat}{g:G}{m:N}{s s':PSt}(hg:g.wt=0)(h:Rel L n g s m s'):s'.1<=s.1\/s'.1<=L.length+n\/(s.1=s'.1\/s'.1<=L.length):=by
 obtain⟨p,st⟩:=s;cases st with
 |some q=>obtain⟨a,rfl,h2⟩:=h.some';exact .inl (by simp only;omega)
 |none=>
  rcases h.none' with⟨q,a,-,rfl,h2⟩|⟨k,h1,rfl⟩
  .exact .inr (.inl h2)
  .have:=Yg (L:=L) n g p;rw[h1]at this;obtain⟨a1,a2,a3⟩:=this;exact .inr (.inr (by simp only;omega))
end
def Wm{tp:TypeId}{z z':Bool}{L:List Tk}{n:Nat}{g:G}{H:Hp}{i:Nat}{s s':PSt}{k f t a:Int}{w:Bs}{rows:List (List D)}(ks:List N)(hrows:rows=ks.map N.enc)(hz:rows=[]->z'=true)(hr:Rel L n g s (N.new k f t w a ks) s'):
 ∃r',Nrm (.agg [YI k,YI f,YI t,YS w,YI a,YL z' 6 rows]) r'/\PQ tp z L n g H i [] s r' (H.set i (pst tp z L s')):=by
 refine⟨_,Ql2 hz,_,s',?_,by simp,hr⟩;rw[N.v_new,hrows];cases ks<;>rfl
end
section
section
variable{P:Program}{F:PF}{z:Bool}{L:List Tk}
@[simp high]theorem rowOf_v(m:N):Yf 6 m.v=some m.enc:=by obtain⟨k,f,t,w,a,z,ks⟩:=m;rw[N.v_mk,N.enc_mk];simp[Yf]
def nl(H:Hp)(k:Nat):¬H.length+k<H.length:=by omega
def PHas.use'(hF:PHas P F)(hL:L.length<=1048576)(n:Nat):UC P F.tp z L (n+1) .use F.use_:=by
 refine Qes λH i s hi hp=>?_;refine Ye (Qe hF.use_ (by simp[Qmk]) λO _=>?_);have hp1:=hp.1;simp only[G.c]at hp1;simp[Qmk];refine Qa (hF.nodeA hi _) ?_;simp[nag];refine Qa (hF.wantA hi _ (by omega)) ?_;generalize h1:Qr L _ s=s1;have b1:=W8 h1;simp;refine Qa (hF.nodeA hi _) ?_;simp[nag];refine Qa (hF.wordA (j:=6) (q:=5) hi (by omega) rfl (by simp)) ?_;generalize h2:W7 L s1=s2;have b2:=Vc h2;simp[nob];refine Qa (hF.doneA (q:=5) hi (by simp)) ?_;simp[nag];refine Qa (hF.putA (j:=3) (q:=2) rfl rfl (by simp)) ?_;simp[nob];refine Qa (hF.wantA hi _ (by omega)) ?_;generalize h3:Qr L _ s2=s3;have b3:=W8 h3;simp;refine Qa (hF.wordA (j:=3) (q:=2) hi (by omega) rfl (by simp)) ?_;generalize h4:W7 L s3=s4;have b4:=Vc h4;simp[nob];refine Qa (hF.wantA hi _ (by omega)) ?_;generalize h5:Qr L _ s4=s5;have b5:=W8 h5;simp;refine Qa (hF.doneA (q:=2) hi (by simp)) ?_;simp[nag];simp[RetK,cutP O,nl];refine Wm [N.new 23 s1.1 s2.1 (if Q0 L s1 then txT L s1.1 else[]) (if Q0 L s1 then s1.1 else 0) []] (by simp[N.new,N.enc_mk]) (by simp) ?_;subst h1 h2 h3 h4 h5;obtain⟨p,st⟩:=s;cases st with
 |some q=>simp[Rel]
 |none=>
  obtain⟨hp2,hp3⟩:=hp.2.2 rfl;simp only[G.c]at hp2 hp3;clear b1 b2 b3 b4 b5;simp only[Rel,pp,Qv,Yn,kUse];by_cases c1:isT L p [117,115,101]=true
  case neg=>simp[c1];omega
  have l1:=Yi c1;simp only[Qq,c1,if_true];by_cases c2:kdT L (p+1)=1
  case neg=>simp[c2];omega
  simp only[Wu,c2,if_true];by_cases c3:isT L (p+1+1) [46]=true
  case neg=>simp[c3];omega
  simp only[Qq,c3,if_true];by_cases c4:kdT L (p+1+1+1)=1
  case neg=>simp[c4];omega
  simp only[Wu,c4,if_true];by_cases c5:isT L (p+1+1+1+1) [59]=true
  case neg=>simp[c5];omega
  simp[c1,c2,c3,c4,c5];simp[Q58,Q3r]
def PHas.def'(hF:PHas P F)(hL:L.length<=1048576)(n:Nat)(hn:n<=1099511627776)(hP:UC P F.tp z L n .params F.params)(hT:UC P F.tp z L n .typed F.typed)(hB:UC P F.tp z L n .block F.block):UC P F.tp z L (n+1) .defn F.def_:=by
 refine Qes λH i s hi hp=>?_;refine Ye (Qe hF.def_ (by simp[Qmo]) λO _=>?_);have hp1:=hp.1;simp only[G.c]at hp1;simp[Qmo];refine Qa (hF.nodeA hi _) ?_;simp[nag];refine Qa (hF.wantA hi _ (by omega)) ?_;generalize h1:Qr L _ s=s1;have b1:=W8 h1;have m1:=Qbe h1;simp;refine Qa (hF.wordA (j:=3) (q:=2) hi (by omega) rfl (by simp)) ?_;generalize h2:W7 L s1=s2;have b2:=Vc h2;have m2:=m1.trans (Qc8 h2);simp[nob];refine Qf (hP H _ i s2 hi (m2.pre hp (by decide) (by simp only[G.c];omega))) ?_;rintro _ _ ⟨t3,s3,rfl,rfl,r3⟩;have m3:=m2.trans r3.mo;have b3:=r3.wt0 rfl;simp[-Yf];refine Qf (hT H _ i s3 hi (m3.pre hp (by decide) (by simp only[G.c];omega))) ?_;rintro _ _ ⟨t4,s4,rfl,rfl,r4⟩;have m4:=m3.trans r4.mo;have b4:=r4.wt0 rfl;simp[-Yf];refine Qf (hB H _ i s4 hi (m4.pre hp (by decide) (by simp only[G.c];omega))) ?_;rintro _ _ ⟨t5,s5,rfl,rfl,r5⟩;simp[-Yf];refine Qa (hF.putA (j:=3) (q:=2) rfl rfl (by simp)) ?_;simp[nob];refine Qa (hF.doneA (q:=2) hi (by simp)) ?_;simp[nag];simp[RetK,cutP O,nl];refine Wm [t3,t4,t5] (by simp) (by simp) ?_;clear b1 b2 b3 b4 m1 m2 m3 m4;subst h1 h2;obtain⟨p,st⟩:=s;cases st with
 |some q=>simp only[Yo,Z7]at r3;obtain⟨a,rfl,e3⟩:=r3.some';obtain⟨b,rfl,e4⟩:=r4.some';obtain⟨c,rfl,e5⟩:=r5.some';simp only[G.wt]at e3 e4 e5;simp[Rel,G.wt];omega
 |none=>
  obtain⟨hp2,hp3⟩:=hp.2.2 rfl;simp only[G.c]at hp2 hp3;simp only[Rel,pp,Qv,Yn,kDef];by_cases c1:isT L p [100,101,102]=true
  case neg=>simp[c1]at r3;obtain⟨a,rfl,e3⟩:=r3.some';obtain⟨b,rfl,e4⟩:=r4.some';obtain⟨c,rfl,e5⟩:=r5.some';simp only[G.wt]at e3 e4 e5;simp[c1];omega
  have l1:=Yi c1;simp only[Qq,c1,if_true]at r3;by_cases c2:kdT L (p+1)=1
  case neg=>simp[c2]at r3;obtain⟨a,rfl,e3⟩:=r3.some';obtain⟨b,rfl,e4⟩:=r4.some';obtain⟨c,rfl,e5⟩:=r5.some';simp only[G.wt]at e3 e4 e5;simp[c1,c2];omega
  simp only[Wu,c2,if_true]at r3;rcases r3.none' with⟨q,a,e,rfl,e3⟩|⟨k,e,rfl⟩
  .obtain⟨b,rfl,e4⟩:=r4.some';obtain⟨c,rfl,e5⟩:=r5.some';simp only[G.wt]at e4 e5;simp[c1,c2,e,PR.then];omega
  rcases r4.none' with⟨q,a,e',rfl,e4⟩|⟨k',e',rfl⟩
  .obtain⟨c,rfl,e5⟩:=r5.some';simp only[G.wt]at e5;simp[c1,c2,e,e',PR.then];omega
  rcases r5.none' with⟨q,a,e'',rfl,e5⟩|⟨k'',e'',rfl⟩
  .simp[c1,c2,e,e',e'',PR.then];omega
  simp[c1,c2,e,e',e'',PR.then]
def PHas.typed'(hF:PHas P F)(hL:L.length<=1048576)(n:Nat)(hn:n<=1099511627776)(hK:UC P F.tp z L n .kind F.kind):UC P F.tp z L (n+1) .typed F.typed:=by
 refine Qes λH i s hi hp=>?_;refine Qe hF.typed (by simp[Qfo]) λO _=>?_;have hp1:=hp.1;simp only[G.c]at hp1;simp[Qfo];refine Qa (hF.tookA hi _ (by omega)) ?_;have no:Yy L [58] s=false->RetK (PQ F.tp z L (n+1) .typed H i [] s) .mk H.length (some (.agg [YI 0,YI 0,YI 0,YS [],YI 0,YL true 6 []])) (H.set i (pst F.tp z L (Qac L [58] s))++[Ob.box F.tn [YI 0,YI 0,YI 0,YS [],YI 0,YL true 6 []]]):=by
  intro h;have e:Qac L [58] s=s:=by simp[Qac,h]
  rw[e];simp[RetK,cutP O];refine⟨N.none,s,rfl,by simp,?_⟩;obtain⟨p,st⟩:=s;cases st with
  |some q=>simp[Rel]
  |none=>simp at h;simp[Rel,pp,h]
 cases hb:Yy L [58] s with
 |false=>simp;exact no hb
 |true=>
  obtain⟨p,st⟩:=s;cases st with
  |some q=>simp at hb
  |none=>
   simp at hb;have l1:=Yi hb;obtain⟨hp2,hp3⟩:=hp.2.2 rfl;simp only[G.c]at hp2 hp3;simp[hb];refine Qf (hK H _ i (p+1,none) hi ⟨by simp only[G.c];omega,by simp only[G.c];omega,λ_=>⟨l1,by simp only[G.c];omega⟩⟩) ?_;rintro _ _ ⟨t3,s3,rfl,rfl,r3⟩;obtain⟨k',f',t',w',a',z',ks'⟩:=t3;simp[N.v_mk];simp[RetK,cutP O];refine⟨.mk k' f' t' w' a' z' ks',s3,by simp[N.v_mk],by simp,?_⟩;rcases r3.none' with⟨q,a,e,rfl,e3⟩|⟨k,e,rfl⟩
   .simp[Rel,pp,hb,e];omega
   .simp[Rel,pp,hb,e]
def PHas.param'(hF:PHas P F)(hL:L.length<=1048576)(n:Nat)(hn:n<=1099511627776)(hT:UC P F.tp z L n .typed F.typed):UCc P F.tp F.tb z L (n+1) .param F.param:=by
 refine Qs8 λH i q0 s hi hq hp=>?_;refine Ye (Qe hF.param (by simp[Qfp]) λO _=>?_);have hp1:=hp.1;simp only[G.c]at hp1;simp[Qfp,hq];refine Qa (hF.nodeA hi _) ?_;simp[nag,hq];refine Qa (hF.wordA (j:=3) (q:=2) hi (by omega) rfl (by simp)) ?_;generalize h2:W7 L s=s2;have b2:=Vc h2;have m2:=Qc8 h2;simp[nob,hq];refine Qf (hT H _ i s2 hi (m2.pre hp (by decide) (by simp only[G.c];omega))) ?_;rintro _ _ ⟨t4,s4,rfl,rfl,r4⟩;simp[-Yf];refine Qa (hF.putA (j:=3) (q:=2) rfl rfl (by simp)) ?_;simp[nob,hq];refine Qa (hF.doneA (q:=2) hi (by simp)) ?_;simp[nag];simp[RetK,cutP O,nl];refine Wm [t4] (by simp) (by simp) ?_;clear b2 m2;subst h2;obtain⟨p,st⟩:=s;cases st with
 |some q=>simp only[Z7]at r4;obtain⟨b,rfl,e4⟩:=r4.some';simp only[G.wt]at e4;simp[Rel,G.wt];omega
 |none=>
  obtain⟨hp2,hp3⟩:=hp.2.2 rfl;simp only[G.c]at hp2 hp3;simp only[Rel,pp,Qv,Yn];by_cases c2:kdT L p=1
  case neg=>simp[c2]at r4;obtain⟨b,rfl,e4⟩:=r4.some';simp only[G.wt]at e4;simp[c2];omega
  simp only[Wu,c2,if_true]at r4;rcases r4.none' with⟨q,a,e',rfl,e4⟩|⟨k',e',rfl⟩
  .simp[c2,e',PR.then];omega
  simp[c2,e',PR.then]
def KHas.tfield'(hF:KHas P F)(hL:L.length<=1048576)(n:Nat)(hn:n<=1099511627776)(hT:UC P F.tp z L n .kind F.kind):UCc P F.tp F.tb z L (n+1) .tfield F.tfield:=by
 refine Qs8 λH i q0 s hi hq hp=>?_;refine Ye (Qe hF.tfield (by simp[Qds]) λO _=>?_);have hp1:=hp.1;simp only[G.c]at hp1;simp[Qds,hq];refine Qa (hF.nodeA hi _) ?_;simp[nag,hq];refine Qa (hF.wordA (j:=3) (q:=2) hi (by omega) rfl (by simp)) ?_;generalize h2:W7 L s=s2;have b2:=Vc h2;have m2:=Qc8 h2;simp[nob,hq];refine Qa (hF.wantA hi _ (by omega)) ?_;generalize h3:Qr L _ s2=s3;have b3:=W8 h3;have m3:=m2.trans (Qbe h3);simp[hq];refine Qf (hT H _ i s3 hi (m3.pre hp (by decide) (by simp only[G.c];omega))) ?_;rintro _ _ ⟨t4,s4,rfl,rfl,r4⟩;simp[-Yf];refine Qa (hF.putA (j:=3) (q:=2) rfl rfl (by simp)) ?_;simp[nob,hq];refine Qa (hF.doneA (q:=2) hi (by simp)) ?_;simp[nag];simp[RetK,cutP O,nl];refine Wm [t4] (by simp) (by simp) ?_;clear b2 m2 b3 m3;subst h2 h3;obtain⟨p,st⟩:=s;cases st with
 |some q=>simp only[Z7,Yo]at r4;obtain⟨b,rfl,e4⟩:=r4.some';simp only[G.wt]at e4;simp[Rel,G.wt];omega
 |none=>
  obtain⟨hp2,hp3⟩:=hp.2.2 rfl;simp only[G.c]at hp2 hp3;simp only[Rel,pp,Qv,Yn];by_cases c2:kdT L p=1
  case neg=>simp[c2]at r4;obtain⟨b,rfl,e4⟩:=r4.some';simp only[G.wt]at e4;simp[c2];omega
  have l2:p<L.length:=Qc6 (by omega);simp only[Wu,c2,if_true]at r4;by_cases c3:isT L (p+1) [58]=true
  case neg=>simp[c3]at r4;obtain⟨b,rfl,e4⟩:=r4.some';simp only[G.wt]at e4;simp[c2,c3];omega
  simp only[Qq,c3,if_true]at r4;rcases r4.none' with⟨q,a,e',rfl,e4⟩|⟨k',e',rfl⟩
  .simp[c2,c3,e',PR.then];omega
  simp[c2,c3,e',PR.then]
def PHas.entry'(hF:PHas P F)(hL:L.length<=1048576)(n:Nat)(hn:n<=1099511627776)(hT:UC P F.tp z L n .expr F.expr):UCc P F.tp F.tb z L (n+1) .entry F.entry:=by
 refine Qs8 λH i q0 s hi hq hp=>?_;refine Ye (Qe hF.entry (by simp[Qfq]) λO _=>?_);have hp1:=hp.1;simp only[G.c]at hp1;simp[Qfq,hq];refine Qa (hF.nodeA hi _) ?_;simp[nag,hq];refine Qa (hF.wordA (j:=3) (q:=2) hi (by omega) rfl (by simp)) ?_;generalize h2:W7 L s=s2;have b2:=Vc h2;have m2:=Qc8 h2;simp[nob,hq];refine Qa (hF.wantA hi _ (by omega)) ?_;generalize h3:Qr L _ s2=s3;have b3:=W8 h3;have m3:=m2.trans (Qbe h3);simp[hq];refine Qf (hT H _ i s3 hi (m3.pre hp (by decide) (by simp only[G.c];omega))) ?_;rintro _ _ ⟨t4,s4,rfl,rfl,r4⟩;simp[-Yf];refine Qa (hF.putA (j:=3) (q:=2) rfl rfl (by simp)) ?_;simp[nob,hq];refine Qa (hF.doneA (q:=2) hi (by simp)) ?_;simp[nag];simp[RetK,cutP O,nl];refine Wm [t4] (by simp) (by simp) ?_;clear b2 m2 b3 m3;subst h2 h3;obtain⟨p,st⟩:=s;cases st with
 |some q=>simp only[Z7,Yo]at r4;obtain⟨b,rfl,e4⟩:=r4.some';simp only[G.wt]at e4;simp[Rel,G.wt];omega
 |none=>
  obtain⟨hp2,hp3⟩:=hp.2.2 rfl;simp only[G.c]at hp2 hp3;simp only[Rel,pp,Qv,Yn];by_cases c2:kdT L p=1
  case neg=>simp[c2]at r4;obtain⟨b,rfl,e4⟩:=r4.some';simp only[G.wt]at e4;simp[c2];omega
  have l2:p<L.length:=Qc6 (by omega);simp only[Wu,c2,if_true]at r4;by_cases c3:isT L (p+1) [58]=true
  case neg=>simp[c3]at r4;obtain⟨b,rfl,e4⟩:=r4.some';simp only[G.wt]at e4;simp[c2,c3];omega
  simp only[Qq,c3,if_true]at r4;rcases r4.none' with⟨q,a,e',rfl,e4⟩|⟨k',e',rfl⟩
  .simp[c2,c3,e',PR.then];omega
  simp[c2,c3,e',PR.then]
end
end
section
def cutX{tp tn:TypeId}{z:Bool}{L:List Tk}{H X:Hp}{i:Nat}{s s':PSt}{jn jt m:Nat}{k f t:Int}{w:Bs}{a:Int}{zz:Bool}{rows:List (List D)}(hi:i<H.length)(ht:jt<X.length)(O:Hp.Closed (H.set i (pst tp z L s)++X)):
 Hp.cut (H.length+X.length) (H.set i (pst tp z L s')++(X.set jt (.tok m 6 tn)).set jn (nob tn k f t w a zz rows (H.length+jt)))=H.set i (pst tp z L s')++(X.set jt (.tok m 6 tn)).set jn (nob tn k f t w a zz rows (H.length+jt)):=by
 have e:H.set i (pst tp z L s')++(X.set jt (.tok m 6 tn)).set jn (nob tn k f t w a zz rows (H.length+jt))=(((H.set i (pst tp z L s)++X).set i (pst tp z L s')).set (H.length+jt) (.tok m 6 tn)).set (H.length+jn) (nob tn k f t w a zz rows (H.length+jt)):=by rw[up hi,sS,sS]
 have hc:=Qb O;rw[Q2l,Q21]at hc;rw[e,Hp.cut_set,Hp.cut_set,Hp.cut_set,hc,Qhq];have:H.length+jt<H.length+X.length:=by omega
 simp[nob,this]
def XL(tn:TypeId)(H X:Hp)(jn jt:Nat)(k f t:Int)(w:Bs)(a:Int)(zz:Bool)(ks:List N):Hp:=(X.set jt (.tok ks.length 6 tn)).set jn (nob tn k f t w a zz (ks.map N.enc) (H.length+jt))
def LQ(tp tn:TypeId)(z:Bool)(L:List Tk)(n:Nat)(g:G)(e:Bs)(H X:Hp)(i jn jt:Nat)(k f t:Int)(w:Bs)(a:Int)(zz:Bool)(ks0:List N)(s:PSt):A->Hp->Prop:=λr H'=>∃ks s',r=.tup []/\H'=H.set i (pst tp z L s')++XL tn H X jn jt k f t w a zz (ks0++ks)/\Rel L n (.list g e) s (N.bag ks) s'/\ks.length<=L.length+1
section
variable{P:Program}{F:PF}{z:Bool}{L:List Tk}
def KHas.list'(hF:KHas P F)(hL:L.length<=1048576)(n:Nat)(hn:n<=1099511627776){g:G}{e:Bs}{fo:FuncId}{first cap:List A}{H X:Hp}{i:Nat}(hi:i<H.length)(hk:Wd P fo=true)(hlo:first.all (A.lo (H.length+X.length))=true/\cap.all (A.lo (H.length+X.length))=true)(hg:g.strict=true){jn jt:Nat}{k f t:Int}{w:Bs}{a:Int}{zz:Bool}{ks0:List N}(h0:ks0.length<=1)(hjn:X[jn]?=some (nob F.tn k f t w a zz (ks0.map N.enc) (H.length+jt)))(hjt:X[jt]?=some (.tok ks0.length 6 F.tn))(hone:∀(m:Nat),m<n->∀(ks:List N) (s:PSt),PPre L m g s->Qc P fo (first++cap) (H.set i (pst F.tp z L s)++XL F.tn H X jn jt k f t w a zz ks) (PQ F.tp z L m g H i (XL F.tn H X jn jt k f t w a zz ks) s))(s:PSt)(hp:PPre L n (.list g e) s):
 Qc P F.list [.ptr i 0,.ptr (H.length+jn) 0,YS e,.fn (.func fo) first cap] (H.set i (pst F.tp z L s)++X) (LQ F.tp F.tn z L n g e H X i jn jt k f t w a zz ks0 s):=by
 refine Qe hF.list (by simp[Qii]) λO _=>?_;have hp1:=hp.1;simp only[G.c]at hp1;have hjnl:jn<X.length:=(Q11.1 hjn).1;have hjtl:jt<X.length:=(Q11.1 hjt).1;have hne:¬jt=jn:=λe=>by rw[e,hjn]at hjt;simp[nob]at hjt
 have hX0:X=XL F.tn H X jn jt k f t w a zz (ks0++[]):=by simp only[Q2k,XL];rw[Hp.set_self hjt,Hp.set_self hjn]
 have hfin:∀(ks:List N)(s':PSt),Rel L n (.list g e) s (N.bag ks) s'->ks.length<=L.length+1->
  RetK (LQ F.tp F.tn z L n g e H X i jn jt k f t w a zz ks0 s) .mk (H.length+X.length) (some (.tup [])) (H.set i (pst F.tp z L s')++XL F.tn H X jn jt k f t w a zz (ks0++ks)):=by
  intro ks s' hr hkl;refine⟨by simp[XL],ks,s',by simp,?_,hr,hkl⟩;exact cutX hi hjtl O
 simp[Qii];refine Qa (hF.tookA hi _ (by omega)) ?_;cases hb:Yy L e s with
 |true=>
  simp;have hr:Rel L n (.list g e) s (N.bag []) (Qac L e s):=by
   obtain⟨p,st⟩:=s;cases st with
   |some q=>simp at hb
   |none=>simp at hb;obtain⟨hp0,hp2,hp3⟩:=hp;obtain⟨n',rfl⟩:∃n',n=n'+1:=⟨n-1,by simp only[G.c]at hp2;omega⟩;simp[Rel,pp,hb]
  have:=hfin [] _ hr (by simp);rw[<-hX0]at this;exact this
 |false=>
  have hs0:Qac L e s=s:=by simp[Qac,hb]
  rw[hs0];simp;obtain⟨E,hE⟩:∃E:Fr->Hp->Prop,E=λfr H'=>∃ks s',(Rel L n (.list g e) s (N.bag ks) s'/\ks.length<=L.length+1)/\H'=H.set i (pst F.tp z L s')++XL F.tn H X jn jt k f t w a zz (ks0++ks):=⟨_,rfl⟩;have hE1:∀fr ks s',Rel L n (.list g e) s (N.bag ks) s'->ks.length<=L.length+1->E fr (H.set i (pst F.tp z L s')++XL F.tn H X jn jt k f t w a zz (ks0++ks)):=λfr ks s' h h'=>by subst hE;exact⟨ks,s',⟨h,h'⟩,rfl⟩
  refine Qm 0 E E ?_ ?_ ?_;rotate_left
  .intro fr H' h;subst hE;obtain⟨ks,s',hr,rfl⟩:=h;simp;exact hfin ks s' hr.1 hr.2
  .intro fr H' h;subst hE;obtain⟨ks,s',hr,rfl⟩:=h;simp;exact hfin ks s' hr.1 hr.2
  clear hE;refine Q4 (H.length+X.length) (λd fr H'=>∃ks s',fr 0=.ptr i 0/\fr 1=.ptr (H.length+jn) 0/\fr 2=YS e/\fr 3=.fn (.func fo) first cap/\H'=H.set i (pst F.tp z L s')++XL F.tn H X jn jt k f t w a zz (ks0++ks)/\
   ((d=0/\s'.2≠none/\Rel L n (.list g e) s (N.bag ks) s'/\ks.length<=L.length+1)\/∃p1,s'=(p1,none)/\s.2=none/\d<=n/\pp L n (.list g e) s.1=pp L d (.listL g e ks) p1/\p1<=L.length/\16*(L.length-p1)+g.c+1<=d/\ks.length<=p1)) (match s.2 with|none=>n-1|some _=>0) (by simp) ⟨[],s,?_⟩ ?_
  .have hc:=Qb O;rw[Q2l,Q21]at hc;have hil2:i<H.length+X.length:=by omega
   refine⟨by simp[hil2],by simp[hjnl],by simp,?_,?_,?_⟩
   .have h1:=hlo.1;have h2:=hlo.2;simp only[Q2n]at h1 h2;simp;exact⟨h1,h2⟩
   .rw[<-hX0];simp[hc]
   .obtain⟨p,st⟩:=s;obtain⟨hp0,hp2,hp3⟩:=hp;simp only[G.c]at hp2 hp3;cases st with
    |some q=>exact .inl ⟨rfl,by simp,by simp[Rel],by simp⟩
    |none=>obtain⟨n',rfl⟩:∃n',n=n'+1:=⟨n-1,by omega⟩;simp at hb;obtain⟨h1,h2⟩:=hp3 rfl;refine .inr ⟨p,rfl,rfl,by simp,?_,h1,by simp;omega,by simp⟩;simp[pp,hb]
  .rintro d fr H' ⟨ks,s',f0,f1,f2,f3,rfl,hd⟩;have hil2:i<H.length+X.length:=by omega
   have hfn:A.clr (H.length+X.length) (.fn (.func fo) first cap)=.fn (.func fo) first cap:=by have h1:=hlo.1;have h2:=hlo.2;simp only[Q2n]at h1 h2;simp;exact⟨h1,h2⟩
   have hcut:∀ks s',Hp.cut (H.length+X.length) (H.set i (pst F.tp z L s')++XL F.tn H X jn jt k f t w a zz ks)=H.set i (pst F.tp z L s')++XL F.tn H X jn jt k f t w a zz ks:=λks s'=>cutX hi hjtl O;have hi':=pget (tp:=F.tp) (z:=z) (L:=L) (H:=H) hi s' (XL F.tn H X jn jt k f t w a zz (ks0++ks));rcases hd with⟨rfl,h1,h2,h3⟩|⟨p1,rfl,hs2,hdn,hpp,hp1',hrk,hks⟩
   .obtain⟨p',st'⟩:=s';cases st' with
    |none=>simp at h1
    |some q=>simp[f0,hi'];exact hE1 _ ks _ h2 h3
   .obtain⟨d',rfl⟩:∃d',d=d'+1:=⟨d-1,by omega⟩;simp[f0,hi',f1,f3];refine⟨hk,?_⟩;refine Qf (hone d' (by omega) (ks0++ks) (p1,none) ⟨by simp only;omega,by omega,λ_=>⟨hp1',by simp only;omega⟩⟩) ?_;rintro _ _ ⟨t3,s3,rfl,rfl,r3⟩;simp[-Yf];have x1:(XL F.tn H X jn jt k f t w a zz (ks0++ks))[jn]?=some (nob F.tn k f t w a zz ((ks0++ks).map N.enc) (H.length+jt)):=by simp[XL,hjnl]
    have x2:(XL F.tn H X jn jt k f t w a zz (ks0++ks))[jt]?=some (.tok ((ks0++ks).map N.enc).length 6 F.tn):=by unfold XL;rw[Q15 (λe=>hne e.symm)];simp[hjtl]
    refine Qa (hF.putA x1 x2 (by simp;omega)) ?_;have x3:((XL F.tn H X jn jt k f t w a zz (ks0++ks)).set jt (.tok ((ks0++ks).map N.enc++[t3.enc]).length 6 F.tn)).set jn (nob F.tn k f t w a zz ((ks0++ks).map N.enc++[t3.enc]) (H.length+jt))=XL F.tn H X jn jt k f t w a zz (ks0++(ks++[t3])):=by unfold XL;rw[Q4j _ _ (λe=>hne e.symm)];simp
    rw[x3];have hb3:s3.1<=1125899906842624:=by have:=r3.le;simp only at this;omega
    have hpn:pp L n (.list g e) s.1=pp L (d'+1) (.listL g e ks) p1:=hpp;have hRel:∀m s',(match pp L (d'+1) (.listL g e ks) p1 with|.out=>False|.bad q=>s'.2=some q/\s'.1<=L.length+n|.ok m' k=>m=m'/\s'=(k,none))->Rel L n (.list g e) s m s':=λm s' h=>by unfold Rel;rw[hs2];simp only;rw[hpn];exact h
    clear hpp;simp[f0,f2];refine Qa (hF.tookA hi _ hb3) ?_;rcases r3.none' with⟨q,b,hq,rfl,e3⟩|⟨j,hj,rfl⟩
    .
     simp[f0];refine Qa (hF.wantA hi _ hb3) ?_;simp;refine Qg (H.length+X.length) 0 (Q14 _) (by simp[XL]) (by omega) ⟨ks++[t3],(b,some q),?_⟩;exact⟨by simp[f0,hil2],by simp[f1,hjnl],by simp[f2],by simp only[Fr.clr_app,Fr.set_app,f3];exact hfn,hcut _ _,.inl ⟨rfl,by simp,hRel _ _ (by simp[pp,hq,PR.then];omega),by simp;omega⟩⟩
    .cases hjb:isT L j e with
     |true=>simp[hjb];refine hE1 _ _ _ (hRel _ _ ?_) (by simp;omega);simp[pp,hj,PR.then,hjb]
     |false=>
      simp[hjb,f0];refine Qa (hF.wantA hi _ hb3) ?_;simp;have:=Yg (L:=L) d' g p1;rw[hj]at this;obtain⟨v1,v2,v3⟩:=this;have v2:=v2 hg;cases hjc:isT L j [44]with
      |true=>refine Qg (H.length+X.length) d' (Q14 _) (by simp[XL]) (by omega) ⟨ks++[t3],(j+1,none),?_⟩;exact⟨by simp[f0,hil2],by simp[f1,hjnl],by simp[f2],by simp only[Fr.clr_app,Fr.set_app,f3];exact hfn,hcut _ _,.inr ⟨j+1,rfl,hs2,by omega,by rw[hpn];simp[pp,hj,PR.then,hjb,Qv,hjc],Yi hjc,by have:=Yi hjc;omega,by simp;omega⟩⟩
      |false=>refine Qg (H.length+X.length) 0 (Q14 _) (by simp[XL]) (by omega) ⟨ks++[t3],(j,some j),?_⟩;exact⟨by simp[f0,hil2],by simp[f1,hjnl],by simp[f2],by simp only[Fr.clr_app,Fr.set_app,f3];exact hfn,hcut _ _,.inl ⟨rfl,by simp,hRel _ _ (by simp[pp,hj,PR.then,hjb,Qv,hjc];omega),by simp;omega⟩⟩
end
end
section
def Vq{L:List Tk}{x:Bs}{s:PSt}(h:Yy L x s=true):∃p,s=(p,none)/\isT L p x=true:=by
 obtain⟨p,st⟩:=s;cases st with
 |some q=>simp at h
 |none=>exact⟨p,rfl,by simpa using h⟩
def Vp{L:List Tk}{x:Bs}{s:PSt}(h:Yy L x s=false):Qac L x s=s:=by simp[Qac,h]
def Qzi{tp:TypeId}{z:Bool}{L:List Tk}{H:Hp}{i:Nat}{s:PSt}(O:Hp.Closed (H.set i (pst tp z L s)))(s':PSt):Hp.Closed (H.set i (pst tp z L s')):=by
 intro n hn;have h:=O n (by simpa using hn);have e:H.set i (pst tp z L s')=(H.set i (pst tp z L s)).set i (pst tp z L s'):=by simp
 rw[e,Q5w,h,Qhq]
def Qn5{tp:TypeId}{z:Bool}{L:List Tk}{H:Hp}{i:Nat}{s:PSt}(O:Hp.Closed (H.set i (pst tp z L s)))(s':PSt)(k:Nat)(X:Hp):Hp.cut (H.length+k) (H.set i (pst tp z L s')++X)=H.set i (pst tp z L s')++(X.take k).map (Ob.clr (H.length+k)):=by have:=Qi (Qzi O s') k X;rwa[Q21]at this
section
variable{P:Program}{F:PF}{z:Bool}{L:List Tk}
def PHas.params'(hF:PHas P F)(hL:L.length<=1048576)(n:Nat)(hn:n<=1099511627776)(hQ:∀m,m<n->UCc P F.tp F.tb z L m .param F.param):UC P F.tp z L (n+1) .params F.params:=by
 refine Qes λH i s hi hp=>?_;refine Ye (Qe hF.params (by simp[Qdt]) λO _=>?_);have hp1:=hp.1;simp only[G.c]at hp1;simp[Qdt];refine Qa (hF.nodeA hi _) ?_;simp[nag];refine Qa (hF.wantA hi _ (by omega)) ?_;generalize h1:Qr L _ s=s1;have b1:=W8 h1;have m1:=Qbe h1;simp;refine Qf (hF.list' hL n hn (g:=.param) (jn:=4) (jt:=3) (ks0:=[]) hi hF.kParam (by simp[A.lo]) rfl (by simp) rfl rfl (λm hm ks s hps=>hQ m hm H _ i 0 s hi (by simp[XL]) hps) s1 (m1.pre hp (by decide) (by simp only[G.c];omega))) ?_;rintro _ _ ⟨ks,s2,rfl,rfl,r2,hkl⟩;have b2:=r2.wt0 rfl;simp[XL,nob];refine Qa (hF.doneA (q:=3) hi (by simp)) ?_;simp[nag];simp[RetK,cutP O,nl];refine Wm ks (by simp) (by simp) ?_;clear b1 b2 m1;subst h1;obtain⟨p,st⟩:=s;cases st with
 |some q=>simp only[Yo]at r2;obtain⟨b,rfl,e4⟩:=r2.some';simp only[G.wt]at e4;simp[Rel,G.wt];omega
 |none=>
  obtain⟨hp2,hp3⟩:=hp.2.2 rfl;simp only[G.c]at hp2 hp3;simp only[Rel,pp,Qv,Yn];by_cases c2:isT L p [40]=true
  case neg=>simp[c2]at r2;obtain⟨b,rfl,e4⟩:=r2.some';simp only[G.wt]at e4;simp[c2];omega
  simp only[Qq,c2,if_true]at r2;rcases r2.none' with⟨q,a,e',rfl,e4⟩|⟨k',e',rfl⟩
  .simp[c2,e',PR.then];omega
  simp[c2,e',PR.then,N.bag,N.new,N.ks]
def KHas.kind'(hF:KHas P F)(hL:L.length<=1048576)(n:Nat)(hn:n<=1099511627776)(hQ:∀m,m<n->UCc P F.tp F.tb z L m .tfield F.tfield)(hK:∀m,m<n+1->UC P F.tp z L m .kind F.kind):UC P F.tp z L (n+1) .kind F.kind:=by
 refine Qes λH i s hi hp=>?_;refine Ye (Qe hF.kind (by simp[Qij]) λO _=>?_);have hp1:=hp.1;simp only[G.c]at hp1;simp[Qij];refine Qa (hF.nodeA hi _) ?_;simp[nag];refine Qa (hF.tookA hi _ (by omega)) ?_;cases h1:Yy L [105,110,116] s with
 |true=>obtain⟨p,rfl,c1⟩:=Vq h1;simp[c1];refine Qa (hF.doneA (q:=3) hi (by simp)) ?_;simp[nag];simp[RetK,cutP O,nl];refine Wm [] (by simp) (by simp) ?_;simp[Rel,pp,kInt,c1]
 |false=>
 rw[Vp h1];simp;refine Qa (hF.tookA hi _ (by omega)) ?_;cases h2:Yy L [115,116,114] s with
 |true=>obtain⟨p,rfl,c2⟩:=Vq h2;simp at h1;simp[c2];refine Qa (hF.doneA (q:=3) hi (by simp)) ?_;simp[nag];simp[RetK,cutP O,nl];refine Wm [] (by simp) (by simp) ?_;simp[Rel,pp,kInt,kStr,h1,c2]
 |false=>
 rw[Vp h2];simp;refine Qa (hF.tookA hi _ (by omega)) ?_;cases h3:Yy L [100,121,110] s with
 |true=>obtain⟨p,rfl,c3⟩:=Vq h3;simp at h1 h2;simp[c3];refine Qa (hF.doneA (q:=3) hi (by simp)) ?_;simp[nag];simp[RetK,cutP O,nl];refine Wm [] (by simp) (by simp) ?_;simp[Rel,pp,kInt,kStr,kDyn,h1,h2,c3]
 |false=>
 rw[Vp h3];simp;refine Qa (hF.tookA hi _ (by omega)) ?_;cases h4:Yy L [123] s with
 |true=>
  obtain⟨p,rfl,c4⟩:=Vq h4;simp at h1 h2 h3;obtain⟨hp2,hp3⟩:=hp.2.2 rfl;simp only[G.c]at hp2 hp3;have l4:=Yi c4;simp[c4];refine Qf (hF.list' hL n hn (g:=.tfield) (jn:=4) (jt:=3) (ks0:=[]) hi hF.kTField (by simp[A.lo]) rfl (by simp) rfl rfl (λm hm ks s hps=>hQ m hm H _ i 0 s hi (by simp[XL]) hps) (p+1,none) ⟨by simp only[G.c];omega,by simp only[G.c];omega,λ_=>⟨l4,by simp only[G.c];omega⟩⟩) ?_;rintro _ _ ⟨ks,s2,rfl,rfl,r2,hkl⟩;simp[XL,nob];refine Qa (hF.doneA (q:=3) hi (by simp)) ?_;simp[nag];simp[RetK,cutP O,nl];refine Wm ks (by simp) (by simp) ?_;rcases r2.none' with⟨q,a,e',rfl,e4⟩|⟨k',e',rfl⟩
  .simp[Rel,pp,kInt,kStr,kDyn,h1,h2,h3,c4,e',PR.then];omega
  .simp[Rel,pp,kInt,kStr,kDyn,h1,h2,h3,c4,e',PR.then,N.bag,N.new,N.ks]
 |false=>
 rw[Vp h4];simp;refine Qa (hF.tookA hi _ (by omega)) ?_;cases h5:Yy L [102,110] s with
 |true=>
  obtain⟨p,rfl,c5⟩:=Vq h5;simp at h1 h2 h3 h4;obtain⟨hp2,hp3⟩:=hp.2.2 rfl;simp only[G.c]at hp2 hp3;have l5:=Yi c5;simp[c5];refine Qa (hF.wantA hi _ (by simp only;omega)) ?_;generalize h6:Qr L _ (p+1,none)=s6;have b6:=W8 h6;have m6:=Qbe h6;simp;refine Qf (hF.list' hL n hn (g:=.kind) (jn:=4) (jt:=3) (ks0:=[]) hi hF.kKind (by simp[A.lo];omega) rfl (by simp) rfl rfl (λm hm ks s hps=>by simpa using hK m (by omega) H _ i s hi hps) s6 ⟨by simp only[G.c]at b6⊢;omega,by simp only[G.c];omega,λe=>⟨(m6 e).2.2 l5,by have:=(m6 e).2.1;simp only[G.c]at this⊢;omega⟩⟩) ?_;rintro _ _ ⟨ks,s7,rfl,rfl,r7,hkl⟩;have b7:=r7.wt0 rfl;have m7:=m6.trans r7.mo;simp[XL,nob];simp only at b6;refine Qa (hF.wantA hi _ (by omega)) ?_;generalize h8:Qr L _ s7=s8;have b8:=W8 h8;have m8:=m7.trans (Qbe h8);simp;refine Qf (hK n (by omega) H _ i s8 hi ⟨by simp only[G.c];omega,by simp only[G.c];omega,λe=>⟨(m8 e).2.2 l5,by have:=(m8 e).2.1;simp only[G.c]at this⊢;omega⟩⟩) ?_;rintro _ _ ⟨t9,s9,rfl,rfl,r9⟩;simp[-Yf];refine Qa (hF.putA (j:=4) (q:=3) (rows:=ks.map N.enc) rfl (by simp) (by simp;omega)) ?_;simp[nob];refine Qa (hF.doneA (q:=3) hi (by simp)) ?_;simp[nag];simp[RetK,cutP O,nl];refine Wm (ks++[t9]) (by simp) (by simp) ?_;clear b7 b8 m6 m7 m8;subst h6 h8;simp only[Rel,pp,Qv,Yn,kInt,kStr,kDyn,kFn,h1,h2,h3,h4,c5,if_true];by_cases c6:isT L (p+1) [40]=true
  case neg=>simp[c6]at r7;obtain⟨b,rfl,e7⟩:=r7.some';simp at r9;obtain⟨c,rfl,e9⟩:=r9.some';simp only[G.wt]at e7 e9;simp[c6];omega
  have l6:=Yi c6;simp only[Qq,c6,if_true]at r7;rcases r7.none' with⟨q,a,e',rfl,e7⟩|⟨k',e',rfl⟩
  .simp at r9;obtain⟨c,rfl,e9⟩:=r9.some';simp only[G.wt]at e9;simp[c6,e',PR.then];omega
  by_cases c8:isT L k' [58]=true
  case neg=>simp[c8]at r9;obtain⟨c,rfl,e9⟩:=r9.some';simp only[G.wt]at e9;have:=Yg (L:=L) n (.list .kind [41]) (p+1+1);rw[e']at this;have:=this.2.2;simp[c6,c8,e',PR.then];omega
  simp only[Qq,c8,if_true]at r9;rcases r9.none' with⟨q,a,e'',rfl,e9⟩|⟨k'',e'',rfl⟩
  .simp[c6,c8,e',e'',PR.then];omega
  simp[c6,c8,e',e'',PR.then,N.bag,N.new,N.ks]
 |false=>
 rw[Vp h5];simp;refine Qa (hF.failA hi) ?_;simp;refine Qa (hF.doneA (q:=3) hi (by simp)) ?_;simp[nag];simp[RetK,cutP O,nl];refine Wm [] (by simp) (by simp) ?_;obtain⟨p,st⟩:=s;cases st with
 |some q=>simp[Rel,G.wt]
 |none=>simp at h1 h2 h3 h4 h5;obtain⟨hp2,hp3⟩:=hp.2.2 rfl;simp only[G.c]at hp2 hp3;simp[Rel,pp,kInt,kStr,kDyn,kFn,Qv,h1,h2,h3,h4,h5];omega
def PHas.block'(hF:PHas P F)(hL:L.length<=1048576)(n:Nat)(hn:n<=1099511627776)(hS:∀m,m<n->UC P F.tp z L m .stmt F.stmt):UC P F.tp z L (n+1) .block F.block:=by
 refine Qes λH i s hi hp=>?_;refine Ye (Qe hF.block (by simp[Qfr]) λO _=>?_);have hp1:=hp.1;simp only[G.c]at hp1;simp[Qfr];refine Qa (hF.nodeA hi _) ?_;simp[nag];refine Qa (hF.wantA hi _ (by omega)) ?_;generalize h1:Qr L _ s=s1;have b1:=W8 h1;simp;obtain⟨XX,hXX⟩:∃XX:List N->Hp,XX=λks=>[Ob.box F.tn [YI 0,YI 0,YI 0,YS [],YI 0,YL true 6 []],nob F.tn 6 s.1 0 [] 0 true [] (H.length+2),.tok ks.length 6 F.tn,nob F.tn 6 s.1 0 [] 0 true (ks.map N.enc) (H.length+2)]:=⟨_,rfl⟩;obtain⟨E,hE⟩:∃E:Fr->Hp->Prop,E=λfr H'=>∃ks s',(fr 0=.ptr i 0/\fr 2=.ptr H.length 0/\fr 3=.ptr (H.length+3) 0)/\Rel L (n+1) .block s (N.new 6 s.1 s'.1 [] 0 ks) s'/\H'=H.set i (pst F.tp z L s')++XX ks:=⟨_,rfl⟩;have hE1:∀fr ks s',(fr 0=.ptr i 0/\fr 2=.ptr H.length 0/\fr 3=.ptr (H.length+3) 0)->Rel L (n+1) .block s (N.new 6 s.1 s'.1 [] 0 ks) s'->E fr (H.set i (pst F.tp z L s')++XX ks):=λfr ks s' h h'=>by subst hE;exact⟨ks,s',h,h',rfl⟩
 refine Qm 0 E (λ_ _=>False) ?_ (λ_ _ h=>h.elim) ?_;rotate_left
 .intro fr H' h;subst hE;obtain⟨ks,s',⟨f0,f2,f3⟩,hr,rfl⟩:=h;subst hXX;simp[f0,f3,nob];refine Qa (hF.doneA (q:=2) hi (by simp)) ?_;simp[nag,f2];simp[RetK,cutP O,nl];exact Wm ks (by simp) (by simp) hr
 clear hE;have hcut:∀ks s',Hp.cut (H.length+4) (H.set i (pst F.tp z L s')++XX ks)=H.set i (pst F.tp z L s')++XX ks:=λks s'=>by rw[Qn5 O,hXX];simp[nob]
 refine Q4 (H.length+4) (λd fr H'=>∃ks s',(fr 0=.ptr i 0/\fr 2=.ptr H.length 0/\fr 3=.ptr (H.length+3) 0)/\H'=H.set i (pst F.tp z L s')++XX ks/\
  ((d=0/\s'.2≠none/\∀m,Rel L (n+1) .block s m s')\/∃p1,s'=(p1,none)/\s.2=none/\d<=n/\pp L (n+1) .block s.1=(pp L d (.stmts ks) p1).then (λm j=>.ok (N.new 6 s.1 j [] 0 m.ks) j)/\p1<=L.length/\16*(L.length-p1)+7<=d/\ks.length<=p1)) (match s1.2 with|none=>n|some _=>0) (by simp) ⟨[],s1,?_⟩ ?_
 .have hil2:i<H.length+4:=by omega
  refine⟨by simp[hil2],?_,?_⟩
  .rw[<-hcut,hXX];simp[nob]
  subst h1;obtain⟨p,st⟩:=s;cases st with
  |some q=>exact .inl ⟨rfl,by simp,λm=>by simp[Rel]⟩
  |none=>
   obtain⟨hp2,hp3⟩:=hp.2.2 rfl;simp only[G.c]at hp2 hp3;by_cases c1:isT L p [123]=true
   .have l1:=Yi c1;simp[c1];refine⟨by simp[pp,Qv,c1],l1,by omega⟩
   .simp[c1];intro m;simp[Rel,pp,Qv,c1];omega
 .rintro d fr H' ⟨ks,s',⟨f0,f2,f3⟩,rfl,hd⟩;have hi':=pget (tp:=F.tp) (z:=z) (L:=L) (H:=H) hi s' (XX ks);have hil2:i<H.length+4:=by omega
  rcases hd with⟨rfl,q1,q2⟩|⟨p1,rfl,hs2,hdn,hpp,hp1',hrk,hks⟩
  .obtain⟨p',st'⟩:=s';cases st' with
   |none=>simp at q1
   |some q=>simp[f0,hi'];exact hE1 _ ks _ (by simp[f0,f2,f3]) (q2 _)
  .obtain⟨d',rfl⟩:∃d',d=d'+1:=⟨d-1,by omega⟩;have hRel:∀m s',(match(pp L (d'+1) (.stmts ks) p1).then (λm j=>.ok (N.new 6 s.1 j [] 0 m.ks) j)with|.out=>False|.bad q=>s'.2=some q/\s'.1<=L.length+(n+1)|.ok m' k=>m=m'/\s'=(k,none))->Rel L (n+1) .block s m s':=λm s' h=>by unfold Rel;rw[hs2];simp only;rw[hpp];exact h
   simp[f0,hi'];refine Qa (hF.tookA hi _ (by simp only;omega)) ?_;cases hjb:isT L p1 [125]with
   |true=>simp[hjb];refine hE1 _ ks _ (by simp[f0,f2,f3]) (hRel _ _ ?_);simp[pp,PR.then,hjb,N.bag,N.new,N.ks]
   |false=>
    simp[hjb,f0];refine Qf (hS d' (by omega) H _ i (p1,none) hi ⟨by simp only[G.c];omega,by simp only[G.c];omega,λ_=>⟨hp1',by simp only[G.c];omega⟩⟩) ?_;rintro _ _ ⟨t3,s3,rfl,rfl,r3⟩;simp[-Yf,f3];refine Qa (hF.putA (j:=3) (q:=2) (rows:=ks.map N.enc) (by rw[hXX];rfl) (by rw[hXX];simp) (by simp;omega)) ?_;have x3:((XX ks).set 2 (.tok (ks.map N.enc++[t3.enc]).length 6 F.tn)).set 3 (nob F.tn 6 s.1 0 [] 0 true (ks.map N.enc++[t3.enc]) (H.length+2))=XX (ks++[t3]):=by rw[hXX];simp
    rw[x3];simp;rcases r3.none' with⟨q,b,hq,rfl,e3⟩|⟨j,hj,rfl⟩
    .refine Qg (H.length+4) 0 (Q14 _) (by rw[hXX];simp) (by omega) ⟨ks++[t3],(b,some q),by simp[f0,f2,f3,hil2],hcut _ _,.inl ⟨rfl,by simp,λm=>hRel _ _ ?_⟩⟩;simp[pp,hjb,hq,PR.then];omega
    .have:=Yg (L:=L) d' .stmt p1;rw[hj]at this;obtain⟨v1,v2,v3⟩:=this;have v2:=v2 rfl;refine Qg (H.length+4) d' (Q14 _) (by rw[hXX];simp) (by omega) ⟨ks++[t3],(j,none),by simp[f0,f2,f3,hil2],hcut _ _,.inr ⟨j,rfl,hs2,by omega,?_,v3 v2,by have:=v3 v2;omega,by simp;omega⟩⟩;rw[hpp];simp[pp,hjb,hj,PR.then]
end
end
section
def abx(tn:TypeId)(a:N):Ob:=.box tn (a.enc.map .d)
def Qgn(tn:TypeId)(a:N)(n:Nat):(abx tn a).clr n=abx tn a:=by obtain⟨k,f,t,w,q,za,ks⟩:=a;rw[abx,N.enc_mk];rfl
section
variable{P:Program}{F:PF}{z:Bool}{L:List Tk}
def PHas.with0(hF:PHas P F){m:Nat}{g:G}{fo:FuncId}(hk:Wd P fo=true)(hU:UC P F.tp z L m g fo)(kk:Int)(a:N){H:Hp}{i:Nat}{s:PSt}(hi:i<H.length)(hp:PPre L m g s):
 Qc P F.with_ [.ptr i 0,YI kk,a.v,.fn (.func fo) [.ptr i 0] []] (H.set i (pst F.tp z L s)) (λr H'=>∃b s',r=N.v (N.new kk a.f s'.1 [] 0 [a,b])/\H'=H.set i (pst F.tp z L s')/\Rel L m g s b s'):=by
 refine Qe hF.with_ (by simp[Qib]) λO _=>?_;obtain⟨Q,hQ⟩:∃Q:A->Hp->Prop,Q=λr H'=>∃b s',r=N.v (N.new kk a.f s'.1 [] 0 [a,b])/\H'=H.set i (pst F.tp z L s')/\Rel L m g s b s':=⟨_,rfl⟩;rw[<-hQ];obtain⟨k,f,t,w,a,za,ks⟩:=a;rw[N.v_mk];simp[Qib];refine⟨hk,?_⟩;refine Qf (hU H _ i s hi hp) ?_;rintro _ _ ⟨b,s',rfl,rfl,r⟩;have hi':=pget (tp:=F.tp) (z:=z) (L:=L) (H:=H) hi s';obtain⟨k',f',t',w',a',z',ks'⟩:=b;rw[N.v_mk];simp[hi'];simp[RetK,cutP O];subst hQ;exact⟨.mk k' f' t' w' a' z' ks',s',by rw[N.v_new];simp[N.enc_mk,N.f],rfl,r⟩
def PHas.with'(hF:PHas P F){m:Nat}{g:G}{fo:FuncId}(hk:Wd P fo=true)(hU:UC P F.tp z L m g fo)(kk:Int)(a:N){H X:Hp}{i:Nat}{s:PSt}(hi:i<H.length)(hp:PPre L m g s):
 Qc P F.with_ [.ptr i 0,YI kk,a.v,.fn (.func fo) [.ptr i 0] []] (H.set i (pst F.tp z L s)++X) (λr H'=>∃b s',r=N.v (N.new kk a.f s'.1 [] 0 [a,b])/\H'=H.set i (pst F.tp z L s')++X/\Rel L m g s b s'):=by
 have:=hF.with0 hk hU kk a (H:=H++X) (i:=i) (s:=s) (by simp;omega) hp;rw[Q18 _ _ hi]at this;refine this.mono ?_;rintro r H' ⟨b,s',rfl,rfl,hr⟩;exact⟨b,s',rfl,by rw[Q18 _ _ hi],hr⟩
def PHas.expr'(hF:PHas P F)(hL:L.length<=1048576)(n:Nat)(hn:n<=1099511627776)(hS:UC P F.tp z L n .sum F.sum):UC P F.tp z L (n+1) .expr F.expr:=by
 refine Qes λH i s hi hp=>?_;refine Qe hF.expr (by simp[Qil]) λO _=>?_;have hp1:=hp.1;simp only[G.c]at hp1;simp[Qil];refine Qf (hS H _ i s hi ((Mo.refl s).pre hp (by decide) (by simp only[G.c];omega))) ?_;rintro _ _ ⟨a,s1,rfl,rfl,r1⟩;have b1:=r1.le;have m1:=r1.mo;have ha:∃k f t w q za ks,a=.mk k f t w q za ks:=by cases a;exact⟨_,_,_,_,_,_,_,rfl⟩
 have hav:a.v=a.v:=rfl;obtain⟨k,f,t,w,q,za,ks,hae⟩:=ha;have hve:a.v=.agg [YI k,YI f,YI t,YS w,YI q,YL za 6 (ks.map N.enc)]:=by rw[hae,N.v_mk]
 rw[hve];simp;refine Qa (hF.tookA hi _ (by omega)) ?_;cases h2:Yy L [60] s1 with
 |true=>
  obtain⟨p,rfl,c2⟩:=Vq h2;have l2:=Yi c2;obtain⟨p0,rfl⟩:∃p0,s=(p0,none):=⟨s.1,by rw[<-(m1 rfl).1]⟩;obtain⟨hp2,hp3⟩:=hp.2.2 rfl;simp only[G.c]at hp2 hp3;rcases r1.none' with⟨q',b,hq,e,e3⟩|⟨j,hj,e⟩
  .simp at e
  obtain⟨rfl,-⟩:p=j/\True:=by simpa using e
  have mm:=(m1 rfl).2.1;simp only at mm;simp[c2];rw[<-hve];refine Qf (hF.with' hF.kSum hS 14 a hi ⟨by simp only[G.c];omega,by simp only[G.c];omega,λ_=>⟨l2,by simp only[G.c];omega⟩⟩) ?_;rintro _ _ ⟨b,s2,rfl,rfl,r2⟩;rw[N.v_new];simp;simp[RetK,cutP O];refine⟨N.new 14 a.f s2.1 [] 0 [a,b],s2,by rw[N.v_new];simp,by simp,?_⟩;rcases r2.none' with⟨q',b',hq,rfl,e3⟩|⟨j',hj',rfl⟩
  .simp[Rel,pp,hj,PR.then,c2,hq];omega
  .simp[Rel,pp,hj,PR.then,c2,hj']
 |false=>
 rw[Vp h2];simp;refine Qa (hF.tookA hi _ (by omega)) ?_;cases h3:Yy L [61,61] s1 with
 |true=>
  obtain⟨p,rfl,c3⟩:=Vq h3;simp at h2;have l3:=Yi c3;obtain⟨p0,rfl⟩:∃p0,s=(p0,none):=⟨s.1,by rw[<-(m1 rfl).1]⟩;obtain⟨hp2,hp3⟩:=hp.2.2 rfl;simp only[G.c]at hp2 hp3;rcases r1.none' with⟨q',b,hq,e,e3⟩|⟨j,hj,e⟩
  .simp at e
  obtain⟨rfl,-⟩:p=j/\True:=by simpa using e
  have mm:=(m1 rfl).2.1;simp only at mm;simp[c3];rw[<-hve];refine Qf (hF.with' hF.kSum hS 15 a hi ⟨by simp only[G.c];omega,by simp only[G.c];omega,λ_=>⟨l3,by simp only[G.c];omega⟩⟩) ?_;rintro _ _ ⟨b,s2,rfl,rfl,r2⟩;rw[N.v_new];simp;simp[RetK,cutP O];refine⟨N.new 15 a.f s2.1 [] 0 [a,b],s2,by rw[N.v_new];simp,by simp,?_⟩;rcases r2.none' with⟨q',b',hq,rfl,e3⟩|⟨j',hj',rfl⟩
  .simp[Rel,pp,hj,PR.then,h2,c3,hq];omega
  .simp[Rel,pp,hj,PR.then,h2,c3,hj']
 |false=>
 rw[Vp h3];simp;simp[RetK,cutP O];refine⟨a,s1,hve.symm,by simp,?_⟩;obtain⟨p,st⟩:=s;cases st with
 |some q=>obtain⟨b,rfl,e⟩:=r1.some';simp only[G.wt]at e;simp[Rel,G.wt];omega
 |none=>
  rcases r1.none' with⟨q',b,hq,rfl,e3⟩|⟨j,hj,rfl⟩
  .simp[Rel,pp,hq,PR.then];omega
  .simp at h2 h3;simp[Rel,pp,hj,PR.then,h2,h3]
def PHas.term'(hF:PHas P F)(hL:L.length<=1048576)(n:Nat)(hn:n<=1099511627776)(hT:∀m,m<n+1->UC P F.tp z L m .post F.post):UC P F.tp z L (n+1) .term F.term:=by
 refine Qes λH i s hi hp=>?_;refine Qe hF.term (by simp[Qid]) λO _=>?_;have hp1:=hp.1;simp only[G.c]at hp1;simp[Qid];refine Qf (hT n (by omega) H _ i s hi ((Mo.refl s).pre hp (by decide) (by simp only[G.c];omega))) ?_;rintro _ _ ⟨a0,s1,rfl,rfl,r1⟩;have b1:=r1.le;have ho:∀a:N,∃(k f t:Int)(w:Bs)(q:Int)(za:Bool)(ks:List N),a.v=.agg [YI k,YI f,YI t,YS w,YI q,YL za 6 (ks.map N.enc)]/\abx F.tn a=.box F.tn [YI k,YI f,YI t,YS w,YI q,YL za 6 (ks.map N.enc)]:=λa=>by obtain⟨k,f,t,w,q,za,ks⟩:=a;exact⟨k,f,t,w,q,za,ks,by rw[N.v_mk],by rw[abx,N.enc_mk];rfl⟩
 obtain⟨XX,hXX⟩:∃XX:N->Hp,XX=λa=>[Ob.box F.tn [YI 0,YI 0,YI 0,YS [],YI 0,YL true 6 []],abx F.tn a]:=⟨_,rfl⟩;have hst:∀(a0:N)(o:Ob)(s1:PSt),(H.set i (pst F.tp z L s1)++[Ob.box F.tn [YI 0,YI 0,YI 0,YS [],YI 0,YL true 6 []],o]).set (H.length+1) (abx F.tn a0)=H.set i (pst F.tp z L s1)++XX a0:=λa0 o s1=>by rw[hXX];simp
 obtain⟨E,hE⟩:∃E:Fr->Hp->Prop,E=λfr H'=>∃a s',(fr 0=.ptr i 0/\fr 2=.ptr H.length 0/\fr 3=.ptr (H.length+1) 0)/\Rel L (n+1) .term s a s'/\H'=H.set i (pst F.tp z L s')++XX a:=⟨_,rfl⟩;have hE1:∀fr a s',(fr 0=.ptr i 0/\fr 2=.ptr H.length 0/\fr 3=.ptr (H.length+1) 0)->Rel L (n+1) .term s a s'->E fr (H.set i (pst F.tp z L s')++XX a):=λfr a s' h h'=>by subst hE;exact⟨a,s',h,h',rfl⟩
 obtain⟨k,f,t,w,q,za,ks,hv,hb⟩:=ho a0;rw[hv];simp;rw[show H.set i (pst F.tp z L s1)++[Ob.box F.tn [YI 0,YI 0,YI 0,YS [],YI 0,YL true 6 []],.box F.tn [YI k,YI f,YI t,YS w,YI q,YL za 6 (ks.map N.enc)]]=H.set i (pst F.tp z L s1)++XX a0 by rw[hXX,<-hb]];refine Qm 0 E (λ_ _=>False) ?_ (λ_ _ h=>h.elim) ?_;rotate_left
 .intro fr H' h;subst hE;obtain⟨a,s',⟨f0,f2,f3⟩,hr,rfl⟩:=h;obtain⟨k,f,t,w,q,za,ks,hv,hb⟩:=ho a;subst hXX;simp[f0,f2,f3,hb];simp[RetK,cutP O];exact⟨a,s',hv.symm,by simp,hr⟩
 clear hE;have hcut:∀a s' X,Hp.cut (H.length+2) (H.set i (pst F.tp z L s')++(XX a++X))=H.set i (pst F.tp z L s')++XX a:=λa s' X=>by rw[Qn5 O,hXX];change H.set i (pst F.tp z L s')++[_,(abx F.tn a).clr _]=_;rw[Qgn];rfl
 have hcut0:∀a s',Hp.cut (H.length+2) (H.set i (pst F.tp z L s')++XX a)=H.set i (pst F.tp z L s')++XX a:=λa s'=>by simpa using hcut a s' []
 refine Q4 (H.length+2) (λd fr H'=>∃a s',(fr 0=.ptr i 0/\fr 2=.ptr H.length 0/\fr 3=.ptr (H.length+1) 0)/\H'=H.set i (pst F.tp z L s')++XX a/\
  ((d=0/\s'.2≠none/\∀m,Rel L (n+1) .term s m s')\/∃p1,s'=(p1,none)/\s.2=none/\d<=n/\pp L (n+1) .term s.1=pp L d (.termL a) p1/\p1<=L.length/\16*(L.length-p1)+1<=d)) (match s1.2 with|none=>n|some _=>0) (by rw[hXX];simp) ⟨a0,s1,?_⟩ ?_
 .have hil2:i<H.length+2:=by omega
  refine⟨by simp[hil2],hcut0 _ _,?_⟩;obtain⟨p,st⟩:=s;cases st with
  |some q=>obtain⟨b,rfl,e⟩:=r1.some';simp only[G.wt]at e;exact .inl ⟨rfl,by simp,λm=>by simp[Rel,G.wt];omega⟩
  |none=>
   obtain⟨hp2,hp3⟩:=hp.2.2 rfl;simp only[G.c]at hp2 hp3;rcases r1.none' with⟨q',b,hq,rfl,e3⟩|⟨j,hj,rfl⟩
   .exact .inl ⟨rfl,by simp,λm=>by simp[Rel,pp,hq,PR.then];omega⟩
   .have:=Yg (L:=L) n .post p;rw[hj]at this;obtain⟨v1,v2,v3⟩:=this;have v2:=v2 rfl;have v3:=v3 v2;exact .inr ⟨j,rfl,rfl,by simp,by simp[pp,hj,PR.then],v3,by simp only;omega⟩
 .rintro d fr H' ⟨a,s',⟨f0,f2,f3⟩,rfl,hd⟩;have hil2:i<H.length+2:=by omega
  have hs'b:s'.1<=1125899906842624:=by
   rcases hd with⟨rfl,q1,q2⟩|⟨p1,rfl,hs2,hdn,hpp,hp1',hrk⟩
   .have:=(q2 a).le;omega
   .simp only;omega
  simp[f0];refine Qa (hF.tookA hi _ hs'b) ?_;rcases hd with⟨rfl,q1,q2⟩|⟨p1,rfl,hs2,hdn,hpp,hp1',hrk⟩
  .obtain⟨p',st'⟩:=s';cases st' with
   |none=>simp at q1
   |some q=>simp;exact hE1 _ a _ (by simp[f0,f2,f3]) (q2 _)
  .obtain⟨d',rfl⟩:∃d',d=d'+1:=⟨d-1,by omega⟩;have hRel:∀m s',(match pp L (d'+1) (.termL a) p1 with|.out=>False|.bad q=>s'.2=some q/\s'.1<=L.length+(n+1)|.ok m' k=>m=m'/\s'=(k,none))->Rel L (n+1) .term s m s':=λm s' h=>by unfold Rel;rw[hs2];simp only;rw[hpp];exact h
   cases hjb:isT L p1 [42]with
   |false=>simp[hjb];refine hE1 _ a _ (by simp[f0,f2,f3]) (hRel _ _ ?_);simp[pp,hjb]
   |true=>
    have l1:=Yi hjb;obtain⟨k,f,t,w,q,za,ks,hv,hb⟩:=ho a;have hld:∀s'',(H.set i (pst F.tp z L s'')++XX a)[H.length+1]?=some (.box F.tn [YI k,YI f,YI t,YS w,YI q,YL za 6 (ks.map N.enc)]):=λs''=>by rw[hXX];simp[hb]
    simp[hjb,f0,f3,hld];rw[<-hv];refine Qf (hF.with' hF.kPost (hT d' (by omega)) 18 a hi ⟨by simp only[G.c];omega,by simp only[G.c];omega,λ_=>⟨l1,by simp only[G.c];omega⟩⟩) ?_;rintro _ _ ⟨b,s2,rfl,rfl,r2⟩;have hst2:=hst (N.new 18 a.f s2.1 [] 0 [a,b]) (abx F.tn a) s2;obtain⟨k2,f2',t2,w2,q2,za2,ks2,hv2,hb2⟩:=ho (N.new 18 a.f s2.1 [] 0 [a,b]);rw[hv2];have hXa:H.set i (pst F.tp z L s2)++XX a=H.set i (pst F.tp z L s2)++[Ob.box F.tn [YI 0,YI 0,YI 0,YS [],YI 0,YL true 6 []],abx F.tn a]:=by rw[hXX]
    rw[hXa];simp[f3,hb];rw[show H.set i (pst F.tp z L s2)++[Ob.box F.tn [YI 0,YI 0,YI 0,YS [],YI 0,YL true 6 []],.box F.tn [YI k2,YI f2',YI t2,YS w2,YI q2,YL za2 6 (ks2.map N.enc)]]=H.set i (pst F.tp z L s2)++XX (N.new 18 a.f s2.1 [] 0 [a,b]) by rw[hXX,<-hb2]];rcases r2.none' with⟨q',b',hq,rfl,e3⟩|⟨j,hj,rfl⟩
    .refine Qg (H.length+2) 0 (Q14 _) (by rw[hXX];simp) (by omega) ⟨_,(b',some q'),by simp[f0,f2,f3,hil2],hcut0 _ _,.inl ⟨rfl,by simp,λm=>hRel _ _ ?_⟩⟩;simp[pp,hjb,hq,PR.then];omega
    .have:=Yg (L:=L) d' .post (p1+1);rw[hj]at this;obtain⟨v1,v2,v3⟩:=this;have v2:=v2 rfl;have v3:=v3 v2;refine Qg (H.length+2) d' (Q14 _) (by rw[hXX];simp) (by omega) ⟨_,(j,none),by simp[f0,f2,f3,hil2],hcut0 _ _,.inr ⟨j,rfl,hs2,by omega,?_,v3,by omega⟩⟩;rw[hpp];simp[pp,hjb,hj,PR.then]
def PHas.sum'(hF:PHas P F)(hL:L.length<=1048576)(n:Nat)(hn:n<=1099511627776)(hT:∀m,m<n+1->UC P F.tp z L m .term F.term):UC P F.tp z L (n+1) .sum F.sum:=by
 refine Qes λH i s hi hp=>?_;refine Qe hF.sum (by simp[Qml]) λO _=>?_;have hp1:=hp.1;simp only[G.c]at hp1;simp[Qml];refine Qf (hT n (by omega) H _ i s hi ((Mo.refl s).pre hp (by decide) (by simp only[G.c];omega))) ?_;rintro _ _ ⟨a0,s1,rfl,rfl,r1⟩;have b1:=r1.le;have ho:∀a:N,∃(k f t:Int)(w:Bs)(q:Int)(za:Bool)(ks:List N),a.v=.agg [YI k,YI f,YI t,YS w,YI q,YL za 6 (ks.map N.enc)]/\abx F.tn a=.box F.tn [YI k,YI f,YI t,YS w,YI q,YL za 6 (ks.map N.enc)]:=λa=>by obtain⟨k,f,t,w,q,za,ks⟩:=a;exact⟨k,f,t,w,q,za,ks,by rw[N.v_mk],by rw[abx,N.enc_mk];rfl⟩
 obtain⟨XX,hXX⟩:∃XX:N->Hp,XX=λa=>[Ob.box F.tn [YI 0,YI 0,YI 0,YS [],YI 0,YL true 6 []],abx F.tn a]:=⟨_,rfl⟩;have hst:∀(a0:N)(o:Ob)(s1:PSt),(H.set i (pst F.tp z L s1)++[Ob.box F.tn [YI 0,YI 0,YI 0,YS [],YI 0,YL true 6 []],o]).set (H.length+1) (abx F.tn a0)=H.set i (pst F.tp z L s1)++XX a0:=λa0 o s1=>by rw[hXX];simp
 obtain⟨E,hE⟩:∃E:Fr->Hp->Prop,E=λfr H'=>∃a s',(fr 0=.ptr i 0/\fr 2=.ptr H.length 0/\fr 3=.ptr (H.length+1) 0)/\Rel L (n+1) .sum s a s'/\H'=H.set i (pst F.tp z L s')++XX a:=⟨_,rfl⟩;have hE1:∀fr a s',(fr 0=.ptr i 0/\fr 2=.ptr H.length 0/\fr 3=.ptr (H.length+1) 0)->Rel L (n+1) .sum s a s'->E fr (H.set i (pst F.tp z L s')++XX a):=λfr a s' h h'=>by subst hE;exact⟨a,s',h,h',rfl⟩
 obtain⟨k,f,t,w,q,za,ks,hv,hb⟩:=ho a0;rw[hv];simp;rw[show H.set i (pst F.tp z L s1)++[Ob.box F.tn [YI 0,YI 0,YI 0,YS [],YI 0,YL true 6 []],.box F.tn [YI k,YI f,YI t,YS w,YI q,YL za 6 (ks.map N.enc)]]=H.set i (pst F.tp z L s1)++XX a0 by rw[hXX,<-hb]];obtain⟨RR,hRR⟩:∃RR:Fr->Hp->Prop,RR=λfr H'=>∃a s',fr 2=.ptr H.length 0/\Rel L (n+1) .sum s a s'/\H'=H.set i (pst F.tp z L s')++[abx F.tn a,abx F.tn a]:=⟨_,rfl⟩;have hR1:∀fr a s',fr 2=.ptr H.length 0->Rel L (n+1) .sum s a s'->RR fr (H.set i (pst F.tp z L s')++[abx F.tn a,abx F.tn a]):=λfr a s' h h'=>by subst hRR;exact⟨a,s',h,h',rfl⟩
 refine Qm 0 E RR ?_ ?_ ?_;rotate_left
 .intro fr H' h;subst hRR;obtain⟨a,s',f2,hr,rfl⟩:=h;obtain⟨k,f,t,w,q,za,ks,hv,hb⟩:=ho a;simp[f2,hb];simp[RetK,cutP O];exact⟨a,s',hv.symm,by simp,hr⟩
 .intro fr H' h;subst hE;obtain⟨a,s',⟨f0,f2,f3⟩,hr,rfl⟩:=h;obtain⟨k,f,t,w,q,za,ks,hv,hb⟩:=ho a;subst hXX;simp[f0,f2,f3,hb];simp[RetK,cutP O];exact⟨a,s',hv.symm,by simp,hr⟩
 clear hE hRR;have hcut:∀a s' X,Hp.cut (H.length+2) (H.set i (pst F.tp z L s')++(XX a++X))=H.set i (pst F.tp z L s')++XX a:=λa s' X=>by rw[Qn5 O,hXX];change H.set i (pst F.tp z L s')++[_,(abx F.tn a).clr _]=_;rw[Qgn];rfl
 have hcut0:∀a s',Hp.cut (H.length+2) (H.set i (pst F.tp z L s')++XX a)=H.set i (pst F.tp z L s')++XX a:=λa s'=>by simpa using hcut a s' []
 refine Q4 (H.length+2) (λd fr H'=>∃a s',(fr 0=.ptr i 0/\fr 2=.ptr H.length 0/\fr 3=.ptr (H.length+1) 0)/\H'=H.set i (pst F.tp z L s')++XX a/\
  ((d=0/\s'.2≠none/\∀m,Rel L (n+1) .sum s m s')\/∃p1,s'=(p1,none)/\s.2=none/\d<=n/\pp L (n+1) .sum s.1=pp L d (.sumL a) p1/\p1<=L.length/\16*(L.length-p1)+1<=d)) (match s1.2 with|none=>n|some _=>0) (by rw[hXX];simp) ⟨a0,s1,?_⟩ ?_
 .have hil2:i<H.length+2:=by omega
  refine⟨by simp[hil2],hcut0 _ _,?_⟩;obtain⟨p,st⟩:=s;cases st with
  |some q=>obtain⟨b,rfl,e⟩:=r1.some';simp only[G.wt]at e;exact .inl ⟨rfl,by simp,λm=>by simp[Rel,G.wt];omega⟩
  |none=>
   obtain⟨hp2,hp3⟩:=hp.2.2 rfl;simp only[G.c]at hp2 hp3;rcases r1.none' with⟨q',b,hq,rfl,e3⟩|⟨j,hj,rfl⟩
   .exact .inl ⟨rfl,by simp,λm=>by simp[Rel,pp,hq,PR.then];omega⟩
   .have:=Yg (L:=L) n .term p;rw[hj]at this;obtain⟨v1,v2,v3⟩:=this;have v2:=v2 rfl;have v3:=v3 v2;exact .inr ⟨j,rfl,rfl,by simp,by simp[pp,hj,PR.then],v3,by simp only;omega⟩
 .rintro d fr H' ⟨a,s',⟨f0,f2,f3⟩,rfl,hd⟩;have hil2:i<H.length+2:=by omega
  have hi':=pget (tp:=F.tp) (z:=z) (L:=L) (H:=H) hi s' (XX a);rcases hd with⟨rfl,q1,q2⟩|⟨p1,rfl,hs2,hdn,hpp,hp1',hrk⟩
  .obtain⟨p',st'⟩:=s';cases st' with
   |none=>simp at q1
   |some q=>simp[f0,hi'];exact hE1 _ a _ (by simp[f0,f2,f3]) (q2 _)
  .obtain⟨d',rfl⟩:∃d',d=d'+1:=⟨d-1,by omega⟩;have hRel:∀m s',(match pp L (d'+1) (.sumL a) p1 with|.out=>False|.bad q=>s'.2=some q/\s'.1<=L.length+(n+1)|.ok m' k=>m=m'/\s'=(k,none))->Rel L (n+1) .sum s m s':=λm s' h=>by unfold Rel;rw[hs2];simp only;rw[hpp];exact h
   obtain⟨k,f,t,w,q,za,ks,hv,hb⟩:=ho a;have hld:∀s'',(H.set i (pst F.tp z L s'')++XX a)[H.length+1]?=some (.box F.tn [YI k,YI f,YI t,YS w,YI q,YL za 6 (ks.map N.enc)]):=λs''=>by rw[hXX];simp[hb]
   simp[f0,hi'];refine Qa (hF.tookA hi _ (by simp only;omega)) ?_;cases hjb:isT L p1 [43]with
   |true=>
    have l1:=Yi hjb;simp[hjb,f0,f3,hld];rw[<-hv];refine Qf (hF.with' hF.kTerm (hT d' (by omega)) 16 a hi ⟨by simp only[G.c];omega,by simp only[G.c];omega,λ_=>⟨l1,by simp only[G.c];omega⟩⟩) ?_;rintro _ _ ⟨b,s2,rfl,rfl,r2⟩;obtain⟨k2,f2',t2,w2,q2,za2,ks2,hv2,hb2⟩:=ho (N.new 16 a.f s2.1 [] 0 [a,b]);rw[hv2];have hXa:H.set i (pst F.tp z L s2)++XX a=H.set i (pst F.tp z L s2)++[Ob.box F.tn [YI 0,YI 0,YI 0,YS [],YI 0,YL true 6 []],abx F.tn a]:=by rw[hXX]
    rw[hXa];simp[f3,hb];rw[show H.set i (pst F.tp z L s2)++[Ob.box F.tn [YI 0,YI 0,YI 0,YS [],YI 0,YL true 6 []],.box F.tn [YI k2,YI f2',YI t2,YS w2,YI q2,YL za2 6 (ks2.map N.enc)]]=H.set i (pst F.tp z L s2)++XX (N.new 16 a.f s2.1 [] 0 [a,b]) by rw[hXX,<-hb2]];rcases r2.none' with⟨q',b',hq,rfl,e3⟩|⟨j,hj,rfl⟩
    .refine Qg (H.length+2) 0 (Q14 _) (by rw[hXX];simp) (by omega) ⟨_,(b',some q'),by simp[f0,f2,f3,hil2],hcut0 _ _,.inl ⟨rfl,by simp,λm=>hRel _ _ ?_⟩⟩;simp[pp,hjb,hq,PR.then];omega
    .have:=Yg (L:=L) d' .term (p1+1);rw[hj]at this;obtain⟨v1,v2,v3⟩:=this;have v2:=v2 rfl;have v3:=v3 v2;refine Qg (H.length+2) d' (Q14 _) (by rw[hXX];simp) (by omega) ⟨_,(j,none),by simp[f0,f2,f3,hil2],hcut0 _ _,.inr ⟨j,rfl,hs2,by omega,?_,v3,by omega⟩⟩;rw[hpp];simp[pp,hjb,hj,PR.then]
   |false=>
   simp[hjb,f0];refine Qa (hF.tookA hi _ (by simp only;omega)) ?_;cases hjc:isT L p1 [45]with
   |true=>
    have l1:=Yi hjc;simp[hjc,f0,f3,hld];rw[<-hv];refine Qf (hF.with' hF.kTerm (hT d' (by omega)) 17 a hi ⟨by simp only[G.c];omega,by simp only[G.c];omega,λ_=>⟨l1,by simp only[G.c];omega⟩⟩) ?_;rintro _ _ ⟨b,s2,rfl,rfl,r2⟩;obtain⟨k2,f2',t2,w2,q2,za2,ks2,hv2,hb2⟩:=ho (N.new 17 a.f s2.1 [] 0 [a,b]);rw[hv2];have hXa:H.set i (pst F.tp z L s2)++XX a=H.set i (pst F.tp z L s2)++[Ob.box F.tn [YI 0,YI 0,YI 0,YS [],YI 0,YL true 6 []],abx F.tn a]:=by rw[hXX]
    rw[hXa];simp[f3,hb];rw[show H.set i (pst F.tp z L s2)++[Ob.box F.tn [YI 0,YI 0,YI 0,YS [],YI 0,YL true 6 []],.box F.tn [YI k2,YI f2',YI t2,YS w2,YI q2,YL za2 6 (ks2.map N.enc)]]=H.set i (pst F.tp z L s2)++XX (N.new 17 a.f s2.1 [] 0 [a,b]) by rw[hXX,<-hb2]];rcases r2.none' with⟨q',b',hq,rfl,e3⟩|⟨j,hj,rfl⟩
    .refine Qg (H.length+2) 0 (Q14 _) (by rw[hXX];simp) (by omega) ⟨_,(b',some q'),by simp[f0,f2,f3,hil2],hcut0 _ _,.inl ⟨rfl,by simp,λm=>hRel _ _ ?_⟩⟩;simp[pp,hjb,hjc,hq,PR.then];omega
    .have:=Yg (L:=L) d' .term (p1+1);rw[hj]at this;obtain⟨v1,v2,v3⟩:=this;have v2:=v2 rfl;have v3:=v3 v2;refine Qg (H.length+2) d' (Q14 _) (by rw[hXX];simp) (by omega) ⟨_,(j,none),by simp[f0,f2,f3,hil2],hcut0 _ _,.inr ⟨j,rfl,hs2,by omega,?_,v3,by omega⟩⟩;rw[hpp];simp[pp,hjb,hjc,hj,PR.then]
   |false=>
    have hx0:(XX a)[0]?=some (.box F.tn [YI 0,YI 0,YI 0,YS [],YI 0,YL true 6 []]):=by rw[hXX];rfl
    have hx1:∀o,(XX a).set 0 o=[o,abx F.tn a]:=λo=>by rw[hXX];rfl
    simp[hjc,f3,hld,f2,hx0,hx1];rw[<-hb];refine hR1 _ a _ (by simp[f2]) (hRel _ _ ?_);simp[pp,hjb,hjc]
end
end
section
section
variable{P:Program}{F:PF}{z:Bool}{L:List Tk}
def PHas.post'(hF:PHas P F)(hL:L.length<=1048576)(n:Nat)(hn:n<=1099511627776)(hT:UC P F.tp z L n .atom F.atom)(hX:∀m,m<n->UC P F.tp z L m .expr F.expr):UC P F.tp z L (n+1) .post F.post:=by
 refine Qes λH i s hi hp=>?_;refine Qe hF.post (by simp[Qig]) λO _=>?_;have hp1:=hp.1;simp only[G.c]at hp1;simp[Qig];refine Qf (hT H _ i s hi ((Mo.refl s).pre hp (by decide) (by simp only[G.c];omega))) ?_;rintro _ _ ⟨a0,s1,rfl,rfl,r1⟩;have b1:=r1.le;have ho:∀a:N,∃(k f t:Int)(w:Bs)(q:Int)(za:Bool)(ks:List N),a.f=f/\a.enc=[.int .i64 k,.int .i64 f,.int .i64 t,.str w,.int .i64 q,.sl za 6 (ks.map N.enc)]/\a.v=.agg [YI k,YI f,YI t,YS w,YI q,YL za 6 (ks.map N.enc)]/\abx F.tn a=.box F.tn [YI k,YI f,YI t,YS w,YI q,YL za 6 (ks.map N.enc)]:=λa=>by obtain⟨k,f,t,w,q,za,ks⟩:=a;exact⟨k,f,t,w,q,za,ks,rfl,by rw[N.enc_mk],by rw[N.v_mk],by rw[abx,N.enc_mk];rfl⟩
 obtain⟨XX,hXX⟩:∃XX:N->Hp,XX=λa=>[Ob.box F.tn [YI 0,YI 0,YI 0,YS [],YI 0,YL true 6 []],abx F.tn a]:=⟨_,rfl⟩;have hst:∀(a0:N)(o:Ob)(s1:PSt),(H.set i (pst F.tp z L s1)++[Ob.box F.tn [YI 0,YI 0,YI 0,YS [],YI 0,YL true 6 []],o]).set (H.length+1) (abx F.tn a0)=H.set i (pst F.tp z L s1)++XX a0:=λa0 o s1=>by rw[hXX];simp
 obtain⟨E,hE⟩:∃E:Fr->Hp->Prop,E=λfr H'=>∃a s',(fr 0=.ptr i 0/\fr 2=.ptr H.length 0/\fr 3=.ptr (H.length+1) 0)/\Rel L (n+1) .post s a s'/\H'=H.set i (pst F.tp z L s')++XX a:=⟨_,rfl⟩;have hE1:∀fr a s',(fr 0=.ptr i 0/\fr 2=.ptr H.length 0/\fr 3=.ptr (H.length+1) 0)->Rel L (n+1) .post s a s'->E fr (H.set i (pst F.tp z L s')++XX a):=λfr a s' h h'=>by subst hE;exact⟨a,s',h,h',rfl⟩
 obtain⟨k,f,t,w,q,za,ks,haf,hen,hv,hb⟩:=ho a0;rw[hv];simp;rw[show H.set i (pst F.tp z L s1)++[Ob.box F.tn [YI 0,YI 0,YI 0,YS [],YI 0,YL true 6 []],.box F.tn [YI k,YI f,YI t,YS w,YI q,YL za 6 (ks.map N.enc)]]=H.set i (pst F.tp z L s1)++XX a0 by rw[hXX,<-hb]];obtain⟨RR,hRR⟩:∃RR:Fr->Hp->Prop,RR=λfr H'=>∃a s' Y,fr 2=.ptr H.length 0/\Rel L (n+1) .post s a s'/\H'=H.set i (pst F.tp z L s')++(abx F.tn a::Y):=⟨_,rfl⟩;have hR1:∀fr a s' Y,fr 2=.ptr H.length 0->Rel L (n+1) .post s a s'->RR fr (H.set i (pst F.tp z L s')++(abx F.tn a::Y)):=λfr a s' Y h h'=>by subst hRR;exact⟨a,s',Y,h,h',rfl⟩
 refine Qm 0 E RR ?_ ?_ ?_;rotate_left
 .intro fr H' h;subst hRR;obtain⟨a,s',Y,f2,hr,rfl⟩:=h;obtain⟨k,f,t,w,q,za,ks,haf,hen,hv,hb⟩:=ho a;simp[f2,hb];simp[RetK,cutP O];exact⟨a,s',hv.symm,by simp,hr⟩
 .intro fr H' h;subst hE;obtain⟨a,s',⟨f0,f2,f3⟩,hr,rfl⟩:=h;obtain⟨k,f,t,w,q,za,ks,haf,hen,hv,hb⟩:=ho a;subst hXX;simp[f0,f2,f3,hb];simp[RetK,cutP O];exact⟨a,s',hv.symm,by simp,hr⟩
 clear hE hRR;have hcut:∀a s' X,Hp.cut (H.length+2) (H.set i (pst F.tp z L s')++(XX a++X))=H.set i (pst F.tp z L s')++XX a:=λa s' X=>by rw[Qn5 O,hXX];change H.set i (pst F.tp z L s')++[_,(abx F.tn a).clr _]=_;rw[Qgn];rfl
 have hcut0:∀a s',Hp.cut (H.length+2) (H.set i (pst F.tp z L s')++XX a)=H.set i (pst F.tp z L s')++XX a:=λa s'=>by simpa using hcut a s' []
 refine Q4 (H.length+2) (λd fr H'=>∃a s',(fr 0=.ptr i 0/\fr 2=.ptr H.length 0/\fr 3=.ptr (H.length+1) 0)/\H'=H.set i (pst F.tp z L s')++XX a/\
  ((d=0/\s'.2≠none/\∀m,Rel L (n+1) .post s m s')\/∃p1,s'=(p1,none)/\s.2=none/\d<=n/\pp L (n+1) .post s.1=pp L d (.postL a) p1/\p1<=L.length/\16*(L.length-p1)+1<=d)) (match s1.2 with|none=>n|some _=>0) (by rw[hXX];simp) ⟨a0,s1,?_⟩ ?_
 .have hil2:i<H.length+2:=by omega
  refine⟨by simp[hil2],hcut0 _ _,?_⟩;obtain⟨p,st⟩:=s;cases st with
  |some q=>obtain⟨b,rfl,e⟩:=r1.some';simp only[G.wt]at e;exact .inl ⟨rfl,by simp,λm=>by simp[Rel,G.wt];omega⟩
  |none=>
   obtain⟨hp2,hp3⟩:=hp.2.2 rfl;simp only[G.c]at hp2 hp3;rcases r1.none' with⟨q',b,hq,rfl,e3⟩|⟨j,hj,rfl⟩
   .exact .inl ⟨rfl,by simp,λm=>by simp[Rel,pp,hq,PR.then];omega⟩
   .have:=Yg (L:=L) n .atom p;rw[hj]at this;obtain⟨v1,v2,v3⟩:=this;have v2:=v2 rfl;have v3:=v3 v2;exact .inr ⟨j,rfl,rfl,by simp,by simp[pp,hj,PR.then],v3,by simp only;omega⟩
 .rintro d fr H' ⟨a,s',⟨f0,f2,f3⟩,rfl,hd⟩;have hil2:i<H.length+2:=by omega
  have hi':=pget (tp:=F.tp) (z:=z) (L:=L) (H:=H) hi s';rcases hd with⟨rfl,q1,q2⟩|⟨p1,rfl,hs2,hdn,hpp,hp1',hrk⟩
  .obtain⟨p',st'⟩:=s';cases st' with
   |none=>simp at q1
   |some q=>simp[f0,hi'];exact hE1 _ a _ (by simp[f0,f2,f3]) (q2 _)
  .obtain⟨d',rfl⟩:∃d',d=d'+1:=⟨d-1,by omega⟩;have hRel:∀m s',(match pp L (d'+1) (.postL a) p1 with|.out=>False|.bad q=>s'.2=some q/\s'.1<=L.length+(n+1)|.ok m' k=>m=m'/\s'=(k,none))->Rel L (n+1) .post s m s':=λm s' h=>by unfold Rel;rw[hs2];simp only;rw[hpp];exact h
   obtain⟨k,f,t,w,q,za,ks,haf,hen,hv,hb⟩:=ho a;have hXa:∀s'',H.set i (pst F.tp z L s'')++XX a=H.set i (pst F.tp z L s'')++[Ob.box F.tn [YI 0,YI 0,YI 0,YS [],YI 0,YL true 6 []],.box F.tn [YI k,YI f,YI t,YS w,YI q,YL za 6 (ks.map N.enc)]]:=λs''=>by rw[hXX,<-hb]
   rw[hXa];have hnext:∀(kk:Int)(s2:PSt)(w':Bs)(at':Int)(l:List N)(Y:Hp),l≠[]->Hp.cut (H.length+2) (H.set i (pst F.tp z L s2)++(Ob.box F.tn [YI 0,YI 0,YI 0,YS [],YI 0,YL true 6 []]::nob F.tn kk f (s2.1:Int) w' at' false (l.map N.enc) (H.length+2)::Y))=H.set i (pst F.tp z L s2)++XX (N.new kk a.f s2.1 w' at' l):=λkk s2 w' at' l Y hl=>by
    have hle:l.isEmpty=false:=by cases l with|nil=>exact absurd rfl hl|cons x r=>rfl
    rw[Qn5 O,hXX];simp[nob,abx,N.new,N.enc_mk,haf,hle]
   simp[f0,hi',f3];refine Qa (hF.tookA hi _ (by simp only;omega)) ?_;cases hjb:isT L p1 [46]with
   |true=>
    have l1:=Yi hjb;simp[hjb,f0];refine Qa (hF.wordA (j:=3) (q:=2) hi (by simp only;omega) rfl (by simp)) ?_;generalize h5:W7 L (p1+1,none)=s5;simp[nob,f0];refine Qa (hF.doneA (q:=2) hi (by simp)) ?_;simp[nag,f3];have hn5:=hnext 19 s5 (if kdT L (p1+1)=1 then txT L (p1+1)else[]) (if kdT L (p1+1)=1 then(p1:Int)+1 else 0) [a];simp only[Q2w,Q25,hen,nob]at hn5;by_cases c5:kdT L (p1+1)=1
    .have l5:p1+1<L.length:=Qc6 (by omega);simp[c5]at h5 hn5;subst h5;simp[c5];refine Qg (H.length+2) d' (Q14 _) (by simp) (by omega) ⟨_,_,by simp[f0,f2,f3,hil2],hn5 _,.inr ⟨p1+1+1,rfl,hs2,by omega,?_,by omega,by omega⟩⟩;rw[hpp];simp[pp,hjb,Yn,c5]
    .simp[c5]at h5 hn5;subst h5;simp[c5];refine Qg (H.length+2) 0 (Q14 _) (by simp) (by omega) ⟨_,_,by simp[f0,f2,f3,hil2],hn5 _,.inl ⟨rfl,by simp,λm=>hRel _ _ ?_⟩⟩;simp[pp,hjb,Yn,c5];omega
   |false=>
   simp[hjb,f0];refine Qa (hF.tookA hi _ (by simp only;omega)) ?_;cases hjc:isT L p1 [40]with
   |true=>
    have l1:=Yi hjc;simp[hjc,f0];refine Qf (hF.list' hL d' (by omega) (g:=.expr) (jn:=3) (jt:=2) (ks0:=[a]) (k:=20) (f:=f) (t:=0) (w:=[]) (a:=0) (zz:=false) hi hF.kExpr (by simp[A.lo];omega) rfl (by simp) (by simp[nob,hen]) rfl (λm hm ks s hps=>by simpa using hX m (by omega) H _ i s hi hps) (p1+1,none) ⟨by simp only[G.c];omega,by simp only[G.c];omega,λ_=>⟨l1,by simp only[G.c];omega⟩⟩) ?_;rintro _ _ ⟨kl,s2,rfl,rfl,r2,hkl⟩;simp[XL,nob,f0];refine Qa (hF.doneA (q:=2) hi (by simp)) ?_;simp[nag,f3];have hn5:=hnext 20 s2 [] 0 (a::kl);simp only[Q2w,nob]at hn5;rcases r2.none' with⟨q',b',hq,rfl,e3⟩|⟨j,hj,rfl⟩
    .refine Qg (H.length+2) 0 (Q14 _) (by simp) (by omega) ⟨_,_,by simp[f0,f2,f3,hil2],hn5 _ (by simp),.inl ⟨rfl,by simp,λm=>hRel _ _ ?_⟩⟩;simp[pp,hjb,hjc,hq,PR.then];omega
    .have:=Yg (L:=L) d' (.list .expr [41]) (p1+1);rw[hj]at this;obtain⟨v1,v2,v3⟩:=this;have v2:=v2 rfl;have v3:=v3 v2;refine Qg (H.length+2) d' (Q14 _) (by simp) (by omega) ⟨_,_,by simp[f0,f2,f3,hil2],hn5 _ (by simp),.inr ⟨j,rfl,hs2,by omega,?_,v3,by omega⟩⟩;rw[hpp];simp[pp,hjb,hjc,hj,PR.then,N.bag,N.new,N.ks]
   |false=>simp[hjc,f3,f2];rw[<-hb];refine hR1 _ a _ _ (by simp[f2]) (hRel _ _ ?_);simp[pp,hjb,hjc]
end
end
section
def Qv7(L:List Tk)(i:Nat):∃(a:Int)(l:Bs),Qe0 L i=.agg [YI (kdT L i),YI a,YS l,YS (txT L i)]:=by
 unfold Qe0 kdT txT;cases L[i]? with
 |none=>exact⟨_,_,rfl⟩
 |some t=>exact⟨_,_,rfl⟩
def Q1c{L:List Tk}{n p:Nat}{s3 s4 s5:PSt}{t3 t4 t5:N}(h3:¬kdT L p=3)(h4:¬kdT L p=4)(h1:¬kdT L p=1)(h5:isT L p [105,110,112,117,116]=false)(h6:isT L p [40]=false)(h7:isT L p [123]=false)(ch8:isT L p [102,110]=true)(hp2:p<=L.length)(hp3:16*(L.length-p)+1<=n+1)(l0:p<L.length)(r3:Rel L n .params (p+1,none) t3 s3)(r4:Rel L n .typed s3 t4 s4)(r5:Rel L n .block s4 t5 s5):Rel L (n+1) .atom (p,none) (N.new 28 p s5.1 [] 0 [t3,t4,t5]) s5:=by
 rcases r3.none' with⟨q,a,e,rfl,e3⟩|⟨k,e,rfl⟩
 .obtain⟨b,rfl,e4⟩:=r4.some';obtain⟨c,rfl,e5⟩:=r5.some';simp only[G.wt]at e4 e5;simp[Rel,pp,h3,h4,h1,Zf,kFn,Qv,h5,h6,h7,ch8,e,PR.then];omega
 rcases r4.none' with⟨q,a,e',rfl,e4⟩|⟨k',e',rfl⟩
 .obtain⟨c,rfl,e5⟩:=r5.some';simp only[G.wt]at e5;simp[Rel,pp,h3,h4,h1,Zf,kFn,Qv,h5,h6,h7,ch8,e,e',PR.then];omega
 rcases r5.none' with⟨q,a,e'',rfl,e5⟩|⟨k'',e'',rfl⟩
 .simp[Rel,pp,h3,h4,h1,Zf,kFn,Qv,h5,h6,h7,ch8,e,e',e'',PR.then];omega
 simp[Rel,pp,h3,h4,h1,Zf,kFn,Qv,h5,h6,h7,ch8,e,e',e'',PR.then]
section
variable{P:Program}{F:PF}{z:Bool}{L:List Tk}
def PHas.atom'(hF:PHas P F)(hL:L.length<=1048576)(n:Nat)(hn:n<=1099511627776)(hX:UC P F.tp z L n .expr F.expr)(hE:∀m,m<n->UCc P F.tp F.tb z L m .entry F.entry)(hP:UC P F.tp z L n .params F.params)(hT:UC P F.tp z L n .typed F.typed)(hB:UC P F.tp z L n .block F.block):UC P F.tp z L (n+1) .atom F.atom:=by
 refine Qes λH i s hi hp=>?_;refine Ye (Qe hF.atom (by simp[Qin]) λO _=>?_);have hp1:=hp.1;simp only[G.c]at hp1;simp[Qin];refine Qa (hF.nodeA hi _) ?_;simp[nag];refine Qa (hF.nowA hi) ?_;obtain⟨ta,tl,htk⟩:=Qv7 L s.1;rw[htk];have hi':=pget (tp:=F.tp) (z:=z) (L:=L) (H:=H) hi s;have hps:Ob.box F.tp [A.d (D.sl z 4 (L.map Qp)),A.d (D.int .i64 ((s.1:Int)+1)),A.d (D.int .i64 (if s.2.isSome=true then 24 else 0)),A.d (D.int .i64 ((s.2.getD 0:Nat):Int))]=pst F.tp z L (s.1+1,s.2):=by simp[pst]
 have hw:IntKind.i64.wrap ((s.1:Int)+1)=((s.1+1:Nat):Int):=by rw[wi64 (by omega)];omega
 simp;by_cases h3:kdT L s.1=3
 .simp[h3,hi',hw,up hi];rw[hps]
  repeat' apply And.intro
  all_goals
   refine Qa (hF.doneA (q:=3) hi (by simp)) ?_;simp[nag];simp[RetK,cutP O,nl];refine Wm [] (by simp) (by simp) ?_;obtain⟨p,st⟩:=s;cases st with
   |some q=>simp[Rel,G.wt]
   |none=>simp only at h3;simp[Rel,pp,h3]
 by_cases h4:kdT L s.1=4
 .simp[h3,h4,hi',hw,up hi];rw[hps]
  repeat' apply And.intro
  all_goals
   refine Qa (hF.doneA (q:=3) hi (by simp)) ?_;simp[nag];simp[RetK,cutP O,nl];refine Wm [] (by simp) (by simp) ?_;obtain⟨p,st⟩:=s;cases st with
   |some q=>simp[Rel,G.wt]
   |none=>simp only at h3 h4;simp[Rel,pp,h3,h4]
 by_cases h1:kdT L s.1=1
 .simp[h3,h4,h1];refine Qa (hF.wordA (j:=4) (q:=3) hi (by omega) rfl (by simp)) ?_;generalize h5:W7 L s=s5;simp[nob];refine Qa (hF.doneA (q:=3) hi (by simp)) ?_;simp[nag];simp[RetK,cutP O,nl];refine Wm [] (by simp) (by simp) ?_;subst h5;obtain⟨p,st⟩:=s;cases st with
  |some q=>simp[Rel,G.wt]
  |none=>simp only at h3 h4 h1;simp[Rel,pp,h3,h4,h1]
 simp[h3,h4,h1];refine Qa (hF.tookA hi _ (by omega)) ?_;cases h5:Yy L [105,110,112,117,116] s with
 |true=>obtain⟨p,rfl,ch5⟩:=Vq h5;have l0:=Yi ch5;obtain⟨hp2,hp3⟩:=hp.2.2 rfl;simp only[G.c]at hp2 hp3;simp only at h3 h4 h1;simp[ch5];refine Qa (hF.doneA (q:=3) hi (by simp)) ?_;simp[nag];simp[RetK,cutP O,nl];refine Wm [] (by simp) (by simp) ?_;simp[Rel,pp,h3,h4,h1,Zf,ch5]
 |false=>
 rw[Vp h5];simp;refine Qa (hF.tookA hi _ (by omega)) ?_;cases h6:Yy L [40] s with
 |true=>
  obtain⟨p,rfl,ch6⟩:=Vq h6;have l0:=Yi ch6;obtain⟨hp2,hp3⟩:=hp.2.2 rfl;simp only[G.c]at hp2 hp3;simp only at h3 h4 h1;simp at h5;simp[ch6];refine Qf (hX H _ i (p+1,none) hi ⟨by simp only[G.c];omega,by simp only[G.c];omega,λ_=>⟨l0,by simp only[G.c];omega⟩⟩) ?_;rintro _ _ ⟨x,s7,rfl,rfl,r7⟩;have b7:=r7.le;simp[-Yf];refine Qa (hF.putA (j:=4) (q:=3) (rows:=[]) rfl rfl (by simp)) ?_;simp[nob];refine Qa (hF.wantA hi _ (by simp only at b7;omega)) ?_;generalize h8:Qr L _ s7=s8;simp;refine Qa (hF.doneA (q:=3) hi (by simp)) ?_;simp[nag];simp[RetK,cutP O,nl];refine Wm [x] (by simp) (by simp) ?_;subst h8;rcases r7.none' with⟨q',b',hq,rfl,e3⟩|⟨j,hj,rfl⟩
  .simp[Rel,pp,h3,h4,h1,Zf,h5,ch6,hq,PR.then];omega
  .have:=Yg (L:=L) n .expr (p+1);rw[hj]at this;obtain⟨v1,v2,v3⟩:=this;have v3:=v3 (v2 rfl);by_cases c8:isT L j [41]=true
   .simp[Rel,pp,h3,h4,h1,Zf,h5,ch6,hj,PR.then,Qv,c8]
   .simp[Rel,pp,h3,h4,h1,Zf,h5,ch6,hj,PR.then,Qv,c8];omega
 |false=>
 rw[Vp h6];simp;refine Qa (hF.tookA hi _ (by omega)) ?_;cases h7:Yy L [123] s with
 |true=>
  obtain⟨p,rfl,ch7⟩:=Vq h7;have l0:=Yi ch7;obtain⟨hp2,hp3⟩:=hp.2.2 rfl;simp only[G.c]at hp2 hp3;simp only at h3 h4 h1;simp at h5 h6;simp[ch7];refine Qf (hF.list' hL n hn (g:=.entry) (jn:=4) (jt:=3) (ks0:=[]) hi hF.kEntry (by simp[A.lo]) rfl (by simp) rfl rfl (λm hm ks s hps=>hE m hm H _ i 0 s hi (by simp[XL]) hps) (p+1,none) ⟨by simp only[G.c];omega,by simp only[G.c];omega,λ_=>⟨l0,by simp only[G.c];omega⟩⟩) ?_;rintro _ _ ⟨ks,s2,rfl,rfl,r2,hkl⟩;simp[XL,nob];refine Qa (hF.doneA (q:=3) hi (by simp)) ?_;simp[nag];simp[RetK,cutP O,nl];refine Wm ks (by simp) (by simp) ?_;rcases r2.none' with⟨q,a,e',rfl,e4⟩|⟨k',e',rfl⟩
  .simp[Rel,pp,h3,h4,h1,Zf,h5,h6,ch7,e',PR.then];omega
  .simp[Rel,pp,h3,h4,h1,Zf,h5,h6,ch7,e',PR.then,N.bag,N.new,N.ks]
 |false=>
 rw[Vp h7];simp;refine Qa (hF.tookA hi _ (by omega)) ?_;cases h8:Yy L [102,110] s with
 |true=>
  obtain⟨p,rfl,ch8⟩:=Vq h8;have l0:=Yi ch8;obtain⟨hp2,hp3⟩:=hp.2.2 rfl;simp only[G.c]at hp2 hp3;simp only at h3 h4 h1;simp at h5 h6 h7;simp[ch8]
  repeat' apply And.intro
  all_goals
   refine Qf (hP H _ i (p+1,none) hi ⟨by simp only[G.c];omega,by simp only[G.c];omega,λ_=>⟨l0,by simp only[G.c];omega⟩⟩) ?_;rintro _ _ ⟨t3,s3,rfl,rfl,r3⟩;have m3:=r3.mo;have b3:=r3.wt0 rfl;simp only at b3;simp[-Yf]
   repeat' apply And.intro
  all_goals
   refine Qf (hT H _ i s3 hi ⟨by simp only[G.c];omega,by simp only[G.c];omega,λe=>⟨(m3 e).2.2 l0,by have:=(m3 e).2.1;simp only[G.c]at this⊢;omega⟩⟩) ?_;rintro _ _ ⟨t4,s4,rfl,rfl,r4⟩;have m4:=m3.trans r4.mo;have b4:=r4.wt0 rfl;simp[-Yf]
   repeat' apply And.intro
  all_goals
   refine Qf (hB H _ i s4 hi ⟨by simp only[G.c];omega,by simp only[G.c];omega,λe=>⟨(m4 e).2.2 l0,by have:=(m4 e).2.1;simp only[G.c]at this⊢;omega⟩⟩) ?_;rintro _ _ ⟨t5,s5,rfl,rfl,r5⟩;simp[-Yf];refine Qa (hF.putA (j:=4) (q:=3) (rows:=[]) rfl rfl (by simp)) ?_;simp[nob];refine Qa (hF.doneA (q:=3) hi (by simp)) ?_;simp[nag];simp[RetK,cutP O,nl];refine Wm [t3,t4,t5] (by simp) (by simp) ?_;clear m3 m4 b3 b4;exact Q1c h3 h4 h1 h5 h6 h7 ch8 hp2 hp3 l0 r3 r4 r5
 |false=>
 rw[Vp h8];simp;refine Qa (hF.failA hi) ?_;simp;refine Qa (hF.doneA (q:=3) hi (by simp)) ?_;simp[nag];simp[RetK,cutP O,nl];refine Wm [] (by simp) (by simp) ?_;obtain⟨p,st⟩:=s;cases st with
 |some q=>simp[Rel,G.wt]
 |none=>simp at h3 h4 h1 h5 h6 h7 h8;obtain⟨hp2,hp3⟩:=hp.2.2 rfl;simp only[G.c]at hp2 hp3;simp[Rel,pp,Zf,kFn,Qv,h3,h4,h1,h5,h6,h7,h8];omega
end
end
end Go.Zam
