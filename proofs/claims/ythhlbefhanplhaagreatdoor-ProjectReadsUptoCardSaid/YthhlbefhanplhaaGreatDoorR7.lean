/-
  Texts of one proof, one behind the other.
-/
import Derived.Test.YthhlbefhanplhaaGreatDoorR6
import Derived.Test.YthhlbefhanplhaaGreatDoorR5
import Derived.Test.YthhlbefhanplhaaGreatDoorR3
import Derived.RangeFuncNested
import Derived.RangeFuncBox
import Derived.RangeFuncLeaves
import Derived.Shelf.Abstract
import Derived.WalkKit
import Derived.OwnWalkIn
import Derived.TacticsInMore
import Derived.LoopNIn
import Derived.LoopIn
import Derived.Test.YthhlbefhanplhaaGreatDoorProg
import Derived.BigCall
import Derived.BigGuard
import Derived.Laws.Closers25
import Derived.Laws.Closers25b
import Derived.Laws.Strings3
import Derived.Lib.AtoiErrMem
import Derived.Lib.ConvBytes
import Derived.Lib.Hide
import Derived.Lib.ParseIntBMem
import Derived.Lib.Strings
import Derived.Lib.Walk
import Derived.Shelf.Pu.Lays
import Derived.Shelf.Pu.Lower
import Derived.Shelf.Pu.ParseUint10
import Derived.Shelf.Pu.ParseUint10At
import Derived.Shelf.Pu.ParseUint10b16
import Derived.Shelf.Pu.ParseUint10b32
import Derived.Shelf.Pu.ParseUint10b64
import Derived.Shelf.Pu.ParseUint10b8
import Derived.Shelf.Pu.ParseUintEmpty
import Derived.Shelf.Pu.ToError
import Derived.Shelf.Pu.ToErrorRange
import Derived.Test.YthhlbefhanplhaaGreatDoorR4
import Derived.KernelRfl
import Derived.Test.YthhlbefhanplhaaGreatDoorR2
set_option linter.all false
set_option maxRecDepth 100000
set_option maxHeartbeats 4000000
namespace Go.Zam
variable{P:Program}
section
open Go.Proofs
def Qcw:Bs:=[109,97,105,110]
def noU:Un:=⟨[],[],[],N.none,⟨[],[],[]⟩,0,0⟩
theorem Qvm:noU.enc=zU:=rfl
theorem Qkg{w:Bs}:∀ {l:List SBd} {i p:Int},itU w l i p=p∨∃(j:Nat)(b:SBd),itU w l i p=i+j∧l[j]?=some b∧b.k=2∧b.w=w
 | [],i,p => .inl rfl
 | b :: r, i, p => by
   unfold itU;split
   · rename_i e;rcases Qkg (w:=w) (l:=r) (i:=i+1) (p:=i) with h|⟨j,c,h1,h2,h3⟩
     · exact .inr ⟨0,b,by simp[h],rfl,e⟩
     · exact .inr ⟨j+1,c,by omega,by simpa using h2,h3⟩
   · rcases Qkg (w:=w) (l:=r) (i:=i+1) (p:=p) with h|⟨j,c,h1,h2,h3⟩
     · exact .inl h
     · exact .inr ⟨j+1,c,by omega,by simpa using h2,h3⟩
def entU(S:List Un):Bool:=match Qa2 S Qcw with
 | none=>false
 | some u => if itU Qcw u.sm.bs 0 (-1) < 0 then false else match u.sm.bs[(itU Qcw u.sm.bs 0 (-1)).toNat]? with
   | some b=>(modN u b).ks.isEmpty
   | none=>false
theorem GdU.fst{u:Un}(h:GdU u){b:SBd}(hb:b ∈ u.sm.bs)(hk:b.k=2):∃(i:Nat)(x:N)(r:List N),b.i=i∧u.tr.ks[i]?=some x∧x.ks=modN u b::r:=by
 obtain⟨i,x,p,r,h1,h2,h3⟩:=h.df b hb hk;have:modN u b=p:=by
  unfold modN;rw[h1,Q0j,h2];simp[h3]
 rw[this];exact⟨i,x,r,h1,h2,h3⟩
theorem Qrv{S:List Un}{s:Bs}{v:Un}(hv:Qa2 S s=some v):v ∈ S:=by
 unfold Qa2 at hv;split at hv
 · rename_i v' hv';split at hv
   · cases hv;exact Qyu hv'
   · cases hv
 · cases hv
theorem Has.pjEntry{f unit item tU tN:Nat}{S:List Un}(h:Has P f (Qfh unit item tU tN))(hu:Qm9 P S unit)(hi:Qne P item)(hg:∀ u ∈ S,GdU u)(hl:∀ u ∈ S,u.sm.bs.length≤1099511627776)(H:Hp) :
 Qc P f [pA S] H (fun r H'=>r=YB (entU S)∧H'=H):=by
 refine Qf h (by simp[Qfh]) fun hcl _ => ?_;have hun:=hu Qcw H;unfold entU;cases hv:Qa2 S Qcw with
 | none =>
   rw[hv]at hun;have hit:=fun X=>hi noU Qcw (by decide) (H++X);rw[Qvm]at hit;have e1:itU Qcw noU.sm.bs 0 (-1) = -1:=rfl;rw[e1]at hit;simp only[Option.elim_none,Option.isSome_none,zU,Qcw,Qyy,Qzi]at hun hit;simp[Qfh];refine Qa hun ?_;simp;refine Qa (hit _) ?_;simp;simp[RetK,Qg hcl]
 | some u =>
   rw[hv]at hun;have hm:=Qrv hv;have hit:=fun X=>hi u Qcw (hl u hm) (H++X);obtain⟨zu,ms,he⟩:=u.enc_all;simp only[Option.elim_some,Q10]at hun;rw[he]at hun hit;simp only[Qyy,Qzi]at hun hit;have hms:Qcw=[109,97,105,110]:=rfl;simp[Qfh,← hms];refine Qa hun ?_;simp;refine Qa (hit _) ?_;rcases Qkg (w:=Qcw) (l:=u.sm.bs) (i:=0) (p := -1) with h|⟨j,b,h1,h2,h3,h4⟩
   · simp[h];simp[RetK,Qg hcl];exact fun h'=>absurd h' (by omega)
   · have hjl:j<u.sm.bs.length:=(Qx3.1 h2).1;rw[Q1u]at h1;rw[h1];obtain⟨i,x,r,g1,g2,g3⟩:=(hg u hm).fst (Qyu h2) h3;have hj0:¬ ((j:Int)<0):=by omega
     have hrb:Zam.rowAt (u.sm.bs.map Wk) (j:Int)=some [.int .i64 b.a,.int .i64 b.k,.str b.w,.int .i64 b.i]:=by simp[Zam.rowAt,h2,Wk]
     have hr:Zam.rowAt (u.tr.ks.map N.enc) (i:Int)=some x.enc:=by simp[Zam.rowAt,g2]
     have hr0:∀(r:List D)(l:List (List D)),Zam.rowAt (r::l) 0=some r:=fun _ _=>rfl;obtain⟨zx,hx⟩:=x.enc_all;obtain⟨zm,hmm⟩:=(modN u b).enc_all;rw[g3]at hx;simp[hj0,h2,hrb,g1,hr,hr0,hx,hmm];have hd:decide ((modN u b).ks=[])=(modN u b).ks.isEmpty:=by cases (modN u b).ks<;>simp
     simp only[RetK,Qg hcl,hd,h2,hj0,decide_false,Bool.not_false,Q14];simp
end
section
open Go.Proofs
def dg1(S:List Un)(u:Un):List Dg:=if u.bad=0 then (u.sm.bad.map fun x=>⟨u.n,spU u x.1,x.2⟩)++Qbg S u u.sm.bs else [⟨u.n,u.pos,u.bad⟩]
def dgsU(S:List Un):List Dg:=S.flatMap (dg1 S)++if entU S then [] else [⟨Qcw,0,34⟩]
def Qey(S:List Un):List Dg:=ssort cD (dgsU S)
def Qlc(u:Un):Prop:=u.sm.bad.length≤1073741824∧u.sm.bs.length≤1073741824∧u.tk.length≤1073741824∧u.tr.ks.length≤1073741824
theorem Qrc{S:List Un}{u:Un}(h:Qlc u):(dg1 S u).length≤2147483648:=by
 obtain⟨h1,h2,-,-⟩:=h;have:=Qfl S u u.sm.bs;unfold dg1;split
 · simp;omega
 · simp
theorem Qkx{S T:List Un}(h:∀ u ∈ S,Qlc u):(S.flatMap (dg1 T)).length≤S.length*2147483648:=by
 induction S with
 | nil=>simp
 | cons u S ih =>
   have h1:=Qrc (S:=T) (h u (by simp));have h2:=ih fun v hv=>h v (by simp[hv]);simp only[Q0u,Qyw,Qyi];omega
theorem Qsj{S T:List Un}{j:Nat}{u:Un}(h:S[j]?=some u):(S.take (j+1)).flatMap (dg1 T)=(S.take j).flatMap (dg1 T)++dg1 T u:=by
 rw[Q1d,h];simp
theorem Qhq{H X:Hp}{R:List (List D)}{n b sz e:Nat}(new:List (List D))(hn:R.length=n)(hb:(n+new.length)*b≤140737488355328) :
 appA (H++(.tok n sz e::X)) sz b e new (.osl true sz R H.length)=some (.osl true sz (R++new) H.length,H++(.tok (n+new.length) sz e::X)):=by
 subst hn;rw[Qk9 (H:=H++(.tok R.length sz e::X)) (t:=H.length) (by simp) hb];simp
def Qu2(P:Program)(S:List Un)(f:Nat):Prop:=∀ u ∈ S,∀ H,Qc P f [pA S,.agg (u.enc.map .d)] H (fun r H'=>r=YL true 3 ((Qbg S u u.sm.bs).map Yi)∧H'=H)
def Qrq(P:Program)(S:List Un)(f:Nat):Prop:=∀ H,Qc P f [pA S] H (fun r H'=>r=YB (entU S)∧H'=H)
def Qrj(P:Program)(f:Nat):Prop:=∀(H:Hp)(z:Bool)(l:List Dg),l.length≤1099511627776→Qc P f [YL z 3 (l.map Yi)] H (fun r H'=>r=YL (z&&l.isEmpty) 3 ((ssort cD l).map Yi)∧H'=H)
theorem HasT.pjDiags{f spot imps entry sort tU tB tD:Nat}{S:List Un}(h:HasT P [3] f (Qbq spot imps entry sort tU tB tD))(hs:Qqo P spot)(hi:Qu2 P S imps)(he:Qrq P S entry)(hso:Qrj P sort)(hS:S.length≤8)(hsm:∀ u ∈ S,Qlc u)(H:Hp) :
 Qc P f [pA S] H (fun r H'=>r=YL (dgsU S).isEmpty 3 ((Qey S).map Yi)∧H'=H):=by
 refine Qf h (by simp[Qbq]) fun hcl _ => ?_;simp[Qbq,pA];refine Q8 0 (fun fr H'=>fr 0=.eptr [.sl S.isEmpty 14 (S.map Un.enc)]∧fr 3=.osl true 3 ((S.flatMap (dg1 S)).map Yi) H.length∧H'=H++[.tok (S.flatMap (dg1 S)).length 3 tD]) ?_ ?_
 · refine Yf (H.length+1) S.length (fun j fr H'=>fr 0=.eptr [.sl S.isEmpty 14 (S.map Un.enc)]∧fr 13=YL S.isEmpty 14 (S.map Un.enc)∧fr 3=.osl true 3 (((S.take j).flatMap (dg1 S)).map Yi) H.length ∧
    H'=H++[.tok ((S.take j).flatMap (dg1 S)).length 3 tD]) (by omega) (by decide) (by simp) (by simp) ?_ ?_ ?_
   · simp[Qp hcl]
   · rintro j fr H' hj fi fn ⟨f0,f13,f3,rfl⟩;obtain⟨u,hu⟩:∃ u,S[j]?=some u:=⟨_,Qx4 hj⟩;have hum:=Qyu hu;have hsu:=hsm u hum;have hd1:=Qrc (S:=S) hsu;obtain⟨q1,q2,q3,q4⟩:=hsu;have hrow:Zam.rowAt (S.map Un.enc) (j:Int)=some u.enc:=by simp[Zam.rowAt,hu]
     have htk:=Qsj (T:=S) hu;have hlen:=Qkx (T:=S) (S:=S.take j) fun v hv=>hsm v (Q03 hv);have hlj:(S.take j).length=j:=by simp;omega
     rw[hlj]at hlen;have hlen8:j*2147483648≤8*2147483648:=Qyx _ (by omega);generalize (S.take j).flatMap (dg1 S)=R at *;obtain⟨zu,ms,hue⟩:=u.enc_all;have himp:=fun X=>hi u hum (H++X);have hsp:=fun a X=>hs u a (by omega) (H++X);rw[hue]at hrow himp hsp;simp only[Qyy,Qzi,pA]at himp hsp;have hil:=Qfl S u u.sm.bs;by_cases hb:u.bad=0
     · have h1:dg1 S u=(u.sm.bad.map fun x=>⟨u.n,spU u x.1,x.2⟩)++Qbg S u u.sm.bs:=by rw[dg1,if_pos hb]
       rw[h1]at htk;obtain⟨mk_,hmk⟩:∃ g:Int×Int→Dg,g=fun x=>⟨u.n,spU u x.1,x.2⟩:=⟨_,rfl⟩;rw[← hmk]at htk;rw[hb]at himp hsp;simp[fi,f13,hrow,hb];generalize hbx:Ob.box tU [A.d (.str u.n),A.d (.str u.t),A.d (.sl true 4 (u.tk.map Qx)),A.d (.int .i64 u.tr.k),A.d (.int .i64 u.tr.f),A.d (.int .i64 u.tr.t),A.d (.str u.tr.w),A.d (.int .i64 u.tr.at_),A.d (.sl zu 6 (u.tr.ks.map N.enc)),A.d (.sl u.sm.bs.isEmpty 4 (u.sm.bs.map Wk)),A.d ms,A.d (.sl u.sm.bad.isEmpty 2 (u.sm.bad.map Q2)),A.d (.int .i64 0),A.d (.int .i64 u.pos)]=bx;refine Q8 2 (fun fr H2=>fr 0=.eptr [.sl S.isEmpty 14 (S.map Un.enc)]∧fr 13=YL S.isEmpty 14 (S.map Un.enc)∧fr 5=.ptr (H.length+1) 0∧fr 15=YI j∧fr 14=YI S.length∧fr 3=.osl true 3 ((R++u.sm.bad.map mk_).map Yi) H.length ∧
        H2=H++[.tok (R++u.sm.bad.map mk_).length 3 tD,bx]) ?_ ?_
       · refine Yf (H.length+2) u.sm.bad.length (fun q fr H2=>fr 0=.eptr [.sl S.isEmpty 14 (S.map Un.enc)]∧fr 13=YL S.isEmpty 14 (S.map Un.enc)∧fr 5=.ptr (H.length+1) 0∧fr 15=YI j∧fr 14=YI S.length∧fr 35=YL u.sm.bad.isEmpty 2 (u.sm.bad.map Q2) ∧
          fr 3=.osl true 3 ((R++(u.sm.bad.take q).map mk_).map Yi) H.length∧H2=H++[.tok (R++(u.sm.bad.take q).map mk_).length 3 tD,bx]) (by omega) (by decide) (by simp) (by simp[← hbx]) ?_ ?_ ?_
         · simp[f0,f3,f13,fi,fn,Qp hcl,← hbx]
         · rintro q fr H2 hq gi gn ⟨f0,f13,f5,f15,f14,f35,f3,rfl⟩;obtain⟨x,hx⟩:∃ x,u.sm.bad[q]?=some x:=⟨_,Qx4 hq⟩;have hrx:Zam.rowAt (u.sm.bad.map Q2) (q:Int)=some [.int .i64 x.1,.int .i64 x.2]:=by simp[Zam.rowAt,hx,Q2]
           have htq:(u.sm.bad.take (q+1)).map mk_=(u.sm.bad.take q).map mk_++[mk_ x]:=by rw[Q1d,hx];simp
           have hlq:(u.sm.bad.take q).length≤1073741824:=by simp;omega
           have hmx:mk_ x=⟨u.n,spU u x.1,x.2⟩:=by rw[hmk]
           have hspx:=hsp x.1;have htq':R++(u.sm.bad.take (q+1)).map mk_=R++(u.sm.bad.take q).map mk_++[mk_ x]:=by rw[htq,← Qyr]
           generalize hRR:R++(u.sm.bad.take q).map mk_=R2 at *;have hl2:R2.length≤8*2147483648+1073741824:=by rw[← hRR];simp;omega
           have happ:=fun X=>Qhq (H:=H) (X:=X) (R:=R2.map Yi) (n:=R2.length) (b:=32) (sz:=3) (e:=tD) [[.str u.n,.int .i64 (spU u x.1),.int .i64 x.2]] (by simp) (by simp;omega);simp only[Qy7]at happ;simp[gi,f35,hrx,f5,← hbx,hb,f3];refine Yg (hspx _) ?_;simp[happ];refine W8 (H.length+2) (Qx6 _) (by simp[gi,gn]) ?_;rw[htq',hmx];simp[f0,f13,f5,f15,f14,f35,Qp hcl,← hbx,Yi]
         · rintro fr H2 gi gn ⟨f0,f13,f5,f15,f14,f35,f3,rfl⟩;rw[Q1o]at f3 ⊢;simp[f0,f13,f5,f15,f14,f3]
       · rintro fr H2 ⟨f0,f13,f5,f15,f14,f3,rfl⟩;have happ:=fun X=>Qhq (H:=H) (X:=X) (R:=(R++u.sm.bad.map mk_).map Yi) (n:=(R++u.sm.bad.map mk_).length) (b:=32) (sz:=3) (e:=tD) ((Qbg S u u.sm.bs).map Yi) (by simp) (by simp;omega);rw[← Qyr]at htk;generalize R++u.sm.bad.map mk_=R2 at *;simp[f0,f5,f3,← hbx];refine Qa (himp _) ?_;simp[happ];refine W8 (H.length+1) (Qx6 _) (by simp[f14,f15]) ?_;simp[f0,f13,Qp hcl,htk]
     · have h1:dg1 S u=[⟨u.n,u.pos,u.bad⟩]:=by rw[dg1,if_neg hb]
       rw[h1]at htk;have happ:=fun X=>Qhq (H:=H) (X:=X) (R:=R.map Yi) (n:=R.length) (b:=32) (sz:=3) (e:=tD) [[.str u.n,.int .i64 u.pos,.int .i64 u.bad]] (by simp) (by simp;omega);simp only[Qy7]at happ;simp[fi,f13,hrow,hb,f3,happ];refine W8 (H.length+1) (Qx6 _) (by simp[fi,fn]) ?_;simp[f0,f13,Qp hcl,htk,Yi]
   · rintro fr H' fi fn ⟨f0,f13,f3,rfl⟩;rw[Q1o]at f3 ⊢;simp[f0,f3]
 · rintro fr H' ⟨f0,f3,rfl⟩;have hlen:=Qkx (T:=S) (S:=S) hsm;have hlen8:S.length*2147483648≤8*2147483648:=Qyx _ (by omega);have hen:=fun X=>he (H++X);simp only[pA]at hen;obtain⟨D,hD⟩:∃ D,D=dgsU S:=⟨_,rfl⟩;have hDl:D.length≤1099511627776:=by
    rw[hD];unfold dgsU;rw[Qyw];split<;>simp only[Qy3,Qy7]<;>omega
   have hss:=fun X=>hso (H++X) true D hDl;rw[Q14]at hss;unfold Qey;have hd1:entU S=true→D=S.flatMap (dg1 S):=fun h=>by rw[hD,dgsU,h];simp
   have hd2:entU S=false→D=S.flatMap (dg1 S)++[⟨Qcw,0,34⟩]:=fun h=>by rw[hD,dgsU,h];simp
   rw[← hD];generalize S.flatMap (dg1 S)=R at *;simp[f0];refine Qa (hen _) ?_;cases hE:entU S with
   | true =>
     obtain rfl:=hd1 hE;simp[f3];refine Qa (Qc.osl1 (hss _)) ?_;simp;simp[RetK,Qg hcl]
   | false =>
     have hd:=hd2 hE;have happ:=fun X=>Qhq (H:=H) (X:=X) (R:=R.map Yi) (n:=R.length) (b:=32) (sz:=3) (e:=tD) [[.str [109,97,105,110],.int .i64 0,.int .i64 34]] (by simp) (by simp;omega);simp only[Qy7]at happ;simp[f3,happ];have hm:R.map Yi++[[.str [109,97,105,110],.int .i64 0,.int .i64 34]]=D.map Yi:=by rw[hd,Qz7];rfl
     rw[hm];refine Qa (Qc.osl1 (hss _)) ?_;simp;simp[RetK,Qg hcl]
end
section
open Go.Proofs
end
section
open Go.Proofs
end
section
open Go.Proofs
section
variable{S:List Un}(hS:Sorted cU S)
include hS
theorem Qr2(i j:Nat)(u v:Un)(s:Bs)(hij:i≤j)(hu:S[i]?=some u)(hv:S[j]?=some v)(h:Wo v.n s<0):Wo u.n s<0:=by
 have h2:cU u v≤0:=Yv Qe1 hS hu hv hij;exact Qgb.le_lt h2 h
end
end
section
open Go.Proofs
theorem Qpl(n:N):(Zx n).sz≤4*n.size:=by
 obtain⟨k,f,t,w,a,z,ks⟩:=n;have hall:allP (.mk k f t w a z ks)=Zh (Wv 0 ks [] ⟨[],[],[]⟩).1 0 ks (Wv 0 ks [] ⟨[],[],[]⟩).2:=rfl;have h1:=(Qbk ks 0 [] ⟨[],[],[]⟩ (FOk.nil _)).sz;have h2:=(Qda (Wv 0 ks [] ⟨[],[],[]⟩).1 ks 0 (Wv 0 ks [] ⟨[],[],[]⟩).2).2;have h3:SM.sz ⟨[],[],[]⟩=0:=rfl;have hsl:=N.sizes_len ks;rw[N.size_mk];have:(Zx (.mk k f t w a z ks)).sz=(allP (.mk k f t w a z ks)).sz:=by
  unfold Zx SM.sz;simp only[Wr Zs]
 rw[this,hall];omega
theorem Qnr(m:Mod):Qlc (W6 m):=by
 have hz:=Qca m.t;have hks:(W6 m).tr.ks.length≤16001:=by
  show (Q0 m.t).2.1.ks.length≤16001;have h1:=N.sizes_len (Q0 m.t).2.1.ks;have h2:=N.size_ks (Q0 m.t).2.1;omega
 by_cases h0:(Q0 m.t).2.2.1=0
 · obtain⟨n,j,h1,h2,h3,h4,h5,hI,hj,h6⟩:=Qil h0;have hsm:(W6 m).sm=Zx n:=by
    show (if _ then _ else _)=_;rw[if_pos h0,h2]
   have htk:(W6 m).tk=(lexS m.t).1:=h1;have hs:=Qpl n;rw[h2]at hz;unfold SM.sz at hs;have h4000:(lexS m.t).1.length≤4000:=((Qq4 m.t).2 h5).2;refine⟨by rw[hsm];omega,by rw[hsm];omega,by rw[htk];omega,by omega⟩
 · have hsm:(W6 m).sm=⟨[],[],[]⟩:=by
    show (if _ then _ else _)=_;rw[if_neg h0]
   have htk:(W6 m).tk=[]:=by
    show (Q0 m.t).1=[];unfold Q0 at h0 ⊢;split
    · rfl
    · rename_i g1;split
      · rfl
      · rename_i g2;rw[if_neg g1,if_neg g2]at h0;exact absurd rfl h0
   refine⟨by rw[hsm];simp,by rw[hsm];simp,by rw[htk];simp,by omega⟩
structure PrjOk(S:List Un):Prop where
 so:Sorted cU S
 len:S.length≤8
 gd:∀ u ∈ S,GdU u
 sm:∀ u ∈ S,Qlc u
theorem Qt4(l:List Mod):PrjOk (ofU (l.map W6)).1:=by
 unfold ofU;split
 · exact⟨List.Pairwise.nil,by simp,by simp,by simp⟩
 · rename_i h8;split
   · obtain⟨h1,h2⟩:=Wn Qe1 (l.map W6);have hl:=Wr Qe1 (l.map W6);have hl8:(ssort cU (l.map W6)).length≤8:=by omega
     refine⟨h1,hl8,fun u hu => ?_,fun u hu => ?_⟩
     · have:=(h2.mem Qe1).2 hu;obtain⟨m,-,rfl⟩:=Qzx.1 this;exact Qtw m
     · have:=(h2.mem Qe1).2 hu;obtain⟨m,-,rfl⟩:=Qzx.1 this;exact Qnr m
   · exact⟨List.Pairwise.nil,by simp,by simp,by simp⟩
end
section
open Go.Proofs
section
variable{P:Program}{H0:Hp}
def Qqq(P:Program)(H0:Hp)(f:Nat):Prop:=∀(l:List Mod)(z:Bool),(∀ m ∈ l,m.t.length≤1048576)→∀ H,Pre0 H0 H→Qc P f [YL z 2 (l.map encM)] H (fun r H'=>r=ofA (l.map W6)∧H'=H)
def Qrh(P:Program)(f:Nat):Prop:=∀ S,PrjOk S→Qm9 P S f
def Qnf(P:Program)(f:Nat):Prop:=∀ S,PrjOk S→∀ H,Qc P f [pA S] H (fun r H'=>r=YL (dgsU S).isEmpty 3 ((Qey S).map Yi)∧H'=H)
def Qu6(P:Program)(H0:Hp)(f:Nat):Prop:=∀ H,Pre0 H0 H→Qc P f [] H (fun r H'=>r=YB true∧H'=H)
def exM:Mod:=⟨[109,97,105,110],[100,101,102,32,109,97,105,110,40,41,32,123,125]⟩
def exU:Un:=W6 exM
theorem Qxo:chkU none [exU]=0:=by kernel_rfl
theorem Qwh:ofU ([exM].map W6)=([exU],0):=by
 have h1:ssort cU [exU]=[exU]:=rfl;have h2:[exM].map W6=[exU]:=rfl;unfold ofU;rw[h2,if_neg (by decide),h1,Qxo];rfl
theorem Qxn:(dgsU [exU]).isEmpty=true:=by kernel_rfl
theorem Qvu:exU.tr.k=1:=by kernel_rfl
theorem Qum:PrjOk [exU]:=by
 have:=Qt4 [exM];rw[Qwh]at this;exact this
theorem Qvt:Qa2 [exU] [109,97,105,110]=some exU:=rfl
theorem Has.pjAwake{f load unit diags tU:Nat}(h:Has P f (Qh9 load unit diags tU))(hl:Qqq P H0 load)(hu:Qrh P unit)(hd:Qnf P diags):Qu6 P H0 f:=by
 intro H hH;refine Qf h (by simp[Qh9]) fun hcl _ => ?_;have g1:=hl [exM] false (by intro m hm;simp at hm;subst hm;decide) H hH;have ho:ofA ([exM].map W6)=.tup [pA [exU],YI 0]:=by unfold ofA;rw[Qwh];rfl
 rw[ho]at g1;have g2:=hu [exU] Qum [109,97,105,110];rw[Qvt]at g2;have g3:=fun X=>hd [exU] Qum (H++X);have he:dgsU [exU]=[]:=by simpa using Qxn
 have hds:Qey [exU]=[]:=by unfold Qey;rw[he];rfl
 rw[he,hds]at g3;have hk:=Qvu;obtain⟨zu,ms,hue⟩:=exU.enc_all;generalize exU=u at *;simp only[Option.elim_some,Q10]at g2;rw[hue,hk]at g2;simp only[Qyy,Qzi,encM,exM,pA]at g1 g2 g3;simp[Qh9];refine Qa g1 ?_;simp;refine Qa (g2 _) ?_;simp;refine Qa (g3 _) ?_;simp;simp[RetK,Qg hcl]
end
end
section
open Go.Proofs
end
section
open Go.Proofs
theorem Un.both(u:Un):∃ z ms1 ms2,
 u.enc=[.str u.n,.str u.t,.sl true 4 (u.tk.map Qx),.int .i64 u.tr.k,.int .i64 u.tr.f,.int .i64 u.tr.t,.str u.tr.w,.int .i64 u.tr.at_,.sl z 6 (u.tr.ks.map N.enc),.sl u.sm.bs.isEmpty 4 (u.sm.bs.map Wk),ms1,.sl u.sm.bad.isEmpty 2 (u.sm.bad.map Q2),.int .i64 u.bad,.int .i64 u.pos] ∧
 u.encR=[.str u.n,.str u.t,.sl true 4 (u.tk.map Qx),.int .i64 u.tr.k,.int .i64 u.tr.f,.int .i64 u.tr.t,.str u.tr.w,.int .i64 u.tr.at_,.sl z 6 (u.tr.ks.map N.enc),.sl true 4 (u.sm.bs.map Wk),ms2,.sl true 2 (u.sm.bad.map Q2),.int .i64 u.bad,.int .i64 u.pos] ∧
 u.tr.v=.agg [YI u.tr.k,YI u.tr.f,YI u.tr.t,YS u.tr.w,YI u.tr.at_,YL z 6 (u.tr.ks.map N.enc)]:=by
 obtain⟨n,t,tk,⟨k,f,to,w,a,z,ks⟩,sm,b,p⟩:=u;refine⟨z,.sl sm.ms.isEmpty 4 (sm.ms.map Y3),.sl true 4 (sm.ms.map Y3),?_,?_,?_⟩
 · simp[Un.enc,N.enc_mk,SM.enc,N.k,N.f,N.t,N.w,N.at_,N.ks]
 · simp[Un.encR,N.enc_mk,SM.encR,N.k,N.f,N.t,N.w,N.at_,N.ks]
 · rw[N.v_mk];rfl
section
variable{P:Program}{H0:Hp}
def Qro(P:Program)(f:Nat):Prop:=∀(l:List Mod)(z:Bool)(most:Int),0≤most∧most≤1048576→l.length≤1048576→(∀ m ∈ l,m.n.length≤1048576∧m.t.length≤1048576)→∀ H,Qc P f [YL z 2 (l.map encM),YI most] H (fun r H'=>r=YB (light l most)∧H'=H)
def Qrk(P:Program)(f:Nat):Prop:=∀(n:N),n.size≤1125899906842624→∀ H,Qc P f [n.v,n.v,YB true] H (fun r H'=>r=YB true∧H'=H)
end
end
section
open Go.Proofs
section
variable{P:Program}{H0:Hp}
def Qwa(P:Program)(f:Nat):Prop:=∀ S,PrjOk S→∀ u ∈ S,Qwp P S u f
end
end
section
open Go.Proofs
end
def Qf7(light awake read rread same6 of_ load diags tM tU tR:Nat):IFn:=⟨122,[.t 2],Jq [Jp 2 (.mv (.c (.bool false)))] (.seq (Jk [Jm 15 0,Jc 16 light [.t 15,JI 20000],Jp 17 (.un .not (.t 16))] 17 (Jq [Jc 18 awake [],Jm 2 18] .ret) .skip) (Jq [Jp 3 (.nilT 14 tU)] (.seq (Jq [Jm 19 0,Jh 20 19,Ji 21 0] (.blk 0 (.loop (Jr 21 20 22 76 0 1 (Jq [JA 23 2 19 21,JL 24 2 23,Jy 5 tM [JS,JS],Js 2 5 24] (Jq [JL 25 2 5,Jc 26 read [.t 25],Jy 6 tU [JS,JS,.sl true 4 [],J0,J0,J0,JS,J0,.sl true 6 [],.sl true 4 [],.sl true 4 [],.sl true 2 [],J0,J0],Js 14 6 26] (Jq [JL 27 2 5,Jc 28 rread [.t 27],Jy 7 tR [JS,JS,.sl true 4 [],J0,J0,J0,JS,J0,.sl true 6 [],.sl true 4 [],.sl true 4 [],.sl true 2 [],J0,J0],Js 14 7 28] (.seq (Jk [Jf 29 0 6,Jl 30 29,Jf 31 0 5,Jl 32 31,Jb 33 .neq 30 32,Jm 34 33,Jg 35 34 false (Kh 1 6),Jg 36 34 false (Kl 35),Jg 37 34 false (Kh 1 5),Jg 38 34 false (Kl 37),Jg 39 34 false (Kb .neq 36 38),Jo 40 34 39,Jm 41 40,Jg 42 41 false (Kh 12 6),Jg 43 41 false (Kl 42),Jg 44 41 false (Kh 12 7),Jg 45 41 false (Kl 44),Jg 46 41 false (Kb .neq 43 45),Jo 47 41 46,Jm 48 47,Jg 49 48 false (Kh 13 6),Jg 50 48 false (Kl 49),Jg 51 48 false (Kh 13 7),Jg 52 48 false (Kl 51),Jg 53 48 false (Kb .neq 50 52),Jo 54 48 53,Jm 55 54,Jg 56 55 false (Kh 2 6),Jg 57 55 false (Kl 56),Jg 58 55 false (.lenL (.t 57)),Jg 59 55 false (Kh 2 7),Jg 60 55 false (Kl 59),Jg 61 55 false (.lenL (.t 60)),Jg 62 55 false (Kb .neq 58 61),Jo 63 55 62,Jm 64 63,Jg 65 64 false (Kh 3 6),Jg 66 64 false (KL 6 65),Jg 67 64 false (Kh 3 7),Jg 68 64 false (KL 6 67),Jg 69 64 false (.call same6 [.t 66,.t 68,.c (.bool true)]),Jg 70 64 false (.un .not (.t 69)),Jo 71 64 70] 71 (Jq [Jp 2 (.mv (.c (.bool false)))] .ret) .skip) (Jz [Jm 72 3,JL 73 14 6,Jp 74 (.bslice 14 [.t 73]),Jp 75 (.app 14 216 tU (.t 72) (.t 74)),Jm 3 75]))))))))) (Jq [Jm 78 3,Jc 79 of_ [.t 78],Jm 77 79,Je 80 77 0,Je 81 77 1,Jm 8 80,Jm 9 81] (Jq [Jm 83 0,Jc 84 load [.t 83],Jm 82 84,Je 85 82 0,Je 86 82 1,Jm 10 85,Jm 11 86] (.seq (Jk [Jm 87 9,Jm 88 11,Jb 89 .neq 87 88,Jm 90 89,Jg 91 90 false (Km 8),Jg 92 90 false (.isNilP false (.t 91)),Jg 93 90 false (Km 10),Jg 94 90 false (.isNilP false (.t 93)),Jg 95 90 false (.beq true (.t 92) (.t 94)),Jo 96 90 95] 96 (Jq [Jp 2 (.mv (.c (.bool false)))] .ret) .skip) (Jq [Jm 97 8,Jc 98 diags [.t 97],Jm 99 10,Jc 100 diags [.t 99],Jm 12 98,Jm 13 100] (.seq (Jk [Jm 101 12,Jh 102 101,Jm 103 13,Jh 104 103,Jb 105 .neq 102 104] 105 (Jq [Jp 2 (.mv (.c (.bool false)))] .ret) .skip) (.seq (Jq [Jm 106 12,Jh 107 106,Ji 108 0] (.blk 2 (.loop (Jr 108 107 109 120 2 3 (Jq [Jm 110 108,Jm 14 110] (.seq (.ops [Jm 111 12,Jm 112 14,JA 113 3 111 112,JL 114 3 113,Jm 115 13,Jm 116 14,JA 117 3 115 116,JL 118 3 117,Jp 119 (.eqA true [JS,J0,J0] (.t 114) (.t 118))] true) (.cond (.t 119) (Jq [Jp 2 (.mv (.c (.bool false)))] .ret) .skip))))))) (Jq [Jc 121 awake [],Jm 2 121] .ret))))))))))⟩
section
open Go.Proofs
section
variable{P:Program}{H0:Hp}
def Qpc(P:Program)(f:Nat):Prop:=∀ H,Qc P f [.d .nilp] H (fun r H'=>r=YL true 3 []∧H'=H)
theorem Qqa{S:List Un}(h:PrjOk S):(Qey S).length≤1099511627776:=by
 unfold Qey;rw[Wr Qqg];unfold dgsU;have h1:=Qkx (T:=S) h.sm;have h2:S.length*2147483648≤8*2147483648:=Qyx _ h.len;rw[Qyw];split<;>simp only[Qy3,Qy7]<;>omega
end
end
section
open Go.Proofs
section
variable{P:Program}{H0:Hp}
def OfOk(P:Program)(f:Nat):Prop:=∀(l:List Un)(z:Bool),l.length≤1048576→(l=[]→z=true)→∀ H,Qc P f [YL z 14 (l.map Un.enc)] H (fun r H'=>r=ofA l∧H'=H)
theorem HasT.pjLReads{f light_ awake read rread same6 of_ load diags tM tU tR:Nat}(h:HasT P [3] f (Qf7 light_ awake read rread same6 of_ load diags tM tU tR))(hLi:Qro P light_)(hA:Qu6 P H0 awake)(hRe:Qqp P H0 read)(hRR:Qrl P H0 rread)(hS6:Qrk P same6)(hO:OfOk P of_)(hL:Qqq P H0 load)(hD:Qnf P diags)(hD0:Qpc P diags)(l:List Mod)(z:Bool)(hl:l.length≤1048576)(hm:∀ m ∈ l,m.n.length≤1048576∧m.t.length≤1048576)(H:Hp)(hH:Pre0 H0 H) :
 Qc P f [YL z 2 (l.map encM)] H (fun r H'=>r=YB true∧H'=H):=by
 refine Qf h (by simp[Qf7]) fun hcl _ => ?_;have g1:=hLi l z 20000 (by omega) hl hm H;simp[Qf7];refine Qa g1 ?_;cases light l 20000 with
 | false =>
   simp;refine Qa (hA _ hH) ?_;simp;simp[RetK,Qb hcl]
 | true =>
   simp;obtain⟨L,hLe⟩:∃ L,L=l.map W6:=⟨_,rfl⟩;have hLl:L.length=l.length:=by rw[hLe];simp
   have g2:=fun X=>hL l z (fun m h=>(hm m h).2) (H++X) (hH.app X);have g3:=fun X=>hO L true (by omega) (fun _=>rfl) (H++X);have hp:=Qt4 l;rw[← hLe]at g2 hp;refine Qq 0 (fun fr H'=>fr 0=YL z 2 (l.map encM)∧fr 3=.osl true 14 (L.map Un.enc) H.length∧H'=H++[.tok l.length 14 tU]) (fun _ _=>False) ?_ (fun _ _ h=>h.elim) ?_
   · refine Yf (H.length+1) l.length (fun j fr H'=>fr 0=YL z 2 (l.map encM)∧fr 19=YL z 2 (l.map encM)∧fr 3=.osl true 14 ((L.map Un.enc).take j) H.length∧H'=H++[.tok j 14 tU]) (by omega) (by decide) (by simp) (by simp) ?_ ?_ ?_
     · simp[Qp hcl]
     · rintro j fr H' hj fi fn ⟨f0,f19,f3,rfl⟩;obtain⟨m,hmj⟩:∃ m,l[j]?=some m:=⟨_,Qx4 hj⟩;have hmt:=(hm m (Qyu hmj)).2;have hrow:Zam.rowAt (l.map encM) (j:Int)=some [.str m.n,.str m.t]:=by simp[Zam.rowAt,hmj,encM]
       have q1:=fun X=>hRe m hmt (H++X) (hH.app X);have q2:=fun X=>hRR m hmt (H++X) (hH.app X);have hsz:(W6 m).tr.size≤16001:=Qca m.t;have hun:(W6 m).n=m.n:=rfl;have hut:(W6 m).t=m.t:=rfl;have h6:=fun X=>hS6 (W6 m).tr (by omega) (H++X);have ht':(L.map Un.enc).take (j+1)=(L.map Un.enc).take j++[(W6 m).enc]:=by rw[Q1d,hLe,Qyg,Qyg,hmj];rfl
       generalize W6 m=u at *;obtain⟨z1,m1,m2,e1,e2,hv⟩:=u.both;rw[hun,hut]at e1 e2;rw[e1]at q1 ht';rw[e2]at q2;rw[hv]at h6;simp only[Qyy,Qzi]at q1 q2;have happ:=fun X r=>Qng (H:=H) (X:=X) (L.map Un.enc) j (b:=216) (sz:=14) (e:=tU) r (by simp;omega) (by simp;omega);simp[fi,f19,hrow];refine Qa (q1 _) ?_;simp;refine Qa (q2 _) ?_;simp;refine Qa (h6 _) ?_;simp[f3,happ];refine W8 (H.length+1) (Qx6 _) (by simp[fi,fn]) ?_;simp[f0,f19,Qp hcl,ht']
     · rintro fr H' fi fn ⟨f0,f19,f3,rfl⟩;simp[f0];rw[f3,Qyo (by simp;omega)]
   · rintro fr H' ⟨f0,f3,rfl⟩;have hd:=fun X=>hD _ hp (H++X);have hdl:=Qqa hp;unfold ofA at g2 g3;generalize ofU L=o at *;obtain⟨S,e⟩:=o;simp only at g2 g3 hp hd hdl;generalize (dgsU S).isEmpty=ze at hd;generalize Qey S=DD at *;simp[f3];refine Qa (Qc.osl1 (g3 _)) ?_;by_cases he:e=0
     · subst he;simp only[if_true]at g2;simp only[pA]at hd g2;simp[pA,f0];refine Qa (g2 _) ?_;simp;refine Qa (hd _) ?_;simp;refine Qa (hd _) ?_;simp;refine Qq 2 (fun fr H'=>H'=H++[.tok l.length 14 tU]) (fun _ _=>False) ?_ (fun _ _ h=>h.elim) ?_
       · refine Yf (H.length+1) DD.length (fun j fr H'=>fr 12=YL ze 3 (DD.map Yi)∧fr 13=YL ze 3 (DD.map Yi)∧H'=H++[.tok l.length 14 tU]) (by omega) (by decide) (by simp) (by simp) ?_ ?_ ?_
         · simp[Qp hcl]
         · rintro j fr H' hj fi fn ⟨f12,f13,rfl⟩;obtain⟨d,hdj⟩:∃ d,DD[j]?=some d:=⟨_,Qx4 hj⟩;have hr:Zam.rowAt (DD.map Yi) (j:Int)=some [.str d.m,.int .i64 d.a,.int .i64 d.c]:=by simp[Zam.rowAt,hdj,Yi]
           simp[fi,f12,f13,hr,eqDs,eqD];refine W8 (H.length+1) (Qx6 _) (by simp[fi,fn]) ?_;simp[f12,f13,Qp hcl]
         · rintro fr H' fi fn ⟨f12,f13,rfl⟩;simp
       · rintro fr H' rfl;simp;refine Qa (hA _ (hH.app _)) ?_;simp;simp[RetK,Qg hcl]
     · simp only[if_neg he]at g2;simp[he,f0];refine Qa (g2 _) ?_;simp[he];refine Qa (hD0 _) ?_;simp;refine Qa (hD0 _) ?_;simp;refine Qq 2 (fun fr H'=>H'=H++[.tok l.length 14 tU]) (fun _ _=>False) ?_ (fun _ _ h=>h.elim) ?_
       · refine Yf (H.length+1) 0 (fun j fr H'=>H'=H++[.tok l.length 14 tU]) (by omega) (by decide) (by simp) (by simp) ?_ ?_ ?_
         · simp[Qp hcl]
         · rintro j fr H' hj;exact absurd hj (by omega)
         · rintro fr H' fi fn rfl;simp
       · rintro fr H' rfl;simp;refine Qa (hA _ (hH.app _)) ?_;simp;simp[RetK,Qg hcl]
end
end
section
open Go.Proofs
section
variable{L:List Un}{a:Un}
end
end
section
open Go.Proofs
section
variable{A B:List Un}{a:Un}(h1:Sorted cU (A++B))(h2:Sorted cU (A++a::B))
include h1 h2
end
end
section
open Go.Proofs
section
variable{P:Program}{H0:Hp}
end
end
section
open Go.RowKit (Below)
open Go.Proofs
theorem Qkh{w:Bs}:∀ {l:List SBd} {i p:Int},(∀ c ∈ l,¬ (c.k=2∧c.w=w))→itU w l i p=p
 | [],i,p,_=>rfl
 | b :: r, i, p, h => by
   unfold itU;rw[if_neg (h b (by simp))];exact Qkh fun c hc=>h c (by simp[hc])
theorem Qn6{w:Bs}{b:SBd}:∀ {l:List SBd} {i p:Int} {q:Nat},l[q]?=some b→b.k=2∧b.w=w→(∀(j:Nat)(c:SBd),q<j→l[j]?=some c→¬ (c.k=2∧c.w=w))→itU w l i p=i+q
 | [],i,p,q,h,_,_=>by simp at h
 | x :: r, i, p, 0, h, hm, hj => by
   simp at h;subst h;unfold itU;rw[if_pos hm,Qkh fun c hc=>by
    obtain⟨j,hj'⟩:=Q1y hc;exact hj (j+1) c (by omega) (by simpa using hj')]
   simp
 | x :: r, i, p, q + 1, h, hm, hj => by
   unfold itU;rw[Qn6 (q:=q) (by simpa using h) hm fun j c h1 h2=>hj (j+1) c (by omega) (by simpa using h2)];omega
def BdSl(w:World)(sv:Value)(bs:List SBd):Prop :=
 (∃ a cap,sv=.slice a 0 cap∧bs=[])∨∃ b off cap,sv=.slice (some ⟨b,off,none⟩) bs.length cap∧b<w.heap.size∧∀(j:Nat)(x:SBd),bs[j]?=some x →
  w.cell? ⟨b,off+j*4,none⟩=some (.int .i64 x.a)∧w.cell? ⟨b,off+j*4+1,none⟩=some (.int .i64 x.k)∧w.cell? ⟨b,off+j*4+2,none⟩=some (.string ⟨x.w.toArray⟩)∧w.cell? ⟨b,off+j*4+3,none⟩=some (.int .i64 x.i)
theorem Qsi{P:Program}{f:FuncId}(h:∀ (w:World) (cs:List Value) (sv:Value) (word:List UInt8) (bs:List SBd),cs.length=14→cs[9]?=some sv→BdSl w sv bs→bs.length≤1099511627776 →
  Calls P f #[.agg cs.toArray,.string ⟨word.toArray⟩] w fun e w'=>e=.returned (.int .i64 (itU word bs 0 (-1)))∧Below w.heap.size w w'):Qne P f:=by
 intro u word hl H κ w vs hr hlen hv
 match vs,hlen with
 | [v1,v2],_ =>
 have h1:=hv 0 v1 _ rfl rfl;have h2:=(hv 1 v2 _ rfl rfl).d_inv.str_inv;subst h2;obtain⟨z,ms,he⟩:=u.enc_all;cases h1 with
 | agg cs _ hcl hcs =>
   have hc14:cs.length=14:=by rw[hcl,Qzu,u.enc_len]
   obtain⟨sv,hsv⟩:∃ sv,cs[9]?=some sv:=⟨_,Qx4 (by omega)⟩;have hd:DR κ.σ sv (.sl u.sm.bs.isEmpty 4 (u.sm.bs.map Wk)):=(hcs 9 sv _ hsv (by rw[he];rfl)).d_inv;refine (h w cs sv word u.sm.bs hc14 hsv ?_ hl).mono ?_
   · rcases hd.sl_inv with⟨rfl,-,hx⟩|⟨a,cap,rfl,-,hx⟩|⟨b,o,cap,f,rfl,-,hcap,-,hc,hdd⟩
     · exact .inl ⟨_,_,rfl,by simpa using hx⟩
     · exact .inl ⟨_,_,rfl,by simpa using hx⟩
     · by_cases e:u.sm.bs=[]
       · rw[e];exact .inl ⟨_,_,rfl,rfl⟩
       have hcell:∀(j:Nat)(x:SBd),u.sm.bs[j]?=some x→∀(q:Nat)(y:D),(Wk x)[q]?=some y→∃ v,w.cell? ⟨b,o+j*4+q,none⟩=some v∧DR κ.σ v y:=fun j x hj q y hy=>by
        have hr':(u.sm.bs.map Wk)[j]?=some (Wk x):=by simp[hj]
        exact⟨_,hr.st _ _ _ (hc j q _ _ hr' hy),hdd j q _ _ hr' hy⟩
       refine .inr ⟨b,o,cap,by simp,?_,fun j x hj=>⟨?_,?_,?_,?_⟩⟩
       · obtain⟨x,hx⟩:∃ x,u.sm.bs[0]?=some x:=by
          cases hb:u.sm.bs with
          | nil=>exact absurd hb e
          | cons x r=>exact⟨x,rfl⟩
         obtain⟨v,hv,-⟩:=hcell 0 x hx 0 _ rfl;exact Q0g w ⟨b,_,.none⟩ hv
       · obtain⟨v,hv,hd⟩:=hcell j x hj 0 _ rfl;rw[hd.int_inv]at hv;exact hv
       · obtain⟨v,hv,hd⟩:=hcell j x hj 1 _ rfl;rw[hd.int_inv]at hv;exact hv
       · obtain⟨v,hv,hd⟩:=hcell j x hj 2 _ rfl;rw[hd.str_inv]at hv;exact hv
       · obtain⟨v,hv,hd⟩:=hcell j x hj 3 _ rfl;rw[hd.int_inv]at hv;exact hv
   · rintro e w' ⟨rfl,hb⟩;exact⟨_,κ,_,H,rfl,K.le_refl κ,hr.later hb,.d (.int _ _),rfl,rfl⟩
end
end Go.Zam
namespace Go.Proofs
open Go.Shelf
namespace Zi
open Go Go.Zam Go.Proofs Go.RowKit Go.Shelf
attribute [local go_sem] Oper.semAt_some
def bdV(b:SBd):Value := .agg #[.int .i64 b.a,.int .i64 b.k,.string ⟨b.w.toArray⟩,.int .i64 b.i]
def Qch(bs:List SBd)(j:Nat):Int×SBd:=((bs.length:Int)-1-j,bs[bs.length-1-j]?.getD default)
def Qb4(bs:List SBd)(k:Nat):List (Int×SBd):=(List.range k).map (Qch bs)
theorem Qga(bs:List SBd)(k:Nat):Qb4 bs (k+1)=Qb4 bs k++[Qch bs k]:=by simp[Qb4,List.range_succ]
theorem Qm4(bs:List SBd)(k:Nat):(Qb4 bs k).length=k:=by simp[Qb4]
set_option maxRecDepth 100000 in
set_option maxHeartbeats 2000000 in
theorem Quy(F:Fence)(n:Nat)(hf:F.fn 109)(hro:F.round=none)(hn:1≤n)(l Bs n₀ b off cap:Nat)(bs:List SBd)(hreach:bs.length≤1099511627776)(hb:b<n₀)(hBs0:Bs<n₀)(J Jx:List (Int×SBd)→World→Prop)(hY:∀ pre x W,J pre W→pre.length<bs.length→YieldAt F (n-1) Tryz.prog l #[.int .i64 x.1,bdV x.2] W fun e W' =>
  (e=.returned (.bool true)∧J (pre++[x]) W'∧Below n₀ W W')∨(e=.returned (.bool false)∧Jx (pre++[x]) W'))(W:World)(hBs:W.cell? ⟨Bs,0,none⟩=some (.slice (some ⟨b,off,none⟩) bs.length cap))(hc:∀ (j:Nat) (x:SBd),bs[j]?=some x→W.cell? ⟨b,off+j*4,none⟩=some (.int .i64 x.a)∧W.cell? ⟨b,off+j*4+1,none⟩=some (.int .i64 x.k)∧W.cell? ⟨b,off+j*4+2,none⟩=some (.string ⟨x.w.toArray⟩)∧W.cell? ⟨b,off+j*4+3,none⟩=some (.int .i64 x.i))(h0:J [] W) :
 CallsIn F n Tryz.prog 109 #[.func (.yield l) #[] #[],.pointer (some ⟨Bs,0,none⟩)] W fun e W'=>(∃ v,e=.returned v) ∧
  ((∃ ys,ys=Qb4 bs bs.length∧J ys W')∨(∃ pre,(∃ k,k≤bs.length∧pre=Qb4 bs k)∧Jx pre W')):=by
 have hw0:wrap64 ((bs.length:Int)-1)=(bs.length:Int)-1:=by unfold wrap64;omega
 refine callsIn_of_wp Tryz.func109 rfl hf ?_ hro;simp only[Tryz.ntmps109,Qzk,Qyi,Qy3,Nat.reduceAdd,Nat.reduceSub,Q07,Q06,Q1h,Q1a,Qys,Qyp]
 gi_wp2
 gi_loopw [3] (fun i wr=>∃ k:Nat,k≤bs.length∧i=.int .i64 ((bs.length:Int)-1-k)∧J (Qb4 bs k) wr∧Below n₀ W wr)
  (fun i _=>((intOf i)+1).toNat)
 case atStart=>exact⟨0,Q0t _,by simp[hw0],h0,Below.refl _ _⟩
 case round =>
  obtain⟨k,hk,rfl,hJs,hnx⟩:=hrel;have hBx:wr.cell? ⟨Bs,0,none⟩=some (.slice (some ⟨b,off,none⟩) bs.length cap):=(hnx.cell (p:=⟨Bs,0,none⟩) hBs0).trans hBs;by_cases hlt:k<bs.length
  · obtain⟨p,hp⟩:∃ p:Nat,k+1+p=bs.length:=⟨bs.length-k-1,by omega⟩;have hpl:p<bs.length:=by omega
    obtain⟨x,hx⟩:∃ x,bs[p]?=some x:=⟨_,Qx4 hpl⟩;have hfr:Qch bs k=((p:Int),x):=by
     unfold Qch;rw[show bs.length-1-k=p by omega,hx];simp;omega
    obtain⟨c0,c1,c2,c3⟩:=hc p x hx;have d0:=(hnx.cell (p:=⟨b,off+p*4,none⟩) hb).trans c0;have d1:=(hnx.cell (p:=⟨b,off+p*4+1,none⟩) hb).trans c1;have d2:=(hnx.cell (p:=⟨b,off+p*4+2,none⟩) hb).trans c2;have d3:=(hnx.cell (p:=⟨b,off+p*4+3,none⟩) hb).trans c3;have hi:((bs.length:Int)-1-k)=(p:Int):=by omega
    rw[hi];clear hi;have hwp:wrap64 ((p:Int)-1)=(p:Int)-1:=by unfold wrap64;omega
    obtain⟨fn,tmps,assign,body,hy,hR⟩:=hY _ ((p:Int),x) wr hJs (by rw[Qm4];exact hlt);dsimp only[bdV]at hy
    gi_wp2
    refine hR.mono ?_;rintro e W3 (⟨rfl,hJ3,hk3⟩|⟨rfl,hJx3⟩)
    · gi_wp2
      go_roundw
      case rel=>exact⟨k+1,by omega,by simp;omega,by rw[Qga,hfr];exact hJ3,hnx.trans hk3⟩
      case measure=>simp[intOf];try omega
    · gi_wp2
      refine bodyPost_ret (results_none rfl _ _ _) rfl ?_;exact⟨⟨_,rfl⟩,.inr ⟨_,⟨k+1,by omega,by rw[Qga,hfr]⟩,hJx3⟩⟩
  · obtain rfl:k=bs.length:=by omega
    have hi:((bs.length:Int)-1-(bs.length:Nat)) = -1:=by omega
    rw[hi]
    gi_wp2
    go_end0
    exact⟨⟨_,rfl⟩,.inl ⟨_,rfl,hJs⟩⟩
set_option maxRecDepth 100000 in
set_option maxHeartbeats 1000000 in
theorem Qm6(F:Fence)(n:Nat)(hf:F.fn 109)(hro:F.round=none)(l Bs:Nat)(J:List (Int×SBd)→World→Prop)(W:World)(a:Option Addr)(cap:Nat)(hBs:W.cell? ⟨Bs,0,none⟩=some (.slice a 0 cap))(h0:J [] W) :
 CallsIn F n Tryz.prog 109 #[.func (.yield l) #[] #[],.pointer (some ⟨Bs,0,none⟩)] W fun e W'=>(∃ v,e=.returned v)∧J [] W':=by
 refine callsIn_of_wp Tryz.func109 rfl hf ?_ hro;simp only[Tryz.ntmps109,Qzk,Qyi,Qy3,Nat.reduceAdd,Nat.reduceSub,Q07,Q06,Q1h,Q1a,Qys,Qyp]
 gi_wp2
 gi_loopw [3] (fun i wr=>i=.int .i64 (-1)∧J [] wr) (fun _ _=>0)
 case atStart=>exact⟨by first|rfl|decide|simp,h0⟩
 case round =>
  obtain⟨rfl,hJs⟩:=hrel
  gi_wp2
  go_end0
  exact⟨⟨_,rfl⟩,hJs⟩
set_option maxHeartbeats 1000000 in
theorem Qo2(F:Fence)(n:Nat)(hf:F.fn 88)(hro:F.round=none)(a:Option Addr)(len cap:Nat)(w:World) :
 CallsIn F n Tryz.prog 88 #[.slice a len cap] w fun e w'=>e=.returned (.func (.func 109) #[] #[.pointer (some ⟨w.heap.size,0,none⟩)])∧w'=w.alloc (.cells #[.slice a len cap] 43):=by
 refine callsIn_of_wp Tryz.func88 rfl hf ?_ hro;simp only[Tryz.ntmps88,Qzk,Qyi,Qy3,Nat.reduceAdd,Nat.reduceSub,Q07,Q06,Q1h,Q1a,Qys,Qyp]
 gi_wp2
 go_ret
 exact⟨rfl,rfl⟩
theorem Qv3{n₀:Nat}{A B:World}(h:Below n₀ A B)(hn:A.heap.size≤n₀){sv:Value}{bs:List SBd}:BdSl A sv bs→BdSl B sv bs
 | .inl e => .inl e
 | .inr ⟨b,off,cap,e,hb,hc⟩ => .inr ⟨b,off,cap,e,Q11 hb h.size,fun j x hj=>by
  obtain⟨c0,c1,c2,c3⟩:=hc j x hj;have hb':b<n₀:=Q11 hb hn;exact⟨(h.cell (p:=⟨b,off+j*4,none⟩) hb').trans c0,(h.cell (p:=⟨b,off+j*4+1,none⟩) hb').trans c1,(h.cell (p:=⟨b,off+j*4+2,none⟩) hb').trans c2,(h.cell (p:=⟨b,off+j*4+3,none⟩) hb').trans c3⟩⟩
theorem Qqj(F:Fence)(n:Nat)(hf:F.fn 109)(hro:F.round=none)(hn:1≤n)(Bs n₀:Nat)(sv:Value)(bs:List SBd)(hreach:bs.length≤1099511627776)(w:World)(hBs:Bs<n₀)(hn₀:n₀=w.heap.size)(hc:w.cell? ⟨Bs,0,none⟩=some sv)(hI:BdSl w sv bs) :
 SeqStopsK F n Tryz.prog 109 #[.pointer (some ⟨Bs,0,none⟩)] (fun x:Int×SBd => #[Value.int .i64 x.1,bdV x.2]) (Below n₀) (fun ys=>ys=Qb4 bs bs.length)
  (fun pre=>∃ k,k≤bs.length∧pre=Qb4 bs k) bs.length w:=fun l J Jx W hW _ _ hY h0=>by
 subst hn₀;have hc':=(hW.cell (p:=⟨Bs,0,none⟩) hBs).trans hc;rcases hI with⟨a,cap,rfl,rfl⟩|⟨b,off,cap,rfl,hb,hcs⟩
 · exact(Qm6 F n hf hro l Bs J W a cap hc' h0).mono fun e W' ⟨he,hj⟩=>⟨he,.inl ⟨_,rfl,hj⟩⟩
 · exact Quy F n hf hro hn l Bs w.heap.size b off cap bs hreach hb hBs J Jx hY W hc' (fun j x hj=>by
    obtain⟨c0,c1,c2,c3⟩:=hcs j x hj;exact⟨(hW.cell (p:=⟨b,off+j*4,none⟩) hb).trans c0,(hW.cell (p:=⟨b,off+j*4+1,none⟩) hb).trans c1,(hW.cell (p:=⟨b,off+j*4+2,none⟩) hb).trans c2,(hW.cell (p:=⟨b,off+j*4+3,none⟩) hb).trans c3⟩) h0
theorem Qre(W:World)(o:Array Value)(t:TypeId)(i:Nat):(W.alloc (.cells o t)).cell? ⟨W.heap.size,i,none⟩=o[i]?:=by
 unfold World.cell?;simp only[World.alloc_heap_new];simp
def NoB(word:List UInt8)(p:Int×SBd):Prop:=¬ (p.2.k=2∧p.2.w=word)
def DefB(word:List UInt8)(p:Int×SBd):Prop:=p.2.k=2∧p.2.w=word
theorem Qsv{word:List UInt8}{bs:List SBd}(h:∀ p ∈ Qb4 bs bs.length,NoB word p):itU word bs 0 (-1) = -1:=by
 refine Qkh fun c hc => ?_;obtain⟨j,hj⟩:=Q1y hc;have hjl:j<bs.length:=(Qx3.1 hj).1;have:=h (Qch bs (bs.length-1-j)) (by simp only[Qb4,Qzx,Q0k];exact⟨_,by omega,rfl⟩);unfold NoB Qch at this;rw[show bs.length-1-(bs.length-1-j)=j by omega,hj]at this;exact this
theorem Qsu{word:List UInt8}{bs:List SBd}{k:Nat}(hk:k<bs.length)(h:∀ p ∈ Qb4 bs k,NoB word p)(hd:DefB word (Qch bs k)):itU word bs 0 (-1)=(Qch bs k).1:=by
 obtain⟨p,hp⟩:∃ p:Nat,k+1+p=bs.length:=⟨bs.length-k-1,by omega⟩;have hpl:p<bs.length:=by omega
 obtain⟨x,hx⟩:∃ x,bs[p]?=some x:=⟨_,Qx4 hpl⟩;have hfr:Qch bs k=((p:Int),x):=by
  unfold Qch;rw[show bs.length-1-k=p by omega,hx];simp;omega
 rw[hfr]at hd ⊢;rw[Qn6 hx hd fun j c hj hc => ?_]
 · simp
 · have hjl:j<bs.length:=(Qx3.1 hc).1;have:=h (Qch bs (bs.length-1-j)) (by simp only[Qb4,Qzx,Q0k];exact⟨_,by omega,rfl⟩);unfold NoB Qch at this;rw[show bs.length-1-(bs.length-1-j)=j by omega,hc]at this;exact this
theorem list14{α:Type}{l:List α}(h:l.length=14):∃ a b c d e f g h' i j k m n o,l=[a,b,c,d,e,f,g,h',i,j,k,m,n,o]:=by
 match l,h with
 | [a,b,c,d,e,f,g,h',i,j,k,m,n,o],_=>exact⟨a,b,c,d,e,f,g,h',i,j,k,m,n,o,rfl⟩
set_option maxRecDepth 100000 in
set_option maxHeartbeats 4000000 in
theorem Qvq(F:Fence)(n:Nat)(h53:F.fn 53)(h88:F.fn 88)(h109:F.fn 109)(hro:F.round=none)(hn:3≤n)(w:World)(cs:List Value)(sv:Value)(word:List UInt8)(bs:List SBd)(hcs:cs.length=14)(h9:cs[9]?=some sv)(hI:BdSl w sv bs)(hl:bs.length≤1099511627776) :
 CallsIn F n Tryz.prog 53 #[.agg cs.toArray,.string ⟨word.toArray⟩] w fun e W'=>e=.returned (.int .i64 (itU word bs 0 (-1)))∧Below w.heap.size w W':=by
 have h1:1≤n:=by omega
 obtain⟨v0,v1,v2,v3,v4,v5,v6,v7,v8,v9,v10,v11,v12,v13,rfl⟩:=list14 hcs;obtain rfl:v9=sv:=by simpa using h9
 obtain⟨a,len,cap,rfl⟩:∃ a len cap,v9=.slice a len cap:=by
  rcases hI with⟨a,cap,rfl,-⟩|⟨b,off,cap,rfl,-⟩<;>exact⟨_,_,_,rfl⟩
 refine callsIn_of_wp_marks Tryz.func53 rfl h53 ?_ hro;simp only[Tryz.ntmps53,Qzk,Qyi,Qy3,Nat.reduceAdd,Nat.reduceSub,Q07,Q06,Q1h,Q1a,Qys,Qyp]
 gi_wp2_with (gi_at_call 88;refine (Qo2 F (n-1) h88 hro _ _ _ _).mono ?_;rintro e w' ⟨rfl,rfl⟩)
 generalize hu:Obj.cells #[v0,v1,v2,v3,v4,v5,v6,v7,v8,Value.slice a len cap,v10,v11,v12,v13] 49=ou;have bW:=((Boxed.new (w.alloc ou) 9 (.string ⟨word.toArray⟩)).alloc (.cells #[.int .i64 0] 3)).alloc (.cells #[.slice a len cap] 43);have bR:=(Boxed.new ((w.alloc ou).alloc (.cells #[.string ⟨word.toArray⟩] 9)) 3 (.int .i64 0)).alloc (.cells #[.slice a len cap] 43);have bN:=Boxed.new (((w.alloc ou).alloc (.cells #[.string ⟨word.toArray⟩] 9)).alloc (.cells #[.int .i64 0] 3)) 43 (.slice a len cap);simp only[World.size_alloc]at bW bR bN;have hB0:Below w.heap.size w ((((w.alloc ou).alloc (.cells #[.string ⟨word.toArray⟩] 9)).alloc (.cells #[.int .i64 0] 3)).alloc (.cells #[.slice a len cap] 43)) :=
  ((((Below.refl _ w).alloc (Qx6 _) _).alloc (by simp) _).alloc (by simp;omega) _).alloc (by simp;omega) _
 have hsz:((((w.alloc ou).alloc (.cells #[.string ⟨word.toArray⟩] 9)).alloc (.cells #[.int .i64 0] 3)).alloc (.cells #[.slice a len cap] 43)).heap.size=w.heap.size+4:=by simp
 obtain⟨W0,hW0⟩:∃ W0,((((w.alloc ou).alloc (.cells #[.string ⟨word.toArray⟩] 9)).alloc (.cells #[.int .i64 0] 3)).alloc (.cells #[.slice a len cap] 43))=W0:=⟨_,rfl⟩;rw[hW0]at bW bR bN hB0 hsz ⊢;clear hW0 hu;refine wpIn_rangeFunc_ownH hro h1 (gf:=109) (lb := #[.pointer (some ⟨w.heap.size+1+1+1,0,none⟩)]) rfl h109 (enters_of Tryz.func109 (by kernel_rfl) rfl)
  (Qqj F (n-1) h109 hro (by omega) (w.heap.size+1+1+1) W0.heap.size (.slice a len cap) bs hl W0 (by omega) rfl bN.cell (Qv3 hB0 (Qx6 _) hI)) belowK_t (belowK_b (Qx6 _)) (Below.refl _ _) (fun _=>rfl)
  (fun pre W=>(((∀ p ∈ pre,NoB word p)∧Boxed W (w.heap.size+1) 9 (.string ⟨word.toArray⟩))∧Boxed W (w.heap.size+1+1) 3 (.int .i64 0))∧Below w.heap.size W0 W)
  (fun c pre W=>(c=.ret∧∃ ini last,pre=ini++[last]∧(∀ p ∈ ini,NoB word p)∧DefB word last∧Boxed W (w.heap.size+1+1) 3 (.int .i64 last.1))∧Below w.heap.size W0 W)
  (OwnFrom.and (OwnFrom.and (OwnFrom.and (ownFrom_pure _ _) (Own.from (boxed_own _ _ _) _)) (Own.from (boxed_own _ _ _) _)) (ownFrom_below (by omega) (by omega)))
  (fun c=>OwnFrom.and (fun s A B row hs hg hr=>by obtain⟨hc,ini,last,e1,e2,e3,e4⟩:=hs;exact⟨hc,ini,last,e1,e2,e3,boxed_own _ 3 (fun(_:Unit)=>Value.int .i64 last.1) () A B row e4 hg (fun r e=>(hr r e).2)⟩) (ownFrom_below (by omega) (by omega)))
  ⟨⟨⟨by simp,bW⟩,bR⟩,Below.refl _ _⟩
  (fun x a' W=>∃ Bx,w.heap.size+1+1<Bx∧(W.cell? ⟨Bx,0,none⟩=some (.int .i64 x.2.a)∧W.cell? ⟨Bx,1,none⟩=some (.int .i64 x.2.k)∧W.cell? ⟨Bx,2,none⟩=some (.string ⟨x.2.w.toArray⟩)∧W.cell? ⟨Bx,3,none⟩=some (.int .i64 x.2.i)) ∧
   a' = { tmps := #[.agg #[v0,v1,v2,v3,v4,v5,v6,v7,v8,.slice a len cap,v10,v11,v12,v13],.string ⟨word.toArray⟩,.pointer (some ⟨w.heap.size,0,none⟩),.pointer (some ⟨w.heap.size+1,0,none⟩),.pointer (some ⟨w.heap.size+1+1,0,none⟩),.int .i64 x.1,.pointer (some ⟨Bx,0,none⟩),.pointer (some ⟨w.heap.size,9,none⟩),.pointer (some ⟨w.heap.size,9,none⟩),.slice a len cap,.func (.func 109) #[] #[.pointer (some ⟨w.heap.size+1+1+1,0,none⟩)],.int .i64 x.1,.agg #[.int .i64 x.2.a,.int .i64 x.2.k,.string ⟨x.2.w.toArray⟩,.int .i64 x.2.i],undef,undef,undef,undef,undef,undef,undef,undef,undef,undef],defers:=[] })
  (fun x a' _ X Y row hs hg hr=>by
   obtain⟨Bx,g1,⟨g2,g3,g4,g5⟩,g6⟩:=hs;have hr':=fun r e=>(hr r e).2;exact⟨Bx,g1,⟨cell_kept g2 hg hr',cell_kept g3 hg hr',cell_kept g4 hg hr',cell_kept g5 hg hr'⟩,g6⟩)
  ?assign ?body ?done ?stop
 case assign =>
  rintro l pre x W K ⟨⟨⟨hp,bW1⟩,bR1⟩,hB1⟩ hK;dsimp only[bdV]
  gi_wp2
  have hWs:=hB1.size;exact hK _ _ ((KeepsOthers.alloc _ _).from _) ((Below.refl _ W).alloc hWs _) ⟨⟨⟨hp,bW1.alloc _⟩,bR1.alloc _⟩,hB1.alloc (by omega) _⟩
   ⟨W.heap.size,bR1.lt,⟨Qre _ _ _ 0,Qre _ _ _ 1,Qre _ _ _ 2,Qre _ _ _ 3⟩,rfl⟩
 case body =>
  rintro l pre x a' W hl' ⟨r,hr⟩ ⟨⟨⟨hp,bW1⟩,bR1⟩,hB1⟩ ⟨Bx,hBx,⟨g2,g3,g4,g5⟩,rfl⟩ hlt;have cW:=bW1.cell;have cR:=bR1.cell;have fR:=bR1.frozen;have hWs:=hB1.size
  gi_wp2
  · have hk:x.2.k=2:=by assumption
    have hw:(x.2.w == word)=true:=by assumption
    exact⟨(KeepsOthers.setCell _ _ _).from _,⟨rfl,pre,x,rfl,hp,⟨hk,by simpa using hw⟩,bR1.set _⟩,hB1.setCell (p:=⟨w.heap.size+1+1,0,none⟩) (by show w.heap.size≤w.heap.size+1+1;omega) _⟩
  · have hw:(x.2.w == word)=false:=by assumption
    exact⟨KeepsFrom.refl _ _,Below.refl _ _,⟨⟨fun p hp'=>(Qyt.1 hp').elim (hp p) (fun e=>by simp at e;subst e;exact fun h=>by rw[h.2]at hw;simp at hw),bW1⟩,bR1⟩,hB1⟩
  · have hk:¬ x.2.k=2:=by assumption
    exact⟨KeepsFrom.refl _ _,Below.refl _ _,⟨⟨fun p hp'=>(Qyt.1 hp').elim (hp p) (fun e=>by simp at e;subst e;exact fun h=>hk h.1),bW1⟩,bR1⟩,hB1⟩
 case done =>
  rintro D ys W hD rfl ⟨⟨⟨hp,bW1⟩,bR1⟩,hB1⟩ hK;have cR:=bR1.cell;have fR:=bR1.frozen
  gi_wp2
  have hK':=(KeepsOthers.setCell W ⟨w.heap.size+1+1,0,none⟩ (.int .i64 (-1))).same D _ hK rfl;refine⟨by simp,.inl ⟨_,_,rfl,run_takeDeferred hK',?_⟩⟩;have hc5:=cell_kept (World.cell?_setCell_same' W ⟨w.heap.size+1+1,0,none⟩ (.int .i64 (-1)) (by rw[cR];rfl)) (grownBy_putObj' _ D (.deferred none)) (fun r e=>by cases e;exact⟨_,hK',rfl⟩);refine⟨.int .i64 (-1),?_,by rw[Qsv hp],(hB0.trans (hB1.setCell (p:=⟨w.heap.size+1+1,0,none⟩) (by show w.heap.size≤w.heap.size+1+1;omega) _)).trans (belowK_b (w:=w) (Qx6 _) _ D _ _ (by omega) hK' rfl rfl)⟩;simp[results,Tryz.f53,go_sem,hc5]
 case stop =>
  rintro D c pre W hD ⟨k,hk,rfl⟩ ⟨⟨rfl,ini,last,e1,e2,e3,bR1⟩,hB1⟩ hK;have cR:=bR1.cell
  gi_wp2
  refine⟨by simp,.inl ⟨_,_,rfl,run_takeDeferred hK,?_⟩⟩;have hc5:=cell_kept cR (grownBy_putObj' _ D (.deferred none)) (fun r e=>by cases e;exact⟨_,hK,rfl⟩);obtain⟨k',rfl⟩:∃ k',k=k'+1:=by
   cases k with
   | zero=>simp[Qb4]at e1
   | succ k'=>exact⟨k',rfl⟩
  rw[Qga]at e1;obtain⟨rfl,e5⟩:=List.append_inj' e1 rfl;obtain rfl:Qch bs k'=last:=by simpa using e5
  refine⟨.int .i64 (Qch bs k').1,?_,by rw[Qsu (by omega) e2 e3],(hB0.trans hB1).trans (belowK_b (w:=w) (Qx6 _) W D _ _ (by omega) hK rfl rfl)⟩;simp[results,Tryz.f53,go_sem,hc5]
theorem Quf:Qne Tryz.prog 53:=Qsi fun w cs sv word bs h1 h2 h3 h4=>(callsIn_wide (n:=3)).1 (Qvq Fence.wide 3 trivial trivial trivial rfl (Qx6 _) w cs sv word bs h1 h2 h3 h4)
end Zi
end Go.Proofs
namespace Go.Proofs
section
open Go.Shelf Go.RowKit
variable{P:Program}{ρ:Ren}
set_option maxHeartbeats 32000000 in
set_option maxRecDepth 100000 in
theorem AnyPu.internal_strconv_ParseUint_10_b63(L:LaysPu.n16 P ρ)(t:ByteArray)(hne:t.size≠0)(hmax:t.size≤9223372036854775806)(w:World) :
 Calls P (ρ.f 16) #[.string t,.int .i64 10,.int .i64 63] w fun e w'=>e=.returned (Lib.uintTupleM (ρ.t 34) 9223372036854775807 (Lib.parseUintM 9223372036854775807 0 t.data.toList))∧w'=Lib.bytesWorld w (ρ.t 5) t:=by
 have mixed:=L.mixed;have t9:=L.t9;have a9:=L.a9;have z9:=L.z9;have v9:=L.v9;have t3:=L.t3;have a3:=L.a3;have z3:=L.z3;have v3:=L.v3;have t22:=L.t22;have a22:=L.a22;have z22:=L.z22;have v22:=L.v22;have t24:=L.t24;have a24:=L.a24;have z24:=L.z24;have v24:=L.v24;have t4:=L.t4;have a4:=L.a4;have z4:=L.z4;have v4:=L.v4;have t34:=L.t34;have a34:=L.a34;have z34:=L.z34;have v34:=L.v34;have t5:=L.t5;have a5:=L.a5;have z5:=L.z5;have v5:=L.v5;have t36:=L.t36;have a36:=L.a36;have z36:=L.z36;have v36:=L.v36;have t37:=L.t37;have a37:=L.a37;have z37:=L.z37;have v37:=L.v37;have t0:=L.t0;have a0:=L.a0;have z0:=L.z0;have v0:=L.v0;have e19:∀ args w,(callFunc (ρ.f 19) args).run P w=.ok (.enter (ρ.f 19) args) w:=enters_of L.f19 (by kernel_rfl) rfl;have hemp:t.toList.isEmpty=false:=by
  rw[← decide_eq_emptyBytes];exact decide_eq_false (fun h=>hne (by rw[h];rfl))
 have hcv:=Lib.run_convert_string_bytes (P:=P) w (ρ.t 9) (ρ.t 37) (ρ.t 5) t (u := .string) L.t9 L.t37 L.t5;have hB:∀ j,j<t.size→(Lib.bytesWorld w (ρ.t 5) t).cell? ⟨w.heap.size,j,none⟩=some (.int .u8 (t.data.toList.getD j 0).toNat):=fun j hj=>Lib.bytesWorld_cell w (ρ.t 5) t j hj;obtain⟨W1,hW1⟩:∃ W1,W1=Lib.bytesWorld w (ρ.t 5) t:=⟨_,rfl⟩;rw[← hW1]at hcv hB ⊢;clear hW1;obtain⟨bs,hL⟩:∃ bs,bs=t.data.toList:=⟨_,rfl⟩;have hLn:bs.length=t.size:=by rw[hL,Lib.size_eq]
 rw[← hL]at hB ⊢;clear hL;have hmv:IntKind.u64.wrap (IntKind.u64.wrap 9223372036854775808-1)=9223372036854775807:=by
  rw[IntKind.wrap_u64,IntKind.wrap_u64];decide
 go_enter L.f16,BodyPu.n16_ntmps ρ
 go_wp2
 go_loop [12,13,101] (fun vu vn vi=>∃(k acc:Nat)(a:Int),vu=.bool false∧vn=.int .u64 a∧vi=.int .i64 k∧k≤t.size∧Hid (a=(acc:Int)∧acc≤9223372036854775807∧Lib.parseUintM 9223372036854775807 0 bs=Lib.parseUintM 9223372036854775807 acc (bs.drop k)))
  (fun _ _ vi=>t.size-(intOf vi).toNat)
 case atStart=>exact⟨0,0,0,rfl,rfl,rfl,by omega,rfl,by omega,rfl⟩
 case round =>
  obtain⟨k,acc,a,rfl,rfl,rfl,hk,hh⟩:=hrel;obtain⟨ha,hacc,hdec⟩:=hh.out;clear hh;have a0:0≤a:=by omega
  have a1:a≤9223372036854775807:=by omega
  by_cases hkn:k<t.size
  · have hc:=hB k hkn;have hdrop:bs.drop k=bs[k]'(by omega)::bs.drop (k+1):=List.drop_eq_getElem_cons (by omega);have hget:bs.getD k 0=bs[k]'(by omega):=by simp[List.getD,List.getElem?_eq_getElem (show k<bs.length by omega)]
    rw[hdrop]at hdec;rw[hget]at hc;generalize bs[k]'(by omega)=c at hc hdec;have hc256:c.toNat<256:=c.toNat_lt;clear hB hdrop hget;by_cases hdig:48≤c.toNat∧c.toNat≤57
    · obtain⟨hd0,hd1⟩:=hdig;by_cases hcut:1844674407370955162≤acc
      · have hF:Lib.parseUintM 9223372036854775807 acc (c::bs.drop (k+1))=.range:=by simp[Lib.parseUintM,hd0,hd1,hcut]
        rw[hF]at hdec;have icut:1844674407370955162≤a:=by omega
        clear hcut hacc hF ha
        go_wp2
        go_ret2
        exact⟨rfl,rfl⟩
      by_cases hov2:18446744073709551616≤acc*10+(c.toNat-48)
      · have hov:9223372036854775807<acc*10+(c.toNat-48):=by omega
        have hF:Lib.parseUintM 9223372036854775807 acc (c::bs.drop (k+1))=.range:=by simp[Lib.parseUintM,hd0,hd1,hcut,hov]
        rw[hF]at hdec;have icut:a<1844674407370955162:=by omega
        have iov:18446744073709551616≤a*10+((c.toNat:Int)-48):=by omega
        have hwr:IntKind.u64.wrap (a*10+((c.toNat:Int)-48))=a*10+((c.toNat:Int)-48)-18446744073709551616:=by
         rw[IntKind.wrap_u64];omega
        clear hcut hacc hF hov hov2 ha
        go_wp2
        go_ret2
        exact⟨rfl,rfl⟩
      by_cases hov:9223372036854775807<acc*10+(c.toNat-48)
      ·
       have hF:Lib.parseUintM 9223372036854775807 acc (c::bs.drop (k+1))=.range:=by simp[Lib.parseUintM,hd0,hd1,hcut,hov]
       rw[hF]at hdec;have iov:9223372036854775807<a*10+((c.toNat:Int)-48):=by omega
       have iov2:a*10+((c.toNat:Int)-48)<18446744073709551616:=by omega
       have icut:a<1844674407370955162:=by omega
       clear hcut hacc hF hov hov2 ha
       go_wp2
       go_ret2
       exact⟨rfl,rfl⟩
      · have hF:Lib.parseUintM 9223372036854775807 acc (c::bs.drop (k+1))=Lib.parseUintM 9223372036854775807 (acc*10+(c.toNat-48)) (bs.drop (k+1)):=by simp[Lib.parseUintM,hd0,hd1,hcut,hov]
        have HN:Hid (a*10+((c.toNat:Int)-48)=((acc*10+(c.toNat-48):Nat):Int)∧acc*10+(c.toNat-48)≤9223372036854775807∧Lib.parseUintM 9223372036854775807 0 bs=Lib.parseUintM 9223372036854775807 (acc*10+(c.toNat-48)) (bs.drop (k+1))):=Lib.hid ⟨by omega,by omega,hdec.trans hF⟩;have iov:a*10+((c.toNat:Int)-48)≤9223372036854775807:=by omega
        have icut:a<1844674407370955162:=by omega
        clear hcut hacc hF hov hov2 hdec ha
        go_wp2
        refine⟨⟨k+1,acc*10+(c.toNat-48),a*10+((c.toNat:Int)-48),rfl,(by first|rfl|(congr 1;omega)),(by first|rfl|(congr 1;omega)),by omega,HN⟩,by simp[intOf];omega⟩
    ·
     have hF:Lib.parseUintM 9223372036854775807 acc (c::bs.drop (k+1))=Lib.NumEnd.syntax:=by simp[Lib.parseUintM,hdig]
     rw[hF]at hdec;clear hacc hF ha;have hv0:=bits_lo_u8 .or (c.toNat:Int) 32;have hv1:=bits_hi_u8 .or (c.toNat:Int) 32;have hu0:=bits_lo_u8 .or 95 32;have hu1:=bits_hi_u8 .or 95 32
     go_wp2_with (go_at_fn (ρ.f 19);refine (AnyPu.internal_strconv_lower { L with } _ _).mono ?_;rintro e w' ⟨rfl,rfl⟩)
     all_goals go_ret2
     all_goals first|exact⟨rfl,rfl⟩|exact⟨by rw[hdec];rfl,rfl⟩
  ·
   have hkk:k=t.size:=by omega
   subst hkk;have hF:Lib.parseUintM 9223372036854775807 acc (bs.drop t.size)=.ok acc:=by rw[List.drop_eq_nil_of_le (by omega)];rfl
   rw[hF]at hdec;subst ha;clear hacc hF a0 a1
   go_wp2
   go_ret2
   exact⟨rfl,rfl⟩
theorem AnyPu.internal_strconv_ParseUint_10_at63(L:LaysPu.n16 P ρ)(t:ByteArray)(hmax:t.size≤9223372036854775806)(w:World) :
 Calls P (ρ.f 16) #[.string t,.int .i64 10,.int .i64 63] w fun e w'=>e=.returned (Lib.uintTupleM (ρ.t 34) 9223372036854775807 (Lib.parseUintB 63 t.data.toList))∧(w'=w∨w'=Lib.bytesWorld w (ρ.t 5) t):=by
 have eM:(2:Nat) ^ 63-1=9223372036854775807:=by decide
 by_cases h0:t.size=0
 · have ht:t=⟨#[]⟩:=by
    apply ByteArray.ext;exact Array.eq_empty_of_size_eq_zero h0
   subst ht;exact(AnyPu.internal_strconv_ParseUint_empty { L with } 10 63 w).mono fun e w' ⟨he,hw⟩=>⟨he,Or.inl hw⟩
 · have hne:t.data.toList≠[]:=fun h=>h0 (by rw[Lib.size_eq,h];rfl);refine (AnyPu.internal_strconv_ParseUint_10_b63 { L with } t h0 hmax w).mono fun e w' ⟨he,hw⟩=>⟨?_,Or.inr hw⟩;rw[he,Lib.parseUintB,if_neg hne,eM]
set_option maxHeartbeats 4000000 in
set_option maxRecDepth 100000 in
theorem Any.strconv_ParseUint_10_at63_ok(L:LaysPu.n14 P ρ)(s:ByteArray)(hmax:s.size≤9223372036854775806)(u:Nat)(h:Lib.parseUintB 63 s.data.toList=.ok u)(w:World) :
 Calls P (ρ.f 14) #[.string s,.int .i64 10,.int .i64 63] w fun e w'=>e=.returned (.tuple #[.int .u64 u,.nilIface])∧(w'=w∨w'=Lib.bytesWorld w (ρ.t 5) s):=by
 have mixed:=L.mixed;have t9:=L.t9;have a9:=L.a9;have z9:=L.z9;have v9:=L.v9;have t3:=L.t3;have a3:=L.a3;have z3:=L.z3;have v3:=L.v3;have t22:=L.t22;have a22:=L.a22;have z22:=L.z22;have v22:=L.v22;have t24:=L.t24;have a24:=L.a24;have z24:=L.z24;have v24:=L.v24;have t25:=L.t25;have a25:=L.a25;have z25:=L.z25;have v25:=L.v25;have t4:=L.t4;have a4:=L.a4;have z4:=L.z4;have v4:=L.v4;have e16:∀ args w,(callFunc (ρ.f 16) args).run P w=.ok (.enter (ρ.f 16) args) w:=enters_of L.f16 (by kernel_rfl) rfl;have hI:=AnyPu.internal_strconv_ParseUint_10_at63 { L with } s hmax w;rw[h]at hI;have hI:Calls P (ρ.f 16) #[.string s,.int .i64 10,.int .i64 63] w fun e w'=>e=.returned (.tuple #[.int .u64 u,.nilIface])∧(w'=w∨w'=Lib.bytesWorld w (ρ.t 5) s):=hI;clear h
 go_enter L.f14,BodyPu.n14_ntmps ρ
 go_wp2_with (go_at_fn (ρ.f 16);refine hI.mono ?_;rintro e W1 ⟨rfl,hW⟩)
 go_wp2
 go_ret2
 exact⟨rfl,hW⟩
set_option maxHeartbeats 4000000 in
set_option maxRecDepth 100000 in
theorem Any.strconv_ParseUint_10_at63_syntax(L:LaysPu.n14 P ρ)(s:ByteArray)(hlim:s.size≤281474976710656)(h:Lib.parseUintB 63 s.data.toList=Lib.NumEnd.syntax)(ev:Value)(w:World)(hv:w.cell? ⟨(ρ.g 0),0,none⟩=some ev)(hev:ev=.nilIface∨∃ te pe,ev=.iface te pe) :
 Calls P (ρ.f 14) #[.string s,.int .i64 10,.int .i64 63] w fun e w'=>∃ N,e=.returned (.tuple #[.int .u64 0,.iface (ρ.t 39) (.pointer (some ⟨N,0,none⟩))])∧w.heap.size≤N∧w'.heap[N]?=some (.cells #[.string ⟨#[80,97,114,115,101,85,105,110,116]⟩,.string s,ev] (ρ.t 44) (0,0))∧Below w.heap.size w w':=by
 have mixed:=L.mixed;have t9:=L.t9;have a9:=L.a9;have z9:=L.z9;have v9:=L.v9;have t3:=L.t3;have a3:=L.a3;have z3:=L.z3;have v3:=L.v3;have t22:=L.t22;have a22:=L.a22;have z22:=L.z22;have v22:=L.v22;have t24:=L.t24;have a24:=L.a24;have z24:=L.z24;have v24:=L.v24;have t25:=L.t25;have a25:=L.a25;have z25:=L.z25;have v25:=L.v25;have t4:=L.t4;have a4:=L.a4;have z4:=L.z4;have v4:=L.v4;have e16:∀ args w,(callFunc (ρ.f 16) args).run P w=.ok (.enter (ρ.f 16) args) w:=enters_of L.f16 (by kernel_rfl) rfl;have e17:∀ args w,(callFunc (ρ.f 17) args).run P w=.ok (.enter (ρ.f 17) args) w:=enters_of L.f17 (by kernel_rfl) rfl;have hG:(ρ.g 0)<w.heap.size:=Lib.lt_of_cell hv;have hI:=AnyPu.internal_strconv_ParseUint_10_at63 { L with } s (by omega) w;rw[h]at hI;have hI:Calls P (ρ.f 16) #[.string s,.int .i64 10,.int .i64 63] w fun e w'=>e=.returned (.tuple #[.int .u64 0,.iface (ρ.t 34) (.int .i64 2)])∧(w'=w∨w'=Lib.bytesWorld w (ρ.t 5) s):=hI;clear h
 go_enter L.f14,BodyPu.n14_ntmps ρ
 go_wp2_with (go_at_fn (ρ.f 16);refine hI.mono ?_)
 rintro e W1 ⟨rfl,hW⟩;have hb1:Below w.heap.size w W1:=by
  rcases hW with rfl|rfl
  · exact Below.refl _ _
  · exact Lib.bytesWorld_below _ _ _
 have hv1:W1.cell? ⟨(ρ.g 0),0,none⟩=some ev:=(hb1.cell (show (⟨(ρ.g 0),0,none⟩:Addr).block<w.heap.size from hG)).trans hv;clear hW
 go_wp2_with (go_at_fn (ρ.f 17);refine (AnyPu.strconv_toError_syntax { L with } ⟨#[80,97,114,115,101,85,105,110,116]⟩ s 10 63 ev _ hlim ?_ hev).mono ?_)
 · exact hv1
 rintro e W2 ⟨N,rfl,h1,h2,h3⟩
 go_wp2
 go_ret2
 exact⟨N,rfl,Nat.le_trans hb1.size h1,h2,hb1.trans (h3.mono hb1.size)⟩
set_option maxHeartbeats 4000000 in
set_option maxRecDepth 100000 in
theorem Any.strconv_ParseUint_10_at63_range(L:LaysPu.n14 P ρ)(s:ByteArray)(hlim:s.size≤281474976710656)(h:Lib.parseUintB 63 s.data.toList=.range)(ev:Value)(w:World)(hv:w.cell? ⟨(ρ.g 1),0,none⟩=some ev)(hev:ev=.nilIface∨∃ te pe,ev=.iface te pe) :
 Calls P (ρ.f 14) #[.string s,.int .i64 10,.int .i64 63] w fun e w'=>∃ N,e=.returned (.tuple #[.int .u64 9223372036854775807,.iface (ρ.t 39) (.pointer (some ⟨N,0,none⟩))])∧w.heap.size≤N∧w'.heap[N]?=some (.cells #[.string ⟨#[80,97,114,115,101,85,105,110,116]⟩,.string s,ev] (ρ.t 44) (0,0))∧Below w.heap.size w w':=by
 have mixed:=L.mixed;have t9:=L.t9;have a9:=L.a9;have z9:=L.z9;have v9:=L.v9;have t3:=L.t3;have a3:=L.a3;have z3:=L.z3;have v3:=L.v3;have t22:=L.t22;have a22:=L.a22;have z22:=L.z22;have v22:=L.v22;have t24:=L.t24;have a24:=L.a24;have z24:=L.z24;have v24:=L.v24;have t25:=L.t25;have a25:=L.a25;have z25:=L.z25;have v25:=L.v25;have t4:=L.t4;have a4:=L.a4;have z4:=L.z4;have v4:=L.v4;have e16:∀ args w,(callFunc (ρ.f 16) args).run P w=.ok (.enter (ρ.f 16) args) w:=enters_of L.f16 (by kernel_rfl) rfl;have e17:∀ args w,(callFunc (ρ.f 17) args).run P w=.ok (.enter (ρ.f 17) args) w:=enters_of L.f17 (by kernel_rfl) rfl;have hG:(ρ.g 1)<w.heap.size:=Lib.lt_of_cell hv;have hI:=AnyPu.internal_strconv_ParseUint_10_at63 { L with } s (by omega) w;rw[h]at hI;have hI:Calls P (ρ.f 16) #[.string s,.int .i64 10,.int .i64 63] w fun e w'=>e=.returned (.tuple #[.int .u64 9223372036854775807,.iface (ρ.t 34) (.int .i64 1)])∧(w'=w∨w'=Lib.bytesWorld w (ρ.t 5) s):=hI;clear h
 go_enter L.f14,BodyPu.n14_ntmps ρ
 go_wp2_with (go_at_fn (ρ.f 16);refine hI.mono ?_)
 rintro e W1 ⟨rfl,hW⟩;have hb1:Below w.heap.size w W1:=by
  rcases hW with rfl|rfl
  · exact Below.refl _ _
  · exact Lib.bytesWorld_below _ _ _
 have hv1:W1.cell? ⟨(ρ.g 1),0,none⟩=some ev:=(hb1.cell (show (⟨(ρ.g 1),0,none⟩:Addr).block<w.heap.size from hG)).trans hv;clear hW
 go_wp2_with (go_at_fn (ρ.f 17);refine (AnyPu.strconv_toError_range { L with } ⟨#[80,97,114,115,101,85,105,110,116]⟩ s 10 63 ev _ hlim ?_ hev).mono ?_)
 · exact hv1
 rintro e W2 ⟨N,rfl,h1,h2,h3⟩
 go_wp2
 go_ret2
 exact⟨N,rfl,Nat.le_trans hb1.size h1,h2,hb1.trans (h3.mono hb1.size)⟩
end
end Go.Proofs
namespace Go.Proofs.Zi
section
open Go Go.Zam Go.Proofs
theorem tcf92:Qk Tryz.prog [7] Tryz.f92=some (Qfe 112 113 114 199 85):=by kernel_rfl
theorem h92:HasT Tryz.prog [7] 92 (Qfe 112 113 114 199 85):=⟨_,Tryz.func92,tcf92⟩
theorem tcf104:Qk Tryz.prog [] Tryz.f104=some (Qcz 132 131):=by kernel_rfl
theorem h104:Has Tryz.prog 104 (Qcz 132 131):=⟨_,Tryz.func104,tcf104⟩
theorem tcf71:Qk Tryz.prog [] Tryz.f71=some (Zz 103 104 105):=by kernel_rfl
theorem h71:Has Tryz.prog 71 (Zz 103 104 105):=⟨_,Tryz.func71,tcf71⟩
theorem tcf112:Qk Tryz.prog [] Tryz.f112=some (Qgt 137):=by kernel_rfl
theorem h112:Has Tryz.prog 112 (Qgt 137):=⟨_,Tryz.func112,tcf112⟩
theorem tcf113:Qk Tryz.prog [] Tryz.f113=some (Qem 138 139 140 141):=by kernel_rfl
theorem h113:Has Tryz.prog 113 (Qem 138 139 140 141):=⟨_,Tryz.func113,tcf113⟩
theorem tcf114:Qk Tryz.prog [] Tryz.f114=some (Qel 138 103 142 104 105 143 144 145 85):=by kernel_rfl
theorem h114:Has Tryz.prog 114 (Qel 138 103 142 104 105 143 144 145 85):=⟨_,Tryz.func114,tcf114⟩
theorem tcf131:Qk Tryz.prog [] Tryz.f131=some (Qff 168):=by kernel_rfl
theorem h131:Has Tryz.prog 131 (Qff 168):=⟨_,Tryz.func131,tcf131⟩
theorem tcf168:Qk Tryz.prog [] Tryz.f168=some (Qdo):=by kernel_rfl
theorem h168:Has Tryz.prog 168 (Qdo):=⟨_,Tryz.func168,tcf168⟩
theorem tcf132:Qk Tryz.prog [] Tryz.f132=some (Qcy):=by kernel_rfl
theorem h132:Has Tryz.prog 132 (Qcy):=⟨_,Tryz.func132,tcf132⟩
theorem tcf103:Qk Tryz.prog [] Tryz.f103=some (Qba):=by kernel_rfl
theorem h103:Has Tryz.prog 103 (Qba):=⟨_,Tryz.func103,tcf103⟩
theorem tcf105:Qk Tryz.prog [] Tryz.f105=some (Qcf):=by kernel_rfl
theorem h105:Has Tryz.prog 105 (Qcf):=⟨_,Tryz.func105,tcf105⟩
theorem tcf138:Qk Tryz.prog [] Tryz.f138=some (Qa7):=by kernel_rfl
theorem h138:Has Tryz.prog 138 (Qa7):=⟨_,Tryz.func138,tcf138⟩
theorem tcf139:Qk Tryz.prog [] Tryz.f139=some (Qc0):=by kernel_rfl
theorem h139:Has Tryz.prog 139 (Qc0):=⟨_,Tryz.func139,tcf139⟩
theorem tcf140:Qk Tryz.prog [] Tryz.f140=some (Qen):=by kernel_rfl
theorem h140:Has Tryz.prog 140 (Qen):=⟨_,Tryz.func140,tcf140⟩
theorem tcf141:Qk Tryz.prog [] Tryz.f141=some (Qek):=by kernel_rfl
theorem h141:Has Tryz.prog 141 (Qek):=⟨_,Tryz.func141,tcf141⟩
theorem tcf142:Qk Tryz.prog [] Tryz.f142=some (Qei 138 190):=by kernel_rfl
theorem h142:Has Tryz.prog 142 (Qei 138 190):=⟨_,Tryz.func142,tcf142⟩
theorem tcf190:Qk Tryz.prog [] Tryz.f190=some (Qc2 103 105):=by kernel_rfl
theorem h190:Has Tryz.prog 190 (Qc2 103 105):=⟨_,Tryz.func190,tcf190⟩
theorem tcf144:Qk Tryz.prog [] Tryz.f144=some (Qgr 192):=by kernel_rfl
theorem h144:Has Tryz.prog 144 (Qgr 192):=⟨_,Tryz.func144,tcf144⟩
theorem tcf145:Qk Tryz.prog [] Tryz.f145=some (Qej 193 194):=by kernel_rfl
theorem h145:Has Tryz.prog 145 (Qej 193 194):=⟨_,Tryz.func145,tcf145⟩
theorem tcf192:Qk Tryz.prog [4] Tryz.f192=some (V0 217 218 219 301 5):=by kernel_rfl
theorem h192:HasT Tryz.prog [4] 192 (V0 217 218 219 301 5):=⟨_,Tryz.func192,tcf192⟩
theorem tcf193:Qk Tryz.prog [] Tryz.f193=some (Qbp):=by kernel_rfl
theorem h193:Has Tryz.prog 193 (Qbp):=⟨_,Tryz.func193,tcf193⟩
theorem tcf84:Qk Tryz.prog [] Tryz.f84=some (Qji):=by kernel_rfl
theorem tcf85:Qk Tryz.prog [] Tryz.f85=some (Qcf):=by kernel_rfl
theorem h85:Has Tryz.prog 85 (Qcf):=⟨_,Tryz.func85,tcf85⟩
theorem tcf86:Qk Tryz.prog [] Tryz.f86=some (Qba):=by kernel_rfl
theorem h86:Has Tryz.prog 86 (Qba):=⟨_,Tryz.func86,tcf86⟩
end
section
open Go Go.Zam Go.Proofs Go.Shelf
def Qqi:Ren:=⟨fun n=>match n with|240=>239|276=>249|169=>219|n=>n,fun t=>match t with|0=>0|3=>3|4=>4|5=>5|9=>9|20=>20|37=>299|70=>298|72=>301|127=>313|164=>319|n=>n,fun g=>g⟩
theorem lay240:Lays.n240 Tryz.prog Qqi where
 mixed:=by kernel_rfl
 f240:=Tryz.func239.trans (congrArg some (by kernel_rfl))
 f276:=Tryz.func249.trans (congrArg some (by kernel_rfl))
 t0:=by kernel_rfl
 a0:=Tryz.isAgg0
 z0:=fun _=>by kernel_rfl
 v0:=Tryz.zeroValue0
 t4:=by kernel_rfl
 a4:=Tryz.isAgg4
 z4:=fun _=>by kernel_rfl
 v4:=Tryz.zeroValue4
 t9:=by kernel_rfl
 a9:=Tryz.isAgg9
 z9:=fun _=>by kernel_rfl
 v9:=Tryz.zeroValue9
 t20:=by kernel_rfl
 a20:=Tryz.isAgg20
 z20:=fun _=>by kernel_rfl
 v20:=Tryz.zeroValue20
 t70:=by kernel_rfl
 a70:=Tryz.isAgg298
 z70:=fun _=>by kernel_rfl
 v70:=Tryz.zeroValue298
 t72:=by kernel_rfl
 a72:=Tryz.isAgg301
 z72:=fun _=>by kernel_rfl
 v72:=Tryz.zeroValue301
 t164:=by kernel_rfl
 a164:=Tryz.isAgg319
 z164:=fun _=>by kernel_rfl
 v164:=Tryz.zeroValue319
theorem lay169:Lays.n169 Tryz.prog Qqi where
 mixed:=by kernel_rfl
 f169:=Tryz.func219.trans (congrArg some (by kernel_rfl))
 t0:=by kernel_rfl
 a0:=Tryz.isAgg0
 z0:=fun _=>by kernel_rfl
 v0:=Tryz.zeroValue0
 t3:=by kernel_rfl
 a3:=Tryz.isAgg3
 z3:=fun _=>by kernel_rfl
 v3:=Tryz.zeroValue3
 t9:=by kernel_rfl
 a9:=Tryz.isAgg9
 z9:=fun _=>by kernel_rfl
 v9:=Tryz.zeroValue9
 t37:=by kernel_rfl
 a37:=Tryz.isAgg299
 z37:=fun _=>by kernel_rfl
 v37:=Tryz.zeroValue299
 t70:=by kernel_rfl
 a70:=Tryz.isAgg298
 z70:=fun _=>by kernel_rfl
 v70:=Tryz.zeroValue298
 t72:=by kernel_rfl
 a72:=Tryz.isAgg301
 z72:=fun _=>by kernel_rfl
 v72:=Tryz.zeroValue301
 t127:=by kernel_rfl
 a127:=Tryz.isAgg313
 z127:=fun _=>by kernel_rfl
 v127:=Tryz.zeroValue313
theorem Qoz:Builder.Extra Tryz.prog Qqi where
 sizeBuilder:=by kernel_rfl
 liesBuilder:=by kernel_rfl
 t5:=by kernel_rfl
 a5:=Tryz.isAgg5
 z5:=fun _=>by kernel_rfl
 v5:=Tryz.zeroValue5
 infoByte:=by kernel_rfl
 cellsByte:=by kernel_rfl
 sizeByte:=by kernel_rfl
 neB5:=by decide
theorem Qov{H:Hp}{i:Nat}{x a:A}(hi:H[i]?=some (.box 301 [a,x]))(ha:a=.d .nilp∨a=.ptr i 0) :
 Qc Tryz.prog 239 [.ptr i 0] H (fun r H'=>r=.tup []∧H'=H.set i (.box 301 [.ptr i 0,x])):=Qi0 lay240 Qoz.toX72 hi ha
theorem Qtc{H:Hp}{i t:Nat}{a:A}{s:List UInt8}(hi:H[i]?=some (.box 301 [a,.osl true 1 (Wz s) t]))(ht:H[t]?=some (.tok s.length 1 5))(hlen:s.length≤4611686018427387904) :
 Qc Tryz.prog 219 [.ptr i 0] H (fun r H'=>r=YS s∧H'=H):=Qmm lay169 Qoz hi ht hlen
end
section
open Go Go.Zam Go.Proofs
open Go.RowKit (Below)
theorem Qvr:Qrp Tryz.prog 217:=fun s c H=>by
 refine leaf (args:=[.str s,.int .u8 c.toNat]) (x := .int .i64 (Lib.indexByte s c)) (fun w σ vs _ hl hv => ?_) H
 match vs,hl with
 | [v0,v1],_ =>
 have e0:=(hv 0 v0 _ rfl rfl).str_inv;have e1:=(hv 1 v1 _ rfl rfl).int_inv;subst e0;subst e1;refine (Tryz.strings_IndexByte ⟨s.toArray⟩ c.toNat w).mono ?_;rintro e w' ⟨rfl,rfl⟩;refine⟨_,rfl,Below.refl _ _,fun σ => ?_⟩;have:(Int.toNat (c.toNat:Int)).toUInt8=c:=by simp
 rw[this];exact .int _ _
theorem Qt1:Qo9 Tryz.prog 194:=fun s p H=>by
 refine leaf (args:=[.str s,.str p]) (x := .bool (p.isPrefixOf s)) (fun w σ vs _ hl hv => ?_) H
 match vs,hl with
 | [v0,v1],_ =>
 have e0:=(hv 0 v0 _ rfl rfl).str_inv;have e1:=(hv 1 v1 _ rfl rfl).str_inv;subst e0;subst e1;refine (Tryz.strings_HasPrefix ⟨s.toArray⟩ ⟨p.toArray⟩ w).mono ?_;rintro e w' ⟨rfl,rfl⟩;exact⟨_,rfl,Below.refl _ _,fun σ => .bool _⟩
theorem Qut{H0:Hp}(hG:Qcl 0 1 2 3 H0):Qpd Tryz.prog H0 137:=fun s H hp=>by
 refine Qwg (args:=[.str s]) hG (fun w σ vs hT hl hv => ?_) H hp
 match vs,hl with
 | [v0],_ =>
 have e0:=(hv 0 v0 _ rfl rfl).str_inv;subst e0;refine (Tryz.utf8_DecodeRuneInString ⟨s.toArray⟩ w hT.1).mono ?_;rintro e w' ⟨rfl,hb⟩;refine⟨_,rfl,hb,fun κ => ?_⟩;rw[Qou];refine VR.tup [_,_] [_,_] rfl fun i v a hi ha => ?_
 match i with
 | 0=>cases hi;cases ha;exact .d (.int _ _)
 | 1=>cases hi;cases ha;exact .d (.int _ _)
 | i+2=>cases hi
theorem Qny(s:ByteArray)(hlim:s.size≤1048576)(w:World)(h0:∃ te pe,w.cell? ⟨2,0,none⟩=some (.iface te pe))(h1:∃ te pe,w.cell? ⟨3,0,none⟩=some (.iface te pe)) :
 Calls Tryz.prog 143 #[.string s] w fun e w'=>e=.returned (.int .i64 (if Qcb s.data.toList then 0 else 23))∧Below w.heap.size w w':=by
 obtain⟨t0,p0,h0⟩:=h0;obtain⟨t1,p1,h1⟩:=h1;rcases h:Lib.parseUintB 63 s.data.toList with u|_|_
 · have hr:Qcb s.data.toList=true:=by simp only[Qcb,h]
   rw[hr]
   go_enter Tryz.func143,Tryz.ntmps143
   go_wp2_with (go_at_call 191;refine (Any.strconv_ParseUint_10_at63_ok Tryz.laysPu14 s (by omega) u h _).mono ?_;rintro e w' ⟨rfl,hw⟩)
   go_wp2
   go_ret
   refine⟨by first|rfl|(congr 2;omega),?_⟩;rcases hw with rfl|rfl
   · exact Below.refl _ _
   · exact Lib.bytesWorld_below _ _ _
 · have hr:Qcb s.data.toList=false:=by simp only[Qcb,h]
   rw[hr]
   go_enter Tryz.func143,Tryz.ntmps143
   go_wp2_with (go_at_call 191;refine (Any.strconv_ParseUint_10_at63_syntax Tryz.laysPu14 s (by omega) h (.iface t0 p0) _ ?_ (.inr ⟨_,_,rfl⟩)).mono ?_)
   · exact h0
   rintro e W1 ⟨N,rfl,-,-,hb⟩
   go_wp2
   go_ret
   exact⟨rfl,hb⟩
 · have hr:Qcb s.data.toList=false:=by simp only[Qcb,h]
   rw[hr]
   go_enter Tryz.func143,Tryz.ntmps143
   go_wp2_with (go_at_call 191;refine (Any.strconv_ParseUint_10_at63_range Tryz.laysPu14 s (by omega) h (.iface t1 p1) _ ?_ (.inr ⟨_,_,rfl⟩)).mono ?_)
   · exact h1
   rintro e W1 ⟨N,rfl,-,-,hb⟩
   go_wp2
   go_ret
   exact⟨rfl,hb⟩
theorem Qt5{H0:Hp}(hG:Qcl 0 1 2 3 H0):Qwk Tryz.prog H0 143:=fun s H hp hl=>by
 refine Qwg (args:=[.str s]) (x := .d _) hG (fun w σ vs hT hl' hv => ?_) H hp
 match vs,hl' with
 | [v0],_ =>
 have e0:=(hv 0 v0 _ rfl rfl).str_inv;subst e0;refine (Qny ⟨s.toArray⟩ (by simpa[ByteArray.size] using hl) w hT.2.1 hT.2.2).mono ?_;rintro e w' ⟨rfl,hb⟩;exact⟨_,rfl,hb,fun κ => .d (.int _ _)⟩
theorem cfWB:Qk Tryz.prog [] Tryz.f218=some (Qcd 239 5):=by kernel_rfl
theorem Qxp:Qu4 Tryz.prog 239 301:=fun H i x a hi ha=>Qov hi ha
theorem Qs6:Qo7 Tryz.prog 218 301:=fun H i t a bs c=>Qiy Tryz.func218 cfWB Qxp H i t a bs c
theorem Qrz:Qo8 Tryz.prog 219 301:=fun H i t a s hi ht hl=>Qtc hi ht (by omega)
theorem Qrt(s:Bs)(H:Hp)(hs:s.length≤1048576):Qc Tryz.prog 192 [YS s] H (fun r H'=>r=unqR (unqV s)∧H'=H):=h192.unquote Qvr Qs6 Qrz s hs H
theorem Qkc:Y7 Tryz.prog 103 Wi:=h103.letter
theorem Qm3:Y7 Tryz.prog 105 Wj:=h105.digit
theorem Qq5(s:Bs)(H:Hp):Qc Tryz.prog 104 [YS s] H (fun r H'=>r=YB (decide (s ∈ Yx))∧H'=H):=h104.isKey h132 h131 h168 s H
theorem Qug(s:Bs)(H:Hp):Qc Tryz.prog 71 [YS s] H (fun r H'=>r=YB (V6 s)∧H'=H):=h71.isName Qkc Qm3 Qq5 s H
theorem Qwx{H:Hp}{i:Nat}{ts:TypeId}{text:Bs}{n:Nat}(hi:H[i]?=some (scan ts text n))(hn:n≤text.length)(hl:text.length≤1048576) :
 Qc Tryz.prog 142 [.ptr i 0] H (fun r H'=>r=YS ((text.drop n).take (Zam.runN Zam.wordB (text.drop n)))∧H'=H.set i (scan ts text (n+Zam.runN Zam.wordB (text.drop n)))) :=
 h142.word h138 (by kernel_rfl) (h190.wordB Qkc Qm3) hi hn (by omega)
theorem Qxe{H:Hp}{i:Nat}{text:Bs}{n:Nat}(hi:H[i]?=some (scan 199 text n))(hn:n≤text.length)(hl:text.length≤1048576) :
 Qc Tryz.prog 113 [.ptr i 0] H (fun r H'=>r=YS ((text.drop n).take (Qm false (text.drop n)))∧H'=H.set i (scan 199 text (n+Qm false (text.drop n)))) :=
 h113.lead h138 (by kernel_rfl) h139.blank (by kernel_rfl) h140.hash (by kernel_rfl) h141.noNl hi hn (by omega)
theorem Qxb{H0:Hp}(hG:Qcl 0 1 2 3 H0){H:Hp}{i:Nat}{text:Bs}{n:Nat}(hH:Pre0 H0 H)(h0i:H0.length≤i)(hi:H[i]?=some (scan 199 text n))(hn:n≤text.length)(hl:text.length≤1048576) :
 Qc Tryz.prog 114 [.ptr i 0] H (Qmg H i 199 text n (text.drop n) (tokN (text.drop n))) :=
 h114.next h138 (by kernel_rfl) Qkc (by kernel_rfl) Qm3 Qwx Qq5 (Qt5 hG) (fun hi hn hl=>h144.str Qrt hi hn hl) (fun hi hn hl=>h145.sign h193 Qt1 hi hn (by omega)) hH h0i hi hn hl
theorem badOk{H0:Hp}(hG:Qcl 0 1 2 3 H0)(s:Bs)(H:Hp)(hs:s.length≤1048576)(hH:Pre0 H0 H):Qc Tryz.prog 112 [YS s] H (fun r H'=>r=YI (badS s)∧H'=H):=h112.bad (Qut hG) s hs H hH
theorem lexOk{H0:Hp}(hG:Qcl 0 1 2 3 H0)(s:Bs)(hs:s.length≤1048576)(H:Hp)(hH:Pre0 H0 H) :
 Qc Tryz.prog 92 [YS s] H (fun r H'=>r=.tup [YL true 4 ((lexS s).1.map Qx),YI (lexS s).2.1,YI (lexS s).2.2]∧H'=H) :=
 h92.lex (badOk hG) Qxe (Qxb hG) s hs H hH
theorem Qty:Y7 Tryz.prog 85 Wj:=h85.digit
theorem Qr5:Y7 Tryz.prog 86 Wi:=h86.letter
theorem Qtq(s:Bs)(H:Hp):Qc Tryz.prog 84 [YS s] H (fun r H'=>r=YB (decide (s ∈ Yx))∧H'=H):=Qn7 Tryz.func84 tcf84 s H
end
section
open Go Go.Zam Go.Proofs
theorem pcf147:Qk Tryz.prog [] Tryz.f147=some (Qku 85):=by kernel_rfl
theorem ph147:Has Tryz.prog 147 (Qku 85):=⟨_,Tryz.func147,pcf147⟩
theorem pcf152:Qk Tryz.prog [] Tryz.f152=some (Qfj):=by kernel_rfl
theorem ph152:Has Tryz.prog 152 (Qfj):=⟨_,Tryz.func152,pcf152⟩
theorem pcf148:Qk Tryz.prog [] Tryz.f148=some (Qn9 147 85):=by kernel_rfl
theorem ph148:Has Tryz.prog 148 (Qn9 147 85):=⟨_,Tryz.func148,pcf148⟩
theorem pcf221:Qk Tryz.prog [] Tryz.f221=some (Qfi 148):=by kernel_rfl
theorem ph221:Has Tryz.prog 221 (Qfi 148):=⟨_,Tryz.func221,pcf221⟩
theorem pcf195:Qk Tryz.prog [] Tryz.f195=some (Qg5 221 152):=by kernel_rfl
theorem ph195:Has Tryz.prog 195 (Qg5 221 152):=⟨_,Tryz.func195,pcf195⟩
theorem pcf196:Qk Tryz.prog [] Tryz.f196=some (Qg3 147 152 85):=by kernel_rfl
theorem ph196:Has Tryz.prog 196 (Qg3 147 152 85):=⟨_,Tryz.func196,pcf196⟩
theorem pcf146:Qk Tryz.prog [10] Tryz.f146=some (Qha 35):=by kernel_rfl
theorem ph146:HasT Tryz.prog [10] 146 (Qha 35):=⟨_,Tryz.func146,pcf146⟩
theorem pcf153:Qk Tryz.prog [] Tryz.f153=some (Qhf 35):=by kernel_rfl
theorem ph153:Has Tryz.prog 153 (Qhf 35):=⟨_,Tryz.func153,pcf153⟩
theorem pcf149:Qk Tryz.prog [] Tryz.f149=some (Qkt 35):=by kernel_rfl
theorem ph149:Has Tryz.prog 149 (Qkt 35):=⟨_,Tryz.func149,pcf149⟩
theorem pcf222:Qk Tryz.prog [] Tryz.f222=some (Qhb 221 149 195):=by kernel_rfl
theorem ph222:Has Tryz.prog 222 (Qhb 221 149 195):=⟨_,Tryz.func222,pcf222⟩
theorem pcf115:Qk Tryz.prog [] Tryz.f115=some (Qhd 146 147 148 150 149 151 152 153 35):=by kernel_rfl
theorem ph115:Has Tryz.prog 115 (Qhd 146 147 148 150 149 151 152 153 35):=⟨_,Tryz.func115,pcf115⟩
theorem pcf150:Qk Tryz.prog [] Tryz.f150=some (Qkr 146 195 196 153 149 35):=by kernel_rfl
theorem ph150:Has Tryz.prog 150 (Qkr 146 195 196 153 149 35):=⟨_,Tryz.func150,pcf150⟩
theorem pcf151:Qk Tryz.prog [] Tryz.f151=some (Qkv 146 195 196 197 198 199 149 153 35):=by kernel_rfl
theorem ph151:Has Tryz.prog 151 (Qkv 146 195 196 197 198 199 149 153 35):=⟨_,Tryz.func151,pcf151⟩
theorem pcf197:Qk Tryz.prog [] Tryz.f197=some (Qc9 146 195 223 222 153 203 35):=by kernel_rfl
theorem ph197:Has Tryz.prog 197 (Qc9 146 195 223 222 153 203 35):=⟨_,Tryz.func197,pcf197⟩
theorem pcf223:Qk Tryz.prog [] Tryz.f223=some (Qeu 146 196 198 149 153 35):=by kernel_rfl
theorem ph223:Has Tryz.prog 223 (Qeu 146 196 198 149 153 35):=⟨_,Tryz.func223,pcf223⟩
theorem pcf198:Qk Tryz.prog [] Tryz.f198=some (Qet 221 224 35):=by kernel_rfl
theorem ph198:Has Tryz.prog 198 (Qet 221 224 35):=⟨_,Tryz.func198,pcf198⟩
theorem pcf224:Qk Tryz.prog [] Tryz.f224=some (Qhc 146 221 240 222 195 224 149 152 153 203 35):=by kernel_rfl
theorem ph224:Has Tryz.prog 224 (Qhc 146 221 240 222 195 224 149 152 153 203 35):=⟨_,Tryz.func224,pcf224⟩
theorem pcf240:Qk Tryz.prog [] Tryz.f240=some (Qc8 146 196 195 224 149 153 35):=by kernel_rfl
theorem ph240:Has Tryz.prog 240 (Qc8 146 196 195 224 149 153 35):=⟨_,Tryz.func240,pcf240⟩
theorem pcf199:Qk Tryz.prog [] Tryz.f199=some (Qew 146 195 221 225 149 153 35):=by kernel_rfl
theorem ph199:Has Tryz.prog 199 (Qew 146 195 221 225 149 153 35):=⟨_,Tryz.func199,pcf199⟩
theorem pcf225:Qk Tryz.prog [] Tryz.f225=some (Qg7 146 221 196 198 149 195 241 199 153 242 35):=by kernel_rfl
theorem ph225:Has Tryz.prog 225 (Qg7 146 221 196 198 149 195 241 199 153 242 35):=⟨_,Tryz.func225,pcf225⟩
theorem pcf242:Qk Tryz.prog [] Tryz.f242=some (Qg8 147 85):=by kernel_rfl
theorem ph242:Has Tryz.prog 242 (Qg8 147 85):=⟨_,Tryz.func242,pcf242⟩
theorem pcf241:Qk Tryz.prog [] Tryz.f241=some (Qhe 250 221 251 35):=by kernel_rfl
theorem ph241:Has Tryz.prog 241 (Qhe 250 221 251 35):=⟨_,Tryz.func241,pcf241⟩
theorem pcf251:Qk Tryz.prog [] Tryz.f251=some (Qg4 35):=by kernel_rfl
theorem ph251:Has Tryz.prog 251 (Qg4 35):=⟨_,Tryz.func251,pcf251⟩
theorem pcf250:Qk Tryz.prog [] Tryz.f250=some (Qks 254 221 251 35):=by kernel_rfl
theorem ph250:Has Tryz.prog 250 (Qks 254 221 251 35):=⟨_,Tryz.func250,pcf250⟩
theorem pcf254:Qk Tryz.prog [] Tryz.f254=some (Qg6 257 221 251 35):=by kernel_rfl
theorem ph254:Has Tryz.prog 254 (Qg6 257 221 251 35):=⟨_,Tryz.func254,pcf254⟩
theorem pcf257:Qk Tryz.prog [15] Tryz.f257=some (Qg9 263 221 196 241 222 153 35):=by kernel_rfl
theorem ph257:HasT Tryz.prog [15] 257 (Qg9 263 221 196 241 222 153 35):=⟨_,Tryz.func257,pcf257⟩
theorem pcf263:Qk Tryz.prog [4000000] Tryz.f263=some (Qhg 146 147 196 221 241 149 195 269 222 197 198 199 152 153 203 35 85):=by kernel_rfl
theorem ph263:HasT Tryz.prog [4000000] 263 (Qhg 146 147 196 221 241 149 195 269 222 197 198 199 152 153 203 35 85):=⟨_,Tryz.func263,pcf263⟩
theorem pcf269:Qk Tryz.prog [] Tryz.f269=some (Qev 146 196 195 241 149 153 35):=by kernel_rfl
theorem ph269:Has Tryz.prog 269 (Qev 146 196 195 241 149 153 35):=⟨_,Tryz.func269,pcf269⟩
theorem pcf93:Qk Tryz.prog [] Tryz.f93=some (Qa9 115 116 35 205):=by kernel_rfl
theorem ph93:Has Tryz.prog 93 (Qa9 115 116 35 205):=⟨_,Tryz.func93,pcf93⟩
theorem pcf64:Qk Tryz.prog [] Tryz.f64=some (Qn8 92 93 35):=by kernel_rfl
theorem ph64:Has Tryz.prog 64 (Qn8 92 93 35):=⟨_,Tryz.func64,pcf64⟩
theorem pcf116:Qk Tryz.prog [] Tryz.f116=some (Qc1 116 35):=by kernel_rfl
theorem ph116:Has Tryz.prog 116 (Qc1 116 35):=⟨_,Tryz.func116,pcf116⟩
def F:PF := { now:=147,fail:=152,is:=148,took:=221,want:=195,word:=196,node:=146,done:=153,put:=149,list:=222,file:=115,use_:=150,def_:=151,params:=197,param:=223,typed:=198,kind:=224,tfield:=240,block:=199,stmt:=225,sets:=242,expr:=241,with_:=251,sum:=250,term:=254,post:=257,atom:=263,entry:=269,tn:=35,tt:=85,tp:=205,tb:=203 }
theorem has:PHas Tryz.prog F where
 now:=ph147
 fail:=ph152
 is:=ph148
 took:=ph221
 want:=ph195
 word:=ph196
 node:=ph146
 done:=ph153
 put:=ph149
 list:=ph222
 file:=ph115
 use_:=ph150
 def_:=ph151
 params:=ph197
 param:=ph223
 typed:=ph198
 kind:=ph224
 tfield:=ph240
 block:=ph199
 stmt:=ph225
 sets:=ph242
 expr:=ph241
 with_:=ph251
 sum:=ph250
 term:=ph254
 post:=ph257
 atom:=ph263
 entry:=ph269
 kParam:=by kernel_rfl
 kTField:=by kernel_rfl
 kKind:=by kernel_rfl
 kExpr:=by kernel_rfl
 kSum:=by kernel_rfl
 kTerm:=by kernel_rfl
 kPost:=by kernel_rfl
 kEntry:=by kernel_rfl
theorem Qvl(z:Bool)(L:List Tk)(hL:L.length≤1048576)(hEq:∀ i,isT L i [61]=true→kdT L i=5)(H:Hp):Qc Tryz.prog 93 [YL z 4 (L.map Qx)] H (fun r H'=>r=.tup [(Qy L).1.v,YI (Qy L).2.1,YI (Qy L).2.2]∧H'=H):=Has.parse (F:=F) ph93 has ph116 hL hEq H
theorem ofOk{H0:Hp}(hG:Qcl 0 1 2 3 H0)(s:Bs)(hs:s.length≤1048576)(H:Hp)(hH:Pre0 H0 H):Qc Tryz.prog 64 [YS s] H (fun r H'=>r=.tup [YL true 4 ((Q0 s).1.map Qx),(Q0 s).2.1.v,YI (Q0 s).2.2.1,YI (Q0 s).2.2.2]∧H'=H):=Has.of_ ph64 (fun s hs H hH=>lexOk hG s hs H hH) Qvl s hs H hH
end
end Go.Proofs.Zi
namespace Go.Zam
variable{P:Program}
section
open Go.Proofs
def Qmw(c1 c2 t1:Nat):IFn:=by
 have h:=Ix.J [] Tryz.f66 [(98,c1),(99,c2)] [(35,t1)] [(6,(.o 0 (.o 1 (.o 2 (.o 3 (.o 7 (.b (.o 4 (.o 5 (.b (.o 6 (.o 8 (.o 9 (.o 10 .n)))) (.o 8 (.o 9 (.o 6 (.o 10 .n))))))) (.o 8 (.o 9 (.o 4 (.o 5 (.o 6 (.o 10 .n)))))))))))))];conv at h=>arg 1;reduce
 exact h.p
def Qan(c1 c2 t1 t2:Nat):IFn:=by
 have h:=Ix.J [] Tryz.f99 [(125,c1),(126,c2)] [(35,t1),(219,t2)] [(6,(.o 0 (.o 1 (.o 2 (.o 3 (.b (.o 4 (.o 5 (.o 6 (.o 7 .n)))) (.o 5 (.o 6 (.o 4 (.o 7 .n))))))))))];conv at h=>arg 1;reduce
 exact h.p
def Qep(c1 c2 c3 c4 c5 t1:Nat):IFn:=by
 have h:=Ix.J [9] Tryz.f243 [(162,c1),(203,c2),(204,c3),(243,c4),(165,c5)] [(35,t1)];conv at h=>arg 1;reduce
 exact h.p
def Qc6(c1 t1:Nat):IFn:=by
 have h:=Ix.J [] Tryz.f126 [(126,c1)] [(35,t1)];conv at h=>arg 1;reduce
 exact h.p
def Qkm(c1 c2 c3 c4 t1:Nat):IFn:=by
 have h:=Ix.J [4] Tryz.f125 [(162,c1),(163,c2),(164,c3),(165,c4)] [(35,t1)];conv at h=>arg 1;reduce
 exact h.p
def Qh7(t1:Nat):IFn:=by
 have h:=Ix.J [] Tryz.f162 [] [(85,t1)];conv at h=>arg 1;reduce
 exact h.p
def Qc3(t1:Nat):IFn:=by
 have h:=Ix.J [] Tryz.f203 [] [(35,t1)];conv at h=>arg 1;reduce
 exact h.p
def Qc4(c1:Nat):IFn:=by
 have h:=Ix.J [] Tryz.f204 [(162,c1)] [];conv at h=>arg 1;reduce
 exact h.p
def Qao(t1:Nat):IFn:=by
 have h:=Ix.J [] Tryz.f165 [] [(35,t1)];conv at h=>arg 1;reduce
 exact h.p
def Qmv(c1 c2 c3 t1:Nat):IFn:=by
 have h:=Ix.J [] Tryz.f163 [(203,c1),(204,c2),(165,c3)] [(35,t1)];conv at h=>arg 1;reduce
 exact h.p
def Qmx(c1 c2 c3 c4 t1:Nat):IFn:=by
 have h:=Ix.J [] Tryz.f164 [(204,c1),(203,c2),(205,c3),(165,c4)] [(35,t1)];conv at h=>arg 1;reduce
 exact h.p
def Qf6(c1 c2 c3 t1:Nat):IFn:=by
 have h:=Ix.J [] Tryz.f205 [(227,c1),(228,c2),(229,c3)] [(35,t1)];conv at h=>arg 1;reduce
 exact h.p
def Qdr(c1 c2 c3 c4 c5 t1:Nat):IFn:=by
 have h:=Ix.J [7] Tryz.f227 [(204,c1),(162,c2),(203,c3),(228,c4),(165,c5)] [(35,t1)];conv at h=>arg 1;reduce
 exact h.p
def Qc5(c1 c2 t1:Nat):IFn:=by
 have h:=Ix.J [] Tryz.f228 [(162,c1),(243,c2)] [(35,t1)];conv at h=>arg 1;reduce
 exact h.p
def Qfg(c1 c2 c3 c4 t1:Nat):IFn:=by
 have h:=Ix.J [7] Tryz.f229 [(204,c1),(162,c2),(244,c3),(165,c4)] [(35,t1)];conv at h=>arg 1;reduce
 exact h.p
def Zd(c1 c2 c3 c4 c5 c6 c7 t1:Nat):IFn:=by
 have h:=Ix.J [8,47] Tryz.f244 [(162,c1),(252,c2),(229,c3),(165,c4),(203,c5),(228,c6),(204,c7)] [(35,t1)];conv at h=>arg 1;reduce
 exact h.p
def Qgw(c1 c2 c3 t1:Nat):IFn:=by
 have h:=Ix.J [] Tryz.f252 [(255,c1),(162,c2),(165,c3)] [(35,t1)];conv at h=>arg 1;reduce
 exact h.p
def Qjd(c1 c2 c3 t1:Nat):IFn:=by
 have h:=Ix.J [] Tryz.f255 [(258,c1),(162,c2),(165,c3)] [(35,t1)];conv at h=>arg 1;reduce
 exact h.p
def Qgu(c1 c2 c3 t1:Nat):IFn:=by
 have h:=Ix.J [] Tryz.f258 [(264,c1),(162,c2),(165,c3)] [(35,t1)];conv at h=>arg 1;reduce
 exact h.p
def Qgv(c1 c2 c3 c4 c5 c6 t1:Nat):IFn:=by
 have h:=Ix.J [10,56] Tryz.f264 [(270,c1),(162,c2),(203,c3),(165,c4),(252,c5),(204,c6)] [(35,t1)];conv at h=>arg 1;reduce
 exact h.p
def Ze(c1 c2 c3 c4 c5 c6 t1 t2:Nat):IFn:=by
 have h:=Ix.J [11] Tryz.f270 [(162,c1),(252,c2),(204,c3),(165,c4),(203,c5),(205,c6)] [(35,t1),(85,t2)];conv at h=>arg 1;reduce
 exact h.p
def Qgy(c1 c2 c3 t1:Nat):IFn:=by
 have h:=Ix.J [6] Tryz.f98 [(122,c1),(123,c2),(124,c3)] [(85,t1)];conv at h=>arg 1;reduce
 exact h.p
def Qgz :IFn:=by
 have h:=Ix.J [] Tryz.f123 [] [];conv at h=>arg 1;reduce
 exact h.p
def Qje(c1 c2 c3 c4:Nat):IFn:=by
 have h:=Ix.J [] Tryz.f124 [(86,c1),(85,c2),(84,c3),(161,c4)] [];conv at h=>arg 1;reduce
 exact h.p
def Qjf(c1:Nat):IFn:=by
 have h:=Ix.J [] Tryz.f122 [(160,c1)] [];conv at h=>arg 1;reduce
 exact h.p
def Yz(c1:Nat):IFn:=by
 have h:=Ix.J [] Tryz.f160 [(202,c1)] [];conv at h=>arg 1;reduce
 exact h.p
def Qg0 :IFn:=by
 have h:=Ix.J [] Tryz.f202 [] [];conv at h=>arg 1;reduce
 exact h.p
def Zf :IFn:=by
 have h:=Ix.J [] Tryz.f161 [] [];conv at h=>arg 1;reduce
 exact h.p
end
section
def Qck(b:UInt8):Bool:=decide ((128:Int)≤b.toNat)&&decide ((b.toNat:Int)<192)
theorem Qox{s:Bs}{n k:Nat}(h:n+k<s.length):Yb s ((n:Int)+k)=some ((s.drop n).getD k 0):=by
 have e:((n:Int)+k)=((n+k:Nat):Int):=by omega
 rw[e,Z0,Qz4,Qz0,Qx4 h];rfl
theorem dec_0{n b0 b1 b2 b3:Nat}(h:b0<128):Lib.decodeN n b0 b1 b2 b3=(b0,1):=by simp[Lib.decodeN,h]
theorem Quu{n b0 b1 b2 b3:Nat}(h:¬ b0<128)(h2:¬ (192≤b0∧b0<248)):Lib.decodeN n b0 b1 b2 b3=(65533,1):=by
 unfold Lib.decodeN;rw[if_neg h,if_neg (by omega),if_neg (by omega),if_neg (by omega)]
theorem dec_2{n b0 b1 b2 b3:Nat}(h:192≤b0∧b0<224):Lib.decodeN n b0 b1 b2 b3=if 1<n∧(128≤b1∧b1<192)∧128≤(b0-192)*64+(b1-128) then ((b0-192)*64+(b1-128),2) else (65533,1):=by
 unfold Lib.decodeN;rw[if_neg (by omega)];by_cases h1:1<n∧(128≤b1∧b1<192)
 · have e:b0 % 32*64+b1 % 64=(b0-192)*64+(b1-128):=by omega
   rw[if_pos (by omega),e];by_cases h3:128≤(b0-192)*64+(b1-128)
   · rw[if_pos h3,if_pos ⟨h1.1,h1.2,h3⟩]
   · rw[if_neg (by omega),if_neg (by omega)]
 · rw[if_neg (by omega),if_neg (by omega),if_neg (by omega),if_neg (fun q=>h1 ⟨q.1,q.2.1⟩)]
theorem dec_3{n b0 b1 b2 b3:Nat}(h:224≤b0∧b0<240):Lib.decodeN n b0 b1 b2 b3=if 2<n∧(128≤b1∧b1<192)∧(128≤b2∧b2<192)∧2048≤(b0-224)*4096+(b1-128)*64+(b2-128)∧¬ (55296≤(b0-224)*4096+(b1-128)*64+(b2-128)∧(b0-224)*4096+(b1-128)*64+(b2-128)<57344) then ((b0-224)*4096+(b1-128)*64+(b2-128),3) else (65533,1):=by
 unfold Lib.decodeN;rw[if_neg (by omega),if_neg (by omega)];by_cases h1:2<n∧(128≤b1∧b1<192)∧(128≤b2∧b2<192)
 · have e:b0 % 16*4096+b1 % 64*64+b2 % 64=(b0-224)*4096+(b1-128)*64+(b2-128):=by omega
   rw[if_pos (by omega),e];generalize hV:(b0-224)*4096+(b1-128)*64+(b2-128)=V;by_cases h3:2048≤V∧¬ (55296≤V∧V<57344)
   · rw[if_pos (by omega),if_pos ⟨h1.1,h1.2.1,h1.2.2,h3⟩]
   · rw[if_neg (by omega),if_neg (fun q=>h3 q.2.2.2)]
 · rw[if_neg (by omega),if_neg (by omega),if_neg (fun q=>h1 ⟨q.1,q.2.1,q.2.2.1⟩)]
theorem dec_4{n b0 b1 b2 b3:Nat}(h:240≤b0∧b0<248):Lib.decodeN n b0 b1 b2 b3=if 3<n∧(128≤b1∧b1<192)∧(128≤b2∧b2<192)∧(128≤b3∧b3<192)∧65536≤(b0-240)*262144+(b1-128)*4096+(b2-128)*64+(b3-128)∧(b0-240)*262144+(b1-128)*4096+(b2-128)*64+(b3-128)≤1114111 then ((b0-240)*262144+(b1-128)*4096+(b2-128)*64+(b3-128),4) else (65533,1):=by
 unfold Lib.decodeN;rw[if_neg (by omega),if_neg (by omega),if_neg (by omega)];by_cases h1:3<n∧(128≤b1∧b1<192)∧(128≤b2∧b2<192)∧(128≤b3∧b3<192)
 · have e:b0 % 8*262144+b1 % 64*4096+b2 % 64*64+b3 % 64=(b0-240)*262144+(b1-128)*4096+(b2-128)*64+(b3-128):=by omega
   rw[if_pos (by omega),e];generalize hV:(b0-240)*262144+(b1-128)*4096+(b2-128)*64+(b3-128)=V;by_cases h3:65536≤V∧V≤1114111
   · rw[if_pos (by omega),if_pos ⟨h1.1,h1.2.1,h1.2.2.1,h1.2.2.2,h3⟩]
   · rw[if_neg (by omega),if_neg (fun q=>h3 q.2.2.2.2)]
 · rw[if_neg (by omega),if_neg (fun q=>h1 ⟨q.1,q.2.1,q.2.2.1,q.2.2.2.1⟩)]
def Qrd(S:Bs):Bool := !(decide ((decU S).1=65533)&&decide ((decU S).2=1))
def Qnc(S:Bs)(H:Hp):A→Hp→Prop:=fun r H'=>∃ v:Int,r=.tup [YI v,YI ((decU S).2:Int),YB (Qrd S)]∧H'=H
theorem Has.more3{f}(h:Has P f Qg0):Y7 P f Qck:=fun b H=>by
 refine Qf h (by simp[Qg0]) fun hcl _ => ?_;simp[Qg0];generalize ha:decide ((128:Int)≤b.toNat)=a;generalize hb:decide ((b.toNat:Int)<192)=c;have hl:Qck b=(a&&c):=by simp only[Qck,ha,hb]
 cases a<;>cases c<;>simp[ha,hb]<;>simp[RetK,Qb hcl,hl]
def C.fst:C→C
 | .seq a _=>a
 | c=>c
def C.snd:C→C
 | .seq _ b=>b
 | c=>c
def W3(B:Nat→UInt8)(v:Int):Nat→Int
 | 0=>v
 | k+1=>W3 B v k*64+(B (k+1)).toNat-128
theorem Qwi{B:Nat→UInt8}{v:Int}(h:0≤v∧v≤31):∀ k,(∀ j,1≤j→j≤k→Qck (B j)=true)→k≤3→0≤W3 B v k∧W3 B v k≤32*64 ^ k-1
 | 0,_,_=>by simp[W3];omega
 | k + 1, hc, hk => by
   have h1:=Qwi h k (fun j a b=>hc j a (by omega)) (by omega);have h2:=hc (k+1) (by omega) (Qx6 _);simp only[Qck,Qyn,decide_eq_true_eq]at h2;have e:(64:Int) ^ (k+1)=64 ^ k*64:=Int.pow_succ ..;simp only[W3,e];omega
theorem Has.next3{f fm}(h:Has P f (Yz fm))(hm:Y7 P fm Qck)(s:Bs)(n:Nat)(hn:n<s.length)(hl:s.length≤1048576)(H:Hp) :
 Qc P f [YS s,YI n] H (Qnc (s.drop n) H):=by
 refine Qf h (by simp[Yz]) fun hcl _ => ?_;have hB:=fun k (hk:n+k<s.length)=>Qox (s:=s) (n:=n) (k:=k) hk;have hne:s.drop n≠[]:=fun e=>by have:=Qze.1 e;omega
 have hD:=Qv0 hne;have hSl:(s.drop n).length=s.length-n:=by simp
 rw[hSl]at hD;have hfin:∀(v N:Int)(ok:Bool),N=((decU (s.drop n)).2:Int)→ok=Qrd (s.drop n)→Qnc (s.drop n) H (.tup [YI v,YI N,YB ok]) H:=fun v N ok h1 h2=>⟨v,by rw[h1,h2],rfl⟩;unfold Qrd at hfin;generalize Qnc (s.drop n) H=Q at hfin ⊢;generalize decU (s.drop n)=D at hD hfin;obtain⟨B,hBe⟩:∃ B:Nat→UInt8,∀ k,(s.drop n).getD k 0=B k:=⟨_,fun _=>rfl⟩;simp only[hBe]at hB hD;clear hBe;have hb0:=hB 0 (by omega);simp only[Q1c,Q0l]at hb0;have hwb:∀ b:UInt8,IntKind.i64.wrap (b.toNat:Int)=b.toNat:=fun b=>Qgf (by have:=b.toNat_lt;omega) (by have:=b.toNat_lt;omega);have hno:D=(65533,1)→∀ v,Q (.tup [YI v,YI 1,YB false]) H:=fun e v=>hfin _ _ _ (by rw[e];rfl) (by rw[e];rfl);have rest:∀(fr:Fr)(z m:Nat)(lo v0:Int),z=m+1→fr 0=YS s→fr 1=YI n→fr 8=YI z→fr 9=YI v0→fr 10=YI lo→2≤z→z≤4→n+z≤s.length→(0≤v0∧v0≤31) →
  ((∀ j,1≤j→j<z→Qck (B j)=true)∧lo≤W3 B v0 m∧W3 B v0 m≤1114111∧¬ (55296≤W3 B v0 m∧W3 B v0 m<57344)→D.2=z) →
  (¬ ((∀ j,1≤j→j<z→Qck (B j)=true)∧lo≤W3 B v0 m∧W3 B v0 m≤1114111∧¬ (55296≤W3 B v0 m∧W3 B v0 m<57344))→D=(65533,1)) →
  AWp P H.length (Yz fm).body.snd.snd.snd.snd.snd.snd.snd.snd (Fin (Yz fm).res H.length Q) fr H:=by
  intro fr z m lo v0 zm f0 f1 f8 f9 f10 z2 z4 hz hv hg hw;simp[Yz,C.snd];refine Qq 0 (fun fr H'=>fr 8=YI z∧fr 10=YI lo∧fr 9=YI (W3 B v0 m)∧H'=H∧∀ j,1≤j→j<z→Qck (B j)=true) (fun fr H'=>fr 4=YI 65533∧fr 5=YI 1∧fr 6=YB false∧H'=H∧¬ ∀ j,1≤j→j<z→Qck (B j)=true) ?_ ?_ ?_
  · refine Qz H.length (fun d fr H'=>∃ k:Nat,d=5-(k+1)∧k+1≤z∧fr 0=YS s∧fr 1=YI n∧fr 8=YI z∧fr 10=YI lo∧fr 11=YI ((k:Int)+1)∧fr 9=YI (W3 B v0 k)∧H'=H∧∀ j,1≤j→j≤k→Qck (B j)=true) 4 (by simp) ⟨0,rfl,by omega,by simp[f0,f1,f8,f9,f10,W3,Qb hcl];omega⟩ ?_;rintro d fr H' ⟨k,rfl,kz,f0,f1,f8,f10,f11,f9,rfl,hc⟩;by_cases hk:k+1<z
    · have hk':(k:Int)+1<z:=by omega
      have B1:=hB (k+1) (by omega);rw[Qzv,Q1v]at B1;have hW:=Qwi hv k hc (by omega);have h64:(64:Int) ^ k≤64 ^ 3:=by
       have:k=0∨k=1∨k=2:=by omega
       rcases this with rfl|rfl|rfl<;>decide
      have l1:=(B (k+1)).toNat_lt;have w0:IntKind.i64.wrap ((n:Int)+(k+1))=n+(k+1):=wi64 (by omega);have w1:IntKind.i64.wrap (W3 B v0 k*64)=W3 B v0 k*64:=wi64 (by omega);have w2:IntKind.i64.wrap (W3 B v0 k*64+(B (k+1)).toNat)=W3 B v0 k*64+(B (k+1)).toNat:=wi64 (by omega);have w3:IntKind.i64.wrap (W3 B v0 k*64+(B (k+1)).toNat-128)=W3 B v0 k*64+(B (k+1)).toNat-128:=wi64 (by omega);have w4:IntKind.i64.wrap ((k:Int)+1+1)=k+1+1:=wi64 (by omega);simp[f0,f1,f8,f11,w0,B1,hk'];refine Qa (hm (B (k+1)) _) ?_;cases hcb:Qck (B (k+1)) with
      | false =>
        simp;exact⟨k+1,by omega,hk,hcb⟩
      | true =>
        simp[f0,f1,f8,f9,f11,w0,B1,hwb,w1,w2,w3];refine Qe H'.length (5-(k+1+1)) (Qx6 _) (by simp) (by omega) ⟨k+1,rfl,by omega,?_⟩;simp[f0,f1,f8,f10,w4,W3,Qb hcl];intro j a b;rcases Qz6 k j with q|q
        · rwa[show j=k+1 by omega]
        · exact hc j a q
    · have e:m=k:=by omega
      have hk':¬ (k:Int)+1<z:=by omega
      simp[f8,f11,hk'];simp[f8,f9,f10,e];exact fun j a b=>hc j a (by omega)
  · rintro fr H' ⟨f4,f5,f6,rfl,hc⟩;simp;simp[RetK,Qb hcl,f4,f5,f6];exact hno (hw fun q=>hc q.1) _
  · rintro fr H' ⟨f8,f10,f9,rfl,hc⟩;generalize W3 B v0 m=V at f9 hg hw;have good:lo≤V∧V≤1114111∧¬ (55296≤V∧V<57344)→Q (.tup [YI V,YI z,YB true]) H':=fun q=>by
     have e:=hg ⟨hc,q⟩;exact hfin _ _ _ (by rw[e]) (by rw[e];simp;omega)
    have bad:¬ (lo≤V∧V≤1114111∧¬ (55296≤V∧V<57344))→D=(65533,1):=fun q=>hw fun r=>q r.2;by_cases r1:V<lo
    · simp[f8,f9,f10,r1];simp[RetK,Qb hcl];exact hno (bad (by omega)) _
    by_cases r2:1114111<V
    · simp[f8,f9,f10,r1,r2];simp[RetK,Qb hcl];exact hno (bad (by omega)) _
    by_cases r3:55296≤V<;>by_cases r4:V<57344
    case pos =>
     simp[f8,f9,f10,r1,r2,r3,r4];simp[RetK,Qb hcl];exact hno (bad (by omega)) _
    all_goals
     simp[f8,f9,f10,r1,r2,r3,r4];simp[RetK,Qb hcl,f8,f9];exact good (by omega)
 generalize hT:(Yz fm).body.snd.snd.snd.snd.snd.snd.snd.snd=T at rest;have hbody:(Yz fm).body=.seq (Yz fm).body.fst (.seq (Yz fm).body.snd.fst (.seq (Yz fm).body.snd.snd.fst (.seq (Yz fm).body.snd.snd.snd.fst (.seq (Yz fm).body.snd.snd.snd.snd.fst (.seq (Yz fm).body.snd.snd.snd.snd.snd.fst (.seq (Yz fm).body.snd.snd.snd.snd.snd.snd.fst (.seq (Yz fm).body.snd.snd.snd.snd.snd.snd.snd.fst T))))))):=by rw[← hT];rfl
 rw[hbody];clear hbody hT;simp[Yz,C.fst,C.snd,hb0,hwb];have hcont:∀ b:UInt8,Qck b=true↔128≤b.toNat∧b.toNat<192:=fun b=>by simp[Qck];omega
 have l0:=(B 0).toNat_lt;by_cases c0:(B 0).toNat<128
 · have c0':((B 0).toNat:Int)<128:=by omega
   rw[dec_0 c0]at hD;simp[c0'];simp[RetK,Qb hcl];exact hfin _ _ _ (by rw[hD];rfl) (by rw[hD];simp;omega)
 have c0':¬ ((B 0).toNat:Int)<128:=by omega
 have wsub:∀ k:Int,0≤k→k≤1000→IntKind.i64.wrap (((B 0).toNat:Int)-k)=(B 0).toNat-k:=fun k _ _=>wi64 (by omega);have wsn:IntKind.i64.wrap ((s.length:Int)-n)=s.length-n:=wi64 (by omega);by_cases cN:192≤(B 0).toNat∧(B 0).toNat<248
 case neg =>
  rw[Quu c0 cN]at hD;by_cases x2:(192:Int)≤(B 0).toNat
  · simp[c0',x2,show ¬ ((B 0).toNat:Int)<224 by omega,show (224:Int)≤(B 0).toNat by omega,show ¬ ((B 0).toNat:Int)<240 by omega,show (240:Int)≤(B 0).toNat by omega,show ¬ ((B 0).toNat:Int)<248 by omega];simp[RetK,Qb hcl];exact hno hD _
  · simp[c0',x2,show ¬ (224:Int)≤(B 0).toNat by omega,show ¬ (240:Int)≤(B 0).toNat by omega];simp[RetK,Qb hcl];exact hno hD _
 have fit:∀ z:Nat,(s.length-n<z∧(s.length:Int)-n<z)∨(n+z≤s.length∧¬ (s.length:Int)-n<z):=fun z=>by omega
 have x0:(192:Int)≤(B 0).toNat:=by omega
 by_cases c2:(B 0).toNat<224
 · rw[dec_2 ⟨cN.1,c2⟩]at hD;simp[c0',x0,show ((B 0).toNat:Int)<224 by omega,show ¬ (224:Int)≤(B 0).toNat by omega,show ¬ (240:Int)≤(B 0).toNat by omega,wsub 192 (by omega) (by omega)];rcases fit 2 with⟨hL,hL'⟩|⟨hL,hL'⟩<;>simp only[Q13]at hL'<;>simp[wsn,hL']
   · simp[RetK,Qb hcl];exact hno (by rw[hD,if_neg (by omega)]) _
   · refine rest _ 2 1 128 ((B 0).toNat-192) rfl (by simp) (by simp) (by simp) (by simp) (by simp) (by omega) (by omega) hL (by omega) ?_ ?_
     · rintro⟨q1,q2,q3,q4⟩;have h1:=(hcont _).1 (q1 1 (by omega) (by omega));simp only[W3,Nat.reduceAdd]at q2 q4;rw[hD,if_pos (by omega)]
     · intro q;rw[hD,if_neg];rintro⟨a,b,c⟩;refine q ⟨fun j j1 j2 => ?_,by simp only[W3,Nat.reduceAdd];omega,by simp only[W3,Nat.reduceAdd];omega,by simp only[W3,Nat.reduceAdd];omega⟩;obtain rfl:j=1:=by omega
       exact(hcont _).2 b
 by_cases c3:(B 0).toNat<240
 · rw[dec_3 ⟨by omega,c3⟩]at hD;simp[c0',x0,show ¬ ((B 0).toNat:Int)<224 by omega,show (224:Int)≤(B 0).toNat by omega,show ((B 0).toNat:Int)<240 by omega,show ¬ (240:Int)≤(B 0).toNat by omega,wsub 224 (by omega) (by omega)];rcases fit 3 with⟨hL,hL'⟩|⟨hL,hL'⟩<;>simp only[Q13]at hL'<;>simp[wsn,hL']
   · simp[RetK,Qb hcl];exact hno (by rw[hD,if_neg (by omega)]) _
   · refine rest _ 3 2 2048 ((B 0).toNat-224) rfl (by simp) (by simp) (by simp) (by simp) (by simp) (by omega) (by omega) hL (by omega) ?_ ?_
     · rintro⟨q1,q2,q3,q4⟩;have h1:=(hcont _).1 (q1 1 (by omega) (by omega));have h2:=(hcont _).1 (q1 2 (by omega) (by omega));simp only[W3,Nat.reduceAdd]at q2 q4;rw[hD,if_pos (by omega)]
     · intro q;rw[hD,if_neg];rintro⟨a,b,c,d,e⟩;refine q ⟨fun j j1 j2 => ?_,by simp only[W3,Nat.reduceAdd];omega,by simp only[W3,Nat.reduceAdd];omega,by simp only[W3,Nat.reduceAdd];omega⟩;obtain rfl|rfl:j=1∨j=2:=by omega
       · exact(hcont _).2 b
       · exact(hcont _).2 c
 · rw[dec_4 ⟨by omega,cN.2⟩]at hD;simp[c0',x0,show ¬ ((B 0).toNat:Int)<224 by omega,show (224:Int)≤(B 0).toNat by omega,show ¬ ((B 0).toNat:Int)<240 by omega,show (240:Int)≤(B 0).toNat by omega,show ((B 0).toNat:Int)<248 by omega,wsub 240 (by omega) (by omega)];rcases fit 4 with⟨hL,hL'⟩|⟨hL,hL'⟩<;>simp only[Q13]at hL'<;>simp[wsn,hL']
   · simp[RetK,Qb hcl];exact hno (by rw[hD,if_neg (by omega)]) _
   · refine rest _ 4 3 65536 ((B 0).toNat-240) rfl (by simp) (by simp) (by simp) (by simp) (by simp) (by omega) (by omega) hL (by omega) ?_ ?_
     · rintro⟨q1,q2,q3,q4⟩;have h1:=(hcont _).1 (q1 1 (by omega) (by omega));have h2:=(hcont _).1 (q1 2 (by omega) (by omega));have h3:=(hcont _).1 (q1 3 (by omega) (by omega));simp only[W3,Nat.reduceAdd]at q2 q3;rw[hD,if_pos (by omega)]
     · intro q;rw[hD,if_neg];rintro⟨a,b,c,d,e,g⟩;refine q ⟨fun j j1 j2 => ?_,by simp only[W3,Nat.reduceAdd];omega,by simp only[W3,Nat.reduceAdd];omega,by simp only[W3,Nat.reduceAdd];omega⟩;obtain rfl|rfl|rfl:j=1∨j=2∨j=3:=by omega
       · exact(hcont _).2 b
       · exact(hcont _).2 c
       · exact(hcont _).2 d
theorem Has.bad3{f fn}(h:Has P f (Qjf fn))(hd:∀ (s:Bs) (n:Nat),n<s.length→s.length≤1048576→∀ H,Qc P fn [YS s,YI n] H (Qnc (s.drop n) H))(s:Bs)(hl:s.length≤1048576)(H:Hp):Qc P f [YS s] H (fun r H'=>r=YI (badS s)∧H'=H):=by
 refine Qf h (by simp[Qjf]) fun hcl _ => ?_;simp[Qjf];refine Qq 0 (fun fr H'=>badS s = -1∧H'=H) (fun fr H'=>fr 2=YI (badS s)∧H'=H) ?_ ?_ ?_
 · refine Qz H.length (fun d fr H'=>∃ n:Nat,d=s.length-n∧n≤s.length∧badS s=badF (s.length-n) (s.drop n) n∧fr 0=YS s∧fr 3=YI n∧H'=H) (s.length-0) (by simp) ⟨0,rfl,by omega,rfl,?_⟩ ?_
   · simp[Qb hcl]
   rintro d fr H' ⟨n,rfl,hn,hb,f0,f3,rfl⟩;simp[f0,f3];refine Qj (fun hlt => ?_) (fun hlt => ?_)
   · have hlt:n<s.length:=by simpa using hlt
     have hne:s.drop n≠[]:=fun e=>by have:=Qze.1 e;omega
     have hdl:=Qhm hne;have hdr:∀ k,(s.drop n).drop k=s.drop (n+k):=fun k=>Qzt ..;have hfl:s.length-n=(s.length-n-1)+1:=by omega
     rw[hfl,badF,if_neg hne]at hb;simp only[Qza]at hdl;simp[f0,f3];refine Qd (hd s n hlt hl H') ?_;rintro _ H1 ⟨v,rfl,hH⟩;cases hH
     simp only[hdr]at hb;unfold Qrd;generalize decU (s.drop n)=D at hb hdl;obtain⟨R,W⟩:=D;simp only at hb hdl;have hwr:IntKind.i64.wrap ((n:Int)+W)=((n+W:Nat):Int):=by rw[wi64 (by omega)];omega
     by_cases hR:R=65533∧W=1
     · rw[if_pos (by rw[hR.1,hR.2])]at hb;simp[hR.1,hR.2,f3,hb]
     · rw[if_neg (by simpa using hR)]at hb;have hok:(!(decide (R=65533)&&decide (W=1)))=true:=by simp;omega
       rw[hok];simp[f3,hwr];refine Qe _ (s.length-(n+W)) (Qx6 _) (by simp) (by omega) ⟨n+W,rfl,by omega,?_,?_⟩
       · rw[hb];exact Qfq _ _ _ _ (by simp;omega) (by simp)
       · simp[f0,Qb hcl]
   · have hge : n = s.length := by have : ¬ (n < s.length) := by simpa using hlt
                                   omega
     have:badS s = -1:=by rw[hb,hge];simp[badF]
     simp[this]
 · rintro fr H' ⟨f2,rfl⟩;simp;simp[RetK,Qb hcl,f2]
 · rintro fr H' ⟨hb,rfl⟩;simp;simp[RetK,Qb hcl,hb]
end
section
theorem Qru(b:UInt8)(r:Bs):unqI (b::r)=if b=92 then (match r with|[]=>none|c::t=>(unesc c).bind fun x=>(unqI t).map (x :: ·)) else if b.toNat<32∨b=34 then none else (unqI r).map (b :: ·):=by
 cases r with
 | nil=>simp only[unqI];rfl
 | cons c t=>simp only[unqI]
theorem Has.unquote3{f}(h:Has P f Zf)(s:Bs)(hl:s.length≤1048576)(H:Hp):Qc P f [YS s] H (fun r H'=>r=unqR (unqV s)∧H'=H):=by
 refine Qf h (by simp[Zf]) fun hcl _ => ?_;by_cases h1:s.length<2
 case pos =>
  have h1':(s.length:Int)<2:=by omega
  simp[Zf,h1'];simp[RetK,Qb hcl,unqV,unqR,h1]
 have h1':¬ (s.length:Int)<2:=by omega
 obtain⟨b0,hb0⟩:∃ b,Yb s 0=some b:=⟨s[0],by simp[Yb]⟩;obtain⟨b1,hb1⟩:∃ b,Yb s ((s.length:Int)-1)=some b:=by
  refine⟨s[s.length-1],?_⟩;have e:((s.length:Int)-1)=((s.length-1:Nat):Int):=by omega
  rw[e,Z0,Qx4]
 have hh:s.head?=some b0:=by
  cases s with
  | nil=>simp at h1
  | cons a r=>simpa[Yb] using hb0
 have hg:s.getLast?=some b1:=by
  have e:((s.length:Int)-1)=((s.length-1:Nat):Int):=by omega
  rw[Q2k,← Z0,← e];exact hb1
 have hwm:IntKind.i64.wrap ((s.length:Int)-1)=s.length-1:=wi64 (by omega);have byte34:∀ b:UInt8,((b.toNat:Int)=34)↔b=34:=fun b=>Y4 b 34;by_cases h2:b0=34
 case neg =>
  have h2':¬ ((b0.toNat:Int)=34):=fun e=>h2 ((byte34 _).1 e);simp[Zf,h1',hb0,h2'];simp[RetK,Qb hcl,unqV,unqR,hh,h2]
 by_cases h3:b1=34
 case neg =>
  have h3':¬ ((b1.toNat:Int)=34):=fun e=>h3 ((byte34 _).1 e);simp[Zf,h1',hb0,h2,hwm,hb1,h3'];simp[RetK,Qb hcl,unqV,unqR,hg,h3]
 subst h2;subst h3;have hU:unqV s=unqI ((s.drop 1).take (s.length-2)):=by simp[unqV,h1,hh,hg]
 have hsub:subL s 1 ((s.length:Int)-1)=some ((s.drop 1).take (s.length-2)):=by
  have:=Qd9 (s:=s) (n:=1) (w:=s.length-2) (by omega);rw[← this];congr 1;omega
 have hIl:((s.drop 1).take (s.length-2)).length≤1048576:=by simp;omega
 rw[hU];generalize (s.drop 1).take (s.length-2)=I at hIl hsub ⊢;simp[Zf,h1',hb0,hwm,hb1,hsub];clear hsub hU hb0 hb1 hh hg hwm;refine Qq 0 (fun fr H'=>∃ x,unqI I=some x∧fr 5=YS x∧H'=H) (fun fr H'=>fr 2=YS []∧fr 3=YI 22∧unqI I=none∧H'=H) ?_ ?_ ?_
 · refine Qz H.length (fun d fr H'=>∃(x J:Bs),d=J.length∧x.length+J.length≤1048576∧unqI I=(unqI J).map (x ++ ·)∧fr 5=YS x∧fr 6=YS J∧H'=H) I.length (by simp) ⟨[],I,rfl,by simpa using hIl,by simp,?_⟩ ?_
   · simp[Qb hcl]
   rintro d fr H' ⟨x,J,rfl,hJl,hq,f5,f6,rfl⟩;cases J with
   | nil =>
     simp[f6];simp[f5,hq,unqI]
   | cons b r =>
     have hpos:(0:Int)<(r.length:Int)+1:=by omega
     have hb:Yb (b::r) 0=some b:=by simp[Yb]
     rw[Qru]at hq;simp only[Qyi]at hJl;simp[f6,hb,hpos];have s1:subL (b::r) 0 1=some [b]:=by simp[subL];omega
     have s2:subL (b::r) 1 ((b::r).length:Int)=some r:=by
      have:=Qi3 (s:=b::r) (n:=1) (by simp only[Qyi];omega);simpa using this
     simp only[Qyi,Qzv,Q1v]at s2;by_cases h92:b=92
     · subst h92;rw[if_pos rfl]at hq;cases r with
       | nil =>
         simp only at hq;simp[f5,f6];simpa using hq
       | cons c t =>
         have hb1:Yb (92::c::t) 1=some c:=by simp[Yb]
         have s3:subL (92::c::t) 2 ((t.length:Int)+1+1)=some t:=by
          have:=Qi3 (s:=92::c::t) (n:=2) (by simp only[Qyi];omega);simpa using this
         have hlen:¬ ((t.length:Int)+1+1<2):=by omega
         simp only[Qyi]at hJl;simp only at hq;have put:∀ y:UInt8,unesc c=some y→unqI I=(unqI t).map ((x++[y]) ++ ·):=fun y hy=>by
          rw[hq,hy];simp[Q1k]
         have add:∀ y:UInt8,Qcr .add x [y]=some (.str (x++[y])):=fun y=>Qjr (by simp;omega);have hcb:∀ y:UInt8,((c.toNat:Int)=(y.toNat:Int))↔c=y:=Y4 c;simp[f5,f6,hb1,hlen];by_cases c110:c=110
         · subst c110;simp[f5,f6,s3,add,-Qcr];refine Qe H'.length t.length (Qx6 _) (by simp) (by omega) ⟨x++[10],t,rfl,by simp;omega,put 10 (by decide),?_⟩;simp[Qb hcl]
         have n110:¬ ((c.toNat:Int)=110):=fun e=>c110 ((hcb 110).1 e);by_cases c116:c=116
         · subst c116;simp[f5,f6,s3,add,-Qcr];refine Qe H'.length t.length (Qx6 _) (by simp) (by omega) ⟨x++[9],t,rfl,by simp;omega,put 9 (by decide),?_⟩;simp[Qb hcl]
         have n116:¬ ((c.toNat:Int)=116):=fun e=>c116 ((hcb 116).1 e);by_cases c34:c=34
         · subst c34;simp[f5,f6,s3,add,-Qcr];refine Qe H'.length t.length (Qx6 _) (by simp) (by omega) ⟨x++[34],t,rfl,by simp;omega,put 34 (by decide),?_⟩;simp[Qb hcl]
         have n34:¬ ((c.toNat:Int)=34):=fun e=>c34 ((hcb 34).1 e);by_cases c92:c=92
         · subst c92;simp[f5,f6,s3,add,-Qcr];refine Qe H'.length t.length (Qx6 _) (by simp) (by omega) ⟨x++[92],t,rfl,by simp;omega,put 92 (by decide),?_⟩;simp[Qb hcl]
         have n92:¬ ((c.toNat:Int)=92):=fun e=>c92 ((hcb 92).1 e);have hnone:unesc c=none:=by simp[unesc,c110,c116,c34,c92]
         rw[hnone]at hq;simp[n110,n116,n34,n92];simpa using hq
     · rw[if_neg h92]at hq;have n92:¬ ((b.toNat:Int)=92):=fun e=>h92 ((Y4 b 92).1 e);by_cases hlo:b.toNat<32
       · have hlo':(b.toNat:Int)<32:=by omega
         rw[if_pos (.inl hlo)]at hq;simp[hlo'];simpa using hq
       have hlo':¬ (b.toNat:Int)<32:=by omega
       by_cases h34:b=34
       · subst h34;rw[if_pos (.inr rfl)]at hq;simp;simpa using hq
       have n34:¬ ((b.toNat:Int)=34):=fun e=>h34 ((Y4 b 34).1 e);rw[if_neg (by simp[hlo,h34])]at hq;have add:Qcr .add x [b]=some (.str (x++[b])):=Qjr (by simp;omega);simp[hlo',n34,n92,f5,f6,s1,s2,add,-Qcr];refine Qe H'.length r.length (Qx6 _) (by simp) (by simp) ⟨x++[b],r,rfl,by simp;omega,?_,?_⟩
       · rw[hq];simp[Q1k]
       · simp[Qb hcl]
 · rintro fr H' ⟨f2,f3,hn,rfl⟩;simp;simp[RetK,Qb hcl,f2,f3,hn,unqR]
 · rintro fr H' ⟨x,hx,f5,rfl⟩;simp[f5];simp[RetK,Qb hcl,hx,unqR]
theorem Has.lead4{f}(h:Has P f Qgz)(s:Bs)(n:Nat)(hn:n≤s.length)(hl:s.length≤1048576)(H:Hp):Qc P f [YS s,YI n] H (fun r H'=>r=YI ((n+Qm false (s.drop n):Nat):Int)∧H'=H):=by
 refine Qf h (by simp[Qgz]) fun hcl _ => ?_;have hL:=Qcc false (s.drop n);simp only[Qza]at hL;generalize hLL:Qm false (s.drop n)=L at hL ⊢;simp[Qgz];refine Qq 0 (fun fr H'=>fr 1=YI ((n+L:Nat):Int)∧H'=H) (fun fr H'=>fr 4=YI ((n+L:Nat):Int)∧H'=H) ?_ ?_ ?_
 · refine Qz H.length (fun d fr H'=>∃ p:Nat,d=s.length-p∧p≤s.length∧p+Qm false (s.drop p)=n+L∧fr 0=YS s∧fr 1=YI p∧H'=H) (s.length-n) (by simp) ⟨n,rfl,hn,by rw[hLL],?_⟩ ?_
   · simp[Qb hcl]
   rintro d fr H' ⟨p,rfl,hp,hq,f0,f1,rfl⟩;cases hd:s.drop p with
   | nil =>
     have hpl:p=s.length:=by have:=Qze.1 hd;omega
     rw[hd]at hq;simp only[Qm,Q0f]at hq;have hn':¬ ((p:Int)<s.length):=by omega
     simp[f0,f1,hn'];omega
   | cons b r =>
     obtain⟨hb,hlt⟩:=W9 hd;have hdr:s.drop (p+1)=r:=by rw[← Qzt,hd];rfl
     have hlt':(p:Int)<s.length:=by omega
     have hw:IntKind.i64.wrap ((p:Int)+1)=((p+1:Nat):Int):=by rw[wi64 (by omega)];omega
     simp[f0,f1,hlt',hb];cases hB:Ve b with
     | true =>
       have hq':Qm false (s.drop p)=Qm false r+1:=by rw[hd,Qm,if_pos hB]
       have hbl:=hB;unfold Ve at hbl;generalize ha:decide ((b.toNat:Int)=32)=a at hbl ⊢;generalize hc:decide ((b.toNat:Int)=9)=c at hbl ⊢;generalize he:decide ((b.toNat:Int)=10)=e at hbl ⊢;generalize hg:decide ((b.toNat:Int)=13)=g at hbl ⊢;cases a<;>cases c<;>cases e<;>cases g<;>simp at hbl<;>simp[f0,f1,hb,ha,hc,he,hg,hw] <;>
        (refine Qe H'.length (s.length-(p+1)) (Qx6 _) (by simp) (by omega) ⟨p+1,rfl,by omega,by rw[hdr];omega,?_⟩;simp[f0,Qb hcl])
     | false =>
       have hbl:=hB;unfold Ve at hbl;simp only[Q04]at hbl;obtain⟨⟨⟨a1,a2⟩,a3⟩,a4⟩:=hbl;simp[f0,f1,hb,a1,a2,a3,a4];by_cases h35:(b.toNat:Int)=35
       · have hhb:Zo Qb2 (s.drop p)=true:=by rw[hd];simp[Zo,Qb2,h35]
         obtain⟨hc,hc1⟩:=Ql2 hhb;have hstep:=Qbn V5 (s.drop p);have hW:=Qdl V5 (s.drop p);simp only[Qaq,Qza]at hW hstep hc;generalize runN V5 (s.drop p)=wc at hc hc1 hstep hW;simp[h35,f0,f1];refine Q8 2 (fun fr H''=>fr 0=YS s∧fr 1=YI ((p+wc:Nat):Int)∧H''=H') ?_ ?_
         · refine Qz H'.length (fun d fr H''=>∃ q,d=wc-q∧q≤wc∧fr 0=YS s∧fr 1=YI ((p+q:Nat):Int)∧H''=H') wc (by simp) ⟨0,?_⟩ ?_
           · simp[f0,f1,Qb hcl]
           rintro d fr H'' ⟨q,rfl,hqq,f0,f1,rfl⟩;have hm:=hstep q hqq;have hwq:IntKind.i64.wrap ((p:Int)+q+1)=((p+(q+1):Nat):Int):=by rw[wi64 (by omega)];omega
           simp only[Qzv]at f1;cases hd2:s.drop (p+q) with
           | nil =>
             have h0:p+q=s.length:=by have:=Qze.1 hd2;omega
             have h0':¬ ((p:Int)+q<s.length):=by omega
             rw[hd2]at hm;simp[Zo]at hm;have:q=wc:=by omega
             subst this;simp[f0,f1,h0']
           | cons c t =>
             obtain⟨hb2,hlt2⟩:=W9 hd2;have hlt2':(p:Int)+q<s.length:=by omega
             rw[hd2]at hm;simp only[Zo,V5]at hm;simp only[Qzv]at hb2;by_cases h10:(c.toNat:Int)=10
             · have:q=wc:=by
                simp[h10]at hm;omega
               subst this;simp[f0,f1,hlt2',hb2,h10]
             · have hql:q<wc:=by simpa[h10] using hm
               simp[f0,f1,hlt2',hb2,h10,hwq];refine Qe H''.length (wc-(q+1)) (Qx6 _) (by simp) (by omega) ⟨q+1,rfl,by omega,?_⟩;simp[f0,Qb hcl]
         rintro fr H'' ⟨f0,f1,rfl⟩;simp;refine Qe H''.length (s.length-(p+wc)) (Qx6 _) (by simp) (by omega) ⟨p+wc,rfl,by omega,by omega,?_⟩;simp[f0,f1,Qb hcl]
       · have hhb:Qb2 b=false:=by simp[Qb2,h35]
         have h0:Qm false (s.drop p)=0:=by rw[hd,Qm,hB,hhb];rfl
         simp[h35,f1];omega
 · rintro fr H' ⟨f4,rfl⟩;simp;simp[RetK,Qb hcl,f4]
 · rintro fr H' ⟨f1,rfl⟩;simp[f1];simp[RetK,Qb hcl]
end
section
def Qpb(S:Bs)(n:Nat)(H:Hp):A→Hp→Prop:=fun r H'=>∃ k m:Int,r=.tup [YI k,YI m,YI (tokN S).1]∧H'=H∧((tokN S).1=0→k=(tokN S).2.1∧m=((n+(tokN S).2.2:Nat):Int))
def numM(acc:Nat)(l:Bs):Bool:=match Lib.parseUintM 9223372036854775807 acc l with
 | .ok _=>true
 | _=>false
theorem Qt7(acc:Nat):numM acc []=true:=rfl
theorem Qsc(acc:Nat)(c:UInt8)(r:Bs):numM acc (c::r)=if Wj c=true∧acc≤(9223372036854775807-(c.toNat-48)) / 10 then numM (acc*10+(c.toNat-48)) r else false:=by
 unfold numM;rw[Lib.parseUintM];by_cases hd:48≤c.toNat∧c.toNat≤57
 · have hD:Wj c=true:=by simp[Wj];omega
   rw[if_pos hd];by_cases h1:acc≤(9223372036854775807-(c.toNat-48)) / 10
   · rw[if_neg (by omega),if_neg (by omega),if_pos ⟨hD,h1⟩]
   · have hR:¬ (Wj c=true∧acc≤(9223372036854775807-(c.toNat-48)) / 10):=fun q=>h1 q.2;rw[if_neg hR];by_cases h2:1844674407370955162≤acc
     · rw[if_pos h2]
     · rw[if_neg h2,if_pos (by omega)]
 · have hD:¬ Wj c=true:=by simp[Wj];omega
   rw[if_neg hd,if_neg (fun q=>hD q.1)]
theorem Qt6{s:Bs}(h:s≠[]):Qcb s=numM 0 s:=by
 unfold Qcb numM Lib.parseUintB;rw[if_neg h];have e:(2 ^ 63-1:Nat)=9223372036854775807:=by decide
 rw[e];cases Lib.parseUintM 9223372036854775807 0 s<;>rfl
def Quj:Bs→Bool
 | []=>false
 | b::_=>Wi b
theorem Qn4:∀ k ∈ Yx,Quj k=true:=Qym.1 (by decide)
theorem Qr0(b:UInt8)(t:Bs):strS (b::t)=if b=34 then some 1 else if b=92 then (strS (t.drop 1)).map (·+2) else if b=10 then none else (strS t).map (·+1):=by
 cases t with
 | nil =>
   simp only[strS,Q2v,Q2g];by_cases h:b=34
   · rw[if_pos h,if_pos h]
   · rw[if_neg h,if_neg h];simp
 | cons c r=>simp only[strS,Q0n,Q1z]
theorem Has.one4{f fl fd fk fu}(h:Has P f (Qje fl fd fk fu))(hl:Y7 P fl Wi)(hd:Y7 P fd Wj)(hk:∀ s H,Qc P fk [YS s] H (fun r H'=>r=YB (decide (s ∈ Yx))∧H'=H))(hu:∀ (s:Bs) H,s.length≤1048576→Qc P fu [YS s] H (fun r H'=>r=unqR (unqV s)∧H'=H))(s:Bs)(n:Nat)(hn:n<s.length)(hsl:s.length≤1048576)(H:Hp):Qc P f [YS s,YI n] H (Qpb (s.drop n) n H):=by
 refine Qf h (by simp[Qje]) fun hcl _ => ?_;have hfin:∀(k m e:Int),e=(tokN (s.drop n)).1→(e=0→k=(tokN (s.drop n)).2.1∧m=((n+(tokN (s.drop n)).2.2:Nat):Int))→Qpb (s.drop n) n H (.tup [YI k,YI m,YI e]) H:=fun k m e h1 h2=>⟨k,m,by rw[h1],rfl,fun h=>h2 (by rw[h1,h])⟩;generalize Qpb (s.drop n) n H=Q at hfin ⊢;have hrl:=Qdl Zam.wordB (s.drop n);have hstep:=Qbn Zam.wordB (s.drop n);have hSl:(s.drop n).length=s.length-n:=by simp
 have hne:s.drop n≠[]:=fun e=>by have:=Qze.1 e;omega
 simp only[Qaq]at hstep;have hsub:=fun w (hw:n+w≤s.length)=>Qd9 (s:=s) (n:=n) (w:=w) hw;have hdrop:∀ j,s.drop (n+1+j)=((s.drop n).drop 1).drop j:=fun j=>by rw[Qzt,Qzt,Qzp]
 cases hS:s.drop n with
 | nil=>exact absurd hS hne
 | cons b r =>
 rw[hS]at hfin hrl hstep hSl hsub hdrop;obtain⟨hb,-⟩:=W9 hS;have hT:=Qrw b r;generalize tokN (b::r)=T at hT hfin;have hw1:IntKind.i64.wrap ((n:Int)+1)=n+1:=wi64 (by omega);generalize hw:runN Zam.wordB (b::r)=w at hT hrl hstep;simp only[Qyi]at hSl hrl;have hsw:=hsub w (by omega);have hWl:((b::r).take w).length=w:=by simp only[Qzr,Qyi];omega
 have hWh:1≤w→∃ t,(b::r).take w=b::t:=fun h=>by
  obtain⟨v,rfl⟩:∃ v,w=v+1:=⟨w-1,by omega⟩;exact⟨_,rfl⟩
 have hwp:Zam.wordB b=true→1≤w:=fun h=>by
  have:=Qj3 (r:=r) h;omega
 simp[Qje,hw1,hb];refine Qa (hl b _) ?_;cases hlb:Wi b with
 | true =>
   have hw1':=hwp (by simp[Zam.wordB,hlb]);rw[hlb,if_pos rfl]at hT;simp;refine Q8 0 (fun fr H'=>fr 0=YS s∧fr 1=YI n∧fr 7=YI ((n:Int)+w)∧H'=H) ?_ ?_
   · refine Qz H.length (fun d fr H'=>∃ j,d=w-j∧1≤j∧j≤w∧fr 0=YS s∧fr 1=YI n∧fr 7=YI ((n:Int)+j)∧H'=H) (w-1) (by simp) ⟨1,rfl,Qx6 _,hw1',?_⟩ ?_
     · simp[Qb hcl]
     rintro d fr H' ⟨j,rfl,hj1,hj,f0,f1,f7,rfl⟩;have hm:=hstep j hj;have hwj:IntKind.i64.wrap ((n:Int)+j+1)=(n:Int)+((j:Int)+1):=by rw[wi64 (by omega)];omega
     cases hd2:s.drop (n+j) with
     | nil =>
       have h0:n+j=s.length:=by have:=Qze.1 hd2;omega
       have h0':¬ ((n:Int)+j<s.length):=by omega
       rw[hd2]at hm;have:j=w:=by simp[Zo]at hm;omega
       subst this;simp[f0,f1,f7,h0']
     | cons c t =>
       obtain⟨hb2,hlt2⟩:=W9 hd2;have hlt2':(n:Int)+j<s.length:=by omega
       rw[hd2]at hm;simp only[Zo,Zam.wordB]at hm;simp only[Qzv]at hb2;simp[f0,f1,f7,hlt2',hb2];refine Qa (hl c _) ?_;have nx:j<w→∀ fr':Fr,fr' 0=YS s→fr' 1=YI n→fr' 7=YI ((n:Int)+((j:Int)+1))→True:=fun _ _ _ _ _=>trivial;cases hlc:Wi c with
       | true =>
         have hql:j<w:=by simpa[hlc] using hm
         simp[f0,f1,f7,hwj];refine Qe H'.length (w-(j+1)) (Qx6 _) (by simp) (by omega) ⟨j+1,rfl,by omega,by omega,?_⟩;simp[f0,f1,Qb hcl]
       | false =>
         simp[f0,f1,f7,hb2];refine Qa (hd c _) ?_;cases hdc:Wj c with
         | true =>
           have hql:j<w:=by simpa[hlc,hdc] using hm
           simp[f0,f1,f7,hwj];refine Qe H'.length (w-(j+1)) (Qx6 _) (by simp) (by omega) ⟨j+1,rfl,by omega,by omega,?_⟩;simp[f0,f1,Qb hcl]
         | false =>
           have:j=w:=by simp[hlc,hdc]at hm;omega
           subst this;simp[f0,f1,f7]
   rintro fr H' ⟨f0,f1,f7,rfl⟩;obtain⟨t,ht⟩:=hWh hw1';generalize (b::r).take w=W at hT hsw hWl ht;simp[f0,f1,f7,hsw];refine Qa (hk W _) ?_;by_cases hkW:W ∈ Yx
   · rw[if_pos hkW]at hT;simp[hkW,f7];simp[RetK,Qb hcl];exact hfin _ _ _ (by rw[hT]) (fun _=>by rw[hT];simp)
   rw[if_neg hkW]at hT;simp[hkW,f0,f1,hb];refine Qa (hl b _) ?_;by_cases h40:40<w
   · rw[if_pos h40]at hT;have h40':(40:Int)<w:=by omega
     simp[hlb,hWl,h40'];simp[RetK,Qb hcl];exact hfin _ _ _ (by rw[hT]) (fun h=>by cases h)
   · rw[if_neg h40]at hT;have h40':¬ (40:Int)<w:=by omega
     simp[hlb,hWl,h40',f7];simp[RetK,Qb hcl];exact hfin _ _ _ (by rw[hT]) (fun _=>by rw[hT];simp)
 | false =>
   rw[hlb]at hT;simp only[Qye,if_false]at hT;simp[hb];refine Qa (hd b _) ?_;cases hdb:Wj b with
   | true =>
     have hw1':=hwp (by simp[Zam.wordB,hdb]);rw[hdb,if_pos rfl]at hT;simp;refine Q8 0 (fun fr H'=>fr 0=YS s∧fr 1=YI n∧fr 7=YI ((n:Int)+w)∧H'=H) ?_ ?_
     · refine Qz H.length (fun d fr H'=>∃ j,d=w-j∧1≤j∧j≤w∧fr 0=YS s∧fr 1=YI n∧fr 7=YI ((n:Int)+j)∧H'=H) (w-1) (by simp) ⟨1,rfl,Qx6 _,hw1',?_⟩ ?_
       · simp[Qb hcl]
       rintro d fr H' ⟨j,rfl,hj1,hj,f0,f1,f7,rfl⟩;have hm:=hstep j hj;have hwj:IntKind.i64.wrap ((n:Int)+j+1)=(n:Int)+((j:Int)+1):=by rw[wi64 (by omega)];omega
       cases hd2:s.drop (n+j) with
       | nil =>
         have h0:n+j=s.length:=by have:=Qze.1 hd2;omega
         have h0':¬ ((n:Int)+j<s.length):=by omega
         rw[hd2]at hm;have:j=w:=by simp[Zo]at hm;omega
         subst this;simp[f0,f1,f7,h0']
       | cons c t =>
         obtain⟨hb2,hlt2⟩:=W9 hd2;have hlt2':(n:Int)+j<s.length:=by omega
         rw[hd2]at hm;simp only[Zo,Zam.wordB]at hm;simp only[Qzv]at hb2;simp[f0,f1,f7,hlt2',hb2];refine Qa (hl c _) ?_;have nx:j<w→∀ fr':Fr,fr' 0=YS s→fr' 1=YI n→fr' 7=YI ((n:Int)+((j:Int)+1))→True:=fun _ _ _ _ _=>trivial;cases hlc:Wi c with
         | true =>
           have hql:j<w:=by simpa[hlc] using hm
           simp[f0,f1,f7,hwj];refine Qe H'.length (w-(j+1)) (Qx6 _) (by simp) (by omega) ⟨j+1,rfl,by omega,by omega,?_⟩;simp[f0,f1,Qb hcl]
         | false =>
           simp[f0,f1,f7,hb2];refine Qa (hd c _) ?_;cases hdc:Wj c with
           | true =>
             have hql:j<w:=by simpa[hlc,hdc] using hm
             simp[f0,f1,f7,hwj];refine Qe H'.length (w-(j+1)) (Qx6 _) (by simp) (by omega) ⟨j+1,rfl,by omega,by omega,?_⟩;simp[f0,f1,Qb hcl]
           | false =>
             have:j=w:=by simp[hlc,hdc]at hm;omega
             subst this;simp[f0,f1,f7]
     rintro fr H' ⟨f0,f1,f7,rfl⟩;obtain⟨t,ht⟩:=hWh hw1';generalize (b::r).take w=W at hT hsw hWl ht;simp[f0,f1,f7,hsw];refine Qa (hk W _) ?_;have hkW:¬ W ∈ Yx:=fun q=>by
      have:=Qn4 W q;rw[ht,Quj,hlb]at this;cases this
     rw[Qt6 (by rw[ht];simp)]at hT;simp[hkW,f0,f1,hb];refine Qa (hl b _) ?_;simp[hlb];refine Qq 2 (fun fr H''=>fr 7=YI ((n:Int)+w)∧numM 0 W=true∧H''=H') (fun fr H''=>fr 4=YI 0∧fr 5=YI 0∧fr 6=YI 23∧numM 0 W=false∧H''=H') ?_ ?_ ?_
     · refine Qz H'.length (fun d fr H''=>∃(i acc:Nat),d=w-i∧i≤w∧acc≤9223372036854775807∧numM 0 W=numM acc (W.drop i)∧fr 7=YI ((n:Int)+w)∧fr 8=YS W∧fr 9=.d (.int .u64 (acc:Int))∧fr 10=YI i∧H''=H') w (by simp) ⟨0,0,rfl,by omega,by omega,rfl,?_⟩ ?_
       · simp[f7,Qb hcl]
       rintro d fr H'' ⟨i,acc,rfl,hi,hacc,hnm,f7,f8,f9,f10,rfl⟩;rcases Qz6 i w with hlt|hge
       · have hlt':(i:Int)<w:=by omega
         have hdi:W.drop i=W[i]'(by omega)::W.drop (i+1):=Qy6 (by omega);obtain⟨hbi,-⟩:=W9 hdi;generalize W[i]'(by omega)=c at hdi hbi;rw[hdi,Qsc]at hnm;have hwi:IntKind.i64.wrap ((i:Int)+1)=((i+1:Nat):Int):=by rw[wi64 (by omega)];omega
         simp[f8,f10,hWl,hlt',hbi];refine Qa (hd c _) ?_;cases hdc:Wj c with
         | false =>
           rw[hdc]at hnm;simp only[Qye,false_and,if_false]at hnm;simp[hnm]
         | true =>
           rw[hdc]at hnm;simp only[true_and]at hnm;have hc:48≤c.toNat∧c.toNat≤57:=by simp[Wj]at hdc;omega
           have e1:IntKind.u8.wrap ((c.toNat:Int)-48)=((c.toNat-48:Nat):Int):=by
            simp[IntKind.wrap,IntKind.bits,IntKind.signed];omega
           have e2:∀ x:Nat,x≤9223372036854775807→IntKind.u64.wrap (x:Int)=x:=fun x hx=>by
            simp[IntKind.wrap,IntKind.bits,IntKind.signed];omega
           generalize hdd:c.toNat-48=dd at e1 hnm;obtain⟨m,hm⟩:∃ m,m=9223372036854775807-dd:=⟨_,rfl⟩;obtain⟨q,hq⟩:∃ q,q=m / 10:=⟨_,rfl⟩;rw[← hm,← hq]at hnm;have hddl:dd≤9:=by omega
           have e3:IntKind.u64.wrap (9223372036854775807-(dd:Int))=(m:Int):=by
            rw[← e2 m (by omega)];congr 1;omega
           have e4:IntKind.u64.wrap (Int.tdiv (m:Int) 10)=(q:Int):=by
            have:=e2 q (by omega);rw[hq]at this ⊢;exact this
           have e4':IntKind.u64.wrap ((m:Int) / 10)=(q:Int):=by
            have:=e2 q (by omega);rw[hq]at this ⊢;exact this
           simp[f7,f8,f9,f10,hbi,e1,e2 dd (by omega),e3,e4,e4'];refine Qj (fun hbr => ?_) (fun hbr => ?_)
           · have hq':q<acc:=by simpa using hbr
             rw[if_neg (by omega)]at hnm;simp[hnm]
           · have hq':¬ (q<acc):=by simpa using hbr
             rw[if_pos (by omega)]at hnm;obtain⟨a10,ha⟩:∃ a10,a10=acc*10:=⟨_,rfl⟩;rw[← ha]at hnm;have e5:IntKind.u64.wrap ((acc:Int)*10)=(a10:Int):=by rw[← e2 a10 (by omega)];congr 1;omega
             have e6:IntKind.u64.wrap ((a10:Int)+dd)=((a10+dd:Nat):Int):=by rw[← e2 (a10+dd) (by omega)];congr 1
             simp only[Qzv]at e6;simp[f7,f8,f9,f10,e5,e6,hwi];refine Qe H''.length (w-(i+1)) (Qx6 _) (by simp) (by omega) ⟨i+1,a10+dd,rfl,by omega,by omega,hnm,?_⟩;simp[f7,f8,Qb hcl]
       · have:i=w:=by omega
         subst this;have h0':¬ ((i:Int)<i):=by omega
         rw[Qzj (by omega),Qt7]at hnm;simp[f7,f8,f10,hWl,hnm]
     · rintro fr H'' ⟨f4,f5,f6,hnm,rfl⟩;rw[hnm]at hT;simp only[Qye,if_false]at hT;simp;simp[RetK,Qb hcl,f4,f5,f6];exact hfin _ _ _ (by rw[hT]) (fun h=>by cases h)
     · rintro fr H'' ⟨f7,hnm,rfl⟩;rw[hnm,if_pos rfl]at hT;simp[f7];simp[RetK,Qb hcl];exact hfin _ _ _ (by rw[hT]) (fun _=>by rw[hT];simp)
   | false =>
     rw[hdb]at hT;simp only[Qye,if_false]at hT;by_cases h34:b=34
     · subst h34;rw[if_pos rfl]at hT;have hSV:strV (34::r)=match strS r with
        | none=>([],22)
        | some k=>((34::r).take (k+1),if (unqV ((34::r).take (k+1))).isSome then 0 else 22):=rfl
       simp[hb];refine Q8 4 (fun fr H'=>fr 0=YS s∧fr 1=YI n∧H'=H∧∃ j:Nat,fr 7=YI ((n:Int)+1+j)∧j≤s.length∧((strS r=none∧s.length≤n+1+j)∨(strS r=none∧n+1+j<s.length∧Yb s ((n:Int)+1+j)=some 10)∨(strS r=some (j+1)∧n+1+j<s.length∧Yb s ((n:Int)+1+j)=some 34))) ?_ ?_
       · refine Qz H.length (fun d fr H'=>∃ j,d=s.length+1-(n+1+j)∧n+1+j≤s.length+1∧strS r=(strS (r.drop j)).map (·+j)∧fr 0=YS s∧fr 1=YI n∧fr 7=YI ((n:Int)+1+j)∧H'=H) (s.length+1-(n+1+0)) (by simp) ⟨0,rfl,by omega,by simp,?_⟩ ?_
         · simp[Qb hcl]
         rintro d fr H' ⟨j,rfl,hj,hq,f0,f1,f7,rfl⟩;have hdj:=hdrop j;simp only[Q0n,Q1z]at hdj;cases hd2:s.drop (n+1+j) with
         | nil =>
           have h0:=Qze.1 hd2;have h0':¬ ((n:Int)+1+j<s.length):=by omega
           rw[← hdj,hd2]at hq;have hq:strS r=none:=by rw[hq];rfl
           simp[f0,f1,f7,h0',hq];exact⟨j,rfl,by omega,by omega⟩
         | cons c t =>
           obtain⟨hb2,hlt2⟩:=W9 hd2;have hlt2':(n:Int)+1+j<s.length:=by omega
           simp only[Qzv,Q1v]at hb2;rw[hd2]at hdj;have hj1:r.drop (j+1)=t:=by rw[← Qzt,← hdj];rfl
           have hj2:r.drop (j+2)=t.drop 1:=by rw[← hj1,Qzt]
           rw[← hdj,Qr0]at hq;have hwA:IntKind.i64.wrap ((n:Int)+1+j+1)=(n:Int)+1+((j:Int)+1):=by rw[wi64 (by omega)];omega
           have hwB:IntKind.i64.wrap ((n:Int)+1+((j:Int)+1)+1)=(n:Int)+1+((j:Int)+2):=by rw[wi64 (by omega)];omega
           by_cases c34:c=34
           · subst c34;rw[if_pos rfl]at hq;have hq:strS r=some (j+1):=by rw[hq];simp;omega
             simp[f0,f1,f7,hlt2',hb2,hq];exact⟨j,rfl,by omega,by omega,by omega,hb2⟩
           have n34:¬ ((c.toNat:Int)=34):=fun e=>c34 ((Y4 c 34).1 e);rw[if_neg c34]at hq;by_cases c10:c=10
           · subst c10;have hq:strS r=none:=by rw[hq];simp
             simp[f0,f1,f7,hlt2',hb2,hq];exact⟨j,rfl,by omega,.inr ⟨by omega,hb2⟩⟩
           have n10:¬ ((c.toNat:Int)=10):=fun e=>c10 ((Y4 c 10).1 e);by_cases c92:c=92
           · subst c92;rw[if_pos rfl]at hq;simp[f0,f1,f7,hlt2',hb2,hwA,hwB];refine Qe H'.length (s.length+1-(n+1+(j+2))) (Qx6 _) (by simp) (by omega) ⟨j+2,rfl,by omega,?_,?_⟩
             · rw[hq,hj2];cases strS (t.drop 1)<;>simp;omega
             · simp[f0,f1,Qb hcl]
           have n92:¬ ((c.toNat:Int)=92):=fun e=>c92 ((Y4 c 92).1 e);rw[if_neg c92,if_neg c10]at hq;simp[f0,f1,f7,hlt2',hb2,hwA,n34,n10,n92];refine Qe H'.length (s.length+1-(n+1+(j+1))) (Qx6 _) (by simp) (by omega) ⟨j+1,rfl,by omega,?_,?_⟩
           · rw[hq,hj1];cases strS t<;>simp;omega
           · simp[f0,f1,Qb hcl]
       rintro fr H' ⟨f0,f1,rfl,j,f7,hjl,hor⟩;rcases hor with⟨hq,hge⟩|⟨hq,hlt,hbj⟩|⟨hq,hlt,hbj⟩
       · rw[hq]at hSV;rw[hSV]at hT;have hge':(s.length:Int)≤(n:Int)+1+j:=by omega
         simp[f0,f1,f7,hge'];simp[RetK,Qb hcl];exact hfin _ _ _ (by rw[hT];rfl) (fun h=>by cases h)
       · rw[hq]at hSV;rw[hSV]at hT;have hge':¬ (s.length:Int)≤(n:Int)+1+j:=by omega
         simp[f0,f1,f7,hge',hbj];simp[RetK,Qb hcl];exact hfin _ _ _ (by rw[hT];rfl) (fun h=>by cases h)
       · rw[hq]at hSV;rw[hSV]at hT;have hge':¬ (s.length:Int)≤(n:Int)+1+j:=by omega
         have hwA:IntKind.i64.wrap ((n:Int)+1+j+1)=(n:Int)+((j+2:Nat):Int):=by rw[wi64 (by omega)];omega
         have hsj:=hsub (j+2) (by omega);have hul:((34::r:Bs).take (j+2)).length=j+2:=by simp only[Qzr,Qyi];omega
         simp only at hT;generalize (34::r:Bs).take (j+1+1)=U at hT hsj hul;have hrange:IntKind.i64.wrap ((n:Int)+1+j+1)=(n:Int)+((j+2:Nat):Int):=hwA;generalize hJ:(n:Int)+((j+2:Nat):Int)=J at hwA hsj;simp[f0,f1,f7,hge',hbj,hwA,hsj];refine Qa (hu U _ (by omega)) ?_;cases hv:unqV U with
         | none =>
           rw[hv]at hT;simp[unqR];simp[RetK,Qb hcl];exact hfin _ _ _ (by rw[hT];rfl) (fun h=>by cases h)
         | some x =>
           rw[hv]at hT;simp[unqR,f7,hwA];simp[RetK,Qb hcl];exact hfin _ _ _ (by rw[hT];rfl) (fun _=>by rw[hT];simp;omega)
     have n34:¬ ((b.toNat:Int)=34):=fun e=>h34 ((Y4 b 34).1 e);rw[if_neg h34]at hT;obtain⟨L,hL⟩:∃ L:Bs,L=[40,41,123,125,44,59,58,46,61,43,45,42,60]:=⟨_,rfl⟩;have hLl:L.length=13:=by rw[hL];rfl
     by_cases htwo:b=61∧∃ r',r=61::r'
     · obtain⟨rfl,r',rfl⟩:=htwo;have hb1:Yb s ((n:Int)+1)=some 61:=by
        have:s.drop (n+1)=61::r':=by rw[← Qzt,hS];rfl
        simpa using(W9 this).1
       have hlt:(n:Int)+1<s.length:=by simp only[Qyi]at hSl;omega
       have hG:Vb (61::61::r')=[61,61]:=by rw[Qno];rfl
       rw[hG,if_neg (by simp)]at hT;have hwA:IntKind.i64.wrap ((n:Int)+1+1)=(n:Int)+2:=by rw[wi64 (by omega)];omega
       simp[hb,hb1,hlt,hwA];simp[RetK,Qb hcl];exact hfin _ _ _ (by rw[hT]) (fun _=>by rw[hT];simp)
     have hG:Vb (b::r)=if b ∈ L then [b] else []:=by
      cases r with
      | nil=>rw[hL];exact Qvf b
      | cons c r' =>
        rw[Qno,if_neg (fun q=>htwo ⟨q.1,r',by rw[q.2]⟩),hL]
     rw[hG]at hT;obtain⟨b1,hb1,hone⟩:∃ b1:Bool,(b1=true→(n:Int)+1<s.length)∧b1=decide ((n:Int)+1<s.length):=⟨_,fun h=>by simpa using h,rfl⟩;have hcond:b=61→(n:Int)+1<s.length→∃ c:UInt8,Yb s ((n:Int)+1)=some c∧¬ ((c.toNat:Int)=61):=fun h61 hlt=>by
      cases r with
      | nil=>simp only[Qy3]at hSl;omega
      | cons c r' =>
        refine⟨c,?_,fun e=>htwo ⟨h61,r',by rw[(Y4 c 61).1 e]⟩⟩;have:s.drop (n+1)=c::r':=by rw[← Qzt,hS];rfl
        simpa using(W9 this).1
     clear hb1 hone b1;have hloop:True:=trivial;by_cases hlt:(n:Int)+1<s.length
     · by_cases h61:b=61
       · obtain⟨c,hc1,hc2⟩:=hcond h61 hlt;have e61:(b.toNat:Int)=61:=by rw[h61];rfl
         simp[hb,hlt,hc1,hc2,e61];refine Qq 6 (fun fr H'=>b ∉ L∧H'=H) (fun fr H'=>fr 4=YI 5∧fr 5=YI ((n:Int)+1)∧fr 6=YI 0∧b ∈ L∧H'=H) ?_ ?_ ?_
         · refine Qz H.length (fun d fr H'=>∃ i:Nat,d=13-i∧i≤13∧b ∉ L.take i∧fr 0=YS s∧fr 1=YI n∧fr 7=YI ((n:Int)+1)∧fr 14=YS L∧fr 15=YI i∧H'=H) 13 (by simp) ⟨0,rfl,by omega,by simp,?_⟩ ?_
           · simp[Qb hcl,hL]
           rintro d fr H' ⟨i,rfl,hi,hni,f0,f1,f7,f14,f15,rfl⟩;rcases Qz6 i 13 with hlt13|hge13
           · have hlt':(i:Int)<13:=by omega
             have hdi:L.drop i=L[i]'(by omega)::L.drop (i+1):=Qy6 (by omega);have htk:L.take (i+1)=L.take i++[L[i]'(by omega)]:=Qyj (by omega);have hmem:L[i]'(by omega) ∈ L:=Qy5 _;obtain⟨hbi,-⟩:=W9 hdi;generalize L[i]'(by omega)=c at hdi hbi htk hmem;have hwi:IntKind.i64.wrap ((i:Int)+1)=((i+1:Nat):Int):=by rw[wi64 (by omega)];omega
             simp[f0,f1,f14,f15,hLl,hlt',hbi,hb];by_cases hcb:c=b
             · subst hcb;simp[f7,hmem]
             · have hcb':¬ ((c.toNat:Int)=b.toNat):=fun e=>hcb ((Y4 c b).1 e);have hcb2:¬ c.toNat=b.toNat:=fun e=>hcb' (by rw[e]);simp[hcb,hcb',hcb2,f15,hwi];refine Qe H'.length (13-(i+1)) (Qx6 _) (by simp) (by omega) ⟨i+1,rfl,by omega,by rw[htk];simp[hni];exact Ne.symm hcb,?_⟩;simp[f0,f1,f7,f14,Qb hcl]
           · have:i=13:=by omega
             subst this;rw[Qyo (by omega)]at hni;simp[f14,f15,hLl,hni]
         · rintro fr H' ⟨f4,f5,f6,hm,rfl⟩;rw[if_pos hm,if_neg (by simp)]at hT;simp;simp[RetK,Qb hcl,f4,f5,f6];exact hfin _ _ _ (by rw[hT]) (fun _=>by rw[hT];simp)
         · rintro fr H' ⟨hm,rfl⟩;rw[if_neg hm,if_pos rfl]at hT;simp;simp[RetK,Qb hcl];exact hfin _ _ _ (by rw[hT]) (fun h=>by cases h)
       · have n61:¬ ((b.toNat:Int)=61):=fun e=>h61 ((Y4 b 61).1 e);simp[hb,hlt,n34,n61];refine Qq 6 (fun fr H'=>b ∉ L∧H'=H) (fun fr H'=>fr 4=YI 5∧fr 5=YI ((n:Int)+1)∧fr 6=YI 0∧b ∈ L∧H'=H) ?_ ?_ ?_
         · refine Qz H.length (fun d fr H'=>∃ i:Nat,d=13-i∧i≤13∧b ∉ L.take i∧fr 0=YS s∧fr 1=YI n∧fr 7=YI ((n:Int)+1)∧fr 14=YS L∧fr 15=YI i∧H'=H) 13 (by simp) ⟨0,rfl,by omega,by simp,?_⟩ ?_
           · simp[Qb hcl,hL]
           rintro d fr H' ⟨i,rfl,hi,hni,f0,f1,f7,f14,f15,rfl⟩;rcases Qz6 i 13 with hlt13|hge13
           · have hlt':(i:Int)<13:=by omega
             have hdi:L.drop i=L[i]'(by omega)::L.drop (i+1):=Qy6 (by omega);have htk:L.take (i+1)=L.take i++[L[i]'(by omega)]:=Qyj (by omega);have hmem:L[i]'(by omega) ∈ L:=Qy5 _;obtain⟨hbi,-⟩:=W9 hdi;generalize L[i]'(by omega)=c at hdi hbi htk hmem;have hwi:IntKind.i64.wrap ((i:Int)+1)=((i+1:Nat):Int):=by rw[wi64 (by omega)];omega
             simp[f0,f1,f14,f15,hLl,hlt',hbi,hb];by_cases hcb:c=b
             · subst hcb;simp[f7,hmem]
             · have hcb':¬ ((c.toNat:Int)=b.toNat):=fun e=>hcb ((Y4 c b).1 e);have hcb2:¬ c.toNat=b.toNat:=fun e=>hcb' (by rw[e]);simp[hcb,hcb',hcb2,f15,hwi];refine Qe H'.length (13-(i+1)) (Qx6 _) (by simp) (by omega) ⟨i+1,rfl,by omega,by rw[htk];simp[hni];exact Ne.symm hcb,?_⟩;simp[f0,f1,f7,f14,Qb hcl]
           · have:i=13:=by omega
             subst this;rw[Qyo (by omega)]at hni;simp[f14,f15,hLl,hni]
         · rintro fr H' ⟨f4,f5,f6,hm,rfl⟩;rw[if_pos hm,if_neg (by simp)]at hT;simp;simp[RetK,Qb hcl,f4,f5,f6];exact hfin _ _ _ (by rw[hT]) (fun _=>by rw[hT];simp)
         · rintro fr H' ⟨hm,rfl⟩;rw[if_neg hm,if_pos rfl]at hT;simp;simp[RetK,Qb hcl];exact hfin _ _ _ (by rw[hT]) (fun h=>by cases h)
     · simp[hb,hlt,n34];refine Qq 6 (fun fr H'=>b ∉ L∧H'=H) (fun fr H'=>fr 4=YI 5∧fr 5=YI ((n:Int)+1)∧fr 6=YI 0∧b ∈ L∧H'=H) ?_ ?_ ?_
       · refine Qz H.length (fun d fr H'=>∃ i:Nat,d=13-i∧i≤13∧b ∉ L.take i∧fr 0=YS s∧fr 1=YI n∧fr 7=YI ((n:Int)+1)∧fr 14=YS L∧fr 15=YI i∧H'=H) 13 (by simp) ⟨0,rfl,by omega,by simp,?_⟩ ?_
         · simp[Qb hcl,hL]
         rintro d fr H' ⟨i,rfl,hi,hni,f0,f1,f7,f14,f15,rfl⟩;rcases Qz6 i 13 with hlt13|hge13
         · have hlt':(i:Int)<13:=by omega
           have hdi:L.drop i=L[i]'(by omega)::L.drop (i+1):=Qy6 (by omega);have htk:L.take (i+1)=L.take i++[L[i]'(by omega)]:=Qyj (by omega);have hmem:L[i]'(by omega) ∈ L:=Qy5 _;obtain⟨hbi,-⟩:=W9 hdi;generalize L[i]'(by omega)=c at hdi hbi htk hmem;have hwi:IntKind.i64.wrap ((i:Int)+1)=((i+1:Nat):Int):=by rw[wi64 (by omega)];omega
           simp[f0,f1,f14,f15,hLl,hlt',hbi,hb];by_cases hcb:c=b
           · subst hcb;simp[f7,hmem]
           · have hcb':¬ ((c.toNat:Int)=b.toNat):=fun e=>hcb ((Y4 c b).1 e);have hcb2:¬ c.toNat=b.toNat:=fun e=>hcb' (by rw[e]);simp[hcb,hcb',hcb2,f15,hwi];refine Qe H'.length (13-(i+1)) (Qx6 _) (by simp) (by omega) ⟨i+1,rfl,by omega,by rw[htk];simp[hni];exact Ne.symm hcb,?_⟩;simp[f0,f1,f7,f14,Qb hcl]
         · have:i=13:=by omega
           subst this;rw[Qyo (by omega)]at hni;simp[f14,f15,hLl,hni]
       · rintro fr H' ⟨f4,f5,f6,hm,rfl⟩;rw[if_pos hm,if_neg (by simp)]at hT;simp;simp[RetK,Qb hcl,f4,f5,f6];exact hfin _ _ _ (by rw[hT]) (fun _=>by rw[hT];simp)
       · rintro fr H' ⟨hm,rfl⟩;rw[if_neg hm,if_pos rfl]at hT;simp;simp[RetK,Qb hcl];exact hfin _ _ _ (by rw[hT]) (fun h=>by cases h)
end
section
theorem HasT.lex4{f fb fl fo tt}(h:HasT P [6] f (Qgy fb fl fo tt))(hb:∀ (s:Bs) H,s.length≤1048576→Qc P fb [YS s] H (fun r H'=>r=YI (badS s)∧H'=H))(hl:∀ (s:Bs) (n:Nat),n≤s.length→s.length≤1048576→∀ H,Qc P fl [YS s,YI n] H (fun r H'=>r=YI ((n+Qm false (s.drop n):Nat):Int)∧H'=H))(ho:∀ (s:Bs) (n:Nat),n<s.length→s.length≤1048576→∀ H,Qc P fo [YS s,YI n] H (Qpb (s.drop n) n H))(s:Bs)(hs:s.length≤1048576)(H:Hp) :
 Qc P f [YS s] H (fun r H'=>r=.tup [YL true 4 ((lexS s).1.map Qx),YI (lexS s).2.1,YI (lexS s).2.2]∧H'=H):=by
 obtain⟨fnn,hf,hcf⟩:=h;refine Qs hf hcf (by simp[Qgy]) fun hcl _ => ?_;by_cases h1:16384<s.length
 case pos =>
  have h1':(16384:Int)<s.length:=by omega
  simp[Qgy,h1'];simp[RetK,Qb hcl,lexS,h1]
 have h1':¬ (16384:Int)<s.length:=by omega
 have hbs:=hb s H hs;have hL:lexS s=if 0≤badS s then ([],20,badS s) else lexF (s.length+1) s 0 0:=by rw[lexS,if_neg h1]
 generalize lexS s=LS at hL;generalize badS s=bs at hL hbs;simp[Qgy,h1'];refine Qa hbs ?_;simp;refine Qj (fun h2 => ?_) (fun h2 => ?_)
 · have h2:0≤bs:=by simpa using h2
   rw[if_pos h2]at hL;subst hL;simp;simp[RetK,Qb hcl]
 have h2:¬ 0≤bs:=by simpa using h2
 rw[if_neg h2]at hL;simp;refine Qz (H.length+1) (fun d fr H'=>∃(p:Nat)(acc:List Tk),p≤s.length∧s.length-p<d∧LS=Qb5 acc (lexF d (s.drop p) p acc.length)∧acc.length≤4000∧fr 0=YS s∧fr 6=.osl true 4 (acc.map Qx) H.length∧fr 7=YI p∧H'=H++[.tok acc.length 4 tt]) (s.length+1) (by simp) ⟨0,[],by omega,by omega,?_,by simp,?_⟩ ?_
 · simp only[Q1z,Qy3];rw[hL];exact(Ql9 _ _ _ _).symm
 · simp[Qp hcl]
 rintro d fr H' ⟨p,acc,hp,hd,hLS,hacc,f0,f6,f7,rfl⟩;obtain⟨d',rfl⟩:∃ d',d=d'+1:=⟨d-1,by omega⟩;have g1:=hl s p hp hs (H++[.tok acc.length 4 tt]);simp[f0,f7];have hll:=Qcc false (s.drop p);simp only[Qza]at hll;rw[lexF]at hLS;simp only[Qaq]at hLS;have htl:=Qgh (s.drop (p+Qm false (s.drop p)));simp only[Qza]at htl;have hsb:=Qd9 (s:=s) (n:=p) (w:=Qm false (s.drop p)) (by omega);have g2:=fun H=>fun h=>ho s (p+Qm false (s.drop p)) h hs H;unfold Qpb at g2;generalize hn:Qm false (s.drop p)=n at hLS hll g1 g2 htl hsb;have hnil:p+n=s.length→tokN (s.drop (p+n))=(0,0,0):=fun e=>by rw[Qzj (by omega)];rfl
 generalize hTT:tokN (s.drop (p+n))=T at hLS g2 htl hnil;obtain⟨e,k,m⟩:=T;simp only at hLS htl g2;obtain⟨t1,t2,t3,t4⟩:=htl;refine Qa g1 ?_;simp[f0,f7,hsb];rcases Qz6 (p+n) s.length with hlt|hge
 · have hlt':(p:Int)+n<s.length:=by omega
   have hne:s.drop (p+n)≠[]:=fun q=>by have:=Qze.1 q;omega
   simp[f0,hlt'];have g3:=fun H=>g2 H hlt;simp only[Qzv]at g3;refine Qd (g3 _) ?_;rintro _ _ ⟨k',m',rfl,rfl,hx⟩;by_cases he:e=0
   case neg =>
    rw[if_pos he]at hLS;have:LS=([],e,((p+n:Nat):Int)):=by rw[hLS];simp[Qb5,he]
    simp[he];simp[RetK,Qg hcl,this]
   obtain⟨rfl,hm'⟩:=hx he;subst hm';rw[if_neg (by simp[he])]at hLS;subst he;have hsm:=Qd9 (s:=s) (n:=p+n) (w:=m) (by omega);simp only[Qzv]at hsm;simp[f0];by_cases h4:4000≤acc.length
   case pos =>
    have h4':(4000:Int)≤acc.length:=by omega
    rw[if_pos h4]at hLS;have:LS=([],5,((p+n:Nat):Int)):=by rw[hLS];simp[Qb5]
    simp[f6,f7,h4'];simp[RetK,Qg hcl,this]
   have h4':¬ (4000:Int)≤acc.length:=by omega
   rw[if_neg h4]at hLS;obtain⟨t,ht⟩:∃ t:Tk,t=⟨k',p+n,(s.drop p).take n,(s.drop (p+n)).take m⟩:=⟨_,rfl⟩;have hbt:acc.map Qx++[[.int .i64 k',.int .i64 ((p:Int)+n),.str ((s.drop p).take n),.str ((s.drop (p+n)).take m)]]=(acc++[t]).map Qx:=by
    simp[Qx,ht]
   rw[← ht]at hLS;have hap:(acc.map Qx).length=acc.length:=by simp
   simp[f0,f6,f7,h4',hsm,appA];rw[if_pos (by omega)];simp;by_cases hk:k'=0
   · rw[if_pos hk]at hLS;have hLS':LS=(acc++[t],0,0):=by rw[hLS];simp[Qb5]
     subst hk;simp[hbt];simp[RetK,Qg hcl,hLS']
   · rw[if_neg hk,← Qk6]at hLS;simp[hk,hbt];have hm1:=t3 rfl hne;refine Qe (H.length+1) d' (Qx6 _) (by simp) (by omega) ⟨p+n+m,acc++[t],by omega,by omega,?_,by simp;omega,?_⟩
     · simpa using hLS
     · simp[f0,Qp hcl]
 · have hlt':¬ (p:Int)+n<s.length:=by omega
   have hpn:p+n=s.length:=by omega
   obtain⟨rfl,h2⟩:=Prod.mk.inj (hnil hpn);obtain⟨rfl,rfl⟩:=Prod.mk.inj h2;rw[if_neg (by simp)]at hLS;have hsm:=Qd9 (s:=s) (n:=p+n) (w:=0) (by omega);simp only[Qzv,Q0l,Q1c]at hsm;simp[f0,hlt'];by_cases h4:4000≤acc.length
   case pos =>
    have h4':(4000:Int)≤acc.length:=by omega
    rw[if_pos h4]at hLS;have:LS=([],5,((p+n:Nat):Int)):=by rw[hLS];simp[Qb5]
    simp[f6,f7,h4'];simp[RetK,Qg hcl,this]
   have h4':¬ (4000:Int)≤acc.length:=by omega
   rw[if_neg h4]at hLS;obtain⟨t,ht⟩:∃ t:Tk,t=⟨0,p+n,(s.drop p).take n,(s.drop (p+n)).take 0⟩:=⟨_,rfl⟩;have hbt:acc.map Qx++[[.int .i64 0,.int .i64 ((p:Int)+n),.str ((s.drop p).take n),.str ((s.drop (p+n)).take 0)]]=(acc++[t]).map Qx:=by
    simp[Qx,ht]
   rw[← ht]at hLS;have hap:(acc.map Qx).length=acc.length:=by simp
   simp[f0,f6,f7,h4',hsm,appA];rw[if_pos (by omega)];simp;rw[if_pos rfl]at hLS;have hLS':LS=(acc++[t],0,0):=by rw[hLS];simp[Qb5]
   simp[RetK,Qg hcl,hLS',ht,Qx]
end
section
def AdvE(L:List Tk)(i:Nat)(s:Bool):PR→Prop
 | .ok _ j=>i≤j∧(s=true→i<j)∧(i<j→j<L.length)
 | _=>True
section
variable{L:List Tk}
theorem AdvE.ok{i j:Nat}{s:Bool}{m:N}(h1:i≤j)(h2:s=true→i<j)(h3:i<j→j<L.length):AdvE L i s (.ok m j):=⟨h1,h2,h3⟩
theorem AdvE.want(hE:Wt L){i k:Nat}{s:Bool}{x:Bs}{h:Nat→PR}(hh:k+1<L.length→AdvE L i s (h (k+1))):AdvE L i s (Qr L k x h):=by
 unfold Qr;split
 · rename_i e;exact hh (Q3 hE e)
 · trivial
theorem AdvE.word(hE:Wt L){i k:Nat}{s:Bool}{h:Bs→Nat→PR}(hh:k+1<L.length→AdvE L i s (h (txT L k) (k+1))):AdvE L i s (Yl L k h):=by
 unfold Yl;split
 · rename_i e;exact hh (Zu hE (by omega))
 · trivial
theorem AdvE.ifT(hE:Wt L){i k:Nat}{s:Bool}{x:Bs}{a b:PR}(ha:k+1<L.length→AdvE L i s a)(hb:AdvE L i s b):AdvE L i s (if isT L k x then a else b):=by
 split
 · rename_i e;exact ha (Q3 hE e)
 · exact hb
theorem AdvE.ifK(hE:Wt L){i k:Nat}{s:Bool}{x:Int}{a b:PR}(hx:x≠0)(ha:k+1<L.length→AdvE L i s a)(hb:AdvE L i s b):AdvE L i s (if kdT L k=x then a else b):=by
 split
 · rename_i e;exact ha (Zu hE (by omega))
 · exact hb
theorem AdvE.if0{i k:Nat}{s:Bool}{a b:PR}(ha:AdvE L i s a)(hb:AdvE L i s b):AdvE L i s (if kdT L k=0 then a else b):=by
 split
 · exact ha
 · exact hb
theorem AdvE.ifS(hE:Wt L){i k:Nat}{s:Bool}{x:Bs}{a b:PR}(ha:k+2<L.length→AdvE L i s a)(hb:AdvE L i s b):AdvE L i s (if kdT L k=1∧isT L (k+1) x=true then a else b):=by
 split
 · rename_i e;exact ha (by have:=Q3 hE e.2;omega)
 · exact hb
theorem AdvE.last{n:Nat}(ih:∀ g i,AdvE L i g.strict (pp L n g i)){g:G}{k i:Nat}{s:Bool}(h1:i≤k)(h2:i<k→k<L.length)(h3:s=true→g.strict=true∨i<k):AdvE L i s (pp L n g k):=by
 have:=ih g k;generalize pp L n g k=r at this;cases r with
 | out=>trivial
 | bad j=>trivial
 | ok m j =>
   obtain⟨a1,a2,a3⟩:=this;refine⟨by omega,fun h => ?_,fun h=>by omega⟩;rcases h3 h with h|h
   · have:=a2 h;omega
   · omega
theorem AdvE.thenG{n:Nat}(ih:∀ g i,AdvE L i g.strict (pp L n g i)){g:G}{k i:Nat}{s:Bool}{h:N→Nat→PR}(hh:∀ m j,k≤j→(g.strict=true→k<j)→(k<j→j<L.length)→AdvE L i s (h m j)):AdvE L i s ((pp L n g k).then h):=by
 have:=ih g k;generalize pp L n g k=r at this;cases r with
 | out=>trivial
 | bad j=>trivial
 | ok m j=>exact hh m j this.1 this.2.1 this.2.2
theorem Yp(hE:Wt L):∀(n:Nat)(g:G)(i:Nat),AdvE L i g.strict (pp L n g i)
 | 0,g,i=>trivial
 | n + 1, g, i => by
   have ih:=Yp hE n;cases g
   all_goals simp only[pp,G.strict]
   all_goals
    repeat' first
     | exact AdvE.bad
     | (refine AdvE.want hE fun _ => ?_)
     | (refine AdvE.word hE fun _ => ?_)
     | (refine AdvE.ifT hE (fun _ => ?_) ?_)
     | (refine AdvE.ifK hE (by decide) (fun _ => ?_) ?_)
     | (refine AdvE.ifS hE (fun _ => ?_) ?_)
     | (refine AdvE.if0 ?_ ?_)
     | (refine AdvE.thenG ih fun m j h1 h2 h3 => ?_;simp only[G.strict,Qye,false_implies,true_implies]at h2)
     | (refine AdvE.ok ?_ ?_ ?_<;>(try simp only[Qye,false_implies,true_implies])<;>omega)
     | (refine AdvE.last ih ?_ ?_ ?_<;>(try simp only[G.strict,Qye,false_implies,true_implies,false_or,true_or])<;>omega)
end
def rst(tr:TypeId)(z:Bool)(L:List Tk)(st:Option Nat):Ob := .box tr [YL z 4 (L.map Qx),YI (match st with|none => -1|some q=>(q:Int))]
theorem Qi7{tr:TypeId}{z:Bool}{L:List Tk}{s:Option Nat}{n:Nat}:(rst tr z L s).clr n=rst tr z L s:=by simp[rst]
structure RF where
 (kind file is word want ended use_ def_ lambda params typed block stmt expr sum term post atom:FuncId)
 (tn tt tr:TypeId)
def ag(k f t:Int)(w:Bs)(a:Int)(x:A):A := .agg [YI k,YI f,YI t,YS w,YI a,x]
section
variable{P:Program}{R:RF}{z:Bool}{L:List Tk}{H:Hp}{i:Nat}
theorem Has.ris{f tt tr}(h:Has P f (Qh7 tt)){st:Option Nat}(hi:H[i]?=some (rst tr z L st)){p:Nat}(hp:p<L.length)(x:Bs):Qc P f [.ptr i 0,YI p,YS x] H (fun r H'=>r=YB (isT L p x)∧H'=H):=by
 refine Qf h (by simp[Qh7]) fun hcl _ => ?_;unfold rst at hi;have hA:=Wb hi;have hr:=Qv Qx hp;have hg:L[p]?=some L[p]:=Qx4 hp;have hT:isT L p x=((decide (L[p].k=2)||decide (L[p].k=5))&&decide (L[p].x=x)):=by unfold isT;rw[hg]
 generalize L[p]=t at hr hT;obtain⟨k,a,l,y⟩:=t;simp only[Qx]at hr hT;by_cases h2:k=2
 · simp[Qh7,hi,hA,hr,h2];simp[RetK,Qg hcl,hT,h2]
 · by_cases h5:k=5
   · simp[Qh7,hi,hA,hr,h2,h5];simp[RetK,Qg hcl,hT,h2,h5]
   · simp[Qh7,hi,hA,hr,h2,h5];simp[RetK,Qg hcl,hT,h2,h5]
theorem Has.rwant{f fi tr}(h:Has P f (Qc4 fi))(hs:∀ (H:Hp) (i:Nat) (st:Option Nat),H[i]?=some (rst tr z L st)→∀ (p:Nat),p<L.length→∀ x,Qc P fi [.ptr i 0,YI p,YS x] H (fun r H'=>r=YB (isT L p x)∧H'=H)){s:PSt}(hi:H[i]?=some (rst tr z L s.2))(hp:s.2=none→s.1<L.length)(hb:s.1≤1125899906842624)(x:Bs):Qc P f [.ptr i 0,YI s.1,YS x] H (fun r H'=>r=YI ((Qo L x s).1:Int)∧H'=H.set i (rst tr z L (Qo L x s).2)):=by
 refine Qf h (by simp[Qc4]) fun hcl _ => ?_;obtain⟨p,st⟩:=s;have hil:=Wd hi;cases st with
 | some q =>
   rw[show Qo L x (p,some q)=(p,some q) from rfl,Hp.set_self hi];unfold rst at hi;have hA:=Wb hi;have hq:¬ (q:Int)<0:=by omega
   simp[Qc4,hi,hq];simp[RetK,Qb hcl]
 | none =>
   have hp':=hp rfl;have g:=hs H i none hi p hp' x;simp only at hb;have hw:IntKind.i64.wrap ((p:Int)+1)=((p+1:Nat):Int):=by rw[wi64 (by omega)];omega
   have hi0:=hi;unfold rst at hi;have hA:=Wb hi;rw[Qn];by_cases hT:isT L p x=true
   · rw[if_pos hT,Hp.set_self hi0];simp[Qc4,hi];refine Qa g ?_;simp[hi,hT,hw];simp[RetK,Qb hcl]
   · rw[if_neg hT];have hT':isT L p x=false:=by simpa using hT
     have hgs:=Qfa hil (Ob.box tr [YL z 4 (L.map Qx),YI p]);have hc:Hp.cut H.length (H.set i (rst tr z L (some p)))=H.set i (rst tr z L (some p)):=Qdb hcl Qi7;simp[Qc4,hi];refine Qa g ?_;have hnq:¬ (p:Int)<0:=by omega
     simp[hi,hT',hgs,hnq];simp[RetK,rst];simpa[rst] using hc
theorem Has.rended{f tn}(h:Has P f (Qao tn))(k f0 t:Int)(w:Bs)(a:Int)(z1:Bool)(rows:List (List D))(to:Int)(z2:Bool)(rows2:List (List D))(H:Hp) :
 Qc P f [ag k f0 t w a (YL z1 6 rows),YI to,YL z2 6 rows2] H (fun r H'=>r=ag k f0 to w a (YL z2 6 rows2)∧H'=H):=by
 refine Qf h (by simp[Qao]) fun hcl _ => ?_;simp[Qao,ag];simp[RetK,Qg hcl]
theorem Has.rendedT{f tn}(h:Has P f (Qao tn))(k f0 t:Int)(w:Bs)(a:Int)(z1:Bool)(rows:List (List D))(to:Int)(z2:Bool)(rows2:List (List D))(H:Hp)(q:Nat)(hq:q<H.length) :
 Qc P f [ag k f0 t w a (YL z1 6 rows),YI to,.osl z2 6 rows2 q] H (fun r H'=>r=ag k f0 to w a (.osl z2 6 rows2 q)∧H'=H):=by
 refine Qf h (by simp[Qao]) fun hcl _ => ?_;simp[Qao,ag,hq];simp[RetK,Qg hcl,hq]
theorem Has.rword{f tn tr}(h:Has P f (Qc3 tn)){s:PSt}(hi:H[i]?=some (rst tr z L s.2))(hp:s.2=none→s.1<L.length)(hb:s.1≤1125899906842624)(k f0 t:Int)(w:Bs)(a:Int)(z1:Bool)(rows:List (List D)) :
 Qc P f [.ptr i 0,ag k f0 t w a (YL z1 6 rows),YI s.1] H (fun r H'=>r=.tup [ag k f0 t (if Qu L s then txT L s.1 else w) (if Qu L s then (s.1:Int) else a) (YL z1 6 rows),YI ((Wx L s).1:Int)]∧H'=H.set i (rst tr z L (Wx L s).2)):=by
 refine Qf h (by simp[Qc3]) fun hcl _ => ?_;obtain⟨p,st⟩:=s;have hil:=Wd hi;cases st with
 | some q =>
   rw[Zw,Qmj];rw[Hp.set_self hi];unfold rst at hi;have hA:=Wb hi;have hq:¬ (q:Int)<0:=by omega
   simp[Qc3,hi,hA,hq,ag];simp[RetK,Qg hcl]
 | none =>
   have hp':=hp rfl;simp only at hb hp';have hw:IntKind.i64.wrap ((p:Int)+1)=((p+1:Nat):Int):=by rw[wi64 (by omega)];omega
   have hi0:=hi;unfold rst at hi;have hA:=Wb hi;have hr:=Qv Qx hp';have hg:L[p]?=some L[p]:=Qx4 hp';have hkd:kdT L p=L[p].k:=by unfold kdT;rw[hg]
   have htx:txT L p=L[p].x:=by unfold txT;rw[hg]
   generalize L[p]=tk at hr hkd htx;obtain⟨kk,ta,tl,y⟩:=tk;simp only[Qx]at hr hkd htx;rw[Wm,Qgg,hkd,htx];by_cases h1:kk=1
   · subst h1;rw[if_pos rfl,Hp.set_self hi0];simp[Qc3,hi,hA,hr,hw,ag];simp[RetK,Qg hcl]
   · rw[if_neg h1];have hc:Hp.cut H.length (H.set i (rst tr z L (some p)))=H.set i (rst tr z L (some p)):=Qdb hcl Qi7;have hu:∀ X o,(H++X).set i o=H.set i o++X:=fun X o=>Qx9 _ _ hil;have hgs:∀ X o,(H.set i o++X)[i]?=some o:=fun X o=>upG hil;have hcc:∀ X,Hp.cut H.length (H.set i (rst tr z L (some p))++X)=H.set i (rst tr z L (some p)):=fun X=>by rw[Qae (by simp),hc]
     unfold rst at hcc;simp[Qc3,hi,hA,hr,hw,ag,h1,hu,hgs];simp[RetK,hcc,rst]
end
end
section
structure RHas(P:Program)(R:RF):Prop where
 is:Has P R.is (Qh7 R.tt)
 word:Has P R.word (Qc3 R.tn)
 want:Has P R.want (Qc4 R.is)
 ended:Has P R.ended (Qao R.tn)
 use_:Has P R.use_ (Qmv R.word R.want R.ended R.tn)
 def_:Has P R.def_ (Qmx R.want R.word R.lambda R.ended R.tn)
 lambda:Has P R.lambda (Qf6 R.params R.typed R.block R.tn)
 typed:Has P R.typed (Qc5 R.is R.kind R.tn)
def Qd0(L:List Tk)(n:Nat)(g:G)(s:PSt):Prop:=PPre L n g s∧(s.2=none→s.1<L.length)
def RQ(tr:TypeId)(z:Bool)(L:List Tk)(n:Nat)(g:G)(H:Hp)(i:Nat)(X:Hp)(s:PSt):A→Hp→Prop:=fun r H'=>∃ m s',r=.tup [N.v m,YI s'.1]∧H'=H.set i (rst tr z L s'.2)++X∧Rel L n g s m s'
def UR(P:Program)(tr:TypeId)(z:Bool)(L:List Tk)(n:Nat)(g:G)(f:FuncId):Prop:=∀(H X:Hp)(i:Nat)(s:PSt),i<H.length→Qd0 L n g s→Qc P f [.ptr i 0,YI s.1] (H.set i (rst tr z L s.2)++X) (RQ tr z L n g H i X s)
theorem Qhr{P:Program}{tr:TypeId}{z:Bool}{L:List Tk}{n:Nat}{g:G}{f:FuncId}(h:∀ (H:Hp) (i:Nat) (s:PSt),i<H.length→Qd0 L n g s→Qc P f [.ptr i 0,YI s.1] (H.set i (rst tr z L s.2)) (RQ tr z L n g H i [] s)):UR P tr z L n g f:=by
 intro H X i s hi hp;have:=h (H++X) i s (by simp;omega) hp;rw[Qx9 _ _ hi]at this;refine this.mono ?_;rintro r H' ⟨m,s',rfl,rfl,hr⟩;refine⟨m,s',rfl,?_,hr⟩;rw[Qyq,Qx9 _ _ hi]
def MoE(L:List Tk)(s s':PSt):Prop:=s'.2=none→s.2=none∧s.1≤s'.1∧(s.1<L.length→s'.1<L.length)
theorem MoE.refl{L:List Tk}(s:PSt):MoE L s s:=fun h=>⟨h,Qx6 _,id⟩
theorem MoE.trans{L:List Tk}{s t u:PSt}(h:MoE L s t)(k:MoE L t u):MoE L s u:=fun e=>by
 obtain⟨a1,a2,a3⟩:=k e;obtain⟨b1,b2,b3⟩:=h a1;exact⟨b1,by omega,fun q=>a3 (b3 q)⟩
theorem MoE.pre{L:List Tk}{n:Nat}{g g':G}{s s':PSt}(h:MoE L s s')(hp:Qd0 L (n+1) g s)(hc:g'.c<g.c)(hb:s'.1+16*g'.c≤281474976710656):Qd0 L n g' s':=by
 obtain⟨⟨p1,p2,p3⟩,p4⟩:=hp;refine⟨⟨hb,by omega,fun e => ?_⟩,fun e => ?_⟩
 · obtain⟨a1,a2,a3⟩:=h e;obtain⟨b1,b2⟩:=p3 a1;have:=a3 (p4 a1);exact⟨by omega,by omega⟩
 · obtain⟨a1,a2,a3⟩:=h e;exact a3 (p4 a1)
section
variable{L:List Tk}{x:Bs}{p q:Nat}
theorem Vr(hE:Wt L){s s':PSt}(h:Qo L x s=s'):MoE L s s':=by
 subst h;obtain⟨p,st⟩:=s;cases st with
 | some q=>exact .refl _
 | none =>
   rw[Qn];split
   · rename_i e;exact fun _=>⟨rfl,by simp,fun _=>Q3 hE e⟩
   · intro e;cases e
theorem Qag(hE:Wt L){s s':PSt}(h:Wx L s=s'):MoE L s s':=by
 subst h;obtain⟨p,st⟩:=s;cases st with
 | some q=>rw[Zw];exact .refl _
 | none =>
   rw[Wm];split
   · rename_i e;exact fun _=>⟨rfl,by simp,fun _=>Zu hE (by omega)⟩
   · intro e;cases e
theorem Rel.moE(hE:Wt L){n:Nat}{g:G}{m:N}{s s':PSt}(h:Rel L n g s m s'):MoE L s s':=by
 obtain⟨p,st⟩:=s;cases st with
 | some q =>
   obtain⟨a,rfl,-⟩:=h.some';intro e;cases e
 | none =>
   rcases h.none' with⟨q,a,-,rfl,-⟩|⟨k,e,rfl⟩
   · intro e;cases e
   · have ha:=Yp hE n g p;rw[e]at ha;obtain⟨h1,-,h3⟩:=ha;refine fun _=>⟨rfl,h1,fun hl => ?_⟩;simp only at hl ⊢;rcases Qz6 p k with h|h
     · exact h3 h
     · omega
end
section
variable{P:Program}{R:RF}{z:Bool}{L:List Tk}{H X:Hp}{i:Nat}{s:PSt}
theorem rcut{tr:TypeId}{st st':Option Nat}(hcl:Hp.Closed (H.set i (rst tr z L st))):Hp.cut H.length (H.set i (rst tr z L st')++X)=H.set i (rst tr z L st'):=by
 have e:H.set i (rst tr z L st')=(H.set i (rst tr z L st)).set i (rst tr z L st'):=by simp
 rw[Qae (by simp),e,Hp.cut_set];have:=Qb hcl;rw[Qyz]at this;rw[this,Qi7]
theorem RHas.isA(hR:RHas P R)(hi:i<H.length){st:Option Nat}{p:Nat}(hp:p<L.length)(x:Bs):Qc P R.is [.ptr i 0,YI p,YS x] (H.set i (rst R.tr z L st)++X) (fun r H'=>r=YB (isT L p x)∧H'=H.set i (rst R.tr z L st)++X):=hR.is.ris (upG hi) hp x
theorem RHas.wantA(hR:RHas P R)(hi:i<H.length)(hp:s.2=none→s.1<L.length)(hb:s.1≤1125899906842624)(x:Bs):Qc P R.want [.ptr i 0,YI s.1,YS x] (H.set i (rst R.tr z L s.2)++X) (fun r H'=>r=YI ((Qo L x s).1:Int)∧H'=H.set i (rst R.tr z L (Qo L x s).2)++X):=by
 have:=hR.want.rwant (s:=s) (tr:=R.tr) (z:=z) (fun H i st h p hp x=>hR.is.ris h hp x) (upG (X:=X) hi) hp hb x
 rwa[up hi]at this
theorem RHas.wordA(hR:RHas P R)(hi:i<H.length)(hp:s.2=none→s.1<L.length)(hb:s.1≤1125899906842624)(k f0 t:Int)(w:Bs)(a:Int)(z1:Bool)(rows:List (List D)) :
 Qc P R.word [.ptr i 0,ag k f0 t w a (YL z1 6 rows),YI s.1] (H.set i (rst R.tr z L s.2)++X) (fun r H'=>r=.tup [ag k f0 t (if Qu L s then txT L s.1 else w) (if Qu L s then (s.1:Int) else a) (YL z1 6 rows),YI ((Wx L s).1:Int)]∧H'=H.set i (rst R.tr z L (Wx L s).2)++X):=by
 have:=hR.word.rword (s:=s) (tr:=R.tr) (z:=z) (upG (X:=X) hi) hp hb k f0 t w a z1 rows
 rwa[up hi]at this
theorem MoE.lt{L:List Tk}{s s':PSt}(h:MoE L s s')(hs:s.2=none→s.1<L.length):s'.2=none→s'.1<L.length:=fun e=>by
 obtain⟨a1,a2,a3⟩:=h e;exact a3 (hs a1)
theorem RHas.use'(hR:RHas P R)(hE:Wt L)(hL:L.length≤1048576)(n:Nat)(hi:i<H.length)(p:Nat)(hT:isT L p kUse=true) :
 Qc P R.use_ [.ptr i 0,YI p] (H.set i (rst R.tr z L none)) (RQ R.tr z L (n+1) .use H i [] (p,none)):=by
 refine Qf hR.use_ (by simp[Qmv]) fun hcl _ => ?_;have hp:=Q3 hE hT;have hw:IntKind.i64.wrap ((p:Int)+1)=((p+1:Nat):Int):=by rw[wi64 (by omega)];omega
 have hp1:(((p+1:Nat),none):PSt).2=none→(((p+1:Nat),none):PSt).1<L.length:=fun _=>hp;have g1:=fun X=>hR.wordA (z:=z) (s:=(p+1,none)) (X:=X) hi hp1 (by simp only;omega) 23 (p+1:Nat) 0 [] 0 true [];generalize h1:Wx L (p+1,none)=s1 at g1;have b1:=Y8 h1;have m1:=Qag hE h1;have g2:=fun X=>hR.wantA (z:=z) (s:=s1) (X:=X) hi (m1.lt hp1) (by simp only at b1;omega) [46];generalize h2:Qo L [46] s1=s2 at g2;have b2:=Wy h2;have m2:=m1.trans (Vr hE h2);have g3:=fun X=>hR.wordA (z:=z) (s:=s2) (X:=X) hi (m2.lt hp1) (by simp only at b1;omega) 2 p 0 [] 0 true [];generalize h3:Wx L s2=s3 at g3;have b3:=Y8 h3;have m3:=m2.trans (Qag hE h3);have g4:=fun X=>hR.wantA (z:=z) (s:=s3) (X:=X) hi (m3.lt hp1) (by simp only at b1;omega) [59];generalize h4:Qo L [59] s3=s4 at g4;simp only[ag]at g1 g3;simp[Qmv,hw];refine Qa (g1 _) ?_;simp;refine Qa (g2 _) ?_;simp;refine Qa (g3 _) ?_;simp;refine Qa (g4 _) ?_;simp;have g5:=hR.ended.rended 2 p 0 (if Qu L s2 then txT L s2.1 else []) (if Qu L s2 then (s2.1:Int) else 0) true [] (s4.1:Int) false [[.int .i64 23,.int .i64 (p+1:Nat),.int .i64 (s1.1:Int),.str (if Qu L (p+1,none) then txT L (p+1) else []),.int .i64 (if Qu L (p+1,none) then ((p+1:Nat):Int) else 0),.sl true 6 []]];simp only[ag]at g5;simp at g5;refine Qa (g5 _) ?_;simp;simp[RetK,rcut hcl];refine⟨N.new 2 p s4.1 (if Qu L s2 then txT L s2.1 else []) (if Qu L s2 then (s2.1:Int) else 0) [N.new 23 (p+1) s1.1 (if kdT L (p+1)=1 then txT L (p+1) else []) (if kdT L (p+1)=1 then (p:Int)+1 else 0) []],s4,?_,by simp,?_⟩
 · simp[N.new,N.v_mk,N.enc_mk]
 subst h1 h2 h3 h4;clear b1 b2 b3 m1 m2 m3 g1 g2 g3 g4 g5;simp only[Rel,pp,Qr,Yl,if_pos hT];by_cases c2:kdT L (p+1)=1
 case neg=>simp[c2];omega
 have l2:=Zu hE (show kdT L (p+1)≠0 by omega);simp only[Wm,c2,if_true];by_cases c3:isT L (p+1+1) [46]=true
 case neg=>simp[c3];omega
 have l3:=Q3 hE c3;simp only[Qn,c3,if_true];by_cases c4:kdT L (p+1+1+1)=1
 case neg=>simp[c4];omega
 have l4:=Zu hE (show kdT L (p+1+1+1)≠0 by omega);simp only[Wm,c4,if_true];by_cases c5:isT L (p+1+1+1+1) [59]=true
 case neg=>simp[c5];omega
 simp[c2,c3,c4,c5];simp[Q1l,Qzp]
def Qqr(L:List Tk)(n:Nat)(s:PSt)(p t b:N)(s':PSt):Prop:=∃ s1 s2,Rel L n .params s p s1∧Rel L n .typed s1 t s2∧Rel L n .block s2 b s'
theorem RHas.lambda'(hR:RHas P R)(hE:Wt L)(hL:L.length≤1048576)(n:Nat)(hn:n≤1099511627776)(hPa:UR P R.tr z L n .params R.params)(hTy:UR P R.tr z L n .typed R.typed)(hBl:UR P R.tr z L n .block R.block)(hi:i<H.length)(hb:s.1≤1048576+1)(h5:5≤n)(hp:s.2=none→s.1<L.length∧16*(L.length-s.1)+5≤n) :
 Qc P R.lambda [.ptr i 0,YI s.1] (H.set i (rst R.tr z L s.2)++X) (fun r H'=>∃ p t b s',r=.tup [YL false 6 [p.enc,t.enc,b.enc],YI s'.1]∧H'=H.set i (rst R.tr z L s'.2)++X∧Qqr L n s p t b s'):=by
 refine Qf hR.lambda (by simp[Qf6]) fun hcl _ => ?_;have pr:∀ {s1:PSt} {g:G},g.c≤5→MoE L s s1→s1.1+16*g.c≤281474976710656→Qd0 L n g s1:=fun {s1 g} hc hm hbb=>by
  refine⟨⟨hbb,by omega,fun e => ?_⟩,fun e => ?_⟩
  · obtain⟨a1,a2,a3⟩:=hm e;obtain⟨c1,c2⟩:=hp a1;have:=a3 c1;exact⟨by omega,by omega⟩
  · obtain⟨a1,a2,a3⟩:=hm e;exact a3 (hp a1).1
 obtain⟨Q,hQ⟩:∃ Q:A→Hp→Prop,Q=fun r H'=>∃ p t b s',r=.tup [YL false 6 [p.enc,t.enc,b.enc],YI s'.1]∧H'=H.set i (rst R.tr z L s'.2)++X∧Qqr L n s p t b s':=⟨_,rfl⟩;rw[← hQ];have hcc:∀ st Y,Hp.cut (H.length+X.length) (H.set i (rst R.tr z L st)++(X++Y))=H.set i (rst R.tr z L st)++X:=fun st Y=>by
  have hcl':Hp.Closed ((H++X).set i (rst R.tr z L s.2)):=by rw[Qx9 _ _ hi];exact hcl
  have:=rcut (st':=st) (X:=Y) hcl';rw[Qx9 _ _ hi,Qyw,Qyr]at this;exact this
 simp[Qf6];refine Qd (hPa H X i s hi (pr (by decide) (.refl s) (by simp only[G.c];omega))) ?_;rintro _ _ ⟨t1,s1,rfl,rfl,r1⟩;have m1:=r1.moE hE;have b1:=r1.wt0 rfl;obtain⟨ka,fa,ta,wa,qa,za,ksa⟩:=t1;rw[N.v_mk];simp;refine Qd (hTy H _ i s1 hi (pr (by decide) m1 (by simp only[G.c];omega))) ?_;rintro _ _ ⟨t2,s2,rfl,rfl,r2⟩;have m2:=m1.trans (r2.moE hE);have b2:=r2.wt0 rfl;obtain⟨kb,fb,tb,wb,qb,zb,ksb⟩:=t2;rw[N.v_mk];simp;refine Qd (hBl H _ i s2 hi (pr (by decide) m2 (by simp only[G.c];omega))) ?_;rintro _ _ ⟨t3,s3,rfl,rfl,r3⟩;obtain⟨kc,fc,tc,wc,qc,zc,ksc⟩:=t3;rw[N.v_mk];simp;simp[RetK,hcc];subst hQ;refine⟨_,_,_,s3,?_,rfl,s1,s2,r1,r2,r3⟩;simp[N.enc_mk]
end
end
section
section
variable{P:Program}{R:RF}{z:Bool}{L:List Tk}{H X:Hp}{i:Nat}{s:PSt}
theorem RHas.def'(hR:RHas P R)(hE:Wt L)(hL:L.length≤1048576)(n:Nat)(hn:n≤1099511627776)(hPa:UR P R.tr z L n .params R.params)(hTy:UR P R.tr z L n .typed R.typed)(hBl:UR P R.tr z L n .block R.block)(hi:i<H.length)(p:Nat)(hpp:Qd0 L (n+1) .defn (p,none)) :
 Qc P R.def_ [.ptr i 0,YI p] (H.set i (rst R.tr z L none)) (RQ R.tr z L (n+1) .defn H i [] (p,none)):=by
 refine Qf hR.def_ (by simp[Qmx]) fun hcl _ => ?_;have hp:p<L.length:=hpp.2 rfl;obtain⟨-,hp2⟩:=hpp.1.2.2 rfl;simp only[G.c]at hp2;have hp1:(((p:Nat),none):PSt).2=none→(((p:Nat),none):PSt).1<L.length:=fun _=>hp;have g1:=fun X=>hR.wantA (z:=z) (s:=(p,none)) (X:=X) hi hp1 (by simp only;omega) [100,101,102];generalize h1:Qo L [100,101,102] (p,none)=s1 at g1;have b1:=Wy h1;have m1:=Vr hE h1;have g2:=fun X=>hR.wordA (z:=z) (s:=s1) (X:=X) hi (m1.lt hp1) (by simp only at b1;omega) 3 p 0 [] 0 true [];generalize h2:Wx L s1=s2 at g2;have b2:=Y8 h2;have m2:=m1.trans (Qag hE h2);simp only[ag]at g2;simp[Qmx];refine Qa (g1 _) ?_;simp;refine Qa (g2 _) ?_;simp;refine Qd (hR.lambda' (X:=_) hE hL n hn hPa hTy hBl hi (by simp only at b1;omega) (by omega) (fun e=>by
  obtain⟨a1,a2,a3⟩:=m2 e;have:=a3 hp;simp only at a2 this;exact⟨this,by omega⟩)) ?_
 rintro _ _ ⟨t1,t2,t3,s3,rfl,rfl,u1,u2,r1,r2,r3⟩;simp;have g5:=hR.ended.rended 3 p 0 (if Qu L s1 then txT L s1.1 else []) (if Qu L s1 then (s1.1:Int) else 0) true [] (s3.1:Int) false [t1.enc,t2.enc,t3.enc];simp only[ag]at g5;refine Qa (g5 _) ?_;simp;simp[RetK,rcut hcl];refine⟨N.new 3 p s3.1 (if Qu L s1 then txT L s1.1 else []) (if Qu L s1 then (s1.1:Int) else 0) [t1,t2,t3],s3,?_,by simp,?_⟩
 · simp[N.new,N.v_mk]
 clear b1 b2 m1 m2 g1 g2 g5;subst h1 h2;simp only[Rel,pp,Qr,Yl,kDef];by_cases c1:isT L p [100,101,102]=true
 case neg =>
  simp[c1]at r1;obtain⟨a,rfl,e3⟩:=r1.some';obtain⟨b,rfl,e4⟩:=r2.some';obtain⟨c,rfl,e5⟩:=r3.some';simp only[G.wt]at e3 e4 e5;simp[c1];omega
 have l1:=Q3 hE c1;simp only[Qn,c1,if_true]at r1 ⊢;by_cases c2:kdT L (p+1)=1
 case neg =>
  simp[c2]at r1;obtain⟨a,rfl,e3⟩:=r1.some';obtain⟨b,rfl,e4⟩:=r2.some';obtain⟨c,rfl,e5⟩:=r3.some';simp only[G.wt]at e3 e4 e5;simp[c1,c2];omega
 simp only[Wm,c2,if_true]at r1;rcases r1.none' with⟨q,a,e,rfl,e3⟩|⟨k,e,rfl⟩
 · obtain⟨b,rfl,e4⟩:=r2.some';obtain⟨c,rfl,e5⟩:=r3.some';simp only[G.wt]at e4 e5;simp[c1,c2,e,PR.then];omega
 rcases r2.none' with⟨q,a,e',rfl,e4⟩|⟨k',e',rfl⟩
 · obtain⟨c,rfl,e5⟩:=r3.some';simp only[G.wt]at e5;simp[c1,c2,e,e',PR.then];omega
 rcases r3.none' with⟨q,a,e'',rfl,e5⟩|⟨k'',e'',rfl⟩
 · simp[c1,c2,e,e',e'',PR.then];omega
 simp[c1,c2,e,e',e'',PR.then]
theorem RHas.typed'(hR:RHas P R)(hE:Wt L)(hL:L.length≤1048576)(n:Nat)(hn:n≤1099511627776)(hK:UR P R.tr z L n .kind R.kind):UR P R.tr z L (n+1) .typed R.typed:=by
 refine Qhr fun H i s hi hpp => ?_;refine Qf hR.typed (by simp[Qc5]) fun hcl _ => ?_;have hp0:=hpp.1.1;simp only[G.c]at hp0;obtain⟨p,st⟩:=s;have hget:∀ st X,(H.set i (rst R.tr z L st)++X)[i]?=some (rst R.tr z L st):=fun st X=>upG hi;have hget0:∀ st,(H.set i (rst R.tr z L st))[i]?=some (rst R.tr z L st):=fun st=>Qfa hi _;have hcc:∀ st' X,Hp.cut H.length (H.set i (rst R.tr z L st')++X)=H.set i (rst R.tr z L st'):=fun st' X=>rcut hcl;cases st with
 | some q =>
   have hq:¬ (q:Int)<0:=by omega
   have hq':(0:Int)≤q:=by omega
   have hg1:=hget (some q);have hg2:=hget0 (some q);have hc:=hcc (some q);simp only[rst]at hg1 hg2 hc;simp[Qc5,rst,hg1,hg2,hq,hq'];simp[RetK,hc];refine⟨N.none,(p,some q),by simp[N.none,N.new,N.v_mk],by simp[rst],?_⟩;simp[Rel]
 | none =>
   have hp:p<L.length:=hpp.2 rfl;obtain⟨hp1,hp2⟩:=hpp.1.2.2 rfl;simp only[G.c]at hp1 hp2;have g:=fun X=>hR.isA (z:=z) (st:=none) (X:=X) hi hp [58];have hw:IntKind.i64.wrap ((p:Int)+1)=((p+1:Nat):Int):=by rw[wi64 (by omega)];omega
   have hg1:=hget none;have hg2:=hget0 none;simp only[rst]at hg1 hg2;cases hT:isT L p [58] with
   | false =>
     rw[hT]at g;simp only[rst]at g;simp[Qc5,rst,hg1,hg2];refine Qa (g _) ?_;simp;have hc:=hcc none;simp only[rst]at hc;simp[RetK,hc];refine⟨N.none,(p,none),by simp[N.none,N.new,N.v_mk],by simp[rst],?_⟩;simp[Rel,pp,hT]
   | true =>
     have hl:=Q3 hE hT;rw[hT]at g;have gk:=fun X=>hK H X i (p+1,none) hi ⟨⟨by simp only[G.c];omega,by simp only[G.c];omega,fun _=>⟨by simp only;omega,by simp only[G.c];omega⟩⟩,fun _=>hl⟩;obtain⟨Q,hQ⟩:∃ Q:A→Hp→Prop,Q=RQ R.tr z L (n+1) .typed H i [] (p,none):=⟨_,rfl⟩;rw[← hQ];simp only[rst]at g gk;simp[Qc5,rst,hg1,hg2,hw];refine Qa (g _) ?_;simp[hw];refine Qd (gk _) ?_;rintro _ _ ⟨m,s',rfl,rfl,hr⟩;obtain⟨k,f,t,w,a,zz,ks⟩:=m;rw[N.v_mk];simp;simp[RetK,hcc];subst hQ;refine⟨_,s',by rw[N.v_mk],by simp,?_⟩;simp only[Rel]at hr ⊢;simp[pp,hT];split at hr
     · exact hr.elim
     · rename_i q e;exact⟨hr.1,by omega⟩
     · rename_i m' k' e;exact hr
end
end
section
theorem Qki{L:List Tk}{i:Nat}{x y:Bs}(h:isT L i x=true)(h':isT L i y=true):x=y:=by
 unfold isT at h h';cases hg:L[i]? with
 | none=>rw[hg]at h;cases h
 | some t =>
   rw[hg]at h h';simp at h h';rw[← h.2,← h'.2]
section
variable{P:Program}{R:RF}{z:Bool}{L:List Tk}{H X:Hp}{i:Nat}{s:PSt}
theorem RHas.expr'(hR:RHas P R)(hx:Has P R.expr (Qgw R.sum R.is R.ended R.tn))(hE:Wt L)(hL:L.length≤1048576)(n:Nat)(hn:n≤1099511627776)(hS:UR P R.tr z L n .sum R.sum):UR P R.tr z L (n+1) .expr R.expr:=by
 refine Qhr fun H i s hi hpp => ?_;refine Qf hx (by simp[Qgw]) fun hcl _ => ?_;have hp0:=hpp.1.1;simp only[G.c]at hp0;have hget:∀ st X,(H.set i (rst R.tr z L st)++X)[i]?=some (rst R.tr z L st):=fun st X=>upG hi;have hcc:∀ st' X,Hp.cut H.length (H.set i (rst R.tr z L st')++X)=H.set i (rst R.tr z L st'):=fun st' X=>rcut hcl;have gS:=fun X s hp=>hS H X i s hi hp;obtain⟨Q,hQ⟩:∃ Q:A→Hp→Prop,Q=RQ R.tr z L (n+1) .expr H i [] s:=⟨_,rfl⟩;rw[← hQ];simp[Qgw];refine Qd (gS _ s ((MoE.refl s).pre hpp (by decide) (by simp only[G.c];omega))) ?_;rintro _ _ ⟨m,s1,rfl,rfl,r1⟩;have m1:=r1.moE hE;have hlt:=m1.lt hpp.2;obtain⟨k,f,t,w,a,zz,ks⟩:=m;rw[N.v_mk];have ret:Rel L (n+1) .expr s (.mk k f t w a zz ks) s1→Q (.tup [.agg [YI k,YI f,YI t,YS w,YI a,YL zz 6 (ks.map N.enc)],YI s1.1]) (H.set i (rst R.tr z L s1.2)):=fun h=>by
  subst hQ;exact⟨_,s1,by rw[N.v_mk],by simp,h⟩
 obtain⟨p1,st1⟩:=s1;cases st1 with
 | some q =>
   have hg1:=hget (some q);have hc:=hcc (some q);have hq:¬ (q:Int)<0:=by omega
   have hq':(0:Int)≤q:=by omega
   simp only[rst]at hg1 hc ret;simp[rst,hg1,hq,hq'];simp[RetK,hc];refine ret ?_;obtain⟨p,st⟩:=s;cases st with
   | some q' =>
     obtain⟨b,e,e3⟩:=r1.some';simp only[prdI,somI]at e;obtain⟨rfl,rfl⟩:=e;simp only[G.wt]at e3;simpa[Rel,G.wt] using e3
   | none =>
     rcases r1.none' with⟨q',b,e,e2,e3⟩|⟨k',e,e2⟩
     · simp only[prdI,somI]at e2;obtain⟨rfl,rfl⟩:=e2;simp[Rel,pp,e,PR.then];omega
     · simp at e2
 | none =>
   have hl1:p1<L.length:=hlt rfl;have hg1:=hget none;have hc:=hcc none;obtain⟨hs0,hle,-⟩:=m1 rfl;obtain⟨p,st⟩:=s;simp only at hs0;subst hs0;simp only at hle;obtain⟨hp1,hp2⟩:=hpp.1.2.2 rfl;simp only[G.c]at hp1 hp2;have e1:pp L n .sum p=.ok (.mk k f t w a zz ks) p1:=by
    rcases r1.none' with⟨q',b,e,e2,e3⟩|⟨k',e,e2⟩
    · simp at e2
    · simp only[prdI]at e2;rw[e,e2.1]
   have hw:IntKind.i64.wrap ((p1:Int)+1)=((p1+1:Nat):Int):=by rw[wi64 (by omega)];omega
   have gi1:=fun X=>hR.isA (z:=z) (st:=none) (X:=X) hi hl1 [60];have gi2:=fun X=>hR.isA (z:=z) (st:=none) (X:=X) hi hl1 [61,61];have more:∀(K:Int),isT L p1 [60]=true∧K=14∨isT L p1 [60]=false∧isT L p1 [61,61]=true∧K=15→∀(m2:N)(s2:PSt),Rel L n .sum (p1+1,none) m2 s2→Q (.tup [.agg [YI K,YI f,YI s2.1,YS [],YI 0,YL false 6 [[.int .i64 k,.int .i64 f,.int .i64 t,.str w,.int .i64 a,.sl zz 6 (ks.map N.enc)],m2.enc]],YI s2.1]) (H.set i (rst R.tr z L s2.2)):=by
    intro K hK m2 s2 r2;subst hQ;refine⟨N.new K f s2.1 [] 0 [.mk k f t w a zz ks,m2],s2,by simp[N.new,N.v_mk,N.enc_mk],by simp,?_⟩;simp only[Rel,pp,e1,PR.then];rcases hK with⟨h1,rfl⟩|⟨h1,h2,rfl⟩
    · have:=Q3 hE h1;rw[if_pos h1];rcases r2.none' with⟨q',b,e,rfl,e3⟩|⟨k',e,rfl⟩
      · simp[e,PR.then];omega
      · simp[e,PR.then,N.f]
    · have:=Q3 hE h2;rw[if_neg (by simp[h1]),if_pos h2];rcases r2.none' with⟨q',b,e,rfl,e3⟩|⟨k',e,rfl⟩
      · simp[e,PR.then];omega
      · simp[e,PR.then,N.f]
   have pre2:p1+1<L.length→Qd0 L n .sum (p1+1,none):=fun h=>⟨⟨by simp only[G.c];omega,by simp only[G.c];omega,fun _=>⟨by simp only;omega,by simp only[G.c];omega⟩⟩,fun _=>h⟩;cases hT:isT L p1 [60] with
   | true =>
     have hT2:isT L p1 [61,61]=false:=by
      cases h:isT L p1 [61,61] with
      | false=>rfl
      | true=>exact absurd (Qki hT h) (by decide)
     have g3:=fun X=>gS X _ (pre2 (Q3 hE hT));have more:=more 14 (.inl ⟨hT,rfl⟩);rw[hT]at gi1;rw[hT2]at gi2;simp only[rst]at hg1 gi1 gi2 g3;simp[rst,hg1];refine Qa (gi1 _) ?_;simp;refine Qa (gi2 _) ?_;simp[hw];refine Qd (g3 _) ?_;rintro _ _ ⟨m2,s2,rfl,rfl,r2⟩;have more:=more m2 s2 r2;obtain⟨k2,f2,t2,w2,a2,z2,ks2⟩:=m2;rw[N.v_mk];rw[N.enc_mk]at more;have g5:=hR.ended.rended 14 f 0 [] 0 true [] (s2.1:Int) false [[.int .i64 k,.int .i64 f,.int .i64 t,.str w,.int .i64 a,.sl zz 6 (ks.map N.enc)],[.int .i64 k2,.int .i64 f2,.int .i64 t2,.str w2,.int .i64 a2,.sl z2 6 (ks2.map N.enc)]];simp only[ag]at g5;simp;refine Qa (g5 _) ?_;simp;simp[RetK,hcc];exact more
   | false =>
     cases hT2:isT L p1 [61,61] with
     | true =>
       have g3:=fun X=>gS X _ (pre2 (Q3 hE hT2));have more:=more 15 (.inr ⟨hT,hT2,rfl⟩);rw[hT]at gi1;rw[hT2]at gi2;simp only[rst]at hg1 gi1 gi2 g3;simp[rst,hg1];refine Qa (gi1 _) ?_;simp;refine Qa (gi2 _) ?_;simp;refine Qa (gi2 _) ?_;simp[hw];refine Qd (g3 _) ?_;rintro _ _ ⟨m2,s2,rfl,rfl,r2⟩;have more:=more m2 s2 r2;obtain⟨k2,f2,t2,w2,a2,z2,ks2⟩:=m2;rw[N.v_mk];rw[N.enc_mk]at more;have g5:=hR.ended.rended 15 f 0 [] 0 true [] (s2.1:Int) false [[.int .i64 k,.int .i64 f,.int .i64 t,.str w,.int .i64 a,.sl zz 6 (ks.map N.enc)],[.int .i64 k2,.int .i64 f2,.int .i64 t2,.str w2,.int .i64 a2,.sl z2 6 (ks2.map N.enc)]];simp only[ag]at g5;simp;refine Qa (g5 _) ?_;simp;simp[RetK,hcc];exact more
     | false =>
       rw[hT]at gi1;rw[hT2]at gi2;simp only[rst]at hg1 gi1 gi2 hc ret;simp[rst,hg1];refine Qa (gi1 _) ?_;simp;refine Qa (gi2 _) ?_;simp;simp[RetK,hc];refine ret ?_;simp[Rel,pp,e1,PR.then,hT,hT2]
end
end
section
def zbx(tn:TypeId):Ob := .box tn [YI 0,YI 0,YI 0,YS [],YI 0,YL true 6 []]
theorem rcutk{tr:TypeId}{z:Bool}{L:List Tk}{H:Hp}{i:Nat}{st:Option Nat}(hcl:Hp.Closed (H.set i (rst tr z L st)))(st':Option Nat)(k:Nat)(X:Hp):Hp.cut (H.length+k) (H.set i (rst tr z L st')++X)=H.set i (rst tr z L st')++(X.take k).map (Ob.clr (H.length+k)):=by
 have hc:Hp.Closed (H.set i (rst tr z L st')):=by
  have e:H.set i (rst tr z L st')=(H.set i (rst tr z L st)).set i (rst tr z L st'):=by simp
  intro n hn;have h:=hcl n (by simpa using hn);rw[e,Q19,h,Qi7]
 have:=Qp hc k X
 rwa[Qyz]at this
section
variable{P:Program}{R:RF}{z:Bool}{L:List Tk}
theorem Wf(tn:TypeId)(a:N):∃(k f t:Int)(w:Bs)(q:Int)(za:Bool)(ks:List N),a.f=f∧a.enc=[.int .i64 k,.int .i64 f,.int .i64 t,.str w,.int .i64 q,.sl za 6 (ks.map N.enc)]∧a.v=.agg [YI k,YI f,YI t,YS w,YI q,YL za 6 (ks.map N.enc)]∧abx tn a=.box tn [YI k,YI f,YI t,YS w,YI q,YL za 6 (ks.map N.enc)]:=by
 obtain⟨k,f,t,w,q,za,ks⟩:=a;exact⟨k,f,t,w,q,za,ks,rfl,by rw[N.enc_mk],by rw[N.v_mk],by rw[abx,N.enc_mk];rfl⟩
theorem RHas.term'(hR:RHas P R)(hx:Has P R.term (Qgu R.post R.is R.ended R.tn))(hE:Wt L)(hL:L.length≤1048576)(n:Nat)(hn:n≤1099511627776)(hT:∀ m,m<n+1→UR P R.tr z L m .post R.post):UR P R.tr z L (n+1) .term R.term:=by
 refine Qhr fun H i s hi hpp => ?_;refine Qf hx (by simp[Qgu]) fun hcl _ => ?_;have hp1:=hpp.1.1;simp only[G.c]at hp1;simp[Qgu];refine Qd (hT n (by omega) H _ i s hi ((MoE.refl s).pre hpp (by decide) (by simp only[G.c];omega))) ?_;rintro _ _ ⟨a0,s1,rfl,rfl,r1⟩;have b1:=r1.le;have m1:=r1.moE hE;obtain⟨XX,hXX⟩:∃ XX:N→Hp,XX=fun a=>[zbx R.tn,abx R.tn a]:=⟨_,rfl⟩;have hXl:∀ a,(XX a).length=2:=fun a=>by rw[hXX];rfl
 obtain⟨E,hE0⟩:∃ E:Fr→Hp→Prop,E=fun fr H'=>∃ a s',(fr 0=.ptr i 0∧fr 4=.ptr H.length 0∧fr 6=.ptr (H.length+1) 0∧fr 7=YI s'.1)∧Rel L (n+1) .term s a s'∧∃ Y,H'=H.set i (rst R.tr z L s'.2)++(XX a++Y):=⟨_,rfl⟩;have hE1:∀ fr a s',(fr 0=.ptr i 0∧fr 4=.ptr H.length 0∧fr 6=.ptr (H.length+1) 0∧fr 7=YI s'.1)→Rel L (n+1) .term s a s'→E fr (H.set i (rst R.tr z L s'.2)++XX a):=fun fr a s' h h'=>by subst hE0;exact⟨a,s',h,h',[],by simp⟩
 obtain⟨k,f,t,w,q,za,ks,hf0,he,hv,hb⟩:=Wf R.tn a0;rw[hv];simp;rw[show H.set i (rst R.tr z L s1.2)++[Ob.box R.tn [YI 0,YI 0,YI 0,YS [],YI 0,YL true 6 []],.box R.tn [YI k,YI f,YI t,YS w,YI q,YL za 6 (ks.map N.enc)]]=H.set i (rst R.tr z L s1.2)++XX a0 by rw[hXX,← hb];rfl];refine Qq 0 E (fun _ _=>False) ?_ (fun _ _ h=>h.elim) ?_
 rotate_left
 · intro fr H' h;subst hE0;obtain⟨a,s',⟨f0,f4,f6,f7⟩,hr,Y,rfl⟩:=h;obtain⟨k,f,t,w,q,za,ks,-,-,hv,hb⟩:=Wf R.tn a;subst hXX;simp[f0,f4,f6,f7,hb,zbx];simp[RetK,rcut hcl];exact⟨a,s',by rw[hv],by simp,hr⟩
 clear hE0;have hcut:∀ a st' X,Hp.cut (H.length+2) (H.set i (rst R.tr z L st')++(XX a++X))=H.set i (rst R.tr z L st')++XX a:=fun a st' X=>by
  rw[rcutk hcl,hXX];change H.set i (rst R.tr z L st')++[(zbx R.tn).clr _,(abx R.tn a).clr _]=_;rw[Qfr];rfl
 have hcut0:∀ a st',Hp.cut (H.length+2) (H.set i (rst R.tr z L st')++XX a)=H.set i (rst R.tr z L st')++XX a:=fun a st'=>by simpa using hcut a st' []
 have hg0:∀ st X,(H.set i (rst R.tr z L st)++X)[i]?=some (rst R.tr z L st):=fun st X=>upG hi;have hset:∀ a a' X,(XX a++X).set 1 (abx R.tn a')=XX a'++X:=fun a a' X=>by rw[hXX];simp
 have hgA:∀ a X,(XX a++X)[1]?=some (abx R.tn a):=fun a X=>by rw[hXX];simp
 have hgB:∀ a b X,(XX a++b::X)[2]?=some b:=fun a b X=>by rw[hXX];simp
 refine Qz (H.length+2) (fun d fr H'=>∃ a s',(fr 0=.ptr i 0∧fr 4=.ptr H.length 0∧fr 6=.ptr (H.length+1) 0∧fr 7=YI s'.1)∧H'=H.set i (rst R.tr z L s'.2)++XX a ∧
  ((d=0∧s'.2≠none∧∀ m,Rel L (n+1) .term s m s')∨∃ p1,s'=(p1,none)∧s.2=none∧d≤n∧pp L (n+1) .term s.1=pp L d (.termL a) p1∧p1<L.length∧16*(L.length-p1)+1≤d)) (match s1.2 with|none=>n|some _=>0) (by simp[hXl]) ⟨a0,s1,?_⟩ ?_
 · have hil2:i<H.length+2:=by omega
   refine⟨by simp[hil2],hcut0 _ _,?_⟩;obtain⟨p,st⟩:=s;cases st with
   | some q =>
     obtain⟨b,rfl,e⟩:=r1.some';simp only[G.wt]at e;exact .inl ⟨rfl,by simp,fun m=>by simp[Rel,G.wt];omega⟩
   | none =>
     obtain⟨hp2,hp3⟩:=hpp.1.2.2 rfl;simp only[G.c]at hp2 hp3;have hpl:=hpp.2 rfl;rcases r1.none' with⟨q',b,hq,rfl,e3⟩|⟨j,hj,rfl⟩
     · exact .inl ⟨rfl,by simp,fun m=>by simp[Rel,pp,hq,PR.then];omega⟩
     · have:=Yp hE n .post p;rw[hj]at this;obtain⟨v1,v2,v3⟩:=this;have v2:=v2 rfl;have v3:=v3 v2;exact .inr ⟨j,rfl,rfl,by simp,by simp[pp,hj,PR.then],v3,by(try simp only at hp3 ⊢);omega⟩
 · rintro d fr H' ⟨a,s',⟨f0,f4,f6,f7⟩,rfl,hd⟩;have hil2:i<H.length+2:=by omega
   rcases hd with⟨rfl,q1,q2⟩|⟨p1,rfl,hs2,hdn,hpe,hp1',hrk⟩
   · obtain⟨p',st'⟩:=s';cases st' with
     | none=>simp at q1
     | some q =>
       have hg1:=hg0 (some q);have hq:¬ (q:Int)<0:=by omega
       have hE2:=fun fr h=>hE1 fr a (p',some q) h (q2 _);simp only[rst]at hg1 hE2;simp[f0,f7,rst,hg1,hq];exact hE2 _ (by simp[f0,f4,f6,f7])
   · obtain⟨d',rfl⟩:∃ d',d=d'+1:=⟨d-1,by omega⟩;have hRel:∀ m s',(match pp L (d'+1) (.termL a) p1 with|.out=>False|.bad q=>s'.2=some q∧s'.1≤L.length+(n+1)|.ok m' k=>m=m'∧s'=(k,none))→Rel L (n+1) .term s m s':=fun m s' h=>by
      unfold Rel;rw[hs2];simp only;rw[hpe];exact h
     have hg1:=hg0 none;have gi:=fun X=>hR.isA (z:=z) (st:=none) (X:=X) hi hp1' [42];have hw:IntKind.i64.wrap ((p1:Int)+1)=((p1+1:Nat):Int):=by rw[wi64 (by omega)];omega
     cases hjb:isT L p1 [42] with
     | false =>
       have hE2:=fun fr h=>hE1 fr a (p1,none) h (hRel _ _ (by simp[pp,hjb]));rw[hjb]at gi;simp only[rst]at hg1 gi hE2;simp[f0,f7,rst,hg1];refine Qa (gi _) ?_;simp;exact hE2 _ (by simp[f0,f4,f6,f7])
     | true =>
       have l1:=Q3 hE hjb;obtain⟨k,f,t,w,q,za,ks,hf,he,hv,hb⟩:=Wf R.tn a;have gp:=fun X=>hT d' (by omega) H X i (p1+1,none) hi ⟨⟨by simp only[G.c];omega,by simp only[G.c];omega,fun _=>⟨by simp only;omega,by simp only[G.c];omega⟩⟩,fun _=>l1⟩;rw[hjb]at gi;simp only[rst]at hg1 gi gp;simp[f0,f7,rst,hg1];refine Qa (gi _) ?_;simp[f0,f7,hw];refine Qd (gp _) ?_;rintro _ _ ⟨b,s2,rfl,rfl,r2⟩;obtain⟨kb,fb,tb,wb,qb,zb,ksb,hfb,heb,hvb,hbb⟩:=Wf R.tn b;rw[hvb];obtain⟨bo,hbo⟩:∃ bo:Ob,bo=.box R.tn [YI kb,YI fb,YI tb,YS wb,YI qb,YL zb 6 (ksb.map N.enc)]:=⟨_,rfl⟩;have hA:=hgA a;rw[hb]at hA;have hB:=fun X=>hgB a bo X;rw[hbo]at hB;have g5:=hR.ended.rended 18 f 0 [] 0 true [] (s2.1:Int) false [a.enc,b.enc];rw[he,heb]at g5;simp only[ag]at g5;have hA1:∀ h,(XX a)[1]'h=.box R.tn [YI k,YI f,YI t,YS w,YI q,YL za 6 (ks.map N.enc)]:=fun h=>by rw[← hb];simp[hXX]
       simp[f6,hXl,hA,hB,hA1];refine Qa (g5 _) ?_;have hnew:abx R.tn (N.new 18 f s2.1 [] 0 [a,b])=.box R.tn [YI 18,YI f,YI s2.1,YS [],YI 0,YL false 6 [[.int .i64 k,.int .i64 f,.int .i64 t,.str w,.int .i64 q,.sl za 6 (ks.map N.enc)],[.int .i64 kb,.int .i64 fb,.int .i64 tb,.str wb,.int .i64 qb,.sl zb 6 (ksb.map N.enc)]]]:=by
        rw[abx,N.new,N.enc_mk];simp[he,heb]
       have hs1:=fun Y=>hset a (N.new 18 f s2.1 [] 0 [a,b]) Y;rw[hnew]at hs1;simp[f6,hXl,hA,hA1,hs1];rcases r2.none' with⟨q',b',hq,rfl,e3⟩|⟨j,hj,rfl⟩
       · refine Qe (H.length+2) 0 (Qx6 _) (by simp[hXl]) (by omega) ⟨_,(b',some q'),by simp[f0,f4,f6,hil2],hcut _ _ _,.inl ⟨rfl,by simp,fun m=>hRel _ _ ?_⟩⟩;simp[pp,hjb,hq,PR.then];omega
       · have:=Yp hE d' .post (p1+1);rw[hj]at this;obtain⟨v1,v2,v3⟩:=this;have v2:=v2 rfl;have v3:=v3 v2;refine Qe (H.length+2) d' (Qx6 _) (by simp[hXl]) (by omega) ⟨_,(j,none),by simp[f0,f4,f6,hil2],hcut _ _ _,.inr ⟨j,rfl,hs2,by omega,?_,v3,by omega⟩⟩;rw[hpe];simp[pp,hjb,hj,PR.then,hf]
end
end
end Go.Zam
