/-
  Texts of one proof, one behind the other.
-/
import Derived.Test.YthhlbefhanplhaaGreatDoorI6
import Derived.Test.YthhlbefhanplhaaGreatDoorI5
import Derived.Test.YthhlbefhanplhaaGreatDoorI3
import Derived.RangeFuncNested
import Derived.RangeFuncBox
import Derived.RangeFuncLeaves
import Derived.Shelf.Abstract
import Derived.WalkKit
import Derived.OwnWalkIn
import Derived.TacticsInMore
import Derived.LoopNIn
import Derived.LoopIn
import Derived.Test.YthhlbefhanplhaaGreatDoorProg
import Derived.BigCall
import Derived.BigGuard
import Derived.Laws.Closers25
import Derived.Laws.Closers25b
import Derived.Laws.Strings3
import Derived.Lib.AtoiErrMem
import Derived.Lib.ConvBytes
import Derived.Lib.Hide
import Derived.Lib.ParseIntBMem
import Derived.Lib.Strings
import Derived.Lib.Walk
import Derived.Shelf.Pu.Lays
import Derived.Shelf.Pu.Lower
import Derived.Shelf.Pu.ParseUint10
import Derived.Shelf.Pu.ParseUint10At
import Derived.Shelf.Pu.ParseUint10b16
import Derived.Shelf.Pu.ParseUint10b32
import Derived.Shelf.Pu.ParseUint10b64
import Derived.Shelf.Pu.ParseUint10b8
import Derived.Shelf.Pu.ParseUintEmpty
import Derived.Shelf.Pu.ToError
import Derived.Shelf.Pu.ToErrorRange
import Derived.Test.YthhlbefhanplhaaGreatDoorI4
import Derived.KernelRfl
import Derived.Test.YthhlbefhanplhaaGreatDoorI2
set_option linter.all false
set_option maxRecDepth 100000
set_option maxHeartbeats 4000000
namespace Go.Zam
variable{P:Program}
section
open Go.Proofs
structure Dg where
 m:Bs
 a:Int
 c:Int
def Qy(d:Dg):List D:=[.str d.m,.int .i64 d.a,.int .i64 d.c]
def imp1(S:List Un)(u:Un)(b:SBd):List Dg :=
 if b.k=1 then (if (Ze S (modN u b).w).isSome=false∨(modN u b).w=u.n then [⟨u.n,spU u (modN u b).at_,32⟩] else if (impU S u b).2<0 then [⟨u.n,spU u b.a,33⟩] else []) else []
def Qbg(S:List Un)(u:Un)(l:List SBd):List Dg:=l.flatMap (imp1 S u)
theorem Qvh(S:List Un)(u:Un)(b:SBd):(imp1 S u b).length≤1:=by
 unfold imp1;split
 · split
   · simp
   · split<;>simp
 · simp
theorem Qfw(S:List Un)(u:Un):∀ l,(Qbg S u l).length≤l.length
 | []=>by simp[Qbg]
 | b :: l => by
   have h1:=Qvh S u b;have h2:=Qfw S u l;unfold Qbg at h2 ⊢;simp only[Q1j,Qzy,Qzj];omega
theorem Qqm{S:List Un}{u:Un}{l:List SBd}{j:Nat}{b:SBd}(h:l[j]?=some b):Qbg S u (l.take (j+1))=Qbg S u (l.take j)++imp1 S u b:=by
 rw[Q1o,h];simp[Qbg]
theorem Qw6{H X:Hp}{bx:Ob}{R:List (List D)}{n b sz e:Nat}(r:List D)(hn:R.length=n)(hb:(n+1)*b≤140737488355328) :
 appA (H++(bx::.tok n sz e::X)) sz b e [r] (.osl true sz R (H.length+1))=some (.osl true sz (R++[r]) (H.length+1),H++(bx::.tok (n+1) sz e::X)):=by
 subst hn;rw[Qlq (H:=H++(bx::.tok R.length sz e::X)) (t:=H.length+1) (by simp) (by simpa using hb)];simp
def Qrd(P:Program)(f:Nat):Prop:=∀(u:Un)(a:Int),u.tk.length≤1099511627776→∀ H,Qc P f [.agg (u.enc.map .d),YI a] H (fun r H'=>r=.agg [YS u.n,YI (spU u a)]∧H'=H)
def Qv1(P:Program)(S:List Un)(u:Un)(f:Nat):Prop:=∀ b ∈ u.sm.bs,∀ H,Qc P f [pA S,.agg (u.enc.map .d),.agg ((Q4 b).map .d)] H (fun r H'=>r=.agg [YS (impU S u b).1,YI (impU S u b).2]∧H'=H)
theorem HasT.pjImps{f imp unit spot tU tBd tN tIm tD:Nat}{S:List Un}(h:HasT P [5] f (Qk6 imp unit spot tU tBd tN tIm tD))(u:Un)(hu:Qls P S unit)(hi:Qv1 P S u imp)(hs:Qrd P spot)(hg:GdU u)(hlb:u.sm.bs.length≤1099511627776)(hlt:u.tk.length≤1099511627776)(H:Hp) :
 Qc P f [pA S,.agg (u.enc.map .d)] H (fun r H'=>r=YL true 3 ((Qbg S u u.sm.bs).map Qy)∧H'=H):=by
 refine Qg h (by simp[Qk6]) fun hcl _ => ?_;obtain⟨zu,ms,he⟩:=u.enc_all;have hsp:=fun a X=>hs u a hlt (H++X);have him:=fun b hb X=>hi b hb (H++X);rw[he]at hsp him;simp only[Qz3,Q0c]at hsp him;simp[Qk6,he,pA];simp only[pA]at him;generalize hbx:Ob.box tU [A.d (.str u.n),A.d (.str u.t),A.d (.sl true 4 (u.tk.map Qt)),A.d (.int .i64 u.tr.k),A.d (.int .i64 u.tr.f),A.d (.int .i64 u.tr.t),A.d (.str u.tr.w),A.d (.int .i64 u.tr.at_),A.d (.sl zu 6 (u.tr.ks.map N.enc)),A.d (.sl u.sm.bs.isEmpty 4 (u.sm.bs.map Q4)),A.d ms,A.d (.sl u.sm.bad.isEmpty 2 (u.sm.bad.map Qx)),A.d (.int .i64 u.bad),A.d (.int .i64 u.pos)]=bx;refine Q0 0 (fun fr H'=>fr 5=.osl true 3 ((Qbg S u u.sm.bs).map Qy) (H.length+1)∧∃ n,H'=H++[bx,.tok n 3 tD]) ?_ ?_
 · refine Yi (H.length+2) u.sm.bs.length (fun j fr H'=>fr 0=.eptr [.sl S.isEmpty 14 (S.map Un.enc)]∧fr 3=.ptr H.length 0∧fr 14=YL u.sm.bs.isEmpty 4 (u.sm.bs.map Q4)∧fr 5=.osl true 3 ((Qbg S u (u.sm.bs.take j)).map Qy) (H.length+1) ∧
    H'=H++[bx,.tok (Qbg S u (u.sm.bs.take j)).length 3 tD]) (by omega) (by decide) (by simp) (by simp) ?_ ?_ ?_
   · simp[Qm hcl,Qbg,← hbx]
   · rintro j fr H' hj fi fn ⟨f0,f3,f14,f5,rfl⟩;obtain⟨b,hb⟩:∃ b,u.sm.bs[j]?=some b:=⟨_,Qy7 hj⟩;have hrow:Zam.rowAt (u.sm.bs.map Q4) (j:Int)=some [.int .i64 b.a,.int .i64 b.k,.str b.w,.int .i64 b.i]:=by simp[Zam.rowAt,hb,Q4]
     have hbm:=Qzo hb;have htk:=Qqm (S:=S) (u:=u) hb;have hlen:=Qfw S u (u.sm.bs.take j);have hlj:(u.sm.bs.take j).length≤u.sm.bs.length:=by simp;omega
     generalize Qbg S u (u.sm.bs.take j)=R at *;have happ:=fun X m' a' c'=>Qw6 (H:=H) (X:=X) (bx:=bx) (R:=R.map Qy) (n:=R.length) (b:=32) (sz:=3) (e:=tD) [.str m',.int .i64 a',.int .i64 c'] (by simp) (by omega);rw[← hbx]at happ;by_cases hk:b.k=1
     · obtain⟨i,x,h1,h2,h3,h4,h5⟩:=hg.mod hbm hk;have hr:Zam.rowAt (u.tr.ks.map N.enc) (i:Int)=some x.enc:=by simp[Zam.rowAt,h2]
       obtain⟨zx,hx⟩:=x.enc_all;obtain⟨zm,hm⟩:=(modN u b).enc_all;rw[h3]at hx;have himb:=him b hbm;have hI1:(impU S u b).1=(modN u b).w:=by rw[impU,if_pos hk]
       rw[hI1]at himb;have hun:=hu (modN u b).w;have h1m:imp1 S u b=(if (Ze S (modN u b).w).isSome=false∨(modN u b).w=u.n then [⟨u.n,spU u (modN u b).at_,32⟩] else if (impU S u b).2<0 then [⟨u.n,spU u b.a,33⟩] else []):=by rw[imp1,if_pos hk]
       rw[h1m]at htk;have hspm:=hsp (modN u b).at_;have hspb:=hsp b.a;generalize (impU S u b).2=q at *;generalize modN u b=m at *;have hr0:∀ r:List D,Zam.rowAt [r] 0=some r:=fun _=>rfl;simp only[Q4,hk,h1,Qz3,Q0c]at himb;simp[fi,f0,f3,f14,hrow,← hbx,hk,h1,hr,hr0,hx,hm];refine Qa (himb _) ?_;simp[f0];refine Qa (hun _) ?_;cases hv:Ze S m.w with
       | none =>
         rw[hv]at htk;simp only[Option.isSome_none,true_or,if_true]at htk;simp[zU,f3,← hbx,f5];refine Qa (hspm _) ?_;simp[happ];refine W9 (H.length+2) (Qy9 _) (by simp[fi,fn]) ?_;simp[f0,f3,f14,Qm hcl,← hbx,htk,Qy]
       | some v =>
         rw[hv]at htk;obtain⟨zv,mv,hve⟩:=v.enc_all;simp only[Q2n,Bool.true_eq_false,false_or]at htk;by_cases hn:m.w=u.n
         · rw[if_pos hn]at htk;simp[hve,hn,f3,← hbx,f5];refine Qa (hspm _) ?_;simp[happ];refine W9 (H.length+2) (Qy9 _) (by simp[fi,fn]) ?_;simp[f0,f3,f14,Qm hcl,← hbx,htk,Qy]
         · rw[if_neg hn]at htk;by_cases hq:q<0
           · rw[if_pos hq]at htk;simp[hve,hn,hq,f3,← hbx,f5];refine Qa (hspb _) ?_;simp[happ];refine W9 (H.length+2) (Qy9 _) (by simp[fi,fn]) ?_;simp[f0,f3,f14,Qm hcl,← hbx,htk,Qy]
           · rw[if_neg hq,Qzt]at htk;simp[hve,hn,hq,f3,← hbx,f5];refine W9 (H.length+2) (Qy9 _) (by simp[fi,fn]) ?_;simp[f0,f3,f5,f14,Qm hcl,← hbx,htk]
     · have h1m:imp1 S u b=[]:=by rw[imp1,if_neg hk]
       rw[h1m,Qzt]at htk;simp[fi,f14,hrow,← hbx,hk];refine W9 (H.length+2) (Qy9 _) (by simp[fi,fn]) ?_;simp[f0,f3,f5,f14,Qm hcl,← hbx,htk]
   · rintro fr H' fi fn ⟨f0,f3,f14,f5,rfl⟩;rw[Q21]at f5 ⊢;simp[f5]
 · rintro fr H' ⟨f5,n,rfl⟩;simp[f5];simp[RetK,Qf hcl]
end
section
open Go.Proofs
theorem Cmp.lex{α:Type}{c d : α → α→Int}(hc:Cmp c)(hd:Cmp d):Cmp fun x y=>if c x y=0 then d x y else c x y:=by
 have hz:∀ x y,c x y=0→c y x=0:=fun x y h=>by
  have h1:=hc.anti x y;have h2:=hc.anti y x;omega
 refine⟨fun x=>by simp[hc.refl,hd.refl],fun x y => ?_,fun x y z h1 h2 => ?_⟩
 · have h1:=hc.anti x y;have h2:=hc.anti y x;have h3:=hd.anti x y;show (if c x y=0 then d x y else c x y)<0↔0<(if c y x=0 then d y x else c y x);by_cases h:c x y=0
   · rw[if_pos h,if_pos (hz x y h)];exact h3
   · have:¬ c y x=0:=fun e=>h (hz y x e);rw[if_neg h,if_neg this];exact h1
 · have h1:(if c x y=0 then d x y else c x y)≤0:=h1;have h2:(if c y z=0 then d y z else c y z)≤0:=h2;show (if c x z=0 then d x z else c x z)≤0;have a1:=hc.anti x y;have a2:=hc.anti y x;have a3:=hc.anti y z;have a4:=hc.anti z y;have a5:=hc.anti x z;have a6:=hc.anti z x;have t1:=hc.trans x y z;have t2:=hc.trans z y x;have t3:=hc.trans y z x;have t4:=hc.trans z x y;have t5:=hd.trans x y z;split at h1<;>split at h2<;>split<;>first|omega|exact t5 h1 h2
def cD(a b:Dg):Int:=if We a.m b.m=0 then (if Yy a.a b.a=0 then Yy a.c b.c else Yy a.a b.a) else We a.m b.m
theorem Qcv:Cmp cD:=(Qcc.on Dg.m).lex ((Qd5.on Dg.a).lex (Qd5.on Dg.c))
theorem cD_or(a b:Dg):orL [We a.m b.m,Yy a.a b.a,Yy a.c b.c]=cD a b:=by
 simp only[orL,cD];by_cases h:Yy a.c b.c=0
 · simp[h]
 · simp[h]
theorem Qtk:∀ d,(Qy d).length=3:=fun _=>rfl
section
variable{P:Program}
structure SortD(P:Program)(clone srt stb ins sym rot swp fD cmpS nanS cmpI nanI cmpE nanE or_ tD:Nat):Prop where
 clone:HasT P [1000005] clone (Zn 3 32 tD)
 srt:Has P srt (Vc stb)
 stb:Has P stb (Zw ins sym)
 ins:Has P ins (Y3 3)
 sym:Has P sym (V7 3 rot sym)
 rot:Has P rot (Zj swp)
 swp:Has P swp (Yv 3)
 cmpD:Has P fD (Qk7 cmpS cmpI cmpE or_ tD)
 kCmpD:Wi P fD=true
 cmpS:Has P cmpS (Y6 nanS)
 nanS:Has P nanS Zc
 cmpI:Has P cmpI (Y6 nanI)
 nanI:Has P nanI Zc
 cmpE:Has P cmpE (Y6 nanE)
 nanE:Has P nanE Zc
 or_:Has P or_ Qjy
variable{clone srt stb ins sym rot swp cmpD cmpS nanS cmpI nanI cmpE nanE or_ tD:Nat}
theorem Qq2(hC:SortD P clone srt stb ins sym rot swp cmpD cmpS nanS cmpI nanI cmpE nanE or_ tD)(H:Hp)(x y:Dg):Qc P cmpD [.agg (rowE Qy x),.agg (rowE Qy y)] H (fun r H'=>r=YI (cD x y)∧H'=H):=by
 refine Qr hC.cmpD.choose_spec.1 hC.cmpD.choose_spec.2 (by simp[Qk7]) fun hcl _ => ?_;have g1:=fun X=>Qax hC.cmpS.choose_spec.1 hC.cmpS.choose_spec.2 hC.nanS.choose_spec.1 hC.nanS.choose_spec.2 (H:=H++X) x.m y.m;have g2:=fun X=>Qay hC.cmpI.choose_spec.1 hC.cmpI.choose_spec.2 hC.nanI.choose_spec.1 hC.nanI.choose_spec.2 (H:=H++X) (k := .i64) x.a y.a;have g3:=fun X=>Qay hC.cmpE.choose_spec.1 hC.cmpE.choose_spec.2 hC.nanE.choose_spec.1 hC.nanE.choose_spec.2 (H:=H++X) (k := .i64) x.c y.c;have g4:=fun X=>Qoi hC.or_.choose_spec.1 hC.or_.choose_spec.2 (H:=H++X) (z:=false) [We x.m y.m,Yy x.a y.a,Yy x.c y.c] (by simp);rw[cD_or]at g4;simp only[Qz3,Q0c]at g4;simp[Qk7,rowE,Qy];refine Ye (g1 _) ?_;simp;refine Ye (g2 _) ?_;simp;refine Ye (g3 _) ?_;simp;refine Ye (g4 _) ?_;simp;simp[RetK,Qf hcl]
theorem Qwd{f:Nat}(h:Has P f (Qb7 clone srt cmpD))(hC:SortD P clone srt stb ins sym rot swp cmpD cmpS nanS cmpI nanI cmpE nanE or_ tD)(H:Hp)(z:Bool)(l:List Dg)(hl:l.length≤1099511627776) :
 Qc P f [YL z 3 (l.map Qy)] H (fun r H'=>r=YL (z&&l.isEmpty) 3 ((ssort cD l).map Qy)∧H'=H):=by
 have hss:∀(H:Hp)(i:Nat),H[i]?=some (arrE Qy 3 l)→Qc P srt [.msl i 0 l.length,.d (.fn cmpD)] H (fun r' H'=>r'=.tup []∧H'=H.set i (arrE Qy 3 (ssort cD l))):=fun H i hi =>
  Qaq Qtk Qcv hC.srt.choose_spec.1 hC.srt.choose_spec.2 hC.stb.choose_spec.1 hC.stb.choose_spec.2 hC.ins.choose_spec.1 hC.ins.choose_spec.2 hC.sym.choose_spec.1 hC.sym.choose_spec.2 hC.rot.choose_spec.1 hC.rot.choose_spec.2 hC.swp.choose_spec.1 hC.swp.choose_spec.2
   (g := .d (.fn cmpD)) (fun H x y Q t hq=>by
    simp only[Qrb];exact⟨hC.kCmpD,Ye (Qq2 hC H x y) hq⟩) (fun m _=>by simp) hi (by omega)
 have hlen:=Wm Qcv l;by_cases h0:l=[]
 · subst h0;cases z with
   | true =>
     refine Qr h.choose_spec.1 h.choose_spec.2 (by simp[Qb7]) fun hcl _ => ?_;simp[Qb7];refine Qa (Qh3 hC.clone.choose_spec.1 hC.clone.choose_spec.2) ?_;simp;refine Qa (Qae (sz:=3) hC.srt.choose_spec.1 hC.srt.choose_spec.2 hC.stb.choose_spec.1 hC.stb.choose_spec.2 hC.ins.choose_spec.1 hC.ins.choose_spec.2 (fun m _=>by simp)) ?_;simp[RetK,Qb hcl,ssort]
   | false =>
     refine Qc.freeze (k:=0) (X:=[.arr 3 []]) (by simp[ssort]) ?_;refine Zp 1 h.choose_spec.1 h.choose_spec.2 (by simp[Qb7]) fun hcl _ => ?_;simp[Qb7];refine Qa (Qlz hC.clone.choose_spec.1 hC.clone.choose_spec.2) ?_;simp;have:=hss (H++[.arr 3 []]) H.length (by simp[arrE]);simp only[Qz6]at this;refine Qa this ?_;simp[RetK,Qm hcl,arrE,ssort]
 · have hrows:l.map Qy≠[]:=by simpa using h0
   have he:l.isEmpty=false:=by cases l<;>simp_all
   rw[he,Bool.and_false];refine Qc.freeze (k:=1) (X:=[.arr 3 [],arrE Qy 3 (ssort cD l)]) (by simp[arrE,rowE]) ?_;refine Zp 2 h.choose_spec.1 h.choose_spec.2 (by simp[Qb7]) fun hcl _ => ?_;simp[Qb7];refine Qa (Qh2 hC.clone.choose_spec.1 hC.clone.choose_spec.2 hrows (by simp;omega)) ?_;have:=hss (H++[.arr 3 [],.arr 3 ((l.map Qy).map (List.map .d))]) (H.length+1) (by simp[arrE,rowE]);simp at this;simp;refine Qa this ?_;simp[RetK,Qm hcl,Wf,hlen,-Ob.clr];simp
end
end
section
open Go.Proofs
def Vs:Bs:=[109,97,105,110]
def noU:Un:=⟨[],[],[],N.none,⟨[],[],[]⟩,0,0⟩
theorem Qwn:noU.enc=zU:=rfl
theorem Qg3{w:Bs}:∀ {l:List SBd} {i p:Int},itU w l i p=p∨∃(j:Nat)(b:SBd),itU w l i p=i+j∧l[j]?=some b∧b.k=2∧b.w=w
 | [],i,p => .inl rfl
 | b :: r, i, p => by
   unfold itU;split
   · rename_i e;rcases Qg3 (w:=w) (l:=r) (i:=i+1) (p:=i) with h|⟨j,c,h1,h2,h3⟩
     · exact .inr ⟨0,b,by simp[h],rfl,e⟩
     · exact .inr ⟨j+1,c,by omega,by simpa using h2,h3⟩
   · rcases Qg3 (w:=w) (l:=r) (i:=i+1) (p:=p) with h|⟨j,c,h1,h2,h3⟩
     · exact .inl h
     · exact .inr ⟨j+1,c,by omega,by simpa using h2,h3⟩
def entU(S:List Un):Bool:=match Ze S Vs with
 | none=>false
 | some u => if itU Vs u.sm.bs 0 (-1) < 0 then false else match u.sm.bs[(itU Vs u.sm.bs 0 (-1)).toNat]? with
   | some b=>(modN u b).ks.isEmpty
   | none=>false
theorem GdU.fst{u:Un}(h:GdU u){b:SBd}(hb:b ∈ u.sm.bs)(hk:b.k=2):∃(i:Nat)(x:N)(r:List N),b.i=i∧u.tr.ks[i]?=some x∧x.ks=modN u b::r:=by
 obtain⟨i,x,p,r,h1,h2,h3⟩:=h.df b hb hk;have:modN u b=p:=by
  unfold modN;rw[h1,Q0x,h2];simp[h3]
 rw[this];exact⟨i,x,r,h1,h2,h3⟩
theorem Qsr{S:List Un}{s:Bs}{v:Un}(hv:Ze S s=some v):v ∈ S:=by
 unfold Ze at hv;split at hv
 · rename_i v' hv';split at hv
   · cases hv;exact Qzo hv'
   · cases hv
 · cases hv
theorem Has.pjEntry{f unit item tU tN:Nat}{S:List Un}(h:Has P f (Qfq unit item tU tN))(hu:Qls P S unit)(hi:Qnz P item)(hg:∀ u ∈ S,GdU u)(hl:∀ u ∈ S,u.sm.bs.length≤1099511627776)(H:Hp) :
 Qc P f [pA S] H (fun r H'=>r=YB (entU S)∧H'=H):=by
 refine Qg h (by simp[Qfq]) fun hcl _ => ?_;have hun:=hu Vs H;unfold entU;cases hv:Ze S Vs with
 | none =>
   rw[hv]at hun;have hit:=fun X=>hi noU Vs (by decide) (H++X);rw[Qwn]at hit;have e1:itU Vs noU.sm.bs 0 (-1) = -1:=rfl;rw[e1]at hit;simp only[Option.elim_none,Option.isSome_none,zU,Vs,Qz3,Q0c]at hun hit;simp[Qfq];refine Qa hun ?_;simp;refine Qa (hit _) ?_;simp;simp[RetK,Qf hcl]
 | some u =>
   rw[hv]at hun;have hm:=Qsr hv;have hit:=fun X=>hi u Vs (hl u hm) (H++X);obtain⟨zu,ms,he⟩:=u.enc_all;simp only[Q3m,Q2n]at hun;rw[he]at hun hit;simp only[Qz3,Q0c]at hun hit;have hms:Vs=[109,97,105,110]:=rfl;simp[Qfq,← hms];refine Qa hun ?_;simp;refine Qa (hit _) ?_;rcases Qg3 (w:=Vs) (l:=u.sm.bs) (i:=0) (p := -1) with h|⟨j,b,h1,h2,h3,h4⟩
   · simp[h];simp[RetK,Qf hcl];exact fun h'=>absurd h' (by omega)
   · have hjl:j<u.sm.bs.length:=(Qy6.1 h2).1;rw[Q1x]at h1;rw[h1];obtain⟨i,x,r,g1,g2,g3⟩:=(hg u hm).fst (Qzo h2) h3;have hj0:¬ ((j:Int)<0):=by omega
     have hrb:Zam.rowAt (u.sm.bs.map Q4) (j:Int)=some [.int .i64 b.a,.int .i64 b.k,.str b.w,.int .i64 b.i]:=by simp[Zam.rowAt,h2,Q4]
     have hr:Zam.rowAt (u.tr.ks.map N.enc) (i:Int)=some x.enc:=by simp[Zam.rowAt,g2]
     have hr0:∀(r:List D)(l:List (List D)),Zam.rowAt (r::l) 0=some r:=fun _ _=>rfl;obtain⟨zx,hx⟩:=x.enc_all;obtain⟨zm,hmm⟩:=(modN u b).enc_all;rw[g3]at hx;simp[hj0,h2,hrb,g1,hr,hr0,hx,hmm];have hd:decide ((modN u b).ks=[])=(modN u b).ks.isEmpty:=by cases (modN u b).ks<;>simp
     simp only[RetK,Qf hcl,hd,h2,hj0,decide_false,Bool.not_false,Q3f];simp
end
section
open Go.Proofs
def dg1(S:List Un)(u:Un):List Dg:=if u.bad=0 then (u.sm.bad.map fun x=>⟨u.n,spU u x.1,x.2⟩)++Qbg S u u.sm.bs else [⟨u.n,u.pos,u.bad⟩]
def dgsU(S:List Un):List Dg:=S.flatMap (dg1 S)++if entU S then [] else [⟨Vs,0,34⟩]
def Qgm(S:List Un):List Dg:=ssort cD (dgsU S)
def Qfc(u:Un):Prop:=u.sm.bad.length≤1073741824∧u.sm.bs.length≤1073741824∧u.tk.length≤1073741824∧u.tr.ks.length≤1073741824
theorem Qr5{S:List Un}{u:Un}(h:Qfc u):(dg1 S u).length≤2147483648:=by
 obtain⟨h1,h2,-,-⟩:=h;have:=Qfw S u u.sm.bs;unfold dg1;split
 · simp;omega
 · simp
theorem Qoy{S T:List Un}(h:∀ u ∈ S,Qfc u):(S.flatMap (dg1 T)).length≤S.length*2147483648:=by
 induction S with
 | nil=>simp
 | cons u S ih =>
   have h1:=Qr5 (S:=T) (h u (by simp));have h2:=ih fun v hv=>h v (by simp[hv]);simp only[Q1j,Qzy,Qzj];omega
theorem Qtg{S T:List Un}{j:Nat}{u:Un}(h:S[j]?=some u):(S.take (j+1)).flatMap (dg1 T)=(S.take j).flatMap (dg1 T)++dg1 T u:=by
 rw[Q1o,h];simp
theorem Qbj{H X:Hp}{R:List (List D)}{n b sz e:Nat}(new:List (List D))(hn:R.length=n)(hb:(n+new.length)*b≤140737488355328) :
 appA (H++(.tok n sz e::X)) sz b e new (.osl true sz R H.length)=some (.osl true sz (R++new) H.length,H++(.tok (n+new.length) sz e::X)):=by
 subst hn;rw[Qlq (H:=H++(.tok R.length sz e::X)) (t:=H.length) (by simp) hb];simp
def Qv0(P:Program)(S:List Un)(f:Nat):Prop:=∀ u ∈ S,∀ H,Qc P f [pA S,.agg (u.enc.map .d)] H (fun r H'=>r=YL true 3 ((Qbg S u u.sm.bs).map Qy)∧H'=H)
def Qsl(P:Program)(S:List Un)(f:Nat):Prop:=∀ H,Qc P f [pA S] H (fun r H'=>r=YB (entU S)∧H'=H)
def Qsb(P:Program)(f:Nat):Prop:=∀(H:Hp)(z:Bool)(l:List Dg),l.length≤1099511627776→Qc P f [YL z 3 (l.map Qy)] H (fun r H'=>r=YL (z&&l.isEmpty) 3 ((ssort cD l).map Qy)∧H'=H)
theorem HasT.pjDiags{f spot imps entry sort tU tB tD:Nat}{S:List Un}(h:HasT P [3] f (Qfr spot imps entry sort tU tB tD))(hs:Qrd P spot)(hi:Qv0 P S imps)(he:Qsl P S entry)(hso:Qsb P sort)(hS:S.length≤8)(hsm:∀ u ∈ S,Qfc u)(H:Hp) :
 Qc P f [pA S] H (fun r H'=>r=YL (dgsU S).isEmpty 3 ((Qgm S).map Qy)∧H'=H):=by
 refine Qg h (by simp[Qfr]) fun hcl _ => ?_;simp[Qfr,pA];refine Q0 0 (fun fr H'=>fr 0=.eptr [.sl S.isEmpty 14 (S.map Un.enc)]∧fr 3=.osl true 3 ((S.flatMap (dg1 S)).map Qy) H.length∧H'=H++[.tok (S.flatMap (dg1 S)).length 3 tD]) ?_ ?_
 · refine Yi (H.length+1) S.length (fun j fr H'=>fr 0=.eptr [.sl S.isEmpty 14 (S.map Un.enc)]∧fr 13=YL S.isEmpty 14 (S.map Un.enc)∧fr 3=.osl true 3 (((S.take j).flatMap (dg1 S)).map Qy) H.length ∧
    H'=H++[.tok ((S.take j).flatMap (dg1 S)).length 3 tD]) (by omega) (by decide) (by simp) (by simp) ?_ ?_ ?_
   · simp[Qm hcl]
   · rintro j fr H' hj fi fn ⟨f0,f13,f3,rfl⟩;obtain⟨u,hu⟩:∃ u,S[j]?=some u:=⟨_,Qy7 hj⟩;have hum:=Qzo hu;have hsu:=hsm u hum;have hd1:=Qr5 (S:=S) hsu;obtain⟨q1,q2,q3,q4⟩:=hsu;have hrow:Zam.rowAt (S.map Un.enc) (j:Int)=some u.enc:=by simp[Zam.rowAt,hu]
     have htk:=Qtg (T:=S) hu;have hlen:=Qoy (T:=S) (S:=S.take j) fun v hv=>hsm v (Q1r hv);have hlj:(S.take j).length=j:=by simp;omega
     rw[hlj]at hlen;have hlen8:j*2147483648≤8*2147483648:=Qz2 _ (by omega);generalize (S.take j).flatMap (dg1 S)=R at *;obtain⟨zu,ms,hue⟩:=u.enc_all;have himp:=fun X=>hi u hum (H++X);have hsp:=fun a X=>hs u a (by omega) (H++X);rw[hue]at hrow himp hsp;simp only[Qz3,Q0c,pA]at himp hsp;have hil:=Qfw S u u.sm.bs;by_cases hb:u.bad=0
     · have h1:dg1 S u=(u.sm.bad.map fun x=>⟨u.n,spU u x.1,x.2⟩)++Qbg S u u.sm.bs:=by rw[dg1,if_pos hb]
       rw[h1]at htk;obtain⟨mk_,hmk⟩:∃ g:Int×Int→Dg,g=fun x=>⟨u.n,spU u x.1,x.2⟩:=⟨_,rfl⟩;rw[← hmk]at htk;rw[hb]at himp hsp;simp[fi,f13,hrow,hb];generalize hbx:Ob.box tU [A.d (.str u.n),A.d (.str u.t),A.d (.sl true 4 (u.tk.map Qt)),A.d (.int .i64 u.tr.k),A.d (.int .i64 u.tr.f),A.d (.int .i64 u.tr.t),A.d (.str u.tr.w),A.d (.int .i64 u.tr.at_),A.d (.sl zu 6 (u.tr.ks.map N.enc)),A.d (.sl u.sm.bs.isEmpty 4 (u.sm.bs.map Q4)),A.d ms,A.d (.sl u.sm.bad.isEmpty 2 (u.sm.bad.map Qx)),A.d (.int .i64 0),A.d (.int .i64 u.pos)]=bx;refine Q0 2 (fun fr H2=>fr 0=.eptr [.sl S.isEmpty 14 (S.map Un.enc)]∧fr 13=YL S.isEmpty 14 (S.map Un.enc)∧fr 5=.ptr (H.length+1) 0∧fr 15=YI j∧fr 14=YI S.length∧fr 3=.osl true 3 ((R++u.sm.bad.map mk_).map Qy) H.length ∧
        H2=H++[.tok (R++u.sm.bad.map mk_).length 3 tD,bx]) ?_ ?_
       · refine Yi (H.length+2) u.sm.bad.length (fun q fr H2=>fr 0=.eptr [.sl S.isEmpty 14 (S.map Un.enc)]∧fr 13=YL S.isEmpty 14 (S.map Un.enc)∧fr 5=.ptr (H.length+1) 0∧fr 15=YI j∧fr 14=YI S.length∧fr 35=YL u.sm.bad.isEmpty 2 (u.sm.bad.map Qx) ∧
          fr 3=.osl true 3 ((R++(u.sm.bad.take q).map mk_).map Qy) H.length∧H2=H++[.tok (R++(u.sm.bad.take q).map mk_).length 3 tD,bx]) (by omega) (by decide) (by simp) (by simp[← hbx]) ?_ ?_ ?_
         · simp[f0,f3,f13,fi,fn,Qm hcl,← hbx]
         · rintro q fr H2 hq gi gn ⟨f0,f13,f5,f15,f14,f35,f3,rfl⟩;obtain⟨x,hx⟩:∃ x,u.sm.bad[q]?=some x:=⟨_,Qy7 hq⟩;have hrx:Zam.rowAt (u.sm.bad.map Qx) (q:Int)=some [.int .i64 x.1,.int .i64 x.2]:=by simp[Zam.rowAt,hx,Qx]
           have htq:(u.sm.bad.take (q+1)).map mk_=(u.sm.bad.take q).map mk_++[mk_ x]:=by rw[Q1o,hx];simp
           have hlq:(u.sm.bad.take q).length≤1073741824:=by simp;omega
           have hmx:mk_ x=⟨u.n,spU u x.1,x.2⟩:=by rw[hmk]
           have hspx:=hsp x.1;have htq':R++(u.sm.bad.take (q+1)).map mk_=R++(u.sm.bad.take q).map mk_++[mk_ x]:=by rw[htq,← Qzv]
           generalize hRR:R++(u.sm.bad.take q).map mk_=R2 at *;have hl2:R2.length≤8*2147483648+1073741824:=by rw[← hRR];simp;omega
           have happ:=fun X=>Qbj (H:=H) (X:=X) (R:=R2.map Qy) (n:=R2.length) (b:=32) (sz:=3) (e:=tD) [[.str u.n,.int .i64 (spU u x.1),.int .i64 x.2]] (by simp) (by simp;omega);simp only[Qz4]at happ;simp[gi,f35,hrx,f5,← hbx,hb,f3];refine Ye (hspx _) ?_;simp[happ];refine W9 (H.length+2) (Qy9 _) (by simp[gi,gn]) ?_;rw[htq',hmx];simp[f0,f13,f5,f15,f14,f35,Qm hcl,← hbx,Qy]
         · rintro fr H2 gi gn ⟨f0,f13,f5,f15,f14,f35,f3,rfl⟩;rw[Q21]at f3 ⊢;simp[f0,f13,f5,f15,f14,f3]
       · rintro fr H2 ⟨f0,f13,f5,f15,f14,f3,rfl⟩;have happ:=fun X=>Qbj (H:=H) (X:=X) (R:=(R++u.sm.bad.map mk_).map Qy) (n:=(R++u.sm.bad.map mk_).length) (b:=32) (sz:=3) (e:=tD) ((Qbg S u u.sm.bs).map Qy) (by simp) (by simp;omega);rw[← Qzv]at htk;generalize R++u.sm.bad.map mk_=R2 at *;simp[f0,f5,f3,← hbx];refine Qa (himp _) ?_;simp[happ];refine W9 (H.length+1) (Qy9 _) (by simp[f14,f15]) ?_;simp[f0,f13,Qm hcl,htk]
     · have h1:dg1 S u=[⟨u.n,u.pos,u.bad⟩]:=by rw[dg1,if_neg hb]
       rw[h1]at htk;have happ:=fun X=>Qbj (H:=H) (X:=X) (R:=R.map Qy) (n:=R.length) (b:=32) (sz:=3) (e:=tD) [[.str u.n,.int .i64 u.pos,.int .i64 u.bad]] (by simp) (by simp;omega);simp only[Qz4]at happ;simp[fi,f13,hrow,hb,f3,happ];refine W9 (H.length+1) (Qy9 _) (by simp[fi,fn]) ?_;simp[f0,f13,Qm hcl,htk,Qy]
   · rintro fr H' fi fn ⟨f0,f13,f3,rfl⟩;rw[Q21]at f3 ⊢;simp[f0,f3]
 · rintro fr H' ⟨f0,f3,rfl⟩;have hlen:=Qoy (T:=S) (S:=S) hsm;have hlen8:S.length*2147483648≤8*2147483648:=Qz2 _ (by omega);have hen:=fun X=>he (H++X);simp only[pA]at hen;obtain⟨D,hD⟩:∃ D,D=dgsU S:=⟨_,rfl⟩;have hDl:D.length≤1099511627776:=by
    rw[hD];unfold dgsU;rw[Qzy];split<;>simp only[Qz6,Qz4]<;>omega
   have hss:=fun X=>hso (H++X) true D hDl;rw[Q3f]at hss;unfold Qgm;have hd1:entU S=true→D=S.flatMap (dg1 S):=fun h=>by rw[hD,dgsU,h];simp
   have hd2:entU S=false→D=S.flatMap (dg1 S)++[⟨Vs,0,34⟩]:=fun h=>by rw[hD,dgsU,h];simp
   rw[← hD];generalize S.flatMap (dg1 S)=R at *;simp[f0];refine Qa (hen _) ?_;cases hE:entU S with
   | true =>
     obtain rfl:=hd1 hE;simp[f3];refine Qa (Qc.osl1 (hss _)) ?_;simp;simp[RetK,Qf hcl]
   | false =>
     have hd:=hd2 hE;have happ:=fun X=>Qbj (H:=H) (X:=X) (R:=R.map Qy) (n:=R.length) (b:=32) (sz:=3) (e:=tD) [[.str [109,97,105,110],.int .i64 0,.int .i64 34]] (by simp) (by simp;omega);simp only[Qz4]at happ;simp[f3,happ];have hm:R.map Qy++[[.str [109,97,105,110],.int .i64 0,.int .i64 34]]=D.map Qy:=by rw[hd,Q04];rfl
     rw[hm];refine Qa (Qc.osl1 (hss _)) ?_;simp;simp[RetK,Qf hcl]
end
section
open Go.Proofs
theorem Has.pjAhead{f tE:Nat}(h:Has P f (Qfs tE))(x y:Dg)(H:Hp):Qc P f [.agg [YS x.m,YI x.a,YI x.c],.agg [YS y.m,YI y.a,YI y.c]] H (fun r H'=>r=YB (decide (cD x y<0))∧H'=H):=by
 refine Qg h (by simp[Qfs]) fun hcl _ => ?_;unfold cD;simp[Qfs];by_cases h1:x.m=y.m
 · have e1:We x.m y.m=0:=by rw[h1];exact Qcc.refl _
   rw[if_pos e1];by_cases h2:x.a=y.a
   · have e2:Yy x.a y.a=0:=by rw[h2];exact Qd5.refl _
     rw[if_pos e2];have e3:(Yy x.c y.c<0)↔x.c<y.c:=by unfold Yy;split<;>(try split)<;>omega
     simp[h1,h2];simp[RetK,Qf hcl,e3]
   · have e2:¬ Yy x.a y.a=0:=by unfold Yy;split<;>(try split)<;>omega
     have e3:(Yy x.a y.a<0)↔x.a<y.a:=by unfold Yy;split<;>(try split)<;>omega
     rw[if_neg e2];simp[h1,h2];simp[RetK,Qf hcl,e3]
 · have e1:¬ We x.m y.m=0:=by
    unfold We;cases Op.bytesLess x.m y.m<;>simp[h1]
   rw[if_neg e1];have e3:decide (We x.m y.m<0)=Op.bytesLess x.m y.m:=by
    rw[Q2l];simp[Zq]
   simp[h1];simp[RetK,Qf hcl,e3]
theorem HasT.pjRsort{f ahead tE:Nat}(h:HasT P [6,3] f (Qim ahead tE))(ha:Has P ahead (Qfs tE))(z:Bool)(l:List Dg)(hl:l.length≤1099511627776)(H:Hp) :
 Qc P f [YL z 3 (l.map Qy)] H (fun r H'=>r=YL true 3 ((ssort cD l).map Qy)∧H'=H):=by
 obtain⟨fn,hf,hcf⟩:=h;have hah:=fun x y H=>Has.pjAhead ha x y H;refine Qr hf hcf (by simp[Qim]) fun hcl _ => ?_;simp[Qim];refine Q0 0 (fun fr H'=>fr 3=YL true 3 ((ssort cD l).map Qy)∧∃ X,H'=H++X) ?_ ?_
 · refine Vv H.length l.length (fun i fr H'=>fr 0=YL z 3 (l.map Qy)∧fr 3=YL true 3 ((ssort cD (l.take i)).map Qy)∧H'=H) (by omega) (by decide) (by simp) (by simp) ?_ ?_
   · simp[Qf hcl,ssort]
   rintro i fr H' hi f4 ⟨f0,f3,rfl⟩;simp[f4,f0];refine Qh (fun h => ?_) (fun h => ?_)
   · have hia:i<l.length:=by simpa using h
     have hr:=Qw Qy hia;have ht:l.take (i+1)=l.take i++[l[i]]:=Qzl hia;have hsl:=Wm Qcv (l.take i);have hso:=(Q9 Qcv (l.take i)).1;have hsn:∀ a b,ssort cD (l.take i)=a++b→(∀ y ∈ a,cD y l[i]≤0)→(∀ y ∈ b,cD l[i] y<0)→ssort cD (l.take (i+1))=a++l[i]::b:=fun a b e ha hb=>by
      rw[ht,← Qby Qcv (by rw[← e];exact hso) ha hb];refine Qfg Qcv ?_;refine Alk.append ?_ (Alk.refl _);rw[← e];exact((Q9 Qcv (l.take i)).2).symm
     have hlt:(l.take i).length=i:=by simp;omega
     rw[hlt]at hsl;generalize ssort cD (l.take i)=S at f3 hsl hso hsn;generalize l[i]=x at hr hsn;simp only[Qy]at hr;simp[f3];refine Q0 2 (fun fr H2=>∃ a:Nat,a≤S.length∧(∀ y ∈ S.drop a,cD x y<0)∧(∀ y ∈ S.take a,cD y x≤0)∧fr 0=YL z 3 (l.map Qy)∧fr 3=YL true 3 (S.map Qy)∧fr 4=YI i∧fr 5=YI a∧H2=H') ?_ ?_
     · refine Qz H'.length (fun d fr H2=>∃ a:Nat,a<d∧a≤S.length∧(∀ y ∈ S.drop a,cD x y<0)∧fr 0=YL z 3 (l.map Qy)∧fr 3=YL true 3 (S.map Qy)∧fr 4=YI i∧fr 5=YI a∧H2=H') (S.length+1) (by simp) ⟨S.length,by omega,Qy9 _,by simp,?_⟩ ?_
       · simp[f0,f3,f4,Qb hcl,hsl]
       rintro d fr H2 ⟨a,hd,ha,hb,f0,f3,f4,f5,rfl⟩;simp[f5];rcases Nat.eq_zero_or_pos a with rfl|hpos
       · simp[f5];exact⟨0,by omega,by simpa using hb,by simp,by simp[f0],by simp[f3],by simp[f4],by simp[f5]⟩
       · obtain⟨b,rfl⟩:∃ b,a=b+1:=⟨a-1,by omega⟩;have hbs:b<S.length:=by omega
         have hrb:=Qw Qy hbs;have hw:IntKind.i64.wrap ((b:Int)+1-1)=b:=by rw[wi64 (by omega)];omega
         have hw':IntKind.i64.wrap (b:Int)=b:=wi64 (by omega);have hp:(0:Int)<(b:Int)+1:=by omega
         have hsp:∀ y ∈ S.take b,cD y S[b]≤0:=by
          have h1:=hso;rw[← Qz1 b S,Qzw hbs]at h1;have:=(Sorted.append (c:=cD)).1 h1;exact fun y hy=>this.2.2 y hy _ (Q3c ..)
         have hdr:S.drop b=S[b]::S.drop (b+1):=Qzw hbs;have htk:S.take (b+1)=S.take b++[S[b]]:=Qzl hbs;generalize S[b]=y at hrb hsp hdr htk;simp only[Qy]at hrb;simp[f0,f3,f4,f5,hp,hw,hw',hr,hrb];refine Ye (hah x y _) ?_;simp;refine Qh (fun h2 => ?_) (fun h2 => ?_)
         · have h2:cD x y<0:=by simpa using h2
           simp[f5,hw,hw'];obtain⟨d',rfl⟩:∃ d',d=d'+1:=⟨d-1,by omega⟩;refine Qe H2.length d' (Qy9 _) (by simp) (by omega) ⟨b,by omega,by omega,?_,?_⟩
           · rw[hdr];intro v hv;rcases Qzz.1 hv with rfl|hv
             · exact h2
             · exact hb v hv
           · simp[f0,f3,f4,Qb hcl]
         · have h2:¬ cD x y<0:=by simpa using h2
           simp;refine⟨b+1,ha,hb,?_,by simp[f0],by simp[f3],by simp[f4],by simp[f5]⟩;rw[htk];have hyx:=(Qcv.not_lt).1 h2;intro v hv;rcases Qzx.1 hv with hv|hv
           · exact Qcv.trans _ _ _ (hsp v hv) hyx
           · rw[Q03.1 hv];exact hyx
     · rintro fr H2 ⟨a,ha,hb,htk,f0,f3,f4,f5,rfl⟩;have hS':=hsn (S.take a) (S.drop a) (Qz1 a S).symm htk hb;have s1:subL (S.map Qy) 0 (a:Int)=some ((S.take a).map Qy):=by
        simp[subL,ha,Q1z]
       have s2:subL (S.map Qy) (a:Int) (S.length:Int)=some ((S.drop a).map Qy):=by
        have:(S.length-a)=(S.drop a).length:=by simp
        simp[subL,ha,Q10];rw[Qzm (by simp)]
       have la:(S.take a).length=a:=by simp;omega
       have lb:(S.drop a).length=S.length-a:=by simp
       simp[f0,f3,f4,f5,s1,s2,hr,appA];rw[if_pos (by omega)];simp[f0,f3,f4,f5,s1,s2,hr,appA];rw[if_pos (by omega)];simp[f0,f3,f4,f5,s1,s2,hr,appA];rw[if_pos (by omega)];simp;refine Wp H2.length (Qy9 _) hia (by simp[f4]) ?_;rw[hS'];refine⟨by simp[f0],?_,Qf hcl _⟩;simp[Qy,Q1z,Q10]
   · have hia:l.length≤i:=by simpa using h
     rw[Qzm hia]at f3;simp[f3]
 · rintro fr H' ⟨f3,X,rfl⟩;simp[RetK,f3,Qf hcl]
end
section
open Go.Proofs
theorem Qm5{u:Un}{a:Int}(h0:0≤a)(h1:a<u.tk.length):∃ k l x,Zam.rowAt (u.tk.map Qt) a=some [.int .i64 k,.int .i64 (spU u a),.str l,.str x]:=by
 obtain⟨i,rfl⟩:∃ i:Nat,a=i:=⟨a.toNat,by omega⟩;have hi:i<u.tk.length:=by omega
 refine⟨u.tk[i].k,u.tk[i].l,u.tk[i].x,?_⟩;rw[Qw Qt hi];simp[Qt,spU,hi]
def Qd7(S:List Un)(u:Un)(b:SBd):List Dg :=
 if b.k=1 then (if fdU (modN u b).w S 0<0∨(modN u b).w=u.n then [⟨u.n,spU u (modN u b).at_,32⟩] else if (impR S u b).2<0 then [⟨u.n,spU u b.a,33⟩] else []) else []
theorem Qtf(S:List Un)(u:Un)(b:SBd):(Qd7 S u b).length≤1:=by
 unfold Qd7;split
 · split
   · simp
   · split<;>simp
 · simp
def Qdh(S:List Un)(u:Un)(l:List SBd):List Dg:=l.flatMap (Qd7 S u)
theorem Qfx(S:List Un)(u:Un):∀ l,(Qdh S u l).length≤l.length
 | []=>by simp[Qdh]
 | b :: l => by
   have h1:=Qtf S u b;have h2:=Qfx S u l;unfold Qdh at h2 ⊢;simp only[Q1j,Qzy,Qzj];omega
theorem Qqn{S:List Un}{u:Un}{l:List SBd}{j:Nat}{b:SBd}(h:l[j]?=some b):Qdh S u (l.take (j+1))=Qdh S u (l.take j)++Qd7 S u b:=by
 rw[Q1o,h];simp[Qdh]
def dg1R(S:List Un)(u:Un):List Dg:=if u.bad=0 then (u.sm.bad.map fun x=>⟨u.n,spU u x.1,x.2⟩)++Qdh S u u.sm.bs else [⟨u.n,u.pos,u.bad⟩]
def entR(S:List Un):Bool:=if fdU Vs S 0<0 then false else match S[(fdU Vs S 0).toNat]? with
 | none=>false
 | some u => if itU Vs u.sm.bs 0 (-1) < 0 then false else match u.sm.bs[(itU Vs u.sm.bs 0 (-1)).toNat]? with
   | some b=>(modN u b).ks.isEmpty
   | none=>false
def dgsR(S:List Un):List Dg:=S.flatMap (dg1R S)++if entR S then [] else [⟨Vs,0,34⟩]
theorem Qph{S:List Un}{u:Un}(h:Qfc u):(dg1R S u).length≤2147483648:=by
 obtain⟨h1,h2,-,-⟩:=h;have:=Qfx S u u.sm.bs;unfold dg1R;split
 · simp;omega
 · simp
theorem Qis{S T:List Un}(h:∀ u ∈ S,Qfc u):(S.flatMap (dg1R T)).length≤S.length*2147483648:=by
 induction S with
 | nil=>simp
 | cons u S ih =>
   have h1:=Qph (S:=T) (h u (by simp));have h2:=ih fun v hv=>h v (by simp[hv]);simp only[Q1j,Qzy,Qzj];omega
theorem Qqo{S T:List Un}{j:Nat}{u:Un}(h:S[j]?=some u):(S.take (j+1)).flatMap (dg1R T)=(S.take j).flatMap (dg1R T)++dg1R T u:=by
 rw[Q1o,h];simp
def Qre(P:Program)(S:List Un)(z:Bool)(f:Nat):Prop:=∀ u ∈ S,∀ b ∈ u.sm.bs,∀ H,Qc P f [YL z 14 (S.map Un.encR),.agg (u.encR.map .d),.agg ((Q4 b).map .d)] H (fun r H'=>r=.tup [YS (impR S u b).1,YI (impR S u b).2]∧H'=H)
def Qsc(P:Program)(f:Nat):Prop:=∀(H:Hp)(z:Bool)(l:List Dg),l.length≤1099511627776→Qc P f [YL z 3 (l.map Qy)] H (fun r H'=>r=YL true 3 ((ssort cD l).map Qy)∧H'=H)
theorem HasT.pjRdiags{f rimp rfind ritem rsort tR tC tBe tE:Nat}{S:List Un}{z:Bool}(h:HasT P [3] f (Qgj rimp rfind ritem rsort tR tC tBe tE))(hi:Qre P S z rimp)(hf:Qnv P S z rfind)(hit:Qnu P ritem)(hso:Qsc P rsort)(hS:S.length≤8)(hsm:∀ u ∈ S,Qfc u)(hg:∀ u ∈ S,GdU u)(H:Hp) :
 Qc P f [YL z 14 (S.map Un.encR)] H (fun r H'=>r=YL true 3 ((ssort cD (dgsR S)).map Qy)∧H'=H):=by
 obtain⟨fn,hf',hcf⟩:=h;refine Qr hf' hcf (by simp[Qgj]) fun hcl _ => ?_;simp[Qgj];refine Q0 0 (fun fr H'=>fr 0=YL z 14 (S.map Un.encR)∧∃ R,R=S.flatMap (dg1R S)∧fr 3=.osl true 3 (R.map Qy) H.length∧H'=H++[.tok R.length 3 tE]) ?_ ?_
 · refine Vv (H.length+1) S.length (fun j fr H'=>fr 0=YL z 14 (S.map Un.encR)∧∃ R,R=(S.take j).flatMap (dg1R S)∧fr 3=.osl true 3 (R.map Qy) H.length∧H'=H++[.tok R.length 3 tE]) (by omega) (by decide) (by simp) (by simp) ?_ ?_
   · simp[Qm hcl]
   rintro j fr H' hj f4 ⟨f0,R,hR,f3,rfl⟩;simp[f0,f4];refine Qh (fun h => ?_) (fun h => ?_)
   · have hj:j<S.length:=by simpa using h
     obtain⟨u,hu⟩:∃ u,S[j]?=some u:=⟨_,Qy7 hj⟩;have hum:=Qzo hu;have hsu:=hsm u hum;have hgu:=hg u hum;have hd1:=Qph (S:=S) hsu;obtain⟨q1,q2,q3,q4⟩:=hsu;have hrow:Zam.rowAt (S.map Un.encR) (j:Int)=some u.encR:=by simp[Zam.rowAt,hu]
     have htk:=Qqo (T:=S) hu;have hlen:=Qis (T:=S) (S:=S.take j) fun v hv=>hsm v (Q1r hv);have hlj:(S.take j).length=j:=by simp;omega
     rw[hlj]at hlen;have hlen8:j*2147483648≤8*2147483648:=Qz2 _ (by omega);rw[← hR]at htk hlen;obtain⟨zu,ms,hue⟩:=u.encR_all;have himp:=fun b hb X=>hi u hum b hb (H++X);rw[hue]at hrow himp;simp only[Qz3,Q0c]at himp;have hil:=Qfx S u u.sm.bs;by_cases hb:u.bad=0
     · have h1:dg1R S u=(u.sm.bad.map fun x=>⟨u.n,spU u x.1,x.2⟩)++Qdh S u u.sm.bs:=by rw[dg1R,if_pos hb]
       rw[h1]at htk;obtain⟨mk_,hmk⟩:∃ g:Int×Int→Dg,g=fun x=>⟨u.n,spU u x.1,x.2⟩:=⟨_,rfl⟩;rw[← hmk]at htk;rw[hb]at himp;simp[f0,f4,hrow,hb];generalize hbx:Ob.box tR [A.d (.str u.n),A.d (.str u.t),A.d (.sl true 4 (u.tk.map Qt)),A.d (.int .i64 u.tr.k),A.d (.int .i64 u.tr.f),A.d (.int .i64 u.tr.t),A.d (.str u.tr.w),A.d (.int .i64 u.tr.at_),A.d (.sl zu 6 (u.tr.ks.map N.enc)),A.d (.sl true 4 (u.sm.bs.map Q4)),A.d ms,A.d (.sl true 2 (u.sm.bad.map Qx)),A.d (.int .i64 0),A.d (.int .i64 u.pos)]=bx;refine Q0 2 (fun fr H2=>fr 0=YL z 14 (S.map Un.encR)∧fr 5=.ptr (H.length+1) 0∧fr 4=YI j∧∃ R2,R2=R++u.sm.bad.map mk_∧fr 3=.osl true 3 (R2.map Qy) H.length∧H2=H++[.tok R2.length 3 tE,bx]) ?_ ?_
       · refine Vv (H.length+2) u.sm.bad.length (fun q fr H2=>fr 0=YL z 14 (S.map Un.encR)∧fr 5=.ptr (H.length+1) 0∧fr 4=YI j∧∃ R2,R2=R++(u.sm.bad.take q).map mk_∧fr 3=.osl true 3 (R2.map Qy) H.length∧H2=H++[.tok R2.length 3 tE,bx]) (by omega) (by decide) (by simp) (by simp) ?_ ?_
         · refine⟨by simp[f0],by simp,by simp[f4],R,by simp,by simp[f3],?_⟩;simp[Qm hcl,← hbx]
         rintro q fr H2 hq f6 ⟨f0,f5,f4,R2,hRR,f3,rfl⟩;simp[f5,f6,← hbx];refine Qh (fun h => ?_) (fun h => ?_)
         · have hq:q<u.sm.bad.length:=by simpa using h
           obtain⟨x,hx⟩:∃ x,u.sm.bad[q]?=some x:=⟨_,Qy7 hq⟩;have hrx:Zam.rowAt (u.sm.bad.map Qx) (q:Int)=some [.int .i64 x.1,.int .i64 x.2]:=by simp[Zam.rowAt,hx,Qx]
           have htq:(u.sm.bad.take (q+1)).map mk_=(u.sm.bad.take q).map mk_++[mk_ x]:=by rw[Q1o,hx];simp
           have hlq:(u.sm.bad.take q).length≤1073741824:=by simp;omega
           have hmx:mk_ x=⟨u.n,spU u x.1,x.2⟩:=by rw[hmk]
           obtain⟨tk,tl,tx,hrt⟩:=Qm5 (hgu.bad x (Qzo hx)).1 (hgu.bad x (Qzo hx)).2;have htq':R++(u.sm.bad.take (q+1)).map mk_=R++(u.sm.bad.take q).map mk_++[mk_ x]:=by rw[htq,← Qzv]
           rw[← hRR]at htq';have hl2:R2.length≤8*2147483648+1073741824:=by rw[hRR];simp;omega
           have happ:=fun X=>Qbj (H:=H) (X:=X) (R:=R2.map Qy) (n:=R2.length) (b:=32) (sz:=3) (e:=tE) [[.str u.n,.int .i64 (spU u x.1),.int .i64 x.2]] (by simp) (by simp;omega);simp only[Qz4]at happ;simp[f6,f5,hrx,hrt,f3,happ];refine Wp (H.length+2) (Qy9 _) hq (by simp[f6]) ?_;refine⟨by simp[f0],by simp[f5],by simp[f4],R2++[mk_ x],htq'.symm,by simp[hmx,Qy],?_⟩;simp[Qm hcl,← hbx]
         · have hia:u.sm.bad.length≤q:=by simpa using h
           rw[Qzm hia]at hRR;simp[f0,f5,f4,f3,hRR,hbx]
       · rintro fr H2 ⟨f0,f5,f4,R2,hRR,f3,rfl⟩;rw[← Qzv,← hRR]at htk;have hl2:R2.length≤8*2147483648+1073741824:=by rw[hRR];simp;omega
         simp;refine Q0 4 (fun fr H2=>fr 0=YL z 14 (S.map Un.encR)∧fr 4=YI j∧∃ R3,R3=R2++Qdh S u u.sm.bs∧fr 3=.osl true 3 (R3.map Qy) H.length∧H2=H++[.tok R3.length 3 tE,bx]) ?_ ?_
         · refine Vv (H.length+2) u.sm.bs.length (fun q fr H2=>fr 0=YL z 14 (S.map Un.encR)∧fr 5=.ptr (H.length+1) 0∧fr 4=YI j ∧
            ∃ R3,R3=R2++Qdh S u (u.sm.bs.take q)∧fr 3=.osl true 3 (R3.map Qy) H.length∧H2=H++[.tok R3.length 3 tE,bx]) (by omega) (by decide) (by simp) (by simp) ?_ ?_
           · refine⟨by simp[f0],by simp[f5],by simp[f4],R2,by simp[Qdh],by simp[f3],?_⟩;simp[Qm hcl,← hbx]
           rintro q fr H2 hq f8 ⟨f0,f5,f4,R3,hR3,f3,rfl⟩;simp[f5,f8,← hbx];refine Qh (fun h => ?_) (fun h => ?_)
           · have hq:q<u.sm.bs.length:=by simpa using h
             obtain⟨b,hbb⟩:∃ b,u.sm.bs[q]?=some b:=⟨_,Qy7 hq⟩;have hbm:=Qzo hbb;have hrb:Zam.rowAt (u.sm.bs.map Q4) (q:Int)=some [.int .i64 b.a,.int .i64 b.k,.str b.w,.int .i64 b.i]:=by simp[Zam.rowAt,hbb,Q4]
             have htq:=Qqn (S:=S) (u:=u) hbb;have hlq:=Qfx S u (u.sm.bs.take q);have hlq':(u.sm.bs.take q).length≤1073741824:=by simp;omega
             have hl3:R3.length≤8*2147483648+2147483648:=by rw[hR3];simp only[Qzy];omega
             have htq':R2++Qdh S u (u.sm.bs.take (q+1))=R3++Qd7 S u b:=by rw[htq,hR3,Qzv]
             have happ:=fun X m' a' c'=>Qbj (H:=H) (X:=X) (R:=R3.map Qy) (n:=R3.length) (b:=32) (sz:=3) (e:=tE) [[.str m',.int .i64 a',.int .i64 c']] (by simp) (by simp;omega);simp only[Qz4]at happ;by_cases hk:b.k=1
             · obtain⟨i,x,h1,h2,h3,h4,h5⟩:=hgu.mod hbm hk;have hr:Zam.rowAt (u.tr.ks.map N.enc) (i:Int)=some x.enc:=by simp[Zam.rowAt,h2]
               obtain⟨zx,hx⟩:=x.enc_all;obtain⟨zm,hm⟩:=(modN u b).enc_all;rw[h3]at hx;have himb:=himp b hbm;have hI1:(impR S u b).1=(modN u b).w:=by rw[impR,if_pos hk]
               rw[hI1]at himb;have hfm:=fun X=>hf (modN u b).w (H++X);have h1m:Qd7 S u b=(if fdU (modN u b).w S 0<0∨(modN u b).w=u.n then [⟨u.n,spU u (modN u b).at_,32⟩] else if (impR S u b).2<0 then [⟨u.n,spU u b.a,33⟩] else []):=by rw[Qd7,if_pos hk]
               rw[h1m]at htq';obtain⟨k1,l1,x1,hrm⟩:=Qm5 h4 h5;obtain⟨k2,l2,x2,hrb2⟩:=Qm5 (hgu.pos b hbm).1 (hgu.pos b hbm).2;generalize (impR S u b).2=w at *;generalize modN u b=m at *;have hr0:∀ r:List D,Zam.rowAt [r] 0=some r:=fun _=>rfl;simp only[Q4,hk,h1,Qz3,Q0c]at himb;simp[f5,f8,hrb,hk,h1];rw[f0];refine Qa (himb _) ?_;simp[f0];refine Qa (hfm _) ?_;by_cases hn:fdU m.w S 0<0
               · rw[if_pos (.inl hn)]at htq';simp[hn,f5,h1,hr,hr0,hx,hm,hrm,f3,happ];refine Wp (H.length+2) (Qy9 _) hq (by simp[f8]) ?_;refine⟨by simp[f0],by simp[f5],by simp[f4],_,htq'.symm,by simp[Qy],?_⟩;simp[Qm hcl,← hbx]
               · by_cases hs:m.w=u.n
                 · rw[if_pos (.inr hs)]at htq';rw[hs]at hn;simp[hn,hs,f5,h1,hr,hr0,hx,hm,hrm,f3,happ];refine Wp (H.length+2) (Qy9 _) hq (by simp[f8]) ?_;refine⟨by simp[f0],by simp[f5],by simp[f4],_,htq'.symm,by simp[Qy],?_⟩;simp[Qm hcl,← hbx]
                 · rw[if_neg (fun h=>h.elim hn hs)]at htq';by_cases hw:w<0
                   · rw[if_pos hw]at htq';simp[hn,hs,hw,f5,h1,hr,hr0,hx,hm,hrb2,f3,happ];refine Wp (H.length+2) (Qy9 _) hq (by simp[f8]) ?_;refine⟨by simp[f0],by simp[f5],by simp[f4],_,htq'.symm,by simp[Qy],?_⟩;simp[Qm hcl,← hbx]
                   · rw[if_neg hw,Qzt]at htq';simp[hn,hs,hw,f5];refine Wp (H.length+2) (Qy9 _) hq (by simp[f8]) ?_;refine⟨by simp[f0],by simp[f5],by simp[f4],_,htq'.symm,by simp[f3],?_⟩;simp[Qm hcl,← hbx]
             · have h1m:Qd7 S u b=[]:=by rw[Qd7,if_neg hk]
               rw[h1m,Qzt]at htq';simp[f5,f8,hrb,hk];refine Wp (H.length+2) (Qy9 _) hq (by simp[f8]) ?_;refine⟨by simp[f0],by simp[f5],by simp[f4],R3,htq'.symm,by simp[f3],?_⟩;simp[Qm hcl,← hbx]
           · have hia:u.sm.bs.length≤q:=by simpa using h
             rw[Qzm hia]at hR3;simp[f0,f4,f3,hR3,hbx]
         · rintro fr H2 ⟨f0,f4,R3,hR3,f3,rfl⟩;rw[← hR3]at htk;simp;refine Wp (H.length+1) (Qy9 _) hj (by simp[f4]) ?_;refine⟨by simp[f0],_,htk.symm,by simp[f3],?_⟩;simp[Qm hcl]
     · have h1:dg1R S u=[⟨u.n,u.pos,u.bad⟩]:=by rw[dg1R,if_neg hb]
       rw[h1]at htk;have happ:=fun X=>Qbj (H:=H) (X:=X) (R:=R.map Qy) (n:=R.length) (b:=32) (sz:=3) (e:=tE) [[.str u.n,.int .i64 u.pos,.int .i64 u.bad]] (by simp) (by simp;omega);simp only[Qz4]at happ;simp[f0,f4,hrow,hb,f3,happ];refine Wp (H.length+1) (Qy9 _) hj (by simp[f4]) ?_;refine⟨by simp[f0],_,htk.symm,by simp[Qy],?_⟩;simp[Qm hcl]
   · have hia:S.length≤j:=by simpa using h
     rw[Qzm hia]at hR;simp[f0,f3,hR]
 · rintro fr H' ⟨f0,R,hR,f3,rfl⟩;have hlen:=Qis (T:=S) (S:=S) hsm;rw[← hR]at hlen;have hlen8:S.length*2147483648≤8*2147483648:=Qz2 _ (by omega);obtain⟨DD,hD⟩:∃ DD,DD=dgsR S:=⟨_,rfl⟩;have hDl:DD.length≤1099511627776:=by
    rw[hD];unfold dgsR;rw[Qzy,← hR];split<;>simp only[Qz6,Qz4]<;>omega
   have hss:=fun X=>hso (H++X) true DD hDl;have hd1:entR S=true→DD=R:=fun h=>by rw[hD,dgsR,h,← hR];simp
   have hd2:entR S=false→DD=R++[⟨Vs,0,34⟩]:=fun h=>by rw[hD,dgsR,h,← hR];simp
   rw[← hD];have happ:=fun X=>Qbj (H:=H) (X:=X) (R:=R.map Qy) (n:=R.length) (b:=32) (sz:=3) (e:=tE) [[.str [109,97,105,110],.int .i64 0,.int .i64 34]] (by simp) (by simp;omega);simp only[Qz4]at happ;have hm:entR S=false→R.map Qy++[[.str [109,97,105,110],.int .i64 0,.int .i64 34]]=DD.map Qy:=fun h=>by rw[hd2 h,Q04];rfl
   have hfm:=fun X=>hf Vs (H++X);simp[f0];refine Qa (hfm _) ?_;by_cases hn:fdU Vs S 0<0
   · have hE:entR S=false:=by rw[entR,if_pos hn]
     have hm:=hm hE;have hn':¬ 0≤fdU Vs S 0:=by omega
     simp[hn'];simp[f3,happ];rw[hm];refine Qa (Qc.osl1 (hss _)) ?_;simp;simp[RetK,Qf hcl]
   · obtain⟨j,v,e1,e2,e3⟩:=Qli (Qzg 0) (by omega:0≤fdU Vs S 0);rw[Q1x]at e1;have hvS:v ∈ S:=Qzo e2;have hiv:=fun X=>hit v Vs (by have:=(hsm v hvS).2.1;omega) (H++X);obtain⟨zv,mv,hve⟩:=v.encR_all;have hrv:Zam.rowAt (S.map Un.encR) (j:Int)=some v.encR:=by simp[Zam.rowAt,e2]
     have hE:entR S=(if itU Vs v.sm.bs 0 (-1)<0 then false else match v.sm.bs[(itU Vs v.sm.bs 0 (-1)).toNat]? with|some b=>(modN v b).ks.isEmpty|none=>false):=by rw[entR,if_neg hn,e1,Q0x,e2]
     rw[hve]at hiv hrv;simp only[Qz3,Q0c]at hiv;rw[e1];simp[f0,hrv];refine Qa (hiv _) ?_;rcases Qg3 (w:=Vs) (l:=v.sm.bs) (i:=0) (p := -1) with h|⟨q,b,g1,g2,g3,g4⟩
     · have hE:entR S=false:=by rw[hE,h];rfl
       have hm:=hm hE;simp[h];simp[f3,happ];rw[hm];refine Qa (Qc.osl1 (hss _)) ?_;simp;simp[RetK,Qf hcl]
     · rw[Q1x]at g1;have hj0:¬ ((q:Int)<0):=by omega
       rw[g1,if_neg hj0,Q0x,g2]at hE;obtain⟨i,x,r,w1,w2,w3⟩:=(hg v hvS).fst (Qzo g2) g3;have hrb:Zam.rowAt (v.sm.bs.map Q4) (q:Int)=some [.int .i64 b.a,.int .i64 b.k,.str b.w,.int .i64 b.i]:=by simp[Zam.rowAt,g2,Q4]
       have hr:Zam.rowAt (v.tr.ks.map N.enc) (i:Int)=some x.enc:=by simp[Zam.rowAt,w2]
       have hr0:∀(r:List D)(l:List (List D)),Zam.rowAt (r::l) 0=some r:=fun _ _=>rfl;obtain⟨zx,hx⟩:=x.enc_all;obtain⟨zm,hmm⟩:=(modN v b).enc_all;rw[w3]at hx;have hd:decide ((modN v b).ks=[])=(modN v b).ks.isEmpty:=by cases (modN v b).ks<;>simp
       rw[g1];simp only[]at hE;cases hc:(modN v b).ks.isEmpty with
       | true =>
         rw[hc]at hE hd;obtain rfl:=hd1 hE;have hc':(modN v b).ks=[]:=by simpa using hd
         simp[f0,hrv,hrb,w1,hr,hr0,hx,hmm,hc'];simp[f3];refine Qa (Qc.osl1 (hss _)) ?_;simp;simp[RetK,Qf hcl]
       | false =>
         rw[hc]at hE hd;have hm:=hm hE;have hc':¬ (modN v b).ks=[]:=by simpa using hd
         simp[f0,hrv,hrb,w1,hr,hr0,hx,hmm,hc'];simp[f3,happ];rw[hm];refine Qa (Qc.osl1 (hss _)) ?_;simp;simp[RetK,Qf hcl]
end
section
open Go.Proofs
theorem Qgb{s:Bs}:∀ {S:List Un},Sorted cU S→Ze S s=S.find? fun u=>decide (u.n=s)
 | [],_=>rfl
 | u :: r, h => by
   have hr:Sorted cU r:=((Sorted.append (c:=cU) (a:=[u]) (b:=r)).1 (by simpa using h)).2.1;have hu:∀ v ∈ r,cU u v≤0:=fun v hv=>((Sorted.append (c:=cU) (a:=[u]) (b:=r)).1 (by simpa using h)).2.2 u (by simp) v hv;by_cases h1:We u.n s<0
   · have hne:¬ u.n=s:=fun e=>by
      have:=V5.2 e;omega
     have hl:lbU (u::r) s=lbU r s+1:=by
      unfold lbU;rw[Q3a,if_pos (by simpa using h1),Qzj]
     rw[Q1p (by simpa using hne),← Qgb hr];unfold Ze;rw[hl,Q2x]
   · have hl:lbU (u::r) s=0:=by
      unfold lbU;rw[Q3a,if_neg (by simpa using h1),Qz6]
     unfold Ze;rw[hl,Q2w];by_cases h2:u.n=s
     · rw[Q13 (by simpa using h2)];simp[V5.2 h2]
     · have h3:¬ We u.n s=0:=fun e=>h2 (V5.1 e);rw[Q1p (by simpa using h2)];have h4:r.find? (fun u=>decide (u.n=s))=none:=by
        rw[List.find?_eq_none];intro v hv e;have e:v.n=s:=by simpa using e
        have:=hu v hv;unfold cU at this;rw[e]at this;omega
       rw[h4];simp[h3]
theorem Qo1{s:Bs}:∀(S:List Un)(i:Int),(S.find? (fun u=>decide (u.n=s))=none→fdU s S i = -1)∧∀ u,S.find? (fun u=>decide (u.n=s))=some u→∃ j:Nat,fdU s S i=i+j∧S[j]?=some u
 | [],i=>⟨fun _=>rfl,fun u h=>by simp at h⟩
 | u :: r, i => by
   obtain⟨h1,h2⟩:=Qo1 (s:=s) r (i+1);by_cases h:u.n=s
   · refine⟨fun e => ?_,fun v e => ?_⟩
     · rw[Q13 (by simpa using h)]at e;cases e
     · rw[Q13 (by simpa using h)]at e;cases e;exact⟨0,by simp[fdU,h],rfl⟩
   · refine⟨fun e => ?_,fun v e => ?_⟩
     · rw[Q1p (by simpa using h)]at e;rw[fdU,if_neg h];exact h1 e
     · rw[Q1p (by simpa using h)]at e;obtain⟨j,g1,g2⟩:=h2 v e;exact⟨j+1,by rw[fdU,if_neg h,g1];omega,by simpa using g2⟩
section
variable{S:List Un}(hS:Sorted cU S)
include hS
theorem Qni(s:Bs):(Ze S s=none∧fdU s S 0 = -1)∨∃(j:Nat)(u:Un),Ze S s=some u∧fdU s S 0=j∧S[j]?=some u:=by
 rw[Qgb hS];obtain⟨h1,h2⟩:=Qo1 (s:=s) S 0;cases h:S.find? (fun u=>decide (u.n=s)) with
 | none=>exact .inl ⟨rfl,h1 h⟩
 | some u =>
   obtain⟨j,g1,g2⟩:=h2 u h;exact .inr ⟨j,u,rfl,by omega,g2⟩
theorem Qvg(u:Un)(b:SBd):impU S u b=impR S u b:=by
 unfold impU impR;split
 · rcases Qni hS (modN u b).w with⟨h1,h2⟩|⟨j,v,h1,h2,h3⟩
   · rw[h1,h2];rfl
   · have:¬ ((j:Int)<0):=by omega
     rw[h1,h2,if_neg this,Q0x,h3];first|rfl|done
 · rfl
theorem Qyj(u:Un)(b:SBd):imp1 S u b=Qd7 S u b:=by
 unfold imp1 Qd7;rw[Qvg hS];rcases Qni hS (modN u b).w with⟨h1,h2⟩|⟨j,v,h1,h2,h3⟩
 · rw[h1,h2];simp
 · have:¬ ((j:Int)<0):=by omega
   rw[h1,h2];simp[this]
theorem Qyq:entU S=entR S:=by
 unfold entU entR;rcases Qni hS Vs with⟨h1,h2⟩|⟨j,v,h1,h2,h3⟩
 · rw[h1,h2];rfl
 · have:¬ ((j:Int)<0):=by omega
   rw[h1,h2,if_neg this,Q0x,h3];first|rfl|done
theorem Qyr:dgsU S=dgsR S:=by
 unfold dgsU dgsR;rw[Qyq hS];have:dg1 S=dg1R S:=by
  funext u
  unfold dg1 dg1R Qbg Qdh;have:imp1 S u=Qd7 S u:=funext fun b=>Qyj hS u b;rw[this]
 rw[this]
theorem Qsy(i j:Nat)(u v:Un)(s:Bs)(hij:i≤j)(hu:S[i]?=some u)(hv:S[j]?=some v)(h:We v.n s<0):We u.n s<0:=by
 have h2:cU u v≤0:=Yx Za hS hu hv hij;exact Qcc.le_lt h2 h
end
end
section
open Go.Proofs
theorem Qqa(n:N):(Z3 n).sz≤4*n.size:=by
 obtain⟨k,f,t,w,a,z,ks⟩:=n;have hall:allP (.mk k f t w a z ks)=Zo (Wx 0 ks [] ⟨[],[],[]⟩).1 0 ks (Wx 0 ks [] ⟨[],[],[]⟩).2:=rfl;have h1:=(Qbp ks 0 [] ⟨[],[],[]⟩ (FOk.nil _)).sz;have h2:=(Qdi (Wx 0 ks [] ⟨[],[],[]⟩).1 ks 0 (Wx 0 ks [] ⟨[],[],[]⟩).2).2;have h3:SM.sz ⟨[],[],[]⟩=0:=rfl;have hsl:=N.sizes_len ks;rw[N.size_mk];have:(Z3 (.mk k f t w a z ks)).sz=(allP (.mk k f t w a z ks)).sz:=by
  unfold Z3 SM.sz;simp only[Wm Zz]
 rw[this,hall];omega
theorem Qoc(m:Mod):Qfc (Ya m):=by
 have hz:=Qer m.t;have hks:(Ya m).tr.ks.length≤16001:=by
  show (Q5 m.t).2.1.ks.length≤16001;have h1:=N.sizes_len (Q5 m.t).2.1.ks;have h2:=N.size_ks (Q5 m.t).2.1;omega
 by_cases h0:(Q5 m.t).2.2.1=0
 · obtain⟨n,j,h1,h2,h3,h4,h5,hI,hj,h6⟩:=Qi3 h0;have hsm:(Ya m).sm=Z3 n:=by
    show (if _ then _ else _)=_;rw[if_pos h0,h2]
   have htk:(Ya m).tk=(lexS m.t).1:=h1;have hs:=Qqa n;rw[h2]at hz;unfold SM.sz at hs;have h4000:(lexS m.t).1.length≤4000:=((Qrw m.t).2 h5).2;refine⟨by rw[hsm];omega,by rw[hsm];omega,by rw[htk];omega,by omega⟩
 · have hsm:(Ya m).sm=⟨[],[],[]⟩:=by
    show (if _ then _ else _)=_;rw[if_neg h0]
   have htk:(Ya m).tk=[]:=by
    show (Q5 m.t).1=[];unfold Q5 at h0 ⊢;split
    · rfl
    · rename_i g1;split
      · rfl
      · rename_i g2;rw[if_neg g1,if_neg g2]at h0;exact absurd rfl h0
   refine⟨by rw[hsm];simp,by rw[hsm];simp,by rw[htk];simp,by omega⟩
structure PrjOk(S:List Un):Prop where
 so:Sorted cU S
 len:S.length≤8
 gd:∀ u ∈ S,GdU u
 sm:∀ u ∈ S,Qfc u
theorem Qu1(l:List Mod):PrjOk (ofU (l.map Ya)).1:=by
 unfold ofU;split
 · exact⟨List.Pairwise.nil,by simp,by simp,by simp⟩
 · rename_i h8;split
   · obtain⟨h1,h2⟩:=Q9 Za (l.map Ya);have hl:=Wm Za (l.map Ya);have hl8:(ssort cU (l.map Ya)).length≤8:=by omega
     refine⟨h1,hl8,fun u hu => ?_,fun u hu => ?_⟩
     · have:=(h2.mem Za).2 hu;obtain⟨m,-,rfl⟩:=Q01.1 this;exact Qut m
     · have:=(h2.mem Za).2 hu;obtain⟨m,-,rfl⟩:=Q01.1 this;exact Qoc m
   · exact⟨List.Pairwise.nil,by simp,by simp,by simp⟩
end
section
open Go.Proofs
section
variable{P:Program}{H0:Hp}
def Qrf(P:Program)(H0:Hp)(f:Nat):Prop:=∀(l:List Mod)(z:Bool),(∀ m ∈ l,m.t.length≤1048576)→∀ H,Pre0 H0 H→Qc P f [YL z 2 (l.map encM)] H (fun r H'=>r=ofA (l.map Ya)∧H'=H)
def Qsd(P:Program)(H0:Hp)(f:Nat):Prop:=∀(l:List Mod)(z:Bool),(∀ m ∈ l,m.t.length≤1048576)→∀ H,Pre0 H0 H→Qc P f [YL z 2 (l.map encM)] H (fun r H'=>r=ofR (l.map Ya)∧H'=H)
def Qnr(P:Program)(f:Nat):Prop:=∀ S,PrjOk S→Qls P S f
def Qn0(P:Program)(f:Nat):Prop:=∀ S,PrjOk S→∀ H,Qc P f [pA S] H (fun r H'=>r=YL (dgsU S).isEmpty 3 ((Qgm S).map Qy)∧H'=H)
def Qnt(P:Program)(f:Nat):Prop:=∀(l:List Dg)(z y:Bool),l.length≤1099511627776→∀ H,Qc P f [YL z 3 (l.map Qy),YL y 3 (l.map Qy)] H (fun r H'=>r=YB true∧H'=H)
def Qv5(P:Program)(H0:Hp)(f:Nat):Prop:=∀ H,Pre0 H0 H→Qc P f [] H (fun r H'=>r=YB true∧H'=H)
theorem Has.pjSame{f tD:Nat}(h:Has P f (Qk4 tD)):Qnt P f:=by
 intro l z y hl H;refine Qg h (by simp[Qk4]) fun hcl _ => ?_;simp[Qk4];refine Q0 0 (fun fr H'=>H'=H) ?_ ?_
 · refine Yi H.length l.length (fun j fr H'=>fr 1=YL y 3 (l.map Qy)∧fr 12=YL z 3 (l.map Qy)∧H'=H) (by omega) (by decide) (by simp) (by simp) ?_ ?_ ?_
   · simp[Qb hcl]
   · rintro j fr H' hj fi fn ⟨f1,f12,rfl⟩;obtain⟨d,hd⟩:∃ d,l[j]?=some d:=⟨_,Qy7 hj⟩;have hr:Zam.rowAt (l.map Qy) (j:Int)=some [.str d.m,.int .i64 d.a,.int .i64 d.c]:=by simp[Zam.rowAt,hd,Qy]
     simp[fi,f1,f12,hr];refine W9 H'.length (Qy9 _) (by simp[fi,fn]) ?_;simp[f1,f12,Qf hcl]
   · rintro fr H' fi fn ⟨f1,f12,rfl⟩;simp
 · rintro fr H' rfl;simp;simp[RetK,Qb hcl]
def exM:Mod:=⟨[109,97,105,110],[100,101,102,32,109,97,105,110,40,41,32,123,125]⟩
def exU:Un:=Ya exM
theorem Qyp:chkU none [exU]=0:=by kernel_rfl
theorem Qxh:ofU ([exM].map Ya)=([exU],0):=by
 have h1:ssort cU [exU]=[exU]:=rfl;have h2:[exM].map Ya=[exU]:=rfl;unfold ofU;rw[h2,if_neg (by decide),h1,Qyp];rfl
theorem Qyo:(dgsU [exU]).isEmpty=true:=by kernel_rfl
theorem Qwu:exU.tr.k=1:=by kernel_rfl
theorem Qvl:PrjOk [exU]:=by
 have:=Qu1 [exM];rw[Qxh]at this;exact this
theorem Qwt:Ze [exU] [109,97,105,110]=some exU:=rfl
theorem Has.pjAwake{f load unit diags tU:Nat}(h:Has P f (Qiq load unit diags tU))(hl:Qrf P H0 load)(hu:Qnr P unit)(hd:Qn0 P diags):Qv5 P H0 f:=by
 intro H hH;refine Qg h (by simp[Qiq]) fun hcl _ => ?_;have g1:=hl [exM] false (by intro m hm;simp at hm;subst hm;decide) H hH;have ho:ofA ([exM].map Ya)=.tup [pA [exU],YI 0]:=by unfold ofA;rw[Qxh];rfl
 rw[ho]at g1;have g2:=hu [exU] Qvl [109,97,105,110];rw[Qwt]at g2;have g3:=fun X=>hd [exU] Qvl (H++X);have he:dgsU [exU]=[]:=by simpa using Qyo
 have hds:Qgm [exU]=[]:=by unfold Qgm;rw[he];rfl
 rw[he,hds]at g3;have hk:=Qwu;obtain⟨zu,ms,hue⟩:=exU.enc_all;generalize exU=u at *;simp only[Q3m,Q2n]at g2;rw[hue,hk]at g2;simp only[Qz3,Q0c,encM,exM,pA]at g1 g2 g3;simp[Qiq];refine Qa g1 ?_;simp;refine Qa (g2 _) ?_;simp;refine Qa (g3 _) ?_;simp;simp[RetK,Qf hcl]
end
end
section
open Go.Proofs
theorem Qlo:∀ {S:List Un} {p:Option Bs},Sorted cU S→chkU p S=0→(S.Pairwise fun u v=>cU u v<0)∧(∀ u ∈ S,Y0 u.n=true)∧∀ u,S.head?=some u→p≠some u.n
 | [],p,_,_=>⟨.nil,by simp,by simp⟩
 | u :: r, p, h, hc => by
   have hr:Sorted cU r:=(Q1g.1 h).2;have hu:∀ v ∈ r,cU u v≤0:=(Q1g.1 h).1;unfold chkU at hc;split at hc
   · simp at hc
   · rename_i h1;split at hc
     · simp at hc
     · rename_i h2;obtain⟨g1,g2,g3⟩:=Qlo hr hc;refine⟨Q1g.2 ⟨fun v hv => ?_,g1⟩,fun v hv => ?_,fun v hv => ?_⟩
       · cases r with
         | nil=>simp at hv
         | cons w r =>
           have h3:u.n≠w.n:=fun e=>g3 w rfl (by rw[e]);have h4:cU u w<0:=by
            have:=hu w (by simp);have h5:cU u w≠0:=fun e=>h3 (V5.1 e);omega
           rcases Qzz.1 hv with rfl|hv
           · exact h4
           · have:=(Q1g.1 g1).1 v hv;exact Za.lt_le h4 (by omega)
       · rcases Qzz.1 hv with rfl|hv
         · simpa using h1
         · exact g2 v hv
       · simp at hv;subst hv;exact h2
theorem Qsq{S:List Un}(hS:Sorted cU S)(hc:chkU none S=0){i:Nat}{u:Un}(hu:S[i]?=some u):Ze S u.n=some u:=by
 rw[Qgb hS];have h:=(Qlo hS hc).1;clear hc hS;induction S generalizing i with
 | nil=>simp at hu
 | cons v r ih =>
   cases i with
   | zero =>
     simp at hu;subst hu;rw[Q13 (by simp)]
   | succ i =>
     simp at hu;have h1:=(Q1g.1 h).1 u (Qzo hu);have h2:¬ v.n=u.n:=fun e=>by
      have:cU v u=0:=V5.2 e;omega
     rw[Q1p (by simpa using h2)];exact ih hu (Q1g.1 h).2
theorem Qu0{l:List Un}(h:(ofU l).2=0):Sorted cU (ofU l).1∧chkU none (ofU l).1=0:=by
 unfold ofU at h ⊢;split at h
 · simp at h
 · rename_i h8;rw[if_neg h8];simp only at h ⊢;rw[if_pos h];exact⟨(Q9 Za l).1,h⟩
end
section
open Go.Proofs
theorem Un.both(u:Un):∃ z ms1 ms2,
 u.enc=[.str u.n,.str u.t,.sl true 4 (u.tk.map Qt),.int .i64 u.tr.k,.int .i64 u.tr.f,.int .i64 u.tr.t,.str u.tr.w,.int .i64 u.tr.at_,.sl z 6 (u.tr.ks.map N.enc),.sl u.sm.bs.isEmpty 4 (u.sm.bs.map Q4),ms1,.sl u.sm.bad.isEmpty 2 (u.sm.bad.map Qx),.int .i64 u.bad,.int .i64 u.pos] ∧
 u.encR=[.str u.n,.str u.t,.sl true 4 (u.tk.map Qt),.int .i64 u.tr.k,.int .i64 u.tr.f,.int .i64 u.tr.t,.str u.tr.w,.int .i64 u.tr.at_,.sl z 6 (u.tr.ks.map N.enc),.sl true 4 (u.sm.bs.map Q4),ms2,.sl true 2 (u.sm.bad.map Qx),.int .i64 u.bad,.int .i64 u.pos] ∧
 u.tr.v=.agg [YI u.tr.k,YI u.tr.f,YI u.tr.t,YS u.tr.w,YI u.tr.at_,YL z 6 (u.tr.ks.map N.enc)]:=by
 obtain⟨n,t,tk,⟨k,f,to,w,a,z,ks⟩,sm,b,p⟩:=u;refine⟨z,.sl sm.ms.isEmpty 4 (sm.ms.map Y5),.sl true 4 (sm.ms.map Y5),?_,?_,?_⟩
 · simp[Un.enc,N.enc_mk,SM.enc,N.k,N.f,N.t,N.w,N.at_,N.ks]
 · simp[Un.encR,N.enc_mk,SM.encR,N.k,N.f,N.t,N.w,N.at_,N.ks]
 · rw[N.v_mk];rfl
section
variable{P:Program}{H0:Hp}
def Qsi(P:Program)(f:Nat):Prop:=∀(l:List Mod)(z:Bool)(most:Int),0≤most∧most≤1048576→l.length≤1048576→(∀ m ∈ l,m.n.length≤1048576∧m.t.length≤1048576)→∀ H,Qc P f [YL z 2 (l.map encM),YI most] H (fun r H'=>r=YB (light l most)∧H'=H)
end
end
section
open Go.Proofs
section
variable{P:Program}{H0:Hp}
def Qsk(P:Program)(f:Nat):Prop:=∀ S,PrjOk S→∀ u ∈ S,Qv1 P S u f
def Qse(P:Program)(f:Nat):Prop:=∀ S,PrjOk S→∀ z,Qre P S z f
def Qpy(P:Program)(f:Nat):Prop:=∀ S,PrjOk S→∀(z:Bool)(H:Hp),Qc P f [YL z 14 (S.map Un.encR)] H (fun r H'=>r=YL true 3 ((ssort cD (dgsR S)).map Qy)∧H'=H)
theorem Has.pjLImports{f light_ awake load rload unit rimp imp diags rdiags same tR tU tBd:Nat}(h:Has P f (Qdz light_ awake load rload unit rimp imp diags rdiags same tR tU tBd))(hLi:Qsi P light_)(hA:Qv5 P H0 awake)(hL:Qrf P H0 load)(hR:Qsd P H0 rload)(hU:Qnr P unit)(hI:Qsk P imp)(hRI:Qse P rimp)(hD:Qn0 P diags)(hRD:Qpy P rdiags)(hE:Qnt P same)(l:List Mod)(z:Bool)(hl:l.length≤1048576)(hm:∀ m ∈ l,m.n.length≤1048576∧m.t.length≤1048576)(H:Hp)(hH:Pre0 H0 H) :
 Qc P f [YL z 2 (l.map encM)] H (fun r H'=>r=YB true∧H'=H):=by
 refine Qg h (by simp[Qdz]) fun hcl _ => ?_;have g1:=hLi l z 20000 (by omega) hl hm H;have g2:=hL l z (fun m h=>(hm m h).2) H hH;have g3:=hR l z (fun m h=>(hm m h).2) H hH;have hp:=Qu1 l;have hz:=Qu0 (l:=l.map Ya);unfold ofA at g2;unfold ofR at g3;generalize ofU (l.map Ya)=o at *;obtain⟨S,e⟩:=o;simp only at g2 g3 hp hz;simp[Qdz];refine Qa g1 ?_;cases light l 20000 with
 | false =>
   simp;refine Qa (hA _ hH) ?_;simp;simp[RetK,Qb hcl]
 | true =>
   simp;refine Qa g2 ?_;by_cases he:e=0
   · subst he;obtain⟨hso,hch⟩:=hz rfl;have hu:=hU S hp;have hd:=fun X=>hD S hp (H++X);have hrd:=fun X=>hRD S hp true (H++X);have hlen:=hp.len;have heq:Qgm S=ssort cD (dgsR S):=by unfold Qgm;rw[Qyr hso]
     rw[heq]at hd;have hdl:(ssort cD (dgsR S)).length≤1099511627776:=by
      rw[Wm Qcv];unfold dgsR;have h1:=Qis (T:=S) hp.sm;have h2:S.length*2147483648≤8*2147483648:=Qz2 _ hlen;rw[Qzy];split<;>simp only[Qz6,Qz4]<;>omega
     have hsame:=fun(a b:Bool) X=>hE (ssort cD (dgsR S)) a b hdl (H++X);unfold Qls at hu;have hI':=hI S hp;have hRI':=hRI S hp true;unfold Qv1 at hI';unfold Qre at hRI';simp only[pA]at hu hd hI';generalize (dgsU S).isEmpty=ze at hd;generalize ssort cD (dgsR S)=DD at *;simp[pA];refine Qa g3 ?_;simp;refine Qq 0 (fun fr H'=>fr 3=.eptr [.sl S.isEmpty 14 (S.map Un.enc)]∧fr 5=YL true 14 (S.map Un.encR)∧H'=H) (fun _ _=>False) ?_ (fun _ _ h=>h.elim) ?_
     · refine Yi H.length S.length (fun j fr H'=>fr 3=.eptr [.sl S.isEmpty 14 (S.map Un.enc)]∧fr 5=YL true 14 (S.map Un.encR)∧fr 41=YL true 14 (S.map Un.encR)∧H'=H) (by omega) (by decide) (by simp) (by simp) ?_ ?_ ?_
       · simp[Qb hcl]
       · rintro j fr H' hj fi fn ⟨f3,f5,f41,rfl⟩;obtain⟨u,huj⟩:∃ u,S[j]?=some u:=⟨_,Qy7 hj⟩;have hum:=Qzo huj;have hus:=hu u.n;rw[Qsq hso hch huj]at hus;simp only[Q3m,Q2n]at hus;have hsm:=hp.sm u hum;have r1:Zam.rowAt (S.map Un.encR) (j:Int)=some u.encR:=by simp[Zam.rowAt,huj]
         have i1:=fun b hb X=>hI' u hum b hb (H'++X);have i2:=fun b hb X=>hRI' u hum b hb (H'++X);obtain⟨z1,m1,m2,e1,e2,hv⟩:=u.both;rw[e1]at hus i1;rw[e2]at r1 i2;simp only[Qz3,Q0c]at hus i1 i2;simp[fi,f41,r1,f3];refine Qa (hus _) ?_;simp;generalize hb1:Ob.box tR [A.d (.str u.n),A.d (.str u.t),A.d (.sl true 4 (u.tk.map Qt)),A.d (.int .i64 u.tr.k),A.d (.int .i64 u.tr.f),A.d (.int .i64 u.tr.t),A.d (.str u.tr.w),A.d (.int .i64 u.tr.at_),A.d (.sl z1 6 (u.tr.ks.map N.enc)),A.d (.sl true 4 (u.sm.bs.map Q4)),A.d m2,A.d (.sl true 2 (u.sm.bad.map Qx)),A.d (.int .i64 u.bad),A.d (.int .i64 u.pos)]=b1;generalize hb2:Ob.box tU [A.d (.str u.n),A.d (.str u.t),A.d (.sl true 4 (u.tk.map Qt)),A.d (.int .i64 u.tr.k),A.d (.int .i64 u.tr.f),A.d (.int .i64 u.tr.t),A.d (.str u.tr.w),A.d (.int .i64 u.tr.at_),A.d (.sl z1 6 (u.tr.ks.map N.enc)),A.d (.sl u.sm.bs.isEmpty 4 (u.sm.bs.map Q4)),A.d m1,A.d (.sl u.sm.bad.isEmpty 2 (u.sm.bad.map Qx)),A.d (.int .i64 u.bad),A.d (.int .i64 u.pos)]=b2;refine Qq 2 (fun fr H2=>fr 3=.eptr [.sl S.isEmpty 14 (S.map Un.enc)]∧fr 5=YL true 14 (S.map Un.encR)∧fr 41=YL true 14 (S.map Un.encR)∧fr 43=YI j∧fr 42=YI S.length∧H2=H'++[b1,b2]) (fun _ _=>False) ?_ (fun _ _ h=>h.elim) ?_
         · refine Yi (H'.length+2) u.sm.bs.length (fun q fr H2=>fr 3=.eptr [.sl S.isEmpty 14 (S.map Un.enc)]∧fr 5=YL true 14 (S.map Un.encR)∧fr 41=YL true 14 (S.map Un.encR)∧fr 43=YI j∧fr 42=YI S.length ∧
            fr 8=.ptr H'.length 0∧fr 9=.ptr (H'.length+1) 0∧fr 69=YL u.sm.bs.isEmpty 4 (u.sm.bs.map Q4)∧H2=H'++[b1,b2]) (by have:=hsm.2.1;omega) (by decide) (by simp) (by simp[← hb1,← hb2]) ?_ ?_ ?_
           · simp[f3,f5,f41,fi,fn,Qm hcl,← hb1,← hb2]
           · rintro q fr H2 hq gi gn ⟨f3,f5,f41,f43,f42,f8,f9,f69,rfl⟩;obtain⟨b,hb⟩:∃ b,u.sm.bs[q]?=some b:=⟨_,Qy7 hq⟩;have hbm:=Qzo hb;have hrb:Zam.rowAt (u.sm.bs.map Q4) (q:Int)=some [.int .i64 b.a,.int .i64 b.k,.str b.w,.int .i64 b.i]:=by simp[Zam.rowAt,hb,Q4]
             have i1:=i1 b hbm;have i2:=i2 b hbm;rw[← Qvg hso]at i2;simp only[Q4,Qz3,Q0c]at i1 i2;simp[gi,f69,hrb,f8,f9,f5,← hb1,← hb2,eqDs,eqD];refine Ye (i2 _) ?_;simp[f3,f9];refine Qa (i1 _) ?_;simp[eqDs,eqD];refine W9 (H'.length+2) (Qy9 _) (by simp[gi,gn]) ?_;simp[f3,f5,f41,f43,f42,f8,f9,f69,Qm hcl,← hb1,← hb2]
           · rintro fr H2 gi gn ⟨f3,f5,f41,f43,f42,f8,f9,f69,rfl⟩;simp[f3,f5,f41,f43,f42]
         · rintro fr H2 ⟨f3,f5,f41,f43,f42,rfl⟩;simp;refine W9 H'.length (Qy9 _) (by simp[f43,f42]) ?_;simp[f3,f5,f41,Qf hcl]
       · rintro fr H' fi fn ⟨f3,f5,f41,rfl⟩;simp[f3,f5]
     · rintro fr H' ⟨f3,f5,rfl⟩;have hd:=hd [];have hrd:=hrd [];have hsame:=fun a b=>hsame a b [];rw[Qzt]at hd hrd hsame;simp;refine Qa (hA _ hH) ?_;simp[f3];refine Qa hd ?_;simp[f5];refine Qa hrd ?_;simp;refine Qa (hsame _ _) ?_;simp;simp[RetK,Qb hcl]
   · simp[he];refine Qa g3 ?_;simp[he];refine Qa (hA _ hH) ?_;simp;simp[RetK,Qb hcl]
end
end
section
open Go.Proofs
end

section
open Go.Proofs
section
variable{P:Program}{H0:Hp}
end
end
section
open Go.Proofs
section
variable{P:Program}{H0:Hp}
def OfOk(P:Program)(f:Nat):Prop:=∀(l:List Un)(z:Bool),l.length≤1048576→(l=[]→z=true)→∀ H,Qc P f [YL z 14 (l.map Un.enc)] H (fun r H'=>r=ofA l∧H'=H)
end
end
section
open Go.Proofs
section
variable{L:List Un}{a:Un}
end
end
section
open Go.Proofs
section
variable{A B:List Un}{a:Un}(h1:Sorted cU (A++B))(h2:Sorted cU (A++a::B))
include h1 h2
end
end
section
open Go.Proofs
section
variable{P:Program}{H0:Hp}
end
end
section
open Go.RowKit (Below)
open Go.Proofs
theorem Qkx{w:Bs}:∀ {l:List SBd} {i p:Int},(∀ c ∈ l,¬ (c.k=2∧c.w=w))→itU w l i p=p
 | [],i,p,_=>rfl
 | b :: r, i, p, h => by
   unfold itU;rw[if_neg (h b (by simp))];exact Qkx fun c hc=>h c (by simp[hc])
theorem Qor{w:Bs}{b:SBd}:∀ {l:List SBd} {i p:Int} {q:Nat},l[q]?=some b→b.k=2∧b.w=w→(∀(j:Nat)(c:SBd),q<j→l[j]?=some c→¬ (c.k=2∧c.w=w))→itU w l i p=i+q
 | [],i,p,q,h,_,_=>by simp at h
 | x :: r, i, p, 0, h, hm, hj => by
   simp at h;subst h;unfold itU;rw[if_pos hm,Qkx fun c hc=>by
    obtain⟨j,hj'⟩:=Q28 hc;exact hj (j+1) c (by omega) (by simpa using hj')]
   simp
 | x :: r, i, p, q + 1, h, hm, hj => by
   unfold itU;rw[Qor (q:=q) (by simpa using h) hm fun j c h1 h2=>hj (j+1) c (by omega) (by simpa using h2)];omega
def BdSl(w:World)(sv:Value)(bs:List SBd):Prop :=
 (∃ a cap,sv=.slice a 0 cap∧bs=[])∨∃ b off cap,sv=.slice (some ⟨b,off,none⟩) bs.length cap∧b<w.heap.size∧∀(j:Nat)(x:SBd),bs[j]?=some x →
  w.cell? ⟨b,off+j*4,none⟩=some (.int .i64 x.a)∧w.cell? ⟨b,off+j*4+1,none⟩=some (.int .i64 x.k)∧w.cell? ⟨b,off+j*4+2,none⟩=some (.string ⟨x.w.toArray⟩)∧w.cell? ⟨b,off+j*4+3,none⟩=some (.int .i64 x.i)
theorem Qte{P:Program}{f:FuncId}(h:∀ (w:World) (cs:List Value) (sv:Value) (word:List UInt8) (bs:List SBd),cs.length=14→cs[9]?=some sv→BdSl w sv bs→bs.length≤1099511627776 →
  Calls P f #[.agg cs.toArray,.string ⟨word.toArray⟩] w fun e w'=>e=.returned (.int .i64 (itU word bs 0 (-1)))∧Below w.heap.size w w'):Qnz P f:=by
 intro u word hl H κ w vs hr hlen hv
 match vs,hlen with
 | [v1,v2],_ =>
 have h1:=hv 0 v1 _ rfl rfl;have h2:=(hv 1 v2 _ rfl rfl).d_inv.str_inv;subst h2;obtain⟨z,ms,he⟩:=u.enc_all;cases h1 with
 | agg cs _ hcl hcs =>
   have hc14:cs.length=14:=by rw[hcl,Q0y,u.enc_len]
   obtain⟨sv,hsv⟩:∃ sv,cs[9]?=some sv:=⟨_,Qy7 (by omega)⟩;have hd:DR κ.σ sv (.sl u.sm.bs.isEmpty 4 (u.sm.bs.map Q4)):=(hcs 9 sv _ hsv (by rw[he];rfl)).d_inv;refine (h w cs sv word u.sm.bs hc14 hsv ?_ hl).mono ?_
   · rcases hd.sl_inv with⟨rfl,-,hx⟩|⟨a,cap,rfl,-,hx⟩|⟨b,o,cap,f,rfl,-,hcap,-,hc,hdd⟩
     · exact .inl ⟨_,_,rfl,by simpa using hx⟩
     · exact .inl ⟨_,_,rfl,by simpa using hx⟩
     · by_cases e:u.sm.bs=[]
       · rw[e];exact .inl ⟨_,_,rfl,rfl⟩
       have hcell:∀(j:Nat)(x:SBd),u.sm.bs[j]?=some x→∀(q:Nat)(y:D),(Q4 x)[q]?=some y→∃ v,w.cell? ⟨b,o+j*4+q,none⟩=some v∧DR κ.σ v y:=fun j x hj q y hy=>by
        have hr':(u.sm.bs.map Q4)[j]?=some (Q4 x):=by simp[hj]
        exact⟨_,hr.st _ _ _ (hc j q _ _ hr' hy),hdd j q _ _ hr' hy⟩
       refine .inr ⟨b,o,cap,by simp,?_,fun j x hj=>⟨?_,?_,?_,?_⟩⟩
       · obtain⟨x,hx⟩:∃ x,u.sm.bs[0]?=some x:=by
          cases hb:u.sm.bs with
          | nil=>exact absurd hb e
          | cons x r=>exact⟨x,rfl⟩
         obtain⟨v,hv,-⟩:=hcell 0 x hx 0 _ rfl;exact Q1m w ⟨b,_,.none⟩ hv
       · obtain⟨v,hv,hd⟩:=hcell j x hj 0 _ rfl;rw[hd.int_inv]at hv;exact hv
       · obtain⟨v,hv,hd⟩:=hcell j x hj 1 _ rfl;rw[hd.int_inv]at hv;exact hv
       · obtain⟨v,hv,hd⟩:=hcell j x hj 2 _ rfl;rw[hd.str_inv]at hv;exact hv
       · obtain⟨v,hv,hd⟩:=hcell j x hj 3 _ rfl;rw[hd.int_inv]at hv;exact hv
   · rintro e w' ⟨rfl,hb⟩;exact⟨_,κ,_,H,rfl,K.le_refl κ,hr.later hb,.d (.int _ _),rfl,rfl⟩
end
end Go.Zam
namespace Go.Proofs
open Go.Shelf
namespace Zi
open Go Go.Zam Go.Proofs Go.RowKit Go.Shelf
attribute [local go_sem] Oper.semAt_some
def bdV(b:SBd):Value := .agg #[.int .i64 b.a,.int .i64 b.k,.string ⟨b.w.toArray⟩,.int .i64 b.i]
def Qcn(bs:List SBd)(j:Nat):Int×SBd:=((bs.length:Int)-1-j,bs[bs.length-1-j]?.getD default)
def Qca(bs:List SBd)(k:Nat):List (Int×SBd):=(List.range k).map (Qcn bs)
theorem Qgn(bs:List SBd)(k:Nat):Qca bs (k+1)=Qca bs k++[Qcn bs k]:=by simp[Qca,List.range_succ]
theorem Qnn(bs:List SBd)(k:Nat):(Qca bs k).length=k:=by simp[Qca]
set_option maxRecDepth 100000 in
set_option maxHeartbeats 2000000 in
theorem Qvv(F:Fence)(n:Nat)(hf:F.fn 109)(hro:F.round=none)(hn:1≤n)(l Bs n₀ b off cap:Nat)(bs:List SBd)(hreach:bs.length≤1099511627776)(hb:b<n₀)(hBs0:Bs<n₀)(J Jx:List (Int×SBd)→World→Prop)(hY:∀ pre x W,J pre W→pre.length<bs.length→YieldAt F (n-1) Tryz.prog l #[.int .i64 x.1,bdV x.2] W fun e W' =>
  (e=.returned (.bool true)∧J (pre++[x]) W'∧Below n₀ W W')∨(e=.returned (.bool false)∧Jx (pre++[x]) W'))(W:World)(hBs:W.cell? ⟨Bs,0,none⟩=some (.slice (some ⟨b,off,none⟩) bs.length cap))(hc:∀ (j:Nat) (x:SBd),bs[j]?=some x→W.cell? ⟨b,off+j*4,none⟩=some (.int .i64 x.a)∧W.cell? ⟨b,off+j*4+1,none⟩=some (.int .i64 x.k)∧W.cell? ⟨b,off+j*4+2,none⟩=some (.string ⟨x.w.toArray⟩)∧W.cell? ⟨b,off+j*4+3,none⟩=some (.int .i64 x.i))(h0:J [] W) :
 CallsIn F n Tryz.prog 109 #[.func (.yield l) #[] #[],.pointer (some ⟨Bs,0,none⟩)] W fun e W'=>(∃ v,e=.returned v) ∧
  ((∃ ys,ys=Qca bs bs.length∧J ys W')∨(∃ pre,(∃ k,k≤bs.length∧pre=Qca bs k)∧Jx pre W')):=by
 have hw0:wrap64 ((bs.length:Int)-1)=(bs.length:Int)-1:=by unfold wrap64;omega
 refine callsIn_of_wp Tryz.func109 rfl hf ?_ hro;simp only[Tryz.ntmps109,Q0n,Qzj,Qz6,Nat.reduceAdd,Nat.reduceSub,Q2h,Q2g,Q2s,Q2k,Qz0,Qzu]
 gi_wp2
 gi_loopw [3] (fun i wr=>∃ k:Nat,k≤bs.length∧i=.int .i64 ((bs.length:Int)-1-k)∧J (Qca bs k) wr∧Below n₀ W wr)
  (fun i _=>((intOf i)+1).toNat)
 case atStart=>exact⟨0,Q15 _,by simp[hw0],h0,Below.refl _ _⟩
 case round =>
  obtain⟨k,hk,rfl,hJs,hnx⟩:=hrel;have hBx:wr.cell? ⟨Bs,0,none⟩=some (.slice (some ⟨b,off,none⟩) bs.length cap):=(hnx.cell (p:=⟨Bs,0,none⟩) hBs0).trans hBs;by_cases hlt:k<bs.length
  · obtain⟨p,hp⟩:∃ p:Nat,k+1+p=bs.length:=⟨bs.length-k-1,by omega⟩;have hpl:p<bs.length:=by omega
    obtain⟨x,hx⟩:∃ x,bs[p]?=some x:=⟨_,Qy7 hpl⟩;have hfr:Qcn bs k=((p:Int),x):=by
     unfold Qcn;rw[show bs.length-1-k=p by omega,hx];simp;omega
    obtain⟨c0,c1,c2,c3⟩:=hc p x hx;have d0:=(hnx.cell (p:=⟨b,off+p*4,none⟩) hb).trans c0;have d1:=(hnx.cell (p:=⟨b,off+p*4+1,none⟩) hb).trans c1;have d2:=(hnx.cell (p:=⟨b,off+p*4+2,none⟩) hb).trans c2;have d3:=(hnx.cell (p:=⟨b,off+p*4+3,none⟩) hb).trans c3;have hi:((bs.length:Int)-1-k)=(p:Int):=by omega
    rw[hi];clear hi;have hwp:wrap64 ((p:Int)-1)=(p:Int)-1:=by unfold wrap64;omega
    obtain⟨fn,tmps,assign,body,hy,hR⟩:=hY _ ((p:Int),x) wr hJs (by rw[Qnn];exact hlt);dsimp only[bdV]at hy
    gi_wp2
    refine hR.mono ?_;rintro e W3 (⟨rfl,hJ3,hk3⟩|⟨rfl,hJx3⟩)
    · gi_wp2
      go_roundw
      case rel=>exact⟨k+1,by omega,by simp;omega,by rw[Qgn,hfr];exact hJ3,hnx.trans hk3⟩
      case measure=>simp[intOf];try omega
    · gi_wp2
      refine bodyPost_ret (results_none rfl _ _ _) rfl ?_;exact⟨⟨_,rfl⟩,.inr ⟨_,⟨k+1,by omega,by rw[Qgn,hfr]⟩,hJx3⟩⟩
  · obtain rfl:k=bs.length:=by omega
    have hi:((bs.length:Int)-1-(bs.length:Nat)) = -1:=by omega
    rw[hi]
    gi_wp2
    go_end0
    exact⟨⟨_,rfl⟩,.inl ⟨_,rfl,hJs⟩⟩
set_option maxRecDepth 100000 in
set_option maxHeartbeats 1000000 in
theorem Qno(F:Fence)(n:Nat)(hf:F.fn 109)(hro:F.round=none)(l Bs:Nat)(J:List (Int×SBd)→World→Prop)(W:World)(a:Option Addr)(cap:Nat)(hBs:W.cell? ⟨Bs,0,none⟩=some (.slice a 0 cap))(h0:J [] W) :
 CallsIn F n Tryz.prog 109 #[.func (.yield l) #[] #[],.pointer (some ⟨Bs,0,none⟩)] W fun e W'=>(∃ v,e=.returned v)∧J [] W':=by
 refine callsIn_of_wp Tryz.func109 rfl hf ?_ hro;simp only[Tryz.ntmps109,Q0n,Qzj,Qz6,Nat.reduceAdd,Nat.reduceSub,Q2h,Q2g,Q2s,Q2k,Qz0,Qzu]
 gi_wp2
 gi_loopw [3] (fun i wr=>i=.int .i64 (-1)∧J [] wr) (fun _ _=>0)
 case atStart=>exact⟨by first|rfl|decide|simp,h0⟩
 case round =>
  obtain⟨rfl,hJs⟩:=hrel
  gi_wp2
  go_end0
  exact⟨⟨_,rfl⟩,hJs⟩
set_option maxHeartbeats 1000000 in
theorem Qpr(F:Fence)(n:Nat)(hf:F.fn 88)(hro:F.round=none)(a:Option Addr)(len cap:Nat)(w:World) :
 CallsIn F n Tryz.prog 88 #[.slice a len cap] w fun e w'=>e=.returned (.func (.func 109) #[] #[.pointer (some ⟨w.heap.size,0,none⟩)])∧w'=w.alloc (.cells #[.slice a len cap] 43):=by
 refine callsIn_of_wp Tryz.func88 rfl hf ?_ hro;simp only[Tryz.ntmps88,Q0n,Qzj,Qz6,Nat.reduceAdd,Nat.reduceSub,Q2h,Q2g,Q2s,Q2k,Qz0,Qzu]
 gi_wp2
 go_ret
 exact⟨rfl,rfl⟩
theorem Qw4{n₀:Nat}{A B:World}(h:Below n₀ A B)(hn:A.heap.size≤n₀){sv:Value}{bs:List SBd}:BdSl A sv bs→BdSl B sv bs
 | .inl e => .inl e
 | .inr ⟨b,off,cap,e,hb,hc⟩ => .inr ⟨b,off,cap,e,Q3b hb h.size,fun j x hj=>by
  obtain⟨c0,c1,c2,c3⟩:=hc j x hj;have hb':b<n₀:=Q3b hb hn;exact⟨(h.cell (p:=⟨b,off+j*4,none⟩) hb').trans c0,(h.cell (p:=⟨b,off+j*4+1,none⟩) hb').trans c1,(h.cell (p:=⟨b,off+j*4+2,none⟩) hb').trans c2,(h.cell (p:=⟨b,off+j*4+3,none⟩) hb').trans c3⟩⟩
theorem Qq8(F:Fence)(n:Nat)(hf:F.fn 109)(hro:F.round=none)(hn:1≤n)(Bs n₀:Nat)(sv:Value)(bs:List SBd)(hreach:bs.length≤1099511627776)(w:World)(hBs:Bs<n₀)(hn₀:n₀=w.heap.size)(hc:w.cell? ⟨Bs,0,none⟩=some sv)(hI:BdSl w sv bs) :
 SeqStopsK F n Tryz.prog 109 #[.pointer (some ⟨Bs,0,none⟩)] (fun x:Int×SBd => #[Value.int .i64 x.1,bdV x.2]) (Below n₀) (fun ys=>ys=Qca bs bs.length)
  (fun pre=>∃ k,k≤bs.length∧pre=Qca bs k) bs.length w:=fun l J Jx W hW _ _ hY h0=>by
 subst hn₀;have hc':=(hW.cell (p:=⟨Bs,0,none⟩) hBs).trans hc;rcases hI with⟨a,cap,rfl,rfl⟩|⟨b,off,cap,rfl,hb,hcs⟩
 · exact(Qno F n hf hro l Bs J W a cap hc' h0).mono fun e W' ⟨he,hj⟩=>⟨he,.inl ⟨_,rfl,hj⟩⟩
 · exact Qvv F n hf hro hn l Bs w.heap.size b off cap bs hreach hb hBs J Jx hY W hc' (fun j x hj=>by
    obtain⟨c0,c1,c2,c3⟩:=hcs j x hj;exact⟨(hW.cell (p:=⟨b,off+j*4,none⟩) hb).trans c0,(hW.cell (p:=⟨b,off+j*4+1,none⟩) hb).trans c1,(hW.cell (p:=⟨b,off+j*4+2,none⟩) hb).trans c2,(hW.cell (p:=⟨b,off+j*4+3,none⟩) hb).trans c3⟩) h0
theorem Qr7(W:World)(o:Array Value)(t:TypeId)(i:Nat):(W.alloc (.cells o t)).cell? ⟨W.heap.size,i,none⟩=o[i]?:=by
 unfold World.cell?;simp only[World.alloc_heap_new];simp
def NoB(word:List UInt8)(p:Int×SBd):Prop:=¬ (p.2.k=2∧p.2.w=word)
def DefB(word:List UInt8)(p:Int×SBd):Prop:=p.2.k=2∧p.2.w=word
theorem Qts{word:List UInt8}{bs:List SBd}(h:∀ p ∈ Qca bs bs.length,NoB word p):itU word bs 0 (-1) = -1:=by
 refine Qkx fun c hc => ?_;obtain⟨j,hj⟩:=Q28 hc;have hjl:j<bs.length:=(Qy6.1 hj).1;have:=h (Qcn bs (bs.length-1-j)) (by simp only[Qca,Q01,Q1s];exact⟨_,by omega,rfl⟩);unfold NoB Qcn at this;rw[show bs.length-1-(bs.length-1-j)=j by omega,hj]at this;exact this
theorem Qtr{word:List UInt8}{bs:List SBd}{k:Nat}(hk:k<bs.length)(h:∀ p ∈ Qca bs k,NoB word p)(hd:DefB word (Qcn bs k)):itU word bs 0 (-1)=(Qcn bs k).1:=by
 obtain⟨p,hp⟩:∃ p:Nat,k+1+p=bs.length:=⟨bs.length-k-1,by omega⟩;have hpl:p<bs.length:=by omega
 obtain⟨x,hx⟩:∃ x,bs[p]?=some x:=⟨_,Qy7 hpl⟩;have hfr:Qcn bs k=((p:Int),x):=by
  unfold Qcn;rw[show bs.length-1-k=p by omega,hx];simp;omega
 rw[hfr]at hd ⊢;rw[Qor hx hd fun j c hj hc => ?_]
 · simp
 · have hjl:j<bs.length:=(Qy6.1 hc).1;have:=h (Qcn bs (bs.length-1-j)) (by simp only[Qca,Q01,Q1s];exact⟨_,by omega,rfl⟩);unfold NoB Qcn at this;rw[show bs.length-1-(bs.length-1-j)=j by omega,hc]at this;exact this
theorem list14{α:Type}{l:List α}(h:l.length=14):∃ a b c d e f g h' i j k m n o,l=[a,b,c,d,e,f,g,h',i,j,k,m,n,o]:=by
 match l,h with
 | [a,b,c,d,e,f,g,h',i,j,k,m,n,o],_=>exact⟨a,b,c,d,e,f,g,h',i,j,k,m,n,o,rfl⟩
set_option maxRecDepth 100000 in
set_option maxHeartbeats 4000000 in
theorem Qwr(F:Fence)(n:Nat)(h53:F.fn 53)(h88:F.fn 88)(h109:F.fn 109)(hro:F.round=none)(hn:3≤n)(w:World)(cs:List Value)(sv:Value)(word:List UInt8)(bs:List SBd)(hcs:cs.length=14)(h9:cs[9]?=some sv)(hI:BdSl w sv bs)(hl:bs.length≤1099511627776) :
 CallsIn F n Tryz.prog 53 #[.agg cs.toArray,.string ⟨word.toArray⟩] w fun e W'=>e=.returned (.int .i64 (itU word bs 0 (-1)))∧Below w.heap.size w W':=by
 have h1:1≤n:=by omega
 obtain⟨v0,v1,v2,v3,v4,v5,v6,v7,v8,v9,v10,v11,v12,v13,rfl⟩:=list14 hcs;obtain rfl:v9=sv:=by simpa using h9
 obtain⟨a,len,cap,rfl⟩:∃ a len cap,v9=.slice a len cap:=by
  rcases hI with⟨a,cap,rfl,-⟩|⟨b,off,cap,rfl,-⟩<;>exact⟨_,_,_,rfl⟩
 refine callsIn_of_wp_marks Tryz.func53 rfl h53 ?_ hro;simp only[Tryz.ntmps53,Q0n,Qzj,Qz6,Nat.reduceAdd,Nat.reduceSub,Q2h,Q2g,Q2s,Q2k,Qz0,Qzu]
 gi_wp2_with (gi_at_call 88;refine (Qpr F (n-1) h88 hro _ _ _ _).mono ?_;rintro e w' ⟨rfl,rfl⟩)
 generalize hu:Obj.cells #[v0,v1,v2,v3,v4,v5,v6,v7,v8,Value.slice a len cap,v10,v11,v12,v13] 49=ou;have bW:=((Boxed.new (w.alloc ou) 9 (.string ⟨word.toArray⟩)).alloc (.cells #[.int .i64 0] 3)).alloc (.cells #[.slice a len cap] 43);have bR:=(Boxed.new ((w.alloc ou).alloc (.cells #[.string ⟨word.toArray⟩] 9)) 3 (.int .i64 0)).alloc (.cells #[.slice a len cap] 43);have bN:=Boxed.new (((w.alloc ou).alloc (.cells #[.string ⟨word.toArray⟩] 9)).alloc (.cells #[.int .i64 0] 3)) 43 (.slice a len cap);simp only[World.size_alloc]at bW bR bN;have hB0:Below w.heap.size w ((((w.alloc ou).alloc (.cells #[.string ⟨word.toArray⟩] 9)).alloc (.cells #[.int .i64 0] 3)).alloc (.cells #[.slice a len cap] 43)) :=
  ((((Below.refl _ w).alloc (Qy9 _) _).alloc (by simp) _).alloc (by simp;omega) _).alloc (by simp;omega) _
 have hsz:((((w.alloc ou).alloc (.cells #[.string ⟨word.toArray⟩] 9)).alloc (.cells #[.int .i64 0] 3)).alloc (.cells #[.slice a len cap] 43)).heap.size=w.heap.size+4:=by simp
 obtain⟨W0,hW0⟩:∃ W0,((((w.alloc ou).alloc (.cells #[.string ⟨word.toArray⟩] 9)).alloc (.cells #[.int .i64 0] 3)).alloc (.cells #[.slice a len cap] 43))=W0:=⟨_,rfl⟩;rw[hW0]at bW bR bN hB0 hsz ⊢;clear hW0 hu;refine wpIn_rangeFunc_ownH hro h1 (gf:=109) (lb := #[.pointer (some ⟨w.heap.size+1+1+1,0,none⟩)]) rfl h109 (enters_of Tryz.func109 (by kernel_rfl) rfl)
  (Qq8 F (n-1) h109 hro (by omega) (w.heap.size+1+1+1) W0.heap.size (.slice a len cap) bs hl W0 (by omega) rfl bN.cell (Qw4 hB0 (Qy9 _) hI)) belowK_t (belowK_b (Qy9 _)) (Below.refl _ _) (fun _=>rfl)
  (fun pre W=>(((∀ p ∈ pre,NoB word p)∧Boxed W (w.heap.size+1) 9 (.string ⟨word.toArray⟩))∧Boxed W (w.heap.size+1+1) 3 (.int .i64 0))∧Below w.heap.size W0 W)
  (fun c pre W=>(c=.ret∧∃ ini last,pre=ini++[last]∧(∀ p ∈ ini,NoB word p)∧DefB word last∧Boxed W (w.heap.size+1+1) 3 (.int .i64 last.1))∧Below w.heap.size W0 W)
  (OwnFrom.and (OwnFrom.and (OwnFrom.and (ownFrom_pure _ _) (Own.from (boxed_own _ _ _) _)) (Own.from (boxed_own _ _ _) _)) (ownFrom_below (by omega) (by omega)))
  (fun c=>OwnFrom.and (fun s A B row hs hg hr=>by obtain⟨hc,ini,last,e1,e2,e3,e4⟩:=hs;exact⟨hc,ini,last,e1,e2,e3,boxed_own _ 3 (fun(_:Unit)=>Value.int .i64 last.1) () A B row e4 hg (fun r e=>(hr r e).2)⟩) (ownFrom_below (by omega) (by omega)))
  ⟨⟨⟨by simp,bW⟩,bR⟩,Below.refl _ _⟩
  (fun x a' W=>∃ Bx,w.heap.size+1+1<Bx∧(W.cell? ⟨Bx,0,none⟩=some (.int .i64 x.2.a)∧W.cell? ⟨Bx,1,none⟩=some (.int .i64 x.2.k)∧W.cell? ⟨Bx,2,none⟩=some (.string ⟨x.2.w.toArray⟩)∧W.cell? ⟨Bx,3,none⟩=some (.int .i64 x.2.i)) ∧
   a' = { tmps := #[.agg #[v0,v1,v2,v3,v4,v5,v6,v7,v8,.slice a len cap,v10,v11,v12,v13],.string ⟨word.toArray⟩,.pointer (some ⟨w.heap.size,0,none⟩),.pointer (some ⟨w.heap.size+1,0,none⟩),.pointer (some ⟨w.heap.size+1+1,0,none⟩),.int .i64 x.1,.pointer (some ⟨Bx,0,none⟩),.pointer (some ⟨w.heap.size,9,none⟩),.pointer (some ⟨w.heap.size,9,none⟩),.slice a len cap,.func (.func 109) #[] #[.pointer (some ⟨w.heap.size+1+1+1,0,none⟩)],.int .i64 x.1,.agg #[.int .i64 x.2.a,.int .i64 x.2.k,.string ⟨x.2.w.toArray⟩,.int .i64 x.2.i],undef,undef,undef,undef,undef,undef,undef,undef,undef,undef],defers:=[] })
  (fun x a' _ X Y row hs hg hr=>by
   obtain⟨Bx,g1,⟨g2,g3,g4,g5⟩,g6⟩:=hs;have hr':=fun r e=>(hr r e).2;exact⟨Bx,g1,⟨cell_kept g2 hg hr',cell_kept g3 hg hr',cell_kept g4 hg hr',cell_kept g5 hg hr'⟩,g6⟩)
  ?assign ?body ?done ?stop
 case assign =>
  rintro l pre x W K ⟨⟨⟨hp,bW1⟩,bR1⟩,hB1⟩ hK;dsimp only[bdV]
  gi_wp2
  have hWs:=hB1.size;exact hK _ _ ((KeepsOthers.alloc _ _).from _) ((Below.refl _ W).alloc hWs _) ⟨⟨⟨hp,bW1.alloc _⟩,bR1.alloc _⟩,hB1.alloc (by omega) _⟩
   ⟨W.heap.size,bR1.lt,⟨Qr7 _ _ _ 0,Qr7 _ _ _ 1,Qr7 _ _ _ 2,Qr7 _ _ _ 3⟩,rfl⟩
 case body =>
  rintro l pre x a' W hl' ⟨r,hr⟩ ⟨⟨⟨hp,bW1⟩,bR1⟩,hB1⟩ ⟨Bx,hBx,⟨g2,g3,g4,g5⟩,rfl⟩ hlt;have cW:=bW1.cell;have cR:=bR1.cell;have fR:=bR1.frozen;have hWs:=hB1.size
  gi_wp2
  · have hk:x.2.k=2:=by assumption
    have hw:(x.2.w == word)=true:=by assumption
    exact⟨(KeepsOthers.setCell _ _ _).from _,⟨rfl,pre,x,rfl,hp,⟨hk,by simpa using hw⟩,bR1.set _⟩,hB1.setCell (p:=⟨w.heap.size+1+1,0,none⟩) (by show w.heap.size≤w.heap.size+1+1;omega) _⟩
  · have hw:(x.2.w == word)=false:=by assumption
    exact⟨KeepsFrom.refl _ _,Below.refl _ _,⟨⟨fun p hp'=>(Qzx.1 hp').elim (hp p) (fun e=>by simp at e;subst e;exact fun h=>by rw[h.2]at hw;simp at hw),bW1⟩,bR1⟩,hB1⟩
  · have hk:¬ x.2.k=2:=by assumption
    exact⟨KeepsFrom.refl _ _,Below.refl _ _,⟨⟨fun p hp'=>(Qzx.1 hp').elim (hp p) (fun e=>by simp at e;subst e;exact fun h=>hk h.1),bW1⟩,bR1⟩,hB1⟩
 case done =>
  rintro D ys W hD rfl ⟨⟨⟨hp,bW1⟩,bR1⟩,hB1⟩ hK;have cR:=bR1.cell;have fR:=bR1.frozen
  gi_wp2
  have hK':=(KeepsOthers.setCell W ⟨w.heap.size+1+1,0,none⟩ (.int .i64 (-1))).same D _ hK rfl;refine⟨by simp,.inl ⟨_,_,rfl,run_takeDeferred hK',?_⟩⟩;have hc5:=cell_kept (World.cell?_setCell_same' W ⟨w.heap.size+1+1,0,none⟩ (.int .i64 (-1)) (by rw[cR];rfl)) (grownBy_putObj' _ D (.deferred none)) (fun r e=>by cases e;exact⟨_,hK',rfl⟩);refine⟨.int .i64 (-1),?_,by rw[Qts hp],(hB0.trans (hB1.setCell (p:=⟨w.heap.size+1+1,0,none⟩) (by show w.heap.size≤w.heap.size+1+1;omega) _)).trans (belowK_b (w:=w) (Qy9 _) _ D _ _ (by omega) hK' rfl rfl)⟩;simp[results,Tryz.f53,go_sem,hc5]
 case stop =>
  rintro D c pre W hD ⟨k,hk,rfl⟩ ⟨⟨rfl,ini,last,e1,e2,e3,bR1⟩,hB1⟩ hK;have cR:=bR1.cell
  gi_wp2
  refine⟨by simp,.inl ⟨_,_,rfl,run_takeDeferred hK,?_⟩⟩;have hc5:=cell_kept cR (grownBy_putObj' _ D (.deferred none)) (fun r e=>by cases e;exact⟨_,hK,rfl⟩);obtain⟨k',rfl⟩:∃ k',k=k'+1:=by
   cases k with
   | zero=>simp[Qca]at e1
   | succ k'=>exact⟨k',rfl⟩
  rw[Qgn]at e1;obtain⟨rfl,e5⟩:=List.append_inj' e1 rfl;obtain rfl:Qcn bs k'=last:=by simpa using e5
  refine⟨.int .i64 (Qcn bs k').1,?_,by rw[Qtr (by omega) e2 e3],(hB0.trans hB1).trans (belowK_b (w:=w) (Qy9 _) W D _ _ (by omega) hK rfl rfl)⟩;simp[results,Tryz.f53,go_sem,hc5]
theorem Qvd:Qnz Tryz.prog 53:=Qte fun w cs sv word bs h1 h2 h3 h4=>(callsIn_wide (n:=3)).1 (Qwr Fence.wide 3 trivial trivial trivial rfl (Qy9 _) w cs sv word bs h1 h2 h3 h4)
end Zi
end Go.Proofs
namespace Go.Proofs
section
open Go.Shelf Go.RowKit
variable{P:Program}{ρ:Ren}
set_option maxHeartbeats 32000000 in
set_option maxRecDepth 100000 in
theorem AnyPu.internal_strconv_ParseUint_10_b63(L:LaysPu.n16 P ρ)(t:ByteArray)(hne:t.size≠0)(hmax:t.size≤9223372036854775806)(w:World) :
 Calls P (ρ.f 16) #[.string t,.int .i64 10,.int .i64 63] w fun e w'=>e=.returned (Lib.uintTupleM (ρ.t 34) 9223372036854775807 (Lib.parseUintM 9223372036854775807 0 t.data.toList))∧w'=Lib.bytesWorld w (ρ.t 5) t:=by
 have mixed:=L.mixed;have t9:=L.t9;have a9:=L.a9;have z9:=L.z9;have v9:=L.v9;have t3:=L.t3;have a3:=L.a3;have z3:=L.z3;have v3:=L.v3;have t22:=L.t22;have a22:=L.a22;have z22:=L.z22;have v22:=L.v22;have t24:=L.t24;have a24:=L.a24;have z24:=L.z24;have v24:=L.v24;have t4:=L.t4;have a4:=L.a4;have z4:=L.z4;have v4:=L.v4;have t34:=L.t34;have a34:=L.a34;have z34:=L.z34;have v34:=L.v34;have t5:=L.t5;have a5:=L.a5;have z5:=L.z5;have v5:=L.v5;have t36:=L.t36;have a36:=L.a36;have z36:=L.z36;have v36:=L.v36;have t37:=L.t37;have a37:=L.a37;have z37:=L.z37;have v37:=L.v37;have t0:=L.t0;have a0:=L.a0;have z0:=L.z0;have v0:=L.v0;have e19:∀ args w,(callFunc (ρ.f 19) args).run P w=.ok (.enter (ρ.f 19) args) w:=enters_of L.f19 (by kernel_rfl) rfl;have hemp:t.toList.isEmpty=false:=by
  rw[← decide_eq_emptyBytes];exact decide_eq_false (fun h=>hne (by rw[h];rfl))
 have hcv:=Lib.run_convert_string_bytes (P:=P) w (ρ.t 9) (ρ.t 37) (ρ.t 5) t (u := .string) L.t9 L.t37 L.t5;have hB:∀ j,j<t.size→(Lib.bytesWorld w (ρ.t 5) t).cell? ⟨w.heap.size,j,none⟩=some (.int .u8 (t.data.toList.getD j 0).toNat):=fun j hj=>Lib.bytesWorld_cell w (ρ.t 5) t j hj;obtain⟨W1,hW1⟩:∃ W1,W1=Lib.bytesWorld w (ρ.t 5) t:=⟨_,rfl⟩;rw[← hW1]at hcv hB ⊢;clear hW1;obtain⟨bs,hL⟩:∃ bs,bs=t.data.toList:=⟨_,rfl⟩;have hLn:bs.length=t.size:=by rw[hL,Lib.size_eq]
 rw[← hL]at hB ⊢;clear hL;have hmv:IntKind.u64.wrap (IntKind.u64.wrap 9223372036854775808-1)=9223372036854775807:=by
  rw[IntKind.wrap_u64,IntKind.wrap_u64];decide
 go_enter L.f16,BodyPu.n16_ntmps ρ
 go_wp2
 go_loop [12,13,101] (fun vu vn vi=>∃(k acc:Nat)(a:Int),vu=.bool false∧vn=.int .u64 a∧vi=.int .i64 k∧k≤t.size∧Hid (a=(acc:Int)∧acc≤9223372036854775807∧Lib.parseUintM 9223372036854775807 0 bs=Lib.parseUintM 9223372036854775807 acc (bs.drop k)))
  (fun _ _ vi=>t.size-(intOf vi).toNat)
 case atStart=>exact⟨0,0,0,rfl,rfl,rfl,by omega,rfl,by omega,rfl⟩
 case round =>
  obtain⟨k,acc,a,rfl,rfl,rfl,hk,hh⟩:=hrel;obtain⟨ha,hacc,hdec⟩:=hh.out;clear hh;have a0:0≤a:=by omega
  have a1:a≤9223372036854775807:=by omega
  by_cases hkn:k<t.size
  · have hc:=hB k hkn;have hdrop:bs.drop k=bs[k]'(by omega)::bs.drop (k+1):=List.drop_eq_getElem_cons (by omega);have hget:bs.getD k 0=bs[k]'(by omega):=by simp[List.getD,List.getElem?_eq_getElem (show k<bs.length by omega)]
    rw[hdrop]at hdec;rw[hget]at hc;generalize bs[k]'(by omega)=c at hc hdec;have hc256:c.toNat<256:=c.toNat_lt;clear hB hdrop hget;by_cases hdig:48≤c.toNat∧c.toNat≤57
    · obtain⟨hd0,hd1⟩:=hdig;by_cases hcut:1844674407370955162≤acc
      · have hF:Lib.parseUintM 9223372036854775807 acc (c::bs.drop (k+1))=.range:=by simp[Lib.parseUintM,hd0,hd1,hcut]
        rw[hF]at hdec;have icut:1844674407370955162≤a:=by omega
        clear hcut hacc hF ha
        go_wp2
        go_ret2
        exact⟨rfl,rfl⟩
      by_cases hov2:18446744073709551616≤acc*10+(c.toNat-48)
      · have hov:9223372036854775807<acc*10+(c.toNat-48):=by omega
        have hF:Lib.parseUintM 9223372036854775807 acc (c::bs.drop (k+1))=.range:=by simp[Lib.parseUintM,hd0,hd1,hcut,hov]
        rw[hF]at hdec;have icut:a<1844674407370955162:=by omega
        have iov:18446744073709551616≤a*10+((c.toNat:Int)-48):=by omega
        have hwr:IntKind.u64.wrap (a*10+((c.toNat:Int)-48))=a*10+((c.toNat:Int)-48)-18446744073709551616:=by
         rw[IntKind.wrap_u64];omega
        clear hcut hacc hF hov hov2 ha
        go_wp2
        go_ret2
        exact⟨rfl,rfl⟩
      by_cases hov:9223372036854775807<acc*10+(c.toNat-48)
      ·
       have hF:Lib.parseUintM 9223372036854775807 acc (c::bs.drop (k+1))=.range:=by simp[Lib.parseUintM,hd0,hd1,hcut,hov]
       rw[hF]at hdec;have iov:9223372036854775807<a*10+((c.toNat:Int)-48):=by omega
       have iov2:a*10+((c.toNat:Int)-48)<18446744073709551616:=by omega
       have icut:a<1844674407370955162:=by omega
       clear hcut hacc hF hov hov2 ha
       go_wp2
       go_ret2
       exact⟨rfl,rfl⟩
      · have hF:Lib.parseUintM 9223372036854775807 acc (c::bs.drop (k+1))=Lib.parseUintM 9223372036854775807 (acc*10+(c.toNat-48)) (bs.drop (k+1)):=by simp[Lib.parseUintM,hd0,hd1,hcut,hov]
        have HN:Hid (a*10+((c.toNat:Int)-48)=((acc*10+(c.toNat-48):Nat):Int)∧acc*10+(c.toNat-48)≤9223372036854775807∧Lib.parseUintM 9223372036854775807 0 bs=Lib.parseUintM 9223372036854775807 (acc*10+(c.toNat-48)) (bs.drop (k+1))):=Lib.hid ⟨by omega,by omega,hdec.trans hF⟩;have iov:a*10+((c.toNat:Int)-48)≤9223372036854775807:=by omega
        have icut:a<1844674407370955162:=by omega
        clear hcut hacc hF hov hov2 hdec ha
        go_wp2
        refine⟨⟨k+1,acc*10+(c.toNat-48),a*10+((c.toNat:Int)-48),rfl,(by first|rfl|(congr 1;omega)),(by first|rfl|(congr 1;omega)),by omega,HN⟩,by simp[intOf];omega⟩
    ·
     have hF:Lib.parseUintM 9223372036854775807 acc (c::bs.drop (k+1))=Lib.NumEnd.syntax:=by simp[Lib.parseUintM,hdig]
     rw[hF]at hdec;clear hacc hF ha;have hv0:=bits_lo_u8 .or (c.toNat:Int) 32;have hv1:=bits_hi_u8 .or (c.toNat:Int) 32;have hu0:=bits_lo_u8 .or 95 32;have hu1:=bits_hi_u8 .or 95 32
     go_wp2_with (go_at_fn (ρ.f 19);refine (AnyPu.internal_strconv_lower { L with } _ _).mono ?_;rintro e w' ⟨rfl,rfl⟩)
     all_goals go_ret2
     all_goals first|exact⟨rfl,rfl⟩|exact⟨by rw[hdec];rfl,rfl⟩
  ·
   have hkk:k=t.size:=by omega
   subst hkk;have hF:Lib.parseUintM 9223372036854775807 acc (bs.drop t.size)=.ok acc:=by rw[List.drop_eq_nil_of_le (by omega)];rfl
   rw[hF]at hdec;subst ha;clear hacc hF a0 a1
   go_wp2
   go_ret2
   exact⟨rfl,rfl⟩
theorem AnyPu.internal_strconv_ParseUint_10_at63(L:LaysPu.n16 P ρ)(t:ByteArray)(hmax:t.size≤9223372036854775806)(w:World) :
 Calls P (ρ.f 16) #[.string t,.int .i64 10,.int .i64 63] w fun e w'=>e=.returned (Lib.uintTupleM (ρ.t 34) 9223372036854775807 (Lib.parseUintB 63 t.data.toList))∧(w'=w∨w'=Lib.bytesWorld w (ρ.t 5) t):=by
 have eM:(2:Nat) ^ 63-1=9223372036854775807:=by decide
 by_cases h0:t.size=0
 · have ht:t=⟨#[]⟩:=by
    apply ByteArray.ext;exact Array.eq_empty_of_size_eq_zero h0
   subst ht;exact(AnyPu.internal_strconv_ParseUint_empty { L with } 10 63 w).mono fun e w' ⟨he,hw⟩=>⟨he,Or.inl hw⟩
 · have hne:t.data.toList≠[]:=fun h=>h0 (by rw[Lib.size_eq,h];rfl);refine (AnyPu.internal_strconv_ParseUint_10_b63 { L with } t h0 hmax w).mono fun e w' ⟨he,hw⟩=>⟨?_,Or.inr hw⟩;rw[he,Lib.parseUintB,if_neg hne,eM]
set_option maxHeartbeats 4000000 in
set_option maxRecDepth 100000 in
theorem Any.strconv_ParseUint_10_at63_ok(L:LaysPu.n14 P ρ)(s:ByteArray)(hmax:s.size≤9223372036854775806)(u:Nat)(h:Lib.parseUintB 63 s.data.toList=.ok u)(w:World) :
 Calls P (ρ.f 14) #[.string s,.int .i64 10,.int .i64 63] w fun e w'=>e=.returned (.tuple #[.int .u64 u,.nilIface])∧(w'=w∨w'=Lib.bytesWorld w (ρ.t 5) s):=by
 have mixed:=L.mixed;have t9:=L.t9;have a9:=L.a9;have z9:=L.z9;have v9:=L.v9;have t3:=L.t3;have a3:=L.a3;have z3:=L.z3;have v3:=L.v3;have t22:=L.t22;have a22:=L.a22;have z22:=L.z22;have v22:=L.v22;have t24:=L.t24;have a24:=L.a24;have z24:=L.z24;have v24:=L.v24;have t25:=L.t25;have a25:=L.a25;have z25:=L.z25;have v25:=L.v25;have t4:=L.t4;have a4:=L.a4;have z4:=L.z4;have v4:=L.v4;have e16:∀ args w,(callFunc (ρ.f 16) args).run P w=.ok (.enter (ρ.f 16) args) w:=enters_of L.f16 (by kernel_rfl) rfl;have hI:=AnyPu.internal_strconv_ParseUint_10_at63 { L with } s hmax w;rw[h]at hI;have hI:Calls P (ρ.f 16) #[.string s,.int .i64 10,.int .i64 63] w fun e w'=>e=.returned (.tuple #[.int .u64 u,.nilIface])∧(w'=w∨w'=Lib.bytesWorld w (ρ.t 5) s):=hI;clear h
 go_enter L.f14,BodyPu.n14_ntmps ρ
 go_wp2_with (go_at_fn (ρ.f 16);refine hI.mono ?_;rintro e W1 ⟨rfl,hW⟩)
 go_wp2
 go_ret2
 exact⟨rfl,hW⟩
set_option maxHeartbeats 4000000 in
set_option maxRecDepth 100000 in
theorem Any.strconv_ParseUint_10_at63_syntax(L:LaysPu.n14 P ρ)(s:ByteArray)(hlim:s.size≤281474976710656)(h:Lib.parseUintB 63 s.data.toList=Lib.NumEnd.syntax)(ev:Value)(w:World)(hv:w.cell? ⟨(ρ.g 0),0,none⟩=some ev)(hev:ev=.nilIface∨∃ te pe,ev=.iface te pe) :
 Calls P (ρ.f 14) #[.string s,.int .i64 10,.int .i64 63] w fun e w'=>∃ N,e=.returned (.tuple #[.int .u64 0,.iface (ρ.t 39) (.pointer (some ⟨N,0,none⟩))])∧w.heap.size≤N∧w'.heap[N]?=some (.cells #[.string ⟨#[80,97,114,115,101,85,105,110,116]⟩,.string s,ev] (ρ.t 44) (0,0))∧Below w.heap.size w w':=by
 have mixed:=L.mixed;have t9:=L.t9;have a9:=L.a9;have z9:=L.z9;have v9:=L.v9;have t3:=L.t3;have a3:=L.a3;have z3:=L.z3;have v3:=L.v3;have t22:=L.t22;have a22:=L.a22;have z22:=L.z22;have v22:=L.v22;have t24:=L.t24;have a24:=L.a24;have z24:=L.z24;have v24:=L.v24;have t25:=L.t25;have a25:=L.a25;have z25:=L.z25;have v25:=L.v25;have t4:=L.t4;have a4:=L.a4;have z4:=L.z4;have v4:=L.v4;have e16:∀ args w,(callFunc (ρ.f 16) args).run P w=.ok (.enter (ρ.f 16) args) w:=enters_of L.f16 (by kernel_rfl) rfl;have e17:∀ args w,(callFunc (ρ.f 17) args).run P w=.ok (.enter (ρ.f 17) args) w:=enters_of L.f17 (by kernel_rfl) rfl;have hG:(ρ.g 0)<w.heap.size:=Lib.lt_of_cell hv;have hI:=AnyPu.internal_strconv_ParseUint_10_at63 { L with } s (by omega) w;rw[h]at hI;have hI:Calls P (ρ.f 16) #[.string s,.int .i64 10,.int .i64 63] w fun e w'=>e=.returned (.tuple #[.int .u64 0,.iface (ρ.t 34) (.int .i64 2)])∧(w'=w∨w'=Lib.bytesWorld w (ρ.t 5) s):=hI;clear h
 go_enter L.f14,BodyPu.n14_ntmps ρ
 go_wp2_with (go_at_fn (ρ.f 16);refine hI.mono ?_)
 rintro e W1 ⟨rfl,hW⟩;have hb1:Below w.heap.size w W1:=by
  rcases hW with rfl|rfl
  · exact Below.refl _ _
  · exact Lib.bytesWorld_below _ _ _
 have hv1:W1.cell? ⟨(ρ.g 0),0,none⟩=some ev:=(hb1.cell (show (⟨(ρ.g 0),0,none⟩:Addr).block<w.heap.size from hG)).trans hv;clear hW
 go_wp2_with (go_at_fn (ρ.f 17);refine (AnyPu.strconv_toError_syntax { L with } ⟨#[80,97,114,115,101,85,105,110,116]⟩ s 10 63 ev _ hlim ?_ hev).mono ?_)
 · exact hv1
 rintro e W2 ⟨N,rfl,h1,h2,h3⟩
 go_wp2
 go_ret2
 exact⟨N,rfl,Nat.le_trans hb1.size h1,h2,hb1.trans (h3.mono hb1.size)⟩
set_option maxHeartbeats 4000000 in
set_option maxRecDepth 100000 in
theorem Any.strconv_ParseUint_10_at63_range(L:LaysPu.n14 P ρ)(s:ByteArray)(hlim:s.size≤281474976710656)(h:Lib.parseUintB 63 s.data.toList=.range)(ev:Value)(w:World)(hv:w.cell? ⟨(ρ.g 1),0,none⟩=some ev)(hev:ev=.nilIface∨∃ te pe,ev=.iface te pe) :
 Calls P (ρ.f 14) #[.string s,.int .i64 10,.int .i64 63] w fun e w'=>∃ N,e=.returned (.tuple #[.int .u64 9223372036854775807,.iface (ρ.t 39) (.pointer (some ⟨N,0,none⟩))])∧w.heap.size≤N∧w'.heap[N]?=some (.cells #[.string ⟨#[80,97,114,115,101,85,105,110,116]⟩,.string s,ev] (ρ.t 44) (0,0))∧Below w.heap.size w w':=by
 have mixed:=L.mixed;have t9:=L.t9;have a9:=L.a9;have z9:=L.z9;have v9:=L.v9;have t3:=L.t3;have a3:=L.a3;have z3:=L.z3;have v3:=L.v3;have t22:=L.t22;have a22:=L.a22;have z22:=L.z22;have v22:=L.v22;have t24:=L.t24;have a24:=L.a24;have z24:=L.z24;have v24:=L.v24;have t25:=L.t25;have a25:=L.a25;have z25:=L.z25;have v25:=L.v25;have t4:=L.t4;have a4:=L.a4;have z4:=L.z4;have v4:=L.v4;have e16:∀ args w,(callFunc (ρ.f 16) args).run P w=.ok (.enter (ρ.f 16) args) w:=enters_of L.f16 (by kernel_rfl) rfl;have e17:∀ args w,(callFunc (ρ.f 17) args).run P w=.ok (.enter (ρ.f 17) args) w:=enters_of L.f17 (by kernel_rfl) rfl;have hG:(ρ.g 1)<w.heap.size:=Lib.lt_of_cell hv;have hI:=AnyPu.internal_strconv_ParseUint_10_at63 { L with } s (by omega) w;rw[h]at hI;have hI:Calls P (ρ.f 16) #[.string s,.int .i64 10,.int .i64 63] w fun e w'=>e=.returned (.tuple #[.int .u64 9223372036854775807,.iface (ρ.t 34) (.int .i64 1)])∧(w'=w∨w'=Lib.bytesWorld w (ρ.t 5) s):=hI;clear h
 go_enter L.f14,BodyPu.n14_ntmps ρ
 go_wp2_with (go_at_fn (ρ.f 16);refine hI.mono ?_)
 rintro e W1 ⟨rfl,hW⟩;have hb1:Below w.heap.size w W1:=by
  rcases hW with rfl|rfl
  · exact Below.refl _ _
  · exact Lib.bytesWorld_below _ _ _
 have hv1:W1.cell? ⟨(ρ.g 1),0,none⟩=some ev:=(hb1.cell (show (⟨(ρ.g 1),0,none⟩:Addr).block<w.heap.size from hG)).trans hv;clear hW
 go_wp2_with (go_at_fn (ρ.f 17);refine (AnyPu.strconv_toError_range { L with } ⟨#[80,97,114,115,101,85,105,110,116]⟩ s 10 63 ev _ hlim ?_ hev).mono ?_)
 · exact hv1
 rintro e W2 ⟨N,rfl,h1,h2,h3⟩
 go_wp2
 go_ret2
 exact⟨N,rfl,Nat.le_trans hb1.size h1,h2,hb1.trans (h3.mono hb1.size)⟩
end
end Go.Proofs
namespace Go.Proofs.Zi
section
open Go Go.Zam Go.Proofs
theorem tcf92:Qk Tryz.prog [7] Tryz.f92=some (Qfn 112 113 114 199 85):=by kernel_rfl
theorem h92:HasT Tryz.prog [7] 92 (Qfn 112 113 114 199 85):=⟨_,Tryz.func92,tcf92⟩
theorem tcf104:Qk Tryz.prog [] Tryz.f104=some (Qc4 132 131):=by kernel_rfl
theorem h104:Has Tryz.prog 104 (Qc4 132 131):=⟨_,Tryz.func104,tcf104⟩
theorem tcf71:Qk Tryz.prog [] Tryz.f71=some (Z5 103 104 105):=by kernel_rfl
theorem h71:Has Tryz.prog 71 (Z5 103 104 105):=⟨_,Tryz.func71,tcf71⟩
theorem tcf112:Qk Tryz.prog [] Tryz.f112=some (Qg6 137):=by kernel_rfl
theorem h112:Has Tryz.prog 112 (Qg6 137):=⟨_,Tryz.func112,tcf112⟩
theorem tcf113:Qk Tryz.prog [] Tryz.f113=some (Qex 138 139 140 141):=by kernel_rfl
theorem h113:Has Tryz.prog 113 (Qex 138 139 140 141):=⟨_,Tryz.func113,tcf113⟩
theorem tcf114:Qk Tryz.prog [] Tryz.f114=some (Qew 138 103 142 104 105 143 144 145 85):=by kernel_rfl
theorem h114:Has Tryz.prog 114 (Qew 138 103 142 104 105 143 144 145 85):=⟨_,Tryz.func114,tcf114⟩
theorem tcf131:Qk Tryz.prog [] Tryz.f131=some (Qfo 168):=by kernel_rfl
theorem h131:Has Tryz.prog 131 (Qfo 168):=⟨_,Tryz.func131,tcf131⟩
theorem tcf168:Qk Tryz.prog [] Tryz.f168=some (Qdv):=by kernel_rfl
theorem h168:Has Tryz.prog 168 (Qdv):=⟨_,Tryz.func168,tcf168⟩
theorem tcf132:Qk Tryz.prog [] Tryz.f132=some (Qc3):=by kernel_rfl
theorem h132:Has Tryz.prog 132 (Qc3):=⟨_,Tryz.func132,tcf132⟩
theorem tcf103:Qk Tryz.prog [] Tryz.f103=some (Qbf):=by kernel_rfl
theorem h103:Has Tryz.prog 103 (Qbf):=⟨_,Tryz.func103,tcf103⟩
theorem tcf105:Qk Tryz.prog [] Tryz.f105=some (Qcl):=by kernel_rfl
theorem h105:Has Tryz.prog 105 (Qcl):=⟨_,Tryz.func105,tcf105⟩
theorem tcf138:Qk Tryz.prog [] Tryz.f138=some (Qbc):=by kernel_rfl
theorem h138:Has Tryz.prog 138 (Qbc):=⟨_,Tryz.func138,tcf138⟩
theorem tcf139:Qk Tryz.prog [] Tryz.f139=some (Qc5):=by kernel_rfl
theorem h139:Has Tryz.prog 139 (Qc5):=⟨_,Tryz.func139,tcf139⟩
theorem tcf140:Qk Tryz.prog [] Tryz.f140=some (Qey):=by kernel_rfl
theorem h140:Has Tryz.prog 140 (Qey):=⟨_,Tryz.func140,tcf140⟩
theorem tcf141:Qk Tryz.prog [] Tryz.f141=some (Qev):=by kernel_rfl
theorem h141:Has Tryz.prog 141 (Qev):=⟨_,Tryz.func141,tcf141⟩
theorem tcf142:Qk Tryz.prog [] Tryz.f142=some (Qet 138 190):=by kernel_rfl
theorem h142:Has Tryz.prog 142 (Qet 138 190):=⟨_,Tryz.func142,tcf142⟩
theorem tcf190:Qk Tryz.prog [] Tryz.f190=some (Qc7 103 105):=by kernel_rfl
theorem h190:Has Tryz.prog 190 (Qc7 103 105):=⟨_,Tryz.func190,tcf190⟩
theorem tcf144:Qk Tryz.prog [] Tryz.f144=some (Qg4 192):=by kernel_rfl
theorem h144:Has Tryz.prog 144 (Qg4 192):=⟨_,Tryz.func144,tcf144⟩
theorem tcf145:Qk Tryz.prog [] Tryz.f145=some (Qeu 193 194):=by kernel_rfl
theorem h145:Has Tryz.prog 145 (Qeu 193 194):=⟨_,Tryz.func145,tcf145⟩
theorem tcf192:Qk Tryz.prog [4] Tryz.f192=some (V4 217 218 219 301 5):=by kernel_rfl
theorem h192:HasT Tryz.prog [4] 192 (V4 217 218 219 301 5):=⟨_,Tryz.func192,tcf192⟩
theorem tcf193:Qk Tryz.prog [] Tryz.f193=some (Qbu):=by kernel_rfl
theorem h193:Has Tryz.prog 193 (Qbu):=⟨_,Tryz.func193,tcf193⟩
theorem tcf84:Qk Tryz.prog [] Tryz.f84=some (Qjz):=by kernel_rfl
theorem tcf48:Qk Tryz.prog [] Tryz.f48=some (Qdg 84 85 86):=by kernel_rfl
theorem tcf85:Qk Tryz.prog [] Tryz.f85=some (Qcl):=by kernel_rfl
theorem h85:Has Tryz.prog 85 (Qcl):=⟨_,Tryz.func85,tcf85⟩
theorem tcf86:Qk Tryz.prog [] Tryz.f86=some (Qbf):=by kernel_rfl
theorem h86:Has Tryz.prog 86 (Qbf):=⟨_,Tryz.func86,tcf86⟩
end
section
open Go Go.Zam Go.Proofs Go.Shelf
def Qq7:Ren:=⟨fun n=>match n with|240=>239|276=>249|169=>219|n=>n,fun t=>match t with|0=>0|3=>3|4=>4|5=>5|9=>9|20=>20|37=>299|70=>298|72=>301|127=>313|164=>319|n=>n,fun g=>g⟩
theorem lay240:Lays.n240 Tryz.prog Qq7 where
 mixed:=by kernel_rfl
 f240:=Tryz.func239.trans (congrArg some (by kernel_rfl))
 f276:=Tryz.func249.trans (congrArg some (by kernel_rfl))
 t0:=by kernel_rfl
 a0:=Tryz.isAgg0
 z0:=fun _=>by kernel_rfl
 v0:=Tryz.zeroValue0
 t4:=by kernel_rfl
 a4:=Tryz.isAgg4
 z4:=fun _=>by kernel_rfl
 v4:=Tryz.zeroValue4
 t9:=by kernel_rfl
 a9:=Tryz.isAgg9
 z9:=fun _=>by kernel_rfl
 v9:=Tryz.zeroValue9
 t20:=by kernel_rfl
 a20:=Tryz.isAgg20
 z20:=fun _=>by kernel_rfl
 v20:=Tryz.zeroValue20
 t70:=by kernel_rfl
 a70:=Tryz.isAgg298
 z70:=fun _=>by kernel_rfl
 v70:=Tryz.zeroValue298
 t72:=by kernel_rfl
 a72:=Tryz.isAgg301
 z72:=fun _=>by kernel_rfl
 v72:=Tryz.zeroValue301
 t164:=by kernel_rfl
 a164:=Tryz.isAgg319
 z164:=fun _=>by kernel_rfl
 v164:=Tryz.zeroValue319
theorem lay169:Lays.n169 Tryz.prog Qq7 where
 mixed:=by kernel_rfl
 f169:=Tryz.func219.trans (congrArg some (by kernel_rfl))
 t0:=by kernel_rfl
 a0:=Tryz.isAgg0
 z0:=fun _=>by kernel_rfl
 v0:=Tryz.zeroValue0
 t3:=by kernel_rfl
 a3:=Tryz.isAgg3
 z3:=fun _=>by kernel_rfl
 v3:=Tryz.zeroValue3
 t9:=by kernel_rfl
 a9:=Tryz.isAgg9
 z9:=fun _=>by kernel_rfl
 v9:=Tryz.zeroValue9
 t37:=by kernel_rfl
 a37:=Tryz.isAgg299
 z37:=fun _=>by kernel_rfl
 v37:=Tryz.zeroValue299
 t70:=by kernel_rfl
 a70:=Tryz.isAgg298
 z70:=fun _=>by kernel_rfl
 v70:=Tryz.zeroValue298
 t72:=by kernel_rfl
 a72:=Tryz.isAgg301
 z72:=fun _=>by kernel_rfl
 v72:=Tryz.zeroValue301
 t127:=by kernel_rfl
 a127:=Tryz.isAgg313
 z127:=fun _=>by kernel_rfl
 v127:=Tryz.zeroValue313
theorem Qpn:Builder.Extra Tryz.prog Qq7 where
 sizeBuilder:=by kernel_rfl
 liesBuilder:=by kernel_rfl
 t5:=by kernel_rfl
 a5:=Tryz.isAgg5
 z5:=fun _=>by kernel_rfl
 v5:=Tryz.zeroValue5
 infoByte:=by kernel_rfl
 cellsByte:=by kernel_rfl
 sizeByte:=by kernel_rfl
 neB5:=by decide
theorem Qpj{H:Hp}{i:Nat}{x a:A}(hi:H[i]?=some (.box 301 [a,x]))(ha:a=.d .nilp∨a=.ptr i 0) :
 Qc Tryz.prog 239 [.ptr i 0] H (fun r H'=>r=.tup []∧H'=H.set i (.box 301 [.ptr i 0,x])):=Qji lay240 Qpn.toX72 hi ha
theorem Qua{H:Hp}{i t:Nat}{a:A}{s:List UInt8}(hi:H[i]?=some (.box 301 [a,.osl true 1 (W5 s) t]))(ht:H[t]?=some (.tok s.length 1 5))(hlen:s.length≤4611686018427387904) :
 Qc Tryz.prog 219 [.ptr i 0] H (fun r H'=>r=YS s∧H'=H):=Qm2 lay169 Qpn hi ht hlen
end
section
open Go Go.Zam Go.Proofs
open Go.RowKit (Below)
theorem Qws:Qsj Tryz.prog 217:=fun s c H=>by
 refine leaf (args:=[.str s,.int .u8 c.toNat]) (x := .int .i64 (Lib.indexByte s c)) (fun w σ vs _ hl hv => ?_) H
 match vs,hl with
 | [v0,v1],_ =>
 have e0:=(hv 0 v0 _ rfl rfl).str_inv;have e1:=(hv 1 v1 _ rfl rfl).int_inv;subst e0;subst e1;refine (Tryz.strings_IndexByte ⟨s.toArray⟩ c.toNat w).mono ?_;rintro e w' ⟨rfl,rfl⟩;refine⟨_,rfl,Below.refl _ _,fun σ => ?_⟩;have:(Int.toNat (c.toNat:Int)).toUInt8=c:=by simp
 rw[this];exact .int _ _
theorem Qux:Qpz Tryz.prog 194:=fun s p H=>by
 refine leaf (args:=[.str s,.str p]) (x := .bool (p.isPrefixOf s)) (fun w σ vs _ hl hv => ?_) H
 match vs,hl with
 | [v0,v1],_ =>
 have e0:=(hv 0 v0 _ rfl rfl).str_inv;have e1:=(hv 1 v1 _ rfl rfl).str_inv;subst e0;subst e1;refine (Tryz.strings_HasPrefix ⟨s.toArray⟩ ⟨p.toArray⟩ w).mono ?_;rintro e w' ⟨rfl,rfl⟩;exact⟨_,rfl,Below.refl _ _,fun σ => .bool _⟩
theorem Qvr{H0:Hp}(hG:Qcr 0 1 2 3 H0):Qp2 Tryz.prog H0 137:=fun s H hp=>by
 refine Qxg (args:=[.str s]) hG (fun w σ vs hT hl hv => ?_) H hp
 match vs,hl with
 | [v0],_ =>
 have e0:=(hv 0 v0 _ rfl rfl).str_inv;subst e0;refine (Tryz.utf8_DecodeRuneInString ⟨s.toArray⟩ w hT.1).mono ?_;rintro e w' ⟨rfl,hb⟩;refine⟨_,rfl,hb,fun κ => ?_⟩;rw[Qpi];refine VR.tup [_,_] [_,_] rfl fun i v a hi ha => ?_
 match i with
 | 0=>cases hi;cases ha;exact .d (.int _ _)
 | 1=>cases hi;cases ha;exact .d (.int _ _)
 | i+2=>cases hi
theorem Qoj(s:ByteArray)(hlim:s.size≤1048576)(w:World)(h0:∃ te pe,w.cell? ⟨2,0,none⟩=some (.iface te pe))(h1:∃ te pe,w.cell? ⟨3,0,none⟩=some (.iface te pe)) :
 Calls Tryz.prog 143 #[.string s] w fun e w'=>e=.returned (.int .i64 (if Qch s.data.toList then 0 else 23))∧Below w.heap.size w w':=by
 obtain⟨t0,p0,h0⟩:=h0;obtain⟨t1,p1,h1⟩:=h1;rcases h:Lib.parseUintB 63 s.data.toList with u|_|_
 · have hr:Qch s.data.toList=true:=by simp only[Qch,h]
   rw[hr]
   go_enter Tryz.func143,Tryz.ntmps143
   go_wp2_with (go_at_call 191;refine (Any.strconv_ParseUint_10_at63_ok Tryz.laysPu14 s (by omega) u h _).mono ?_;rintro e w' ⟨rfl,hw⟩)
   go_wp2
   go_ret
   refine⟨by first|rfl|(congr 2;omega),?_⟩;rcases hw with rfl|rfl
   · exact Below.refl _ _
   · exact Lib.bytesWorld_below _ _ _
 · have hr:Qch s.data.toList=false:=by simp only[Qch,h]
   rw[hr]
   go_enter Tryz.func143,Tryz.ntmps143
   go_wp2_with (go_at_call 191;refine (Any.strconv_ParseUint_10_at63_syntax Tryz.laysPu14 s (by omega) h (.iface t0 p0) _ ?_ (.inr ⟨_,_,rfl⟩)).mono ?_)
   · exact h0
   rintro e W1 ⟨N,rfl,-,-,hb⟩
   go_wp2
   go_ret
   exact⟨rfl,hb⟩
 · have hr:Qch s.data.toList=false:=by simp only[Qch,h]
   rw[hr]
   go_enter Tryz.func143,Tryz.ntmps143
   go_wp2_with (go_at_call 191;refine (Any.strconv_ParseUint_10_at63_range Tryz.laysPu14 s (by omega) h (.iface t1 p1) _ ?_ (.inr ⟨_,_,rfl⟩)).mono ?_)
   · exact h1
   rintro e W1 ⟨N,rfl,-,-,hb⟩
   go_wp2
   go_ret
   exact⟨rfl,hb⟩
theorem Qu3{H0:Hp}(hG:Qcr 0 1 2 3 H0):Qxk Tryz.prog H0 143:=fun s H hp hl=>by
 refine Qxg (args:=[.str s]) (x := .d _) hG (fun w σ vs hT hl' hv => ?_) H hp
 match vs,hl' with
 | [v0],_ =>
 have e0:=(hv 0 v0 _ rfl rfl).str_inv;subst e0;refine (Qoj ⟨s.toArray⟩ (by simpa[ByteArray.size] using hl) w hT.2.1 hT.2.2).mono ?_;rintro e w' ⟨rfl,hb⟩;exact⟨_,rfl,hb,fun κ => .d (.int _ _)⟩
theorem cfWB:Qk Tryz.prog [] Tryz.f218=some (Qcj 239 5):=by kernel_rfl
theorem Qys:Qv3 Tryz.prog 239 301:=fun H i x a hi ha=>Qpj hi ha
theorem Qt3:Qpw Tryz.prog 218 301:=fun H i t a bs c=>Qjg Tryz.func218 cfWB Qys H i t a bs c
theorem Qsv:Qpx Tryz.prog 219 301:=fun H i t a s hi ht hl=>Qua hi ht (by omega)
theorem Qso(s:Bs)(H:Hp)(hs:s.length≤1048576):Qc Tryz.prog 192 [YS s] H (fun r H'=>r=unqR (unqV s)∧H'=H):=h192.unquote Qws Qt3 Qsv s hs H
theorem Qkt:Va Tryz.prog 103 Wd:=h103.letter
theorem Qnm:Va Tryz.prog 105 Wb:=h105.digit
theorem Qrx(s:Bs)(H:Hp):Qc Tryz.prog 104 [YS s] H (fun r H'=>r=YB (decide (s ∈ Yu))∧H'=H):=h104.isKey h132 h131 h168 s H
theorem Qve(s:Bs)(H:Hp):Qc Tryz.prog 71 [YS s] H (fun r H'=>r=YB (Y0 s)∧H'=H):=h71.isName Qkt Qnm Qrx s H
theorem Qxw{H:Hp}{i:Nat}{ts:TypeId}{text:Bs}{n:Nat}(hi:H[i]?=some (scan ts text n))(hn:n≤text.length)(hl:text.length≤1048576) :
 Qc Tryz.prog 142 [.ptr i 0] H (fun r H'=>r=YS ((text.drop n).take (Zam.runN Zam.wordB (text.drop n)))∧H'=H.set i (scan ts text (n+Zam.runN Zam.wordB (text.drop n)))) :=
 h142.word h138 (by kernel_rfl) (h190.wordB Qkt Qnm) hi hn (by omega)
theorem Qye{H:Hp}{i:Nat}{text:Bs}{n:Nat}(hi:H[i]?=some (scan 199 text n))(hn:n≤text.length)(hl:text.length≤1048576) :
 Qc Tryz.prog 113 [.ptr i 0] H (fun r H'=>r=YS ((text.drop n).take (Qn false (text.drop n)))∧H'=H.set i (scan 199 text (n+Qn false (text.drop n)))) :=
 h113.lead h138 (by kernel_rfl) h139.blank (by kernel_rfl) h140.hash (by kernel_rfl) h141.noNl hi hn (by omega)
theorem Qyb{H0:Hp}(hG:Qcr 0 1 2 3 H0){H:Hp}{i:Nat}{text:Bs}{n:Nat}(hH:Pre0 H0 H)(h0i:H0.length≤i)(hi:H[i]?=some (scan 199 text n))(hn:n≤text.length)(hl:text.length≤1048576) :
 Qc Tryz.prog 114 [.ptr i 0] H (Qmw H i 199 text n (text.drop n) (tokN (text.drop n))) :=
 h114.next h138 (by kernel_rfl) Qkt (by kernel_rfl) Qnm Qxw Qrx (Qu3 hG) (fun hi hn hl=>h144.str Qso hi hn hl) (fun hi hn hl=>h145.sign h193 Qux hi hn (by omega)) hH h0i hi hn hl
theorem badOk{H0:Hp}(hG:Qcr 0 1 2 3 H0)(s:Bs)(H:Hp)(hs:s.length≤1048576)(hH:Pre0 H0 H):Qc Tryz.prog 112 [YS s] H (fun r H'=>r=YI (badS s)∧H'=H):=h112.bad (Qvr hG) s hs H hH
theorem lexOk{H0:Hp}(hG:Qcr 0 1 2 3 H0)(s:Bs)(hs:s.length≤1048576)(H:Hp)(hH:Pre0 H0 H) :
 Qc Tryz.prog 92 [YS s] H (fun r H'=>r=.tup [YL true 4 ((lexS s).1.map Qt),YI (lexS s).2.1,YI (lexS s).2.2]∧H'=H) :=
 h92.lex (badOk hG) Qye (Qyb hG) s hs H hH
theorem Qod:Va Tryz.prog 85 Wb:=h85.digit
theorem Qmd:Va Tryz.prog 86 Wd:=h86.letter
theorem Qob(s:Bs)(H:Hp):Qc Tryz.prog 84 [YS s] H (fun r H'=>r=YB (decide (s ∈ Yu))∧H'=H):=Qos Tryz.func84 tcf84 s H
theorem Qs1(s:Bs)(H:Hp):Qc Tryz.prog 48 [YS s] H (fun r H'=>r=YB (Y0 s)∧H'=H):=Qnb Tryz.func48 tcf48 Qob Qod Qmd s H
end
section
open Go Go.Zam Go.Proofs
theorem pcf147:Qk Tryz.prog [] Tryz.f147=some (Qlb 85):=by kernel_rfl
theorem ph147:Has Tryz.prog 147 (Qlb 85):=⟨_,Tryz.func147,pcf147⟩
theorem pcf152:Qk Tryz.prog [] Tryz.f152=some (Qfu):=by kernel_rfl
theorem ph152:Has Tryz.prog 152 (Qfu):=⟨_,Tryz.func152,pcf152⟩
theorem pcf148:Qk Tryz.prog [] Tryz.f148=some (Qou 147 85):=by kernel_rfl
theorem ph148:Has Tryz.prog 148 (Qou 147 85):=⟨_,Tryz.func148,pcf148⟩
theorem pcf221:Qk Tryz.prog [] Tryz.f221=some (Qft 148):=by kernel_rfl
theorem ph221:Has Tryz.prog 221 (Qft 148):=⟨_,Tryz.func221,pcf221⟩
theorem pcf195:Qk Tryz.prog [] Tryz.f195=some (Qhi 221 152):=by kernel_rfl
theorem ph195:Has Tryz.prog 195 (Qhi 221 152):=⟨_,Tryz.func195,pcf195⟩
theorem pcf196:Qk Tryz.prog [] Tryz.f196=some (Qhg 147 152 85):=by kernel_rfl
theorem ph196:Has Tryz.prog 196 (Qhg 147 152 85):=⟨_,Tryz.func196,pcf196⟩
theorem pcf146:Qk Tryz.prog [10] Tryz.f146=some (Qhn 35):=by kernel_rfl
theorem ph146:HasT Tryz.prog [10] 146 (Qhn 35):=⟨_,Tryz.func146,pcf146⟩
theorem pcf153:Qk Tryz.prog [] Tryz.f153=some (Qhs 35):=by kernel_rfl
theorem ph153:Has Tryz.prog 153 (Qhs 35):=⟨_,Tryz.func153,pcf153⟩
theorem pcf149:Qk Tryz.prog [] Tryz.f149=some (Qla 35):=by kernel_rfl
theorem ph149:Has Tryz.prog 149 (Qla 35):=⟨_,Tryz.func149,pcf149⟩
theorem pcf222:Qk Tryz.prog [] Tryz.f222=some (Qho 221 149 195):=by kernel_rfl
theorem ph222:Has Tryz.prog 222 (Qho 221 149 195):=⟨_,Tryz.func222,pcf222⟩
theorem pcf115:Qk Tryz.prog [] Tryz.f115=some (Qhq 146 147 148 150 149 151 152 153 35):=by kernel_rfl
theorem ph115:Has Tryz.prog 115 (Qhq 146 147 148 150 149 151 152 153 35):=⟨_,Tryz.func115,pcf115⟩
theorem pcf150:Qk Tryz.prog [] Tryz.f150=some (Qk8 146 195 196 153 149 35):=by kernel_rfl
theorem ph150:Has Tryz.prog 150 (Qk8 146 195 196 153 149 35):=⟨_,Tryz.func150,pcf150⟩
theorem pcf151:Qk Tryz.prog [] Tryz.f151=some (Qlc 146 195 196 197 198 199 149 153 35):=by kernel_rfl
theorem ph151:Has Tryz.prog 151 (Qlc 146 195 196 197 198 199 149 153 35):=⟨_,Tryz.func151,pcf151⟩
theorem pcf197:Qk Tryz.prog [] Tryz.f197=some (Qdf 146 195 223 222 153 203 35):=by kernel_rfl
theorem ph197:Has Tryz.prog 197 (Qdf 146 195 223 222 153 203 35):=⟨_,Tryz.func197,pcf197⟩
theorem pcf223:Qk Tryz.prog [] Tryz.f223=some (Qe5 146 196 198 149 153 35):=by kernel_rfl
theorem ph223:Has Tryz.prog 223 (Qe5 146 196 198 149 153 35):=⟨_,Tryz.func223,pcf223⟩
theorem pcf198:Qk Tryz.prog [] Tryz.f198=some (Qe4 221 224 35):=by kernel_rfl
theorem ph198:Has Tryz.prog 198 (Qe4 221 224 35):=⟨_,Tryz.func198,pcf198⟩
theorem pcf224:Qk Tryz.prog [] Tryz.f224=some (Qhp 146 221 240 222 195 224 149 152 153 203 35):=by kernel_rfl
theorem ph224:Has Tryz.prog 224 (Qhp 146 221 240 222 195 224 149 152 153 203 35):=⟨_,Tryz.func224,pcf224⟩
theorem pcf240:Qk Tryz.prog [] Tryz.f240=some (Qde 146 196 195 224 149 153 35):=by kernel_rfl
theorem ph240:Has Tryz.prog 240 (Qde 146 196 195 224 149 153 35):=⟨_,Tryz.func240,pcf240⟩
theorem pcf199:Qk Tryz.prog [] Tryz.f199=some (Qe7 146 195 221 225 149 153 35):=by kernel_rfl
theorem ph199:Has Tryz.prog 199 (Qe7 146 195 221 225 149 153 35):=⟨_,Tryz.func199,pcf199⟩
theorem pcf225:Qk Tryz.prog [] Tryz.f225=some (Qhk 146 221 196 198 149 195 241 199 153 242 35):=by kernel_rfl
theorem ph225:Has Tryz.prog 225 (Qhk 146 221 196 198 149 195 241 199 153 242 35):=⟨_,Tryz.func225,pcf225⟩
theorem pcf242:Qk Tryz.prog [] Tryz.f242=some (Qhl 147 85):=by kernel_rfl
theorem ph242:Has Tryz.prog 242 (Qhl 147 85):=⟨_,Tryz.func242,pcf242⟩
theorem pcf241:Qk Tryz.prog [] Tryz.f241=some (Qhr 250 221 251 35):=by kernel_rfl
theorem ph241:Has Tryz.prog 241 (Qhr 250 221 251 35):=⟨_,Tryz.func241,pcf241⟩
theorem pcf251:Qk Tryz.prog [] Tryz.f251=some (Qhh 35):=by kernel_rfl
theorem ph251:Has Tryz.prog 251 (Qhh 35):=⟨_,Tryz.func251,pcf251⟩
theorem pcf250:Qk Tryz.prog [] Tryz.f250=some (Qk9 254 221 251 35):=by kernel_rfl
theorem ph250:Has Tryz.prog 250 (Qk9 254 221 251 35):=⟨_,Tryz.func250,pcf250⟩
theorem pcf254:Qk Tryz.prog [] Tryz.f254=some (Qhj 257 221 251 35):=by kernel_rfl
theorem ph254:Has Tryz.prog 254 (Qhj 257 221 251 35):=⟨_,Tryz.func254,pcf254⟩
theorem pcf257:Qk Tryz.prog [15] Tryz.f257=some (Qhm 263 221 196 241 222 153 35):=by kernel_rfl
theorem ph257:HasT Tryz.prog [15] 257 (Qhm 263 221 196 241 222 153 35):=⟨_,Tryz.func257,pcf257⟩
theorem pcf263:Qk Tryz.prog [4000000] Tryz.f263=some (Qht 146 147 196 221 241 149 195 269 222 197 198 199 152 153 203 35 85):=by kernel_rfl
theorem ph263:HasT Tryz.prog [4000000] 263 (Qht 146 147 196 221 241 149 195 269 222 197 198 199 152 153 203 35 85):=⟨_,Tryz.func263,pcf263⟩
theorem pcf269:Qk Tryz.prog [] Tryz.f269=some (Qe6 146 196 195 241 149 153 35):=by kernel_rfl
theorem ph269:Has Tryz.prog 269 (Qe6 146 196 195 241 149 153 35):=⟨_,Tryz.func269,pcf269⟩
theorem pcf93:Qk Tryz.prog [] Tryz.f93=some (Qbe 115 116 35 205):=by kernel_rfl
theorem ph93:Has Tryz.prog 93 (Qbe 115 116 35 205):=⟨_,Tryz.func93,pcf93⟩
theorem pcf64:Qk Tryz.prog [] Tryz.f64=some (Qot 92 93 35):=by kernel_rfl
theorem ph64:Has Tryz.prog 64 (Qot 92 93 35):=⟨_,Tryz.func64,pcf64⟩
theorem pcf116:Qk Tryz.prog [] Tryz.f116=some (Qc6 116 35):=by kernel_rfl
theorem ph116:Has Tryz.prog 116 (Qc6 116 35):=⟨_,Tryz.func116,pcf116⟩
def F:PF := { now:=147,fail:=152,is:=148,took:=221,want:=195,word:=196,node:=146,done:=153,put:=149,list:=222,file:=115,use_:=150,def_:=151,params:=197,param:=223,typed:=198,kind:=224,tfield:=240,block:=199,stmt:=225,sets:=242,expr:=241,with_:=251,sum:=250,term:=254,post:=257,atom:=263,entry:=269,tn:=35,tt:=85,tp:=205,tb:=203 }
theorem has:PHas Tryz.prog F where
 now:=ph147
 fail:=ph152
 is:=ph148
 took:=ph221
 want:=ph195
 word:=ph196
 node:=ph146
 done:=ph153
 put:=ph149
 list:=ph222
 file:=ph115
 use_:=ph150
 def_:=ph151
 params:=ph197
 param:=ph223
 typed:=ph198
 kind:=ph224
 tfield:=ph240
 block:=ph199
 stmt:=ph225
 sets:=ph242
 expr:=ph241
 with_:=ph251
 sum:=ph250
 term:=ph254
 post:=ph257
 atom:=ph263
 entry:=ph269
 kParam:=by kernel_rfl
 kTField:=by kernel_rfl
 kKind:=by kernel_rfl
 kExpr:=by kernel_rfl
 kSum:=by kernel_rfl
 kTerm:=by kernel_rfl
 kPost:=by kernel_rfl
 kEntry:=by kernel_rfl
theorem Qwm(z:Bool)(L:List Tk)(hL:L.length≤1048576)(hEq:∀ i,isT L i [61]=true→kdT L i=5)(H:Hp):Qc Tryz.prog 93 [YL z 4 (L.map Qt)] H (fun r H'=>r=.tup [(Q3 L).1.v,YI (Q3 L).2.1,YI (Q3 L).2.2]∧H'=H):=Has.parse (F:=F) ph93 has ph116 hL hEq H
theorem ofOk{H0:Hp}(hG:Qcr 0 1 2 3 H0)(s:Bs)(hs:s.length≤1048576)(H:Hp)(hH:Pre0 H0 H):Qc Tryz.prog 64 [YS s] H (fun r H'=>r=.tup [YL true 4 ((Q5 s).1.map Qt),(Q5 s).2.1.v,YI (Q5 s).2.2.1,YI (Q5 s).2.2.2]∧H'=H):=Has.of_ ph64 (fun s hs H hH=>lexOk hG s hs H hH) Qwm s hs H hH
end
end Go.Proofs.Zi
namespace Go.Zam
variable{P:Program}
section
open Go.Proofs
def Qne(c1 c2 t1:Nat):IFn:=by
 have h:=Ix.J [] Tryz.f66 [(98,c1),(99,c2)] [(35,t1)] [(6,(.o 0 (.o 1 (.o 2 (.o 3 (.o 7 (.b (.o 4 (.o 5 (.b (.o 6 (.o 8 (.o 9 (.o 10 .n)))) (.o 8 (.o 9 (.o 6 (.o 10 .n))))))) (.o 8 (.o 9 (.o 4 (.o 5 (.o 6 (.o 10 .n)))))))))))))];conv at h=>arg 1;reduce
 exact h.p
def Qat(c1 c2 t1 t2:Nat):IFn:=by
 have h:=Ix.J [] Tryz.f99 [(125,c1),(126,c2)] [(35,t1),(219,t2)] [(6,(.o 0 (.o 1 (.o 2 (.o 3 (.b (.o 4 (.o 5 (.o 6 (.o 7 .n)))) (.o 5 (.o 6 (.o 4 (.o 7 .n))))))))))];conv at h=>arg 1;reduce
 exact h.p
def Qe0(c1 c2 c3 c4 c5 t1:Nat):IFn:=by
 have h:=Ix.J [9] Tryz.f243 [(162,c1),(203,c2),(204,c3),(243,c4),(165,c5)] [(35,t1)];conv at h=>arg 1;reduce
 exact h.p
def Qdb(c1 t1:Nat):IFn:=by
 have h:=Ix.J [] Tryz.f126 [(126,c1)] [(35,t1)];conv at h=>arg 1;reduce
 exact h.p
def Qk2(c1 c2 c3 c4 t1:Nat):IFn:=by
 have h:=Ix.J [4] Tryz.f125 [(162,c1),(163,c2),(164,c3),(165,c4)] [(35,t1)];conv at h=>arg 1;reduce
 exact h.p
def Qil(t1:Nat):IFn:=by
 have h:=Ix.J [] Tryz.f162 [] [(85,t1)];conv at h=>arg 1;reduce
 exact h.p
def Qc8(t1:Nat):IFn:=by
 have h:=Ix.J [] Tryz.f203 [] [(35,t1)];conv at h=>arg 1;reduce
 exact h.p
def Qc9(c1:Nat):IFn:=by
 have h:=Ix.J [] Tryz.f204 [(162,c1)] [];conv at h=>arg 1;reduce
 exact h.p
def Qau(t1:Nat):IFn:=by
 have h:=Ix.J [] Tryz.f165 [] [(35,t1)];conv at h=>arg 1;reduce
 exact h.p
def Qnd(c1 c2 c3 t1:Nat):IFn:=by
 have h:=Ix.J [] Tryz.f163 [(203,c1),(204,c2),(165,c3)] [(35,t1)];conv at h=>arg 1;reduce
 exact h.p
def Qnf(c1 c2 c3 c4 t1:Nat):IFn:=by
 have h:=Ix.J [] Tryz.f164 [(204,c1),(203,c2),(205,c3),(165,c4)] [(35,t1)];conv at h=>arg 1;reduce
 exact h.p
def Qgi(c1 c2 c3 t1:Nat):IFn:=by
 have h:=Ix.J [] Tryz.f205 [(227,c1),(228,c2),(229,c3)] [(35,t1)];conv at h=>arg 1;reduce
 exact h.p
def Qdy(c1 c2 c3 c4 c5 t1:Nat):IFn:=by
 have h:=Ix.J [7] Tryz.f227 [(204,c1),(162,c2),(203,c3),(228,c4),(165,c5)] [(35,t1)];conv at h=>arg 1;reduce
 exact h.p
def Qda(c1 c2 t1:Nat):IFn:=by
 have h:=Ix.J [] Tryz.f228 [(162,c1),(243,c2)] [(35,t1)];conv at h=>arg 1;reduce
 exact h.p
def Qfp(c1 c2 c3 c4 t1:Nat):IFn:=by
 have h:=Ix.J [7] Tryz.f229 [(204,c1),(162,c2),(244,c3),(165,c4)] [(35,t1)];conv at h=>arg 1;reduce
 exact h.p
def Zk(c1 c2 c3 c4 c5 c6 c7 t1:Nat):IFn:=by
 have h:=Ix.J [8,47] Tryz.f244 [(162,c1),(252,c2),(229,c3),(165,c4),(203,c5),(228,c6),(204,c7)] [(35,t1)];conv at h=>arg 1;reduce
 exact h.p
def Qg9(c1 c2 c3 t1:Nat):IFn:=by
 have h:=Ix.J [] Tryz.f252 [(255,c1),(162,c2),(165,c3)] [(35,t1)];conv at h=>arg 1;reduce
 exact h.p
def Qju(c1 c2 c3 t1:Nat):IFn:=by
 have h:=Ix.J [] Tryz.f255 [(258,c1),(162,c2),(165,c3)] [(35,t1)];conv at h=>arg 1;reduce
 exact h.p
def Qg7(c1 c2 c3 t1:Nat):IFn:=by
 have h:=Ix.J [] Tryz.f258 [(264,c1),(162,c2),(165,c3)] [(35,t1)];conv at h=>arg 1;reduce
 exact h.p
def Qg8(c1 c2 c3 c4 c5 c6 t1:Nat):IFn:=by
 have h:=Ix.J [10,56] Tryz.f264 [(270,c1),(162,c2),(203,c3),(165,c4),(252,c5),(204,c6)] [(35,t1)];conv at h=>arg 1;reduce
 exact h.p
def Zl(c1 c2 c3 c4 c5 c6 t1 t2:Nat):IFn:=by
 have h:=Ix.J [11] Tryz.f270 [(162,c1),(252,c2),(204,c3),(165,c4),(203,c5),(205,c6)] [(35,t1),(85,t2)];conv at h=>arg 1;reduce
 exact h.p
def Qha(c1 c2 c3 t1:Nat):IFn:=by
 have h:=Ix.J [6] Tryz.f98 [(122,c1),(123,c2),(124,c3)] [(85,t1)];conv at h=>arg 1;reduce
 exact h.p
def Qhb :IFn:=by
 have h:=Ix.J [] Tryz.f123 [] [];conv at h=>arg 1;reduce
 exact h.p
def Qjv(c1 c2 c3 c4:Nat):IFn:=by
 have h:=Ix.J [] Tryz.f124 [(86,c1),(85,c2),(84,c3),(161,c4)] [];conv at h=>arg 1;reduce
 exact h.p
def Qjw(c1:Nat):IFn:=by
 have h:=Ix.J [] Tryz.f122 [(160,c1)] [];conv at h=>arg 1;reduce
 exact h.p
def Y2(c1:Nat):IFn:=by
 have h:=Ix.J [] Tryz.f160 [(202,c1)] [];conv at h=>arg 1;reduce
 exact h.p
def Qhc :IFn:=by
 have h:=Ix.J [] Tryz.f202 [] [];conv at h=>arg 1;reduce
 exact h.p
def Zm :IFn:=by
 have h:=Ix.J [] Tryz.f161 [] [];conv at h=>arg 1;reduce
 exact h.p
end
section
def Qcq(b:UInt8):Bool:=decide ((128:Int)≤b.toNat)&&decide ((b.toNat:Int)<192)
theorem Qpl{s:Bs}{n k:Nat}(h:n+k<s.length):W6 s ((n:Int)+k)=some ((s.drop n).getD k 0):=by
 have e:((n:Int)+k)=((n+k:Nat):Int):=by omega
 rw[e,Z6,Q1a,Q06,Qy7 h];rfl
theorem dec_0{n b0 b1 b2 b3:Nat}(h:b0<128):Lib.decodeN n b0 b1 b2 b3=(b0,1):=by simp[Lib.decodeN,h]
theorem Qvs{n b0 b1 b2 b3:Nat}(h:¬ b0<128)(h2:¬ (192≤b0∧b0<248)):Lib.decodeN n b0 b1 b2 b3=(65533,1):=by
 unfold Lib.decodeN;rw[if_neg h,if_neg (by omega),if_neg (by omega),if_neg (by omega)]
theorem dec_2{n b0 b1 b2 b3:Nat}(h:192≤b0∧b0<224):Lib.decodeN n b0 b1 b2 b3=if 1<n∧(128≤b1∧b1<192)∧128≤(b0-192)*64+(b1-128) then ((b0-192)*64+(b1-128),2) else (65533,1):=by
 unfold Lib.decodeN;rw[if_neg (by omega)];by_cases h1:1<n∧(128≤b1∧b1<192)
 · have e:b0 % 32*64+b1 % 64=(b0-192)*64+(b1-128):=by omega
   rw[if_pos (by omega),e];by_cases h3:128≤(b0-192)*64+(b1-128)
   · rw[if_pos h3,if_pos ⟨h1.1,h1.2,h3⟩]
   · rw[if_neg (by omega),if_neg (by omega)]
 · rw[if_neg (by omega),if_neg (by omega),if_neg (by omega),if_neg (fun q=>h1 ⟨q.1,q.2.1⟩)]
theorem dec_3{n b0 b1 b2 b3:Nat}(h:224≤b0∧b0<240):Lib.decodeN n b0 b1 b2 b3=if 2<n∧(128≤b1∧b1<192)∧(128≤b2∧b2<192)∧2048≤(b0-224)*4096+(b1-128)*64+(b2-128)∧¬ (55296≤(b0-224)*4096+(b1-128)*64+(b2-128)∧(b0-224)*4096+(b1-128)*64+(b2-128)<57344) then ((b0-224)*4096+(b1-128)*64+(b2-128),3) else (65533,1):=by
 unfold Lib.decodeN;rw[if_neg (by omega),if_neg (by omega)];by_cases h1:2<n∧(128≤b1∧b1<192)∧(128≤b2∧b2<192)
 · have e:b0 % 16*4096+b1 % 64*64+b2 % 64=(b0-224)*4096+(b1-128)*64+(b2-128):=by omega
   rw[if_pos (by omega),e];generalize hV:(b0-224)*4096+(b1-128)*64+(b2-128)=V;by_cases h3:2048≤V∧¬ (55296≤V∧V<57344)
   · rw[if_pos (by omega),if_pos ⟨h1.1,h1.2.1,h1.2.2,h3⟩]
   · rw[if_neg (by omega),if_neg (fun q=>h3 q.2.2.2)]
 · rw[if_neg (by omega),if_neg (by omega),if_neg (fun q=>h1 ⟨q.1,q.2.1,q.2.2.1⟩)]
theorem dec_4{n b0 b1 b2 b3:Nat}(h:240≤b0∧b0<248):Lib.decodeN n b0 b1 b2 b3=if 3<n∧(128≤b1∧b1<192)∧(128≤b2∧b2<192)∧(128≤b3∧b3<192)∧65536≤(b0-240)*262144+(b1-128)*4096+(b2-128)*64+(b3-128)∧(b0-240)*262144+(b1-128)*4096+(b2-128)*64+(b3-128)≤1114111 then ((b0-240)*262144+(b1-128)*4096+(b2-128)*64+(b3-128),4) else (65533,1):=by
 unfold Lib.decodeN;rw[if_neg (by omega),if_neg (by omega),if_neg (by omega)];by_cases h1:3<n∧(128≤b1∧b1<192)∧(128≤b2∧b2<192)∧(128≤b3∧b3<192)
 · have e:b0 % 8*262144+b1 % 64*4096+b2 % 64*64+b3 % 64=(b0-240)*262144+(b1-128)*4096+(b2-128)*64+(b3-128):=by omega
   rw[if_pos (by omega),e];generalize hV:(b0-240)*262144+(b1-128)*4096+(b2-128)*64+(b3-128)=V;by_cases h3:65536≤V∧V≤1114111
   · rw[if_pos (by omega),if_pos ⟨h1.1,h1.2.1,h1.2.2.1,h1.2.2.2,h3⟩]
   · rw[if_neg (by omega),if_neg (fun q=>h3 q.2.2.2.2)]
 · rw[if_neg (by omega),if_neg (fun q=>h1 ⟨q.1,q.2.1,q.2.2.1,q.2.2.2.1⟩)]
def Qr6(S:Bs):Bool := !(decide ((decU S).1=65533)&&decide ((decU S).2=1))
def Qnx(S:Bs)(H:Hp):A→Hp→Prop:=fun r H'=>∃ v:Int,r=.tup [YI v,YI ((decU S).2:Int),YB (Qr6 S)]∧H'=H
theorem Has.more3{f}(h:Has P f Qhc):Va P f Qcq:=fun b H=>by
 refine Qg h (by simp[Qhc]) fun hcl _ => ?_;simp[Qhc];generalize ha:decide ((128:Int)≤b.toNat)=a;generalize hb:decide ((b.toNat:Int)<192)=c;have hl:Qcq b=(a&&c):=by simp only[Qcq,ha,hb]
 cases a<;>cases c<;>simp[ha,hb]<;>simp[RetK,Qb hcl,hl]
def C.fst:C→C
 | .seq a _=>a
 | c=>c
def C.snd:C→C
 | .seq _ b=>b
 | c=>c
def W3(B:Nat→UInt8)(v:Int):Nat→Int
 | 0=>v
 | k+1=>W3 B v k*64+(B (k+1)).toNat-128
theorem Qxi{B:Nat→UInt8}{v:Int}(h:0≤v∧v≤31):∀ k,(∀ j,1≤j→j≤k→Qcq (B j)=true)→k≤3→0≤W3 B v k∧W3 B v k≤32*64 ^ k-1
 | 0,_,_=>by simp[W3];omega
 | k + 1, hc, hk => by
   have h1:=Qxi h k (fun j a b=>hc j a (by omega)) (by omega);have h2:=hc (k+1) (by omega) (Qy9 _);simp only[Qcq,Qzr,decide_eq_true_eq]at h2;have e:(64:Int) ^ (k+1)=64 ^ k*64:=Int.pow_succ ..;simp only[W3,e];omega
theorem Has.next3{f fm}(h:Has P f (Y2 fm))(hm:Va P fm Qcq)(s:Bs)(n:Nat)(hn:n<s.length)(hl:s.length≤1048576)(H:Hp) :
 Qc P f [YS s,YI n] H (Qnx (s.drop n) H):=by
 refine Qg h (by simp[Y2]) fun hcl _ => ?_;have hB:=fun k (hk:n+k<s.length)=>Qpl (s:=s) (n:=n) (k:=k) hk;have hne:s.drop n≠[]:=fun e=>by have:=Q0i.1 e;omega
 have hD:=Qw0 hne;have hSl:(s.drop n).length=s.length-n:=by simp
 rw[hSl]at hD;have hfin:∀(v N:Int)(ok:Bool),N=((decU (s.drop n)).2:Int)→ok=Qr6 (s.drop n)→Qnx (s.drop n) H (.tup [YI v,YI N,YB ok]) H:=fun v N ok h1 h2=>⟨v,by rw[h1,h2],rfl⟩;unfold Qr6 at hfin;generalize Qnx (s.drop n) H=Q at hfin ⊢;generalize decU (s.drop n)=D at hD hfin;obtain⟨B,hBe⟩:∃ B:Nat→UInt8,∀ k,(s.drop n).getD k 0=B k:=⟨_,fun _=>rfl⟩;simp only[hBe]at hB hD;clear hBe;have hb0:=hB 0 (by omega);simp only[Q2o,Q1t]at hb0;have hwb:∀ b:UInt8,IntKind.i64.wrap (b.toNat:Int)=b.toNat:=fun b=>Qgq (by have:=b.toNat_lt;omega) (by have:=b.toNat_lt;omega);have hno:D=(65533,1)→∀ v,Q (.tup [YI v,YI 1,YB false]) H:=fun e v=>hfin _ _ _ (by rw[e];rfl) (by rw[e];rfl);have rest:∀(fr:Fr)(z m:Nat)(lo v0:Int),z=m+1→fr 0=YS s→fr 1=YI n→fr 8=YI z→fr 9=YI v0→fr 10=YI lo→2≤z→z≤4→n+z≤s.length→(0≤v0∧v0≤31) →
  ((∀ j,1≤j→j<z→Qcq (B j)=true)∧lo≤W3 B v0 m∧W3 B v0 m≤1114111∧¬ (55296≤W3 B v0 m∧W3 B v0 m<57344)→D.2=z) →
  (¬ ((∀ j,1≤j→j<z→Qcq (B j)=true)∧lo≤W3 B v0 m∧W3 B v0 m≤1114111∧¬ (55296≤W3 B v0 m∧W3 B v0 m<57344))→D=(65533,1)) →
  AWp P H.length (Y2 fm).body.snd.snd.snd.snd.snd.snd.snd.snd (Fin (Y2 fm).res H.length Q) fr H:=by
  intro fr z m lo v0 zm f0 f1 f8 f9 f10 z2 z4 hz hv hg hw;simp[Y2,C.snd];refine Qq 0 (fun fr H'=>fr 8=YI z∧fr 10=YI lo∧fr 9=YI (W3 B v0 m)∧H'=H∧∀ j,1≤j→j<z→Qcq (B j)=true) (fun fr H'=>fr 4=YI 65533∧fr 5=YI 1∧fr 6=YB false∧H'=H∧¬ ∀ j,1≤j→j<z→Qcq (B j)=true) ?_ ?_ ?_
  · refine Qz H.length (fun d fr H'=>∃ k:Nat,d=5-(k+1)∧k+1≤z∧fr 0=YS s∧fr 1=YI n∧fr 8=YI z∧fr 10=YI lo∧fr 11=YI ((k:Int)+1)∧fr 9=YI (W3 B v0 k)∧H'=H∧∀ j,1≤j→j≤k→Qcq (B j)=true) 4 (by simp) ⟨0,rfl,by omega,by simp[f0,f1,f8,f9,f10,W3,Qb hcl];omega⟩ ?_;rintro d fr H' ⟨k,rfl,kz,f0,f1,f8,f10,f11,f9,rfl,hc⟩;by_cases hk:k+1<z
    · have hk':(k:Int)+1<z:=by omega
      have B1:=hB (k+1) (by omega);rw[Q0z,Q26]at B1;have hW:=Qxi hv k hc (by omega);have h64:(64:Int) ^ k≤64 ^ 3:=by
       have:k=0∨k=1∨k=2:=by omega
       rcases this with rfl|rfl|rfl<;>decide
      have l1:=(B (k+1)).toNat_lt;have w0:IntKind.i64.wrap ((n:Int)+(k+1))=n+(k+1):=wi64 (by omega);have w1:IntKind.i64.wrap (W3 B v0 k*64)=W3 B v0 k*64:=wi64 (by omega);have w2:IntKind.i64.wrap (W3 B v0 k*64+(B (k+1)).toNat)=W3 B v0 k*64+(B (k+1)).toNat:=wi64 (by omega);have w3:IntKind.i64.wrap (W3 B v0 k*64+(B (k+1)).toNat-128)=W3 B v0 k*64+(B (k+1)).toNat-128:=wi64 (by omega);have w4:IntKind.i64.wrap ((k:Int)+1+1)=k+1+1:=wi64 (by omega);simp[f0,f1,f8,f11,w0,B1,hk'];refine Qa (hm (B (k+1)) _) ?_;cases hcb:Qcq (B (k+1)) with
      | false =>
        simp;exact⟨k+1,by omega,hk,hcb⟩
      | true =>
        simp[f0,f1,f8,f9,f11,w0,B1,hwb,w1,w2,w3];refine Qe H'.length (5-(k+1+1)) (Qy9 _) (by simp) (by omega) ⟨k+1,rfl,by omega,?_⟩;simp[f0,f1,f8,f10,w4,W3,Qb hcl];intro j a b;rcases Q1c k j with q|q
        · rwa[show j=k+1 by omega]
        · exact hc j a q
    · have e:m=k:=by omega
      have hk':¬ (k:Int)+1<z:=by omega
      simp[f8,f11,hk'];simp[f8,f9,f10,e];exact fun j a b=>hc j a (by omega)
  · rintro fr H' ⟨f4,f5,f6,rfl,hc⟩;simp;simp[RetK,Qb hcl,f4,f5,f6];exact hno (hw fun q=>hc q.1) _
  · rintro fr H' ⟨f8,f10,f9,rfl,hc⟩;generalize W3 B v0 m=V at f9 hg hw;have good:lo≤V∧V≤1114111∧¬ (55296≤V∧V<57344)→Q (.tup [YI V,YI z,YB true]) H':=fun q=>by
     have e:=hg ⟨hc,q⟩;exact hfin _ _ _ (by rw[e]) (by rw[e];simp;omega)
    have bad:¬ (lo≤V∧V≤1114111∧¬ (55296≤V∧V<57344))→D=(65533,1):=fun q=>hw fun r=>q r.2;by_cases r1:V<lo
    · simp[f8,f9,f10,r1];simp[RetK,Qb hcl];exact hno (bad (by omega)) _
    by_cases r2:1114111<V
    · simp[f8,f9,f10,r1,r2];simp[RetK,Qb hcl];exact hno (bad (by omega)) _
    by_cases r3:55296≤V<;>by_cases r4:V<57344
    case pos =>
     simp[f8,f9,f10,r1,r2,r3,r4];simp[RetK,Qb hcl];exact hno (bad (by omega)) _
    all_goals
     simp[f8,f9,f10,r1,r2,r3,r4];simp[RetK,Qb hcl,f8,f9];exact good (by omega)
 generalize hT:(Y2 fm).body.snd.snd.snd.snd.snd.snd.snd.snd=T at rest;have hbody:(Y2 fm).body=.seq (Y2 fm).body.fst (.seq (Y2 fm).body.snd.fst (.seq (Y2 fm).body.snd.snd.fst (.seq (Y2 fm).body.snd.snd.snd.fst (.seq (Y2 fm).body.snd.snd.snd.snd.fst (.seq (Y2 fm).body.snd.snd.snd.snd.snd.fst (.seq (Y2 fm).body.snd.snd.snd.snd.snd.snd.fst (.seq (Y2 fm).body.snd.snd.snd.snd.snd.snd.snd.fst T))))))):=by rw[← hT];rfl
 rw[hbody];clear hbody hT;simp[Y2,C.fst,C.snd,hb0,hwb];have hcont:∀ b:UInt8,Qcq b=true↔128≤b.toNat∧b.toNat<192:=fun b=>by simp[Qcq];omega
 have l0:=(B 0).toNat_lt;by_cases c0:(B 0).toNat<128
 · have c0':((B 0).toNat:Int)<128:=by omega
   rw[dec_0 c0]at hD;simp[c0'];simp[RetK,Qb hcl];exact hfin _ _ _ (by rw[hD];rfl) (by rw[hD];simp;omega)
 have c0':¬ ((B 0).toNat:Int)<128:=by omega
 have wsub:∀ k:Int,0≤k→k≤1000→IntKind.i64.wrap (((B 0).toNat:Int)-k)=(B 0).toNat-k:=fun k _ _=>wi64 (by omega);have wsn:IntKind.i64.wrap ((s.length:Int)-n)=s.length-n:=wi64 (by omega);by_cases cN:192≤(B 0).toNat∧(B 0).toNat<248
 case neg =>
  rw[Qvs c0 cN]at hD;by_cases x2:(192:Int)≤(B 0).toNat
  · simp[c0',x2,show ¬ ((B 0).toNat:Int)<224 by omega,show (224:Int)≤(B 0).toNat by omega,show ¬ ((B 0).toNat:Int)<240 by omega,show (240:Int)≤(B 0).toNat by omega,show ¬ ((B 0).toNat:Int)<248 by omega];simp[RetK,Qb hcl];exact hno hD _
  · simp[c0',x2,show ¬ (224:Int)≤(B 0).toNat by omega,show ¬ (240:Int)≤(B 0).toNat by omega];simp[RetK,Qb hcl];exact hno hD _
 have fit:∀ z:Nat,(s.length-n<z∧(s.length:Int)-n<z)∨(n+z≤s.length∧¬ (s.length:Int)-n<z):=fun z=>by omega
 have x0:(192:Int)≤(B 0).toNat:=by omega
 by_cases c2:(B 0).toNat<224
 · rw[dec_2 ⟨cN.1,c2⟩]at hD;simp[c0',x0,show ((B 0).toNat:Int)<224 by omega,show ¬ (224:Int)≤(B 0).toNat by omega,show ¬ (240:Int)≤(B 0).toNat by omega,wsub 192 (by omega) (by omega)];rcases fit 2 with⟨hL,hL'⟩|⟨hL,hL'⟩<;>simp only[Q3e]at hL'<;>simp[wsn,hL']
   · simp[RetK,Qb hcl];exact hno (by rw[hD,if_neg (by omega)]) _
   · refine rest _ 2 1 128 ((B 0).toNat-192) rfl (by simp) (by simp) (by simp) (by simp) (by simp) (by omega) (by omega) hL (by omega) ?_ ?_
     · rintro⟨q1,q2,q3,q4⟩;have h1:=(hcont _).1 (q1 1 (by omega) (by omega));simp only[W3,Nat.reduceAdd]at q2 q4;rw[hD,if_pos (by omega)]
     · intro q;rw[hD,if_neg];rintro⟨a,b,c⟩;refine q ⟨fun j j1 j2 => ?_,by simp only[W3,Nat.reduceAdd];omega,by simp only[W3,Nat.reduceAdd];omega,by simp only[W3,Nat.reduceAdd];omega⟩;obtain rfl:j=1:=by omega
       exact(hcont _).2 b
 by_cases c3:(B 0).toNat<240
 · rw[dec_3 ⟨by omega,c3⟩]at hD;simp[c0',x0,show ¬ ((B 0).toNat:Int)<224 by omega,show (224:Int)≤(B 0).toNat by omega,show ((B 0).toNat:Int)<240 by omega,show ¬ (240:Int)≤(B 0).toNat by omega,wsub 224 (by omega) (by omega)];rcases fit 3 with⟨hL,hL'⟩|⟨hL,hL'⟩<;>simp only[Q3e]at hL'<;>simp[wsn,hL']
   · simp[RetK,Qb hcl];exact hno (by rw[hD,if_neg (by omega)]) _
   · refine rest _ 3 2 2048 ((B 0).toNat-224) rfl (by simp) (by simp) (by simp) (by simp) (by simp) (by omega) (by omega) hL (by omega) ?_ ?_
     · rintro⟨q1,q2,q3,q4⟩;have h1:=(hcont _).1 (q1 1 (by omega) (by omega));have h2:=(hcont _).1 (q1 2 (by omega) (by omega));simp only[W3,Nat.reduceAdd]at q2 q4;rw[hD,if_pos (by omega)]
     · intro q;rw[hD,if_neg];rintro⟨a,b,c,d,e⟩;refine q ⟨fun j j1 j2 => ?_,by simp only[W3,Nat.reduceAdd];omega,by simp only[W3,Nat.reduceAdd];omega,by simp only[W3,Nat.reduceAdd];omega⟩;obtain rfl|rfl:j=1∨j=2:=by omega
       · exact(hcont _).2 b
       · exact(hcont _).2 c
 · rw[dec_4 ⟨by omega,cN.2⟩]at hD;simp[c0',x0,show ¬ ((B 0).toNat:Int)<224 by omega,show (224:Int)≤(B 0).toNat by omega,show ¬ ((B 0).toNat:Int)<240 by omega,show (240:Int)≤(B 0).toNat by omega,show ((B 0).toNat:Int)<248 by omega,wsub 240 (by omega) (by omega)];rcases fit 4 with⟨hL,hL'⟩|⟨hL,hL'⟩<;>simp only[Q3e]at hL'<;>simp[wsn,hL']
   · simp[RetK,Qb hcl];exact hno (by rw[hD,if_neg (by omega)]) _
   · refine rest _ 4 3 65536 ((B 0).toNat-240) rfl (by simp) (by simp) (by simp) (by simp) (by simp) (by omega) (by omega) hL (by omega) ?_ ?_
     · rintro⟨q1,q2,q3,q4⟩;have h1:=(hcont _).1 (q1 1 (by omega) (by omega));have h2:=(hcont _).1 (q1 2 (by omega) (by omega));have h3:=(hcont _).1 (q1 3 (by omega) (by omega));simp only[W3,Nat.reduceAdd]at q2 q3;rw[hD,if_pos (by omega)]
     · intro q;rw[hD,if_neg];rintro⟨a,b,c,d,e,g⟩;refine q ⟨fun j j1 j2 => ?_,by simp only[W3,Nat.reduceAdd];omega,by simp only[W3,Nat.reduceAdd];omega,by simp only[W3,Nat.reduceAdd];omega⟩;obtain rfl|rfl|rfl:j=1∨j=2∨j=3:=by omega
       · exact(hcont _).2 b
       · exact(hcont _).2 c
       · exact(hcont _).2 d
theorem Has.bad3{f fn}(h:Has P f (Qjw fn))(hd:∀ (s:Bs) (n:Nat),n<s.length→s.length≤1048576→∀ H,Qc P fn [YS s,YI n] H (Qnx (s.drop n) H))(s:Bs)(hl:s.length≤1048576)(H:Hp):Qc P f [YS s] H (fun r H'=>r=YI (badS s)∧H'=H):=by
 refine Qg h (by simp[Qjw]) fun hcl _ => ?_;simp[Qjw];refine Qq 0 (fun fr H'=>badS s = -1∧H'=H) (fun fr H'=>fr 2=YI (badS s)∧H'=H) ?_ ?_ ?_
 · refine Qz H.length (fun d fr H'=>∃ n:Nat,d=s.length-n∧n≤s.length∧badS s=badF (s.length-n) (s.drop n) n∧fr 0=YS s∧fr 3=YI n∧H'=H) (s.length-0) (by simp) ⟨0,rfl,by omega,rfl,?_⟩ ?_
   · simp[Qb hcl]
   rintro d fr H' ⟨n,rfl,hn,hb,f0,f3,rfl⟩;simp[f0,f3];refine Qh (fun hlt => ?_) (fun hlt => ?_)
   · have hlt:n<s.length:=by simpa using hlt
     have hne:s.drop n≠[]:=fun e=>by have:=Q0i.1 e;omega
     have hdl:=Qhz hne;have hdr:∀ k,(s.drop n).drop k=s.drop (n+k):=fun k=>Q0v ..;have hfl:s.length-n=(s.length-n-1)+1:=by omega
     rw[hfl,badF,if_neg hne]at hb;simp only[Q0f]at hdl;simp[f0,f3];refine Qd (hd s n hlt hl H') ?_;rintro _ H1 ⟨v,rfl,hH⟩;cases hH
     simp only[hdr]at hb;unfold Qr6;generalize decU (s.drop n)=D at hb hdl;obtain⟨R,W⟩:=D;simp only at hb hdl;have hwr:IntKind.i64.wrap ((n:Int)+W)=((n+W:Nat):Int):=by rw[wi64 (by omega)];omega
     by_cases hR:R=65533∧W=1
     · rw[if_pos (by rw[hR.1,hR.2])]at hb;simp[hR.1,hR.2,f3,hb]
     · rw[if_neg (by simpa using hR)]at hb;have hok:(!(decide (R=65533)&&decide (W=1)))=true:=by simp;omega
       rw[hok];simp[f3,hwr];refine Qe _ (s.length-(n+W)) (Qy9 _) (by simp) (by omega) ⟨n+W,rfl,by omega,?_,?_⟩
       · rw[hb];exact Qf2 _ _ _ _ (by simp;omega) (by simp)
       · simp[f0,Qb hcl]
   · have hge : n = s.length := by have : ¬ (n < s.length) := by simpa using hlt
                                   omega
     have:badS s = -1:=by rw[hb,hge];simp[badF]
     simp[this]
 · rintro fr H' ⟨f2,rfl⟩;simp;simp[RetK,Qb hcl,f2]
 · rintro fr H' ⟨hb,rfl⟩;simp;simp[RetK,Qb hcl,hb]
end
section
theorem Qsp(b:UInt8)(r:Bs):unqI (b::r)=if b=92 then (match r with|[]=>none|c::t=>(unesc c).bind fun x=>(unqI t).map (x :: ·)) else if b.toNat<32∨b=34 then none else (unqI r).map (b :: ·):=by
 cases r with
 | nil=>simp only[unqI];rfl
 | cons c t=>simp only[unqI]
theorem Has.unquote3{f}(h:Has P f Zm)(s:Bs)(hl:s.length≤1048576)(H:Hp):Qc P f [YS s] H (fun r H'=>r=unqR (unqV s)∧H'=H):=by
 refine Qg h (by simp[Zm]) fun hcl _ => ?_;by_cases h1:s.length<2
 case pos =>
  have h1':(s.length:Int)<2:=by omega
  simp[Zm,h1'];simp[RetK,Qb hcl,unqV,unqR,h1]
 have h1':¬ (s.length:Int)<2:=by omega
 obtain⟨b0,hb0⟩:∃ b,W6 s 0=some b:=⟨s[0],by simp[W6]⟩;obtain⟨b1,hb1⟩:∃ b,W6 s ((s.length:Int)-1)=some b:=by
  refine⟨s[s.length-1],?_⟩;have e:((s.length:Int)-1)=((s.length-1:Nat):Int):=by omega
  rw[e,Z6,Qy7]
 have hh:s.head?=some b0:=by
  cases s with
  | nil=>simp at h1
  | cons a r=>simpa[W6] using hb0
 have hg:s.getLast?=some b1:=by
  have e:((s.length:Int)-1)=((s.length-1:Nat):Int):=by omega
  rw[Q3x,← Z6,← e];exact hb1
 have hwm:IntKind.i64.wrap ((s.length:Int)-1)=s.length-1:=wi64 (by omega);have byte34:∀ b:UInt8,((b.toNat:Int)=34)↔b=34:=fun b=>Y7 b 34;by_cases h2:b0=34
 case neg =>
  have h2':¬ ((b0.toNat:Int)=34):=fun e=>h2 ((byte34 _).1 e);simp[Zm,h1',hb0,h2'];simp[RetK,Qb hcl,unqV,unqR,hh,h2]
 by_cases h3:b1=34
 case neg =>
  have h3':¬ ((b1.toNat:Int)=34):=fun e=>h3 ((byte34 _).1 e);simp[Zm,h1',hb0,h2,hwm,hb1,h3'];simp[RetK,Qb hcl,unqV,unqR,hg,h3]
 subst h2;subst h3;have hU:unqV s=unqI ((s.drop 1).take (s.length-2)):=by simp[unqV,h1,hh,hg]
 have hsub:subL s 1 ((s.length:Int)-1)=some ((s.drop 1).take (s.length-2)):=by
  have:=Qej (s:=s) (n:=1) (w:=s.length-2) (by omega);rw[← this];congr 1;omega
 have hIl:((s.drop 1).take (s.length-2)).length≤1048576:=by simp;omega
 rw[hU];generalize (s.drop 1).take (s.length-2)=I at hIl hsub ⊢;simp[Zm,h1',hb0,hwm,hb1,hsub];clear hsub hU hb0 hb1 hh hg hwm;refine Qq 0 (fun fr H'=>∃ x,unqI I=some x∧fr 5=YS x∧H'=H) (fun fr H'=>fr 2=YS []∧fr 3=YI 22∧unqI I=none∧H'=H) ?_ ?_ ?_
 · refine Qz H.length (fun d fr H'=>∃(x J:Bs),d=J.length∧x.length+J.length≤1048576∧unqI I=(unqI J).map (x ++ ·)∧fr 5=YS x∧fr 6=YS J∧H'=H) I.length (by simp) ⟨[],I,rfl,by simpa using hIl,by simp,?_⟩ ?_
   · simp[Qb hcl]
   rintro d fr H' ⟨x,J,rfl,hJl,hq,f5,f6,rfl⟩;cases J with
   | nil =>
     simp[f6];simp[f5,hq,unqI]
   | cons b r =>
     have hpos:(0:Int)<(r.length:Int)+1:=by omega
     have hb:W6 (b::r) 0=some b:=by simp[W6]
     rw[Qsp]at hq;simp only[Qzj]at hJl;simp[f6,hb,hpos];have s1:subL (b::r) 0 1=some [b]:=by simp[subL];omega
     have s2:subL (b::r) 1 ((b::r).length:Int)=some r:=by
      have:=Qjk (s:=b::r) (n:=1) (by simp only[Qzj];omega);simpa using this
     simp only[Qzj,Q0z,Q26]at s2;by_cases h92:b=92
     · subst h92;rw[if_pos rfl]at hq;cases r with
       | nil =>
         simp only at hq;simp[f5,f6];simpa using hq
       | cons c t =>
         have hb1:W6 (92::c::t) 1=some c:=by simp[W6]
         have s3:subL (92::c::t) 2 ((t.length:Int)+1+1)=some t:=by
          have:=Qjk (s:=92::c::t) (n:=2) (by simp only[Qzj];omega);simpa using this
         have hlen:¬ ((t.length:Int)+1+1<2):=by omega
         simp only[Qzj]at hJl;simp only at hq;have put:∀ y:UInt8,unesc c=some y→unqI I=(unqI t).map ((x++[y]) ++ ·):=fun y hy=>by
          rw[hq,hy];simp[Q2v]
         have add:∀ y:UInt8,Qa7 .add x [y]=some (.str (x++[y])):=fun y=>Qj8 (by simp;omega);have hcb:∀ y:UInt8,((c.toNat:Int)=(y.toNat:Int))↔c=y:=Y7 c;simp[f5,f6,hb1,hlen];by_cases c110:c=110
         · subst c110;simp[f5,f6,s3,add,-Qa7];refine Qe H'.length t.length (Qy9 _) (by simp) (by omega) ⟨x++[10],t,rfl,by simp;omega,put 10 (by decide),?_⟩;simp[Qb hcl]
         have n110:¬ ((c.toNat:Int)=110):=fun e=>c110 ((hcb 110).1 e);by_cases c116:c=116
         · subst c116;simp[f5,f6,s3,add,-Qa7];refine Qe H'.length t.length (Qy9 _) (by simp) (by omega) ⟨x++[9],t,rfl,by simp;omega,put 9 (by decide),?_⟩;simp[Qb hcl]
         have n116:¬ ((c.toNat:Int)=116):=fun e=>c116 ((hcb 116).1 e);by_cases c34:c=34
         · subst c34;simp[f5,f6,s3,add,-Qa7];refine Qe H'.length t.length (Qy9 _) (by simp) (by omega) ⟨x++[34],t,rfl,by simp;omega,put 34 (by decide),?_⟩;simp[Qb hcl]
         have n34:¬ ((c.toNat:Int)=34):=fun e=>c34 ((hcb 34).1 e);by_cases c92:c=92
         · subst c92;simp[f5,f6,s3,add,-Qa7];refine Qe H'.length t.length (Qy9 _) (by simp) (by omega) ⟨x++[92],t,rfl,by simp;omega,put 92 (by decide),?_⟩;simp[Qb hcl]
         have n92:¬ ((c.toNat:Int)=92):=fun e=>c92 ((hcb 92).1 e);have hnone:unesc c=none:=by simp[unesc,c110,c116,c34,c92]
         rw[hnone]at hq;simp[n110,n116,n34,n92];simpa using hq
     · rw[if_neg h92]at hq;have n92:¬ ((b.toNat:Int)=92):=fun e=>h92 ((Y7 b 92).1 e);by_cases hlo:b.toNat<32
       · have hlo':(b.toNat:Int)<32:=by omega
         rw[if_pos (.inl hlo)]at hq;simp[hlo'];simpa using hq
       have hlo':¬ (b.toNat:Int)<32:=by omega
       by_cases h34:b=34
       · subst h34;rw[if_pos (.inr rfl)]at hq;simp;simpa using hq
       have n34:¬ ((b.toNat:Int)=34):=fun e=>h34 ((Y7 b 34).1 e);rw[if_neg (by simp[hlo,h34])]at hq;have add:Qa7 .add x [b]=some (.str (x++[b])):=Qj8 (by simp;omega);simp[hlo',n34,n92,f5,f6,s1,s2,add,-Qa7];refine Qe H'.length r.length (Qy9 _) (by simp) (by simp) ⟨x++[b],r,rfl,by simp;omega,?_,?_⟩
       · rw[hq];simp[Q2v]
       · simp[Qb hcl]
 · rintro fr H' ⟨f2,f3,hn,rfl⟩;simp;simp[RetK,Qb hcl,f2,f3,hn,unqR]
 · rintro fr H' ⟨x,hx,f5,rfl⟩;simp[f5];simp[RetK,Qb hcl,hx,unqR]
theorem Has.lead4{f}(h:Has P f Qhb)(s:Bs)(n:Nat)(hn:n≤s.length)(hl:s.length≤1048576)(H:Hp):Qc P f [YS s,YI n] H (fun r H'=>r=YI ((n+Qn false (s.drop n):Nat):Int)∧H'=H):=by
 refine Qg h (by simp[Qhb]) fun hcl _ => ?_;have hL:=Qci false (s.drop n);simp only[Q0f]at hL;generalize hLL:Qn false (s.drop n)=L at hL ⊢;simp[Qhb];refine Qq 0 (fun fr H'=>fr 1=YI ((n+L:Nat):Int)∧H'=H) (fun fr H'=>fr 4=YI ((n+L:Nat):Int)∧H'=H) ?_ ?_ ?_
 · refine Qz H.length (fun d fr H'=>∃ p:Nat,d=s.length-p∧p≤s.length∧p+Qn false (s.drop p)=n+L∧fr 0=YS s∧fr 1=YI p∧H'=H) (s.length-n) (by simp) ⟨n,rfl,hn,by rw[hLL],?_⟩ ?_
   · simp[Qb hcl]
   rintro d fr H' ⟨p,rfl,hp,hq,f0,f1,rfl⟩;cases hd:s.drop p with
   | nil =>
     have hpl:p=s.length:=by have:=Q0i.1 hd;omega
     rw[hd]at hq;simp only[Qn,Q1l]at hq;have hn':¬ ((p:Int)<s.length):=by omega
     simp[f0,f1,hn'];omega
   | cons b r =>
     obtain⟨hb,hlt⟩:=Yc hd;have hdr:s.drop (p+1)=r:=by rw[← Q0v,hd];rfl
     have hlt':(p:Int)<s.length:=by omega
     have hw:IntKind.i64.wrap ((p:Int)+1)=((p+1:Nat):Int):=by rw[wi64 (by omega)];omega
     simp[f0,f1,hlt',hb];cases hB:Vh b with
     | true =>
       have hq':Qn false (s.drop p)=Qn false r+1:=by rw[hd,Qn,if_pos hB]
       have hbl:=hB;unfold Vh at hbl;generalize ha:decide ((b.toNat:Int)=32)=a at hbl ⊢;generalize hc:decide ((b.toNat:Int)=9)=c at hbl ⊢;generalize he:decide ((b.toNat:Int)=10)=e at hbl ⊢;generalize hg:decide ((b.toNat:Int)=13)=g at hbl ⊢;cases a<;>cases c<;>cases e<;>cases g<;>simp at hbl<;>simp[f0,f1,hb,ha,hc,he,hg,hw] <;>
        (refine Qe H'.length (s.length-(p+1)) (Qy9 _) (by simp) (by omega) ⟨p+1,rfl,by omega,by rw[hdr];omega,?_⟩;simp[f0,Qb hcl])
     | false =>
       have hbl:=hB;unfold Vh at hbl;simp only[Q2e]at hbl;obtain⟨⟨⟨a1,a2⟩,a3⟩,a4⟩:=hbl;simp[f0,f1,hb,a1,a2,a3,a4];by_cases h35:(b.toNat:Int)=35
       · have hhb:Zv Qb8 (s.drop p)=true:=by rw[hd];simp[Zv,Qb8,h35]
         obtain⟨hc,hc1⟩:=Qmi hhb;have hstep:=Qbs Zb (s.drop p);have hW:=Qds Zb (s.drop p);simp only[Qaw,Q0f]at hW hstep hc;generalize runN Zb (s.drop p)=wc at hc hc1 hstep hW;simp[h35,f0,f1];refine Q0 2 (fun fr H''=>fr 0=YS s∧fr 1=YI ((p+wc:Nat):Int)∧H''=H') ?_ ?_
         · refine Qz H'.length (fun d fr H''=>∃ q,d=wc-q∧q≤wc∧fr 0=YS s∧fr 1=YI ((p+q:Nat):Int)∧H''=H') wc (by simp) ⟨0,?_⟩ ?_
           · simp[f0,f1,Qb hcl]
           rintro d fr H'' ⟨q,rfl,hqq,f0,f1,rfl⟩;have hm:=hstep q hqq;have hwq:IntKind.i64.wrap ((p:Int)+q+1)=((p+(q+1):Nat):Int):=by rw[wi64 (by omega)];omega
           simp only[Q0z]at f1;cases hd2:s.drop (p+q) with
           | nil =>
             have h0:p+q=s.length:=by have:=Q0i.1 hd2;omega
             have h0':¬ ((p:Int)+q<s.length):=by omega
             rw[hd2]at hm;simp[Zv]at hm;have:q=wc:=by omega
             subst this;simp[f0,f1,h0']
           | cons c t =>
             obtain⟨hb2,hlt2⟩:=Yc hd2;have hlt2':(p:Int)+q<s.length:=by omega
             rw[hd2]at hm;simp only[Zv,Zb]at hm;simp only[Q0z]at hb2;by_cases h10:(c.toNat:Int)=10
             · have:q=wc:=by
                simp[h10]at hm;omega
               subst this;simp[f0,f1,hlt2',hb2,h10]
             · have hql:q<wc:=by simpa[h10] using hm
               simp[f0,f1,hlt2',hb2,h10,hwq];refine Qe H''.length (wc-(q+1)) (Qy9 _) (by simp) (by omega) ⟨q+1,rfl,by omega,?_⟩;simp[f0,Qb hcl]
         rintro fr H'' ⟨f0,f1,rfl⟩;simp;refine Qe H''.length (s.length-(p+wc)) (Qy9 _) (by simp) (by omega) ⟨p+wc,rfl,by omega,by omega,?_⟩;simp[f0,f1,Qb hcl]
       · have hhb:Qb8 b=false:=by simp[Qb8,h35]
         have h0:Qn false (s.drop p)=0:=by rw[hd,Qn,hB,hhb];rfl
         simp[h35,f1];omega
 · rintro fr H' ⟨f4,rfl⟩;simp;simp[RetK,Qb hcl,f4]
 · rintro fr H' ⟨f1,rfl⟩;simp[f1];simp[RetK,Qb hcl]
end
section
def Qp1(S:Bs)(n:Nat)(H:Hp):A→Hp→Prop:=fun r H'=>∃ k m:Int,r=.tup [YI k,YI m,YI (tokN S).1]∧H'=H∧((tokN S).1=0→k=(tokN S).2.1∧m=((n+(tokN S).2.2:Nat):Int))
def numM(acc:Nat)(l:Bs):Bool:=match Lib.parseUintM 9223372036854775807 acc l with
 | .ok _=>true
 | _=>false
theorem Qu5(acc:Nat):numM acc []=true:=rfl
theorem Qs8(acc:Nat)(c:UInt8)(r:Bs):numM acc (c::r)=if Wb c=true∧acc≤(9223372036854775807-(c.toNat-48)) / 10 then numM (acc*10+(c.toNat-48)) r else false:=by
 unfold numM;rw[Lib.parseUintM];by_cases hd:48≤c.toNat∧c.toNat≤57
 · have hD:Wb c=true:=by simp[Wb];omega
   rw[if_pos hd];by_cases h1:acc≤(9223372036854775807-(c.toNat-48)) / 10
   · rw[if_neg (by omega),if_neg (by omega),if_pos ⟨hD,h1⟩]
   · have hR:¬ (Wb c=true∧acc≤(9223372036854775807-(c.toNat-48)) / 10):=fun q=>h1 q.2;rw[if_neg hR];by_cases h2:1844674407370955162≤acc
     · rw[if_pos h2]
     · rw[if_neg h2,if_pos (by omega)]
 · have hD:¬ Wb c=true:=by simp[Wb];omega
   rw[if_neg hd,if_neg (fun q=>hD q.1)]
theorem Qu4{s:Bs}(h:s≠[]):Qch s=numM 0 s:=by
 unfold Qch numM Lib.parseUintB;rw[if_neg h];have e:(2 ^ 63-1:Nat)=9223372036854775807:=by decide
 rw[e];cases Lib.parseUintM 9223372036854775807 0 s<;>rfl
def Qvi:Bs→Bool
 | []=>false
 | b::_=>Wd b
theorem Qop:∀ k ∈ Yu,Qvi k=true:=Qzq.1 (by decide)
theorem Qsw(b:UInt8)(t:Bs):strS (b::t)=if b=34 then some 1 else if b=92 then (strS (t.drop 1)).map (·+2) else if b=10 then none else (strS t).map (·+1):=by
 cases t with
 | nil =>
   simp only[strS,Q34,Q3s];by_cases h:b=34
   · rw[if_pos h,if_pos h]
   · rw[if_neg h,if_neg h];simp
 | cons c r=>simp only[strS,Q1v,Q29]
theorem Has.one4{f fl fd fk fu}(h:Has P f (Qjv fl fd fk fu))(hl:Va P fl Wd)(hd:Va P fd Wb)(hk:∀ s H,Qc P fk [YS s] H (fun r H'=>r=YB (decide (s ∈ Yu))∧H'=H))(hu:∀ (s:Bs) H,s.length≤1048576→Qc P fu [YS s] H (fun r H'=>r=unqR (unqV s)∧H'=H))(s:Bs)(n:Nat)(hn:n<s.length)(hsl:s.length≤1048576)(H:Hp):Qc P f [YS s,YI n] H (Qp1 (s.drop n) n H):=by
 refine Qg h (by simp[Qjv]) fun hcl _ => ?_;have hfin:∀(k m e:Int),e=(tokN (s.drop n)).1→(e=0→k=(tokN (s.drop n)).2.1∧m=((n+(tokN (s.drop n)).2.2:Nat):Int))→Qp1 (s.drop n) n H (.tup [YI k,YI m,YI e]) H:=fun k m e h1 h2=>⟨k,m,by rw[h1],rfl,fun h=>h2 (by rw[h1,h])⟩;generalize Qp1 (s.drop n) n H=Q at hfin ⊢;have hrl:=Qds Zam.wordB (s.drop n);have hstep:=Qbs Zam.wordB (s.drop n);have hSl:(s.drop n).length=s.length-n:=by simp
 have hne:s.drop n≠[]:=fun e=>by have:=Q0i.1 e;omega
 simp only[Qaw]at hstep;have hsub:=fun w (hw:n+w≤s.length)=>Qej (s:=s) (n:=n) (w:=w) hw;have hdrop:∀ j,s.drop (n+1+j)=((s.drop n).drop 1).drop j:=fun j=>by rw[Q0v,Q0v,Q0w]
 cases hS:s.drop n with
 | nil=>exact absurd hS hne
 | cons b r =>
 rw[hS]at hfin hrl hstep hSl hsub hdrop;obtain⟨hb,-⟩:=Yc hS;have hT:=Qss b r;generalize tokN (b::r)=T at hT hfin;have hw1:IntKind.i64.wrap ((n:Int)+1)=n+1:=wi64 (by omega);generalize hw:runN Zam.wordB (b::r)=w at hT hrl hstep;simp only[Qzj]at hSl hrl;have hsw:=hsub w (by omega);have hWl:((b::r).take w).length=w:=by simp only[Q0t,Qzj];omega
 have hWh:1≤w→∃ t,(b::r).take w=b::t:=fun h=>by
  obtain⟨v,rfl⟩:∃ v,w=v+1:=⟨w-1,by omega⟩;exact⟨_,rfl⟩
 have hwp:Zam.wordB b=true→1≤w:=fun h=>by
  have:=Qkk (r:=r) h;omega
 simp[Qjv,hw1,hb];refine Qa (hl b _) ?_;cases hlb:Wd b with
 | true =>
   have hw1':=hwp (by simp[Zam.wordB,hlb]);rw[hlb,if_pos rfl]at hT;simp;refine Q0 0 (fun fr H'=>fr 0=YS s∧fr 1=YI n∧fr 7=YI ((n:Int)+w)∧H'=H) ?_ ?_
   · refine Qz H.length (fun d fr H'=>∃ j,d=w-j∧1≤j∧j≤w∧fr 0=YS s∧fr 1=YI n∧fr 7=YI ((n:Int)+j)∧H'=H) (w-1) (by simp) ⟨1,rfl,Qy9 _,hw1',?_⟩ ?_
     · simp[Qb hcl]
     rintro d fr H' ⟨j,rfl,hj1,hj,f0,f1,f7,rfl⟩;have hm:=hstep j hj;have hwj:IntKind.i64.wrap ((n:Int)+j+1)=(n:Int)+((j:Int)+1):=by rw[wi64 (by omega)];omega
     cases hd2:s.drop (n+j) with
     | nil =>
       have h0:n+j=s.length:=by have:=Q0i.1 hd2;omega
       have h0':¬ ((n:Int)+j<s.length):=by omega
       rw[hd2]at hm;have:j=w:=by simp[Zv]at hm;omega
       subst this;simp[f0,f1,f7,h0']
     | cons c t =>
       obtain⟨hb2,hlt2⟩:=Yc hd2;have hlt2':(n:Int)+j<s.length:=by omega
       rw[hd2]at hm;simp only[Zv,Zam.wordB]at hm;simp only[Q0z]at hb2;simp[f0,f1,f7,hlt2',hb2];refine Qa (hl c _) ?_;have nx:j<w→∀ fr':Fr,fr' 0=YS s→fr' 1=YI n→fr' 7=YI ((n:Int)+((j:Int)+1))→True:=fun _ _ _ _ _=>trivial;cases hlc:Wd c with
       | true =>
         have hql:j<w:=by simpa[hlc] using hm
         simp[f0,f1,f7,hwj];refine Qe H'.length (w-(j+1)) (Qy9 _) (by simp) (by omega) ⟨j+1,rfl,by omega,by omega,?_⟩;simp[f0,f1,Qb hcl]
       | false =>
         simp[f0,f1,f7,hb2];refine Qa (hd c _) ?_;cases hdc:Wb c with
         | true =>
           have hql:j<w:=by simpa[hlc,hdc] using hm
           simp[f0,f1,f7,hwj];refine Qe H'.length (w-(j+1)) (Qy9 _) (by simp) (by omega) ⟨j+1,rfl,by omega,by omega,?_⟩;simp[f0,f1,Qb hcl]
         | false =>
           have:j=w:=by simp[hlc,hdc]at hm;omega
           subst this;simp[f0,f1,f7]
   rintro fr H' ⟨f0,f1,f7,rfl⟩;obtain⟨t,ht⟩:=hWh hw1';generalize (b::r).take w=W at hT hsw hWl ht;simp[f0,f1,f7,hsw];refine Qa (hk W _) ?_;by_cases hkW:W ∈ Yu
   · rw[if_pos hkW]at hT;simp[hkW,f7];simp[RetK,Qb hcl];exact hfin _ _ _ (by rw[hT]) (fun _=>by rw[hT];simp)
   rw[if_neg hkW]at hT;simp[hkW,f0,f1,hb];refine Qa (hl b _) ?_;by_cases h40:40<w
   · rw[if_pos h40]at hT;have h40':(40:Int)<w:=by omega
     simp[hlb,hWl,h40'];simp[RetK,Qb hcl];exact hfin _ _ _ (by rw[hT]) (fun h=>by cases h)
   · rw[if_neg h40]at hT;have h40':¬ (40:Int)<w:=by omega
     simp[hlb,hWl,h40',f7];simp[RetK,Qb hcl];exact hfin _ _ _ (by rw[hT]) (fun _=>by rw[hT];simp)
 | false =>
   rw[hlb]at hT;simp only[Qzh,if_false]at hT;simp[hb];refine Qa (hd b _) ?_;cases hdb:Wb b with
   | true =>
     have hw1':=hwp (by simp[Zam.wordB,hdb]);rw[hdb,if_pos rfl]at hT;simp;refine Q0 0 (fun fr H'=>fr 0=YS s∧fr 1=YI n∧fr 7=YI ((n:Int)+w)∧H'=H) ?_ ?_
     · refine Qz H.length (fun d fr H'=>∃ j,d=w-j∧1≤j∧j≤w∧fr 0=YS s∧fr 1=YI n∧fr 7=YI ((n:Int)+j)∧H'=H) (w-1) (by simp) ⟨1,rfl,Qy9 _,hw1',?_⟩ ?_
       · simp[Qb hcl]
       rintro d fr H' ⟨j,rfl,hj1,hj,f0,f1,f7,rfl⟩;have hm:=hstep j hj;have hwj:IntKind.i64.wrap ((n:Int)+j+1)=(n:Int)+((j:Int)+1):=by rw[wi64 (by omega)];omega
       cases hd2:s.drop (n+j) with
       | nil =>
         have h0:n+j=s.length:=by have:=Q0i.1 hd2;omega
         have h0':¬ ((n:Int)+j<s.length):=by omega
         rw[hd2]at hm;have:j=w:=by simp[Zv]at hm;omega
         subst this;simp[f0,f1,f7,h0']
       | cons c t =>
         obtain⟨hb2,hlt2⟩:=Yc hd2;have hlt2':(n:Int)+j<s.length:=by omega
         rw[hd2]at hm;simp only[Zv,Zam.wordB]at hm;simp only[Q0z]at hb2;simp[f0,f1,f7,hlt2',hb2];refine Qa (hl c _) ?_;have nx:j<w→∀ fr':Fr,fr' 0=YS s→fr' 1=YI n→fr' 7=YI ((n:Int)+((j:Int)+1))→True:=fun _ _ _ _ _=>trivial;cases hlc:Wd c with
         | true =>
           have hql:j<w:=by simpa[hlc] using hm
           simp[f0,f1,f7,hwj];refine Qe H'.length (w-(j+1)) (Qy9 _) (by simp) (by omega) ⟨j+1,rfl,by omega,by omega,?_⟩;simp[f0,f1,Qb hcl]
         | false =>
           simp[f0,f1,f7,hb2];refine Qa (hd c _) ?_;cases hdc:Wb c with
           | true =>
             have hql:j<w:=by simpa[hlc,hdc] using hm
             simp[f0,f1,f7,hwj];refine Qe H'.length (w-(j+1)) (Qy9 _) (by simp) (by omega) ⟨j+1,rfl,by omega,by omega,?_⟩;simp[f0,f1,Qb hcl]
           | false =>
             have:j=w:=by simp[hlc,hdc]at hm;omega
             subst this;simp[f0,f1,f7]
     rintro fr H' ⟨f0,f1,f7,rfl⟩;obtain⟨t,ht⟩:=hWh hw1';generalize (b::r).take w=W at hT hsw hWl ht;simp[f0,f1,f7,hsw];refine Qa (hk W _) ?_;have hkW:¬ W ∈ Yu:=fun q=>by
      have:=Qop W q;rw[ht,Qvi,hlb]at this;cases this
     rw[Qu4 (by rw[ht];simp)]at hT;simp[hkW,f0,f1,hb];refine Qa (hl b _) ?_;simp[hlb];refine Qq 2 (fun fr H''=>fr 7=YI ((n:Int)+w)∧numM 0 W=true∧H''=H') (fun fr H''=>fr 4=YI 0∧fr 5=YI 0∧fr 6=YI 23∧numM 0 W=false∧H''=H') ?_ ?_ ?_
     · refine Qz H'.length (fun d fr H''=>∃(i acc:Nat),d=w-i∧i≤w∧acc≤9223372036854775807∧numM 0 W=numM acc (W.drop i)∧fr 7=YI ((n:Int)+w)∧fr 8=YS W∧fr 9=.d (.int .u64 (acc:Int))∧fr 10=YI i∧H''=H') w (by simp) ⟨0,0,rfl,by omega,by omega,rfl,?_⟩ ?_
       · simp[f7,Qb hcl]
       rintro d fr H'' ⟨i,acc,rfl,hi,hacc,hnm,f7,f8,f9,f10,rfl⟩;rcases Q1c i w with hlt|hge
       · have hlt':(i:Int)<w:=by omega
         have hdi:W.drop i=W[i]'(by omega)::W.drop (i+1):=Qzw (by omega);obtain⟨hbi,-⟩:=Yc hdi;generalize W[i]'(by omega)=c at hdi hbi;rw[hdi,Qs8]at hnm;have hwi:IntKind.i64.wrap ((i:Int)+1)=((i+1:Nat):Int):=by rw[wi64 (by omega)];omega
         simp[f8,f10,hWl,hlt',hbi];refine Qa (hd c _) ?_;cases hdc:Wb c with
         | false =>
           rw[hdc]at hnm;simp only[Qzh,false_and,if_false]at hnm;simp[hnm]
         | true =>
           rw[hdc]at hnm;simp only[true_and]at hnm;have hc:48≤c.toNat∧c.toNat≤57:=by simp[Wb]at hdc;omega
           have e1:IntKind.u8.wrap ((c.toNat:Int)-48)=((c.toNat-48:Nat):Int):=by
            simp[IntKind.wrap,IntKind.bits,IntKind.signed];omega
           have e2:∀ x:Nat,x≤9223372036854775807→IntKind.u64.wrap (x:Int)=x:=fun x hx=>by
            simp[IntKind.wrap,IntKind.bits,IntKind.signed];omega
           generalize hdd:c.toNat-48=dd at e1 hnm;obtain⟨m,hm⟩:∃ m,m=9223372036854775807-dd:=⟨_,rfl⟩;obtain⟨q,hq⟩:∃ q,q=m / 10:=⟨_,rfl⟩;rw[← hm,← hq]at hnm;have hddl:dd≤9:=by omega
           have e3:IntKind.u64.wrap (9223372036854775807-(dd:Int))=(m:Int):=by
            rw[← e2 m (by omega)];congr 1;omega
           have e4:IntKind.u64.wrap (Int.tdiv (m:Int) 10)=(q:Int):=by
            have:=e2 q (by omega);rw[hq]at this ⊢;exact this
           have e4':IntKind.u64.wrap ((m:Int) / 10)=(q:Int):=by
            have:=e2 q (by omega);rw[hq]at this ⊢;exact this
           simp[f7,f8,f9,f10,hbi,e1,e2 dd (by omega),e3,e4,e4'];refine Qh (fun hbr => ?_) (fun hbr => ?_)
           · have hq':q<acc:=by simpa using hbr
             rw[if_neg (by omega)]at hnm;simp[hnm]
           · have hq':¬ (q<acc):=by simpa using hbr
             rw[if_pos (by omega)]at hnm;obtain⟨a10,ha⟩:∃ a10,a10=acc*10:=⟨_,rfl⟩;rw[← ha]at hnm;have e5:IntKind.u64.wrap ((acc:Int)*10)=(a10:Int):=by rw[← e2 a10 (by omega)];congr 1;omega
             have e6:IntKind.u64.wrap ((a10:Int)+dd)=((a10+dd:Nat):Int):=by rw[← e2 (a10+dd) (by omega)];congr 1
             simp only[Q0z]at e6;simp[f7,f8,f9,f10,e5,e6,hwi];refine Qe H''.length (w-(i+1)) (Qy9 _) (by simp) (by omega) ⟨i+1,a10+dd,rfl,by omega,by omega,hnm,?_⟩;simp[f7,f8,Qb hcl]
       · have:i=w:=by omega
         subst this;have h0':¬ ((i:Int)<i):=by omega
         rw[Q0a (by omega),Qu5]at hnm;simp[f7,f8,f10,hWl,hnm]
     · rintro fr H'' ⟨f4,f5,f6,hnm,rfl⟩;rw[hnm]at hT;simp only[Qzh,if_false]at hT;simp;simp[RetK,Qb hcl,f4,f5,f6];exact hfin _ _ _ (by rw[hT]) (fun h=>by cases h)
     · rintro fr H'' ⟨f7,hnm,rfl⟩;rw[hnm,if_pos rfl]at hT;simp[f7];simp[RetK,Qb hcl];exact hfin _ _ _ (by rw[hT]) (fun _=>by rw[hT];simp)
   | false =>
     rw[hdb]at hT;simp only[Qzh,if_false]at hT;by_cases h34:b=34
     · subst h34;rw[if_pos rfl]at hT;have hSV:strV (34::r)=match strS r with
        | none=>([],22)
        | some k=>((34::r).take (k+1),if (unqV ((34::r).take (k+1))).isSome then 0 else 22):=rfl
       simp[hb];refine Q0 4 (fun fr H'=>fr 0=YS s∧fr 1=YI n∧H'=H∧∃ j:Nat,fr 7=YI ((n:Int)+1+j)∧j≤s.length∧((strS r=none∧s.length≤n+1+j)∨(strS r=none∧n+1+j<s.length∧W6 s ((n:Int)+1+j)=some 10)∨(strS r=some (j+1)∧n+1+j<s.length∧W6 s ((n:Int)+1+j)=some 34))) ?_ ?_
       · refine Qz H.length (fun d fr H'=>∃ j,d=s.length+1-(n+1+j)∧n+1+j≤s.length+1∧strS r=(strS (r.drop j)).map (·+j)∧fr 0=YS s∧fr 1=YI n∧fr 7=YI ((n:Int)+1+j)∧H'=H) (s.length+1-(n+1+0)) (by simp) ⟨0,rfl,by omega,by simp,?_⟩ ?_
         · simp[Qb hcl]
         rintro d fr H' ⟨j,rfl,hj,hq,f0,f1,f7,rfl⟩;have hdj:=hdrop j;simp only[Q1v,Q29]at hdj;cases hd2:s.drop (n+1+j) with
         | nil =>
           have h0:=Q0i.1 hd2;have h0':¬ ((n:Int)+1+j<s.length):=by omega
           rw[← hdj,hd2]at hq;have hq:strS r=none:=by rw[hq];rfl
           simp[f0,f1,f7,h0',hq];exact⟨j,rfl,by omega,by omega⟩
         | cons c t =>
           obtain⟨hb2,hlt2⟩:=Yc hd2;have hlt2':(n:Int)+1+j<s.length:=by omega
           simp only[Q0z,Q26]at hb2;rw[hd2]at hdj;have hj1:r.drop (j+1)=t:=by rw[← Q0v,← hdj];rfl
           have hj2:r.drop (j+2)=t.drop 1:=by rw[← hj1,Q0v]
           rw[← hdj,Qsw]at hq;have hwA:IntKind.i64.wrap ((n:Int)+1+j+1)=(n:Int)+1+((j:Int)+1):=by rw[wi64 (by omega)];omega
           have hwB:IntKind.i64.wrap ((n:Int)+1+((j:Int)+1)+1)=(n:Int)+1+((j:Int)+2):=by rw[wi64 (by omega)];omega
           by_cases c34:c=34
           · subst c34;rw[if_pos rfl]at hq;have hq:strS r=some (j+1):=by rw[hq];simp;omega
             simp[f0,f1,f7,hlt2',hb2,hq];exact⟨j,rfl,by omega,by omega,by omega,hb2⟩
           have n34:¬ ((c.toNat:Int)=34):=fun e=>c34 ((Y7 c 34).1 e);rw[if_neg c34]at hq;by_cases c10:c=10
           · subst c10;have hq:strS r=none:=by rw[hq];simp
             simp[f0,f1,f7,hlt2',hb2,hq];exact⟨j,rfl,by omega,.inr ⟨by omega,hb2⟩⟩
           have n10:¬ ((c.toNat:Int)=10):=fun e=>c10 ((Y7 c 10).1 e);by_cases c92:c=92
           · subst c92;rw[if_pos rfl]at hq;simp[f0,f1,f7,hlt2',hb2,hwA,hwB];refine Qe H'.length (s.length+1-(n+1+(j+2))) (Qy9 _) (by simp) (by omega) ⟨j+2,rfl,by omega,?_,?_⟩
             · rw[hq,hj2];cases strS (t.drop 1)<;>simp;omega
             · simp[f0,f1,Qb hcl]
           have n92:¬ ((c.toNat:Int)=92):=fun e=>c92 ((Y7 c 92).1 e);rw[if_neg c92,if_neg c10]at hq;simp[f0,f1,f7,hlt2',hb2,hwA,n34,n10,n92];refine Qe H'.length (s.length+1-(n+1+(j+1))) (Qy9 _) (by simp) (by omega) ⟨j+1,rfl,by omega,?_,?_⟩
           · rw[hq,hj1];cases strS t<;>simp;omega
           · simp[f0,f1,Qb hcl]
       rintro fr H' ⟨f0,f1,rfl,j,f7,hjl,hor⟩;rcases hor with⟨hq,hge⟩|⟨hq,hlt,hbj⟩|⟨hq,hlt,hbj⟩
       · rw[hq]at hSV;rw[hSV]at hT;have hge':(s.length:Int)≤(n:Int)+1+j:=by omega
         simp[f0,f1,f7,hge'];simp[RetK,Qb hcl];exact hfin _ _ _ (by rw[hT];rfl) (fun h=>by cases h)
       · rw[hq]at hSV;rw[hSV]at hT;have hge':¬ (s.length:Int)≤(n:Int)+1+j:=by omega
         simp[f0,f1,f7,hge',hbj];simp[RetK,Qb hcl];exact hfin _ _ _ (by rw[hT];rfl) (fun h=>by cases h)
       · rw[hq]at hSV;rw[hSV]at hT;have hge':¬ (s.length:Int)≤(n:Int)+1+j:=by omega
         have hwA:IntKind.i64.wrap ((n:Int)+1+j+1)=(n:Int)+((j+2:Nat):Int):=by rw[wi64 (by omega)];omega
         have hsj:=hsub (j+2) (by omega);have hul:((34::r:Bs).take (j+2)).length=j+2:=by simp only[Q0t,Qzj];omega
         simp only at hT;generalize (34::r:Bs).take (j+1+1)=U at hT hsj hul;have hrange:IntKind.i64.wrap ((n:Int)+1+j+1)=(n:Int)+((j+2:Nat):Int):=hwA;generalize hJ:(n:Int)+((j+2:Nat):Int)=J at hwA hsj;simp[f0,f1,f7,hge',hbj,hwA,hsj];refine Qa (hu U _ (by omega)) ?_;cases hv:unqV U with
         | none =>
           rw[hv]at hT;simp[unqR];simp[RetK,Qb hcl];exact hfin _ _ _ (by rw[hT];rfl) (fun h=>by cases h)
         | some x =>
           rw[hv]at hT;simp[unqR,f7,hwA];simp[RetK,Qb hcl];exact hfin _ _ _ (by rw[hT];rfl) (fun _=>by rw[hT];simp;omega)
     have n34:¬ ((b.toNat:Int)=34):=fun e=>h34 ((Y7 b 34).1 e);rw[if_neg h34]at hT;obtain⟨L,hL⟩:∃ L:Bs,L=[40,41,123,125,44,59,58,46,61,43,45,42,60]:=⟨_,rfl⟩;have hLl:L.length=13:=by rw[hL];rfl
     by_cases htwo:b=61∧∃ r',r=61::r'
     · obtain⟨rfl,r',rfl⟩:=htwo;have hb1:W6 s ((n:Int)+1)=some 61:=by
        have:s.drop (n+1)=61::r':=by rw[← Q0v,hS];rfl
        simpa using(Yc this).1
       have hlt:(n:Int)+1<s.length:=by simp only[Qzj]at hSl;omega
       have hG:Ve (61::61::r')=[61,61]:=by rw[Qn8];rfl
       rw[hG,if_neg (by simp)]at hT;have hwA:IntKind.i64.wrap ((n:Int)+1+1)=(n:Int)+2:=by rw[wi64 (by omega)];omega
       simp[hb,hb1,hlt,hwA];simp[RetK,Qb hcl];exact hfin _ _ _ (by rw[hT]) (fun _=>by rw[hT];simp)
     have hG:Ve (b::r)=if b ∈ L then [b] else []:=by
      cases r with
      | nil=>rw[hL];exact Qwe b
      | cons c r' =>
        rw[Qn8,if_neg (fun q=>htwo ⟨q.1,r',by rw[q.2]⟩),hL]
     rw[hG]at hT;obtain⟨b1,hb1,hone⟩:∃ b1:Bool,(b1=true→(n:Int)+1<s.length)∧b1=decide ((n:Int)+1<s.length):=⟨_,fun h=>by simpa using h,rfl⟩;have hcond:b=61→(n:Int)+1<s.length→∃ c:UInt8,W6 s ((n:Int)+1)=some c∧¬ ((c.toNat:Int)=61):=fun h61 hlt=>by
      cases r with
      | nil=>simp only[Qz6]at hSl;omega
      | cons c r' =>
        refine⟨c,?_,fun e=>htwo ⟨h61,r',by rw[(Y7 c 61).1 e]⟩⟩;have:s.drop (n+1)=c::r':=by rw[← Q0v,hS];rfl
        simpa using(Yc this).1
     clear hb1 hone b1;have hloop:True:=trivial;by_cases hlt:(n:Int)+1<s.length
     · by_cases h61:b=61
       · obtain⟨c,hc1,hc2⟩:=hcond h61 hlt;have e61:(b.toNat:Int)=61:=by rw[h61];rfl
         simp[hb,hlt,hc1,hc2,e61];refine Qq 6 (fun fr H'=>b ∉ L∧H'=H) (fun fr H'=>fr 4=YI 5∧fr 5=YI ((n:Int)+1)∧fr 6=YI 0∧b ∈ L∧H'=H) ?_ ?_ ?_
         · refine Qz H.length (fun d fr H'=>∃ i:Nat,d=13-i∧i≤13∧b ∉ L.take i∧fr 0=YS s∧fr 1=YI n∧fr 7=YI ((n:Int)+1)∧fr 14=YS L∧fr 15=YI i∧H'=H) 13 (by simp) ⟨0,rfl,by omega,by simp,?_⟩ ?_
           · simp[Qb hcl,hL]
           rintro d fr H' ⟨i,rfl,hi,hni,f0,f1,f7,f14,f15,rfl⟩;rcases Q1c i 13 with hlt13|hge13
           · have hlt':(i:Int)<13:=by omega
             have hdi:L.drop i=L[i]'(by omega)::L.drop (i+1):=Qzw (by omega);have htk:L.take (i+1)=L.take i++[L[i]'(by omega)]:=Qzl (by omega);have hmem:L[i]'(by omega) ∈ L:=Q0b _;obtain⟨hbi,-⟩:=Yc hdi;generalize L[i]'(by omega)=c at hdi hbi htk hmem;have hwi:IntKind.i64.wrap ((i:Int)+1)=((i+1:Nat):Int):=by rw[wi64 (by omega)];omega
             simp[f0,f1,f14,f15,hLl,hlt',hbi,hb];by_cases hcb:c=b
             · subst hcb;simp[f7,hmem]
             · have hcb':¬ ((c.toNat:Int)=b.toNat):=fun e=>hcb ((Y7 c b).1 e);have hcb2:¬ c.toNat=b.toNat:=fun e=>hcb' (by rw[e]);simp[hcb,hcb',hcb2,f15,hwi];refine Qe H'.length (13-(i+1)) (Qy9 _) (by simp) (by omega) ⟨i+1,rfl,by omega,by rw[htk];simp[hni];exact Ne.symm hcb,?_⟩;simp[f0,f1,f7,f14,Qb hcl]
           · have:i=13:=by omega
             subst this;rw[Qzm (by omega)]at hni;simp[f14,f15,hLl,hni]
         · rintro fr H' ⟨f4,f5,f6,hm,rfl⟩;rw[if_pos hm,if_neg (by simp)]at hT;simp;simp[RetK,Qb hcl,f4,f5,f6];exact hfin _ _ _ (by rw[hT]) (fun _=>by rw[hT];simp)
         · rintro fr H' ⟨hm,rfl⟩;rw[if_neg hm,if_pos rfl]at hT;simp;simp[RetK,Qb hcl];exact hfin _ _ _ (by rw[hT]) (fun h=>by cases h)
       · have n61:¬ ((b.toNat:Int)=61):=fun e=>h61 ((Y7 b 61).1 e);simp[hb,hlt,n34,n61];refine Qq 6 (fun fr H'=>b ∉ L∧H'=H) (fun fr H'=>fr 4=YI 5∧fr 5=YI ((n:Int)+1)∧fr 6=YI 0∧b ∈ L∧H'=H) ?_ ?_ ?_
         · refine Qz H.length (fun d fr H'=>∃ i:Nat,d=13-i∧i≤13∧b ∉ L.take i∧fr 0=YS s∧fr 1=YI n∧fr 7=YI ((n:Int)+1)∧fr 14=YS L∧fr 15=YI i∧H'=H) 13 (by simp) ⟨0,rfl,by omega,by simp,?_⟩ ?_
           · simp[Qb hcl,hL]
           rintro d fr H' ⟨i,rfl,hi,hni,f0,f1,f7,f14,f15,rfl⟩;rcases Q1c i 13 with hlt13|hge13
           · have hlt':(i:Int)<13:=by omega
             have hdi:L.drop i=L[i]'(by omega)::L.drop (i+1):=Qzw (by omega);have htk:L.take (i+1)=L.take i++[L[i]'(by omega)]:=Qzl (by omega);have hmem:L[i]'(by omega) ∈ L:=Q0b _;obtain⟨hbi,-⟩:=Yc hdi;generalize L[i]'(by omega)=c at hdi hbi htk hmem;have hwi:IntKind.i64.wrap ((i:Int)+1)=((i+1:Nat):Int):=by rw[wi64 (by omega)];omega
             simp[f0,f1,f14,f15,hLl,hlt',hbi,hb];by_cases hcb:c=b
             · subst hcb;simp[f7,hmem]
             · have hcb':¬ ((c.toNat:Int)=b.toNat):=fun e=>hcb ((Y7 c b).1 e);have hcb2:¬ c.toNat=b.toNat:=fun e=>hcb' (by rw[e]);simp[hcb,hcb',hcb2,f15,hwi];refine Qe H'.length (13-(i+1)) (Qy9 _) (by simp) (by omega) ⟨i+1,rfl,by omega,by rw[htk];simp[hni];exact Ne.symm hcb,?_⟩;simp[f0,f1,f7,f14,Qb hcl]
           · have:i=13:=by omega
             subst this;rw[Qzm (by omega)]at hni;simp[f14,f15,hLl,hni]
         · rintro fr H' ⟨f4,f5,f6,hm,rfl⟩;rw[if_pos hm,if_neg (by simp)]at hT;simp;simp[RetK,Qb hcl,f4,f5,f6];exact hfin _ _ _ (by rw[hT]) (fun _=>by rw[hT];simp)
         · rintro fr H' ⟨hm,rfl⟩;rw[if_neg hm,if_pos rfl]at hT;simp;simp[RetK,Qb hcl];exact hfin _ _ _ (by rw[hT]) (fun h=>by cases h)
     · simp[hb,hlt,n34];refine Qq 6 (fun fr H'=>b ∉ L∧H'=H) (fun fr H'=>fr 4=YI 5∧fr 5=YI ((n:Int)+1)∧fr 6=YI 0∧b ∈ L∧H'=H) ?_ ?_ ?_
       · refine Qz H.length (fun d fr H'=>∃ i:Nat,d=13-i∧i≤13∧b ∉ L.take i∧fr 0=YS s∧fr 1=YI n∧fr 7=YI ((n:Int)+1)∧fr 14=YS L∧fr 15=YI i∧H'=H) 13 (by simp) ⟨0,rfl,by omega,by simp,?_⟩ ?_
         · simp[Qb hcl,hL]
         rintro d fr H' ⟨i,rfl,hi,hni,f0,f1,f7,f14,f15,rfl⟩;rcases Q1c i 13 with hlt13|hge13
         · have hlt':(i:Int)<13:=by omega
           have hdi:L.drop i=L[i]'(by omega)::L.drop (i+1):=Qzw (by omega);have htk:L.take (i+1)=L.take i++[L[i]'(by omega)]:=Qzl (by omega);have hmem:L[i]'(by omega) ∈ L:=Q0b _;obtain⟨hbi,-⟩:=Yc hdi;generalize L[i]'(by omega)=c at hdi hbi htk hmem;have hwi:IntKind.i64.wrap ((i:Int)+1)=((i+1:Nat):Int):=by rw[wi64 (by omega)];omega
           simp[f0,f1,f14,f15,hLl,hlt',hbi,hb];by_cases hcb:c=b
           · subst hcb;simp[f7,hmem]
           · have hcb':¬ ((c.toNat:Int)=b.toNat):=fun e=>hcb ((Y7 c b).1 e);have hcb2:¬ c.toNat=b.toNat:=fun e=>hcb' (by rw[e]);simp[hcb,hcb',hcb2,f15,hwi];refine Qe H'.length (13-(i+1)) (Qy9 _) (by simp) (by omega) ⟨i+1,rfl,by omega,by rw[htk];simp[hni];exact Ne.symm hcb,?_⟩;simp[f0,f1,f7,f14,Qb hcl]
         · have:i=13:=by omega
           subst this;rw[Qzm (by omega)]at hni;simp[f14,f15,hLl,hni]
       · rintro fr H' ⟨f4,f5,f6,hm,rfl⟩;rw[if_pos hm,if_neg (by simp)]at hT;simp;simp[RetK,Qb hcl,f4,f5,f6];exact hfin _ _ _ (by rw[hT]) (fun _=>by rw[hT];simp)
       · rintro fr H' ⟨hm,rfl⟩;rw[if_neg hm,if_pos rfl]at hT;simp;simp[RetK,Qb hcl];exact hfin _ _ _ (by rw[hT]) (fun h=>by cases h)
end
section
theorem HasT.lex4{f fb fl fo tt}(h:HasT P [6] f (Qha fb fl fo tt))(hb:∀ (s:Bs) H,s.length≤1048576→Qc P fb [YS s] H (fun r H'=>r=YI (badS s)∧H'=H))(hl:∀ (s:Bs) (n:Nat),n≤s.length→s.length≤1048576→∀ H,Qc P fl [YS s,YI n] H (fun r H'=>r=YI ((n+Qn false (s.drop n):Nat):Int)∧H'=H))(ho:∀ (s:Bs) (n:Nat),n<s.length→s.length≤1048576→∀ H,Qc P fo [YS s,YI n] H (Qp1 (s.drop n) n H))(s:Bs)(hs:s.length≤1048576)(H:Hp) :
 Qc P f [YS s] H (fun r H'=>r=.tup [YL true 4 ((lexS s).1.map Qt),YI (lexS s).2.1,YI (lexS s).2.2]∧H'=H):=by
 obtain⟨fnn,hf,hcf⟩:=h;refine Qr hf hcf (by simp[Qha]) fun hcl _ => ?_;by_cases h1:16384<s.length
 case pos =>
  have h1':(16384:Int)<s.length:=by omega
  simp[Qha,h1'];simp[RetK,Qb hcl,lexS,h1]
 have h1':¬ (16384:Int)<s.length:=by omega
 have hbs:=hb s H hs;have hL:lexS s=if 0≤badS s then ([],20,badS s) else lexF (s.length+1) s 0 0:=by rw[lexS,if_neg h1]
 generalize lexS s=LS at hL;generalize badS s=bs at hL hbs;simp[Qha,h1'];refine Qa hbs ?_;simp;refine Qh (fun h2 => ?_) (fun h2 => ?_)
 · have h2:0≤bs:=by simpa using h2
   rw[if_pos h2]at hL;subst hL;simp;simp[RetK,Qb hcl]
 have h2:¬ 0≤bs:=by simpa using h2
 rw[if_neg h2]at hL;simp;refine Qz (H.length+1) (fun d fr H'=>∃(p:Nat)(acc:List Tk),p≤s.length∧s.length-p<d∧LS=Qcb acc (lexF d (s.drop p) p acc.length)∧acc.length≤4000∧fr 0=YS s∧fr 6=.osl true 4 (acc.map Qt) H.length∧fr 7=YI p∧H'=H++[.tok acc.length 4 tt]) (s.length+1) (by simp) ⟨0,[],by omega,by omega,?_,by simp,?_⟩ ?_
 · simp only[Q29,Qz6];rw[hL];exact(Qmp _ _ _ _).symm
 · simp[Qm hcl]
 rintro d fr H' ⟨p,acc,hp,hd,hLS,hacc,f0,f6,f7,rfl⟩;obtain⟨d',rfl⟩:∃ d',d=d'+1:=⟨d-1,by omega⟩;have g1:=hl s p hp hs (H++[.tok acc.length 4 tt]);simp[f0,f7];have hll:=Qci false (s.drop p);simp only[Q0f]at hll;rw[lexF]at hLS;simp only[Qaw]at hLS;have htl:=Qgt (s.drop (p+Qn false (s.drop p)));simp only[Q0f]at htl;have hsb:=Qej (s:=s) (n:=p) (w:=Qn false (s.drop p)) (by omega);have g2:=fun H=>fun h=>ho s (p+Qn false (s.drop p)) h hs H;unfold Qp1 at g2;generalize hn:Qn false (s.drop p)=n at hLS hll g1 g2 htl hsb;have hnil:p+n=s.length→tokN (s.drop (p+n))=(0,0,0):=fun e=>by rw[Q0a (by omega)];rfl
 generalize hTT:tokN (s.drop (p+n))=T at hLS g2 htl hnil;obtain⟨e,k,m⟩:=T;simp only at hLS htl g2;obtain⟨t1,t2,t3,t4⟩:=htl;refine Qa g1 ?_;simp[f0,f7,hsb];rcases Q1c (p+n) s.length with hlt|hge
 · have hlt':(p:Int)+n<s.length:=by omega
   have hne:s.drop (p+n)≠[]:=fun q=>by have:=Q0i.1 q;omega
   simp[f0,hlt'];have g3:=fun H=>g2 H hlt;simp only[Q0z]at g3;refine Qd (g3 _) ?_;rintro _ _ ⟨k',m',rfl,rfl,hx⟩;by_cases he:e=0
   case neg =>
    rw[if_pos he]at hLS;have:LS=([],e,((p+n:Nat):Int)):=by rw[hLS];simp[Qcb,he]
    simp[he];simp[RetK,Qf hcl,this]
   obtain⟨rfl,hm'⟩:=hx he;subst hm';rw[if_neg (by simp[he])]at hLS;subst he;have hsm:=Qej (s:=s) (n:=p+n) (w:=m) (by omega);simp only[Q0z]at hsm;simp[f0];by_cases h4:4000≤acc.length
   case pos =>
    have h4':(4000:Int)≤acc.length:=by omega
    rw[if_pos h4]at hLS;have:LS=([],5,((p+n:Nat):Int)):=by rw[hLS];simp[Qcb]
    simp[f6,f7,h4'];simp[RetK,Qf hcl,this]
   have h4':¬ (4000:Int)≤acc.length:=by omega
   rw[if_neg h4]at hLS;obtain⟨t,ht⟩:∃ t:Tk,t=⟨k',p+n,(s.drop p).take n,(s.drop (p+n)).take m⟩:=⟨_,rfl⟩;have hbt:acc.map Qt++[[.int .i64 k',.int .i64 ((p:Int)+n),.str ((s.drop p).take n),.str ((s.drop (p+n)).take m)]]=(acc++[t]).map Qt:=by
    simp[Qt,ht]
   rw[← ht]at hLS;have hap:(acc.map Qt).length=acc.length:=by simp
   simp[f0,f6,f7,h4',hsm,appA];rw[if_pos (by omega)];simp;by_cases hk:k'=0
   · rw[if_pos hk]at hLS;have hLS':LS=(acc++[t],0,0):=by rw[hLS];simp[Qcb]
     subst hk;simp[hbt];simp[RetK,Qf hcl,hLS']
   · rw[if_neg hk,← Qln]at hLS;simp[hk,hbt];have hm1:=t3 rfl hne;refine Qe (H.length+1) d' (Qy9 _) (by simp) (by omega) ⟨p+n+m,acc++[t],by omega,by omega,?_,by simp;omega,?_⟩
     · simpa using hLS
     · simp[f0,Qm hcl]
 · have hlt':¬ (p:Int)+n<s.length:=by omega
   have hpn:p+n=s.length:=by omega
   obtain⟨rfl,h2⟩:=Prod.mk.inj (hnil hpn);obtain⟨rfl,rfl⟩:=Prod.mk.inj h2;rw[if_neg (by simp)]at hLS;have hsm:=Qej (s:=s) (n:=p+n) (w:=0) (by omega);simp only[Q0z,Q1t,Q2o]at hsm;simp[f0,hlt'];by_cases h4:4000≤acc.length
   case pos =>
    have h4':(4000:Int)≤acc.length:=by omega
    rw[if_pos h4]at hLS;have:LS=([],5,((p+n:Nat):Int)):=by rw[hLS];simp[Qcb]
    simp[f6,f7,h4'];simp[RetK,Qf hcl,this]
   have h4':¬ (4000:Int)≤acc.length:=by omega
   rw[if_neg h4]at hLS;obtain⟨t,ht⟩:∃ t:Tk,t=⟨0,p+n,(s.drop p).take n,(s.drop (p+n)).take 0⟩:=⟨_,rfl⟩;have hbt:acc.map Qt++[[.int .i64 0,.int .i64 ((p:Int)+n),.str ((s.drop p).take n),.str ((s.drop (p+n)).take 0)]]=(acc++[t]).map Qt:=by
    simp[Qt,ht]
   rw[← ht]at hLS;have hap:(acc.map Qt).length=acc.length:=by simp
   simp[f0,f6,f7,h4',hsm,appA];rw[if_pos (by omega)];simp;rw[if_pos rfl]at hLS;have hLS':LS=(acc++[t],0,0):=by rw[hLS];simp[Qcb]
   simp[RetK,Qf hcl,hLS',ht,Qt]
end
end Go.Zam
