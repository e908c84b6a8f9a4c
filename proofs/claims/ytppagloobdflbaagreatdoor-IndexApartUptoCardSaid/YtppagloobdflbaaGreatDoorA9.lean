/-
  Texts of one proof, one behind the other.
-/
import Derived.Test.YtppagloobdflbaaGreatDoorA8
import Derived.Test.YtppagloobdflbaaGreatDoorA2
import Derived.Test.YtppagloobdflbaaGreatDoorProg
import Derived.Test.YtppagloobdflbaaGreatDoorA3
import Derived.Test.YtppagloobdflbaaGreatDoorA6
import Derived.Test.YtppagloobdflbaaGreatDoorA4
import Derived.Shelf.GgSortFunc.InsertionK
import Derived.Test.YtppagloobdflbaaGreatDoorA5
import Derived.Shelf.Sort.Plain
import Derived.Shelf.Slices.In.SortNone
import Derived.Shelf.SlSortCmp.NoneTotal
import Derived.Shelf.SlSortCmp.WholeK
import Derived.Shelf.Small.Bits
import Derived.Shelf.Lays
import Derived.Ground.NamesProg
import Derived.Ground.SlsfProg
import Derived.Lib.Small
import Derived.Lib.Walk
import Derived.WalkKit
import Derived.Sort.Grow
import Derived.StillTailTactics
import Derived.RangeFuncRecord
import Derived.Test.YtppagloobdflbaaGreatDoorA7
import Derived.KernelRfl
set_option linter.all false
set_option maxRecDepth 100000
set_option maxHeartbeats 4000000
namespace Go.Zam
variable{P:Program}
section
open Go.Proofs
end
section
open Go.Proofs
def hitM(ms:List Mn)(t k:Int):Bool:=ms.any fun m=>decide (m.a=t∧m.t=k)
def hitK(b:SBd)(ms:List Mn)(t k:Int):Bool:=decide (b.a=t)||hitM ms t k
def plB(S:List Un)(u:Un)(s:Bs×Int)(t k:Nat):List (Bs×Int):=match u.sm.bs[k]?,u.tk[t]? with
 | some b,some x=>if ofSy S u b=s∧hitK b u.sm.ms t k=true then [(u.n,(x.a:Int))] else []
 | _,_=>[]
def plT(S:List Un)(u:Un)(s:Bs×Int)(k t:Nat):List (Bs×Int):=(List.range k).flatMap (plB S u s t)
def plV(S:List Un)(u:Un)(s:Bs×Int)(t:Nat):List (Bs×Int):=(List.range t).flatMap (plT S u s u.sm.bs.length)
def plU(S:List Un)(s:Bs×Int)(u:Un):List (Bs×Int):=plV S u s u.tk.length
def Qba(S:List Un)(s:Bs×Int):List (Bs×Int):=S.flatMap (plU S s)
theorem Qxj(S:List Un)(u:Un)(s:Bs×Int)(t k:Nat):(plB S u s t k).length≤1:=by
 unfold plB;split
 · split<;>simp
 · simp
theorem Qsd(S:List Un)(u:Un)(s:Bs×Int)(t:Nat):∀ k,(plT S u s k t).length≤k
 | 0=>by simp[plT]
 | k + 1 => by
   have h1:=Qsd S u s t k;have h2:=Qxj S u s t k;unfold plT at h1 ⊢;rw[Q4e,Q3q,Q0z];simp;simp at h1;omega
theorem Qsc(S:List Un)(u:Un)(s:Bs×Int):∀ t,(plV S u s t).length≤t*u.sm.bs.length
 | 0=>by simp[plV]
 | t + 1 => by
   have h1:=Qsc S u s t;have h2:=Qsd S u s t u.sm.bs.length;unfold plV at h1 ⊢;rw[Q4e,Q3q,Q0z,Q1a];simp;simp at h1;omega
theorem Qvs(S:List Un)(u:Un)(s:Bs×Int)(k t:Nat):plT S u s (k+1) t=plT S u s k t++plB S u s t k:=by
 unfold plT;rw[Q4e,Q3q];simp
theorem Qmt{g:Un→List (Bs×Int)}{b:Nat}:∀ {T:List Un},(∀ u ∈ T,(g u).length≤b)→(T.flatMap g).length≤T.length*b
 | [],_=>by simp
 | u :: r, h => by
   have h1:=Qmt (g:=g) (T:=r) fun v hv=>h v (by simp[hv]);have h2:=h u (by simp);rw[Q2i,Q0z,Q0k,Q1a];omega
def Sm16(u:Un):Prop:=u.tk.length≤65536∧u.sm.bs.length≤65536∧u.sm.ms.length≤65536
end
section
open Go.Proofs
def Qfc(names unit ixOf uses ixSort tSy tU tBd tSp:Nat):IFn:=by
 have h:=Ix.J [5,11000005,2000061] Tryz.f8 [(12,names),(13,unit),(16,ixOf),(17,uses),(18,ixSort)] [(33,tSy),(58,tU),(67,tBd),(31,tSp)];conv at h=>arg 1;reduce
 exact h.p
end
section
open Go.RowKit (Below)
open Go.Proofs Go.Sort
def spV(x:Bs×Int):List Value:=[.string ⟨x.1.toArray⟩,.int .i64 x.2]
def spA(x:Bs×Int):List A:=[YS x.1,YI x.2]
def Zr(L:List (Bs×Int)):List (List A):=L.map spA
theorem Qt0(d:Array (Bs×Int))(i:Nat)(hi:i<d.size)(x:Bs×Int):((flatK spV 2 d).setIfInBounds (i*2) (.string ⟨x.1.toArray⟩)).setIfInBounds (i*2+1) (.int .i64 x.2)=flatK spV 2 (d.setIfInBounds i x):=by
 have h:((flatK spV 2 d).setIfInBounds (i*2) (.string ⟨x.1.toArray⟩)).setIfInBounds (i*2+1) (.int .i64 x.2)=setMany (flatK spV 2 d) (i*2) (spV x):=rfl;rw[h];refine ext_get! (by simp) fun t ht => ?_;have ht':t<d.size*2:=by simpa using ht
 rw[get_setMany _ _ _ t (by simpa using ht'),get_flatK _ _ _ t ht',get_flatK _ _ _ t (by simpa using ht')];have hl:(spV x).length=2:=rfl;rw[hl];by_cases a:i*2≤t∧t<i*2+2
 · have e:t / 2=i:=by omega
   rw[if_pos a,e];have e2:t-i*2=t % 2:=by omega
   rw[e2];simp[hi]
 · have e:t / 2≠i:=by omega
   rw[if_neg a];have ht2:t / 2<d.size:=by omega
   simp[ht2,Ne.symm e,Array.getElem_setIfInBounds]
theorem HR.putSps{κ:K}{H:Hp}{w:World}(h:HR κ H w){i b:Nat}{s:Option (TypeId×Nat)}{L0 d:List (Bs×Int)}(hi:H[i]?=some (.arr 2 (Zr L0)))(hβ : κ.β i=.arr b 2 s)(hd:d.length=L0.length)(h0:HoldsK spV 2 w b 0 L0.toArray):∀ k:Nat,k≤L0.length→HR κ (H.set i (.arr 2 (Zr (d.take k++L0.drop k)))) (putRowK spV 2 w b 0 (d.take k++L0.drop k).toArray)
 | 0, _ => by
   have hH:H.set i (.arr 2 (Zr L0))=H:=by
    refine Q1d fun j => ?_;by_cases hj:i=j
    · subst hj;rw[Q0a (Qz5.1 hi).1,hi]
    · rw[Qz9 hj]
   rw[Q19,Q2x,Q0x,hH,putRowK_self _ _ _ _ _ _ h0];exact h
 | k + 1, hk => by
   have ih:=HR.putSps h hi hβ hd h0 k (by omega);have hil:i<H.length:=(Qz5.1 hi).1;have hx:d.take (k+1)++L0.drop (k+1)=(d.take k++L0.drop k).set k (d[k]'(by omega)):=by
    have e1:L0.drop k=L0[k]'(by omega)::L0.drop (k+1):=Q0v (by omega);have e2:d.take (k+1)=d.take k++[d[k]'(by omega)]:=Q0i (by omega);have hm:k-(d.take k).length=0:=by simp;omega
    rw[e2,Q1s _ _ (by simp;omega),hm,e1,List.set_cons_zero,Q0n];rfl
   have hlen:(d.take k++L0.drop k).length=L0.length:=by simp;omega
   generalize d.take k++L0.drop k=X at ih hx hlen;rw[hx];have hkX:k<X.length:=by omega
   have hXk:X[k]?=some (X[k]'hkX):=Qz6 hkX;have hrow:(Zr X)[k]?=some [YS (X[k]'hkX).1,YI (X[k]'hkX).2]:=by rw[Zr,Q0h,hXk];rfl
   have hs:∀ {κ:K},VR κ (.string ⟨(d[k]'(by omega)).1.toArray⟩) (YS (d[k]'(by omega)).1):=fun {κ} => .d (DR.strOf _);have s1:=ih.setArr (i:=i) (k:=k) (j:=0) (by rw[Q0a hil]) hβ hrow (by simp) (v := .string ⟨(d[k]'(by omega)).1.toArray⟩) (a:=YS (d[k]'(by omega)).1) rfl hs;rw[Q11]at s1;have hrow2:((Zr X).set k [YS (d[k]'(by omega)).1,YI (X[k]'hkX).2])[k]?=some [YS (d[k]'(by omega)).1,YI (X[k]'hkX).2]:=by
    rw[Q0a (by simp[Zr];omega)]
   have s2:=s1.setArr (i:=i) (k:=k) (j:=1) (by rw[Q0a hil];rfl) hβ hrow2 (by simp) (v := .int .i64 (d[k]'(by omega)).2) (a:=YI (d[k]'(by omega)).2) rfl (.d (DR.int _ _));rw[Q11,Q11]at s2;have e3:((putRowK spV 2 w b 0 X.toArray).setCell ⟨b,k*2+0,none⟩ (.string ⟨(d[k]'(by omega)).1.toArray⟩)).setCell ⟨b,k*2+1,none⟩ (.int .i64 (d[k]'(by omega)).2)=putRowK spV 2 w b 0 (X.set k (d[k]'(by omega))).toArray:=by
    have p1:=putRow_set id w b 0 (flatK spV 2 X.toArray) (k*2) (.string ⟨(d[k]'(by omega)).1.toArray⟩) (by simp;omega);have p2:=putRow_set id w b 0 ((flatK spV 2 X.toArray).setIfInBounds (k*2) (.string ⟨(d[k]'(by omega)).1.toArray⟩)) (k*2+1) (.int .i64 (d[k]'(by omega)).2) (by simp;omega);rw[Q1i]at p1 p2;unfold putRowK;rw[Q18];simp only[id]at p1 p2;rw[p1,p2,Qt0 _ _ (by simp;omega)];simp
   rw[e3]at s2;have e4:(Zr X).set k [YS (d[k]'(by omega)).1,YI (d[k]'(by omega)).2]=Zr (X.set k (d[k]'(by omega))):=by
    simp[Zr,Q3t,spA]
   simpa[e4] using s2
theorem Qu2(x:Bs×Int):∀ v ∈ spV x,v.oneCell'=true:=fun v hv=>by
 simp only[spV,Q0w,Q2p,or_false]at hv;rcases hv with rfl|rfl<;>rfl
def Qoa(P:Program)(f g:FuncId)(le:(Bs×Int)→(Bs×Int)→Bool):Prop:=∀(blk off cap:Nat)(ss:List (Bs×Int))(w:World),HoldsK spV 2 w blk off ss.toArray→blk<w.heap.size→ss.length<4611686018427387904 →
 Calls P f #[.slice (some ⟨blk,off,none⟩) ss.length cap,.func (.func g) #[] #[]] w fun e w'=>e=.returned (.tuple #[])∧∃ n os,w'=sortWorldK spV 2 w blk off n (ss.mergeSort le).toArray os
theorem Qnj{P:Program}{f g:FuncId}{le:(Bs×Int)→(Bs×Int)→Bool}(hS:Qoa P f g le){L:List (Bs×Int)}(hne:L≠[])(hl:L.length<4611686018427387904){H:Hp}{i:Nat}(hi:H[i]?=some (.arr 2 (Zr L))) :
 Qc P f [.msl i 0 L.length,.d (.fn g)] H (fun r H'=>r=.tup []∧H'=H.set i (.arr 2 (Zr (L.mergeSort le)))):=by
 intro κ w vs hr hvl hv
 match vs,hvl with
 | [v,vf],_ =>
 have hv0:=hv 0 v _ rfl rfl;have hvf:=(hv 1 vf _ rfl rfl).fn_inv;subst hvf;have hpos:0<L.length:=Q1g.2 hne;cases hv0 with
 | msl _ _ _ b sz o cap hb hcl ho hz =>
 obtain⟨b',s',hβ',hsh,hc⟩:=hr.ob i _ hi;obtain⟨rfl,rfl⟩:b=b'∧sz=2:=by
  rcases hb with⟨s,hb⟩|hb
  · rw[hβ']at hb;cases hb;exact⟨rfl,rfl⟩
  · rw[hβ']at hb;cases hb
 have ho':o=0:=by have:=ho hpos;omega
 subst ho';have hH0:∀ n,HoldsK spV 2 (Go.Sort.ahead w n) b 0 L.toArray:=fun n t ht=>by
  have ht':t<L.length*2:=by simpa using ht
  have hj:t / 2<L.length:=by omega
  have hrow:(Zr L)[t / 2]?=some (spA L[t / 2]):=by rw[Zr,Q0h,Qz6 hj];rfl
  obtain⟨-,h2⟩:=hc (t / 2) _ hrow;have hg:=get_flatK spV 2 L.toArray t (by simpa using ht');rw[Q1i];have hLj:L.toArray[t / 2]! = L[t / 2]:=by simp[getElem!_pos,hj]
  rw[hLj]at hg;have hm:t % 2=0∨t % 2=1:=by omega
  rcases hm with hm|hm
  · obtain⟨u,u1,u2,u3⟩:=h2 0 _ rfl;have:=u3.d_inv.str_inv;subst this;have e:t / 2*2+0=t:=by omega
    rw[e]at u1 u2;refine⟨?_,u2⟩;rw[cell?_ahead,u1,id,hg,hm];rfl
  · obtain⟨u,u1,u2,u3⟩:=h2 1 _ rfl;have:=u3.d_inv.int_inv;subst this;have e:t / 2*2+1=t:=by omega
    rw[e]at u1 u2;refine⟨?_,u2⟩;rw[cell?_ahead,u1,id,hg,hm];rfl
 have hblk:=(hr.ex i b (by rw[hβ'];rfl)).2;refine (hS b 0 cap L w (hH0 0) hblk hl).mono ?_;rintro e w' ⟨rfl,n,os,rfl⟩;have h1:HR κ H (Go.Sort.ahead w n):=hr.later (Qji w n);have hml:(L.mergeSort le).length=L.length:=Q2k L;have h2:=h1.putSps hi hβ' hml (hH0 n) L.length (Qz8 _);rw[Q0l (by omega),Q4c (Qz8 _),Q0p]at h2;have h3:=h2.later (Qlx _ os);exact⟨_,κ,.tup [],_,rfl,K.le_refl κ,h3,.tup [] [] rfl (by simp),rfl,rfl⟩
end
section
open Go.RowKit (Below)
open Go.Proofs Go.Sort
def Qay(p:Bs×Int):List D:=[.str p.1,.int .i64 p.2]
theorem Qki(L:List (Bs×Int)):Zr L=(L.map Qay).map (List.map .d):=by simp[Zr,spA,Qay]
def Qj7(P:Program)(f g:FuncId):Prop:=∀(a:Option Addr)(cap:Nat)(w:World),Calls P f #[.slice a 0 cap,.func (.func g) #[] #[]] w fun e w'=>e=.returned (.tuple #[])∧w'=w
theorem Ql6{P:Program}{f g:FuncId}(hC:Qj7 P f g){H:Hp}{i k:Nat}:Qc P f [.vsl i k 0,.d (.fn g)] H (fun r H'=>r=.tup []∧H'=H):=by
 intro κ w vs hr hvl hv
 match vs,hvl with
 | [v,vf],_ =>
 have hv0:=hv 0 v _ rfl rfl;have hvf:=(hv 1 vf _ rfl rfl).fn_inv;subst hvf;cases hv0 with
 | vsl _ _ _ ad cap hl hf =>
 refine (hC ad cap w).mono ?_;rintro e w' ⟨rfl,rfl⟩;exact⟨_,κ,_,_,rfl,K.le_refl κ,hr,.tup [] [] rfl (by simp),rfl,rfl⟩
theorem Has.ixSort{P:Program}{f srt cmp:FuncId}{le:(Bs×Int)→(Bs×Int)→Bool}(h:Has P f (Qht srt cmp))(hS:Qoa P srt cmp le)(h0:Qj7 P srt cmp)(L:List (Bs×Int))(hl:L.length≤1099511627776){H1:Hp}(hcl1:H1.Closed)(k e:Nat) :
 Qc P f [.vsl H1.length k L.length] (H1++[.vec 2 e k (L.map Qay)]) (fun r H'=>r=.vsl H1.length k L.length∧H'=H1++[.vec 2 e k ((L.mergeSort le).map Qay)]):=by
 refine Qg h (by simp[Qht]) fun hcl _ => ?_;have hcall:Qc P srt [.vsl H1.length k L.length,.d (.fn cmp)] (H1++[.vec 2 e k (L.map Qay)]) (fun r H'=>r=.tup []∧H'=H1++[.vec 2 e k ((L.mergeSort le).map Qay)]):=by
  by_cases hne:L=[]
  · subst hne;simpa using Ql6 h0 (H:=H1++[.vec 2 e k []]) (i:=H1.length) (k:=k)
  · have hsrt:=Qnj hS (L:=L) hne (by omega) (H:=H1++[.dead,.arr 2 ((L.map Qay).map (List.map .d))]) (i:=H1.length+1) (by rw[Qs,Qki];rfl);have hv:=Qc.vecCall (P:=P) (f:=srt) (k:=k) (e:=e) (sz:=2) (args:=[.d (.fn cmp)]) (rows:=L.map Qay) (rows':=(L.mergeSort le).map Qay) hcl1 (by simpa using hne) (by simp[Q2k]) (by
     rw[Q05];refine hsrt.mono ?_;rintro r H' ⟨rfl,rfl⟩;refine⟨rfl,?_⟩;rw[Zg,Qki];rfl)
    rw[Q05]at hv;exact hv
 simp[Qht];refine Qa hcall ?_;have hc2:Hp.cut (H1.length+1) (H1++[.vec 2 e k ((L.mergeSort le).map Qay)])=H1++[.vec 2 e k ((L.mergeSort le).map Qay)]:=by
  have:=Qq hcl1 1 [.vec 2 e k ((L.mergeSort le).map Qay)];rw[this];rfl
 simp[RetK,hc2]
end
section
open Go.Proofs
def Qil(srtI tm mn tint:Nat):IFn:=by
 have h:=Ix.J [2000039,9000023] Tryz.f17 [(27,srtI)] [(56,tm),(90,mn),(3,tint)];conv at h=>arg 1;reduce
 exact h.p
end
section
def encI(t:Int):List D:=[.int .i64 t]
def isort(L:List Int):List Int:=L.mergeSort fun x y=>decide (x≤y)
theorem Qij(L:List Int):(isort L).length=L.length:=Q2k L
theorem Qk7(L:List Int):(isort L).Perm L:=List.mergeSort_perm L _
theorem Qi8(L:List Int):Zd L=(L.map encI).map (List.map .d):=by simp[Zd,encI]
section
variable{P:Program}{tn tm bd mn ed tint:Nat}
theorem Has.scUses{f srt:FuncId}(hf:HasT P [2000039,9000023] f (Qil srt tm mn tint))(hS:Qob P srt){S:SM}{z1 z2:Bool}{bad:D}(hl:S.ms.length≤1099511627776)(i:Nat)(hi:i<S.bs.length)(H:Hp) :
 Qc P f [.agg [YL z1 4 (S.bs.map Q5),YL z2 4 (S.ms.map Yc),.d bad],YI i] H (fun r H'=>r=YL false 1 ((isort (Ym S i)).map encI)∧H'=H):=by
 have hne:(isort (Ym S i)).map encI≠[]:=by
  intro h;have h1:=congrArg List.length h;rw[Q05,Qij]at h1;simp[Ym]at h1
 have hle:(Ym S i).length≤S.ms.length+1:=by
  unfold Ym;have:=Q3a (fun m:Mn=>decide (m.t=(i:Int))) S.ms;simp only[Q0k,Q05];omega
 refine Qc.freezeVec (j:=1) (k:=(Ym S i).length) (e:=tint) hne ?_;obtain⟨fn,hff,hcf⟩:=hf;refine Z7 2 hff hcf (by simp[Qil]) fun hcl _ => ?_;obtain⟨bs,ms,bd'⟩:=S;simp only at hl hi hle;obtain⟨bx,hbx⟩:∃ bx,bx=Ob.box tm [YL z1 4 (bs.map Q5),YL z2 4 (ms.map Yc),.d bad]:=⟨_,rfl⟩;have hbc:∀ n,bx.clr n=bx:=fun n=>by subst hbx;simp
 have hi0:¬ (i:Int)<0:=by omega
 have hi1:¬ (bs.length:Int)≤(i:Int):=by omega
 have hr:=Qv Q5 hi;have hbi:bAt bs (i:Int)=bs[i]:=by unfold bAt;rw[Q1r,Q1b,Qz6 hi];rfl
 have hU:Ym ⟨bs,ms,bd'⟩ i=bs[i].a::(ms.filter fun m=>decide (m.t=(i:Int))).map Mn.a:=by unfold Ym;simp only;rw[hbi]
 generalize bs[i]=b at hr hU;obtain⟨ba,bk,bw,bi⟩:=b;simp only[Q5]at hr;simp only at hU;let U:Nat→List Int:=fun j=>ba::((ms.take j).filter fun m=>decide (m.t=(i:Int))).map Mn.a;have hU0:U 0=[ba]:=rfl;have hUn:U ms.length=Ym ⟨bs,ms,bd'⟩ i:=by rw[hU];show _::_=_;rw[Q0l (Qz8 _)]
 have hUl:∀ j,(U j).length≤ms.length+1:=fun j=>by
  have h1:=Q3a (fun m:Mn=>decide (m.t=(i:Int))) (ms.take j);have h2:(ms.take j).length≤ms.length:=by simp;omega
  show (_::List.map _ _).length≤_;simp only[Q0k,Q05];omega
 let HY:Nat→Hp:=fun j=>[bx,.vec 1 tint (U j).length ((U j).map encI)];have hc:∀ j X,Hp.cut (H.length+2) (H++(HY j++X))=H++HY j:=fun j X=>by
  rw[Qq hcl];have hv:∀ n s e k r,(Ob.vec s e k r).clr n=Ob.vec s e k r:=fun _ _ _ _ _=>rfl;simp[HY,hbc,hv,-Ob.clr]
 have hc0:∀ j,Hp.cut (H.length+2) (H++HY j)=H++HY j:=fun j=>by have:=hc j [];rwa[Q0p]at this
 have e0:∀ j X,(HY j++X)[0]?=some (Ob.box tm [YL z1 4 (bs.map Q5),YL z2 4 (ms.map Yc),.d bad]):=fun j X=>by rw[← hbx];rfl
 have e1:∀ j X,(HY j++X)[1]?=some (.vec 1 tint (U j).length ((U j).map encI)):=fun j X=>rfl;have e2:∀ j x X,(HY j++x::X)[2]?=some x:=fun j x X=>rfl;have s2:∀ j x y X,(HY j++x::X).set 2 y=HY j++y::X:=fun j x y X=>rfl;have lY:∀ j,(HY j).length=2:=fun j=>rfl;have hst:H++[bx,Ob.vec 1 tint 1 [[D.int .i64 ba]]]=H++HY 0:=rfl;simp[Qil,hi0,hi1,hr,Q24,-getElem?_pos];rw[← hbx,hst];refine Q3 0 (fun fr H'=>fr 5=.vsl (H.length+1) (U ms.length).length (U ms.length).length∧H'=H++HY ms.length) ?_ ?_
 · refine Wo (H.length+2) ms.length (fun j fr H'=>fr 1=YI i∧fr 5=.vsl (H.length+1) (U j).length (U j).length∧fr 25=YL z2 4 (ms.map Yc)∧H'=H++HY j) (by omega) (by decide) (by simp[lY]) (by simp) ?_ ?_ ?_
   · exact⟨by simp,by simp[hU0],by simp,hc0 0⟩
   · rintro j fr H' hj f27 f26 ⟨f1,f5,f25,rfl⟩;have hr2:=Qv Yc hj;have hstep:U (j+1)=if ms[j].t=(i:Int) then U j++[ms[j].a] else U j:=by
      show _::_=_;rw[Q0i hj,Q2u,Q2d];by_cases h:ms[j].t=(i:Int)
      · rw[if_pos h];simp[h,U]
      · rw[if_neg h];simp[h,U]
     generalize ms[j]=x at hr2 hstep;obtain⟨xa,xt,xw,xf⟩:=x;simp only[Yc]at hr2;simp only at hstep;have hfit:((U j).length+1)*8≤140737488355328:=by have:=hUl j;omega
     have htk:List.take (U j).length ((U j).map encI)=(U j).map encI:=Q0l (by simp);have hlm:((U j).map encI).length=(U j).length:=Q05 _;have e1':=e1 j;have e2':=e2 j;have s2':=s2 j;have lY':=lY j;by_cases h:xt=(i:Int)
     · rw[if_pos h]at hstep;have hs1:∀ X,(HY j++X).set 1 (.vec 1 tint ((U j).length+1) ((U j).map encI++[[D.int .i64 xa]]))=HY (j+1)++X:=fun X=>by
        show [bx,_]++X=[bx,_]++X;rw[hstep];simp[encI]
       have hlU:(U (j+1)).length=(U j).length+1:=by rw[hstep];simp
       have hcj:=hc (j+1);have lY2:=lY (j+1);generalize hY2:HY (j+1)=Y2 at hs1 hcj lY2 ⊢;generalize HY j=Y at e1' e2' s2' lY' hs1 ⊢;simp[f27,f25,f1,f5,hr2,h,e2',s2',lY',Qly,e1',hfit,htk,hlm,hs1,-getElem?_pos];refine Q4 (H.length+2) (Qz8 _) (by simp[lY2,f27,f26]) ?_;exact⟨by simp[f1],by simp[hlU],by simp[f25],(hcj _).trans (by rw[hY2])⟩
     · rw[if_neg h]at hstep;have hlU:(U (j+1)).length=(U j).length:=by rw[hstep]
       have hYY:HY (j+1)=HY j:=by show [bx,_]=[bx,_];rw[hstep]
       have hcj:=hc j;rw[← hYY]at e1' e2' s2' lY' hcj;rw[← hYY];generalize hY2:HY (j+1)=Y at e1' e2' s2' lY' hcj ⊢;simp[f27,f25,f1,hr2,h,e2',s2',lY',-getElem?_pos];refine Q4 (H.length+2) (Qz8 _) (by simp[lY',f27,f26]) ?_;exact⟨by simp[f1],by simp[f5,hlU],by simp[f25],(hcj _).trans (by rw[hY2])⟩
   · rintro fr H' f27 f26 ⟨f1,f5,f25,rfl⟩;simp;exact f5
 · rintro fr H' ⟨f5,rfl⟩;rw[hUn]at f5;have hHY:H++HY ms.length=(H++[bx])++[.vec 1 tint (Ym ⟨bs,ms,bd'⟩ i).length ((Ym ⟨bs,ms,bd'⟩ i).map encI)]:=by
    show H++[bx,_]=_;rw[hUn];simp
   rw[hHY];generalize Ym ⟨bs,ms,bd'⟩ i=L at f5 hne hle ⊢;have hLne:L≠[]:=fun h=>hne (by subst h;simp[isort]);have hcl1:Hp.Closed (H++[bx]):=Closed.snoc hcl fun n _=>hbc n;have hsrt:=Ql7 hS (L:=L) hLne (by omega) (H:=(H++[bx])++[.dead,.arr 1 ((L.map encI).map (List.map .d))]) (i:=(H++[bx]).length+1) (by rw[Qs,Qi8];rfl);have hv:=Qc.vecCall (P:=P) (f:=srt) (k:=L.length) (e:=tint) (args:=[]) (rows:=L.map encI) (rows':=(isort L).map encI) hcl1 (by simpa using hLne) (by simp[Qij]) (by
    rw[Q05];refine hsrt.mono ?_;rintro r H' ⟨rfl,rfl⟩;refine⟨rfl,?_⟩;rw[Zg,← isort,Qi8];rfl)
   rw[Q05,show (H++[bx]).length=H.length+1 by simp]at hv;simp[f5,-List.append_assoc];refine Qa hv ?_;simp[f5,RetK,resA,-List.append_assoc];refine⟨[bx,.vec 1 tint L.length ((isort L).map encI)],rfl,(Qij L).symm,?_⟩;have hv:∀ n s e k r,(Ob.vec s e k r).clr n=Ob.vec s e k r:=fun _ _ _ _ _=>rfl;rw[Q0n,Qq hcl];simp[hbc,hv,-Ob.clr]
end
end
section
open Go.Proofs
theorem Qc.freezeVecE{P:Program}{f:FuncId}{args:List A}{H:Hp}{j k sz e:Nat}{rows:List (List D)}(hk:rows=[]→k=0)(h:Qc P f args H (fun r H'=>∃ X:Hp,X[j]?=some (.vec sz e k rows)∧r=.vsl (H.length+j) k rows.length∧H'=H++X)):Qc P f args H (fun r H'=>r=YL rows.isEmpty sz rows∧H'=H):=by
 by_cases hne:rows=[]
 · subst hne;have hk:=hk rfl;subst hk;intro κ w vs hr hl hv;refine (h κ w vs hr hl hv).mono ?_;rintro ev w' ⟨v,κ',r,H',h1,h2,h3,h4,X,hX,rfl,rfl⟩;have ho:=h3.ob (H.length+j) _ (by rw[Qs];exact hX);have hn : κ'.β (H.length+j)=.nilV:=by
    rcases ho with⟨h,-,-⟩|⟨b,c,cur,-,h,-⟩
    · exact h
    · exact absurd rfl (h rfl)
   cases h4 with
   | vsl _ _ _ ad cap hlc hf =>
   rw[hn]at hf;obtain⟨-,-,hv'⟩:=hf;have g:=h3.cut H.length (by simp);rw[Qe hr.closed]at g;refine⟨_,κ'.cut H.length,YL true sz [],H,h1,K.le_cut h2 hr.dom,g,?_,rfl,rfl⟩;rw[hv'];exact .d (.nilsl sz)
 · have hb:rows.isEmpty=false:=by cases rows with
    | nil=>exact absurd rfl hne
    | cons=>rfl
   rw[hb];exact Qc.freezeVec hne h
theorem Qt4:Qay=Vd:=rfl
def atT(u:Un)(t:Int):Int:=((u.tk[t.toNat]?).map fun t=>(t.a:Int)).getD 0
def qlB(S:List Un)(s:Bs×Int)(u:Un)(i:Nat)(b:SBd):List (Bs×Int):=if ofSy S u b=s then (isort (Ym u.sm i)).map fun t=>(u.n,atT u t) else []
def qlK(S:List Un)(s:Bs×Int)(u:Un)(j:Nat):List (Bs×Int):=((u.sm.bs.take j).mapIdx (qlB S s u)).flatten
def qlU(S:List Un)(s:Bs×Int)(u:Un):List (Bs×Int):=qlK S s u u.sm.bs.length
def qlS(S:List Un)(s:Bs×Int)(T:List Un):List (Bs×Int):=T.flatMap (qlU S s)
theorem Qku{S:List Un}{s:Bs×Int}{u:Un}{j:Nat}{b:SBd}(h:u.sm.bs[j]?=some b):qlK S s u (j+1)=qlK S s u j++qlB S s u j b:=by
 have hj:=(Qz5.1 h).1;unfold qlK;rw[Q2w,h];simp only[Option.toList_some];rw[List.mapIdx_append];simp[Q3p (Nat.le_of_lt hj)]
theorem Qvk{S T:List Un}{s:Bs×Int}{j:Nat}{u:Un}(h:T[j]?=some u):qlS S s (T.take (j+1))=qlS S s (T.take j)++qlU S s u:=by
 rw[Q2w,h];simp[qlS]
theorem Qzb{S T:List Un}{s:Bs×Int}(j:Nat):(qlS S s (T.take j)).length≤(qlS S s T).length:=by
 have h:qlS S s T=qlS S s (T.take j)++qlS S s (T.drop j):=by
  unfold qlS;rw[← Q3q,Q00]
 rw[h];simp
theorem Qvl{S:List Un}{s:Bs×Int}{u:Un}:∀(n j:Nat),j+n=u.sm.bs.length→(qlK S s u j).length≤(qlU S s u).length
 | 0,j,h=>by rw[Q18]at h;subst h;exact Qz8 _
 | n + 1, j, h => by
   have h1:=Qvl (S:=S) (s:=s) (u:=u) n (j+1) (by omega);rw[Qku (Qz6 (show j<u.sm.bs.length by omega))]at h1;simp only[Q0z]at h1;omega
def Qqk(P:Program)(S:List Un)(f:Nat):Prop:=∀ u ∈ S,∀ i,i<u.sm.bs.length→∀ H,Qc P f [.agg (u.sm.enc.map .d),YI i] H (fun r H'=>r=YL false 1 ((isort (Ym u.sm i)).map encI)∧H'=H)
theorem HasT.ixPlaces{f names unit ixOf uses ixSort srt cmp tSy tU tBd tSp:Nat}{le:(Bs×Int)→(Bs×Int)→Bool}{S:List Un}(h:HasT P [5,11000005,2000061] f (Qfc names unit ixOf uses ixSort tSy tU tBd tSp))(hn:Qsx P S names)(hu:Qiz P S unit)(hself:Qwx S)(hO:Qry P S ixOf)(hU:Qqk P S uses)(hx:Has P ixSort (Qht srt cmp))(hS:Qoa P srt cmp le)(hS0:Qj7 P srt cmp)(hl:S.length≤8)(hb:∀ u ∈ S,u.sm.bs.length≤1048576)(hus:∀ u ∈ S,∀ i,i<u.sm.bs.length→∀ t ∈ isort (Ym u.sm i),0≤t∧t.toNat<u.tk.length)(s:Bs×Int)(hmax:(qlS S s S).length≤1099511627776)(H:Hp) :
 Qc P f [pA S,.agg [YS s.1,YI s.2]] H (fun r H'=>r=YL (((qlS S s S).mergeSort le).map Vd).isEmpty 2 (((qlS S s S).mergeSort le).map Vd)∧H'=H):=by
 refine Qc.freezeVecE (j:=1) (k:=(qlS S s S).length) (e:=tSp) (fun e => ?_) ?_
 · have h1:=congrArg List.length e;rw[Q05,Q2k]at h1;exact h1
 obtain⟨fn,hf,hcf⟩:=h;refine Z7 2 hf hcf (by simp[Qfc]) fun hcl _ => ?_;obtain⟨sy,hsy⟩:∃ sy,sy=Ob.box tSy [YS s.1,YI s.2]:=⟨_,rfl⟩;have hsc:∀ n,sy.clr n=sy:=fun n=>by subst hsy;rfl
 have hnm:=fun X=>hn (H++X);simp only[pA]at hnm;simp[Qfc,pA];refine Qa (hnm _) ?_;simp;rw[← hsy];let HY:List (Bs×Int)→Hp:=fun R=>[sy,.vec 2 tSp R.length (R.map Vd)];have hv:∀ n s e k r,(Ob.vec s e k r).clr n=Ob.vec s e k r:=fun _ _ _ _ _=>rfl;have hc:∀ R X,Hp.cut (H.length+2) (H++(HY R++X))=H++HY R:=fun R X=>by
  rw[Qq hcl];simp[HY,hsc,hv,-Ob.clr]
 have hst:H++[sy,Ob.vec 2 tSp 0 []]=H++HY []:=rfl;rw[hst];have lY:∀ R,(HY R).length=2:=fun R=>rfl;refine Q3 0 (fun fr H'=>fr 5=.vsl (H.length+1) (qlS S s S).length (qlS S s S).length∧H'=H++HY (qlS S s S)) ?_ ?_
 · refine Wo (H.length+2) S.length (fun j fr H'=>fr 0=.eptr [.sl S.isEmpty 14 (S.map Un.enc)]∧fr 3=.ptr H.length 0∧fr 15=YL true 1 (S.map fun u=>[.str u.n])∧fr 5=.vsl (H.length+1) (qlS S s (S.take j)).length (qlS S s (S.take j)).length ∧
    H'=H++HY (qlS S s (S.take j))) (by omega) (by decide) (by simp[lY]) (by simp) ?_ ?_ ?_
   · exact⟨by simp,by simp,by simp,by simp[qlS],by have:=hc [] [];simpa[qlS] using this⟩
   · rintro j fr H' hj fi fn ⟨f0,f3,f15,f5,rfl⟩;obtain⟨u,hu'⟩:∃ u,S[j]?=some u:=⟨_,Qz6 hj⟩;have hum:=Q0u hu';have hrow:Zam.rowAt (S.map fun u=>[D.str u.n]) (j:Int)=some [.str u.n]:=by simp[Zam.rowAt,hu']
     have hst:=Qvk (S:=S) (s:=s) hu';have hun:=fun X=>hu u.n (H++X);rw[hself u hum]at hun;obtain⟨zu,ms,he⟩:=u.enc_all;simp only[Q3f,Q23,he,Q02,Q1t,pA]at hun;have lYj:=lY (qlS S s (S.take j));simp[fi,f15,hrow,f0];refine Qa (hun _) ?_;simp[lYj];generalize hbx:Ob.box tU [A.d (.str u.n),A.d (.str u.t),A.d (.sl true 4 (u.tk.map Qu)),A.d (.int .i64 u.tr.k),A.d (.int .i64 u.tr.f),A.d (.int .i64 u.tr.t),A.d (.str u.tr.w),A.d (.int .i64 u.tr.at_),A.d (.sl zu 6 (u.tr.ks.map N.enc)),A.d (.sl u.sm.bs.isEmpty 4 (u.sm.bs.map Q5)),A.d ms,A.d (.sl u.sm.bad.isEmpty 2 (u.sm.bad.map Q2)),A.d (.int .i64 u.bad),A.d (.int .i64 u.pos)]=bx;have hbc:∀ n,bx.clr n=bx:=fun n=>by subst hbx;rfl
     obtain⟨R,hR⟩:∃ R,R=qlS S s (S.take j):=⟨_,rfl⟩;rw[← hR]at hst f5 ⊢;have hc3:∀ R X,Hp.cut (H.length+3) (H++(HY R++bx::X))=H++(HY R++[bx]):=fun R X=>by
      rw[Qq hcl];simp[HY,hsc,hbc,hv,-Ob.clr]
     refine Q3 2 (fun fr H2=>fr 0=.eptr [.sl S.isEmpty 14 (S.map Un.enc)]∧fr 3=.ptr H.length 0∧fr 15=YL true 1 (S.map fun u=>[.str u.n])∧fr 17=YI j∧fr 16=YI S.length ∧
      fr 5=.vsl (H.length+1) (R++qlU S s u).length (R++qlU S s u).length∧∃ X,H2=H++(HY (R++qlU S s u)++X)) ?_ ?_
     · refine Wo (H.length+3) u.sm.bs.length (fun q fr H2=>fr 0=.eptr [.sl S.isEmpty 14 (S.map Un.enc)]∧fr 3=.ptr H.length 0∧fr 7=YS u.n∧fr 8=.ptr (H.length+2) 0∧fr 15=YL true 1 (S.map fun u=>[.str u.n])∧fr 17=YI j∧fr 16=YI S.length ∧
        fr 29=YL u.sm.bs.isEmpty 4 (u.sm.bs.map Q5)∧∃ R2,R2=R++qlK S s u q∧fr 5=.vsl (H.length+1) R2.length R2.length∧H2=H++(HY R2++[bx])) (by have:=hb u hum;omega) (by decide) (by simp[lY]) (by simp) ?_ ?_ ?_
       · refine⟨by simp[f0],by simp[f3],by simp,by simp,by simp[f15],by simp[fi],by simp[fn],by simp,R,by simp[qlK],by simp[f5],hc3 R []⟩
       · rintro q fr H2 hq gi gn ⟨f0,f3,f7,f8,f15,f17,f16,f29,R2,hR2,f5,rfl⟩;have hr2:=Qv Q5 hq;have hbm:=Q01 hq;have hstp:=Qku (S:=S) (s:=s) (Qz6 hq);have hOb:=fun X=>hO u hum _ hbm (H++X);rw[he]at hOb;have hUs:=fun X=>hU u hum q hq (H++X);generalize u.sm.bs[q]=b at hr2 hstp hOb;obtain⟨ofS,hof⟩:∃ o,o=ofSy S u b:=⟨_,rfl⟩;rw[← hof]at hOb;have e0:∀ X,(HY R2++X)[0]?=some (Ob.box tSy [YS s.1,YI s.2]):=fun X=>by rw[← hsy];rfl
         have e2:∀ x X,(HY R2++x::X)[2]?=some x:=fun x X=>rfl;have e3:∀ x y X,(HY R2++x::y::X)[3]?=some y:=fun x y X=>rfl;have s3:∀ x y z X,(HY R2++x::y::X).set 3 z=HY R2++x::z::X:=fun x y z X=>rfl;have lY2:=lY R2;have hc3':=hc3 R2;simp only[Q5,pA,Q02,Q1t]at hr2 hOb;generalize hYe:HY R2=Y at e0 e2 e3 s3 lY2 hc3' ⊢;subst hbx;simp[gi,f29,hr2,f0,f3,f8,lY2,e0,e2,e3,s3,-getElem?_pos];refine Vp (hOb _) ?_;have hms:ms=.sl u.sm.ms.isEmpty 4 (u.sm.ms.map Yc):=by
          obtain⟨a1,a2,a3,a4,a5,a6,a7,a8,a9,a10,-,h,-⟩:=u.enc_sm;rw[he]at h;simp at h;exact h.2.2.2.2.2.2.2.2.1
         have hcn:∀ X,Hp.cut (H.length+3) (H++(Y++Ob.box tU [A.d (.str u.n),A.d (.str u.t),A.d (.sl true 4 (u.tk.map Qu)),A.d (.int .i64 u.tr.k),A.d (.int .i64 u.tr.f),A.d (.int .i64 u.tr.t),A.d (.str u.tr.w),A.d (.int .i64 u.tr.at_),A.d (.sl zu 6 (u.tr.ks.map N.enc)),A.d (.sl u.sm.bs.isEmpty 4 (u.sm.bs.map Q5)),A.d ms,A.d (.sl u.sm.bad.isEmpty 2 (u.sm.bad.map Q2)),A.d (.int .i64 u.bad),A.d (.int .i64 u.pos)]::X))=_:=hc3';by_cases hos:ofS=s
         · have hp1:qlB S s u q b=(isort (Ym u.sm q)).map fun t=>(u.n,atT u t):=by unfold qlB;rw[← hof,if_pos hos]
           have o1:ofS.1=s.1:=by rw[hos]
           have o2:ofS.2=s.2:=by rw[hos]
           have hTk:=hus u hum q hq;simp only[SM.enc,← hms,Q02,Q1t]at hUs;generalize isort (Ym u.sm q)=T at hp1 hUs hTk;simp[f3,f8,e0,e2,eqDs,eqD,o1,o2,-getElem?_pos];refine Qa (hUs _) ?_;simp;subst hYe;generalize hbd:Ob.box tBd [A.d (.int .i64 b.a),A.d (.int .i64 b.k),A.d (.str b.w),A.d (.int .i64 b.i)]=bd;generalize hbx:Ob.box tU [A.d (.str u.n),A.d (.str u.t),A.d (.sl true 4 (u.tk.map Qu)),A.d (.int .i64 u.tr.k),A.d (.int .i64 u.tr.f),A.d (.int .i64 u.tr.t),A.d (.str u.tr.w),A.d (.int .i64 u.tr.at_),A.d (.sl zu 6 (u.tr.ks.map N.enc)),A.d (.sl u.sm.bs.isEmpty 4 (u.sm.bs.map Q5)),A.d ms,A.d (.sl u.sm.bad.isEmpty 2 (u.sm.bad.map Q2)),A.d (.int .i64 u.bad),A.d (.int .i64 u.pos)]=bx;have hbdc:∀ n,bd.clr n=bd:=fun n=>by subst hbd;rfl
           have hbxc:∀ n,bx.clr n=bx:=fun n=>by subst hbx;rfl
           have hc4:∀ R X,Hp.cut (H.length+4) (H++(HY R++bx::bd::X))=H++(HY R++[bx,bd]):=fun R X=>by
            rw[Qq hcl];simp[HY,hsc,hbdc,hbxc,hv,-Ob.clr]
           have hc5:∀ R X,Hp.cut (H.length+3) (H++(HY R++bx::X))=H++(HY R++[bx]):=fun R X=>by
            rw[Qq hcl];simp[HY,hsc,hbxc,hv,-Ob.clr]
           rw[hp1]at hstp;refine Q3 4 (fun fr H3=>fr 0=.eptr [.sl S.isEmpty 14 (S.map Un.enc)]∧fr 3=.ptr H.length 0∧fr 7=YS u.n∧fr 8=.ptr (H.length+2) 0∧fr 15=YL true 1 (S.map fun u=>[.str u.n])∧fr 17=YI j∧fr 16=YI S.length ∧
            fr 29=YL u.sm.bs.isEmpty 4 (u.sm.bs.map Q5)∧fr 31=YI q∧fr 30=YI u.sm.bs.length∧∃ R3,R3=R2++T.map (fun t=>(u.n,atT u t))∧fr 5=.vsl (H.length+1) R3.length R3.length∧∃ X,H3=H++(HY R3++bx::X)) ?_ ?_
           · have hmx:R2.length+T.length≤1099511627776:=by
              have g1:=Qvl (S:=S) (s:=s) (u:=u) (u.sm.bs.length-(q+1)) (q+1) (by omega);rw[hstp]at g1;have g2:=Qzb (S:=S) (T:=S) (s:=s) (j+1);rw[hst]at g2;rw[hR2];simp only[Q0z,Q05]at g1 g2 ⊢;omega
             refine Wo (H.length+4) T.length (fun p fr H3=>fr 0=.eptr [.sl S.isEmpty 14 (S.map Un.enc)]∧fr 3=.ptr H.length 0∧fr 7=YS u.n∧fr 8=.ptr (H.length+2) 0∧fr 15=YL true 1 (S.map fun u=>[.str u.n])∧fr 17=YI j∧fr 16=YI S.length ∧
              fr 29=YL u.sm.bs.isEmpty 4 (u.sm.bs.map Q5)∧fr 31=YI q∧fr 30=YI u.sm.bs.length∧fr 45=YL false 1 (T.map encI)∧∃ R3,R3=R2++(T.take p).map (fun t=>(u.n,atT u t))∧fr 5=.vsl (H.length+1) R3.length R3.length∧H3=H++(HY R3++[bx,bd])) (by omega) (by decide) (by simp[lY]) (by simp) ?_ ?_ ?_
             · exact⟨by simp[f0],by simp[f3],by simp[f7],by simp[f8],by simp[f15],by simp[f17],by simp[f16],by simp[f29],by simp[gi],by simp[gn],by simp,R2,by simp,by simp[f5],hc4 R2 []⟩
             · rintro p fr H3 hp ki kn ⟨f0,f3,f7,f8,f15,f17,f16,f29,f31,f30,f45,R3,hR3,f5,rfl⟩;have hr3:=Qv encI hp;obtain⟨ht0,ht1⟩:=hTk _ (Q01 hp);have hstp3:R2++(T.take (p+1)).map (fun t=>(u.n,atT u t))=R3++[(u.n,atT u T[p])]:=by
                rw[Q0i hp,hR3,Q2d,Q0n];rfl
               have hR3l:R3.length=R2.length+p:=by rw[hR3];simp;omega
               generalize T[p]=t at hr3 ht0 ht1 hstp3;have htr:Zam.rowAt (u.tk.map Qu) t=some (Qu u.tk[t.toNat]):=by
                unfold Zam.rowAt;rw[if_pos ht0];simp[ht1]
               have hat:((u.tk[t.toNat]).a:Int)=atT u t:=by unfold atT;simp[ht1]
               generalize u.tk[t.toNat]=w at htr hat;simp only[Qu,encI]at htr hr3;have e1:∀ X,(HY R3++X)[1]?=some (.vec 2 tSp R3.length (R3.map Vd)):=fun X=>rfl;have e2:∀ x X,(HY R3++x::X)[2]?=some x:=fun x X=>rfl;have s1:∀ X,(HY R3++X).set 1 (.vec 2 tSp (R3.length+1) (R3.map Vd++[[.str u.n,.int .i64 (w.a:Int)]]))=HY (R3++[(u.n,atT u t)])++X:=fun X=>by
                show [sy,_]++X=[sy,_]++X;rw[← hat];simp[Vd]
               have hfit:(R3.length+1)*24≤140737488355328:=by omega
               have htk:List.take R3.length (R3.map Vd)=R3.map Vd:=Q0l (by simp);have hlm:(R3.map Vd).length=R3.length:=Q05 _;have lY3:=lY R3;have lY4:=lY (R3++[(u.n,atT u t)]);have hcc:=hc4 (R3++[(u.n,atT u t)]);have hlen4:(R3++[(u.n,atT u t)]).length=R3.length+1:=by simp
               generalize hY2:HY (R3++[(u.n,atT u t)])=Y2 at s1 hcc lY4;generalize HY R3=Y at e1 e2 s1 lY3 ⊢;subst hbx;simp[ki,f45,hr3,f5,f7,f8,e1,e2,lY3,htr,Qly,hfit,htk,hlm,s1,-getElem?_pos];refine Q4 (H.length+4) (Qz8 _) (by simp[ki,kn,lY4]) ?_;refine⟨by simp[f0],by simp[f3],by simp[f7],by simp[f8],by simp[f15],by simp[f17],by simp[f16],by simp[f29],by simp[f31],by simp[f30],by simp[f45],R3++[(u.n,atT u t)],hstp3.symm,by simp[hlen4],?_⟩;rw[hY2];simpa using hcc []
             · rintro fr H3 ki kn ⟨f0,f3,f7,f8,f15,f17,f16,f29,f31,f30,f45,R3,hR3,f5,rfl⟩;rw[Q2y]at hR3;exact⟨by simp[f0],by simp[f3],by simp[f7],by simp[f8],by simp[f15],by simp[f17],by simp[f16],by simp[f29],by simp[f31],by simp[f30],R3,hR3,by simp[f5],_,rfl⟩
           · rintro fr H3 ⟨f0,f3,f7,f8,f15,f17,f16,f29,f31,f30,R3,hR3,f5,X,rfl⟩;simp;refine Q4 (H.length+3) (Qz8 _) (by simp[f31,f30,lY];omega) ?_;exact⟨by simp[f0],by simp[f3],by simp[f7],by simp[f8],by simp[f15],by simp[f17],by simp[f16],by simp[f29],R3,by rw[hstp,hR3,hR2,Q0n],by simp[f5],hc5 _ _⟩
         · have hp0:qlB S s u q b=[]:=by unfold qlB;rw[← hof,if_neg hos]
           have hne1:¬ (ofS.1=s.1∧ofS.2=s.2):=fun h=>hos (Prod.ext h.1 h.2);rw[hp0,Q0p]at hstp;by_cases o1:ofS.1=s.1
           · have o2:¬ ofS.2=s.2:=fun h=>hne1 ⟨o1,h⟩;simp[f3,e0,eqDs,eqD,o1,o2,-getElem?_pos];refine Q4 (H.length+3) (Qz8 _) (by simp[gi,gn,lY2]) ?_;exact⟨by simp[f0],by simp[f3],by simp[f7],by simp[f8],by simp[f15],by simp[f17],by simp[f16],by simp[f29],R2,by rw[hstp];exact hR2,by simp[f5],(hcn _).trans (by rw[hYe])⟩
           · simp[f3,e0,eqDs,eqD,o1,-getElem?_pos];refine Q4 (H.length+3) (Qz8 _) (by simp[gi,gn,lY2]) ?_;exact⟨by simp[f0],by simp[f3],by simp[f7],by simp[f8],by simp[f15],by simp[f17],by simp[f16],by simp[f29],R2,by rw[hstp];exact hR2,by simp[f5],(hcn _).trans (by rw[hYe])⟩
       · rintro fr H2 gi gn ⟨f0,f3,f7,f8,f15,f17,f16,f29,R2,hR2,f5,rfl⟩;have hU2:R2=R++qlU S s u:=hR2;rw[← hU2];exact⟨by simp[f0],by simp[f3],by simp[f15],by simp[f17],by simp[f16],by simp[f5],_,rfl⟩
     · rintro fr H2 ⟨f0,f3,f15,f17,f16,f5,X,rfl⟩;simp;refine Q4 (H.length+2) (Qz8 _) (by simp[f17,f16,lY]) ?_;refine⟨by simp[f0],by simp[f3],by simp[f15],by simp[f5,hst],?_⟩;rw[hst];exact hc _ _
   · rintro fr H' fi fn ⟨f0,f3,f15,f5,rfl⟩;rw[Q2y]at f5;simp[f5]
 · rintro fr H' ⟨f5,rfl⟩;have hcl1:Hp.Closed (H++[sy]):=Closed.snoc hcl fun n _=>hsc n;have hsrt:=hx.ixSort hS hS0 (qlS S s S) hmax hcl1 (qlS S s S).length tSp;have hHY:H++HY (qlS S s S)=(H++[sy])++[.vec 2 tSp (qlS S s S).length ((qlS S s S).map Vd)]:=by
    show H++[sy,_]=_;rw[Q0n];rfl
   have hll:((qlS S s S).mergeSort le).length=(qlS S s S).length:=Q2k _;rw[hHY];rw[Qt4]at hsrt;generalize qlS S s S=L at f5 hsrt hll ⊢;rw[show (H++[sy]).length=H.length+1 by simp]at hsrt;simp[f5,-List.append_assoc];refine Qa hsrt ?_;simp[f5,RetK,resA,-List.append_assoc];refine⟨[sy,.vec 2 tSp L.length ((L.mergeSort le).map Vd)],rfl,?_⟩;rw[Q0n,Qq hcl];simp[hsc,hv,-Ob.clr]
end
section
open Go.Proofs
theorem Toks.rise{s:Bs}{n:Nat}{l:List Tk}(h:Toks s n l):(∀ t ∈ l,n≤t.a∧t.a+t.x.length≤n+s.length∧(t.k≠0→0<t.x.length))∧l.Pairwise fun x y=>x.a<y.a∧x.a+x.x.length≤y.a:=by
 induction h with
 | @fin s n h h0 =>
   have hl:Qm false s≤s.length:=Qbn false s;refine⟨fun t ht => ?_,by simp⟩;rw[Q2c]at ht;subst ht;simp;omega
 | @tok s n l h h0 hr ih =>
   obtain⟨i1,i2⟩:=ih;obtain⟨t1,-,t3,-⟩:=Qei (s.drop (Qm false s));have t3:=t3 h h0;have hl:Qm false s<s.length:=by
    rcases Q2h (Qm false s) s.length with g|g
    · exact g
    · exact absurd (Q1e g) h0
   simp only[Q08]at i1 t1;refine⟨fun t ht => ?_,Q13.2 ⟨fun t ht => ?_,i2⟩⟩
   · rcases Q0w.1 ht with rfl|ht
     · simp only[Q1q,Q08];omega
     · have:=i1 t ht;omega
   · have:=i1 t ht;simp only[Q1q,Q08];omega
structure GdX(u:Un):Prop where
 once:∀ t,evB u.sm.bs t+evM u.sm.ms t≤1
 mt:∀ m ∈ u.sm.ms,m.t = -1∨(0≤m.t∧m.t<u.sm.bs.length)
 uin:∀ j,j<u.sm.bs.length→∀ t ∈ Ym u.sm j,0≤t∧t.toNat<u.tk.length
 rise:u.tk.Pairwise fun x y=>x.a<y.a∧x.a+x.x.length≤y.a
 ne:∀ t ∈ u.tk,t.k≠0→0<t.x.length
 bnd:∀ t ∈ u.tk,(t.a:Int)+t.x.length≤1099511627776
 kd:∀ j,j<u.sm.bs.length→∀ t ∈ Ym u.sm j,kdT u.tk t.toNat=1
theorem Qtl(m:Mod):GdX (Wi m):=by
 by_cases h0:(Qy m.t).2.2.1=0
 · obtain⟨n,j,h1,h2,h3,h4,h5,hI,hj,h6⟩:=Qcj h0;have hsm:(Wi m).sm=Vx n:=by
    show (if _ then _ else _)=_;rw[if_pos h0,h2]
   have htk:(Wi m).tk=(lexS m.t).1:=h1;have hN:=named hI;have hall:=Qlz n;have hbs:(Vx n).bs=(allR n).bs:=by rw[← hall];rfl
   have hms:(Vx n).ms=(allR n).ms:=by rw[← hall];rfl
   have hus:∀ q,Ym (Vx n) q=Ym (allR n) q:=fun q=>by unfold Ym;rw[hbs,hms]
   have hT:=((Qg1 m.t).2 h5).1;have hr:=hT.rise;have hlen:m.t.length≤16384:=((Qg1 m.t).1.1 h5).1;refine⟨fun t => ?_,fun x hx => ?_,fun q hq t ht => ?_,?_,fun t ht => ?_,fun t ht => ?_,fun q hq t ht => ?_⟩
   · rw[hsm,hbs,hms];have h1:=hN.once t;have h2:indS 0 j t≤1:=by unfold indS;split<;>omega
     omega
   · rw[hsm,hms]at hx;rw[hsm,hbs];obtain⟨_,_,-,-,-,-,hg⟩:=(hN.ms x hx).ex;rcases hg with g|⟨g1,g2,-⟩
     · exact .inl g
     · exact .inr ⟨g1,g2⟩
   · rw[hsm,hbs]at hq;rw[hsm,hus]at ht;have:=hN.uses_in hI hq ht;rw[htk];omega
   · rw[htk];exact hr.2
   · rw[htk]at ht;exact(hr.1 t ht).2.2
   · rw[htk]at ht;have:=(hr.1 t ht).2.1;omega
   · rw[hsm,hbs]at hq;rw[hsm,hus]at ht;rw[htk];exact hN.uses_kd hI hq ht
 · have hsm:(Wi m).sm=⟨[],[],[]⟩:=by
    show (if _ then _ else _)=_;rw[if_neg h0]
   have htk:(Wi m).tk=[]:=by
    show (Qy m.t).1=[];unfold Qy at h0 ⊢;split
    · rfl
    · rename_i g1;split
      · rfl
      · rename_i g2;rw[if_neg g1,if_neg g2]at h0;exact absurd rfl h0
   refine⟨fun t => ?_,fun x hx => ?_,fun q hq => ?_,?_,fun t ht => ?_,fun t ht => ?_,fun q hq => ?_⟩
   · rw[hsm];simp[evB,evM]
   · rw[hsm]at hx;simp at hx
   · rw[hsm]at hq;simp at hq
   · rw[htk];exact List.Pairwise.nil
   · rw[htk]at ht;simp at ht
   · rw[htk]at ht;simp at ht
   · rw[hsm]at hq;simp at hq
theorem Qg0{S:SM}{k:Nat}(hk:k<S.bs.length){t:Int}:t ∈ Ym S k↔(∃ b,S.bs[k]?=some b∧b.a=t)∨∃ m ∈ S.ms,m.a=t∧m.t=(k:Int):=Quq hk t
theorem Qms{α:Type}{p : α→Bool}:∀ {l:List α} {i:Int},(∀ x ∈ l,p x=false)→fstI p l i = -1
 | [],_,_=>rfl
 | x :: r, i, h => by
   unfold fstI;rw[h x (by simp)];simpa using Qms (l:=r) (i:=i+1) fun y hy=>h y (by simp[hy])
theorem Qpi{α:Type}{p : α→Bool}:∀ {l:List α} {i:Int} {k:Nat} {x : α},l.countP p≤1→l[k]?=some x→p x=true→fstI p l i=i+k
 | [],_,_,_,_,h,_=>by simp at h
 | y :: r, i, 0, x, hc, h, hp => by
   simp at h;subst h;unfold fstI;simp[hp]
 | y :: r, i, k + 1, x, hc, h, hp => by
   simp at h;have h1:0<r.countP p:=Q17.2 ⟨x,Q0u h,hp⟩;rw[Q4a]at hc;have hy:p y=false:=by
    cases hpy:p y with
    | false=>rfl
    | true=>rw[hpy,if_pos rfl]at hc;omega
   rw[hy]at hc;unfold fstI;rw[hy];have:=Qpi (i:=i+1) (p:=p) (by simpa using hc) h hp;simp only[Q0f,if_false];rw[this];omega
theorem Qmr{α:Type}{p : α→Bool}:∀ {l:List α} {i:Int},fstI p l i = -1∨∃(k:Nat)(x : α),fstI p l i=i+k∧l[k]?=some x∧p x=true
 | [],_ => .inl rfl
 | y :: r, i => by
   unfold fstI;cases hp:p y with
   | true=>exact .inr ⟨0,y,by simp,rfl,hp⟩
   | false =>
     rcases Qmr (p:=p) (l:=r) (i:=i+1) with h|⟨k,x,h1,h2,h3⟩
     · exact .inl (by simpa using h)
     · refine .inr ⟨k+1,x,?_,by simpa using h2,h3⟩;simp only[Q0f,if_false];rw[h1];omega
theorem Qlp{t:Int}:∀ {l:List Mn},((∀ m ∈ l,m.a≠t)∧fdM t l = -1)∨∃ m ∈ l,m.a=t∧fdM t l=m.t
 | [] => .inl ⟨by simp,rfl⟩
 | m :: r => by
   unfold fdM;by_cases h:m.a=t
   · exact .inr ⟨m,by simp,h,by rw[if_pos h]⟩
   · rw[if_neg h];rcases Qlp (t:=t) (l:=r) with⟨h1,h2⟩|⟨x,h1,h2,h3⟩
     · refine .inl ⟨fun x hx => ?_,h2⟩;rcases Q0w.1 hx with rfl|hx
       · exact h
       · exact h1 x hx
     · exact .inr ⟨x,by simp[h1],h2,h3⟩
theorem Qub{α:Type}{p : α→Bool}{l:List α}(hc:l.countP p≤1){x y : α}(hx:x ∈ l)(hy:y ∈ l)(px:p x=true)(py:p y=true):x=y:=by
 obtain⟨i,hi⟩:=Q2m hx;obtain⟨j,hj⟩:=Q2m hy;have:=Qm0 hc hi hj px py;subst this;rw[hi]at hj;cases hj;rfl
theorem GdX.mapAt{u:Un}(h:GdX u){k:Nat}(hk:k<u.sm.bs.length){t:Int}(ht:t ∈ Ym u.sm k):mapAt u.sm t=k:=by
 have ho:=h.once t;unfold Zam.mapAt;rcases (Qg0 hk).1 ht with⟨b,hb,hba⟩|⟨m,hm,hma,hmt⟩
 · have hc:u.sm.bs.countP (bdAt t)≤1:=by
    have:u.sm.bs.countP (bdAt t)=evB u.sm.bs t:=rfl;omega
   have:=Qpi (i:=0) hc hb (by simp[bdAt,hba]);rw[this];rw[if_neg (by omega)];omega
 · have h1:0<evM u.sm.ms t:=Q17.2 ⟨m,hm,by simp[hma]⟩;have h2:evB u.sm.bs t=0:=by omega
   have h3:fstI (bdAt t) u.sm.bs 0 = -1:=Qms fun b hb=>by
    cases hp:bdAt t b with
    | false=>rfl
    | true =>
      have:0<evB u.sm.bs t:=Q17.2 ⟨b,hb,hp⟩;omega
   rw[if_pos h3];rcases Qlp (t:=t) (l:=u.sm.ms) with⟨g,-⟩|⟨x,g1,g2,g3⟩
   · exact absurd hma (g m hm)
   · have:=Qub (p:=fun m:Mn=>decide (m.a=t)) (by show evM u.sm.ms t≤1;omega) hm g1 (by simp[hma]) (by simp[g2]);rw[g3,← this,hmt]
theorem GdX.mapAt_none{u:Un}(h:GdX u){t:Int}(ht:∀ k,k<u.sm.bs.length→t ∉ Ym u.sm k):Zam.mapAt u.sm t<0:=by
 unfold Zam.mapAt;rcases Qmr (p:=bdAt t) (l:=u.sm.bs) (i:=0) with h1|⟨k,b,h1,h2,h3⟩
 · rw[if_pos h1];rcases Qlp (t:=t) (l:=u.sm.ms) with⟨-,g⟩|⟨m,g1,g2,g3⟩
   · omega
   · rcases h.mt m g1 with g|⟨g4,g5⟩
     · omega
     · refine absurd ?_ (ht m.t.toNat (by omega));exact(Qg0 (by omega)).2 (.inr ⟨m,g1,g2,by omega⟩)
 · refine absurd ?_ (ht k (Qz5.1 h2).1);exact(Qg0 (Qz5.1 h2).1).2 (.inl ⟨b,h2,by simpa[bdAt] using h3⟩)
theorem GdX.mapAt_some{u:Un}(h:GdX u){t:Int}(hn:0≤Zam.mapAt u.sm t):∃ k:Nat,k<u.sm.bs.length∧Zam.mapAt u.sm t=k∧t ∈ Ym u.sm k:=by
 by_cases hx:∃ k,k<u.sm.bs.length∧t ∈ Ym u.sm k
 · obtain⟨k,h1,h2⟩:=hx;exact⟨k,h1,h.mapAt h1 h2,h2⟩
 · have:=h.mapAt_none (t:=t) fun k hk ht=>hx ⟨k,hk,ht⟩;omega
end
section
open Go.Proofs
def cSp(x y:Bs×Int):Int:=if Q8 x.1 y.1=0 then V3 x.2 y.2 else Q8 x.1 y.1
theorem Qan:Cmp cSp:=(Qcb.on Prod.fst).lex (Qlv.on Prod.snd)
theorem Qp3{a b:Int}:V3 a b=0↔a=b:=by
 unfold V3;constructor
 · intro h;split at h
   · omega
   · split at h<;>omega
 · rintro rfl;simp
theorem Qp4{x y:Bs×Int}(h:cSp x y=0):x=y:=by
 unfold cSp at h;split at h
 · rename_i h1;exact Prod.ext (Ve.1 h1) (Qp3.1 h)
 · rename_i h1;exact absurd h h1
def leSp(x y:Bs×Int):Bool := !decide (cSp y x<0)
theorem Qg2{x y:Bs×Int}:leSp x y=true↔cSp x y≤0:=by
 unfold leSp;rw[← Qan.not_lt];simp
theorem Qon{A B:List (Bs×Int)}(hp:A.Perm B)(hB:B.Pairwise fun x y=>cSp x y≤0):A.mergeSort leSp=B:=by
 have h1:(A.mergeSort leSp).Pairwise fun x y=>leSp x y=true:=List.pairwise_mergeSort (fun a b c h1 h2=>by
  rw[Qg2]at *;exact Qan.trans _ _ _ h1 h2) (fun a b=>by
  rcases Qan.le_total a b with h|h
  · rw[Qg2.2 h];rfl
  · rw[Qg2.2 h,Bool.or_true]) A
 refine List.Perm.eq_of_pairwise (le:=fun x y=>cSp x y≤0) (fun a b _ _ h2 h3=>Qp4 (Qan.le_antisymm h2 h3)) (h1.imp fun h=>Qg2.1 h) hB ((List.mergeSort_perm A leSp).trans hp)
theorem Qo1{α:Type}{R : α → α→Prop}:∀ {l:List α},(∀ x ∈ l,∀ y ∈ l,R x y)→l.Pairwise R
 | [],_ => .nil
 | x::r,h=>Q13.2 ⟨fun y hy=>h x (by simp) y (by simp[hy]),Qo1 fun a ha b hb=>h a (by simp[ha]) b (by simp[hb])⟩
theorem Qcl{S:List Un}{u:Un}{s x:Bs×Int}{k t:Nat}(h:x ∈ plT S u s k t):∃ y,u.tk[t]?=some y∧x=(u.n,(y.a:Int)):=by
 unfold plT at h;obtain⟨j,-,hj⟩:=Q1y.1 h;unfold plB at hj;split at hj
 · rename_i b y h1 h2;split at hj
   · exact⟨y,h2,by simpa using hj⟩
   · simp at hj
 · simp at hj
theorem Qvr{S:List Un}{s:Bs×Int}{u:Un}(hx:GdX u):(plU S s u).Pairwise fun x y=>cSp x y≤0:=by
 unfold plU plV;rw[List.pairwise_flatMap];refine⟨fun t _=>Qo1 fun x h1 y h2 => ?_,List.pairwise_lt_range.imp fun {a b} hab x h1 y h2 => ?_⟩
 · obtain⟨z,g1,rfl⟩:=Qcl h1;obtain⟨w,g2,rfl⟩:=Qcl h2;rw[g1]at g2;cases g2
   rw[Qan.refl];omega
 · obtain⟨z,g1,rfl⟩:=Qcl h1;obtain⟨w,g2,rfl⟩:=Qcl h2;obtain⟨i1,e1⟩:=Qz5.1 g1;obtain⟨i2,e2⟩:=Qz5.1 g2;have:=Q3v.1 hx.rise a b i1 i2 hab;rw[e1,e2]at this;have e:Q8 u.n u.n=0:=Qcb.refl _;unfold cSp;simp only[e,if_true];unfold V3;rw[if_pos (by omega)];omega
theorem Qqw{S T:List Un}{s:Bs×Int}(hS:T.Pairwise fun u v=>cU u v<0)(hx:∀ u ∈ T,GdX u):(T.flatMap (plU S s)).Pairwise fun x y=>cSp x y≤0:=by
 rw[List.pairwise_flatMap];refine⟨fun u hu=>Qvr (hx u hu),hS.imp fun {u v} huv x h1 y h2 => ?_⟩;have g:∀ {u:Un} {x:Bs×Int},x ∈ plU S s u→x.1=u.n:=fun {u x} h=>by
  unfold plU plV at h;obtain⟨t,-,ht⟩:=Q1y.1 h;obtain⟨y,-,rfl⟩:=Qcl ht;rfl
 have huv:Q8 u.n v.n<0:=huv;unfold cSp;rw[g h1,g h2,if_neg (by omega)];omega
theorem Qdl{α β:Type}(f g : α→List β):∀ l:List α,(l.flatMap fun x=>f x++g x).Perm (l.flatMap f++l.flatMap g)
 | []=>by simp
 | x :: r => by
   have ih:=Qdl f g r;simp only[Q2i,Q0n];refine List.Perm.append_left _ ?_;refine (List.Perm.append_left _ ih).trans ?_;exact List.perm_append_comm_assoc _ _ _
theorem Qlk{α β:Type}{g : α→List β}{p : α→Bool}{f : α → β}:∀ {l:List α},(∀ t ∈ l,g t=if p t=true then [f t] else [])→l.flatMap g=(l.filter p).map f
 | [],_=>rfl
 | x :: r, h => by
   rw[Q2i,Qlk fun t ht=>h t (by simp[ht]),h x (by simp)];cases hp:p x<;>simp[hp]
theorem GdX.nodup{u:Un}(hx:GdX u){j:Nat}(hj:j<u.sm.bs.length):(Ym u.sm j).Nodup:=by
 rw[List.nodup_iff_count];intro t;rw[Qrk _ _ hj];have h1:=hx.once t;have h2:(u.sm.ms.countP fun m=>decide (m.t=(j:Int))&&decide (m.a=t))≤evM u.sm.ms t:=List.countP_mono_left fun m _=>by simp
 have h3:(if (bAt u.sm.bs j).a=t then 1 else 0)≤evB u.sm.bs t:=by
  split
  · rename_i h;refine Q17.2 ⟨bAt u.sm.bs j,?_,by simp[h]⟩;unfold bAt;rw[Q1r,Q1b,Qz6 hj];exact Q01 hj
  · omega
 omega
theorem Qhv{u:Un}{j:Nat}{b:SBd}(hb:u.sm.bs[j]?=some b)(t:Int):hitK b u.sm.ms t j=true↔t ∈ Ym u.sm j:=by
 rw[Qg0 (Qz5.1 hb).1];unfold hitK hitM;simp only[Q16,decide_eq_true_eq,List.any_eq_true];refine or_congr ⟨fun h=>⟨b,hb,h⟩,?_⟩ Q1n;rintro⟨c,hc,h⟩;rw[hb]at hc;cases hc
 exact h
theorem Qvm{S:List Un}{s:Bs×Int}{u:Un}(hx:GdX u){j:Nat}{b:SBd}(hb:u.sm.bs[j]?=some b):(qlB S s u j b).Perm ((List.range u.tk.length).flatMap fun t=>plB S u s t j):=by
 have hj:=(Qz5.1 hb).1;unfold qlB;by_cases ho:ofSy S u b=s
 · rw[if_pos ho];have h1:((List.range u.tk.length).flatMap fun t=>plB S u s t j)=((List.range u.tk.length).filter fun t:Nat=>hitK b u.sm.ms t j).map fun t:Nat=>(u.n,atT u t):=Qlk fun t ht=>by
    have htl:=Q2a.1 ht;unfold plB;rw[hb,Qz6 htl];simp only[ho,true_and];have:atT u (t:Int)=(u.tk[t].a:Int):=by unfold atT;simp[htl]
    rw[this]
   have h2:(((List.range u.tk.length).filter fun t:Nat=>hitK b u.sm.ms t j).map fun t:Nat=>(u.n,atT u t))=(((List.range u.tk.length).filter fun t:Nat=>hitK b u.sm.ms t j).map fun t:Nat=>(t:Int)).map fun t=>(u.n,atT u t):=by
    rw[Q4f];rfl
   rw[h1,h2];refine List.Perm.map _ ((Qk7 _).trans ?_);refine (List.perm_ext_iff_of_nodup (hx.nodup hj) ?_).2 fun t => ?_
   · unfold List.Nodup;rw[List.pairwise_map];exact(List.Pairwise.filter _ (List.pairwise_lt_range)).imp fun h e=>by omega
   · rw[Q1m];constructor
     · intro ht;obtain⟨g1,g2⟩:=hx.uin j hj t ht;refine⟨t.toNat,Q14.2 ⟨Q2a.2 g2,?_⟩,by omega⟩;rw[show ((t.toNat:Nat):Int)=t by omega];exact(Qhv hb t).2 ht
     · rintro⟨k,hk,rfl⟩;exact(Qhv hb _).1 (Q14.1 hk).2
 · rw[if_neg ho];have h1:((List.range u.tk.length).flatMap fun t=>plB S u s t j)=[]:=by
    rw[List.flatMap_eq_nil_iff];intro t ht;unfold plB;rw[hb,Qz6 (Q2a.1 ht)];simp[ho]
   rw[h1]
theorem Qox{S:List Un}{s:Bs×Int}{u:Un}(hx:GdX u):∀ j,j≤u.sm.bs.length→(qlK S s u j).Perm ((List.range u.tk.length).flatMap fun t=>plT S u s j t)
 | 0, _ => by
   have:((List.range u.tk.length).flatMap fun t=>plT S u s 0 t)=[]:=by
    rw[List.flatMap_eq_nil_iff];intro t _;rfl
   rw[this];exact List.Perm.refl _
 | j + 1, h => by
   have ih:=Qox (S:=S) (s:=s) hx j (by omega);have hb:=Qz6 (show j<u.sm.bs.length by omega);rw[Qku hb];simp only[Qvs];exact(ih.append (Qvm hx hb)).trans (Qdl _ _ _).symm
theorem Qvp{S:List Un}(hS:S.Pairwise fun u v=>cU u v<0)(hx:∀ u ∈ S,GdX u)(s:Bs×Int):(qlS S s S).mergeSort leSp=Qba S s:=by
 refine Qon ?_ (Qqw hS hx);have:∀ T:List Un,(∀ u ∈ T,GdX u)→(qlS S s T).Perm (T.flatMap (plU S s)):=by
  intro T;induction T with
  | nil=>intro _;exact List.Perm.refl _
  | cons u r ih =>
    intro h;unfold qlS;simp only[Q2i];exact(Qox (h u (by simp)) _ (Qz8 _)).append (ih fun v hv=>h v (by simp[hv]))
 exact this S hx
end
end Go.Zam
namespace Go.Proofs
open Go.Shelf
def Tryz.lays189_ren:Go.Shelf.Ren:=⟨fun|189=>27|125=>46|257=>45|128=>73|129=>74|294=>64|295=>65|296=>66|297=>67|298=>68|299=>69|216=>70|300=>71|301=>72|328=>105|329=>106|330=>107|331=>108|332=>109|215=>48|343=>145|n=>n,fun|28=>68|3=>3|46=>109|0=>0|51=>154|53=>156|4=>4|183=>147|182=>146|131=>85|5=>5|9=>9|218=>194|222=>198|228=>227|229=>228|n=>n,fun|n=>n⟩
theorem Tryz.lays189:Go.Proofs.Lays.n189 Tryz.prog Tryz.lays189_ren := {
 mixed:=by kernel_rfl
 f125:=Tryz.func46.trans (congrArg some (by kernel_rfl))
 f128:=Tryz.func73.trans (congrArg some (by kernel_rfl))
 f129:=Tryz.func74.trans (congrArg some (by kernel_rfl))
 f189:=Tryz.func27.trans (congrArg some (by kernel_rfl))
 f215:=Tryz.func48.trans (congrArg some (by kernel_rfl))
 f216:=Tryz.func70.trans (congrArg some (by kernel_rfl))
 f257:=Tryz.func45.trans (congrArg some (by kernel_rfl))
 f294:=Tryz.func64.trans (congrArg some (by kernel_rfl))
 f295:=Tryz.func65.trans (congrArg some (by kernel_rfl))
 f296:=Tryz.func66.trans (congrArg some (by kernel_rfl))
 f297:=Tryz.func67.trans (congrArg some (by kernel_rfl))
 f298:=Tryz.func68.trans (congrArg some (by kernel_rfl))
 f299:=Tryz.func69.trans (congrArg some (by kernel_rfl))
 f300:=Tryz.func71.trans (congrArg some (by kernel_rfl))
 f301:=Tryz.func72.trans (congrArg some (by kernel_rfl))
 f328:=Tryz.func105.trans (congrArg some (by kernel_rfl))
 f329:=Tryz.func106.trans (congrArg some (by kernel_rfl))
 f330:=Tryz.func107.trans (congrArg some (by kernel_rfl))
 f331:=Tryz.func108.trans (congrArg some (by kernel_rfl))
 f332:=Tryz.func109.trans (congrArg some (by kernel_rfl))
 f343:=Tryz.func145.trans (congrArg some (by kernel_rfl))
 t0:=Tryz.underlying0
 a0:=Tryz.isAgg0
 z0:=Tryz.sizeOf0
 v0:=Tryz.zeroValue0
 t3:=Tryz.underlying3
 a3:=Tryz.isAgg3
 z3:=Tryz.sizeOf3
 v3:=Tryz.zeroValue3
 t4:=Tryz.underlying4
 a4:=Tryz.isAgg4
 z4:=Tryz.sizeOf4
 v4:=Tryz.zeroValue4
 t5:=Tryz.underlying5
 a5:=Tryz.isAgg5
 z5:=Tryz.sizeOf5
 v5:=Tryz.zeroValue5
 t9:=Tryz.underlying9
 a9:=Tryz.isAgg9
 z9:=Tryz.sizeOf9
 v9:=Tryz.zeroValue9
 t28:=Tryz.underlying68
 a28:=Tryz.isAgg68
 z28:=Tryz.sizeOf68
 v28:=Tryz.zeroValue68
 t46:=Tryz.underlying109
 a46:=Tryz.isAgg109
 z46:=Tryz.sizeOf109
 v46:=Tryz.zeroValue109
 t51:=Tryz.underlying154
 a51:=Tryz.isAgg154
 z51:=Tryz.sizeOf154
 v51:=Tryz.zeroValue154
 t53:=Tryz.underlying156
 a53:=Tryz.isAgg156
 z53:=Tryz.sizeOf156
 v53:=Tryz.zeroValue156
 t131:=Tryz.underlying85
 a131:=Tryz.isAgg85
 z131:=Tryz.sizeOf85
 v131:=Tryz.zeroValue85
 t182:=Tryz.underlying146
 a182:=Tryz.isAgg146
 z182:=Tryz.sizeOf146
 v182:=Tryz.zeroValue146
 t183:=Tryz.underlying147
 a183:=Tryz.isAgg147
 z183:=Tryz.sizeOf147
 v183:=Tryz.zeroValue147
 t218:=Tryz.underlying194
 a218:=Tryz.isAgg194
 z218:=Tryz.sizeOf194
 v218:=Tryz.zeroValue194
 t222:=Tryz.underlying198
 a222:=Tryz.isAgg198
 z222:=Tryz.sizeOf198
 v222:=Tryz.zeroValue198
 t228:=Tryz.underlying227
 a228:=Tryz.isAgg227
 z228:=Tryz.sizeOf227
 v228:=Tryz.zeroValue227
 t229:=Tryz.underlying228
 a229:=Tryz.isAgg228
 z229:=Tryz.sizeOf228
 v229:=Tryz.zeroValue228 }
def Tryz.sortF_ren:Go.Shelf.Ren:=⟨fun|6=>28|15=>46|14=>47|28=>73|29=>74|20=>75|21=>76|22=>77|23=>78|24=>79|25=>80|26=>81|27=>82|46=>110|47=>106|48=>107|49=>111|50=>112|57=>146|n=>n,fun|22=>28|24=>31|25=>98|3=>3|39=>109|0=>0|53=>154|55=>156|4=>4|46=>147|45=>146|50=>85|5=>5|9=>9|66=>194|70=>198|76=>227|77=>228|n=>n,fun|n=>n⟩
theorem Tryz.sortF:Go.Proofs.SlLaysF0.n6 Tryz.prog Tryz.sortF_ren := {
 mixed:=by kernel_rfl
 f6:=⟨Tryz.f28.name,by decide,Tryz.func28.trans (congrArg some (by kernel_rfl))⟩
 f14:=⟨Tryz.f47.name,by decide,Tryz.func47.trans (congrArg some (by kernel_rfl))⟩
 f15:=Tryz.func46.trans (congrArg some (by kernel_rfl))
 f20:=⟨Tryz.f75.name,by decide,Tryz.func75.trans (congrArg some (by kernel_rfl))⟩
 f21:=⟨Tryz.f76.name,by decide,Tryz.func76.trans (congrArg some (by kernel_rfl))⟩
 f22:=⟨Tryz.f77.name,by decide,Tryz.func77.trans (congrArg some (by kernel_rfl))⟩
 f23:=⟨Tryz.f78.name,by decide,Tryz.func78.trans (congrArg some (by kernel_rfl))⟩
 f24:=⟨Tryz.f79.name,by decide,Tryz.func79.trans (congrArg some (by kernel_rfl))⟩
 f25:=⟨Tryz.f80.name,by decide,Tryz.func80.trans (congrArg some (by kernel_rfl))⟩
 f26:=⟨Tryz.f81.name,by decide,Tryz.func81.trans (congrArg some (by kernel_rfl))⟩
 f27:=⟨Tryz.f82.name,by decide,Tryz.func82.trans (congrArg some (by kernel_rfl))⟩
 f28:=Tryz.func73.trans (congrArg some (by kernel_rfl))
 f29:=Tryz.func74.trans (congrArg some (by kernel_rfl))
 f46:=⟨Tryz.f110.name,by decide,Tryz.func110.trans (congrArg some (by kernel_rfl))⟩
 f47:=Tryz.func106.trans (congrArg some (by kernel_rfl))
 f48:=Tryz.func107.trans (congrArg some (by kernel_rfl))
 f49:=⟨Tryz.f111.name,by decide,Tryz.func111.trans (congrArg some (by kernel_rfl))⟩
 f50:=⟨Tryz.f112.name,by decide,Tryz.func112.trans (congrArg some (by kernel_rfl))⟩
 f57:=⟨Tryz.f146.name,by decide,Tryz.func146.trans (congrArg some (by kernel_rfl))⟩
 t0:=Tryz.underlying0
 a0:=Tryz.isAgg0
 z0:=Tryz.sizeOf0
 v0:=Tryz.zeroValue0
 t3:=Tryz.underlying3
 a3:=Tryz.isAgg3
 z3:=Tryz.sizeOf3
 v3:=Tryz.zeroValue3
 t4:=Tryz.underlying4
 a4:=Tryz.isAgg4
 z4:=Tryz.sizeOf4
 v4:=Tryz.zeroValue4
 t5:=Tryz.underlying5
 a5:=Tryz.isAgg5
 z5:=Tryz.sizeOf5
 v5:=Tryz.zeroValue5
 t9:=Tryz.underlying9
 a9:=Tryz.isAgg9
 z9:=Tryz.sizeOf9
 v9:=Tryz.zeroValue9
 t22:=Tryz.underlying28
 a22:=Tryz.isAgg28
 z22:=Tryz.sizeOf28
 v22:=Tryz.zeroValue28
 t25:=Tryz.underlying98
 a25:=Tryz.isAgg98
 z25:=Tryz.sizeOf98
 v25:=Tryz.zeroValue98
 t39:=Tryz.underlying109
 a39:=Tryz.isAgg109
 z39:=Tryz.sizeOf109
 v39:=Tryz.zeroValue109
 t45:=Tryz.underlying146
 a45:=Tryz.isAgg146
 z45:=Tryz.sizeOf146
 v45:=Tryz.zeroValue146
 t46:=Tryz.underlying147
 a46:=Tryz.isAgg147
 z46:=Tryz.sizeOf147
 v46:=Tryz.zeroValue147
 t50:=Tryz.underlying85
 a50:=Tryz.isAgg85
 z50:=Tryz.sizeOf85
 v50:=Tryz.zeroValue85
 t53:=Tryz.underlying154
 a53:=Tryz.isAgg154
 z53:=Tryz.sizeOf154
 v53:=Tryz.zeroValue154
 t55:=Tryz.underlying156
 a55:=Tryz.isAgg156
 z55:=Tryz.sizeOf156
 v55:=Tryz.zeroValue156
 t66:=Tryz.underlying194
 a66:=Tryz.isAgg194
 z66:=Tryz.sizeOf194
 v66:=Tryz.zeroValue194
 t70:=Tryz.underlying198
 a70:=Tryz.isAgg198
 z70:=Tryz.sizeOf198
 v70:=Tryz.zeroValue198
 t76:=Tryz.underlying227
 a76:=Tryz.isAgg227
 z76:=Tryz.sizeOf227
 v76:=Tryz.zeroValue227
 t77:=Tryz.underlying228
 a77:=Tryz.isAgg228
 z77:=Tryz.sizeOf228
 v77:=Tryz.zeroValue228 }
namespace Zu
open Go Go.Zam Go.Proofs Go.RowKit Go.Lib Go.Sort
theorem nanS(a:ByteArray)(w:World):Calls Tryz.prog 43 #[.string a] w fun e w'=>e=.returned (.bool false)∧w'=w:=by
 go_enter Tryz.func43,Tryz.ntmps43
 go_wp2
 go_ret
 exact⟨by simp,rfl⟩
theorem nanI(a:Int)(w:World):Calls Tryz.prog 48 #[.int .i64 a] w fun e w'=>e=.returned (.bool false)∧w'=w:=by
 go_enter Tryz.func48,Tryz.ntmps48
 go_wp2
 go_ret
 exact⟨by simp,rfl⟩
theorem gtS(a b:List UInt8)(w:World):(binOp .gtr 9 (.string ⟨a.toArray⟩) (.string ⟨b.toArray⟩)).run Tryz.prog w=.ok (.bool (!(Op.bytesLess a b||decide (a=b)))) w:=by
 have h:(binOp .gtr 9 (.string ⟨a.toArray⟩) (.string ⟨b.toArray⟩)).run Tryz.prog w=.ok (.bool (!(Op.bytesLess (ByteArray.toList ⟨a.toArray⟩) (ByteArray.toList ⟨b.toArray⟩)||(ByteArray.toList ⟨a.toArray⟩ == ByteArray.toList ⟨b.toArray⟩)))) w:=rfl;rw[h,Qdm,Y5,Y5]
theorem compS(a b:List UInt8)(w:World):Calls Tryz.prog 25 #[.string ⟨a.toArray⟩,.string ⟨b.toArray⟩] w fun e w'=>e=.returned (.int .i64 (Q8 a b))∧w'=w:=by
 have hn:=nanS
 go_enter Tryz.func25,Tryz.ntmps25
 go_wp2_with (go_at_call 43;refine (hn _ _).mono ?_;rintro e w' ⟨rfl,rfl⟩)
 · go_ret
   refine⟨?_,rfl⟩;have hb:Op.bytesLess a b=true:=by assumption
   unfold Q8;rw[hb];rfl
 · rw[gtS]
   go_wp2
   all_goals (go_ret;refine⟨?_,rfl⟩;unfold Q8;simp_all)
theorem compI(a b:Int)(w:World):Calls Tryz.prog 31 #[.int .i64 a,.int .i64 b] w fun e w'=>e=.returned (.int .i64 (V3 a b))∧w'=w:=by
 have hn:=nanI
 go_enter Tryz.func31,Tryz.ntmps31
 go_wp2_with (go_at_call 48;refine (hn _ _).mono ?_;rintro e w' ⟨rfl,rfl⟩)
 all_goals (go_ret;refine⟨?_,rfl⟩;unfold V3;(repeat' split)<;>first|rfl|(exfalso;omega))
theorem or2(b:Nat)(x y r:Int)(w:World)(hr0:x=0→r=y)(hr1:x≠0→r=x)(h0:w.cell? ⟨b,0,none⟩=some (.int .i64 x))(h1:w.cell? ⟨b,1,none⟩=some (.int .i64 y)):Calls Tryz.prog 30 #[.slice (some ⟨b,0,none⟩) 2 2] w fun e w'=>e=.returned (.int .i64 r)∧w'=w:=by
 go_enter Tryz.func30,Tryz.ntmps30
 go_wp2
 go_loopw [8] (fun i wr=>∃ k:Nat,k≤2∧i=.int .i64 k∧wr=w∧(1≤k→x=0)∧(2≤k→y=0)) (fun i _=>2-(intOf i).toNat)
 case atStart=>exact⟨0,by omega,rfl,rfl,by omega,by omega⟩
 case round =>
  obtain⟨k,hk,rfl,rfl,hx,hy⟩:=hrel;rcases (show k=0∨k=1∨k=2 from by omega) with rfl|rfl|rfl
  · go_wp2
    · have hb:(x != 0)=true:=by assumption
      have hb:x≠0:=by simpa using hb
      go_ret
      exact⟨by rw[hr1 hb];rfl,rfl⟩
    · have hb:(x != 0)=false:=by assumption
      have hb:x=0:=by simpa using hb
      exact⟨⟨1,by omega,rfl,trivial,fun _=>hb,by omega⟩,by simp[intOf]⟩
  · have hx:=hx (by omega)
    go_wp2
    · go_ret
      exact⟨by rw[hr0 hx];rfl,rfl⟩
    · have hb:(y != 0)=false:=by assumption
      have hb:y=0:=by simpa using hb
      exact⟨⟨2,by omega,rfl,trivial,fun _=>hx,fun _=>hb⟩,by simp[intOf]⟩
  · have hx:=hx (by omega);have hy:=hy (by omega)
    go_wp2
    go_ret
    exact⟨by rw[hr0 hx,hy];rfl,rfl⟩
theorem Qn5(W:World)(o:Array Value)(t:TypeId)(i:Nat):(W.alloc (.cells o t)).cell? ⟨W.heap.size,i,none⟩=o[i]?:=by
 unfold World.cell?;simp only[World.alloc_heap_new];simp
theorem Qyi(W:World)(o p:Array Value)(t u:TypeId)(i:Nat):((W.alloc (.cells o t)).alloc (.cells p u)).drew.cell? ⟨W.heap.size,i,none⟩=o[i]?:=by
 have h:Below (W.heap.size+1) (W.alloc (.cells o t)) ((W.alloc (.cells o t)).alloc (.cells p u)):=(Below.refl _ _).alloc (by simp) _;exact(h.cell (p:=⟨W.heap.size,i,none⟩) (by show W.heap.size<_;omega)).trans (Qn5 W o t i)
theorem Qyh(W:World)(o p:Array Value)(t u:TypeId)(i:Nat):((W.alloc (.cells o t)).alloc (.cells p u)).drew.cell? ⟨W.heap.size+1,i,none⟩=p[i]?:=by
 have h:=Qn5 (W.alloc (.cells o t)) p u i;simpa using h
theorem Qwn(x y:Bs×Int)(W:World):Calls Tryz.prog 29 #[.agg #[.string ⟨x.1.toArray⟩,.int .i64 x.2],.agg #[.string ⟨y.1.toArray⟩,.int .i64 y.2]] W fun e w'=>e=.returned (.int .i64 (cSp x y))∧∃ q os',w'=grow (W.drewN q) os':=by
 have hS:=compS x.1 y.1;have hI:=compI x.2 y.2;have hO:=fun b W' c0 c1=>or2 b (Q8 x.1 y.1) (V3 x.2 y.2) (cSp x y) W' (fun h=>by unfold cSp;rw[if_pos h]) (fun h=>by unfold cSp;rw[if_neg h]) c0 c1;generalize cSp x y=r at hO ⊢;generalize Q8 x.1 y.1=a at hS hO;generalize V3 x.2 y.2=b at hI hO
 go_enter Tryz.func29,Tryz.ntmps29
 go_wp2
 obtain⟨W2,hW2⟩:∃ W2,(W.alloc (.cells #[.string ⟨x.1.toArray⟩,.int .i64 x.2] 31)).alloc (.cells #[.string ⟨y.1.toArray⟩,.int .i64 y.2] 31)=W2:=⟨_,rfl⟩;have c0:W2.drew.cell? ⟨W.heap.size,0,none⟩=some (.string ⟨x.1.toArray⟩):=by rw[← hW2,Qyi];rfl
 have c1:W2.drew.cell? ⟨W.heap.size,1,none⟩=some (.int .i64 x.2):=by rw[← hW2,Qyi];rfl
 have c2:W2.drew.cell? ⟨W.heap.size+1,0,none⟩=some (.string ⟨y.1.toArray⟩):=by rw[← hW2,Qyh];rfl
 have c3:W2.drew.cell? ⟨W.heap.size+1,1,none⟩=some (.int .i64 y.2):=by rw[← hW2,Qyh];rfl
 have hg:∃ os,W2.drew=grow (W.drewN 1) os:=⟨#[.cells #[.string ⟨x.1.toArray⟩,.int .i64 x.2] 31,.cells #[.string ⟨y.1.toArray⟩,.int .i64 y.2] 31],by rw[← hW2,alloc_eq_grow,alloc_eq_grow,grow_grow];rfl⟩;rw[hW2];clear hW2;refine wp_region_still_tail 10 (by kernel_rfl) (by kernel_rfl) ?_;simp only[List.take_succ_cons,Q19,Q2t,Q2x]
 still_step
 still_step
 still_step
 still_step
 still_call (hS _)
 still_step
 still_step
 still_step
 still_step
 still_call (hI _)
 refine wpStill_nil ?_;change wpList _ _ _ _ _ W2.drew;generalize W2.drew=W3 at hg ⊢
 go_wp2_with (go_at_call 30;refine (hO _ _ (Qn5 _ _ _ 0) (Qn5 _ _ _ 1)).mono ?_;rintro e w' ⟨rfl,rfl⟩)
 go_ret
 obtain⟨os,hg⟩:=hg;exact⟨rfl,1,_,by rw[hg,alloc_eq_grow,grow_grow]⟩
theorem swoSp:SWO (ltOf cSp) where
 irrefl x:=by unfold ltOf;rw[Qan.refl];rfl
 trans x y z h1 h2:=by
  unfold ltOf at *;simp only[decide_eq_true_eq]at *;exact Qan.lt_le h1 (by omega)
 ntrans x y z h1 h2:=by
  unfold ltOf at *;simp only[decide_eq_false_iff_not]at *;rw[Qan.not_lt]at *;exact Qan.trans _ _ _ h2 h1
theorem totSp(x y:Bs×Int)(h1:ltOf cSp x y=false)(h2:ltOf cSp y x=false):x=y:=by
 unfold ltOf at *;simp only[decide_eq_false_iff_not]at *;rw[Qan.not_lt]at *;exact Qp4 (Qan.le_antisymm h2 h1)
theorem Qtf:Qob Tryz.prog 27:=fun blk off cap ss w hH hblk hsz=>Any.slices_Sort_int Tryz.lays189 blk off cap ss w hH hblk hsz
theorem Qu3:Qoa Tryz.prog 28 29 leSp:=fun blk off cap ss w hH hblk hsz=>by
 have eg:∀ args w,(callFunc 29 args).run Tryz.prog w=.ok (.enter 29 args) w:=enters_of Tryz.func29 (by kernel_rfl) rfl;have h:=AnyQ.slices_SortFunc_total Tryz.sortF 2 Tryz.isAgg31 Tryz.sizeOf31 spV (fun _=>rfl) Qu2 cSp swoSp 29 #[] blk off cap ss.toArray w eg (fun _ _ _ _ x y=>Qwn x y _) hH hblk hsz totSp;exact h
theorem Qte:Qj7 Tryz.prog 28 29:=fun a cap w=>AnyF.slices_SortFunc_none Tryz.sortF a cap _ w
end Zu
end Go.Proofs
namespace Go.Zam
variable{P:Program}
section
open Go.Proofs
end
section
open Go.Proofs
end
section
open Go.Proofs
def syA(o:Option (Bs×Int)):A := .tup [.agg [YS (o.elim [] Prod.fst),YI (o.elim 0 Prod.snd)],YB o.isSome]
end
section
open Go.Proofs
structure PrjX(S:List Un):Prop where
 ok:PrjOk S
 chk:chkU none S=0
 gx:∀ u ∈ S,GdX u
 sx:∀ u ∈ S,Sm16 u
 rd:∀ u ∈ S,∃ m,u=Wi m
theorem Qvh(m:Mod):Sm16 (Wi m):=by
 have hz:=Qci m.t;by_cases h0:(Qy m.t).2.2.1=0
 · obtain⟨n,j,h1,h2,h3,h4,h5,hI,hj,h6⟩:=Qcj h0;have hsm:(Wi m).sm=Vx n:=by
    show (if _ then _ else _)=_;rw[if_pos h0,h2]
   have htk:(Wi m).tk=(lexS m.t).1:=h1;have hs:=Qkp n;rw[h2]at hz;unfold SM.sz at hs;have h4000:(lexS m.t).1.length≤4000:=((Qg1 m.t).2 h5).2;exact⟨by rw[htk];omega,by rw[hsm];omega,by rw[hsm];omega⟩
 · have hsm:(Wi m).sm=⟨[],[],[]⟩:=by
    show (if _ then _ else _)=_;rw[if_neg h0]
   have htk:(Wi m).tk=[]:=by
    show (Qy m.t).1=[];unfold Qy at h0 ⊢;split
    · rfl
    · rename_i g1;split
      · rfl
      · rename_i g2;rw[if_neg g1,if_neg g2]at h0;exact absurd rfl h0
   exact⟨by rw[htk];simp,by rw[hsm];simp,by rw[hsm];simp⟩
theorem Qye{l:List Mod}(h:(ofU (l.map Wi)).2=0):PrjX (ofU (l.map Wi)).1:=by
 have hm:∀ u ∈ (ofU (l.map Wi)).1,∃ m,u=Wi m:=by
  intro u hu;have:u ∈ l.map Wi:=by
   unfold ofU at hu;split at hu
   · simp at hu
   · simp only at hu;split at hu
     · exact((Wf V4 _).2.mem V4).2 hu
     · simp at hu
  obtain⟨m,-,rfl⟩:=Q1m.1 this;exact⟨m,rfl⟩
 refine⟨Qzd l,(Qvu h).2,fun u hu => ?_,fun u hu => ?_,hm⟩
 · obtain⟨m,rfl⟩:=hm u hu;exact Qtl m
 · obtain⟨m,rfl⟩:=hm u hu;exact Qvh m
theorem PrjX.strict{S:List Un}(h:PrjX S):S.Pairwise fun u v=>cU u v<0:=(Qgm h.ok.so h.chk).1
theorem PrjX.self{S:List Un}(h:PrjX S):Qwx S:=fun u hu=>by
 obtain⟨i,hi⟩:=Q2m hu;exact Qs5 h.ok.so h.chk hi
section
variable{P:Program}{H0:Hp}
def Qwz(P:Program)(H0:Hp)(f:Nat):Prop:=∀(l:List Mod)(z:Bool)(most:Int),0≤most∧most≤1048576→l.length≤1048576→(∀ m ∈ l,m.n.length≤1048576∧m.t.length≤1048576)→∀ H,Pre0 H0 H→Qc P f [YL z 2 (l.map encM),YI most] H (fun r H' =>
 ((∃ d,r=.tup [.d .nilp,.d d,YB false])∨∃ S,PrjX S∧r=.tup [pA S,YL true 14 (S.map Un.encR),YB true])∧H'=H)
def Qrz(P:Program)(f:Nat):Prop:=∀ S,PrjX S→∀(m:Bs)(a:Int)(H:Hp),Qc P f [pA S,.agg [YS m,YI a]] H (fun r H'=>r=syA (atSy S m a)∧H'=H)
def Qrx(P:Program)(f:Nat):Prop:=∀ S,PrjX S→∀(s:Bs×Int)(H:Hp),Qc P f [pA S,.agg [YS s.1,YI s.2]] H (fun r H'=>r=YL (Qba S s).isEmpty 2 ((Qba S s).map Vd)∧H'=H)
theorem Has.ixLoaded{f light_ load rload:Nat}(h:Has P f (Qgh light_ load rload))(hLi:Qsz P light_)(hL:Qrv P H0 load)(hR:Qst P H0 rload):Qwz P H0 f:=by
 intro l z most hmo hl hm H hH;refine Qg h (by simp[Qgh]) fun hcl _ => ?_;have g1:=hLi l z most hmo hl hm H;have g2:=hL l z (fun m h=>(hm m h).2) H hH;have g3:=hR l z (fun m h=>(hm m h).2) H hH;have hx:=Qye (l:=l);unfold ofA at g2;unfold ofR at g3;generalize ofU (l.map Wi)=o at *;obtain⟨S,e⟩:=o;simp only at g2 g3 hx;simp[Qgh];refine Qa g1 ?_;cases light l most with
 | false =>
   simp;simp[RetK,Qb hcl]
 | true =>
   simp;refine Qa g2 ?_;by_cases he:e=0
   · subst he;simp[pA];refine Qa g3 ?_;simp;simp[RetK,Qb hcl];exact⟨S,hx rfl,⟨rfl,rfl⟩,rfl⟩
   · simp[he];refine Qa g3 ?_;simp[he];simp[RetK,Qb hcl]
def ixM:Mod:=⟨[109,97,105,110],[100,101,102,32,109,97,105,110,40,41,32,123,32,109,97,105,110,40,41,59,32,125]⟩
def ixU:Un:=Wi ixM
theorem Qzk:chkU none [ixU]=0:=by kernel_rfl
theorem Qyg:ofU ([ixM].map Wi)=([ixU],0):=by
 have h1:ssort cU [ixU]=[ixU]:=rfl;have h2:[ixM].map Wi=[ixU]:=rfl;unfold ofU;rw[h2,if_neg (by decide),h1,Qzk];rfl
theorem ix_at:atSy [ixU] [109,97,105,110] 5=some ([109,97,105,110],1):=by kernel_rfl
theorem ix_pl:(Qba [ixU] ([109,97,105,110],1)).length=2:=by kernel_rfl
theorem Has.ixAwake{f load ixAt places tSy:Nat}(h:Has P f (Qit load ixAt places tSy))(hl:Qrv P H0 load)(hA:Qrz P ixAt)(hP:Qrx P places):Qw3 P H0 f:=by
 intro H hH;refine Qg h (by simp[Qit]) fun hcl _ => ?_;have g1:=hl [ixM] false (by intro m hm;simp at hm;subst hm;decide) H hH;have ho:ofA ([ixM].map Wi)=.tup [pA [ixU],YI 0]:=by unfold ofA;rw[Qyg];rfl
 have hx:PrjX [ixU]:=by
  have:=Qye (l:=[ixM]);rw[Qyg]at this;exact this rfl
 rw[ho]at g1;have g2:=hA [ixU] hx [109,97,105,110] 5 H;have g3:=fun X=>hP [ixU] hx ([109,97,105,110],1) (H++X);rw[ix_at]at g2;have hk:=ix_pl;generalize Qba [ixU] ([109,97,105,110],1)=R at *;generalize [ixU]=S at *;simp only[Q02,Q1t,encM,ixM,pA,syA,Q3f,Q23]at g1 g2 g3;simp[Qit];refine Qa g1 ?_;simp;refine Qa g2 ?_;simp;refine Qa (g3 _) ?_;simp[hk];simp[RetK,Qe hcl]
end
end
section
open Go.Proofs
theorem GdX.tkAt{u:Un}(h:GdX u){i:Nat}{x:Tk}(hi:u.tk[i]?=some x)(hk:x.k≠0):Zam.tkAt u.tk (x.a:Int)=i:=by
 have hn:=h.ne x (Q0u hi) hk;have hr:=h.rise;have:∀(l:List Tk)(j:Int)(i:Nat),(l.Pairwise fun x y=>x.a<y.a∧x.a+x.x.length≤y.a)→l[i]?=some x→fstI (tkIn (x.a:Int)) l j=j+i:=by
  intro l;induction l with
  | nil=>intro j i _ h;simp at h
  | cons y r ih =>
    intro j i hp hi;obtain⟨h1,h2⟩:=Q13.1 hp;unfold fstI;cases i with
    | zero =>
      simp at hi;subst hi;have:tkIn (y.a:Int) y=true:=by unfold tkIn;simp[hk];omega
      rw[this];simp
    | succ i =>
      simp at hi;have h3:=h1 x (Q0u hi);have:tkIn (x.a:Int) y=false:=by unfold tkIn;simp;omega
      rw[this];simp only[Q0f,if_false];rw[ih (j+1) i h2 hi];omega
 have hf:=this u.tk 0 i hr hi;unfold Zam.tkAt;rw[hf,if_neg (by omega)];omega
theorem Qtt{S:List Un}{s x:Bs×Int}(h:x ∈ Qba S s):∃ u ∈ S,∃(t k:Nat)(b:SBd)(y:Tk),u.sm.bs[k]?=some b∧u.tk[t]?=some y∧ofSy S u b=s∧(t:Int) ∈ Ym u.sm k∧x=(u.n,(y.a:Int)):=by
 unfold Qba at h;obtain⟨u,hu,h⟩:=Q1y.1 h;unfold plU plV at h;obtain⟨t,ht,h⟩:=Q1y.1 h;unfold plT at h;obtain⟨k,hk,h⟩:=Q1y.1 h;unfold plB at h;split at h
 · rename_i b y h1 h2;split at h
   · rename_i h3;exact⟨u,hu,t,k,b,y,h1,h2,h3.1,(Qhv h1 _).1 h3.2,by simpa using h⟩
   · simp at h
 · simp at h
theorem Qvq{S:List Un}(hX:PrjX S){s x:Bs×Int}(h:x ∈ Qba S s):atSy S x.1 x.2=some s:=by
 obtain⟨u,hu,t,k,b,y,h1,h2,h3,h4,rfl⟩:=Qtt h;have hg:=hX.gx u hu;have hk:=(Qz5.1 h1).1;have hkd:=hg.kd k hk _ h4;rw[Q1r]at hkd;have hy:y.k=1:=by
  unfold kdT at hkd;rw[h2]at hkd;simpa using hkd
 have ht:=hg.tkAt h2 (by omega);have hm:=hg.mapAt hk h4;unfold atSy;rw[hX.self u hu];simp only;rw[ht,if_neg (by omega),hm,if_neg (by omega),Q1r,h1,← h3];rfl
theorem Qtn{S:List Un}{u:Un}{s:Bs×Int}{t:Nat}(hg:GdX u)(n:Nat):(plT S u s n t).Nodup:=by
 unfold plT List.Nodup;rw[List.pairwise_flatMap];refine⟨fun k _ => ?_,List.pairwise_lt_range.imp fun {a b} hab x h1 y h2 => ?_⟩
 · unfold plB;split
   · split<;>simp
   · simp
 · have g:∀ {k:Nat} {x:Bs×Int},x ∈ plB S u s t k→k<u.sm.bs.length∧(t:Int) ∈ Ym u.sm k:=fun {k x} h=>by
    unfold plB at h;split at h
    · rename_i b y h1 h2;split at h
      · rename_i h3;exact⟨(Qz5.1 h1).1,(Qhv h1 _).1 h3.2⟩
      · simp at h
    · simp at h
   obtain⟨a1,a2⟩:=g h1;obtain⟨b1,b2⟩:=g h2;have e1:=hg.mapAt a1 a2;have e2:=hg.mapAt b1 b2;omega
theorem Qos{S:List Un}(hX:PrjX S)(s:Bs×Int):(Qba S s).Nodup:=by
 unfold Qba List.Nodup;rw[List.pairwise_flatMap];refine⟨fun u hu => ?_,hX.strict.imp fun {u v} huv x h1 y h2 => ?_⟩
 · have hg:=hX.gx u hu;unfold plU plV;rw[List.pairwise_flatMap];refine⟨fun t _=>Qtn hg _,List.pairwise_lt_range.imp fun {a b} hab x h1 y h2 => ?_⟩;obtain⟨z,g1,rfl⟩:=Qcl h1;obtain⟨w,g2,rfl⟩:=Qcl h2;obtain⟨i1,e1⟩:=Qz5.1 g1;obtain⟨i2,e2⟩:=Qz5.1 g2;have:=Q3v.1 hg.rise a b i1 i2 hab;rw[e1,e2]at this;intro e;have:=congrArg Prod.snd e;simp only at this;omega
 · have g:∀ {u:Un} {x:Bs×Int},x ∈ plU S s u→x.1=u.n:=fun {u x} h=>by
    unfold plU plV at h;obtain⟨t,-,ht⟩:=Q1y.1 h;obtain⟨y,-,rfl⟩:=Qcl ht;rfl
   have huv:Q8 u.n v.n<0:=huv;intro e;have e1:u.n=v.n:=by rw[← g h1,← g h2,e]
   have:=Ve.2 e1;omega
theorem Qqn{S:List Un}(hX:PrjX S){w:Bs}{x s:Bs×Int}(h:x ∈ Vk S w)(hs:atSy S x.1 x.2=some s):x ∈ Qba S s:=by
 unfold Vk at h;obtain⟨u,hu,h⟩:=Q1y.1 h;unfold tkP at h;obtain⟨y,hy,rfl⟩:=Q1m.1 h;obtain⟨hy,hw⟩:=Q14.1 hy;simp only[decide_eq_true_eq]at hw;obtain⟨i,hi⟩:=Q2m hy;have hg:=hX.gx u hu;have ht:=hg.tkAt hi (by omega);unfold atSy at hs;rw[hX.self u hu]at hs;simp only at hs;rw[ht,if_neg (by omega)]at hs;split at hs
 · cases hs
 rename_i hm;obtain⟨k,h1,h2,h3⟩:=hg.mapAt_some (t:=(i:Int)) (by omega);rw[h2,Q1r,Qz6 h1]at hs;simp only[Q1l,somI]at hs;have hb:=Qz6 h1;unfold Qba;refine Q1y.2 ⟨u,hu,?_⟩;unfold plU plV;refine Q1y.2 ⟨i,Q2a.2 (Qz5.1 hi).1,?_⟩;unfold plT;refine Q1y.2 ⟨k,Q2a.2 h1,?_⟩;unfold plB;rw[hb,hi];simp only;rw[if_pos ⟨hs,(Qhv hb _).2 h3⟩];simp
def cnt(w:Bs×Int)(l:List (Bs×Int)):Nat:=l.countP fun x=>decide (x=w)
theorem Qxx{w:Bs×Int}{l:List (Bs×Int)}(hn:l.Nodup)(hm:w ∈ l):cnt w l=1:=by
 have h1:cnt w l=l.count w:=by
  unfold cnt List.count
  congr 1
  funext x
  by_cases e:x=w<;>simp[e]
 rw[h1];have h2:=List.nodup_iff_count.1 hn w;have h3:=List.count_pos_iff.2 hm;omega
section
variable{P:Program}{H0:Hp}
theorem Has.ixLApart{f loaded awake words ixAt places tSp tSy:Nat}(h:Has P f (Qgi loaded awake words ixAt places tSp tSy))(hLd:Qwz P H0 loaded)(hA:Qw3 P H0 awake)(hAt:Qrz P ixAt)(hPl:Qrx P places)(hW:∀ S,PrjX S→∀ (w:Bs) (H:Hp),Qc P words [pA S,YS w] H (fun r H'=>r=YL true 2 ((Vk S w).map Vd)∧H'=H))(hlen:∀ S,PrjX S→∀ s,(Qba S s).length≤1099511627776)(hwl:∀ S,PrjX S→∀ w,(Vk S w).length≤1099511627776)(l:List Mod)(z:Bool)(w:Bs)(hl:l.length≤1048576)(hm:∀ m ∈ l,m.n.length≤1048576∧m.t.length≤1048576)(H:Hp)(hH:Pre0 H0 H) :
 Qc P f [YL z 2 (l.map encM),YS w] H (fun r H'=>r=YB true∧H'=H):=by
 refine Qg h (by simp[Qgi]) fun hcl _ => ?_;have g1:=hLd l z 3000 (by omega) hl hm H hH;simp[Qgi];refine Qd g1 ?_;rintro r H' ⟨⟨d,rfl⟩|⟨S,hX,rfl⟩,rfl⟩
 · simp;refine Qa (hA _ hH) ?_;simp;simp[RetK,Qb hcl]
 · have gA:=fun x:Bs×Int=>fun X=>hAt S hX x.1 x.2 (H'++X);have gP:=fun s X=>hPl S hX s (H'++X);have gW:=hW S hX w H';have hwp:=fun x s=>Qqn hX (w:=w) (x:=x) (s:=s);have hpa:=fun s x=>Qvq hX (s:=s) (x:=x);have hnd:=Qos hX;have hpl:=hlen S hX;have hwl:=hwl S hX w;simp only[syA,pA,Vd,Q02,Q1t]at gA gP gW;generalize Vk S w=W at gW hwp hwl;simp[pA];refine Qa gW ?_;simp;refine Qn 0 (fun fr H2=>∃ X,H2=H'++X) (fun _ _=>False) ?_ (fun _ _ h=>h.elim) ?_
   · refine Wo H'.length W.length (fun j fr H2=>fr 5=.eptr [.sl S.isEmpty 14 (S.map Un.enc)]∧fr 28=YL true 2 (W.map Vd)∧H2=H') (by omega) (by decide) (by simp) (by simp) ?_ ?_ ?_
     · exact⟨by simp,by simp,by simp[Qb hcl]⟩
     · rintro j fr H2 hj fi fn ⟨f5,f28,rfl⟩;have hr:=Qv Vd hj;have hmem:=Q01 hj;generalize W[j]=x at hr hmem;have hwp:=fun s=>hwp x s hmem;have gAx:=gA x;simp only[Vd]at hr;obtain⟨q,hq⟩:∃ q,q=atSy S x.1 x.2:=⟨_,rfl⟩;rw[← hq]at gAx hwp;simp[fi,f28,hr,f5];refine Qa (gAx _) ?_;cases q with
       | none =>
         simp;refine Q4 H2.length (Qz8 _) (by simp[fi,fn]) ?_;exact⟨by simp[f5],by simp[f28],by simp[Qe hcl]⟩
       | some s =>
         have hin:=hwp s rfl;have hpa:=hpa s;have hc1:=Qxx (hnd s) hin;have hpl:=hpl s;have gPs:=gP s;generalize Qba S s=R at gPs hin hpa hc1 hpl;simp[f5];refine Qa (gPs _) ?_;simp;generalize hbx:Ob.box tSp [A.d (D.str x.1),A.d (D.int .i64 x.2)]=bx;generalize hby:Ob.box tSy [A.d (D.str s.1),A.d (D.int .i64 s.2)]=by_;refine Qn 2 (fun fr H3=>fr 5=.eptr [.sl S.isEmpty 14 (S.map Un.enc)]∧fr 28=YL true 2 (W.map Vd)∧fr 30=YI j∧fr 29=YI W.length∧fr 12=YI (cnt x R:Int)∧∃ X,H3=H2++X) (fun _ _=>False) ?_ (fun _ _ h=>h.elim) ?_
         · refine Wo (H2.length+2) R.length (fun k fr H3=>fr 5=.eptr [.sl S.isEmpty 14 (S.map Un.enc)]∧fr 28=YL true 2 (W.map Vd)∧fr 30=YI j∧fr 29=YI W.length∧fr 9=.ptr H2.length 0∧fr 10=.ptr (H2.length+1) 0∧fr 44=YL R.isEmpty 2 (R.map Vd) ∧
            (∃ n:Nat,n=cnt x (R.take k)∧fr 12=YI n)∧H3=H2++[bx,by_]) (by omega) (by decide) (by simp[← hbx,← hby]) (by simp) ?_ ?_ ?_
           · exact⟨by simp[f5],by simp[f28],by simp[fi],by simp[fn],by simp,by simp,by simp,⟨0,rfl,by simp⟩,by simp[Qq hcl,← hbx,← hby]⟩
           · rintro k fr H3 hk gi gn ⟨f5,f28,f30,f29,f9,f10,f44,⟨n,hn,f12⟩,rfl⟩;have hrk:=Qv Vd hk;have hmk:=Q01 hk;have htk:R.take (k+1)=R.take k++[R[k]]:=Q0i hk;have hnk:n≤k:=by
              have h1:cnt x (R.take k)≤(R.take k).length:=List.countP_le_length;have h2:(R.take k).length≤k:=by simp;omega
              omega
             generalize R[k]=y at hrk hmk htk;have hay:=hpa y hmk;have gAy:=gA y;rw[hay]at gAy;simp only[Vd]at hrk;have hcs:cnt x (R.take (k+1))=n+if y=x then 1 else 0:=by
              rw[htk,hn];unfold cnt;rw[Q4o];by_cases e:y=x<;>simp[e]
             have hw:IntKind.i64.wrap ((n:Int)+1)=(n:Int)+1:=wi64 (by omega);simp[gi,f44,hrk,f5];refine Qa (gAy _) ?_;simp[f10,f9,← hbx,← hby,eqDs,eqD];by_cases e:y=x
             · subst e;rw[if_pos rfl]at hcs;simp[f12,hw];refine Q4 (H2.length+2) (Qz8 _) (by simp[gi,gn]) ?_;exact⟨by simp[f5],by simp[f28],by simp[f30],by simp[f29],by simp[f9],by simp[f10],by simp[f44],⟨n+1,hcs.symm,by simp⟩,by simp[Qq hcl,← hbx,← hby]⟩
             · rw[if_neg e,Q18]at hcs;have e':¬ (y.1=x.1∧y.2=x.2):=fun h=>e (Prod.ext h.1 h.2);by_cases e1:y.1=x.1
               · have e2:¬ y.2=x.2:=fun h=>e' ⟨e1,h⟩;simp[e1,e2];refine Q4 (H2.length+2) (Qz8 _) (by simp[gi,gn]) ?_;exact⟨by simp[f5],by simp[f28],by simp[f30],by simp[f29],by simp[f9],by simp[f10],by simp[f44],⟨n,hcs.symm,by simp[f12]⟩,by simp[Qq hcl,← hbx,← hby]⟩
               · simp[e1];refine Q4 (H2.length+2) (Qz8 _) (by simp[gi,gn]) ?_;exact⟨by simp[f5],by simp[f28],by simp[f30],by simp[f29],by simp[f9],by simp[f10],by simp[f44],⟨n,hcs.symm,by simp[f12]⟩,by simp[Qq hcl,← hbx,← hby]⟩
           · rintro fr H3 gi gn ⟨f5,f28,f30,f29,f9,f10,f44,⟨n,hn,f12⟩,rfl⟩;rw[Q2y]at hn;subst hn;simp;exact⟨f5,f28,f30,f29,f12⟩
         · rintro fr H3 ⟨f5,f28,f30,f29,f12,X,rfl⟩;rw[hc1]at f12;simp[f12];refine Q4 H2.length (Qz8 _) (by simp[f30,f29]) ?_;exact⟨by simp[f5],by simp[f28],by simp[Qe hcl]⟩
     · rintro fr H2 fi fn ⟨f5,f28,rfl⟩;simp
   · rintro fr H2 ⟨X,rfl⟩;simp;refine Qa (hA _ (hH.app _)) ?_;simp;simp[RetK,Qe hcl]
end
end
end Go.Zam
namespace Go.Proofs.Zu
section
open Go Go.Zam Go.Proofs
theorem Qqt:SortU Tryz.prog 34 35 55 93 94 136 160 36 25 43 58 where
 clone:=⟨_,Tryz.func34,by kernel_rfl⟩
 srt:=⟨_,Tryz.func35,by kernel_rfl⟩
 stb:=⟨_,Tryz.func55,by kernel_rfl⟩
 ins:=⟨_,Tryz.func93,by kernel_rfl⟩
 sym:=⟨_,Tryz.func94,by kernel_rfl⟩
 rot:=⟨_,Tryz.func136,by kernel_rfl⟩
 swp:=⟨_,Tryz.func160,by kernel_rfl⟩
 cmpU:=⟨_,Tryz.func36,by kernel_rfl⟩
 kCmpU:=by kernel_rfl
 cmpS:=⟨_,Tryz.func25,by kernel_rfl⟩
 nan:=⟨_,Tryz.func43,by kernel_rfl⟩
theorem pcfU:Ql Tryz.prog [] Tryz.f13=some (Qe5 23 24 58):=by kernel_rfl
theorem hUnit:Has Tryz.prog 13 (Qe5 23 24 58):=⟨_,Tryz.func13,pcfU⟩
theorem Qzo:Has Tryz.prog 24 (Qdh 25 58):=⟨_,Tryz.func24,by kernel_rfl⟩
theorem Qgq:Qx3 Tryz.prog 13:=fun S hS s H =>
 Has.pjUnit hUnit ⟨_,Tryz.func23,by kernel_rfl⟩ Qzo (by kernel_rfl) Qqt.cmpS Qqt.nan S s (by have:=hS.len;omega) (fun i j u v=>Qtd hS.so i j u v s) H
theorem bs40{S:List Un}(hS:PrjOk S):∀ v ∈ S,v.sm.bs.length≤1099511627776:=fun v hv=>by have:=(hS.sm v hv).2.1;omega
theorem Qxr:Qx8 Tryz.prog 26:=fun S hS u hu b hb H =>
 Has.pjImp (unit:=13) (item:=44) (tU:=58) (tBd:=67) (tIm:=92) ⟨_,Tryz.func26,by kernel_rfl⟩ (Qgq S hS) Qzl (bs40 hS) u (hS.gd u hu) b hb (by have:=(hS.sm u hu).2.2.2;omega) H
theorem pcfN:Ql Tryz.prog [3] Tryz.f12=some (Qft 58 9):=by kernel_rfl
theorem Qsf:Qx7 Tryz.prog 12:=fun S hl H=>Has.pjNames ⟨_,Tryz.func12,pcfN⟩ S hl H
theorem Qy7{H0:Hp}(hG:Qcc 0 1 2 3 H0):Qwy Tryz.prog H0 19:=fun m hm H hH =>
 Has.pjRead (pof:=32) (sof:=33) (tM:=45) (tU:=58) ⟨_,Tryz.func19,by kernel_rfl⟩ (fun s hs H hH=>ofOk hG s hs H hH) Qxe m hm H hH
theorem Qxf{H0:Hp}:Qsu Tryz.prog H0 21:=fun m hm H hH =>
 Has.pjRread (rof:=38) (sofR:=39) (tM:=45) (tR:=80) ⟨_,Tryz.func21,by kernel_rfl⟩ (fun s hs H _=>Qxi s hs H) Qqz m hm H hH
theorem Qvv:OfOk Tryz.prog 20:=fun l z hl hz H=>Has.pjOf (tP:=84) Qqt ⟨_,Tryz.func20,by kernel_rfl⟩ Qwb l hl z hz
theorem Qv2{H0:Hp}(hG:Qcc 0 1 2 3 H0):Qrv Tryz.prog H0 10:=fun l z ht H hH=>HasT.pjLoad (tM:=45) (tU:=58) ⟨_,Tryz.func10,by kernel_rfl⟩ (Qy7 hG) Qvv l z ht H hH
theorem Qxh{H0:Hp}:Qst Tryz.prog H0 11:=fun l z ht H hH=>HasT.pjRload (tR:=80) ⟨_,Tryz.func11,by kernel_rfl⟩ Qxf Qtj l z ht H hH
theorem Qv4:Qsz Tryz.prog 9:=fun l z most hm hl hs H=>Qxn (tM:=45) ⟨_,Tryz.func9,by kernel_rfl⟩ H z l most hm hl hs
theorem len20{S:List Un}(hS:PrjOk S):S.length≤1048576:=by have:=hS.len;omega
theorem bd40{S:List Un}(hX:PrjX S):∀ u ∈ S,u.tk.length≤1099511627776∧(∀ t ∈ u.tk,(t.a:Int)+t.x.length≤1099511627776)∧u.sm.sz≤1099511627776:=fun u hu=>by
 obtain⟨h1,h2,h3⟩:=hX.sx u hu;obtain⟨h4,-⟩:=hX.ok.sm u hu;refine⟨by omega,(hX.gx u hu).bnd,?_⟩;unfold SM.sz;omega
theorem mt40{S:List Un}(hX:PrjX S):∀ u ∈ S,∀ t,mapAt u.sm t<u.sm.bs.length:=fun u hu t=>by
 rcases Int.lt_or_le (mapAt u.sm t) 0 with h|h
 · omega
 · obtain⟨k,h1,h2,-⟩:=(hX.gx u hu).mapAt_some h;omega
theorem Qw7:Qsr Tryz.prog 14:=fun L z a hl hb H=>Has.ixTokAt (tTk:=62) ⟨_,Tryz.func14,by kernel_rfl⟩ L z a hl hb H
theorem Qxm:Qsy Tryz.prog 15:=fun S t hl H=>Has.ixMapAt (tMap:=56) (tBd:=67) (tMn:=90) ⟨_,Tryz.func15,by kernel_rfl⟩ S t hl H
theorem Qv9{S:List Un}(hX:PrjX S):Qry Tryz.prog S 16:=fun u hu b hb H=>Has.ixOf (imp:=26) (unit:=13) (tU:=58) (tBd:=67) (tSy:=33) (tIm:=92) ⟨_,Tryz.func16,by kernel_rfl⟩ u (Qgq S hX.ok) (fun b hb H=>Qxr S hX.ok u hu b hb H) b hb H
theorem Qwa:Qrz Tryz.prog 7:=fun S hX m a H=>Has.ixAt (unit:=13) (tokAt:=14) (mapAt_:=15) (ixOf:=16) (tSp:=31) (tSy:=33) (tU:=58) ⟨_,Tryz.func7,by kernel_rfl⟩ (Qgq S hX.ok) Qw7 Qxm (Qv9 hX) (bd40 hX) (mt40 hX) m a H
theorem Qv7{S:List Un}(hX:PrjX S):Qqk Tryz.prog S 17:=fun u hu i hi H=>by
 have hs:=hX.sx u hu;have:=Has.scUses (srt:=27) (tm:=56) (mn:=90) (tint:=3) ⟨_,Tryz.func17,by kernel_rfl⟩ Qtf (S:=u.sm) (z1:=u.sm.bs.isEmpty) (z2:=u.sm.ms.isEmpty) (bad := .sl u.sm.bad.isEmpty 2 (u.sm.bad.map Q2)) (by have:=hs.2.2;omega) i hi H;exact this
theorem Qu9{S:List Un}(hX:PrjX S)(s:Bs×Int):(Qba S s).length≤1099511627776:=by
 have h:=Qmt (g:=plU S s) (T:=S) (b:=4294967296) fun u hu=>by
  obtain⟨g1,g2,-⟩:=hX.sx u hu;have:=Qsc S u s u.tk.length;have h2:u.tk.length*u.sm.bs.length≤65536*65536:=Nat.mul_le_mul g1 g2;unfold plU;omega
 have h8:=hX.ok.len;have:(Qba S s).length≤S.length*4294967296:=h;have h2:S.length*4294967296≤8*4294967296:=Q03 _ h8;omega
theorem Qv8:Qrx Tryz.prog 8:=fun S hX s H=>by
 have hp:=Qvp hX.strict hX.gx s;have hl:(qlS S s S).length=(Qba S s).length:=by rw[← hp,Q2k]
 have h:=HasT.ixPlaces (names:=12) (unit:=13) (ixOf:=16) (uses:=17) (ixSort:=18) (srt:=28) (cmp:=29) (tSy:=33) (tU:=58) (tBd:=67) (tSp:=31) ⟨_,Tryz.func8,by kernel_rfl⟩ (fun H=>Qsf S (len20 hX.ok) H) (Qgq S hX.ok) hX.self (Qv9 hX) (Qv7 hX)
  ⟨_,Tryz.func18,by kernel_rfl⟩ Qu3 Qte hX.ok.len (fun u hu=>by have:=(hX.sx u hu).2.1;omega) (fun u hu i hi t ht=>(hX.gx u hu).uin i hi t ((Qk7 _).mem_iff.1 ht)) s (by rw[hl];exact Qu9 hX s) H
 rw[hp]at h;simpa[Vd] using h
theorem Qv1{H0:Hp}(hG:Qcc 0 1 2 3 H0):Qwz Tryz.prog H0 4:=Has.ixLoaded (light_:=9) (load:=10) (rload:=11) ⟨_,Tryz.func4,by kernel_rfl⟩ Qv4 (Qv2 hG) Qxh
theorem awkOk{H0:Hp}(hG:Qcc 0 1 2 3 H0):Qw3 Tryz.prog H0 5:=Has.ixAwake (load:=10) (ixAt:=7) (places:=8) (tSy:=33) ⟨_,Tryz.func5,by kernel_rfl⟩ (Qv2 hG) Qwa Qv8
theorem Qw6:∀ S,PrjX S→∀(w:Bs)(H:Hp),Qc Tryz.prog 6 [pA S,YS w] H (fun r H'=>r=YL true 2 ((Vk S w).map Vd)∧H'=H):=fun S hX w H =>
 HasT.ixWords (names:=12) (unit:=13) (tU:=58) (tTk:=62) (tSp:=31) ⟨_,Tryz.func6,by kernel_rfl⟩ (fun H=>Qsf S (len20 hX.ok) H) (Qgq S hX.ok) hX.self hX.ok.len (fun u hu=>by have:=(hX.sx u hu).1;omega) w H
theorem Quo:∀ S,PrjX S→∀ w,(Vk S w).length≤1099511627776:=fun S hX w=>by
 have h:=Qef (w:=w) (S:=S) (b:=65536) fun u hu=>(hX.sx u hu).1;have h2:S.length*65536≤8*65536:=Q03 _ hX.ok.len;omega
theorem lawOk{H0:Hp}(hG:Qcc 0 1 2 3 H0)(l:List Mod)(z:Bool)(w:Bs)(hl:l.length≤1048576)(hm:∀ m ∈ l,m.n.length≤1048576∧m.t.length≤1048576)(H:Hp)(hH:Pre0 H0 H) :
 Qc Tryz.prog 3 [YL z 2 (l.map encM),YS w] H (fun r H'=>r=YB true∧H'=H) :=
 Has.ixLApart (loaded:=4) (awake:=5) (words:=6) (ixAt:=7) (places:=8) (tSp:=31) (tSy:=33) ⟨_,Tryz.func3,by kernel_rfl⟩ (Qv1 hG) (awkOk hG) Qwa Qv8 Qw6 (fun S hX s=>Qu9 hX s) Quo l z w hl hm H hH
end
end Go.Proofs.Zu
namespace Go.Zam
end Go.Zam
namespace Go.Proofs.Zu
open Go Go.Zam Go.Proofs
theorem tyMod(n:Nat)(ds:List D)(h:Typed Tryz.prog n 45 ds):∃ m:Mod,ds=encM m:=by
 obtain⟨m,h⟩:=Qne Tryz.underlying45 h;obtain⟨a,r,rfl,ha,b,r,rfl,hb,rfl⟩:=h;obtain⟨s,rfl⟩:=Qh8 Tryz.underlying9 ha;obtain⟨t,rfl⟩:=Qh8 Tryz.underlying9 hb;exact⟨⟨s,t⟩,rfl⟩
theorem arg_mods{n:Nat}{ds:List D}{a:A}(h:Typed Tryz.prog n 22 ds)(ha:Qf9 Tryz.prog 22 ds a):∃ z,∃ l:List Mod,a=YL z 2 (l.map encM)∧(l.length≤D.bulkC ds∧∀ m ∈ l,m.n.length≤D.bulkC ds∧m.t.length≤D.bulkC ds):=by
 obtain⟨z,l,rfl⟩:=Qur (sz:=2) Tryz.underlying22 (by kernel_rfl) tyMod h;refine⟨z,l,Qm4 (by rw[Tryz.underlying22];simp) ha,?_⟩;have h1:=Qm2 (enc:=encM) (fun m=>by simp only[encM,D.bulkC,D.bulk];omega) l;simp only[D.bulkC,D.bulk];refine⟨by omega,fun m hm => ?_⟩;have h2:=Que (List.mem_map_of_mem (f:=encM) hm);simp only[encM,D.bulkC,D.bulk]at h2;omega
end Go.Proofs.Zu
