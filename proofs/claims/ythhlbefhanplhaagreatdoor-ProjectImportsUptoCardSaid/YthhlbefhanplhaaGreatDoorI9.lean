/-
  Texts of one proof, one behind the other.
-/
import Derived.Test.YthhlbefhanplhaaGreatDoorI8
import Derived.Test.YthhlbefhanplhaaGreatDoorI6
import Derived.Sort.Row
import Derived.Sort.Grow
import Derived.Test.YthhlbefhanplhaaGreatDoorI5
import Derived.Test.YthhlbefhanplhaaGreatDoorI7
import Derived.Test.YthhlbefhanplhaaGreatDoorI3
import Derived.Test.YthhlbefhanplhaaGreatDoorI4
import Derived.Test.YthhlbefhanplhaaGreatDoorProg
import Derived.KernelRfl
set_option linter.all false
set_option maxRecDepth 100000
set_option maxHeartbeats 4000000
namespace Go.Zam
variable{P:Program}
section
structure RHasA(P:Program)(R:RF):Prop extends RHas P R where
 params:HasT P [7] R.params (Qdy R.want R.is R.word R.typed R.ended R.tn)
 kind:HasT P [9] R.kind (Qe0 R.is R.word R.want R.kind R.ended R.tn)
 block:HasT P [7] R.block (Qfp R.want R.is R.stmt R.ended R.tn)
 stmt:HasT P [8,47] R.stmt (Zk R.is R.expr R.block R.ended R.word R.typed R.want R.tn)
 expr:Has P R.expr (Qg9 R.sum R.is R.ended R.tn)
 sum:Has P R.sum (Qju R.term R.is R.ended R.tn)
 term:Has P R.term (Qg7 R.post R.is R.ended R.tn)
 post:HasT P [10,56] R.post (Qg8 R.atom R.is R.word R.ended R.expr R.want R.tn)
 atom:HasT P [11] R.atom (Zl R.is R.expr R.want R.ended R.word R.lambda R.tn R.tt)
 file:HasT P [4] R.file (Qk2 R.is R.use_ R.def_ R.ended R.tn)
structure RAll(P:Program)(R:RF)(z:Bool)(L:List Tk)(n:Nat):Prop where
 params:UR P R.tr z L n .params R.params
 typed:UR P R.tr z L n .typed R.typed
 kind:UR P R.tr z L n .kind R.kind
 block:UR P R.tr z L n .block R.block
 stmt:US P R.tr z L n .stmt R.stmt
 expr:UR P R.tr z L n .expr R.expr
 sum:UR P R.tr z L n .sum R.sum
 term:UR P R.tr z L n .term R.term
 post:UR P R.tr z L n .post R.post
 atom:UR P R.tr z L n .atom R.atom
theorem Qbo{P:Program}{z:Bool}{L:List Tk}{tr:TypeId}{g:G}{f:FuncId}(hg:0<g.c):UR P tr z L 0 g f:=fun H X i s hi hp=>absurd hp.1.2.1 (by omega)
theorem Qw8{P:Program}{z:Bool}{L:List Tk}{tr:TypeId}{g:G}{f:FuncId}(hg:0<g.c):US P tr z L 0 g f:=fun H X i p hi hp=>absurd hp.1.2.1 (by omega)
section
variable{P:Program}{R:RF}{z:Bool}{L:List Tk}
theorem RHasA.all(hR:RHasA P R)(hE:Wv L)(hL:L.length≤1048576):∀ n,n≤1099511627776→RAll P R z L n:=by
 intro n;induction n using Nat.strongRecOn with
 | ind n ih =>
 intro hn;cases n with
 | zero=>exact⟨Qbo (by decide),Qbo (by decide),Qbo (by decide),Qbo (by decide),Qw8 (by decide),Qbo (by decide),Qbo (by decide),Qbo (by decide),Qbo (by decide),Qbo (by decide)⟩
 | succ n =>
   have a:∀ m,m<n+1→RAll P R z L m:=fun m hm=>ih m hm (by omega);have b:=a n (by omega);have hn':n≤1099511627776:=by omega
   have h0:=hR.toRHas;exact⟨h0.params' hR.params hE hL n hn' (fun m hm=>(a m (by omega)).typed),h0.typed' hE hL n hn' b.kind,h0.kind' hR.kind hE hL n hn' (fun m hm=>(a m hm).kind),h0.block' hR.block hE hL n hn' (fun m hm=>(a m (by omega)).stmt),
    h0.stmt' hR.stmt hE hL n hn' b.expr b.typed b.block,h0.expr' hR.expr hE hL n hn' b.sum,h0.sum' hR.sum hE hL n hn' (fun m hm=>(a m hm).term),h0.term' hR.term hE hL n hn' (fun m hm=>(a m hm).post),
    h0.post' hR.post hE hL n hn' b.atom (fun m hm=>(a m hm).expr),h0.atom' hR.atom hE hL n hn' (fun m hm=>(a m hm).expr) b.params b.typed b.block⟩
def RQF(tr:TypeId)(z:Bool)(L:List Tk)(n:Nat)(H:Hp)(i:Nat):A→Hp→Prop:=fun r H'=>∃ m s',r=m.v∧H'=H.set i (rst tr z L s'.2)∧Rel L n (.file []) (0,none) m s'
theorem Qth{tr:TypeId}{z z':Bool}{L:List Tk}{n:Nat}{H:Hp}{i:Nat}{s':PSt}{k f t a:Int}{w:Bs}{rows:List (List D)}(ks:List N)(hrows:rows=ks.map N.enc)(hz:rows=[]→z'=true)(hr:Rel L n (.file []) (0,none) (N.new k f t w a ks) s') :
 ∃ r',Nrm (.agg [YI k,YI f,YI t,YS w,YI a,YL z' 6 rows]) r'∧RQF tr z L n H i r' (H.set i (rst tr z L s'.2)):=by
 refine⟨_,Qkp hz,_,s',?_,rfl,hr⟩;rw[N.v_new,hrows];cases ks<;>rfl
theorem RHasA.file'(hR:RHasA P R)(hE:Wv L)(h0l:0<L.length)(hL:L.length≤1048576)(n:Nat)(hn:n≤1099511627776)(hr0:16*L.length+7≤n+1){H:Hp}{i:Nat}(hi:i<H.length) :
 Qc P R.file [.ptr i 0] (H.set i (rst R.tr z L none)) (RQF R.tr z L (n+1) H i):=by
 obtain⟨fn,hf,hcf⟩:=hR.file;have h0:=hR.toRHas;refine W8 (Qr hf hcf (by simp[Qk2]) fun hcl _ => ?_);simp[Qk2];obtain⟨XX,hXX⟩:∃ XX:List N→Hp,XX=fun ks=>[zbx R.tn,.tok ks.length 6 R.tn]:=⟨_,rfl⟩;have hXl:∀ a,(XX a).length=2:=fun a=>by rw[hXX];rfl
 obtain⟨E,hE0⟩:∃ E:Fr→Hp→Prop,E=fun fr H'=>∃(ks:List N)(s':PSt),(fr 0=.ptr i 0∧fr 2=.ptr H.length 0∧fr 3=YI s'.1∧fr 4=.osl true 6 (ks.map N.enc) (H.length+1))∧Rel L (n+1) (.file []) (0,none) (N.new 1 0 s'.1 [] 0 ks) s'∧H'=H.set i (rst R.tr z L s'.2)++XX ks:=⟨_,rfl⟩;have hE1:∀ fr (ks:List N) (s':PSt),(fr 0=.ptr i 0∧fr 2=.ptr H.length 0∧fr 3=YI s'.1∧fr 4=.osl true 6 (ks.map N.enc) (H.length+1))→Rel L (n+1) (.file []) (0,none) (N.new 1 0 s'.1 [] 0 ks) s'→E fr (H.set i (rst R.tr z L s'.2)++XX ks):=fun fr ks s' a b=>by subst hE0;exact⟨ks,s',a,b,rfl⟩
 refine Qq 0 E (fun _ _=>False) ?_ (fun _ _ h=>h.elim) ?_
 rotate_left
 · intro fr H' h;subst hE0;obtain⟨ks,s',⟨f0,f2,f3,f4⟩,hr,rfl⟩:=h;have g5:=fun H0=>h0.ended.rendedT 1 0 0 [] 0 true [] (s'.1:Int) true (ks.map N.enc) H0 (H.length+1);simp only[ag]at g5;subst hXX;simp[f3,f4,zbx];refine Qa (g5 _ (by simp)) ?_;simp[f2];simp[RetK,rcut hcl,nl];exact Qth (z':=true) ks rfl (fun _=>rfl) hr
 clear hE0;have hcut:∀ ks st' X,Hp.cut (H.length+2) (H.set i (rst R.tr z L st')++(XX ks++X))=H.set i (rst R.tr z L st')++XX ks:=fun ks st' X=>by
  rw[rcutk hcl,hXX];rfl
 have hcut0:∀ ks st',Hp.cut (H.length+2) (H.set i (rst R.tr z L st')++XX ks)=H.set i (rst R.tr z L st')++XX ks:=fun ks st'=>by simpa using hcut ks st' []
 have hg0:∀ st X,(H.set i (rst R.tr z L st)++X)[i]?=some (rst R.tr z L st):=fun st X=>upG hi;have hgT:∀(ks:List N) X,(XX ks++X)[1]?=some (.tok ks.length 6 R.tn):=fun ks X=>by rw[hXX];simp
 have hgT1:∀(ks:List N) h,(XX ks)[1]'h=.tok ks.length 6 R.tn:=fun ks h=>by simp[hXX]
 have hgB:∀(ks:List N) b X,(XX ks++b::X)[2]?=some b:=fun ks b X=>by rw[hXX];simp
 have hsT:∀(ks:List N)(m:N) X,(XX ks++X).set 1 (.tok (ks.length+1) 6 R.tn)=XX (ks++[m])++X:=fun ks m X=>by rw[hXX];simp
 have hsB:∀(ks:List N) b b' X,(XX ks++b::X).set 2 b'=XX ks++b'::X:=fun ks b b' X=>by rw[hXX];simp
 have hil2:i<H.length+2:=by omega
 rw[show H.set i (rst R.tr z L none)++[Ob.box R.tn [YI 0,YI 0,YI 0,YS [],YI 0,YL true 6 []],.tok 0 6 R.tn]=H.set i (rst R.tr z L none)++XX [] by rw[hXX];rfl];refine Qz (H.length+2) (fun d fr H'=>∃(ks:List N)(s':PSt),(fr 0=.ptr i 0∧fr 2=.ptr H.length 0∧fr 3=YI s'.1∧fr 4=.osl true 6 (ks.map N.enc) (H.length+1))∧H'=H.set i (rst R.tr z L s'.2)++XX ks ∧
  ((d=0∧s'.2≠none∧∀ m,Rel L (n+1) (.file []) (0,none) m s')∨∃ p1,s'=(p1,none)∧d≤n+1∧pp L (n+1) (.file []) 0=pp L d (.file ks) p1∧p1<L.length∧16*(L.length-p1)+7≤d∧ks.length≤p1)) (n+1) (by simp[hXl]) ⟨[],(0,none),by simp[hil2],hcut0 _ _,.inr ⟨0,rfl,by omega,rfl,h0l,by omega,by simp⟩⟩ ?_
 rintro d fr H' ⟨ks,s',⟨f0,f2,f3,f4⟩,rfl,hd⟩;rcases hd with⟨rfl,q1,q2⟩|⟨p1,rfl,hdn,hpp,hp1',hrk,hks⟩
 · obtain⟨p',st'⟩:=s';cases st' with
   | none=>simp at q1
   | some q =>
     have hg1:=hg0 (some q);have hq:¬ (q:Int)<0:=by omega
     have hE2:=fun fr h=>hE1 fr ks (p',some q) h (q2 _);simp only[rst]at hg1 hE2;simp[f0,f3,rst,hg1,hq];exact hE2 _ (by simp[f0,f2,f3,f4])
 obtain⟨d',rfl⟩:∃ d',d=d'+1:=⟨d-1,by omega⟩;have hRel:∀ m s',(match pp L (d'+1) (.file ks) p1 with|.out=>False|.bad q=>s'.2=some q∧s'.1≤L.length+(n+1)|.ok m' k=>m=m'∧s'=(k,none))→Rel L (n+1) (.file []) (0,none) m s':=fun m s' h=>by
  unfold Rel;simp only;rw[hpp];exact h
 have hg1:=hg0 none;have gi:=fun X=>h0.isA (z:=z) (st:=none) (X:=X) hi hp1' kUse;have hr:=Qw Qt hp1';have hg:L[p1]?=some L[p1]:=Qy7 hp1';have hkd:kdT L p1=L[p1].k:=by unfold kdT;rw[hg]
 generalize L[p1]=tk at hr hkd;obtain⟨kk,ta,tl,y⟩:=tk;simp only[Qt]at hr hkd;simp only[rst]at hg1 gi;by_cases hk0:kk=0
 · subst hk0;have hE2:=fun fr h=>hE1 fr ks (p1,none) h (hRel _ _ (by simp[pp,hkd]));simp only[rst]at hE2;simp[f0,f3,rst,hg1,hr];exact hE2 _ (by simp[f0,f2,f3,f4])
 have hk0':¬ kdT L p1=0:=by rw[hkd];exact hk0
 obtain⟨n',rfl⟩:∃ n',d'=n'+1:=⟨d'-1,by omega⟩;have ha:=hR.all (z:=z) hE hL n' (by omega);cases hu:isT L p1 kUse with
 | true =>
   have hpf:pp L (n'+1+1) (.file ks) p1=(pp L (n'+1) .use p1).then fun m j=>pp L (n'+1) (.file (ks++[m])) j:=by
    rw[pp];simp only[hk0',hu,if_true,if_false]
   rw[hu]at gi;have gU:∀ X,Qc P R.use_ [.ptr i 0,YI p1] (H.set i (rst R.tr z L none)++X) (RQ R.tr z L (n'+1) .use H i X (p1,none)):=fun X=>by
    have:=h0.use' (z:=z) hE hL n' (H:=H++X) (i:=i) (by simp;omega) p1 hu;rw[Qzb _ _ hi]at this;refine this.mono ?_;rintro r H' ⟨m,s',rfl,rfl,hr⟩;exact⟨m,s',rfl,by rw[Qzt,Qzb _ _ hi],hr⟩
   simp only[rst]at gU;simp[f0,f3,rst,hg1,hr,hk0];refine Qa (gi _) ?_;simp[f0,f3];refine Qd (gU _) ?_;rintro _ _ ⟨m,s3,rfl,rfl,r3⟩;obtain⟨kt,ft,tt',wt',qt,zt,kst,hft,het,hvt,hbt⟩:=Wl R.tn m;rw[hvt];obtain⟨bo,hbo⟩:∃ bo:Ob,bo=.box R.tn [YI kt,YI ft,YI tt',YS wt',YI qt,YL zt 6 (kst.map N.enc)]:=⟨_,rfl⟩;have hB:=fun X=>hgB ks bo X;rw[hbo]at hB;have hB0:=fun X=>hgB ks (.box R.tn [YI 0,YI 0,YI 0,YS [],YI 0,YL true 6 []]) X;have hT:=hgT ks;have hT1:=hgT1 ks;have hs1:=hsT ks m;have hsb:=hsB ks;have hbd:(ks.length+1)*72≤140737488355328:=by omega
   have hmap:ks.map N.enc++[[.int .i64 kt,.int .i64 ft,.int .i64 tt',.str wt',.int .i64 qt,.sl zt 6 (kst.map N.enc)]]=(ks++[m]).map N.enc:=by
    rw[Q04];simp[het]
   simp[f4,hXl,hB,hB0,hT,hT1,appA,slOf,hbd,hs1,hsb,hmap];rcases r3.none' with⟨q,b,hq,rfl,e3⟩|⟨j,hj,rfl⟩
   · refine Qe (H.length+2) 0 (Qy9 _) (by simp[hXl]) (by omega) ⟨ks++[m],(b,some q),by simp[f0,f2,hil2],by simpa[rst] using hcut (ks++[m]) (some q) _,.inl ⟨rfl,by simp,fun m=>hRel _ _ ?_⟩⟩;rw[hpf,hq];simp[PR.then];omega
   · have:=Yq hE (n'+1) .use p1;rw[hj]at this;obtain⟨v1,v2,v3⟩:=this;have v2:=v2 rfl;have v3:=v3 v2;refine Qe (H.length+2) (n'+1) (Qy9 _) (by simp[hXl]) (by omega) ⟨ks++[m],(j,none),by simp[f0,f2,hil2],by simpa[rst] using hcut (ks++[m]) none _,.inr ⟨j,rfl,by omega,?_,v3,by omega,by simp;omega⟩⟩;rw[hpp,hpf,hj];simp[PR.then]
 | false =>
   have hpf:pp L (n'+1+1) (.file ks) p1=(pp L (n'+1) .defn p1).then fun m j=>pp L (n'+1) (.file (ks++[m])) j:=by
    rw[pp];simp only[hk0',hu,if_false,Qzh]
   rw[hu]at gi;have gU:∀ X,Qc P R.def_ [.ptr i 0,YI p1] (H.set i (rst R.tr z L none)++X) (RQ R.tr z L (n'+1) .defn H i X (p1,none)):=fun X=>by
    have:=h0.def' (z:=z) hE hL n' (by omega) ha.params ha.typed ha.block (H:=H++X) (i:=i) (by simp;omega) p1 ⟨⟨by simp only[G.c];omega,by simp only[G.c];omega,fun _=>⟨by simp only;omega,by simp only[G.c];omega⟩⟩,fun _=>hp1'⟩;rw[Qzb _ _ hi]at this;refine this.mono ?_;rintro r H' ⟨m,s',rfl,rfl,hr⟩;exact⟨m,s',rfl,by rw[Qzt,Qzb _ _ hi],hr⟩
   simp only[rst]at gU;simp[f0,f3,rst,hg1,hr,hk0];refine Qa (gi _) ?_;simp[f0,f3];refine Qd (gU _) ?_;rintro _ _ ⟨m,s3,rfl,rfl,r3⟩;obtain⟨kt,ft,tt',wt',qt,zt,kst,hft,het,hvt,hbt⟩:=Wl R.tn m;rw[hvt];obtain⟨bo,hbo⟩:∃ bo:Ob,bo=.box R.tn [YI kt,YI ft,YI tt',YS wt',YI qt,YL zt 6 (kst.map N.enc)]:=⟨_,rfl⟩;have hB:=fun X=>hgB ks bo X;rw[hbo]at hB;have hB0:=fun X=>hgB ks (.box R.tn [YI 0,YI 0,YI 0,YS [],YI 0,YL true 6 []]) X;have hT:=hgT ks;have hT1:=hgT1 ks;have hs1:=hsT ks m;have hsb:=hsB ks;have hbd:(ks.length+1)*72≤140737488355328:=by omega
   have hmap:ks.map N.enc++[[.int .i64 kt,.int .i64 ft,.int .i64 tt',.str wt',.int .i64 qt,.sl zt 6 (kst.map N.enc)]]=(ks++[m]).map N.enc:=by
    rw[Q04];simp[het]
   simp[f4,hXl,hB,hB0,hT,hT1,appA,slOf,hbd,hs1,hsb,hmap];rcases r3.none' with⟨q,b,hq,rfl,e3⟩|⟨j,hj,rfl⟩
   · refine Qe (H.length+2) 0 (Qy9 _) (by simp[hXl]) (by omega) ⟨ks++[m],(b,some q),by simp[f0,f2,hil2],by simpa[rst] using hcut (ks++[m]) (some q) _,.inl ⟨rfl,by simp,fun m=>hRel _ _ ?_⟩⟩;rw[hpf,hq];simp[PR.then];omega
   · have:=Yq hE (n'+1) .defn p1;rw[hj]at this;obtain⟨v1,v2,v3⟩:=this;have v2:=v2 rfl;have v3:=v3 v2;refine Qe (H.length+2) (n'+1) (Qy9 _) (by simp[hXl]) (by omega) ⟨ks++[m],(j,none),by simp[f0,f2,hil2],by simpa[rst] using hcut (ks++[m]) none _,.inr ⟨j,rfl,by omega,?_,v3,by omega,by simp;omega⟩⟩;rw[hpp,hpf,hj];simp[PR.then]
theorem RHasA.fileA(hR:RHasA P R)(hE:Wv L)(h0l:0<L.length)(hL:L.length≤1048576){H:Hp}{i:Nat}(hi:i<H.length) :
 Qc P R.file [.ptr i 0] (H.set i (rst R.tr z L none)) (RQF R.tr z L (16*L.length+8) H i):=hR.file' hE h0l hL (16*L.length+7) (by omega) (by omega) hi
end
end
section
theorem Has.depth6{f:FuncId}{tn:TypeId}(h:Has P f (Qdb f tn)):∀(n:N),n.size≤1125899906842624→∀ H,Qc P f [n.v] H (fun r H'=>r=YI n.depth∧H'=H):=by
 refine N.ind fun k f' t w a z ks ih => ?_;intro hs H;refine Qg h (by simp[Qdb]) fun hcl _ => ?_;rw[N.size_mk]at hs;rw[N.v_mk,N.depth_mk];have hlen:=N.sizes_len ks;have hds:∀ i,N.depths (ks.take i)≤1125899906842624:=fun i=>by
  refine N.depths_le _ fun p hp => ?_;have:=N.depth_size p;have:=N.sizes_mem (Q1r hp);omega
 simp[Qdb];refine Vv (H.length+1) ks.length (fun i fr H'=>fr 1=.ptr H.length 0∧fr 3=YI ((N.depths (ks.take i):Int)+1)∧H'=H++[.box tn [YI k,YI f',YI t,YS w,YI a,YL z 6 (ks.map N.enc)]]) (by omega) (by decide) (by simp) (by simp) ?_ ?_
 · simp[N.depths,Qm hcl]
 rintro i fr H' hi f4 ⟨f1,f3,rfl⟩;simp[f4,f1];refine Qh (fun h => ?_) (fun h => ?_)
 · have hlt:i<ks.length:=by simpa using h
   have hr:=Qw N.enc hlt;have hm:=Q0b hlt;have hsz:=N.sizes_mem hm;have hx:=ih _ hm (by omega);have hdt:=N.depths_take_succ hlt;have hd0:=hds i;have hdd:=N.depth_size (ks[i]);generalize ks[i]=p at hr hx hdt hsz hdd;obtain⟨k2,f2,t2,w2,a2,z2,ks2⟩:=p;generalize hdp:(N.mk k2 f2 t2 w2 a2 z2 ks2).depth=dd at hx hdt hdd;rw[N.enc_mk]at hr;rw[N.v_mk]at hx;have hw:IntKind.i64.wrap ((dd:Int)+1)=(dd:Int)+1:=wi64 (by omega);simp[f4,f1,hr];refine Qa (hx _) ?_;by_cases hm:N.depths (ks.take i)<dd
   · simp[hw,f3,hm];refine Wp (H.length+1) (Qy9 _) hlt (by simp[f4]) ?_;rw[hdt];simp[f1,Qm hcl];omega
   · simp[hw,f3,hm];refine Wp (H.length+1) (Qy9 _) hlt (by simp[f4]) ?_;rw[hdt];simp[f1,f3,Qm hcl];omega
 · have hii:i=ks.length:=by
    have:¬ i<ks.length:=by simpa using h
    omega
   rw[hii,Qzm (Qy9 _)]at f3;simp[f3];simp[RetK,Qf hcl];omega
section
variable{P:Program}{R:RF}{z:Bool}{L:List Tk}
theorem Has.parse7{f fd}(h:Has P f (Qat R.file fd R.tn R.tr))(hR:RHasA P R)(hd:Has P fd (Qdb fd R.tn))(hL:L.length≤1048576)(H:Hp) :
 Qc P f [YL z 4 (L.map Qt)] H (fun r H'=>r=.tup [(Q3 L).1.v,YI (Q3 L).2.1,YI (Q3 L).2.2]∧H'=H):=by
 refine Qg h (by simp[Qat]) fun hcl _ => ?_;obtain⟨Q,hQ⟩:∃ Q:A→Hp→Prop,Q=fun r H'=>r=.tup [(Q3 L).1.v,YI (Q3 L).2.1,YI (Q3 L).2.2]∧H'=H:=⟨_,rfl⟩;rw[← hQ];have hnone:∀ e b:Int,Q3 L=(N.none,e,b)→Q (.tup [.agg [YI 0,YI 0,YI 0,YS [],YI 0,YL true 6 []],YI e,YI b]) H:=fun e b h=>by
  subst hQ;rw[h];exact⟨rfl,rfl⟩
 by_cases h0:L=[]
 · subst h0;simp[Qat];simp[RetK,Qf hcl];exact hnone 1 0 (by simp[Q3])
 have hl0:0<L.length:=Q0s.2 h0;have h0':¬ (L.length:Int)=0:=by omega
 have hw:IntKind.i64.wrap ((L.length:Int)-1)=((L.length-1:Nat):Int):=by rw[wi64 (by omega)];omega
 have hr:=Qw Qt (l:=L) (i:=L.length-1) (by omega);have hg:L[L.length-1]?=some (L[L.length-1]'(by omega)):=Qy7 (by omega);have hkd:kdT L (L.length-1)=(L[L.length-1]'(by omega)).k:=by unfold kdT;rw[hg]
 generalize L[L.length-1]'(by omega)=tk at hr hkd;obtain⟨k,a,l,x⟩:=tk;simp only[Qt]at hr hkd;by_cases h1:k=0
 case neg =>
  simp[Qat,h0,h0',hw,hr,h1];simp[RetK,Qf hcl];exact hnone 1 0 (by simp[Q3,hkd,h1])
 by_cases h2:4000<L.length
 case pos =>
  have h2':(4000:Int)<L.length:=by omega
  simp[Qat,h0,h0',hw,hr,h1,h2'];simp[RetK,Qf hcl];exact hnone 1 0 (by simp[Q3,h2])
 have h2':¬ (4000:Int)<L.length:=by omega
 have hE:Wv L:=fun i hi=>by
  have:i=L.length-1:=by omega
  rw[this,hkd,h1]
 have hpp:Q3 L=match Qbl L with
  | .ok n _=>if 60<n.depth then (N.none,25,0) else (n,0,0)
  | .bad q=>(N.none,24,(q:Int))
  | .out=>(N.none,24,0):=by
  unfold Q3;split
  · rename_i h;rw[hkd,h1]at h;rcases h with h|h|h
    · exact absurd h h0
    · exact absurd rfl h
    · exact absurd h h2
  · rfl
 simp[Qat,h0,h0',hw,hr,h1,h2'];obtain⟨r0,hr0⟩:∃ r0:Ob,r0=.box R.tn [YI 0,YI 0,YI 0,YS [],YI 0,YL true 6 []]:=⟨_,rfl⟩;have g:=hR.fileA (z:=z) hE hl0 hL (H:=H++[r0,rst R.tr z L none]) (i:=H.length+1) (by simp);have e1:∀ s,(H++[r0,rst R.tr z L none]).set (H.length+1) (rst R.tr z L s)=H++[r0,rst R.tr z L s]:=fun s=>by simp
 rw[e1]at g;rw[hr0]at g;simp only[rst]at g;refine Qd g ?_;rintro _ _ ⟨m,s',rfl,rfl,hrel⟩;have e2:∀ s,(H++[r0,.box R.tr [YL z 4 (L.map Qt),YI (-1)]]).set (H.length+1) (rst R.tr z L s)=H++[r0,rst R.tr z L s]:=fun s=>by simp
 rw[← hr0,e2];rw[hr0];rcases hrel.none' with⟨q,b,hq,rfl,e3⟩|⟨k',hk,rfl⟩
 · have hq':Qbl L=.bad q:=hq;rw[hq']at hpp;obtain⟨k2,f2,t2,w2,a2,z2,ks2⟩:=m;have hqn:(0:Int)≤q:=by omega
   rw[N.v_mk];simp[rst,hqn]
   repeat' apply And.intro
   all_goals
    simp[RetK,Qf hcl]
    try exact hnone 24 q hpp
 · have hk':Qbl L=.ok m k':=hk;rw[hk']at hpp;have hsz:=Qjp (L:=L) (16*L.length+8) (.file []) 0 trivial;rw[show pp L (16*L.length+8) (.file []) 0=.ok m k' from hk]at hsz;simp only[Sz,G.k1,G.sz,N.sizes_nil]at hsz;have hadv:=Yg (L:=L) (16*L.length+8) (.file []) 0;rw[show pp L (16*L.length+8) (.file []) 0=.ok m k' from hk]at hadv;obtain⟨v1,-,v3⟩:=hadv;have hdep:=N.depth_size m;have hd':=hd.depth6 m (by omega);obtain⟨k2,f2,t2,w2,a2,z2,ks2⟩:=m;rw[N.v_mk]at hd';rw[N.v_mk];simp[rst];refine Qa (hd' _) ?_;by_cases h60:60<N.depth (.mk k2 f2 t2 w2 a2 z2 ks2)
   · have h60':(60:Int)<N.depth (.mk k2 f2 t2 w2 a2 z2 ks2):=by omega
     simp[h60'];simp[RetK,Qf hcl];exact hnone 25 0 (by rw[hpp];simp[h60])
   · have h60':¬ (60:Int)<N.depth (.mk k2 f2 t2 w2 a2 z2 ks2):=by omega
     simp[h60'];simp[RetK,Qf hcl];subst hQ;rw[hpp];simp[h60,N.v_mk]
theorem Has.of7{f fl fp tn}(h:Has P f (Qne fl fp tn))(hl:∀ (s:Bs),s.length≤1048576→∀ H,Qc P fl [YS s] H (fun r H'=>r=.tup [YL true 4 ((lexS s).1.map Qt),YI (lexS s).2.1,YI (lexS s).2.2]∧H'=H))(hp:∀ (z:Bool) (L:List Tk),L.length≤1048576→∀ H,Qc P fp [YL z 4 (L.map Qt)] H (fun r H'=>r=.tup [(Q3 L).1.v,YI (Q3 L).2.1,YI (Q3 L).2.2]∧H'=H))(s:Bs)(hs:s.length≤1048576)(H:Hp) :
 Qc P f [YS s] H (fun r H'=>r=.tup [YL true 4 ((Q5 s).1.map Qt),(Q5 s).2.1.v,YI (Q5 s).2.2.1,YI (Q5 s).2.2.2]∧H'=H):=by
 refine Qg h (by simp[Qne]) fun hcl _ => ?_;obtain⟨Q,hQ⟩:∃ Q:A→Hp→Prop,Q=fun r H'=>r=.tup [YL true 4 ((Q5 s).1.map Qt),(Q5 s).2.1.v,YI (Q5 s).2.2.1,YI (Q5 s).2.2.2]∧H'=H:=⟨_,rfl⟩;rw[← hQ];have hnone:∀ e b:Int,Q5 s=([],N.none,e,b)→Q (.tup [YL true 4 [],.agg [YI 0,YI 0,YI 0,YS [],YI 0,YL true 6 []],YI e,YI b]) H:=fun e b h=>by
  subst hQ;rw[h];exact⟨rfl,rfl⟩
 have hO:Q5 s=if (lexS s).2.1≠0 then ([],N.none,(lexS s).2.1,(lexS s).2.2)
  else if (Q3 (lexS s).1).2.1≠0 then ([],N.none,(Q3 (lexS s).1).2.1,match (lexS s).1[(Q3 (lexS s).1).2.2.toNat]? with|some t=>(t.a:Int)|none=>0)
  else ((lexS s).1,(Q3 (lexS s).1).1,0,0):=rfl
 have hlk:=Qih (s:=s);have g1:=hl s hs (H++[Ob.box tn [YI 0,YI 0,YI 0,YS [],YI 0,YL true 6 []]]);generalize lexS s=LS at hO hlk g1;obtain⟨L,e,b⟩:=LS;simp only at hO hlk g1;simp[Qne];refine Qa g1 ?_;by_cases he:e=0
 case neg =>
  rw[if_pos he]at hO;simp[he];simp[RetK,Qf hcl];exact hnone e b hO
 rw[if_neg (by simp[he])]at hO;obtain⟨l1,l2,l3,l4,l5⟩:=hlk he;have hat:=Qmf l2 l1;have g2:=hp true L (by omega);generalize Q3 L=PS at hO hat g2;obtain⟨m,e2,b2⟩:=PS;simp only at hO hat g2;simp[he];refine Qa (g2 _) ?_;obtain⟨k,f',t,w,a,z,ks⟩:=m;rw[N.v_mk];obtain⟨hb0,hb1⟩:=hat;obtain⟨q,rfl⟩:∃ q:Nat,b2=(q:Int):=⟨b2.toNat,by omega⟩;simp only[Q0x]at hO hb1;have hr:=Qw Qt hb1;rw[Qy7 hb1]at hO;generalize L[q]=tk at hr hO;obtain⟨tk,ta,tl,tx⟩:=tk;simp only[Qt]at hr;simp;by_cases he2:e2=0
 case neg =>
  rw[if_pos he2]at hO;simp[he2,hr]
  repeat' apply And.intro
  all_goals
   simp[RetK,Qf hcl]
   try exact hnone e2 ta hO
 rw[if_neg (by simp[he2])]at hO;simp[he2];simp[RetK,Qf hcl];subst hQ;rw[hO];exact⟨by rw[N.v_mk],rfl⟩
end
end
section
section
variable{P:Program}{F:SF}{H:Hp}
theorem SHas.of'(hF:SHas P F)(hW:HasW P F){fof:FuncId}(hof:HasT P [5000003,8200003,6000034,6000043] fof (Qkz F.bind F.closed F.srt F.cmp F.tn F.tm F.tb F.bd F.mn F.ed))(hs:∀ (H:Hp) (i:Nat) (L:List (Int×Int)),H[i]?=some (arrE Qx 2 L)→L.length≤1099511627776→Qc P F.srt [.msl i 0 L.length,.d (.fn F.cmp)] H (fun r H'=>r=.tup []∧H'=H.set i (arrE Qx 2 (ssort cBad L))))(hs0:∀ (H:Hp),Qc P F.srt [YL true 2 [],.d (.fn F.cmp)] H (fun r H'=>r=.tup []∧H'=H))(n:N)(hn:n.size≤68719476736)(H:Hp) :
 Qc P fof [n.v] H (fun r H'=>r=.agg ((Z3 n).enc.map .d)∧H'=H):=by
 obtain⟨k,f,t,w,a,z,ks⟩:=n;rw[N.size_mk]at hn;have hsl:=N.sizes_len ks;have hall:allP (.mk k f t w a z ks)=Zo (Wx 0 ks [] ⟨[],[],[]⟩).1 0 ks (Wx 0 ks [] ⟨[],[],[]⟩).2:=rfl;have hall2:(Zo (Wx 0 ks [] ⟨[],[],[]⟩).1 0 ks (Wx 0 ks [] ⟨[],[],[]⟩).2).sz≤4*N.sizes ks:=by
  have h1:=(Qbp ks 0 [] ⟨[],[],[]⟩ (FOk.nil _)).sz;have h2:=(Qdi (Wx 0 ks [] ⟨[],[],[]⟩).1 ks 0 (Wx 0 ks [] ⟨[],[],[]⟩).2).2;have h3:SM.sz ⟨[],[],[]⟩=0:=rfl;omega
 have hw:=hF.ofW hW hof (H:=H) (k:=k) (f:=f) (t:=t) (w:=w) (a:=a) (z:=z) (ks:=ks) (by omega);unfold Z3;rw[hall];obtain⟨bx,hbx⟩:∃ bx,bx=Ob.box F.tn [YI k,YI f,YI t,YS w,YI a,YL z 6 (ks.map N.enc)]:=⟨_,rfl⟩;have hbc:∀ n,bx.clr n=bx:=fun n=>by subst hbx;simp
 rw[← hbx]at hw;generalize Zo (Wx 0 ks [] ⟨[],[],[]⟩).1 0 ks (Wx 0 ks [] ⟨[],[],[]⟩).2=S at hw hall2 ⊢;generalize (Wx 0 ks [] ⟨[],[],[]⟩).1=G at hw;have hbl:S.bad.length≤1099511627776:=by unfold SM.sz at hall2;omega
 obtain⟨bs,ms,bad⟩:=S;simp only at hbl;by_cases hb:bad=[]
 · subst hb;have hso:ssort cBad ([]:List (Int×Int))=[]:=rfl;rw[hso];have hgoal:(SM.enc ⟨bs,ms,[]⟩).map A.d=[YL (bs.map Q4).isEmpty 4 (bs.map Q4),YL (ms.map Y5).isEmpty 4 (ms.map Y5),YL true 2 []]:=by
    simp[SM.enc]
   rw[hgoal];refine Qc.freeze3n (k:=4) (e:=F.ed) (Qjq (t:=H.length+2)) (Qjq (t:=H.length+3)) ?_;refine hw 5 _ fun hcl it fr f3 f2 => ?_;have y5:(scY F H.length bx ⟨bs,ms,[]⟩ G it)[5]?=some (.box F.tm [.osl true 4 (bs.map Q4) (H.length+2),.osl true 4 (ms.map Y5) (H.length+3),.vsl (H.length+4) 0 0]):=rfl;have y1:(scY F H.length bx ⟨bs,ms,[]⟩ G it)[1]?=some (.box F.tm [YL true 4 [],YL true 4 [],YL true 2 []]):=rfl;have y4:(H++scY F H.length bx ⟨bs,ms,[]⟩ G it)[H.length+4]?=some (.vec 2 F.ed 0 []):=by rw[Q2];rfl
   simp[Qqb,f3,y5,-getElem?_pos];refine Qa (Qc.vecNil y4 (hs0 _)) ?_;simp[f3,f2,y5,y1,-getElem?_pos];have lY:(scY F H.length bx ⟨bs,ms,[]⟩ G it).length=8:=rfl;have y1':((scY F H.length bx ⟨bs,ms,[]⟩ G it).set 1 (.box F.tm [.osl true 4 (bs.map Q4) (H.length+2),.osl true 4 (ms.map Y5) (H.length+3),.vsl (H.length+4) 0 0]))[1]?=some (.box F.tm [.osl true 4 (bs.map Q4) (H.length+2),.osl true 4 (ms.map Y5) (H.length+3),.vsl (H.length+4) 0 0]):=rfl;have hcut:∃ X:Hp,X[4]?=some (.vec 2 F.ed 0 [])∧Hp.cut (H.length+5) (H++(scY F H.length bx ⟨bs,ms,[]⟩ G it).set 1 (.box F.tm [.osl true 4 (bs.map Q4) (H.length+2),.osl true 4 (ms.map Y5) (H.length+3),.vsl (H.length+4) 0 0]))=H++X:=⟨_,rfl,Qm hcl _ _⟩;simp[RetK,resA,f2,y1',lY,-getElem?_pos];exact hcut
 · have hne:bad.map Qx≠[]:=by simpa using hb
   have hbz:bad.length=(ssort cBad bad).length:=(Wm Zz bad).symm;have hbe:(ssort cBad bad).isEmpty=false:=by
    cases hq:ssort cBad bad with
    | nil=>rw[hq]at hbz;simp at hbz;exact absurd hbz hb
    | cons x r=>rfl
   have hgoal:(SM.enc ⟨bs,ms,ssort cBad bad⟩).map A.d=[YL (bs.map Q4).isEmpty 4 (bs.map Q4),YL (ms.map Y5).isEmpty 4 (ms.map Y5),YL false 2 ((ssort cBad bad).map Qx)]:=by
    simp[SM.enc,hbe]
   rw[hgoal];refine Qc.freeze3 (k:=8) (Qjq (t:=H.length+2)) (Qjq (t:=H.length+3)) ?_;refine hw 9 _ fun hcl it fr f3 f2 => ?_;have y5:(scY F H.length bx ⟨bs,ms,bad⟩ G it)[5]?=some (.box F.tm [.osl true 4 (bs.map Q4) (H.length+2),.osl true 4 (ms.map Y5) (H.length+3),.vsl (H.length+4) bad.length bad.length]):=rfl;have y4:(H++scY F H.length bx ⟨bs,ms,bad⟩ G it)[H.length+4]?=some (.vec 2 F.ed bad.length (bad.map Qx)):=by rw[Q2];rfl
   have y5':(H++scY F H.length bx ⟨bs,ms,bad⟩ G it)[H.length+5]?=some (.box F.tm [.osl true 4 (bs.map Q4) (H.length+2),.osl true 4 (ms.map Y5) (H.length+3),.vsl (H.length+4) bad.length bad.length]):=by rw[Q2];rfl
   have hl8:(H++scY F H.length bx ⟨bs,ms,bad⟩ G it).length=H.length+8:=by simp[scY]
   have gs:=hs ((((H++scY F H.length bx ⟨bs,ms,bad⟩ G it).set (H.length+4) .dead).set (H.length+5) (.box F.tm [.osl true 4 (bs.map Q4) (H.length+2),.osl true 4 (ms.map Y5) (H.length+3),.msl (H.length+8) 0 bad.length]))++[arrE Qx 2 bad]) (H.length+8) bad
    (by rw[Qzk (by simp[scY]),show H.length+8-_=0 by simp[scY]];rfl) hbl
   have gv:=Qc.vecArr (P:=P) (f:=F.srt) (q:=2) (args:=[.d (.fn F.cmp)]) (Q:=fun r H'=>r=.tup []∧H'=((((H++scY F H.length bx ⟨bs,ms,bad⟩ G it).set (H.length+4) .dead).set (H.length+5) (.box F.tm [.osl true 4 (bs.map Q4) (H.length+2),.osl true 4 (ms.map Y5) (H.length+3),.msl (H.length+8) 0 bad.length]))++[arrE Qx 2 (ssort cBad bad)]))
    y4 hne y5' (by simp) (by
     rw[hl8,Q0y,← Qps];refine gs.mono ?_;rintro r H' ⟨rfl,rfl⟩;refine⟨rfl,?_⟩;rw[Q00 _ _ (by simp[scY]),show H.length+8-_=0 by simp[scY]];rfl)
   rw[Q0y]at gv;simp[Qqb,f3,y5,-getElem?_pos];refine Qa gv ?_;rw[Q00 _ _ (by omega),Q00 _ _ (by simp)];simp only[Q02];obtain⟨Z,hZ⟩:∃ Z,Z=(((scY F H.length bx ⟨bs,ms,bad⟩ G it).set 4 .dead).set 5 (.box F.tm [.osl true 4 (bs.map Q4) (H.length+2),.osl true 4 (ms.map Y5) (H.length+3),.msl (H.length+8) 0 bad.length])++[arrE Qx 2 (ssort cBad bad)]):=⟨_,rfl⟩;have z5:Z[5]?=some (.box F.tm [.osl true 4 (bs.map Q4) (H.length+2),.osl true 4 (ms.map Y5) (H.length+3),.msl (H.length+8) 0 bad.length]):=by subst hZ;rfl
   have z1:Z[1]?=some (.box F.tm [YL true 4 [],YL true 4 [],YL true 2 []]):=by subst hZ;rfl
   have z1':(Z.set 1 (.box F.tm [.osl true 4 (bs.map Q4) (H.length+2),.osl true 4 (ms.map Y5) (H.length+3),.msl (H.length+8) 0 bad.length]))[1]?=some (.box F.tm [.osl true 4 (bs.map Q4) (H.length+2),.osl true 4 (ms.map Y5) (H.length+3),.msl (H.length+8) 0 bad.length]):=by subst hZ;rfl
   have lZ:Z.length=9:=by subst hZ;rfl
   have hcut:∃ X:Hp,X[8]?=some (.arr 2 (((ssort cBad bad).map Qx).map (List.map .d)))∧Hp.cut (H.length+9) (H++Z.set 1 (.box F.tm [.osl true 4 (bs.map Q4) (H.length+2),.osl true 4 (ms.map Y5) (H.length+3),.msl (H.length+8) 0 bad.length]))=H++X:=by
    refine⟨_,?_,Qm hcl _ _⟩;subst hZ;have:(Ob.clr (H.length+9) (arrE Qx 2 (ssort cBad bad)))=.arr 2 (((ssort cBad bad).map Qx).map (List.map .d)):=by rw[← Qps];exact Wf ..
    rw[← this];rfl
   rw[Qzv,← hZ];simp[f3,f2,z5,z1,-getElem?_pos];simp[RetK,resA,f2,z1',lZ,hbz,-getElem?_pos];rw[hbz]at hcut;simpa using hcut
end
end
section
open Go.RowKit (Below)
open Go.Proofs Go.Sort
end
section
section
variable{P:Program}{tn tm bd mn ed tint:Nat}
theorem Has.scCmp{f cmpI:FuncId}(hf:Has P f (Qjt cmpI ed))(hc:∀ (a b:Int) (H:Hp),Qc P cmpI [YI a,YI b] H (fun r H'=>r=YI (Yy a b)∧H'=H))(x y:Int×Int)(H:Hp) :
 Qc P f [.agg (rowE Qx x),.agg (rowE Qx y)] H (fun r H'=>r=YI (cBad x y)∧H'=H):=by
 obtain⟨fn,hff,hcf⟩:=hf;refine Qr hff hcf (by simp[Qjt]) fun hcl _ => ?_;obtain⟨a1,c1⟩:=x;obtain⟨a2,c2⟩:=y;simp[Qjt,rowE,Qx];refine Qa (hc _ _ _) ?_;simp[RetK,resA,Qf hcl,cBad]
end
end
end Go.Zam
namespace Go.Proofs.Zi
section
open Go Go.Zam Go.Proofs
theorem rcf98:Qk Tryz.prog [6] Tryz.f98=some (Qha 122 123 124 85):=by kernel_rfl
theorem rcf122:Qk Tryz.prog [] Tryz.f122=some (Qjw 160):=by kernel_rfl
theorem rcf160:Qk Tryz.prog [] Tryz.f160=some (Y2 202):=by kernel_rfl
theorem rcf202:Qk Tryz.prog [] Tryz.f202=some (Qhc):=by kernel_rfl
theorem rcf123:Qk Tryz.prog [] Tryz.f123=some (Qhb):=by kernel_rfl
theorem rcf124:Qk Tryz.prog [] Tryz.f124=some (Qjv 86 85 84 161):=by kernel_rfl
theorem rcf161:Qk Tryz.prog [] Tryz.f161=some (Zm):=by kernel_rfl
theorem rcf66:Qk Tryz.prog [] Tryz.f66=some (Qne 98 99 35):=by kernel_rfl
theorem rcf99:Qk Tryz.prog [] Tryz.f99=some (Qat 125 126 35 219):=by kernel_rfl
theorem rcf126:Qk Tryz.prog [] Tryz.f126=some (Qdb 126 35):=by kernel_rfl
theorem rcf96:Qk Tryz.prog [] Tryz.f96=some (Vc 121):=by kernel_rfl
theorem rcf121:Qk Tryz.prog [] Tryz.f121=some (Zw 158 159):=by kernel_rfl
theorem rcf158:Qk Tryz.prog [] Tryz.f158=some (Y3 2):=by kernel_rfl
theorem rcf201:Qk Tryz.prog [] Tryz.f201=some (Zj 226):=by kernel_rfl
theorem rcf226:Qk Tryz.prog [] Tryz.f226=some (Yv 2):=by kernel_rfl
theorem rcf61:Qk Tryz.prog [] Tryz.f61=some (Y6 90):=by kernel_rfl
theorem rcf90:Qk Tryz.prog [] Tryz.f90=some (Zc):=by kernel_rfl
theorem rcf97:Qk Tryz.prog [] Tryz.f97=some (Qjt 61 128):=by kernel_rfl
theorem rcf159:Qk Tryz.prog [] Tryz.f159=some (V7 2 201 159):=by kernel_rfl
theorem rcf65:Qk Tryz.prog [5000003,8200003,6000034,6000043] Tryz.f65=some (Qkz 94 95 96 97 35 47 176 53 190 128):=by kernel_rfl
theorem rcf67:Qk Tryz.prog [10,11] Tryz.f67=some (Qjs 100 101 35 40 132 54 155):=by kernel_rfl
theorem Qyd(s:Bs)(hs:s.length≤1048576)(H:Hp) :
 Qc Tryz.prog 98 [YS s] H (fun r H'=>r=.tup [YL true 4 ((lexS s).1.map Qt),YI (lexS s).2.1,YI (lexS s).2.2]∧H'=H) :=
 HasT.lex4 ⟨_,Tryz.func98,rcf98⟩
  (fun s H hs=>Has.bad3 ⟨_,Tryz.func122,rcf122⟩ (fun s n hn hl H=>Has.next3 ⟨_,Tryz.func160,rcf160⟩ (Has.more3 ⟨_,Tryz.func202,rcf202⟩) s n hn hl H) s hs H)
  (fun s n hn hl H=>Has.lead4 ⟨_,Tryz.func123,rcf123⟩ s n hn hl H)
  (fun s n hn hl H=>Has.one4 ⟨_,Tryz.func124,rcf124⟩ Qmd Qod Qob (fun s H hs=>Has.unquote3 ⟨_,Tryz.func161,rcf161⟩ s hs H) s n hn hl H) s hs H
def Rf:RF := { is:=162,word:=203,want:=204,ended:=165,use_:=163,def_:=164,lambda:=205,typed:=228,params:=227,kind:=243,block:=229,stmt:=244,expr:=252,sum:=255,term:=258,post:=264,atom:=270,file:=125,tn:=35,tt:=85,tr:=219 }
theorem rHas:RHasA Tryz.prog Rf where
 is:=⟨_,Tryz.func162,by kernel_rfl⟩
 word:=⟨_,Tryz.func203,by kernel_rfl⟩
 want:=⟨_,Tryz.func204,by kernel_rfl⟩
 ended:=⟨_,Tryz.func165,by kernel_rfl⟩
 use_:=⟨_,Tryz.func163,by kernel_rfl⟩
 def_:=⟨_,Tryz.func164,by kernel_rfl⟩
 lambda:=⟨_,Tryz.func205,by kernel_rfl⟩
 typed:=⟨_,Tryz.func228,by kernel_rfl⟩
 params:=⟨_,Tryz.func227,by kernel_rfl⟩
 kind:=⟨_,Tryz.func243,by kernel_rfl⟩
 block:=⟨_,Tryz.func229,by kernel_rfl⟩
 stmt:=⟨_,Tryz.func244,by kernel_rfl⟩
 expr:=⟨_,Tryz.func252,by kernel_rfl⟩
 sum:=⟨_,Tryz.func255,by kernel_rfl⟩
 term:=⟨_,Tryz.func258,by kernel_rfl⟩
 post:=⟨_,Tryz.func264,by kernel_rfl⟩
 atom:=⟨_,Tryz.func270,by kernel_rfl⟩
 file:=⟨_,Tryz.func125,by kernel_rfl⟩
theorem Qwl(s:Bs)(hs:s.length≤1048576)(H:Hp) :
 Qc Tryz.prog 66 [YS s] H (fun r H'=>r=.tup [YL true 4 ((Q5 s).1.map Qt),(Q5 s).2.1.v,YI (Q5 s).2.2.1,YI (Q5 s).2.2.2]∧H'=H) :=
 Has.of7 ⟨_,Tryz.func66,rcf66⟩ (fun s hs H=>Qyd s hs H) (fun z L hL H=>Has.parse7 (R:=Rf) ⟨_,Tryz.func99,rcf99⟩ rHas ⟨_,Tryz.func126,rcf126⟩ hL H) s hs H
def Sf:SF := { wrong:=117,bind:=94,within:=118,res:=154,node:=120,nodeC:=155,kids:=156,mention:=157,find:=200,closed:=95,closedC:=119,cmp:=97,srt:=96,cmpI:=61,tn:=35,tp:=171,ts:=33,tfp:=174,tf:=211,tb:=176,tm:=47,bd:=53,mn:=190,ed:=128 }
theorem sHas:SHas Tryz.prog Sf where
 wrong:=⟨_,Tryz.func117,by kernel_rfl⟩
 bind:=⟨_,Tryz.func94,by kernel_rfl⟩
 res:=⟨_,Tryz.func154,by kernel_rfl⟩
 kRes:=by kernel_rfl
 node:=⟨_,Tryz.func120,by kernel_rfl⟩
 nodeC:=⟨_,Tryz.func155,by kernel_rfl⟩
 kNodeC:=by kernel_rfl
 kids:=⟨_,Tryz.func156,by kernel_rfl⟩
 mention:=⟨_,Tryz.func157,by kernel_rfl⟩
 find:=⟨_,Tryz.func200,by kernel_rfl⟩
 closed:=⟨_,Tryz.func95,by kernel_rfl⟩
 closedC:=⟨_,Tryz.func119,by kernel_rfl⟩
 kClosedC:=by kernel_rfl
theorem sHasW:HasW Tryz.prog Sf:=⟨_,Tryz.func118,by kernel_rfl⟩
def Rs:RSF := { rbind:=100,rclosed:=101,rbegin:=127,rnode:=128,rmention:=166,tn:=35,rtm:=40,rnm:=221,red:=132,rbd:=54,rmn:=155 }
theorem rsHas:RSHas Tryz.prog Rs where
 rbind:=⟨_,Tryz.func100,by kernel_rfl⟩
 rclosed:=⟨_,Tryz.func101,by kernel_rfl⟩
 rbegin:=⟨_,Tryz.func127,by kernel_rfl⟩
 rnode:=⟨_,Tryz.func128,by kernel_rfl⟩
 rmention:=⟨_,Tryz.func166,by kernel_rfl⟩
theorem Qqr:∀ x,(Qx x).length=2:=fun _=>rfl
theorem cmpB:CmpA Tryz.prog Qx cBad (.d (.fn 97)):=fun H x y Q t hq=>by
 simp only[Qrb];exact⟨by kernel_rfl,Ye (Has.scCmp (ed:=128) (cmpI:=61) ⟨_,Tryz.func97,rcf97⟩ (fun a b H=>Qay Tryz.func61 rcf61 Tryz.func90 rcf90 a b) x y H) hq⟩
theorem srtOk(H:Hp)(i:Nat)(L:List (Int×Int))(hi:H[i]?=some (arrE Qx 2 L))(hl:L.length≤1099511627776):Qc Tryz.prog 96 [.msl i 0 L.length,.d (.fn 97)] H (fun r H'=>r=.tup []∧H'=H.set i (arrE Qx 2 (ssort cBad L))) :=
 Qaq Qqr Zz Tryz.func96 rcf96 Tryz.func121 rcf121 Tryz.func158 rcf158 Tryz.func159 rcf159 Tryz.func201 rcf201 Tryz.func226 rcf226 cmpB (fun m _=>by simp) hi hl
theorem Qx1(H:Hp):Qc Tryz.prog 96 [YL true 2 [],.d (.fn 97)] H (fun r H'=>r=.tup []∧H'=H) :=
 Qae (sz:=2) Tryz.func96 rcf96 Tryz.func121 rcf121 Tryz.func158 rcf158 (fun m _=>by simp)
theorem Qwf(n:N)(hn:n.size≤68719476736)(H:Hp):Qc Tryz.prog 65 [n.v] H (fun r H'=>r=.agg ((Z3 n).enc.map .d)∧H'=H) :=
 sHas.of' sHasW ⟨_,Tryz.func65,rcf65⟩ srtOk Qx1 n hn H
theorem Qqf(n:N)(hn:n.size≤68719476736)(H:Hp):Qc Tryz.prog 67 [n.v] H (fun r H'=>r=.agg ((Z3 n).encR.map .d)∧H'=H):=by
 have:=rsHas.of' ⟨_,Tryz.func67,rcf67⟩ n hn H;rw[← Qpu]at this;exact this
end
section
open Go Go.Zam Go.Proofs
theorem Qp9:SortU Tryz.prog 68 69 102 129 130 167 206 70 51 87 49 where
 clone:=⟨_,Tryz.func68,by kernel_rfl⟩
 srt:=⟨_,Tryz.func69,by kernel_rfl⟩
 stb:=⟨_,Tryz.func102,by kernel_rfl⟩
 ins:=⟨_,Tryz.func129,by kernel_rfl⟩
 sym:=⟨_,Tryz.func130,by kernel_rfl⟩
 rot:=⟨_,Tryz.func167,by kernel_rfl⟩
 swp:=⟨_,Tryz.func206,by kernel_rfl⟩
 cmpU:=⟨_,Tryz.func70,by kernel_rfl⟩
 kCmpU:=by kernel_rfl
 cmpS:=⟨_,Tryz.func51,by kernel_rfl⟩
 nan:=⟨_,Tryz.func87,by kernel_rfl⟩
theorem Qx2:SortD Tryz.prog 57 58 89 110 111 136 188 59 51 87 61 90 62 91 60 69 where
 clone:=⟨_,Tryz.func57,by kernel_rfl⟩
 srt:=⟨_,Tryz.func58,by kernel_rfl⟩
 stb:=⟨_,Tryz.func89,by kernel_rfl⟩
 ins:=⟨_,Tryz.func110,by kernel_rfl⟩
 sym:=⟨_,Tryz.func111,by kernel_rfl⟩
 rot:=⟨_,Tryz.func136,by kernel_rfl⟩
 swp:=⟨_,Tryz.func188,by kernel_rfl⟩
 cmpD:=⟨_,Tryz.func59,by kernel_rfl⟩
 kCmpD:=by kernel_rfl
 cmpS:=⟨_,Tryz.func51,by kernel_rfl⟩
 nanS:=⟨_,Tryz.func87,by kernel_rfl⟩
 cmpI:=⟨_,Tryz.func61,by kernel_rfl⟩
 nanI:=⟨_,Tryz.func90,by kernel_rfl⟩
 cmpE:=⟨_,Tryz.func62,by kernel_rfl⟩
 nanE:=⟨_,Tryz.func91,by kernel_rfl⟩
 or_:=⟨_,Tryz.func60,by kernel_rfl⟩
theorem pcfU:Qk Tryz.prog [] Tryz.f17=some (Qe1 49 50 49):=by kernel_rfl
theorem hUnit:Has Tryz.prog 17 (Qe1 49 50 49):=⟨_,Tryz.func17,pcfU⟩
theorem Qyl:Has Tryz.prog 50 (Qdd 51 49):=⟨_,Tryz.func50,by kernel_rfl⟩
theorem Qgs:Qnr Tryz.prog 17:=fun S hS s H =>
 Has.pjUnit hUnit ⟨_,Tryz.func49,by kernel_rfl⟩ Qyl (by kernel_rfl) Qp9.cmpS Qp9.nan S s (by have:=hS.len;omega) (fun i j u v=>Qsy hS.so i j u v s) H
theorem Qug:Qrd Tryz.prog 54:=fun u a hl H=>Has.pjSpot (tU:=49) (tSp:=67) ⟨_,Tryz.func54,by kernel_rfl⟩ u a hl H
theorem bs40{S:List Un}(hS:PrjOk S):∀ v ∈ S,v.sm.bs.length≤1099511627776:=fun v hv=>by have:=(hS.sm v hv).2.1;omega
theorem Qrz:Qsk Tryz.prog 19:=fun S hS u hu b hb H =>
 Has.pjImp (unit:=17) (item:=53) (tU:=49) (tBd:=53) (tIm:=58) ⟨_,Tryz.func19,by kernel_rfl⟩ (Qgs S hS) Qvd (bs40 hS) u (hS.gd u hu) b hb (by have:=(hS.sm u hu).2.2.2;omega) H
theorem Qyi{S:List Un}(hS:PrjOk S):Qv0 Tryz.prog S 55:=fun u hu H =>
 HasT.pjImps (imp:=19) (unit:=17) (spot:=54) (tU:=49) (tBd:=53) (tN:=35) (tIm:=58) (tD:=69) ⟨_,Tryz.func55,by kernel_rfl⟩ u (Qgs S hS) (Qrz S hS u hu) Qug (hS.gd u hu) (by have:=(hS.sm u hu).2.1;omega) (by have:=(hS.sm u hu).2.2.1;omega) H
theorem Qwy{S:List Un}(hS:PrjOk S):Qsl Tryz.prog S 56:=fun H =>
 Has.pjEntry (unit:=17) (item:=53) (tU:=49) (tN:=35) ⟨_,Tryz.func56,by kernel_rfl⟩ (Qgs S hS) Qvd hS.gd (bs40 hS) H
theorem Quh:Qsb Tryz.prog 23:=fun H z l hl=>Qwd ⟨_,Tryz.func23,by kernel_rfl⟩ Qx2 H z l hl
theorem pcfD:Qk Tryz.prog [3] Tryz.f21=some (Qfr 54 55 56 23 49 128 69):=by kernel_rfl
theorem Qr4:Qn0 Tryz.prog 21:=fun S hS H =>
 HasT.pjDiags ⟨_,Tryz.func21,pcfD⟩ Qug (Qyi hS) (Qwy hS) Quh hS.len hS.sm H
theorem Qx6{H0:Hp}(hG:Qcr 0 1 2 3 H0):Qvz Tryz.prog H0 25:=fun m hm H hH =>
 Has.pjRead (pof:=64) (sof:=65) (tM:=77) (tU:=49) ⟨_,Tryz.func25,by kernel_rfl⟩ (fun s hs H hH=>ofOk hG s hs H hH) Qwf m hm H hH
theorem Qwi{H0:Hp}:Qsf Tryz.prog H0 26:=fun m hm H hH =>
 Has.pjRread (rof:=66) (sofR:=67) (tM:=77) (tR:=42) ⟨_,Tryz.func26,by kernel_rfl⟩ (fun s hs H _=>Qwl s hs H) Qqf m hm H hH
theorem Qu2:OfOk Tryz.prog 28:=fun l z hl hz H=>Has.pjOf (tP:=122) Qp9 ⟨_,Tryz.func28,by kernel_rfl⟩ Qve l hl z hz
theorem Qu8{H0:Hp}(hG:Qcr 0 1 2 3 H0):Qrf Tryz.prog H0 15:=fun l z ht H hH=>HasT.pjLoad (tM:=77) (tU:=49) ⟨_,Tryz.func15,by kernel_rfl⟩ (Qx6 hG) Qu2 l z ht H hH
theorem Qwk{H0:Hp}:Qsd Tryz.prog H0 16:=fun l z ht H hH=>HasT.pjRload (tR:=42) ⟨_,Tryz.func16,by kernel_rfl⟩ Qwi Qs1 l z ht H hH
theorem Qrp{S:List Un}(hl:S.length≤1048576)(z:Bool):Qnv Tryz.prog S z 40:=fun s H=>Has.pjRfind ⟨_,Tryz.func40,by kernel_rfl⟩ S z s hl H
theorem Qrn:Qnu Tryz.prog 52:=fun u w hl H=>Has.pjRitem (tR:=42) ⟨_,Tryz.func52,by kernel_rfl⟩ u w hl H
theorem len20{S:List Un}(hS:PrjOk S):S.length≤1048576:=by have:=hS.len;omega
theorem Qro:Qse Tryz.prog 18:=fun S hS z u hu b hb H =>
 Has.pjRimp (rfind:=40) (ritem:=52) (tR:=42) (tBe:=54) ⟨_,Tryz.func18,by kernel_rfl⟩ (Qrp (len20 hS) z) Qrn (bs40 hS) u (hS.gd u hu) b hb (by have:=(hS.sm u hu).2.2.2;omega) H
theorem Qwh:Qsc Tryz.prog 24:=fun H z l hl=>HasT.pjRsort (ahead:=63) (tE:=71) ⟨_,Tryz.func24,by kernel_rfl⟩ ⟨_,Tryz.func63,by kernel_rfl⟩ z l hl H
theorem Quu:Qpy Tryz.prog 22:=fun S hS z H =>
 HasT.pjRdiags (rimp:=18) (rfind:=40) (ritem:=52) (rsort:=24) (tR:=42) (tC:=132) (tBe:=54) (tE:=71) ⟨_,Tryz.func22,by kernel_rfl⟩ (Qro S hS z) (Qrp (len20 hS) z) Qrn Qwh hS.len hS.sm hS.gd H
theorem Qwg:Qnt Tryz.prog 20:=Has.pjSame (tD:=69) ⟨_,Tryz.func20,by kernel_rfl⟩
theorem Qva:Qsi Tryz.prog 13:=fun l z most hm hl hs H=>Qwp (tM:=77) ⟨_,Tryz.func13,by kernel_rfl⟩ H z l most hm hl hs
theorem awkOk{H0:Hp}(hG:Qcr 0 1 2 3 H0):Qv5 Tryz.prog H0 14:=Has.pjAwake (load:=15) (unit:=17) (diags:=21) (tU:=49) ⟨_,Tryz.func14,by kernel_rfl⟩ (Qu8 hG) Qgs Qr4
end
section
open Go Go.Zam Go.Proofs
variable{H0:Hp}
theorem lImportsOk(hG:Qcr 0 1 2 3 H0)(l:List Mod)(z:Bool)(hl:l.length≤1048576)(hm:∀ m ∈ l,m.n.length≤1048576∧m.t.length≤1048576)(H:Hp)(hH:Pre0 H0 H) :
 Qc Tryz.prog 3 [YL z 2 (l.map encM)] H (fun r H'=>r=YB true∧H'=H) :=
 Has.pjLImports (light_:=13) (awake:=14) (load:=15) (rload:=16) (unit:=17) (rimp:=18) (imp:=19) (diags:=21) (rdiags:=22) (same:=20) (tR:=42) (tU:=49) (tBd:=53) ⟨_,Tryz.func3,by kernel_rfl⟩ Qva (awkOk hG) (Qu8 hG) Qwk Qgs Qrz Qro Qr4 Quu Qwg l z hl hm H hH
end
end Go.Proofs.Zi
namespace Go.Zam
end Go.Zam
namespace Go.Proofs.Zi
open Go Go.Zam Go.Proofs
theorem ty77(n:Nat)(ds:List D)(h:Typed Tryz.prog n 77 ds):∃ m:Mod,ds=encM m:=by
 obtain⟨m,h⟩:=Qm0 Tryz.underlying77 h;obtain⟨a,r,rfl,ha,b,r,rfl,hb,rfl⟩:=h;obtain⟨s,rfl⟩:=Ql0 Tryz.underlying9 ha;obtain⟨t,rfl⟩:=Ql0 Tryz.underlying9 hb;exact⟨⟨s,t⟩,rfl⟩
theorem arg_mods{n:Nat}{ds:List D}{a:A}(h:Typed Tryz.prog n 22 ds)(ha:Qjf Tryz.prog 22 ds a):∃ z,∃ l:List Mod,a=YL z 2 (l.map encM)∧(l.length≤D.bulkC ds∧∀ m ∈ l,m.n.length≤D.bulkC ds∧m.t.length≤D.bulkC ds):=by
 obtain⟨z,l,rfl⟩:=Qt5 (sz:=2) Tryz.underlying22 (by kernel_rfl) ty77 h;refine⟨z,l,Qtv (by rw[Tryz.underlying22];simp) ha,?_⟩;have h1:=Qmq (enc:=encM) (fun m=>by simp only[encM,D.bulkC,D.bulk];omega) l;simp only[D.bulkC,D.bulk];refine⟨by omega,fun m hm => ?_⟩;have h2:=Qtt (List.mem_map_of_mem (f:=encM) hm);simp only[encM,D.bulkC,D.bulk]at h2;omega
end Go.Proofs.Zi
