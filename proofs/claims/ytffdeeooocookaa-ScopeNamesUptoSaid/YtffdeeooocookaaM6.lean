/-
  Texts of one proof, one behind the other.
-/
import Derived.Test.YtffdeeooocookaaM5
import Derived.Test.YtffdeeooocookaaM4
import Derived.Test.YtffdeeooocookaaM3
import Derived.Defers
set_option linter.all false
set_option maxRecDepth 100000
set_option maxHeartbeats 4000000
namespace Go.Zam
section
def plainK:Nat→Bs
 | 0=>kInt
 | 1=>kStr
 | _=>kDyn
section
variable {P:Program} {R:RF} {z:Bool} {L:List Tk}
theorem RHas.kind' (hR:RHas P R) (hx:HasT P [9] R.kind (irR7Kind R.is R.word R.want R.kind R.ended R.tn)) (hE:EndsL L) (hL:L.length≤1048576) (n:Nat) (hn:n≤1099511627776) (hS:∀ m,m < n+1→UR P R.tr z L m .kind R.kind):UR P R.tr z L (n+1) .kind R.kind:=by
 refine UR_of fun H i s hi hpp => ?_
 obtain ⟨fn,hf,hcf⟩:=hx
 refine acall_norm (acall_fin hf hcf (by simp [irR7Kind]) fun hcl _ => ?_)
 have hp0:=hpp.1.1
 simp only [G.c] at hp0
 obtain ⟨p,st⟩:=s
 have hget:∀ st X,(H.set i (rst R.tr z L st)++X)[i]?=some (rst R.tr z L st):=fun st X=>upG hi
 have hcc:∀ st' X,Hp.cut H.length (H.set i (rst R.tr z L st')++X)=H.set i (rst R.tr z L st'):=fun st' X=>rcut hcl
 cases st with
 | some q =>
   have hq':(0:Int)≤q:=by omega
   have hg1:=hget (some q)
   have hc1:=hcc (some q)
   simp only [rst] at hg1 hc1
   simp [irR7Kind,rst,hg1,hq']
   simp [RetK,hc1,rst,nl]
   have hrel:=fin_nodeR (tr:=R.tr) (z:=z) (L:=L) (H:=H) (i:=i) (z':=true) (n:=n+1) (g := .kind) (s:=(p,some q)) (s':=(p,some q)) (k:=0) (f:=0) (t:=0) (a:=0) (w:=[]) [] (rows:=[]) rfl (by simp) (by simp [Rel])
   simpa [rst] using hrel
 | none =>
   have hp:p < L.length:=hpp.2 rfl
   obtain ⟨hp1,hp2⟩:=hpp.1.2.2 rfl
   simp only [G.c] at hp1 hp2
   have hw:IntKind.i64.wrap ((p:Int)+1)=((p+1:Nat):Int):=by rw [wrap_i64 (by omega) (by omega)]; omega
   have hg1:=hget none
   simp only [rst] at hg1
   have gi:=fun x X=>hR.isA (z:=z) (st:=none) (X:=X) hi hp x
   simp only [rst] at gi
   simp [irR7Kind,rst,hg1]
   obtain ⟨E,hE0⟩:∃ E:Fr→Hp→Prop,E=fun fr H'=>(fr 0 = .ptr i 0∧fr 1 = .d (.int .i64 (p:Int))∧fr 4 = .ptr H.length 0∧fr 6 = .d (.int .i64 (p:Int)))∧(isT L p kInt=false∧isT L p kStr=false∧isT L p kDyn=false)∧H'=H.set i (rst R.tr z L none)++[zbx R.tn]:=⟨_,rfl⟩
   obtain ⟨RR,hRR⟩:∃ RR:Fr→Hp→Prop,RR=fun fr H'=>∃ K:Nat,fr 4 = .ptr H.length 0∧fr 5 = .d (.int .i64 ((p+1:Nat):Int))∧pp L (n+1) .kind p = .ok (N.new K p (p+1) [] 0 []) (p+1)∧H'=H.set i (rst R.tr z L none)++[.box R.tn [.d (.int .i64 K),.d (.int .i64 (p:Int)),.d (.int .i64 ((p+1:Nat):Int)),.d (.str []),.d (.int .i64 0),.d (.sl true 6 [])]]:=⟨_,rfl⟩
   refine LoopK_outR 0 E RR ?_ ?_ ?_
   rotate_left
   · intro fr H' h
     subst hRR
     obtain ⟨K,f4,f5,hr,rfl⟩:=h
     simp [f4,f5]
     simp [RetK,hcc,nl]
     have hrel:=fin_nodeR (tr:=R.tr) (z:=z) (L:=L) (H:=H) (i:=i) (z':=true) (n:=n+1) (g := .kind) (s:=(p,none)) (s':=(p+1,none)) (k:=K) (f:=p) (t:=((p+1:Nat):Int)) (a:=0) (w:=[]) [] (rows:=[]) rfl (by simp) (by simp [Rel,hr])
     simpa using hrel
   · intro fr H' h
     subst hE0
     clear hRR
     obtain ⟨⟨f0,f1,f4,f6⟩,⟨i1,i2,i3⟩,rfl⟩:=h
     have gi4:=fun X=>gi [123] X
     cases i4:isT L p [123] with
     | true =>
       rw [i4] at gi4
       have l1:=isT_ltE hE i4
       simp [f0,f1,f4,f6,rst,zbx]
       refine CallK_of' (gi4 _) ?_
       simp [f6,hw]
       have hs0l:(((p+1,none):PSt)).2=none→((p+1,none):PSt).1 < L.length:=fun _=>l1
       have hs0c:((p+1,none):PSt).2=none→16 * (L.length - ((p+1,none):PSt).1)+9≤n:=fun _=>by simp only; omega
       obtain ⟨XX,hXX⟩:∃ XX:List N→Hp,XX=fun ks=>[zbx R.tn,.tok ks.length 6 R.tn]:=⟨_,rfl⟩
       have hXl:∀ a,(XX a).length=2:=fun a=>by rw [hXX]; rfl
       obtain ⟨E,hE0⟩:∃ E:Fr→Hp→Prop,E=fun fr H'=>∃ (ks:List N) (s':PSt) (X:Hp),(fr 0 = .ptr i 0∧fr 1 = .d (.int .i64 (p:Int))∧fr 4 = .ptr H.length 0∧fr 6 = .d (.int .i64 (s'.1:Int))∧fr 9 = .osl true 6 (ks.map N.enc) (H.length+1))∧(s'.2=none→s'.1 < L.length)∧s'.1≤1125899906842624∧ks.length * 72≤70368744177664∧Rel L n (.list .tfield [125]) ((p+1,none):PSt) (N.bag ks) (wantS L [125] s')∧H'=H.set i (rst R.tr z L s'.2)++(XX ks++X):=⟨_,rfl⟩
       refine LoopK_outR 2 E (fun _ _=>False) ?_ (fun _ _ h=>h.elim) ?_
       rotate_left
       · intro fr H' h
         subst hE0
         obtain ⟨ks,s',X,⟨f0,f1,f4,f6,f9⟩,hlt,hb,hkb,hr,rfl⟩:=h
         have g2:=fun X=>hR.wantA (z:=z) (s:=s') (X:=X) hi hlt hb [125]
         generalize wantS L [125] s'=s2 at g2 hr
         simp [f0,f6]
         refine CallK_of' (g2 _) ?_
         have g5:=fun H0=>hR.ended.rendedT 32 (p:Int) 0 [] 0 true [] (s2.1:Int) true (ks.map N.enc) H0 (H.length+1)
         simp only [ag] at g5
         simp [f1,f9,hXl]
         refine CallK_of' (g5 _ (by simp [hXl]; omega)) ?_
         subst hXX
         simp [f4,zbx]
         simp [RetK,rcut hcl,nl]
         exact fin_nodeR (z':=true) ks rfl (fun _=>rfl) (relIn (by simp [pp,i1,i2,i3,i4]) hr)
       have hE1:∀ fr (ks:List N) (s':PSt) (X:Hp),(fr 0 = .ptr i 0∧fr 1 = .d (.int .i64 (p:Int))∧fr 4 = .ptr H.length 0∧fr 6 = .d (.int .i64 (s'.1:Int))∧fr 9 = .osl true 6 (ks.map N.enc) (H.length+1))→(s'.2=none→s'.1 < L.length)→s'.1≤1125899906842624→ks.length * 72≤70368744177664→Rel L n (.list .tfield [125]) ((p+1,none):PSt) (N.bag ks) (wantS L [125] s')→E fr (H.set i (rst R.tr z L s'.2)++(XX ks++X)):=fun fr ks s' X a b c d e=>by subst hE0; exact ⟨ks,s',X,a,b,c,d,e,rfl⟩
       clear hE0
       have hcut:∀ ks st' X,Hp.cut (H.length+2) (H.set i (rst R.tr z L st')++(XX ks++X))=H.set i (rst R.tr z L st')++XX ks:=fun ks st' X=>by
        rw [rcutk hcl,hXX]; rfl
       have hcut0:∀ ks st',Hp.cut (H.length+2) (H.set i (rst R.tr z L st')++XX ks)=H.set i (rst R.tr z L st')++XX ks:=fun ks st'=>by simpa using hcut ks st' []
       have hg0:∀ st X,(H.set i (rst R.tr z L st)++X)[i]?=some (rst R.tr z L st):=fun st X=>upG hi
       have hgT:∀ (ks:List N) X,(XX ks++X)[1]?=some (.tok (ks.length) 6 R.tn):=fun ks X=>by rw [hXX]; simp
       have hgT1:∀ (ks:List N) h,(XX ks)[1]'h = .tok (ks.length) 6 R.tn:=fun ks h=>by simp [hXX]
       have hgB:∀ (ks:List N) b X,(XX ks++b :: X)[2]?=some b:=fun ks b X=>by rw [hXX]; simp
       have hgC:∀ (ks:List N) b c X,(XX ks++b :: c :: X)[3]?=some c:=fun ks b c X=>by rw [hXX]; simp
       have hsT:∀ (ks:List N) (m:N) X,(XX ks++X).set 1 (.tok (ks.length+1) 6 R.tn)=XX (ks++[m])++X:=fun ks m X=>by rw [hXX]; simp
       have hil2:i < H.length+2:=by omega
       rw [show H.set i (.box R.tr [.d (.sl z 4 (L.map encTk)),.d (.int .i64 (-1))])++[Ob.box R.tn [.d (.int .i64 0),.d (.int .i64 0),.d (.int .i64 0),.d (.str []),.d (.int .i64 0),.d (.sl true 6 [])],.tok 0 6 R.tn]=H.set i (rst R.tr z L none)++XX [] by rw [hXX]; rfl]
       refine LoopM_of (H.length+2) (fun d fr H'=>∃ (ks:List N) (s':PSt),(fr 0 = .ptr i 0∧fr 1 = .d (.int .i64 (p:Int))∧fr 4 = .ptr H.length 0∧fr 6 = .d (.int .i64 (s'.1:Int))∧fr 9 = .osl true 6 (ks.map N.enc) (H.length+1))∧H'=H.set i (rst R.tr z L s'.2)++XX ks ∧
        ((d=0∧s'.2 ≠ none∧s'.1≤1125899906842624∧ks.length * 72≤70368744177664∧∀ m,Rel L n (.list .tfield [125]) ((p+1,none):PSt) m s')∨∃ p1,s'=(p1,none)∧((p+1,none):PSt).2=none∧d≤n∧pp L n (.list .tfield [125]) ((p+1,none):PSt).1=pp L d (LG .tfield [125] ks) p1∧p1 < L.length∧16 * (L.length - p1)+9≤d∧ks.length≤p1)) (match ((p+1,none):PSt).2 with | none=>n | some _=>0) (by simp [hXl]) ⟨[],((p+1,none):PSt),?_⟩ ?_
       · refine ⟨by simp [hil2,f0,f1,f4],hcut0 _ _,?_⟩
         cases h0:((p+1,none):PSt).2 with
         | some q=>first | exact absurd h0 (by simp; done) | exact .inl ⟨rfl,by simp [h0],by omega,by simp,fun m=>by simp [Rel,h0,G.wt]⟩
         | none=>exact .inr ⟨((p+1,none):PSt).1,by rw [← h0],rfl,Nat.le_refl _,by simp [LG],hs0l h0,by have:=hs0c h0; omega,by simp⟩
       · rintro d fr H' ⟨ks,s',⟨f0,f1,f4,f6,f9⟩,rfl,hd⟩
         rcases hd with ⟨rfl,q1,qb,qk,q2⟩ | ⟨p1,rfl,hs2,hdn,hpe,hp1',hrk,hks⟩
         · obtain ⟨p',st'⟩:=s'
           cases st' with
           | none=>simp at q1
           | some q =>
             have hg1:=hg0 (some q)
             have hq:¬ (q:Int) < 0:=by omega
             have hE2:=fun fr h=>hE1 fr ks (p',some q) [] h (fun e=>by cases e) qb qk (q2 _)
             simp only [rst,List.append_nil] at hg1 hE2
             simp [f0,f6,rst,hg1,hq]
             exact hE2 _ (by simp [f0,f1,f4,f6,f9,hXl])
         · have hRel:∀ m s',(match pp L d (LG .tfield [125] ks) p1 with | .out=>False | .bad q=>s'.2=some q∧s'.1≤L.length+n | .ok m' k=>m=m'∧s'=(k,none))→Rel L n (.list .tfield [125]) ((p+1,none):PSt) m s':=fun m s' h=>by
            unfold Rel
            rw [hs2]
            simp only
            rw [hpe]; exact h
           have hg1:=hg0 none
           have gi:=fun X=>hR.isA (z:=z) (st:=none) (X:=X) hi hp1' [125]
           by_cases hend:ks=[]∧isT L p1 [125]=true
           · obtain ⟨rfl,hjb⟩:=hend
             obtain ⟨d',rfl⟩:∃ d',d=d'+1:=⟨d - 1,by omega⟩
             have hE2:=fun fr h=>hE1 fr [] (p1,none) [] h (fun _=>hp1') (by simp only; omega) (by simp) (hRel _ _ (by simp [LG,pp,hjb,N.bag,N.new]))
             rw [hjb] at gi
             simp only [rst,List.append_nil] at hg1 gi hE2
             simp [f0,f6,f9,rst,hg1]
             refine CallK_of' (gi _) ?_
             simp
             exact hE2 _ (by simp [f0,f1,f4,f6,f9,hXl])
           · have hje:ks=[]→isT L p1 [125]=false:=fun e=>by
              cases h:isT L p1 [125] with
              | false=>rfl
              | true=>exact absurd ⟨e,h⟩ hend
             obtain ⟨M,hM⟩:∃ M:Fr→Hp→Prop,M=fun fr H'=>(fr 0 = .ptr i 0∧fr 1 = .d (.int .i64 (p:Int))∧fr 4 = .ptr H.length 0∧fr 6 = .d (.int .i64 (((p1,none):PSt).1:Int))∧fr 9 = .osl true 6 (ks.map N.enc) (H.length+1))∧H'=H.set i (rst R.tr z L none)++XX ks:=⟨_,rfl⟩
             have hM1:∀ fr,(fr 0 = .ptr i 0∧fr 1 = .d (.int .i64 (p:Int))∧fr 4 = .ptr H.length 0∧fr 6 = .d (.int .i64 (((p1,none):PSt).1:Int))∧fr 9 = .osl true 6 (ks.map N.enc) (H.length+1))→M fr (H.set i (rst R.tr z L none)++XX ks):=fun fr h=>by subst hM; exact ⟨h,rfl⟩
             refine Seq_mid M ?_ ?_
             · clear hM
               simp only [rst] at hg1 gi hM1
               rcases List.eq_nil_or_concat ks with hk0 | ⟨kk,kx,hk0⟩
               · rw [hje hk0] at gi
                 simp [f0,f6,f9,rst,hg1,hk0]
                 refine CallK_of' (gi _) ?_
                 rw [← hk0]
                 simp [f0,f6]
                 exact hM1 _ (by simp [f0,f1,f4,f6,f9,hXl])
               · have hkn:¬ ks=[]:=fun e=>by rw [e] at hk0; simp at hk0
                 simp [f0,f6,f9,rst,hg1,hkn]
                 exact hM1 _ (by simp [f0,f1,f4,f6,f9,hXl])
             · intro fr H' h
               subst hM
               obtain ⟨⟨f0,f1,f4,f6,f9⟩,rfl⟩:=h
               have hstep:=LG_step (L:=L) (d:=d) (one := .tfield) (e:=[125]) (ks:=ks) (p:=p1) (by omega) hje
               obtain ⟨m,hm1,hm2,hpp2⟩:=hstep
               obtain ⟨m',rfl⟩:∃ m',m=m'+1:=⟨m - 1,by omega⟩
               have gw:=fun X=>hR.wordA (z:=z) (s:=(p1,none)) (X:=X) hi (fun _=>hp1') (by simp only; omega) 33 p1 0 [] 0 true []
               have hrp:=fun t s3=>relTfield (L:=L) hE (n:=m') (p:=p1) (t:=t) (s3:=s3) (by omega) hp1'
               generalize h2:wordS L (p1,none)=s2 at gw hrp
               have b2:=wordS_le h2
               have m2:=wordS_moE hE h2
               have hlt2:=m2.lt (fun _=>hp1')
               simp only at gw b2
               have gv:=fun X=>hR.wantA (z:=z) (s:=s2) (X:=X) hi hlt2 (by omega) [58]
               generalize h2v:wantS L [58] s2=s2v at gv hrp
               have b2:=Nat.le_trans (wantS_le h2v) (Nat.succ_le_succ b2)
               have m2:=m2.trans (wantS_moE hE h2v)
               have hlt2:=m2.lt (fun _=>hp1')
               simp only [rst] at gv
               have gt:=fun X=>hS m' (by omega) H X i s2v hi ⟨⟨by simp only [G.c]; omega,by simp only [G.c]; omega,fun e=>by
                obtain ⟨a1,a2,a3⟩:=m2 e
                have:=hlt2 e
                simp only at a2
                simp only [G.c]
                exact ⟨by omega,by omega⟩⟩,hlt2⟩
               generalize (if wordOkB L (p1,none)=true then txT L p1 else [])=W at gw hrp
               generalize (if wordOkB L (p1,none)=true then (p1:Int) else 0)=Q at gw hrp
               simp only [rst,ag] at hg1 gw gt
               simp [f0,f6,rst]
               refine CallK_of' (gw _) ?_
               simp [f0]
               refine CallK_of' (gv _) ?_
               simp [f0]
               refine CallK_of (gt _) ?_
               rintro _ _ ⟨t,s3,rfl,rfl,r3⟩
               obtain ⟨kt,ft,tt',wt',qt,zt,kst,hft,het,hvt,hbt⟩:=node_ho R.tn t
               rw [hvt]
               obtain ⟨bo,hbo⟩:∃ bo:Ob,bo = .box R.tn [.d (.int .i64 33),.d (.int .i64 (p1:Int)),.d (.int .i64 0),.d (.str W),.d (.int .i64 Q),.d (.sl true 6 [])]:=⟨_,rfl⟩
               obtain ⟨co,hco⟩:∃ co:Ob,co = .box R.tn [.d (.int .i64 kt),.d (.int .i64 ft),.d (.int .i64 tt'),.d (.str wt'),.d (.int .i64 qt),.d (.sl zt 6 (kst.map N.enc))]:=⟨_,rfl⟩
               have hB:=fun X=>hgB ks bo X
               have hC:=fun X=>hgC ks bo co X
               rw [hbo] at hB
               rw [hbo,hco] at hC
               have hT:=hgT ks
               have hT1:=hgT1 ks
               have g5:=fun H0=>hR.ended.rended 33 p1 0 W Q true [] (s3.1:Int) false [t.enc] H0
               rw [het] at g5
               simp only [ag] at g5
               simp [f0,f9,hXl,hB,hC]
               refine CallK_of' (g5 _) ?_
               have hs3b:s3.1≤L.length+(m'+1):=by have:=r3.bnd (B:=L.length+(m'+1)) (by omega) (by omega); omega
               obtain ⟨x,hx⟩:∃ x:N,x=N.new 33 p1 s3.1 W Q [t]:=⟨_,rfl⟩
               have hrx:Rel L (m'+1) .tfield (p1,none) x s3:=by rw [hx]; exact hrp t s3 r3 hs3b
               have hs1:=hsT ks x
               have hbd:(ks.length+1) * 72≤140737488355328:=by omega
               have hmap:ks.map N.enc++[[.int .i64 33,.int .i64 (p1:Int),.int .i64 (s3.1:Int),.str W,.int .i64 Q,.sl false 6 [[.int .i64 kt,.int .i64 ft,.int .i64 tt',.str wt',.int .i64 qt,.sl zt 6 (kst.map N.enc)]]]]=(ks++[x]).map N.enc:=by
                rw [List.map_append,hx]
                simp [N.new,N.enc_mk,het]
               clear hrp hx r3 g5 gt gw
               simp [f0,f9,hXl,hT,hT1,appA,slOf,hbd,hs1,hmap]
               obtain ⟨p3,st3⟩:=s3
               simp only at hs3b
               cases st3 with
               | some q =>
                 have hg2:=hg0 (some q)
                 have hq':(0:Int)≤q:=by omega
                 have hbad:pp L (m'+1) .tfield p1 = .bad q:=by
                  rcases hrx.none' with ⟨q',a,e,e2,e3⟩ | ⟨k,e,e2⟩
                  · simp only [Prod.mk.injEq,Option.some.injEq] at e2
                    rw [e,e2.2]
                  · simp at e2
                 have hE2:=fun fr X h=>hE1 fr (ks++[x]) (p3,some q) X h (fun e=>by cases e) (by simp only; omega) (by simp; omega) (hRel _ _ (by rw [hpp2,hbad]; simp [PR.then]; omega))
                 simp only [rst] at hg2 hE2
                 simp [f0,rst,hg2,hq']
                 exact hE2 _ _ (by simp [f0,f1,f4,hXl])
               | none =>
                 have hok:pp L (m'+1) .tfield p1 = .ok x p3:=by
                  rcases hrx.none' with ⟨q',a,e,e2,e3⟩ | ⟨k,e,e2⟩
                  · simp at e2
                  · simp only [Prod.mk.injEq] at e2
                    rw [e,e2.1]
                 have hadv:=pp_advE hE (m'+1) .tfield p1
                 rw [hok] at hadv
                 obtain ⟨v1,v2,v3⟩:=hadv
                 have v2:=v2 rfl
                 have v3:=v3 v2
                 have gi3:=fun X=>hR.isA (z:=z) (st:=none) (X:=X) hi v3 [125]
                 have gw3:=fun X=>hR.wantA (z:=z) (s:=(p3,none)) (X:=X) hi (fun _=>v3) (by simp only; omega) [44]
                 have hg2:=hg0 none
                 cases hc:isT L p3 [125] with
                 | true =>
                   have hE2:=fun fr X h=>hE1 fr (ks++[x]) (p3,none) X h (fun _=>v3) (by simp only; omega) (by simp; omega) (hRel _ _ (by rw [hpp2,hok]; simp [PR.then,hc,N.bag,N.new]))
                   rw [hc] at gi3
                   simp only [rst] at hg2 gi3 hE2
                   simp [f0,rst,hg2]
                   refine CallK_of' (gi3 _) ?_
                   simp
                   exact hE2 _ _ (by simp [f0,f1,f4,hXl])
                 | false =>
                   rw [hc] at gi3
                   have hstp:=hpp2
                   rw [hok] at hstp
                   simp only [PR.then,hc,wantR] at hstp
                   by_cases hcm:isT L p3 [44]=true
                   · have hl4:=isT_ltE hE hcm
                     simp only [wantS_none,hcm,if_true] at gw3
                     simp only [rst] at hg2 gi3 gw3
                     simp [f0,rst,hg2]
                     refine CallK_of' (gi3 _) ?_
                     simp [f0]
                     refine CallK_of' (gw3 _) ?_
                     simp
                     refine NextM_of (H.length+2) (m'+1) (Nat.le_refl _) (by simp [hXl]) (by omega) ⟨ks++[x],(p3+1,none),by simp [f0,f1,f4,hil2],by simpa [rst] using hcut (ks++[x]) none _,.inr ⟨p3+1,rfl,hs2,by omega,?_,hl4,by omega,by simp; omega⟩⟩
                     rw [hpe,hstp,hcm,LG_snoc]
                     simp
                   · have hcm':isT L p3 [44]=false:=by simpa using hcm
                     simp only [wantS_none,hcm',Bool.false_eq_true,if_false] at gw3
                     simp only [rst] at hg2 gi3 gw3
                     simp [f0,rst,hg2]
                     refine CallK_of' (gi3 _) ?_
                     simp [f0]
                     refine CallK_of' (gw3 _) ?_
                     simp
                     refine NextM_of (H.length+2) 0 (Nat.le_refl _) (by simp [hXl]) (by omega) ⟨ks++[x],(p3,some p3),by simp [f0,f1,f4,hil2],by simpa [rst] using hcut (ks++[x]) (some p3) _,.inl ⟨rfl,by simp,by simp only; omega,by simp; omega,fun mm=>hRel _ _ ?_⟩⟩
                     rw [hstp,hcm']
                     simp [PR.then]
                     omega
     | false =>
       rw [i4] at gi4
       have g1:=fun X=>hR.wantA (z:=z) (s:=(p,none)) (X:=X) hi (fun _=>hp) (by simp only; omega) kFn
       have m1:=wantS_moE hE (rfl:wantS L kFn (p,none)=_)
       have b1:=wantS_le (rfl:wantS L kFn (p,none)=_)
       have hrel0:=fun ks t s2 s3 s4 s5=>relKFn hE (n:=n) (p:=p) (ks:=ks) (t:=t) (s2:=s2) (s3:=s3) (s4:=s4) (s5:=s5) hp i1 i2 i3 i4 rfl
       have q1:(wantS L kFn (p,none)).2=none→(wantS L kFn (p,none)).1=p+1:=by rw [wantS_none]; split<;>simp
       generalize wantS L kFn (p,none)=s1 at g1 m1 b1 hrel0 q1
       have g2:=fun X=>hR.wantA (z:=z) (s:=s1) (X:=X) hi (m1.lt (fun _=>hp)) (by simp only at b1; omega) [40]
       have m2:=m1.trans (wantS_moE hE (rfl:wantS L [40] s1=_))
       have b2:=wantS_le (rfl:wantS L [40] s1=_)
       have hrel0:=fun ks t s3 s4 s5=>hrel0 ks t (wantS L [40] s1) s3 s4 s5 rfl
       have mo:=wantS_moE hE (rfl:wantS L [40] s1=_)
       have hs0c:(wantS L [40] s1).2=none→16 * (L.length - (wantS L [40] s1).1)+9≤n:=fun e=>by
        obtain ⟨a1,a2,-⟩:=mo e
        have:=q1 a1
        omega
       clear mo
       generalize wantS L [40] s1=s2 at g2 m2 b2 hrel0 hs0c
       have hs0l:=m2.lt (fun _=>hp)
       simp only [rst] at g1
       simp [f0,f1,f4,f6,rst,zbx]
       refine CallK_of' (gi4 _) ?_
       simp [f0,f6]
       refine CallK_of' (g1 _) ?_
       simp [f0]
       refine CallK_of' (g2 _) ?_
       simp [f0]
       obtain ⟨XX,hXX⟩:∃ XX:List N→Hp,XX=fun ks=>[zbx R.tn,.tok ks.length 6 R.tn]:=⟨_,rfl⟩
       have hXl:∀ a,(XX a).length=2:=fun a=>by rw [hXX]; rfl
       obtain ⟨E,hE0⟩:∃ E:Fr→Hp→Prop,E=fun fr H'=>∃ (ks:List N) (s':PSt) (X:Hp),(fr 0 = .ptr i 0∧fr 1 = .d (.int .i64 (p:Int))∧fr 4 = .ptr H.length 0∧fr 6 = .d (.int .i64 (s'.1:Int))∧fr 9 = .osl true 6 (ks.map N.enc) (H.length+1))∧(s'.2=none→s'.1 < L.length)∧s'.1≤1125899906842624∧ks.length * 72≤70368744177664∧Rel L n (.list .kind [41]) s2 (N.bag ks) (wantS L [41] s')∧H'=H.set i (rst R.tr z L s'.2)++(XX ks++X):=⟨_,rfl⟩
       refine LoopK_outR 4 E (fun _ _=>False) ?_ (fun _ _ h=>h.elim) ?_
       rotate_left
       · intro fr H' h
         subst hE0
         obtain ⟨ks,s',X,⟨f0,f1,f4,f6,f9⟩,hlt,hb,hkb,hr,rfl⟩:=h
         have m3:=m2.trans (hr.moE hE)
         have hl3:=m3.lt (fun _=>hp)
         have b3:=hr.bnd (B:=L.length+n+3) (by simp only at b1; omega) (by omega)
         have g3:=fun X=>hR.wantA (z:=z) (s:=s') (X:=X) hi hlt hb [41]
         have hrel0:=fun t s4 s5=>hrel0 ks t _ s4 s5 hr
         generalize wantS L [41] s'=s3 at g3 hr m3 hl3 b3 hrel0
         have g4:=fun X=>hR.wantA (z:=z) (s:=s3) (X:=X) hi hl3 (by omega) [58]
         have m24:=(hr.moE hE).trans (wantS_moE hE (rfl:wantS L [58] s3=_))
         have m4:=m3.trans (wantS_moE hE (rfl:wantS L [58] s3=_))
         have b4:=wantS_le (rfl:wantS L [58] s3=_)
         have hrel0:=fun t s5=>hrel0 t _ s5 rfl
         generalize wantS L [58] s3=s4 at g4 m4 b4 hrel0 m24
         have hl4:=m4.lt (fun _=>hp)
         have g6:=fun X=>hS n (by omega) H X i s4 hi ⟨⟨by simp only [G.c]; omega,by simp only [G.c]; omega,fun e=>by
          obtain ⟨a1,a2,a3⟩:=m4 e
          have:=hl4 e
          obtain ⟨a4,a5,-⟩:=m24 e
          have:=hs0c a4
          simp only [G.c]
          exact ⟨by omega,by omega⟩⟩,hl4⟩
         simp [f0,f6]
         refine CallK_of' (g3 _) ?_
         simp [f0]
         refine CallK_of' (g4 _) ?_
         simp [f0]
         refine CallK_of (g6 _) ?_
         rintro _ _ ⟨t,s5,rfl,rfl,r5⟩
         have hrel0:=hrel0 t s5 r5
         obtain ⟨kt,ft,tt',wt',qt,zt,kst,hft,het,hvt,hbt⟩:=node_ho R.tn t
         rw [hvt]
         obtain ⟨bo,hbo⟩:∃ bo:Ob,bo = .box R.tn [.d (.int .i64 kt),.d (.int .i64 ft),.d (.int .i64 tt'),.d (.str wt'),.d (.int .i64 qt),.d (.sl zt 6 (kst.map N.enc))]:=⟨_,rfl⟩
         have g5:=fun H0=>hR.ended.rendedT 34 (p:Int) 0 [] 0 true [] (s5.1:Int) true (ks.map N.enc++[[.int .i64 kt,.int .i64 ft,.int .i64 tt',.str wt',.int .i64 qt,.sl zt 6 (kst.map N.enc)]]) H0 (H.length+1)
         simp only [ag] at g5
         simp [f1,f4,f9]
         subst hXX
         have hbd:(ks.length+1) * 72≤140737488355328:=by omega
         have hi2:i < H.length+2:=by omega
         simp [appA,slOf,hbd]
         refine CallK_of' (g5 _ (by simp)) ?_
         simp [f4,zbx]
         simp [RetK,rcut hcl,nl]
         exact fin_nodeR (z':=true) (ks++[t]) (by simp [het]) (by simp) hrel0
       have hE1:∀ fr (ks:List N) (s':PSt) (X:Hp),(fr 0 = .ptr i 0∧fr 1 = .d (.int .i64 (p:Int))∧fr 4 = .ptr H.length 0∧fr 6 = .d (.int .i64 (s'.1:Int))∧fr 9 = .osl true 6 (ks.map N.enc) (H.length+1))→(s'.2=none→s'.1 < L.length)→s'.1≤1125899906842624→ks.length * 72≤70368744177664→Rel L n (.list .kind [41]) s2 (N.bag ks) (wantS L [41] s')→E fr (H.set i (rst R.tr z L s'.2)++(XX ks++X)):=fun fr ks s' X a b c d e=>by subst hE0; exact ⟨ks,s',X,a,b,c,d,e,rfl⟩
       clear hE0
       have hcut:∀ ks st' X,Hp.cut (H.length+2) (H.set i (rst R.tr z L st')++(XX ks++X))=H.set i (rst R.tr z L st')++XX ks:=fun ks st' X=>by
        rw [rcutk hcl,hXX]; rfl
       have hcut0:∀ ks st',Hp.cut (H.length+2) (H.set i (rst R.tr z L st')++XX ks)=H.set i (rst R.tr z L st')++XX ks:=fun ks st'=>by simpa using hcut ks st' []
       have hg0:∀ st X,(H.set i (rst R.tr z L st)++X)[i]?=some (rst R.tr z L st):=fun st X=>upG hi
       have hgT:∀ (ks:List N) X,(XX ks++X)[1]?=some (.tok (ks.length) 6 R.tn):=fun ks X=>by rw [hXX]; simp
       have hgT1:∀ (ks:List N) h,(XX ks)[1]'h = .tok (ks.length) 6 R.tn:=fun ks h=>by simp [hXX]
       have hgB:∀ (ks:List N) b X,(XX ks++b :: X)[2]?=some b:=fun ks b X=>by rw [hXX]; simp
       have hgC:∀ (ks:List N) b c X,(XX ks++b :: c :: X)[3]?=some c:=fun ks b c X=>by rw [hXX]; simp
       have hsT:∀ (ks:List N) (m:N) X,(XX ks++X).set 1 (.tok (ks.length+1) 6 R.tn)=XX (ks++[m])++X:=fun ks m X=>by rw [hXX]; simp
       have hil2:i < H.length+2:=by omega
       rw [show H.set i (rst R.tr z L s2.2)++[Ob.box R.tn [.d (.int .i64 0),.d (.int .i64 0),.d (.int .i64 0),.d (.str []),.d (.int .i64 0),.d (.sl true 6 [])],.tok 0 6 R.tn]=H.set i (rst R.tr z L s2.2)++XX [] by rw [hXX]; rfl]
       refine LoopM_of (H.length+2) (fun d fr H'=>∃ (ks:List N) (s':PSt),(fr 0 = .ptr i 0∧fr 1 = .d (.int .i64 (p:Int))∧fr 4 = .ptr H.length 0∧fr 6 = .d (.int .i64 (s'.1:Int))∧fr 9 = .osl true 6 (ks.map N.enc) (H.length+1))∧H'=H.set i (rst R.tr z L s'.2)++XX ks ∧
        ((d=0∧s'.2 ≠ none∧s'.1≤1125899906842624∧ks.length * 72≤70368744177664∧∀ m,Rel L n (.list .kind [41]) s2 m s')∨∃ p1,s'=(p1,none)∧s2.2=none∧d≤n∧pp L n (.list .kind [41]) s2.1=pp L d (LG .kind [41] ks) p1∧p1 < L.length∧16 * (L.length - p1)+9≤d∧ks.length≤p1)) (match s2.2 with | none=>n | some _=>0) (by simp [hXl]) ⟨[],s2,?_⟩ ?_
       · refine ⟨by simp [hil2,f0,f1,f4],hcut0 _ _,?_⟩
         cases h0:s2.2 with
         | some q=>first | exact absurd h0 (by simp; done) | exact .inl ⟨rfl,by simp [h0],by omega,by simp,fun m=>by simp [Rel,h0,G.wt]⟩
         | none=>exact .inr ⟨s2.1,by rw [← h0],rfl,Nat.le_refl _,by simp [LG],hs0l h0,by have:=hs0c h0; omega,by simp⟩
       · rintro d fr H' ⟨ks,s',⟨f0,f1,f4,f6,f9⟩,rfl,hd⟩
         rcases hd with ⟨rfl,q1,qb,qk,q2⟩ | ⟨p1,rfl,hs2,hdn,hpe,hp1',hrk,hks⟩
         · obtain ⟨p',st'⟩:=s'
           cases st' with
           | none=>simp at q1
           | some q =>
             have hg1:=hg0 (some q)
             have hq:¬ (q:Int) < 0:=by omega
             have hE2:=fun fr h=>hE1 fr ks (p',some q) [] h (fun e=>by cases e) qb qk (q2 _)
             simp only [rst,List.append_nil] at hg1 hE2
             simp [f0,f6,rst,hg1,hq]
             exact hE2 _ (by simp [f0,f1,f4,f6,f9,hXl])
         · have hRel:∀ m s',(match pp L d (LG .kind [41] ks) p1 with | .out=>False | .bad q=>s'.2=some q∧s'.1≤L.length+n | .ok m' k=>m=m'∧s'=(k,none))→Rel L n (.list .kind [41]) s2 m s':=fun m s' h=>by
            unfold Rel
            rw [hs2]
            simp only
            rw [hpe]; exact h
           have hg1:=hg0 none
           have gi:=fun X=>hR.isA (z:=z) (st:=none) (X:=X) hi hp1' [41]
           by_cases hend:ks=[]∧isT L p1 [41]=true
           · obtain ⟨rfl,hjb⟩:=hend
             obtain ⟨d',rfl⟩:∃ d',d=d'+1:=⟨d - 1,by omega⟩
             have hE2:=fun fr h=>hE1 fr [] (p1,none) [] h (fun _=>hp1') (by simp only; omega) (by simp) (hRel _ _ (by simp [LG,pp,hjb,N.bag,N.new]))
             rw [hjb] at gi
             simp only [rst,List.append_nil] at hg1 gi hE2
             simp [f0,f6,f9,rst,hg1]
             refine CallK_of' (gi _) ?_
             simp
             exact hE2 _ (by simp [f0,f1,f4,f6,f9,hXl])
           · have hje:ks=[]→isT L p1 [41]=false:=fun e=>by
              cases h:isT L p1 [41] with
              | false=>rfl
              | true=>exact absurd ⟨e,h⟩ hend
             obtain ⟨M,hM⟩:∃ M:Fr→Hp→Prop,M=fun fr H'=>(fr 0 = .ptr i 0∧fr 1 = .d (.int .i64 (p:Int))∧fr 4 = .ptr H.length 0∧fr 6 = .d (.int .i64 (((p1,none):PSt).1:Int))∧fr 9 = .osl true 6 (ks.map N.enc) (H.length+1))∧H'=H.set i (rst R.tr z L none)++XX ks:=⟨_,rfl⟩
             have hM1:∀ fr,(fr 0 = .ptr i 0∧fr 1 = .d (.int .i64 (p:Int))∧fr 4 = .ptr H.length 0∧fr 6 = .d (.int .i64 (((p1,none):PSt).1:Int))∧fr 9 = .osl true 6 (ks.map N.enc) (H.length+1))→M fr (H.set i (rst R.tr z L none)++XX ks):=fun fr h=>by subst hM; exact ⟨h,rfl⟩
             refine Seq_mid M ?_ ?_
             · clear hM
               simp only [rst] at hg1 gi hM1
               rcases List.eq_nil_or_concat ks with hk0 | ⟨kk,kx,hk0⟩
               · rw [hje hk0] at gi
                 simp [f0,f6,f9,rst,hg1,hk0]
                 refine CallK_of' (gi _) ?_
                 rw [← hk0]
                 simp [f0,f6]
                 exact hM1 _ (by simp [f0,f1,f4,f6,f9,hXl])
               · have hkn:¬ ks=[]:=fun e=>by rw [e] at hk0; simp at hk0
                 simp [f0,f6,f9,rst,hg1,hkn]
                 exact hM1 _ (by simp [f0,f1,f4,f6,f9,hXl])
             · intro fr H' h
               subst hM
               obtain ⟨⟨f0,f1,f4,f6,f9⟩,rfl⟩:=h
               have hstep:=LG_step (L:=L) (d:=d) (one := .kind) (e:=[41]) (ks:=ks) (p:=p1) (by omega) hje
               obtain ⟨m,hm1,hm2,hpp2⟩:=hstep
               have gt:=fun X=>hS m (by omega) H X i (p1,none) hi ⟨⟨by simp only [G.c]; omega,by simp only [G.c]; omega,fun _=>⟨by simp only; omega,by simp only [G.c]; omega⟩⟩,fun _=>hp1'⟩
               simp only [rst] at hg1 gt
               simp [f0,f6,rst]
               refine CallK_of (gt _) ?_
               rintro _ _ ⟨x,s3,rfl,rfl,hrx⟩
               obtain ⟨kt,ft,tt',wt',qt,zt,kst,hft,het,hvt,hbt⟩:=node_ho R.tn x
               rw [hvt]
               obtain ⟨bo,hbo⟩:∃ bo:Ob,bo = .box R.tn [.d (.int .i64 kt),.d (.int .i64 ft),.d (.int .i64 tt'),.d (.str wt'),.d (.int .i64 qt),.d (.sl zt 6 (kst.map N.enc))]:=⟨_,rfl⟩
               have hB:=fun X=>hgB ks bo X
               rw [hbo] at hB
               have hT:=hgT ks
               have hT1:=hgT1 ks
               have hs3b:s3.1≤L.length+n:=hrx.bnd (by simp only; omega) (by omega)
               have hs1:=hsT ks x
               have hbd:(ks.length+1) * 72≤140737488355328:=by omega
               have hmap:ks.map N.enc++[[.int .i64 kt,.int .i64 ft,.int .i64 tt',.str wt',.int .i64 qt,.sl zt 6 (kst.map N.enc)]]=(ks++[x]).map N.enc:=by
                rw [List.map_append]
                simp [het]
               clear gt
               simp [f9,hXl,hB,hT,hT1,appA,slOf,hbd,hs1,hmap]
               obtain ⟨p3,st3⟩:=s3
               simp only at hs3b
               cases st3 with
               | some q =>
                 have hg2:=hg0 (some q)
                 have hq':(0:Int)≤q:=by omega
                 have hbad:pp L m .kind p1 = .bad q:=by
                  rcases hrx.none' with ⟨q',a,e,e2,e3⟩ | ⟨k,e,e2⟩
                  · simp only [Prod.mk.injEq,Option.some.injEq] at e2
                    rw [e,e2.2]
                  · simp at e2
                 have hE2:=fun fr X h=>hE1 fr (ks++[x]) (p3,some q) X h (fun e=>by cases e) (by simp only; omega) (by simp; omega) (hRel _ _ (by rw [hpp2,hbad]; simp [PR.then]; omega))
                 simp only [rst] at hg2 hE2
                 simp [f0,rst,hg2,hq']
                 exact hE2 _ _ (by simp [f0,f1,f4,hXl])
               | none =>
                 have hok:pp L m .kind p1 = .ok x p3:=by
                  rcases hrx.none' with ⟨q',a,e,e2,e3⟩ | ⟨k,e,e2⟩
                  · simp at e2
                  · simp only [Prod.mk.injEq] at e2
                    rw [e,e2.1]
                 have hadv:=pp_advE hE m .kind p1
                 rw [hok] at hadv
                 obtain ⟨v1,v2,v3⟩:=hadv
                 have v2:=v2 rfl
                 have v3:=v3 v2
                 have gi3:=fun X=>hR.isA (z:=z) (st:=none) (X:=X) hi v3 [41]
                 have gw3:=fun X=>hR.wantA (z:=z) (s:=(p3,none)) (X:=X) hi (fun _=>v3) (by simp only; omega) [44]
                 have hg2:=hg0 none
                 cases hc:isT L p3 [41] with
                 | true =>
                   have hE2:=fun fr X h=>hE1 fr (ks++[x]) (p3,none) X h (fun _=>v3) (by simp only; omega) (by simp; omega) (hRel _ _ (by rw [hpp2,hok]; simp [PR.then,hc,N.bag,N.new]))
                   rw [hc] at gi3
                   simp only [rst] at hg2 gi3 hE2
                   simp [f0,rst,hg2]
                   refine CallK_of' (gi3 _) ?_
                   simp
                   exact hE2 _ _ (by simp [f0,f1,f4,hXl])
                 | false =>
                   rw [hc] at gi3
                   have hstp:=hpp2
                   rw [hok] at hstp
                   simp only [PR.then,hc,wantR] at hstp
                   by_cases hcm:isT L p3 [44]=true
                   · have hl4:=isT_ltE hE hcm
                     simp only [wantS_none,hcm,if_true] at gw3
                     simp only [rst] at hg2 gi3 gw3
                     simp [f0,rst,hg2]
                     refine CallK_of' (gi3 _) ?_
                     simp [f0]
                     refine CallK_of' (gw3 _) ?_
                     simp
                     refine NextM_of (H.length+2) m (Nat.le_refl _) (by simp [hXl]) (by omega) ⟨ks++[x],(p3+1,none),by simp [f0,f1,f4,hil2],by simpa [rst] using hcut (ks++[x]) none _,.inr ⟨p3+1,rfl,hs2,by omega,?_,hl4,by omega,by simp; omega⟩⟩
                     rw [hpe,hstp,hcm,LG_snoc]
                     simp
                   · have hcm':isT L p3 [44]=false:=by simpa using hcm
                     simp only [wantS_none,hcm',Bool.false_eq_true,if_false] at gw3
                     simp only [rst] at hg2 gi3 gw3
                     simp [f0,rst,hg2]
                     refine CallK_of' (gi3 _) ?_
                     simp [f0]
                     refine CallK_of' (gw3 _) ?_
                     simp
                     refine NextM_of (H.length+2) 0 (Nat.le_refl _) (by simp [hXl]) (by omega) ⟨ks++[x],(p3,some p3),by simp [f0,f1,f4,hil2],by simpa [rst] using hcut (ks++[x]) (some p3) _,.inl ⟨rfl,by simp,by simp only; omega,by simp; omega,fun mm=>hRel _ _ ?_⟩⟩
                     rw [hstp,hcm']
                     simp [PR.then]
                     omega
   have hE1:∀ fr,(fr 0 = .ptr i 0∧fr 1 = .d (.int .i64 (p:Int))∧fr 4 = .ptr H.length 0∧fr 6 = .d (.int .i64 (p:Int)))→(isT L p kInt=false∧isT L p kStr=false∧isT L p kDyn=false)→E fr (H.set i (rst R.tr z L none)++[zbx R.tn]):=fun fr a b=>by subst hE0; exact ⟨a,b,rfl⟩
   have hR1:∀ fr (K:Nat),fr 4 = .ptr H.length 0→fr 5 = .d (.int .i64 ((p+1:Nat):Int))→pp L (n+1) .kind p = .ok (N.new K p (p+1) [] 0 []) (p+1)→RR fr (H.set i (rst R.tr z L none)++[.box R.tn [.d (.int .i64 K),.d (.int .i64 (p:Int)),.d (.int .i64 ((p+1:Nat):Int)),.d (.str []),.d (.int .i64 0),.d (.sl true 6 [])]]):=fun fr K a b c=>by subst hRR; exact ⟨K,a,b,c,rfl⟩
   clear hE0 hRR
   have hil1:i < H.length+1:=by omega
   have hcut1:Hp.cut (H.length+1) (H.set i (rst R.tr z L none)++[zbx R.tn])=H.set i (rst R.tr z L none)++[zbx R.tn]:=by
    rw [rcutk hcl]; rfl
   refine LoopM_of (H.length+1) (fun d fr H'=>∃ j:Nat,d=3 - j∧j≤3∧(fr 0 = .ptr i 0∧fr 1 = .d (.int .i64 (p:Int))∧fr 4 = .ptr H.length 0∧fr 6 = .d (.int .i64 (p:Int))∧fr 7 = .d (.sl false 1 [[.str kInt],[.str kStr],[.str kDyn]])∧fr 8 = .d (.int .i64 (j:Int)))∧(∀ k,k < j→isT L p (plainK k)=false)∧H'=H.set i (rst R.tr z L none)++[zbx R.tn]) 3 (by simp) ⟨0,rfl,by omega,by simp [hil1,kInt,kStr,kDyn],by simp,?_⟩ ?_
   · exact hcut1
   · rintro d fr H' ⟨j,rfl,hj,⟨f0,f1,f4,f6,f7,f8⟩,hno,rfl⟩
     have hgz:∀ X,(H.set i (rst R.tr z L none)++X)[i]?=some (rst R.tr z L none):=fun X=>hget none X
     match j,hj with
     | 0, _ =>
       have gj:=fun X=>gi kInt X
       have hrw:Zam.rowAt [[.str kInt],[.str kStr],[.str kDyn]] (0:Int)=some [.str kInt]:=rfl
       cases c:isT L p kInt with
       | true =>
         rw [c] at gj
         have hR2:=fun fr a b=>hR1 fr 29 a b (by simp [pp,c])
         simp only [rst,zbx] at hR2 gj
         simp [f0,f6,f7,f8,rst,zbx,hrw]
         refine CallK_of' (gj _) ?_
         simp [f1,f4,f6,f8,hw]
         exact hR2 _ (by simp [f4]) (by simp)
       | false =>
         rw [c] at gj
         simp [f0,f6,f7,f8,rst,zbx,hrw]
         refine CallK_of' (gj _) ?_
         simp [f8]
         refine NextM_of (H.length+1) (3 - 1) (Nat.le_refl _) (by simp) (by omega) ⟨1,rfl,by omega,by simp [f0,f1,f4,f6,f7,hil1,show IntKind.i64.wrap 1=1 from rfl],?_,by simpa [rst,zbx] using hcut1⟩
         intro k hk
         match k,hk with
         | 0,_=>exact c
     | 1, _ =>
       have hno0:isT L p kInt=false:=hno 0 (by omega)
       have gj:=fun X=>gi kStr X
       have hrw:Zam.rowAt [[.str kInt],[.str kStr],[.str kDyn]] (1:Int)=some [.str kStr]:=rfl
       cases c:isT L p kStr with
       | true =>
         rw [c] at gj
         have hR2:=fun fr a b=>hR1 fr 30 a b (by simp [pp,hno0,c])
         simp only [rst,zbx] at hR2 gj
         simp [f0,f6,f7,f8,rst,zbx,hrw]
         refine CallK_of' (gj _) ?_
         simp [f1,f4,f6,f8,hw]
         exact hR2 _ (by simp [f4]) (by simp)
       | false =>
         rw [c] at gj
         simp [f0,f6,f7,f8,rst,zbx,hrw]
         refine CallK_of' (gj _) ?_
         simp [f8]
         refine NextM_of (H.length+1) (3 - 2) (Nat.le_refl _) (by simp) (by omega) ⟨2,rfl,by omega,by simp [f0,f1,f4,f6,f7,hil1,show IntKind.i64.wrap 2=2 from rfl],?_,by simpa [rst,zbx] using hcut1⟩
         intro k hk
         match k,hk with
         | 0,_=>exact hno0
         | 1,_=>exact c
     | 2, _ =>
       have hno0:isT L p kInt=false:=hno 0 (by omega)
       have hno1:isT L p kStr=false:=hno 1 (by omega)
       have gj:=fun X=>gi kDyn X
       have hrw:Zam.rowAt [[.str kInt],[.str kStr],[.str kDyn]] (2:Int)=some [.str kDyn]:=rfl
       cases c:isT L p kDyn with
       | true =>
         rw [c] at gj
         have hR2:=fun fr a b=>hR1 fr 31 a b (by simp [pp,hno0,hno1,c])
         simp only [rst,zbx] at hR2 gj
         simp [f0,f6,f7,f8,rst,zbx,hrw]
         refine CallK_of' (gj _) ?_
         simp [f1,f4,f6,f8,hw]
         exact hR2 _ (by simp [f4]) (by simp)
       | false =>
         rw [c] at gj
         simp [f0,f6,f7,f8,rst,zbx,hrw]
         refine CallK_of' (gj _) ?_
         simp [f8]
         refine NextM_of (H.length+1) (3 - 3) (Nat.le_refl _) (by simp) (by omega) ⟨3,rfl,by omega,by simp [f0,f1,f4,f6,f7,hil1,show IntKind.i64.wrap 3=3 from rfl],?_,by simpa [rst,zbx] using hcut1⟩
         intro k hk
         match k,hk with
         | 0,_=>exact hno0
         | 1,_=>exact hno1
         | 2,_=>exact c
     | 3, _ =>
       have hE2:=fun fr a=>hE1 fr a ⟨hno 0 (by omega),hno 1 (by omega),hno 2 (by omega)⟩
       simp only [rst,zbx] at hE2
       simp [f8,rst,zbx]
       exact hE2 _ (by simp [f0,f1,f4,f6])
end
end
section
theorem relGroup {L:List Tk} (hE:EndsL L) {n p:Nat} {x:N} {s1:PSt} (hn:1≤n) (hpe:pp L (n+1) .atom p=(pp L n .expr (p+1)).then fun x j=>wantR L j [41] fun _ => .ok (N.new 25 p ((j+1:Nat):Int) [] 0 [x]) (j+1)) (r:Rel L n .expr (p+1,none) x s1):Rel L (n+1) .atom (p,none) (N.new 25 p (wantS L [41] s1).1 [] 0 [x]) (wantS L [41] s1):=by
 simp only [Rel,hpe]
 rcases r.none' with ⟨q,a,e,rfl,e3⟩ | ⟨k,e,rfl⟩
 · simp [e,PR.then]; omega
 · have ha:=pp_advE hE n .expr (p+1)
   rw [e] at ha
   have hk:=ha.2.2 (ha.2.1 rfl)
   by_cases c:isT L k [41]=true
   · simp [e,PR.then,wantR,c]
   · simp [e,PR.then,wantR,c]; omega
theorem relLam {L:List Tk} (hE:EndsL L) {n p:Nat} {t1 t2 t3:N} {s1 s2:PSt} (hp:p < L.length) (hn:1≤n) (hpe:pp L (n+1) .atom p=wantR L p kFn fun _=>(pp L n .params (p+1)).then fun p' j=>(pp L n .typed j).then fun t j=>(pp L n .block j).then fun b j => .ok (N.new 28 p j [] 0 [p',t,b]) j) (h1:wantS L kFn (p,none)=s1) (h2:LamRel L n s1 t1 t2 t3 s2):Rel L (n+1) .atom (p,none) (N.new 28 p s2.1 [] 0 [t1,t2,t3]) s2:=by
 obtain ⟨u1,u2,r1,r2,r3⟩:=h2
 simp only [Rel,hpe,wantR]
 by_cases c1:isT L p kFn=true
 case neg =>
  simp only [wantS_none,c1] at h1
  subst h1
  simp only [Bool.false_eq_true,if_false] at r1
  obtain ⟨a,rfl,e3⟩:=r1.some'
  obtain ⟨b,rfl,e4⟩:=r2.some'
  obtain ⟨c,rfl,e5⟩:=r3.some'
  simp only [G.wt] at e3 e4 e5
  simp [c1]; omega
 simp only [wantS_none,c1,if_true] at h1
 subst h1
 rcases r1.none' with ⟨q,a,e,rfl,e3⟩ | ⟨k,e,rfl⟩
 · obtain ⟨b,rfl,e4⟩:=r2.some'
   obtain ⟨c,rfl,e5⟩:=r3.some'
   simp only [G.wt] at e4 e5
   simp [c1,e,PR.then]; omega
 rcases r2.none' with ⟨q,a,e',rfl,e4⟩ | ⟨k',e',rfl⟩
 · obtain ⟨c,rfl,e5⟩:=r3.some'
   simp only [G.wt] at e5
   simp [c1,e,e',PR.then]; omega
 rcases r3.none' with ⟨q,a,e'',rfl,e5⟩ | ⟨k'',e'',rfl⟩
 · simp [c1,e,e',e'',PR.then]; omega
 · simp [c1,e,e',e'',PR.then]
section
variable {P:Program} {R:RF} {z:Bool} {L:List Tk}
theorem RHas.atom' (hR:RHas P R) (hx:HasT P [11] R.atom (irR7Atom R.is R.expr R.want R.ended R.word R.lambda R.tn R.tt)) (hE:EndsL L) (hL:L.length≤1048576) (n:Nat) (hn:n≤1099511627776) (hS:∀ m,m < n+1→UR P R.tr z L m .expr R.expr) (hPa:UR P R.tr z L n .params R.params) (hTy:UR P R.tr z L n .typed R.typed) (hBl:UR P R.tr z L n .block R.block):UR P R.tr z L (n+1) .atom R.atom:=by
 refine UR_of fun H i s hi hpp => ?_
 obtain ⟨fn,hf,hcf⟩:=hx
 refine acall_norm (acall_fin hf hcf (by simp [irR7Atom]) fun hcl _ => ?_)
 have hp0:=hpp.1.1
 simp only [G.c] at hp0
 obtain ⟨p,st⟩:=s
 have hget:∀ st X,(H.set i (rst R.tr z L st)++X)[i]?=some (rst R.tr z L st):=fun st X=>upG hi
 have hcc:∀ st' X,Hp.cut H.length (H.set i (rst R.tr z L st')++X)=H.set i (rst R.tr z L st'):=fun st' X=>rcut hcl
 simp only at hp0
 have hw:IntKind.i64.wrap ((p:Int)+1)=((p+1:Nat):Int):=by rw [wrap_i64 (by omega) (by omega)]; omega
 cases st with
 | some q =>
   have hq':(0:Int)≤q:=by omega
   have hg1:=hget (some q)
   have hc1:=hcc (some q)
   simp only [rst] at hg1 hc1
   simp [irR7Atom,rst,hg1,hq']
   simp [RetK,hc1,rst,nl]
   have hrel:=fin_nodeR (tr:=R.tr) (z:=z) (L:=L) (H:=H) (i:=i) (z':=true) (n:=n+1) (g := .atom) (s:=(p,some q)) (s':=(p,some q)) (k:=0) (f:=0) (t:=0) (a:=0) (w:=[]) [] (rows:=[]) rfl (by simp) (by simp [Rel])
   simpa [rst] using hrel
 | none =>
   have hp:p < L.length:=hpp.2 rfl
   obtain ⟨hp1,hp2⟩:=hpp.1.2.2 rfl
   simp only [G.c] at hp1 hp2
   have hg1:=hget none
   have hc1:=hcc none
   simp only [rst] at hg1 hc1
   have gi:=fun x X=>hR.isA (z:=z) (st:=none) (X:=X) hi hp x
   simp only [rst] at gi
   have hA:=get_app (set_get hi (rst R.tr z L none))
   simp only [rst] at hA
   have hr:=rowAt_map encTk hp
   have hg:L[p]?=some L[p]:=List.getElem?_eq_getElem hp
   have hkd:kdT L p=L[p].k:=by unfold kdT; rw [hg]
   have htx:txT L p=L[p].x:=by unfold txT; rw [hg]
   generalize L[p]=tk at hr hkd htx
   obtain ⟨kk,ta,tl,y⟩:=tk
   simp only [encTk] at hr hkd htx
   by_cases k3:kk=3
   · subst k3
     simp [irR7Atom,rst,hg1,hr,hw]
     simp [RetK,hc1,rst,nl]
     have hrel:=fin_nodeR (tr:=R.tr) (z:=z) (L:=L) (H:=H) (i:=i) (z':=true) (n:=n+1) (g := .atom) (s:=(p,none)) (s':=(p+1,none)) (k:=21) (f:=p) (t:=((p+1:Nat):Int)) (a:=p) (w:=y) [] (rows:=[]) rfl (by simp) (by simp [Rel,pp,hkd,htx])
     simpa [rst] using hrel
   by_cases k4:kk=4
   · subst k4
     simp [irR7Atom,rst,hg1,hr,hw]
     simp [RetK,hc1,rst,nl]
     have hrel:=fin_nodeR (tr:=R.tr) (z:=z) (L:=L) (H:=H) (i:=i) (z':=true) (n:=n+1) (g := .atom) (s:=(p,none)) (s':=(p+1,none)) (k:=22) (f:=p) (t:=((p+1:Nat):Int)) (a:=p) (w:=y) [] (rows:=[]) rfl (by simp) (by simp [Rel,pp,hkd,htx])
     simpa [rst] using hrel
   by_cases k1:kk=1
   · subst k1
     simp [irR7Atom,rst,hg1,hr,hw]
     simp [RetK,hc1,rst,nl]
     have hrel:=fin_nodeR (tr:=R.tr) (z:=z) (L:=L) (H:=H) (i:=i) (z':=true) (n:=n+1) (g := .atom) (s:=(p,none)) (s':=(p+1,none)) (k:=23) (f:=p) (t:=((p+1:Nat):Int)) (a:=p) (w:=y) [] (rows:=[]) rfl (by simp) (by simp [Rel,pp,hkd,htx])
     simpa [rst] using hrel
   have hno:¬ kdT L p=3∧¬ kdT L p=4∧¬ kdT L p=1:=by rw [hkd]; exact ⟨k3,k4,k1⟩
   obtain ⟨n3,n4,n1⟩:=hno
   by_cases cI:isT L p kInput=true
   · simp [irR7Atom,rst,hg1,hr,hw,k1,k3,k4]
     refine CallK_of' (gi kInput _) ?_
     simp [cI,hw]
     simp [RetK,hc1,rst,nl]
     have hrel:=fin_nodeR (tr:=R.tr) (z:=z) (L:=L) (H:=H) (i:=i) (z':=true) (n:=n+1) (g := .atom) (s:=(p,none)) (s':=(p+1,none)) (k:=24) (f:=p) (t:=((p+1:Nat):Int)) (a:=0) (w:=[]) [] (rows:=[]) rfl (by simp) (by simp [Rel,pp,n3,n4,n1,cI])
     simpa [rst] using hrel
   have cI:isT L p kInput=false:=by simpa using cI
   by_cases cG:isT L p [40]=true
   · have l1:=isT_ltE hE cG
     have gE:=fun X=>hS n (by omega) H X i (p+1,none) hi ⟨⟨by simp only [G.c]; omega,by simp only [G.c]; omega,fun _=>⟨by simp only; omega,by simp only [G.c]; omega⟩⟩,fun _=>l1⟩
     simp only [rst] at gE
     simp [irR7Atom,rst,hg1,hr,hw,k1,k3,k4]
     refine CallK_of' (gi kInput _) ?_
     simp [cI]
     refine CallK_of' (gi [40] _) ?_
     simp [cG,hw]
     refine CallK_of (gE _) ?_
     rintro _ _ ⟨x,s1,rfl,rfl,r1⟩
     have hs1:=(r1.moE hE).lt (fun _=>l1)
     have b1:=r1.bnd (B:=L.length+n+3) (by simp only; omega) (by omega)
     obtain ⟨kx,fx,tx,wx,qx,zx,ksx,hfx,hex,hvx,hbx⟩:=node_ho R.tn x
     rw [hvx]
     have gw:=fun X=>hR.wantA (z:=z) (s:=s1) (X:=X) hi hs1 (by omega) [41]
     have hrel0:=relGroup hE (by omega) (by simp [pp,n3,n4,n1,cI,cG]) r1
     generalize wantS L [41] s1=s2 at gw hrel0
     simp
     refine CallK_of' (gw _) ?_
     simp
     have g5:=fun H0=>hR.ended.rended 25 p 0 [] 0 true [] (s2.1:Int) false [[.int .i64 kx,.int .i64 fx,.int .i64 tx,.str wx,.int .i64 qx,.sl zx 6 (ksx.map N.enc)]] H0
     simp only [ag] at g5
     refine CallK_of' (g5 _) ?_
     simp
     simp [RetK,hcc,nl]
     exact fin_nodeR (z':=false) [x] (by simp [hex]) (by simp) hrel0
   have cG:isT L p [40]=false:=by simpa using cG
   by_cases cR:isT L p [123]=true
   · have l1:=isT_ltE hE cR
     simp [irR7Atom,rst,hg1,hr,hw,k1,k3,k4]
     refine CallK_of' (gi kInput _) ?_
     simp [cI]
     refine CallK_of' (gi [40] _) ?_
     simp [cG]
     refine CallK_of' (gi [123] _) ?_
     simp [cR,hw]
     have hs0l:(((p+1,none):PSt)).2=none→((p+1,none):PSt).1 < L.length:=fun _=>l1
     have hs0c:((p+1,none):PSt).2=none→16 * (L.length - ((p+1,none):PSt).1)+9≤n:=fun _=>by simp only; omega
     obtain ⟨XX,hXX⟩:∃ XX:List N→Hp,XX=fun ks=>[.box R.tn [.d (.int .i64 0),.d (.int .i64 0),.d (.int .i64 0),.d (.str []),.d (.int .i64 0),.d (.sl true 6 [])],.box R.tn [.d (.int .i64 0),.d (.int .i64 (p:Int)),.d (.int .i64 ((p:Int)+1)),.d (.str y),.d (.int .i64 (p:Int)),.d (.sl true 6 [])],.box R.tt [.d (.int .i64 kk),.d (.int .i64 ta),.d (.str tl),.d (.str y)],.tok ks.length 6 R.tn]:=⟨_,rfl⟩
     have hXl:∀ a,(XX a).length=4:=fun a=>by rw [hXX]; rfl
     obtain ⟨E,hE0⟩:∃ E:Fr→Hp→Prop,E=fun fr H'=>∃ (ks:List N) (s':PSt) (X:Hp),(fr 0 = .ptr i 0∧fr 1 = .d (.int .i64 (p:Int))∧fr 4 = .ptr H.length 0∧fr 6 = .d (.int .i64 (s'.1:Int))∧fr 11 = .osl true 6 (ks.map N.enc) (H.length+3))∧(s'.2=none→s'.1 < L.length)∧s'.1≤1125899906842624∧ks.length * 72≤70368744177664∧Rel L n (.list .entry [125]) ((p+1,none):PSt) (N.bag ks) (wantS L [125] s')∧H'=H.set i (rst R.tr z L s'.2)++(XX ks++X):=⟨_,rfl⟩
     refine LoopK_outR 1 E (fun _ _=>False) ?_ (fun _ _ h=>h.elim) ?_
     rotate_left
     · intro fr H' h
       subst hE0
       obtain ⟨ks,s',X,⟨f0,f1,f4,f6,f11⟩,hlt,hb,hkb,hr,rfl⟩:=h
       have g2:=fun X=>hR.wantA (z:=z) (s:=s') (X:=X) hi hlt hb [125]
       generalize wantS L [125] s'=s2 at g2 hr
       simp [f0,f6]
       refine CallK_of' (g2 _) ?_
       have g5:=fun H0=>hR.ended.rendedT 26 (p:Int) 0 [] 0 true [] (s2.1:Int) true (ks.map N.enc) H0 (H.length+3)
       simp only [ag] at g5
       simp [f1,f11,hXl]
       refine CallK_of' (g5 _ (by simp [hXl]; omega)) ?_
       subst hXX
       simp [f4]
       simp [RetK,hcc,nl]
       exact fin_nodeR (z':=true) ks rfl (fun _=>rfl) (relIn (by simp [pp,n3,n4,n1,cI,cG,cR]) hr)
     have hE1:∀ fr (ks:List N) (s':PSt) (X:Hp),(fr 0 = .ptr i 0∧fr 1 = .d (.int .i64 (p:Int))∧fr 4 = .ptr H.length 0∧fr 6 = .d (.int .i64 (s'.1:Int))∧fr 11 = .osl true 6 (ks.map N.enc) (H.length+3))→(s'.2=none→s'.1 < L.length)→s'.1≤1125899906842624→ks.length * 72≤70368744177664→Rel L n (.list .entry [125]) ((p+1,none):PSt) (N.bag ks) (wantS L [125] s')→E fr (H.set i (rst R.tr z L s'.2)++(XX ks++X)):=fun fr ks s' X a b c d e=>by subst hE0; exact ⟨ks,s',X,a,b,c,d,e,rfl⟩
     clear hE0
     have hcut:∀ ks st' X,Hp.cut (H.length+4) (H.set i (rst R.tr z L st')++(XX ks++X))=H.set i (rst R.tr z L st')++XX ks:=fun ks st' X=>by
      rw [rcutk hcl,hXX]; rfl
     have hcut0:∀ ks st',Hp.cut (H.length+4) (H.set i (rst R.tr z L st')++XX ks)=H.set i (rst R.tr z L st')++XX ks:=fun ks st'=>by simpa using hcut ks st' []
     have hg0:∀ st X,(H.set i (rst R.tr z L st)++X)[i]?=some (rst R.tr z L st):=fun st X=>upG hi
     have hgT:∀ (ks:List N) X,(XX ks++X)[3]?=some (.tok (ks.length) 6 R.tn):=fun ks X=>by rw [hXX]; simp
     have hgT1:∀ (ks:List N) h,(XX ks)[3]'h = .tok (ks.length) 6 R.tn:=fun ks h=>by simp [hXX]
     have hgB:∀ (ks:List N) b X,(XX ks++b :: X)[4]?=some b:=fun ks b X=>by rw [hXX]; simp
     have hgC:∀ (ks:List N) b c X,(XX ks++b :: c :: X)[5]?=some c:=fun ks b c X=>by rw [hXX]; simp
     have hsT:∀ (ks:List N) (m:N) X,(XX ks++X).set 3 (.tok (ks.length+1) 6 R.tn)=XX (ks++[m])++X:=fun ks m X=>by rw [hXX]; simp
     have hil2:i < H.length+4:=by omega
     rw [show H.set i (.box R.tr [.d (.sl z 4 (L.map encTk)),.d (.int .i64 (-1))])++[.box R.tn [.d (.int .i64 0),.d (.int .i64 0),.d (.int .i64 0),.d (.str []),.d (.int .i64 0),.d (.sl true 6 [])],.box R.tn [.d (.int .i64 0),.d (.int .i64 (p:Int)),.d (.int .i64 ((p:Int)+1)),.d (.str y),.d (.int .i64 (p:Int)),.d (.sl true 6 [])],.box R.tt [.d (.int .i64 kk),.d (.int .i64 ta),.d (.str tl),.d (.str y)],.tok 0 6 R.tn]=H.set i (rst R.tr z L none)++XX [] by rw [hXX]; rfl]
     refine LoopM_of (H.length+4) (fun d fr H'=>∃ (ks:List N) (s':PSt),(fr 0 = .ptr i 0∧fr 1 = .d (.int .i64 (p:Int))∧fr 4 = .ptr H.length 0∧fr 6 = .d (.int .i64 (s'.1:Int))∧fr 11 = .osl true 6 (ks.map N.enc) (H.length+3))∧H'=H.set i (rst R.tr z L s'.2)++XX ks ∧
      ((d=0∧s'.2 ≠ none∧s'.1≤1125899906842624∧ks.length * 72≤70368744177664∧∀ m,Rel L n (.list .entry [125]) ((p+1,none):PSt) m s')∨∃ p1,s'=(p1,none)∧((p+1,none):PSt).2=none∧d≤n∧pp L n (.list .entry [125]) ((p+1,none):PSt).1=pp L d (LG .entry [125] ks) p1∧p1 < L.length∧16 * (L.length - p1)+9≤d∧ks.length≤p1)) (match ((p+1,none):PSt).2 with | none=>n | some _=>0) (by simp [hXl]) ⟨[],((p+1,none):PSt),?_⟩ ?_
     · refine ⟨by simp [hil2,id],hcut0 _ _,?_⟩
       cases h0:((p+1,none):PSt).2 with
       | some q=>first | exact absurd h0 (by simp; done) | exact .inl ⟨rfl,by simp [h0],by omega,by simp,fun m=>by simp [Rel,h0,G.wt]⟩
       | none=>exact .inr ⟨((p+1,none):PSt).1,by rw [← h0],rfl,Nat.le_refl _,by simp [LG],hs0l h0,by have:=hs0c h0; omega,by simp⟩
     · rintro d fr H' ⟨ks,s',⟨f0,f1,f4,f6,f11⟩,rfl,hd⟩
       rcases hd with ⟨rfl,q1,qb,qk,q2⟩ | ⟨p1,rfl,hs2,hdn,hpe,hp1',hrk,hks⟩
       · obtain ⟨p',st'⟩:=s'
         cases st' with
         | none=>simp at q1
         | some q =>
           have hg1:=hg0 (some q)
           have hq:¬ (q:Int) < 0:=by omega
           have hE2:=fun fr h=>hE1 fr ks (p',some q) [] h (fun e=>by cases e) qb qk (q2 _)
           simp only [rst,List.append_nil] at hg1 hE2
           simp [f0,f6,rst,hg1,hq]
           exact hE2 _ (by simp [f0,f1,f4,f6,f11,hXl])
       · have hRel:∀ m s',(match pp L d (LG .entry [125] ks) p1 with | .out=>False | .bad q=>s'.2=some q∧s'.1≤L.length+n | .ok m' k=>m=m'∧s'=(k,none))→Rel L n (.list .entry [125]) ((p+1,none):PSt) m s':=fun m s' h=>by
          unfold Rel
          rw [hs2]
          simp only
          rw [hpe]; exact h
         have hg1:=hg0 none
         have gi:=fun X=>hR.isA (z:=z) (st:=none) (X:=X) hi hp1' [125]
         by_cases hend:ks=[]∧isT L p1 [125]=true
         · obtain ⟨rfl,hjb⟩:=hend
           obtain ⟨d',rfl⟩:∃ d',d=d'+1:=⟨d - 1,by omega⟩
           have hE2:=fun fr h=>hE1 fr [] (p1,none) [] h (fun _=>hp1') (by simp only; omega) (by simp) (hRel _ _ (by simp [LG,pp,hjb,N.bag,N.new]))
           rw [hjb] at gi
           simp only [rst,List.append_nil] at hg1 gi hE2
           simp [f0,f6,f11,rst,hg1]
           refine CallK_of' (gi _) ?_
           simp
           exact hE2 _ (by simp [f0,f1,f4,f6,f11,hXl])
         · have hje:ks=[]→isT L p1 [125]=false:=fun e=>by
            cases h:isT L p1 [125] with
            | false=>rfl
            | true=>exact absurd ⟨e,h⟩ hend
           obtain ⟨M,hM⟩:∃ M:Fr→Hp→Prop,M=fun fr H'=>(fr 0 = .ptr i 0∧fr 1 = .d (.int .i64 (p:Int))∧fr 4 = .ptr H.length 0∧fr 6 = .d (.int .i64 (((p1,none):PSt).1:Int))∧fr 11 = .osl true 6 (ks.map N.enc) (H.length+3))∧H'=H.set i (rst R.tr z L none)++XX ks:=⟨_,rfl⟩
           have hM1:∀ fr,(fr 0 = .ptr i 0∧fr 1 = .d (.int .i64 (p:Int))∧fr 4 = .ptr H.length 0∧fr 6 = .d (.int .i64 (((p1,none):PSt).1:Int))∧fr 11 = .osl true 6 (ks.map N.enc) (H.length+3))→M fr (H.set i (rst R.tr z L none)++XX ks):=fun fr h=>by subst hM; exact ⟨h,rfl⟩
           refine Seq_mid M ?_ ?_
           · clear hM
             simp only [rst] at hg1 gi hM1
             rcases List.eq_nil_or_concat ks with hk0 | ⟨kk,kx,hk0⟩
             · rw [hje hk0] at gi
               simp [f0,f6,f11,rst,hg1,hk0]
               refine CallK_of' (gi _) ?_
               rw [← hk0]
               simp [f0,f6]
               exact hM1 _ (by simp [f0,f1,f4,f6,f11,hXl])
             · have hkn:¬ ks=[]:=fun e=>by rw [e] at hk0; simp at hk0
               simp [f0,f6,f11,rst,hg1,hkn]
               exact hM1 _ (by simp [f0,f1,f4,f6,f11,hXl])
           · intro fr H' h
             subst hM
             obtain ⟨⟨f0,f1,f4,f6,f11⟩,rfl⟩:=h
             have hstep:=LG_step (L:=L) (d:=d) (one := .entry) (e:=[125]) (ks:=ks) (p:=p1) (by omega) hje
             obtain ⟨m,hm1,hm2,hpp2⟩:=hstep
             obtain ⟨m',rfl⟩:∃ m',m=m'+1:=⟨m - 1,by omega⟩
             have gw:=fun X=>hR.wordA (z:=z) (s:=(p1,none)) (X:=X) hi (fun _=>hp1') (by simp only; omega) 27 p1 0 [] 0 true []
             have hrp:=fun t s3=>relEntry (L:=L) hE (n:=m') (p:=p1) (t:=t) (s3:=s3) (by omega) hp1'
             generalize h2:wordS L (p1,none)=s2 at gw hrp
             have b2:=wordS_le h2
             have m2:=wordS_moE hE h2
             have hlt2:=m2.lt (fun _=>hp1')
             simp only at gw b2
             have gv:=fun X=>hR.wantA (z:=z) (s:=s2) (X:=X) hi hlt2 (by omega) [58]
             generalize h2v:wantS L [58] s2=s2v at gv hrp
             have b2:=Nat.le_trans (wantS_le h2v) (Nat.succ_le_succ b2)
             have m2:=m2.trans (wantS_moE hE h2v)
             have hlt2:=m2.lt (fun _=>hp1')
             simp only [rst] at gv
             have gt:=fun X=>hS m' (by omega) H X i s2v hi ⟨⟨by simp only [G.c]; omega,by simp only [G.c]; omega,fun e=>by
              obtain ⟨a1,a2,a3⟩:=m2 e
              have:=hlt2 e
              simp only at a2
              simp only [G.c]
              exact ⟨by omega,by omega⟩⟩,hlt2⟩
             generalize (if wordOkB L (p1,none)=true then txT L p1 else [])=W at gw hrp
             generalize (if wordOkB L (p1,none)=true then (p1:Int) else 0)=Q at gw hrp
             simp only [rst,ag] at hg1 gw gt
             simp [f0,f6,rst]
             refine CallK_of' (gw _) ?_
             simp [f0]
             refine CallK_of' (gv _) ?_
             simp [f0]
             refine CallK_of (gt _) ?_
             rintro _ _ ⟨t,s3,rfl,rfl,r3⟩
             obtain ⟨kt,ft,tt',wt',qt,zt,kst,hft,het,hvt,hbt⟩:=node_ho R.tn t
             rw [hvt]
             obtain ⟨bo,hbo⟩:∃ bo:Ob,bo = .box R.tn [.d (.int .i64 27),.d (.int .i64 (p1:Int)),.d (.int .i64 0),.d (.str W),.d (.int .i64 Q),.d (.sl true 6 [])]:=⟨_,rfl⟩
             obtain ⟨co,hco⟩:∃ co:Ob,co = .box R.tn [.d (.int .i64 kt),.d (.int .i64 ft),.d (.int .i64 tt'),.d (.str wt'),.d (.int .i64 qt),.d (.sl zt 6 (kst.map N.enc))]:=⟨_,rfl⟩
             have hB:=fun X=>hgB ks bo X
             have hC:=fun X=>hgC ks bo co X
             rw [hbo] at hB
             rw [hbo,hco] at hC
             have hT:=hgT ks
             have hT1:=hgT1 ks
             have g5:=fun H0=>hR.ended.rended 27 p1 0 W Q true [] (s3.1:Int) false [t.enc] H0
             rw [het] at g5
             simp only [ag] at g5
             simp [f0,f11,hXl,hB,hC]
             refine CallK_of' (g5 _) ?_
             have hs3b:s3.1≤L.length+(m'+1):=by have:=r3.bnd (B:=L.length+(m'+1)) (by omega) (by omega); omega
             obtain ⟨x,hx⟩:∃ x:N,x=N.new 27 p1 s3.1 W Q [t]:=⟨_,rfl⟩
             have hrx:Rel L (m'+1) .entry (p1,none) x s3:=by rw [hx]; exact hrp t s3 r3 hs3b
             have hs1:=hsT ks x
             have hbd:(ks.length+1) * 72≤140737488355328:=by omega
             have hmap:ks.map N.enc++[[.int .i64 27,.int .i64 (p1:Int),.int .i64 (s3.1:Int),.str W,.int .i64 Q,.sl false 6 [[.int .i64 kt,.int .i64 ft,.int .i64 tt',.str wt',.int .i64 qt,.sl zt 6 (kst.map N.enc)]]]]=(ks++[x]).map N.enc:=by
              rw [List.map_append,hx]
              simp [N.new,N.enc_mk,het]
             clear hrp hx r3 g5 gt gw
             simp [f0,f11,hXl,hT,hT1,appA,slOf,hbd,hs1,hmap]
             obtain ⟨p3,st3⟩:=s3
             simp only at hs3b
             cases st3 with
             | some q =>
               have hg2:=hg0 (some q)
               have hq':(0:Int)≤q:=by omega
               have hbad:pp L (m'+1) .entry p1 = .bad q:=by
                rcases hrx.none' with ⟨q',a,e,e2,e3⟩ | ⟨k,e,e2⟩
                · simp only [Prod.mk.injEq,Option.some.injEq] at e2
                  rw [e,e2.2]
                · simp at e2
               have hE2:=fun fr X h=>hE1 fr (ks++[x]) (p3,some q) X h (fun e=>by cases e) (by simp only; omega) (by simp; omega) (hRel _ _ (by rw [hpp2,hbad]; simp [PR.then]; omega))
               simp only [rst] at hg2 hE2
               simp [f0,rst,hg2,hq']
               exact hE2 _ _ (by simp [f0,f1,f4,hXl])
             | none =>
               have hok:pp L (m'+1) .entry p1 = .ok x p3:=by
                rcases hrx.none' with ⟨q',a,e,e2,e3⟩ | ⟨k,e,e2⟩
                · simp at e2
                · simp only [Prod.mk.injEq] at e2
                  rw [e,e2.1]
               have hadv:=pp_advE hE (m'+1) .entry p1
               rw [hok] at hadv
               obtain ⟨v1,v2,v3⟩:=hadv
               have v2:=v2 rfl
               have v3:=v3 v2
               have gi3:=fun X=>hR.isA (z:=z) (st:=none) (X:=X) hi v3 [125]
               have gw3:=fun X=>hR.wantA (z:=z) (s:=(p3,none)) (X:=X) hi (fun _=>v3) (by simp only; omega) [44]
               have hg2:=hg0 none
               cases hc:isT L p3 [125] with
               | true =>
                 have hE2:=fun fr X h=>hE1 fr (ks++[x]) (p3,none) X h (fun _=>v3) (by simp only; omega) (by simp; omega) (hRel _ _ (by rw [hpp2,hok]; simp [PR.then,hc,N.bag,N.new]))
                 rw [hc] at gi3
                 simp only [rst] at hg2 gi3 hE2
                 simp [f0,rst,hg2]
                 refine CallK_of' (gi3 _) ?_
                 simp
                 exact hE2 _ _ (by simp [f0,f1,f4,hXl])
               | false =>
                 rw [hc] at gi3
                 have hstp:=hpp2
                 rw [hok] at hstp
                 simp only [PR.then,hc,wantR] at hstp
                 by_cases hcm:isT L p3 [44]=true
                 · have hl4:=isT_ltE hE hcm
                   simp only [wantS_none,hcm,if_true] at gw3
                   simp only [rst] at hg2 gi3 gw3
                   simp [f0,rst,hg2]
                   refine CallK_of' (gi3 _) ?_
                   simp [f0]
                   refine CallK_of' (gw3 _) ?_
                   simp
                   refine NextM_of (H.length+4) (m'+1) (Nat.le_refl _) (by simp [hXl]) (by omega) ⟨ks++[x],(p3+1,none),by simp [f0,f1,f4,hil2],by simpa [rst] using hcut (ks++[x]) none _,.inr ⟨p3+1,rfl,hs2,by omega,?_,hl4,by omega,by simp; omega⟩⟩
                   rw [hpe,hstp,hcm,LG_snoc]
                   simp
                 · have hcm':isT L p3 [44]=false:=by simpa using hcm
                   simp only [wantS_none,hcm',Bool.false_eq_true,if_false] at gw3
                   simp only [rst] at hg2 gi3 gw3
                   simp [f0,rst,hg2]
                   refine CallK_of' (gi3 _) ?_
                   simp [f0]
                   refine CallK_of' (gw3 _) ?_
                   simp
                   refine NextM_of (H.length+4) 0 (Nat.le_refl _) (by simp [hXl]) (by omega) ⟨ks++[x],(p3,some p3),by simp [f0,f1,f4,hil2],by simpa [rst] using hcut (ks++[x]) (some p3) _,.inl ⟨rfl,by simp,by simp only; omega,by simp; omega,fun mm=>hRel _ _ ?_⟩⟩
                   rw [hstp,hcm']
                   simp [PR.then]
                   omega
   have cR:isT L p [123]=false:=by simpa using cR
   have g1:=fun X=>hR.wantA (z:=z) (s:=(p,none)) (X:=X) hi (fun _=>hp) (by simp only; omega) kFn
   have m1:=wantS_moE hE (rfl:wantS L kFn (p,none)=_)
   have b1:=wantS_le (rfl:wantS L kFn (p,none)=_)
   have hrel0:=fun t1 t2 t3 s2=>relLam hE (n:=n) (p:=p) (t1:=t1) (t2:=t2) (t3:=t3) (s2:=s2) hp (by omega) (by simp [pp,n3,n4,n1,cI,cG,cR]) rfl
   have q1:(wantS L kFn (p,none)).2=none→(wantS L kFn (p,none)).1=p+1:=by rw [wantS_none]; split<;>simp
   generalize wantS L kFn (p,none)=s1 at g1 m1 b1 hrel0 q1
   have hl1:=m1.lt (fun _=>hp)
   simp only [rst] at g1
   simp [irR7Atom,rst,hg1,hr,hw,k1,k3,k4]
   refine CallK_of' (gi kInput _) ?_
   simp [cI]
   refine CallK_of' (gi [40] _) ?_
   simp [cG]
   refine CallK_of' (gi [123] _) ?_
   simp [cR]
   refine CallK_of' (g1 _) ?_
   simp
   have gl:=fun X=>hR.lambda' (z:=z) (X:=X) (s:=s1) hE hL n hn hPa hTy hBl hi (by simp only at b1; omega) (by omega) (fun e=>by
    obtain ⟨a1,a2,a3⟩:=m1 e
    have:=hl1 e
    have:=q1 e
    exact ⟨by omega,by omega⟩)
   simp only [rst] at gl
   refine CallK_of (gl _) ?_
   rintro _ _ ⟨t1,t2,t3,s2,rfl,rfl,r2⟩
   have hrel0:=hrel0 t1 t2 t3 s2 r2
   have g5:=fun H0=>hR.ended.rended 28 p 0 [] 0 true [] (s2.1:Int) false [t1.enc,t2.enc,t3.enc] H0
   simp only [ag] at g5
   have hc2:=fun X=>hcc s2.2 X
   simp only [rst] at hc2
   simp
   refine CallK_of' (g5 _) ?_
   simp
   simp [RetK,hc2,nl]
   have hrel:=fin_nodeR (tr:=R.tr) (z:=z) (H:=H) (i:=i) (z':=false) [t1,t2,t3] (rows:=[t1.enc,t2.enc,t3.enc]) (by simp) (by simp) hrel0
   simpa [rst] using hrel
end
end
section
section
variable {P:Program} {R:RF} {z:Bool} {L:List Tk}
theorem RHas.post' (hR:RHas P R) (hx:HasT P [10,56] R.post (irR7Post R.atom R.is R.word R.ended R.expr R.want R.tn)) (hE:EndsL L) (hL:L.length≤1048576) (n:Nat) (hn:n≤1099511627776) (hA0:UR P R.tr z L n .atom R.atom) (hS:∀ m,m < n+1→UR P R.tr z L m .expr R.expr):UR P R.tr z L (n+1) .post R.post:=by
 refine UR_of fun H i s hi hpp => ?_
 obtain ⟨fn,hf,hcf⟩:=hx
 refine acall_fin hf hcf (by simp [irR7Post]) fun hcl _ => ?_
 have hp1:=hpp.1.1
 simp only [G.c] at hp1
 simp [irR7Post]
 refine CallK_of (hA0 H _ i s hi ((MoE.refl s).pre hpp (by decide) (by simp only [G.c]; omega))) ?_
 rintro _ _ ⟨a0,s1,rfl,rfl,r1⟩
 have b1:=r1.le
 have m1:=r1.moE hE
 obtain ⟨OX,hOX⟩:∃ OX:N→Hp,OX=fun a=>[zbx R.tn,abx R.tn a]:=⟨_,rfl⟩
 have hOl:∀ a,(OX a).length=2:=fun a=>by rw [hOX]; rfl
 obtain ⟨E,hE0⟩:∃ E:Fr→Hp→Prop,E=fun fr H'=>∃ a s',(fr 0 = .ptr i 0∧fr 4 = .ptr H.length 0∧fr 6 = .ptr (H.length+1) 0∧fr 7 = .d (.int .i64 (s'.1:Int)))∧Rel L (n+1) .post s a s'∧∃ Y,H'=H.set i (rst R.tr z L s'.2)++(OX a++Y):=⟨_,rfl⟩
 have hE1:∀ fr a s',(fr 0 = .ptr i 0∧fr 4 = .ptr H.length 0∧fr 6 = .ptr (H.length+1) 0∧fr 7 = .d (.int .i64 (s'.1:Int)))→Rel L (n+1) .post s a s'→E fr (H.set i (rst R.tr z L s'.2)++OX a):=fun fr a s' h h'=>by subst hE0; exact ⟨a,s',h,h',[],by simp⟩
 obtain ⟨k,f,t,w,q,za,ks,hf0,he,hv,hb⟩:=node_ho R.tn a0
 rw [hv]
 simp
 rw [show H.set i (rst R.tr z L s1.2)++[Ob.box R.tn [.d (.int .i64 0),.d (.int .i64 0),.d (.int .i64 0),.d (.str []),.d (.int .i64 0),.d (.sl true 6 [])],.box R.tn [.d (.int .i64 k),.d (.int .i64 f),.d (.int .i64 t),.d (.str w),.d (.int .i64 q),.d (.sl za 6 (ks.map N.enc))]]=H.set i (rst R.tr z L s1.2)++OX a0 by rw [hOX,← hb]; rfl]
 refine LoopK_outR 0 E (fun _ _=>False) ?_ (fun _ _ h=>h.elim) ?_
 rotate_left
 · intro fr H' h
   subst hE0
   obtain ⟨a,s',⟨f0,f4,f6,f7⟩,hr,Y,rfl⟩:=h
   obtain ⟨k,f,t,w,q,za,ks,-,-,hv,hb⟩:=node_ho R.tn a
   subst hOX
   simp [f0,f4,f6,f7,hb,zbx]
   simp [RetK,rcut hcl]
   exact ⟨a,s',by rw [hv],by simp,hr⟩
 clear hE0
 have hcutO:∀ a st' X,Hp.cut (H.length+2) (H.set i (rst R.tr z L st')++(OX a++X))=H.set i (rst R.tr z L st')++OX a:=fun a st' X=>by
  rw [rcutk hcl,hOX]
  change H.set i (rst R.tr z L st')++[(zbx R.tn).clr _,(abx R.tn a).clr _]=_
  rw [abx_clr]; rfl
 have hcutO0:∀ a st',Hp.cut (H.length+2) (H.set i (rst R.tr z L st')++OX a)=H.set i (rst R.tr z L st')++OX a:=fun a st'=>by simpa using hcutO a st' []
 have hgO:∀ st X,(H.set i (rst R.tr z L st)++X)[i]?=some (rst R.tr z L st):=fun st X=>upG hi
 have hset:∀ a a' X,(OX a++X).set 1 (abx R.tn a')=OX a'++X:=fun a a' X=>by rw [hOX]; simp
 have hgA:∀ a X,(OX a++X)[1]?=some (abx R.tn a):=fun a X=>by rw [hOX]; simp
 have hgB:∀ a b X,(OX a++b :: X)[2]?=some b:=fun a b X=>by rw [hOX]; simp
 refine LoopM_of (H.length+2) (fun d fr H'=>∃ a s',(fr 0 = .ptr i 0∧fr 4 = .ptr H.length 0∧fr 6 = .ptr (H.length+1) 0∧fr 7 = .d (.int .i64 (s'.1:Int)))∧H'=H.set i (rst R.tr z L s'.2)++OX a ∧
  ((d=0∧s'.2 ≠ none∧∀ m,Rel L (n+1) .post s m s')∨∃ o1,s'=(o1,none)∧s.2=none∧d≤n∧pp L (n+1) .post s.1=pp L d (.postL a) o1∧o1 < L.length∧16 * (L.length - o1)+1≤d)) (match s1.2 with | none=>n | some _=>0) (by simp [hOl]) ⟨a0,s1,?_⟩ ?_
 · have hil2:i < H.length+2:=by omega
   refine ⟨by simp [hil2],hcutO0 _ _,?_⟩
   obtain ⟨p,st⟩:=s
   cases st with
   | some q =>
     obtain ⟨b,rfl,e⟩:=r1.some'
     simp only [G.wt] at e
     exact .inl ⟨rfl,by simp,fun m=>by simp [Rel,G.wt]; omega⟩
   | none =>
     obtain ⟨hp2,hp3⟩:=hpp.1.2.2 rfl
     simp only [G.c] at hp2 hp3
     have hpl:=hpp.2 rfl
     rcases r1.none' with ⟨q',b,hq,rfl,e3⟩ | ⟨j,hj,rfl⟩
     · exact .inl ⟨rfl,by simp,fun m=>by simp [Rel,pp,hq,PR.then]; omega⟩
     · have:=pp_advE hE n .atom p
       rw [hj] at this
       obtain ⟨v1,v2,v3⟩:=this
       have v2:=v2 rfl
       have v3:=v3 v2
       exact .inr ⟨j,rfl,rfl,by simp,by simp [pp,hj,PR.then],v3,by (try simp only at hp3 ⊢); omega⟩
 · rintro d fr H' ⟨a,s',⟨f0,f4,f6,f7⟩,rfl,hd⟩
   have hil2O:i < H.length+2:=by omega
   rcases hd with ⟨rfl,q1,q2⟩ | ⟨o1,rfl,hsn,hdn,hpeO,ho1,hrk⟩
   · obtain ⟨p',st'⟩:=s'
     cases st' with
     | none=>simp at q1
     | some q =>
       have hg1:=hgO (some q)
       have hq:¬ (q:Int) < 0:=by omega
       have hE2:=fun fr h=>hE1 fr a (p',some q) h (q2 _)
       simp only [rst] at hg1 hE2
       simp [f0,f7,rst,hg1,hq]
       exact hE2 _ (by simp [f0,f4,f6,f7])
   · obtain ⟨d',rfl⟩:∃ d',d=d'+1:=⟨d - 1,by omega⟩
     have hRelO:∀ m s',(match pp L (d'+1) (.postL a) o1 with | .out=>False | .bad q=>s'.2=some q∧s'.1≤L.length+(n+1) | .ok m' k=>m=m'∧s'=(k,none))→Rel L (n+1) .post s m s':=fun m s' h=>by
      unfold Rel
      rw [hsn]
      simp only
      rw [hpeO]; exact h
     have hg1:=hgO none
     have gi:=fun X=>hR.isA (z:=z) (st:=none) (X:=X) hi ho1 [46]
     have gi2:=fun X=>hR.isA (z:=z) (st:=none) (X:=X) hi ho1 [40]
     have hw:IntKind.i64.wrap ((o1:Int)+1)=((o1+1:Nat):Int):=by rw [wrap_i64 (by omega) (by omega)]; omega
     simp only [rst] at hg1 gi gi2
     obtain ⟨k,f,t,w,q,za,kse,hf,he,hv,hb⟩:=node_ho R.tn a
     have hA:=hgA a
     rw [hb] at hA
     have hA1:∀ h,(OX a)[1]'h = .box R.tn [.d (.int .i64 k),.d (.int .i64 f),.d (.int .i64 t),.d (.str w),.d (.int .i64 q),.d (.sl za 6 (kse.map N.enc))]:=fun h=>by rw [← hb]; simp [hOX]
     cases hjb:isT L o1 [46] with
     | true =>
       have l1:=isT_ltE hE hjb
       rw [hjb] at gi
       have gW:=fun X=>hR.wordA (z:=z) (s:=(o1+1,none)) (X:=X) hi (fun _=>l1) (by simp only; omega) 19 f 0 [] 0 true []
       simp only [rst,ag] at gW
       have b2:=wordS_le (rfl:wordS L (o1+1,none)=_)
       have hsw:(∃ q',wordS L (o1+1,none)=(o1+1,some q')∧pp L (d'+1) (.postL a) o1 = .bad q')∨(wordS L (o1+1,none)=(o1+1+1,none)∧o1+1+1 < L.length∧pp L (d'+1) (.postL a) o1=pp L d' (.postL (N.new 19 a.f ((o1+1+1:Nat):Int) (if wordOkB L (o1+1,none) then txT L (o1+1) else []) (if wordOkB L (o1+1,none) then ((o1+1:Nat):Int) else 0) [a])) (o1+1+1)):=by
        by_cases c:kdT L (o1+1)=1
        · exact .inr ⟨by simp [c],kdT_ltE hE (by omega),by simp [pp,hjb,wordR,c]⟩
        · exact .inl ⟨o1+1,by simp [c],by simp [pp,hjb,wordR,c]⟩
       generalize wordS L (o1+1,none)=s2 at gW b2 hsw
       generalize (if wordOkB L (o1+1,none)=true then txT L (o1+1) else [])=W at gW hsw
       generalize (if wordOkB L (o1+1,none)=true then ((o1+1:Nat):Int) else 0)=Q at gW hsw
       simp only at b2
       have g5:=hR.ended.rended 19 f 0 W Q true [] (s2.1:Int) false [[.int .i64 k,.int .i64 f,.int .i64 t,.str w,.int .i64 q,.sl za 6 (kse.map N.enc)]]
       simp only [ag] at g5
       obtain ⟨bo,hbo⟩:∃ bo:Ob,bo = .box R.tn [.d (.int .i64 19),.d (.int .i64 f),.d (.int .i64 0),.d (.str W),.d (.int .i64 Q),.d (.sl true 6 [])]:=⟨_,rfl⟩
       have hB:=fun X=>hgB a bo X
       rw [hbo] at hB
       simp [f0,f7,rst,hg1]
       refine CallK_of' (gi _) ?_
       simp [f0,f7]
       refine CallK_of' (gi _) ?_
       simp [f0,f6,f7,hw,hA,hA1,hOl]
       refine CallK_of' (gW _) ?_
       simp [f6,hA,hA1,hOl,hB]
       refine CallK_of' (g5 _) ?_
       have hnew:abx R.tn (N.new 19 a.f s2.1 W Q [a]) = .box R.tn [.d (.int .i64 19),.d (.int .i64 f),.d (.int .i64 s2.1),.d (.str W),.d (.int .i64 Q),.d (.sl false 6 [[.int .i64 k,.int .i64 f,.int .i64 t,.str w,.int .i64 q,.sl za 6 (kse.map N.enc)]])]:=by
        rw [abx,N.new,N.enc_mk]
        simp [he,hf]
       have hs1:=fun Y=>hset a (N.new 19 a.f s2.1 W Q [a]) Y
       rw [hnew] at hs1
       simp [f6,hOl,hA,hA1,hs1]
       rcases hsw with ⟨q',rfl,hq⟩ | ⟨rfl,l2,hq⟩
       · refine NextM_of (H.length+2) 0 (Nat.le_refl _) (by simp [hOl]) (by omega) ⟨_,(o1+1,some q'),by simp [f0,f4,f6,hil2O],by simpa [rst] using hcutO (N.new 19 a.f ((o1+1:Nat):Int) W Q [a]) (some q') _,.inl ⟨rfl,by simp,fun m=>hRelO _ _ ?_⟩⟩
         rw [hq]; simp; omega
       · refine NextM_of (H.length+2) d' (Nat.le_refl _) (by simp [hOl]) (by omega) ⟨_,(o1+1+1,none),by simp [f0,f4,f6,hil2O],by simpa [rst] using hcutO (N.new 19 a.f ((o1+1+1:Nat):Int) W Q [a]) none _,.inr ⟨o1+1+1,rfl,hsn,by omega,?_,l2,by omega⟩⟩
         rw [hpeO,hq]; simp
     | false =>
       rw [hjb] at gi
       cases hjc:isT L o1 [40] with
       | false =>
         rw [hjc] at gi2
         have hE2:=fun fr h=>hE1 fr a (o1,none) h (hRelO _ _ (by simp [pp,hjb,hjc]))
         simp only [rst] at hE2
         simp [f0,f7,rst,hg1]
         refine CallK_of' (gi _) ?_
         simp [f0,f7]
         refine CallK_of' (gi2 _) ?_
         simp
         exact hE2 _ (by simp [f0,f4,f6,f7])
       | true =>
         rw [hjc] at gi2
         have l1:=isT_ltE hE hjc
         simp [f0,f7,rst,hg1]
         refine CallK_of' (gi _) ?_
         simp [f0,f7]
         refine CallK_of' (gi2 _) ?_
         simp [f0,f7]
         refine CallK_of' (gi _) ?_
         simp [f6,f7,hw,hA,hA1,hOl]
         have hs0l:(((o1+1,none):PSt)).2=none→((o1+1,none):PSt).1 < L.length:=fun _=>l1
         have hs0c:((o1+1,none):PSt).2=none→16 * (L.length - ((o1+1,none):PSt).1)+9≤d':=fun _=>by simp only; omega
         obtain ⟨XX,hXX⟩:∃ XX:List N→Hp,XX=fun ks=>[zbx R.tn,.box R.tn [.d (.int .i64 k),.d (.int .i64 f),.d (.int .i64 t),.d (.str w),.d (.int .i64 q),.d (.sl za 6 (kse.map N.enc))],.tok (ks.length+1) 6 R.tn]:=⟨_,rfl⟩
         have hXl:∀ a,(XX a).length=3:=fun a=>by rw [hXX]; rfl
         obtain ⟨E,hE0⟩:∃ E:Fr→Hp→Prop,E=fun fr H'=>∃ (ks:List N) (s':PSt) (X:Hp),(fr 0 = .ptr i 0∧fr 4 = .ptr H.length 0∧fr 6 = .ptr (H.length+1) 0∧fr 7 = .d (.int .i64 (s'.1:Int))∧fr 10 = .osl false 6 ([.int .i64 k,.int .i64 f,.int .i64 t,.str w,.int .i64 q,.sl za 6 (kse.map N.enc)] :: ks.map N.enc) (H.length+2))∧(s'.2=none→s'.1 < L.length)∧s'.1≤1125899906842624∧ks.length * 72≤70368744177664∧Rel L d' (.list .expr [41]) ((o1+1,none):PSt) (N.bag ks) (wantS L [41] s')∧H'=H.set i (rst R.tr z L s'.2)++(XX ks++X):=⟨_,rfl⟩
         refine LoopK_outR 2 E (fun _ _=>False) ?_ (fun _ _ h=>h.elim) ?_
         rotate_left
         · intro fr H' h
           subst hE0
           obtain ⟨ks,s',X,⟨f0,f4,f6,f7,f10⟩,hlt,hb,hkb,hr,rfl⟩:=h
           have b2:=hr.bnd (B:=L.length+d'+3) (by simp only; omega) (by omega)
           have g2:=fun X=>hR.wantA (z:=z) (s:=s') (X:=X) hi hlt hb [41]
           generalize wantS L [41] s'=s2 at g2 hr b2
           have g5:=fun H0=>hR.ended.rendedT 20 f 0 [] 0 true [] (s2.1:Int) false ([.int .i64 k,.int .i64 f,.int .i64 t,.str w,.int .i64 q,.sl za 6 (kse.map N.enc)] :: ks.map N.enc) H0 (H.length+2)
           simp only [ag] at g5
           subst hXX
           simp [f0,f7]
           refine CallK_of' (g2 _) ?_
           simp [f6,f10]
           refine CallK_of' (g5 _ (by simp)) ?_
           simp [f6]
           have hfin:Hp.cut (H.length+2) (H.set i (rst R.tr z L s2.2)++zbx R.tn :: .box R.tn [.d (.int .i64 20),.d (.int .i64 f),.d (.int .i64 s2.1),.d (.str []),.d (.int .i64 0),.osl false 6 ([.int .i64 k,.int .i64 f,.int .i64 t,.str w,.int .i64 q,.sl za 6 (kse.map N.enc)] :: ks.map N.enc) (H.length+2)] :: .tok (ks.length+1) 6 R.tn :: X)=H.set i (rst R.tr z L s2.2)++OX (N.new 20 a.f s2.1 [] 0 (a :: ks)):=by
            rw [rcutk hcl,hOX]
            simp [abx,N.new,N.enc_mk,he,hf,zbx]
           rcases hr.none' with ⟨q',b',hq,rfl,e3⟩ | ⟨j,hj,rfl⟩
           · refine NextM_of (H.length+2) 0 (Nat.le_refl _) (by simp) (by omega) ⟨N.new 20 a.f b' [] 0 (a :: ks),(b',some q'),by simp [f0,f4,f6,hil2O],hfin,.inl ⟨rfl,by simp,fun m=>hRelO _ _ ?_⟩⟩
             simp [pp,hjb,hjc,hq,PR.then]; omega
           · have:=pp_advE hE d' (.list .expr [41]) (o1+1)
             rw [hj] at this
             obtain ⟨v1,v2,v3⟩:=this
             have v2:=v2 rfl
             have v3:=v3 v2
             refine NextM_of (H.length+2) d' (Nat.le_refl _) (by simp) (by omega) ⟨N.new 20 a.f j [] 0 (a :: ks),(j,none),by simp [f0,f4,f6,hil2O],hfin,.inr ⟨j,rfl,hsn,by omega,?_,v3,by omega⟩⟩
             rw [hpeO]; simp [pp,hjb,hjc,hj,PR.then,N.bag,N.new,N.ks]
         have hE1:∀ fr (ks:List N) (s':PSt) (X:Hp),(fr 0 = .ptr i 0∧fr 4 = .ptr H.length 0∧fr 6 = .ptr (H.length+1) 0∧fr 7 = .d (.int .i64 (s'.1:Int))∧fr 10 = .osl false 6 ([.int .i64 k,.int .i64 f,.int .i64 t,.str w,.int .i64 q,.sl za 6 (kse.map N.enc)] :: ks.map N.enc) (H.length+2))→(s'.2=none→s'.1 < L.length)→s'.1≤1125899906842624→ks.length * 72≤70368744177664→Rel L d' (.list .expr [41]) ((o1+1,none):PSt) (N.bag ks) (wantS L [41] s')→E fr (H.set i (rst R.tr z L s'.2)++(XX ks++X)):=fun fr ks s' X a b c d e=>by subst hE0; exact ⟨ks,s',X,a,b,c,d,e,rfl⟩
         clear hE0
         have hcut:∀ ks st' X,Hp.cut (H.length+3) (H.set i (rst R.tr z L st')++(XX ks++X))=H.set i (rst R.tr z L st')++XX ks:=fun ks st' X=>by
          rw [rcutk hcl,hXX]; rfl
         have hcut0:∀ ks st',Hp.cut (H.length+3) (H.set i (rst R.tr z L st')++XX ks)=H.set i (rst R.tr z L st')++XX ks:=fun ks st'=>by simpa using hcut ks st' []
         have hg0:∀ st X,(H.set i (rst R.tr z L st)++X)[i]?=some (rst R.tr z L st):=fun st X=>upG hi
         have hgT:∀ (ks:List N) X,(XX ks++X)[2]?=some (.tok (ks.length+1) 6 R.tn):=fun ks X=>by rw [hXX]; simp
         have hgT1:∀ (ks:List N) h,(XX ks)[2]'h = .tok (ks.length+1) 6 R.tn:=fun ks h=>by simp [hXX]
         have hgB:∀ (ks:List N) b X,(XX ks++b :: X)[3]?=some b:=fun ks b X=>by rw [hXX]; simp
         have hgC:∀ (ks:List N) b c X,(XX ks++b :: c :: X)[4]?=some c:=fun ks b c X=>by rw [hXX]; simp
         have hsT:∀ (ks:List N) (m:N) X,(XX ks++X).set 2 (.tok (ks.length+2) 6 R.tn)=XX (ks++[m])++X:=fun ks m X=>by rw [hXX]; simp
         have hil2:i < H.length+3:=by omega
         rw [show H.set i (.box R.tr [.d (.sl z 4 (L.map encTk)),.d (.int .i64 (-1))])++(OX a++[.tok 1 6 R.tn])=H.set i (rst R.tr z L none)++XX [] by rw [hXX,hOX]; simp [hb,rst]]
         refine LoopM_of (H.length+3) (fun d fr H'=>∃ (ks:List N) (s':PSt),(fr 0 = .ptr i 0∧fr 4 = .ptr H.length 0∧fr 6 = .ptr (H.length+1) 0∧fr 7 = .d (.int .i64 (s'.1:Int))∧fr 10 = .osl false 6 ([.int .i64 k,.int .i64 f,.int .i64 t,.str w,.int .i64 q,.sl za 6 (kse.map N.enc)] :: ks.map N.enc) (H.length+2))∧H'=H.set i (rst R.tr z L s'.2)++XX ks ∧
          ((d=0∧s'.2 ≠ none∧s'.1≤1125899906842624∧ks.length * 72≤70368744177664∧∀ m,Rel L d' (.list .expr [41]) ((o1+1,none):PSt) m s')∨∃ p1,s'=(p1,none)∧((o1+1,none):PSt).2=none∧d≤d'∧pp L d' (.list .expr [41]) ((o1+1,none):PSt).1=pp L d (LG .expr [41] ks) p1∧p1 < L.length∧16 * (L.length - p1)+9≤d∧ks.length≤p1)) (match ((o1+1,none):PSt).2 with | none=>d' | some _=>0) (by simp [hXl]) ⟨[],((o1+1,none):PSt),?_⟩ ?_
         · refine ⟨by simp [hil2,f0,f4,f6],hcut0 _ _,?_⟩
           cases h0:((o1+1,none):PSt).2 with
           | some q=>first | exact absurd h0 (by simp; done) | exact .inl ⟨rfl,by simp [h0],by omega,by simp,fun m=>by simp [Rel,h0,G.wt]⟩
           | none=>exact .inr ⟨((o1+1,none):PSt).1,by rw [← h0],rfl,Nat.le_refl _,by simp [LG],hs0l h0,by have:=hs0c h0; omega,by simp⟩
         · rintro d fr H' ⟨ks,s',⟨f0,f4,f6,f7,f10⟩,rfl,hd⟩
           rcases hd with ⟨rfl,q1,qb,qk,q2⟩ | ⟨p1,rfl,hs2,hdn,hpe,hp1',hrk,hks⟩
           · obtain ⟨p',st'⟩:=s'
             cases st' with
             | none=>simp at q1
             | some q =>
               have hg1:=hg0 (some q)
               have hq:¬ (q:Int) < 0:=by omega
               have hE2:=fun fr h=>hE1 fr ks (p',some q) [] h (fun e=>by cases e) qb qk (q2 _)
               simp only [rst,List.append_nil] at hg1 hE2
               simp [f0,f7,rst,hg1,hq]
               exact hE2 _ (by simp [f0,f4,f6,f7,f10,hXl])
           · have hRel:∀ m s',(match pp L d (LG .expr [41] ks) p1 with | .out=>False | .bad q=>s'.2=some q∧s'.1≤L.length+d' | .ok m' k=>m=m'∧s'=(k,none))→Rel L d' (.list .expr [41]) ((o1+1,none):PSt) m s':=fun m s' h=>by
              unfold Rel
              rw [hs2]
              simp only
              rw [hpe]; exact h
             have hg1:=hg0 none
             have gi:=fun X=>hR.isA (z:=z) (st:=none) (X:=X) hi hp1' [41]
             by_cases hend:ks=[]∧isT L p1 [41]=true
             · obtain ⟨rfl,hjb⟩:=hend
               obtain ⟨d',rfl⟩:∃ d',d=d'+1:=⟨d - 1,by omega⟩
               have hE2:=fun fr h=>hE1 fr [] (p1,none) [] h (fun _=>hp1') (by simp only; omega) (by simp) (hRel _ _ (by simp [LG,pp,hjb,N.bag,N.new]))
               rw [hjb] at gi
               simp only [rst,List.append_nil] at hg1 gi hE2
               simp [f0,f7,f10,rst,hg1]
               refine CallK_of' (gi _) ?_
               simp
               exact hE2 _ (by simp [f0,f4,f6,f7,f10,hXl])
             · have hje:ks=[]→isT L p1 [41]=false:=fun e=>by
                cases h:isT L p1 [41] with
                | false=>rfl
                | true=>exact absurd ⟨e,h⟩ hend
               obtain ⟨M,hM⟩:∃ M:Fr→Hp→Prop,M=fun fr H'=>(fr 0 = .ptr i 0∧fr 4 = .ptr H.length 0∧fr 6 = .ptr (H.length+1) 0∧fr 7 = .d (.int .i64 (((p1,none):PSt).1:Int))∧fr 10 = .osl false 6 ([.int .i64 k,.int .i64 f,.int .i64 t,.str w,.int .i64 q,.sl za 6 (kse.map N.enc)] :: ks.map N.enc) (H.length+2))∧H'=H.set i (rst R.tr z L none)++XX ks:=⟨_,rfl⟩
               have hM1:∀ fr,(fr 0 = .ptr i 0∧fr 4 = .ptr H.length 0∧fr 6 = .ptr (H.length+1) 0∧fr 7 = .d (.int .i64 (((p1,none):PSt).1:Int))∧fr 10 = .osl false 6 ([.int .i64 k,.int .i64 f,.int .i64 t,.str w,.int .i64 q,.sl za 6 (kse.map N.enc)] :: ks.map N.enc) (H.length+2))→M fr (H.set i (rst R.tr z L none)++XX ks):=fun fr h=>by subst hM; exact ⟨h,rfl⟩
               refine Seq_mid M ?_ ?_
               · clear hM
                 simp only [rst] at hg1 gi hM1
                 rcases List.eq_nil_or_concat ks with hk0 | ⟨kk,kx,hk0⟩
                 · rw [hje hk0] at gi
                   simp [f0,f7,f10,rst,hg1,hk0]
                   refine CallK_of' (gi _) ?_
                   rw [← hk0]
                   simp [f0,f7]
                   exact hM1 _ (by simp [f0,f4,f6,f7,f10,hXl])
                 · have hkn:¬ ks=[]:=fun e=>by rw [e] at hk0; simp at hk0
                   have hk1:¬ ((ks.length:Int)+1=1):=by
                    have:ks.length ≠ 0:=by simpa using hkn
                    omega
                   simp [f0,f7,f10,rst,hg1,hkn,hk1]
                   exact hM1 _ (by simp [f0,f4,f6,f7,f10,hXl])
               · intro fr H' h
                 subst hM
                 obtain ⟨⟨f0,f4,f6,f7,f10⟩,rfl⟩:=h
                 have hstep:=LG_step (L:=L) (d:=d) (one := .expr) (e:=[41]) (ks:=ks) (p:=p1) (by omega) hje
                 obtain ⟨m,hm1,hm2,hpp2⟩:=hstep
                 have gt:=fun X=>hS m (by omega) H X i (p1,none) hi ⟨⟨by simp only [G.c]; omega,by simp only [G.c]; omega,fun _=>⟨by simp only; omega,by simp only [G.c]; omega⟩⟩,fun _=>hp1'⟩
                 simp only [rst] at hg1 gt
                 simp [f0,f7,rst]
                 refine CallK_of (gt _) ?_
                 rintro _ _ ⟨x,s3,rfl,rfl,hrx⟩
                 obtain ⟨kt,ft,tt',wt',qt,zt,kst,hft,het,hvt,hbt⟩:=node_ho R.tn x
                 rw [hvt]
                 obtain ⟨bo,hbo⟩:∃ bo:Ob,bo = .box R.tn [.d (.int .i64 kt),.d (.int .i64 ft),.d (.int .i64 tt'),.d (.str wt'),.d (.int .i64 qt),.d (.sl zt 6 (kst.map N.enc))]:=⟨_,rfl⟩
                 have hB:=fun X=>hgB ks bo X
                 rw [hbo] at hB
                 have hT:=hgT ks
                 have hT1:=hgT1 ks
                 have hs3b:s3.1≤L.length+d':=hrx.bnd (by simp only; omega) (by omega)
                 have hs1:=hsT ks x
                 have hbd:(ks.length+2) * 72≤140737488355328:=by omega
                 have hmap:ks.map N.enc++[[.int .i64 kt,.int .i64 ft,.int .i64 tt',.str wt',.int .i64 qt,.sl zt 6 (kst.map N.enc)]]=(ks++[x]).map N.enc:=by
                  rw [List.map_append]
                  simp [het]
                 clear gt
                 simp [f10,hXl,hB,hT,hT1,appA,slOf,hbd,hs1,hmap]
                 obtain ⟨p3,st3⟩:=s3
                 simp only at hs3b
                 cases st3 with
                 | some q =>
                   have hg2:=hg0 (some q)
                   have hq':(0:Int)≤q:=by omega
                   have hbad:pp L m .expr p1 = .bad q:=by
                    rcases hrx.none' with ⟨q',a,e,e2,e3⟩ | ⟨k,e,e2⟩
                    · simp only [Prod.mk.injEq,Option.some.injEq] at e2
                      rw [e,e2.2]
                    · simp at e2
                   have hE2:=fun fr X h=>hE1 fr (ks++[x]) (p3,some q) X h (fun e=>by cases e) (by simp only; omega) (by simp; omega) (hRel _ _ (by rw [hpp2,hbad]; simp [PR.then]; omega))
                   simp only [rst] at hg2 hE2
                   simp [f0,rst,hg2,hq']
                   exact hE2 _ _ (by simp [f0,f4,f6,hXl])
                 | none =>
                   have hok:pp L m .expr p1 = .ok x p3:=by
                    rcases hrx.none' with ⟨q',a,e,e2,e3⟩ | ⟨k,e,e2⟩
                    · simp at e2
                    · simp only [Prod.mk.injEq] at e2
                      rw [e,e2.1]
                   have hadv:=pp_advE hE m .expr p1
                   rw [hok] at hadv
                   obtain ⟨v1,v2,v3⟩:=hadv
                   have v2:=v2 rfl
                   have v3:=v3 v2
                   have gi3:=fun X=>hR.isA (z:=z) (st:=none) (X:=X) hi v3 [41]
                   have gw3:=fun X=>hR.wantA (z:=z) (s:=(p3,none)) (X:=X) hi (fun _=>v3) (by simp only; omega) [44]
                   have hg2:=hg0 none
                   cases hc:isT L p3 [41] with
                   | true =>
                     have hE2:=fun fr X h=>hE1 fr (ks++[x]) (p3,none) X h (fun _=>v3) (by simp only; omega) (by simp; omega) (hRel _ _ (by rw [hpp2,hok]; simp [PR.then,hc,N.bag,N.new]))
                     rw [hc] at gi3
                     simp only [rst] at hg2 gi3 hE2
                     simp [f0,rst,hg2]
                     refine CallK_of' (gi3 _) ?_
                     simp
                     exact hE2 _ _ (by simp [f0,f4,f6,hXl])
                   | false =>
                     rw [hc] at gi3
                     have hstp:=hpp2
                     rw [hok] at hstp
                     simp only [PR.then,hc,wantR] at hstp
                     by_cases hcm:isT L p3 [44]=true
                     · have hl4:=isT_ltE hE hcm
                       simp only [wantS_none,hcm,if_true] at gw3
                       simp only [rst] at hg2 gi3 gw3
                       simp [f0,rst,hg2]
                       refine CallK_of' (gi3 _) ?_
                       simp [f0]
                       refine CallK_of' (gw3 _) ?_
                       simp
                       refine NextM_of (H.length+3) m (Nat.le_refl _) (by simp [hXl]) (by omega) ⟨ks++[x],(p3+1,none),by simp [f0,f4,f6,hil2],by simpa [rst] using hcut (ks++[x]) none _,.inr ⟨p3+1,rfl,hs2,by omega,?_,hl4,by omega,by simp; omega⟩⟩
                       rw [hpe,hstp,hcm,LG_snoc]
                       simp
                     · have hcm':isT L p3 [44]=false:=by simpa using hcm
                       simp only [wantS_none,hcm',Bool.false_eq_true,if_false] at gw3
                       simp only [rst] at hg2 gi3 gw3
                       simp [f0,rst,hg2]
                       refine CallK_of' (gi3 _) ?_
                       simp [f0]
                       refine CallK_of' (gw3 _) ?_
                       simp
                       refine NextM_of (H.length+3) 0 (Nat.le_refl _) (by simp [hXl]) (by omega) ⟨ks++[x],(p3,some p3),by simp [f0,f4,f6,hil2],by simpa [rst] using hcut (ks++[x]) (some p3) _,.inl ⟨rfl,by simp,by simp only; omega,by simp; omega,fun mm=>hRel _ _ ?_⟩⟩
                       rw [hstp,hcm']
                       simp [PR.then]
                       omega
end
end
section
structure RHasA (P:Program) (R:RF):Prop extends RHas P R where
 params:HasT P [7] R.params (irR7Params R.want R.is R.word R.typed R.ended R.tn)
 kind:HasT P [9] R.kind (irR7Kind R.is R.word R.want R.kind R.ended R.tn)
 block:HasT P [7] R.block (irR7Block R.want R.is R.stmt R.ended R.tn)
 stmt:HasT P [8,47] R.stmt (irR7Stmt R.is R.expr R.block R.ended R.word R.typed R.want R.tn)
 expr:Has P R.expr (irR7Expr R.sum R.is R.ended R.tn)
 sum:Has P R.sum (irR7Sum R.term R.is R.ended R.tn)
 term:Has P R.term (irR7Term R.post R.is R.ended R.tn)
 post:HasT P [10,56] R.post (irR7Post R.atom R.is R.word R.ended R.expr R.want R.tn)
 atom:HasT P [11] R.atom (irR7Atom R.is R.expr R.want R.ended R.word R.lambda R.tn R.tt)
 file:HasT P [4] R.file (irR7File R.is R.use_ R.def_ R.ended R.tn)
structure RAll (P:Program) (R:RF) (z:Bool) (L:List Tk) (n:Nat):Prop where
 params:UR P R.tr z L n .params R.params
 typed:UR P R.tr z L n .typed R.typed
 kind:UR P R.tr z L n .kind R.kind
 block:UR P R.tr z L n .block R.block
 stmt:US P R.tr z L n .stmt R.stmt
 expr:UR P R.tr z L n .expr R.expr
 sum:UR P R.tr z L n .sum R.sum
 term:UR P R.tr z L n .term R.term
 post:UR P R.tr z L n .post R.post
 atom:UR P R.tr z L n .atom R.atom
theorem UR_zero {P:Program} {z:Bool} {L:List Tk} {tr:TypeId} {g:G} {f:FuncId} (hg:0 < g.c):UR P tr z L 0 g f:=fun H X i s hi hp=>absurd hp.1.2.1 (by omega)
theorem US_zero {P:Program} {z:Bool} {L:List Tk} {tr:TypeId} {g:G} {f:FuncId} (hg:0 < g.c):US P tr z L 0 g f:=fun H X i p hi hp=>absurd hp.1.2.1 (by omega)
section
variable {P:Program} {R:RF} {z:Bool} {L:List Tk}
theorem RHasA.all (hR:RHasA P R) (hE:EndsL L) (hL:L.length≤1048576):∀ n,n≤1099511627776→RAll P R z L n:=by
 intro n
 induction n using Nat.strongRecOn with
 | ind n ih =>
 intro hn
 cases n with
 | zero=>exact ⟨UR_zero (by decide),UR_zero (by decide),UR_zero (by decide),UR_zero (by decide),US_zero (by decide),UR_zero (by decide),UR_zero (by decide),UR_zero (by decide),UR_zero (by decide),UR_zero (by decide)⟩
 | succ n =>
   have a:∀ m,m < n+1→RAll P R z L m:=fun m hm=>ih m hm (by omega)
   have b:=a n (by omega)
   have hn':n≤1099511627776:=by omega
   have h0:=hR.toRHas
   exact ⟨h0.params' hR.params hE hL n hn' (fun m hm=>(a m (by omega)).typed),h0.typed' hE hL n hn' b.kind,h0.kind' hR.kind hE hL n hn' (fun m hm=>(a m hm).kind),h0.block' hR.block hE hL n hn' (fun m hm=>(a m (by omega)).stmt),
    h0.stmt' hR.stmt hE hL n hn' b.expr b.typed b.block,h0.expr' hR.expr hE hL n hn' b.sum,h0.sum' hR.sum hE hL n hn' (fun m hm=>(a m hm).term),h0.term' hR.term hE hL n hn' (fun m hm=>(a m hm).post),
    h0.post' hR.post hE hL n hn' b.atom (fun m hm=>(a m hm).expr),h0.atom' hR.atom hE hL n hn' (fun m hm=>(a m hm).expr) b.params b.typed b.block⟩
def RQF (tr:TypeId) (z:Bool) (L:List Tk) (n:Nat) (H:Hp) (i:Nat):A→Hp→Prop:=fun r H'=>∃ m s',r=m.v∧H'=H.set i (rst tr z L s'.2)∧Rel L n (.file []) (0,none) m s'
theorem fin_fileR {tr:TypeId} {z z':Bool} {L:List Tk} {n:Nat} {H:Hp} {i:Nat} {s':PSt} {k f t a:Int} {w:Bs} {rows:List (List D)} (ks:List N) (hrows:rows=ks.map N.enc) (hz:rows=[]→z'=true) (hr:Rel L n (.file []) (0,none) (N.new k f t w a ks) s') :
 ∃ r',Nrm (.agg [.d (.int .i64 k),.d (.int .i64 f),.d (.int .i64 t),.d (.str w),.d (.int .i64 a),.d (.sl z' 6 rows)]) r'∧RQF tr z L n H i r' (H.set i (rst tr z L s'.2)):=by
 refine ⟨_,nrm_node hz,_,s',?_,rfl,hr⟩
 rw [N.v_new,hrows]
 cases ks<;>rfl
theorem RHasA.file' (hR:RHasA P R) (hE:EndsL L) (h0l:0 < L.length) (hL:L.length≤1048576) (n:Nat) (hn:n≤1099511627776) (hr0:16 * L.length+7≤n+1) {H:Hp} {i:Nat} (hi:i < H.length) :
 ACall P R.file [.ptr i 0] (H.set i (rst R.tr z L none)) (RQF R.tr z L (n+1) H i):=by
 obtain ⟨fn,hf,hcf⟩:=hR.file
 have h0:=hR.toRHas
 refine acall_norm (acall_fin hf hcf (by simp [irR7File]) fun hcl _ => ?_)
 simp [irR7File]
 obtain ⟨XX,hXX⟩:∃ XX:List N→Hp,XX=fun ks=>[zbx R.tn,.tok ks.length 6 R.tn]:=⟨_,rfl⟩
 have hXl:∀ a,(XX a).length=2:=fun a=>by rw [hXX]; rfl
 obtain ⟨E,hE0⟩:∃ E:Fr→Hp→Prop,E=fun fr H'=>∃ (ks:List N) (s':PSt),(fr 0 = .ptr i 0∧fr 2 = .ptr H.length 0∧fr 3 = .d (.int .i64 (s'.1:Int))∧fr 4 = .osl true 6 (ks.map N.enc) (H.length+1))∧Rel L (n+1) (.file []) (0,none) (N.new 1 0 s'.1 [] 0 ks) s'∧H'=H.set i (rst R.tr z L s'.2)++XX ks:=⟨_,rfl⟩
 have hE1:∀ fr (ks:List N) (s':PSt),(fr 0 = .ptr i 0∧fr 2 = .ptr H.length 0∧fr 3 = .d (.int .i64 (s'.1:Int))∧fr 4 = .osl true 6 (ks.map N.enc) (H.length+1))→Rel L (n+1) (.file []) (0,none) (N.new 1 0 s'.1 [] 0 ks) s'→E fr (H.set i (rst R.tr z L s'.2)++XX ks):=fun fr ks s' a b=>by subst hE0; exact ⟨ks,s',a,b,rfl⟩
 refine LoopK_outR 0 E (fun _ _=>False) ?_ (fun _ _ h=>h.elim) ?_
 rotate_left
 · intro fr H' h
   subst hE0
   obtain ⟨ks,s',⟨f0,f2,f3,f4⟩,hr,rfl⟩:=h
   have g5:=fun H0=>h0.ended.rendedT 1 0 0 [] 0 true [] (s'.1:Int) true (ks.map N.enc) H0 (H.length+1)
   simp only [ag] at g5
   subst hXX
   simp [f3,f4,zbx]
   refine CallK_of' (g5 _ (by simp)) ?_
   simp [f2]
   simp [RetK,rcut hcl,nl]
   exact fin_fileR (z':=true) ks rfl (fun _=>rfl) hr
 clear hE0
 have hcut:∀ ks st' X,Hp.cut (H.length+2) (H.set i (rst R.tr z L st')++(XX ks++X))=H.set i (rst R.tr z L st')++XX ks:=fun ks st' X=>by
  rw [rcutk hcl,hXX]; rfl
 have hcut0:∀ ks st',Hp.cut (H.length+2) (H.set i (rst R.tr z L st')++XX ks)=H.set i (rst R.tr z L st')++XX ks:=fun ks st'=>by simpa using hcut ks st' []
 have hg0:∀ st X,(H.set i (rst R.tr z L st)++X)[i]?=some (rst R.tr z L st):=fun st X=>upG hi
 have hgT:∀ (ks:List N) X,(XX ks++X)[1]?=some (.tok ks.length 6 R.tn):=fun ks X=>by rw [hXX]; simp
 have hgT1:∀ (ks:List N) h,(XX ks)[1]'h = .tok ks.length 6 R.tn:=fun ks h=>by simp [hXX]
 have hgB:∀ (ks:List N) b X,(XX ks++b :: X)[2]?=some b:=fun ks b X=>by rw [hXX]; simp
 have hsT:∀ (ks:List N) (m:N) X,(XX ks++X).set 1 (.tok (ks.length+1) 6 R.tn)=XX (ks++[m])++X:=fun ks m X=>by rw [hXX]; simp
 have hsB:∀ (ks:List N) b b' X,(XX ks++b :: X).set 2 b'=XX ks++b' :: X:=fun ks b b' X=>by rw [hXX]; simp
 have hil2:i < H.length+2:=by omega
 rw [show H.set i (rst R.tr z L none)++[Ob.box R.tn [.d (.int .i64 0),.d (.int .i64 0),.d (.int .i64 0),.d (.str []),.d (.int .i64 0),.d (.sl true 6 [])],.tok 0 6 R.tn]=H.set i (rst R.tr z L none)++XX [] by rw [hXX]; rfl]
 refine LoopM_of (H.length+2) (fun d fr H'=>∃ (ks:List N) (s':PSt),(fr 0 = .ptr i 0∧fr 2 = .ptr H.length 0∧fr 3 = .d (.int .i64 (s'.1:Int))∧fr 4 = .osl true 6 (ks.map N.enc) (H.length+1))∧H'=H.set i (rst R.tr z L s'.2)++XX ks ∧
  ((d=0∧s'.2 ≠ none∧∀ m,Rel L (n+1) (.file []) (0,none) m s')∨∃ p1,s'=(p1,none)∧d≤n+1∧pp L (n+1) (.file []) 0=pp L d (.file ks) p1∧p1 < L.length∧16 * (L.length - p1)+7≤d∧ks.length≤p1)) (n+1) (by simp [hXl]) ⟨[],(0,none),by simp [hil2],hcut0 _ _,.inr ⟨0,rfl,by omega,rfl,h0l,by omega,by simp⟩⟩ ?_
 rintro d fr H' ⟨ks,s',⟨f0,f2,f3,f4⟩,rfl,hd⟩
 rcases hd with ⟨rfl,q1,q2⟩ | ⟨p1,rfl,hdn,hpp,hp1',hrk,hks⟩
 · obtain ⟨p',st'⟩:=s'
   cases st' with
   | none=>simp at q1
   | some q =>
     have hg1:=hg0 (some q)
     have hq:¬ (q:Int) < 0:=by omega
     have hE2:=fun fr h=>hE1 fr ks (p',some q) h (q2 _)
     simp only [rst] at hg1 hE2
     simp [f0,f3,rst,hg1,hq]
     exact hE2 _ (by simp [f0,f2,f3,f4])
 obtain ⟨d',rfl⟩:∃ d',d=d'+1:=⟨d - 1,by omega⟩
 have hRel:∀ m s',(match pp L (d'+1) (.file ks) p1 with | .out=>False | .bad q=>s'.2=some q∧s'.1≤L.length+(n+1) | .ok m' k=>m=m'∧s'=(k,none))→Rel L (n+1) (.file []) (0,none) m s':=fun m s' h=>by
  unfold Rel
  simp only
  rw [hpp]; exact h
 have hg1:=hg0 none
 have gi:=fun X=>h0.isA (z:=z) (st:=none) (X:=X) hi hp1' kUse
 have hr:=rowAt_map encTk hp1'
 have hg:L[p1]?=some L[p1]:=List.getElem?_eq_getElem hp1'
 have hkd:kdT L p1=L[p1].k:=by unfold kdT; rw [hg]
 generalize L[p1]=tk at hr hkd
 obtain ⟨kk,ta,tl,y⟩:=tk
 simp only [encTk] at hr hkd
 simp only [rst] at hg1 gi
 by_cases hk0:kk=0
 · subst hk0
   have hE2:=fun fr h=>hE1 fr ks (p1,none) h (hRel _ _ (by simp [pp,hkd]))
   simp only [rst] at hE2
   simp [f0,f3,rst,hg1,hr]
   exact hE2 _ (by simp [f0,f2,f3,f4])
 have hk0':¬ kdT L p1=0:=by rw [hkd]; exact hk0
 obtain ⟨n',rfl⟩:∃ n',d'=n'+1:=⟨d' - 1,by omega⟩
 have ha:=hR.all (z:=z) hE hL n' (by omega)
 cases hu:isT L p1 kUse with
 | true =>
   have hpf:pp L (n'+1+1) (.file ks) p1=(pp L (n'+1) .use p1).then fun m j=>pp L (n'+1) (.file (ks++[m])) j:=by
    rw [pp]
    simp only [hk0',hu,if_true,if_false]
   rw [hu] at gi
   have gU:∀ X,ACall P R.use_ [.ptr i 0,.d (.int .i64 (p1:Int))] (H.set i (rst R.tr z L none)++X) (RQ R.tr z L (n'+1) .use H i X (p1,none)):=fun X=>by
    have:=h0.use' (z:=z) hE hL n' (H:=H++X) (i:=i) (by simp; omega) p1 hu
    rw [List.set_append_left _ _ hi] at this
    refine this.mono ?_
    rintro r H' ⟨m,s',rfl,rfl,hr⟩
    exact ⟨m,s',rfl,by rw [List.append_nil,List.set_append_left _ _ hi],hr⟩
   simp only [rst] at gU
   simp [f0,f3,rst,hg1,hr,hk0]
   refine CallK_of' (gi _) ?_
   simp [f0,f3]
   refine CallK_of (gU _) ?_
   rintro _ _ ⟨m,s3,rfl,rfl,r3⟩
   obtain ⟨kt,ft,tt',wt',qt,zt,kst,hft,het,hvt,hbt⟩:=node_ho R.tn m
   rw [hvt]
   obtain ⟨bo,hbo⟩:∃ bo:Ob,bo = .box R.tn [.d (.int .i64 kt),.d (.int .i64 ft),.d (.int .i64 tt'),.d (.str wt'),.d (.int .i64 qt),.d (.sl zt 6 (kst.map N.enc))]:=⟨_,rfl⟩
   have hB:=fun X=>hgB ks bo X
   rw [hbo] at hB
   have hB0:=fun X=>hgB ks (.box R.tn [.d (.int .i64 0),.d (.int .i64 0),.d (.int .i64 0),.d (.str []),.d (.int .i64 0),.d (.sl true 6 [])]) X
   have hT:=hgT ks
   have hT1:=hgT1 ks
   have hs1:=hsT ks m
   have hsb:=hsB ks
   have hbd:(ks.length+1) * 72≤140737488355328:=by omega
   have hmap:ks.map N.enc++[[.int .i64 kt,.int .i64 ft,.int .i64 tt',.str wt',.int .i64 qt,.sl zt 6 (kst.map N.enc)]]=(ks++[m]).map N.enc:=by
    rw [List.map_append]
    simp [het]
   simp [f4,hXl,hB,hB0,hT,hT1,appA,slOf,hbd,hs1,hsb,hmap]
   rcases r3.none' with ⟨q,b,hq,rfl,e3⟩ | ⟨j,hj,rfl⟩
   · refine NextM_of (H.length+2) 0 (Nat.le_refl _) (by simp [hXl]) (by omega) ⟨ks++[m],(b,some q),by simp [f0,f2,hil2],by simpa [rst] using hcut (ks++[m]) (some q) _,.inl ⟨rfl,by simp,fun m=>hRel _ _ ?_⟩⟩
     rw [hpf,hq]; simp [PR.then]; omega
   · have:=pp_advE hE (n'+1) .use p1
     rw [hj] at this
     obtain ⟨v1,v2,v3⟩:=this
     have v2:=v2 rfl
     have v3:=v3 v2
     refine NextM_of (H.length+2) (n'+1) (Nat.le_refl _) (by simp [hXl]) (by omega) ⟨ks++[m],(j,none),by simp [f0,f2,hil2],by simpa [rst] using hcut (ks++[m]) none _,.inr ⟨j,rfl,by omega,?_,v3,by omega,by simp; omega⟩⟩
     rw [hpp,hpf,hj]; simp [PR.then]
 | false =>
   have hpf:pp L (n'+1+1) (.file ks) p1=(pp L (n'+1) .defn p1).then fun m j=>pp L (n'+1) (.file (ks++[m])) j:=by
    rw [pp]
    simp only [hk0',hu,if_false,Bool.false_eq_true]
   rw [hu] at gi
   have gU:∀ X,ACall P R.def_ [.ptr i 0,.d (.int .i64 (p1:Int))] (H.set i (rst R.tr z L none)++X) (RQ R.tr z L (n'+1) .defn H i X (p1,none)):=fun X=>by
    have:=h0.def' (z:=z) hE hL n' (by omega) ha.params ha.typed ha.block (H:=H++X) (i:=i) (by simp; omega) p1 ⟨⟨by simp only [G.c]; omega,by simp only [G.c]; omega,fun _=>⟨by simp only; omega,by simp only [G.c]; omega⟩⟩,fun _=>hp1'⟩
    rw [List.set_append_left _ _ hi] at this
    refine this.mono ?_
    rintro r H' ⟨m,s',rfl,rfl,hr⟩
    exact ⟨m,s',rfl,by rw [List.append_nil,List.set_append_left _ _ hi],hr⟩
   simp only [rst] at gU
   simp [f0,f3,rst,hg1,hr,hk0]
   refine CallK_of' (gi _) ?_
   simp [f0,f3]
   refine CallK_of (gU _) ?_
   rintro _ _ ⟨m,s3,rfl,rfl,r3⟩
   obtain ⟨kt,ft,tt',wt',qt,zt,kst,hft,het,hvt,hbt⟩:=node_ho R.tn m
   rw [hvt]
   obtain ⟨bo,hbo⟩:∃ bo:Ob,bo = .box R.tn [.d (.int .i64 kt),.d (.int .i64 ft),.d (.int .i64 tt'),.d (.str wt'),.d (.int .i64 qt),.d (.sl zt 6 (kst.map N.enc))]:=⟨_,rfl⟩
   have hB:=fun X=>hgB ks bo X
   rw [hbo] at hB
   have hB0:=fun X=>hgB ks (.box R.tn [.d (.int .i64 0),.d (.int .i64 0),.d (.int .i64 0),.d (.str []),.d (.int .i64 0),.d (.sl true 6 [])]) X
   have hT:=hgT ks
   have hT1:=hgT1 ks
   have hs1:=hsT ks m
   have hsb:=hsB ks
   have hbd:(ks.length+1) * 72≤140737488355328:=by omega
   have hmap:ks.map N.enc++[[.int .i64 kt,.int .i64 ft,.int .i64 tt',.str wt',.int .i64 qt,.sl zt 6 (kst.map N.enc)]]=(ks++[m]).map N.enc:=by
    rw [List.map_append]
    simp [het]
   simp [f4,hXl,hB,hB0,hT,hT1,appA,slOf,hbd,hs1,hsb,hmap]
   rcases r3.none' with ⟨q,b,hq,rfl,e3⟩ | ⟨j,hj,rfl⟩
   · refine NextM_of (H.length+2) 0 (Nat.le_refl _) (by simp [hXl]) (by omega) ⟨ks++[m],(b,some q),by simp [f0,f2,hil2],by simpa [rst] using hcut (ks++[m]) (some q) _,.inl ⟨rfl,by simp,fun m=>hRel _ _ ?_⟩⟩
     rw [hpf,hq]; simp [PR.then]; omega
   · have:=pp_advE hE (n'+1) .defn p1
     rw [hj] at this
     obtain ⟨v1,v2,v3⟩:=this
     have v2:=v2 rfl
     have v3:=v3 v2
     refine NextM_of (H.length+2) (n'+1) (Nat.le_refl _) (by simp [hXl]) (by omega) ⟨ks++[m],(j,none),by simp [f0,f2,hil2],by simpa [rst] using hcut (ks++[m]) none _,.inr ⟨j,rfl,by omega,?_,v3,by omega,by simp; omega⟩⟩
     rw [hpp,hpf,hj]; simp [PR.then]
theorem RHasA.fileA (hR:RHasA P R) (hE:EndsL L) (h0l:0 < L.length) (hL:L.length≤1048576) {H:Hp} {i:Nat} (hi:i < H.length) :
 ACall P R.file [.ptr i 0] (H.set i (rst R.tr z L none)) (RQF R.tr z L (16 * L.length+8) H i):=hR.file' hE h0l hL (16 * L.length+7) (by omega) (by omega) hi
end
end
section
section
variable {P:Program} {F:PF}
end
end
section
section
variable {P:Program}
theorem Has.depth6 {f:FuncId} {tn:TypeId} (h:Has P f (irR6Depth f tn)):∀ (n:N),n.size≤1125899906842624→∀ H,ACall P f [n.v] H (fun r H'=>r = .d (.int .i64 (n.depth:Int))∧H'=H):=by
 refine N.ind fun k f' t w a z ks ih => ?_
 intro hs H
 obtain ⟨fn,hf,hcf⟩:=h
 refine acall_fin hf hcf (by simp [irR6Depth]) fun hcl _ => ?_
 rw [N.size_mk] at hs
 rw [N.v_mk,N.depth_mk]
 have hlen:=N.sizes_len ks
 have hds:∀ i,N.depths (ks.take i)≤1125899906842624:=fun i=>by
  refine N.depths_le _ fun p hp => ?_
  have:=N.depth_size p
  have:=N.sizes_mem (List.mem_of_mem_take hp)
  omega
 simp [irR6Depth]
 refine ForK_of (H.length+1) ks.length (fun i fr H'=>fr 1 = .ptr H.length 0∧fr 3 = .d (.int .i64 ((N.depths (ks.take i):Int)+1))∧H'=H++[.box tn [.d (.int .i64 k),.d (.int .i64 f'),.d (.int .i64 t),.d (.str w),.d (.int .i64 a),.d (.sl z 6 (ks.map N.enc))]]) (by omega) (by decide) (by simp) (by simp) ?_ ?_
 · simp [N.depths,cut_appk hcl]
 rintro i fr H' hi f4 ⟨f1,f3,rfl⟩
 simp [f4,f1]
 refine BrK_split (fun h => ?_) (fun h => ?_)
 · have hlt:i < ks.length:=by simpa using h
   have hr:=rowAt_map N.enc hlt
   have hm:=List.getElem_mem hlt
   have hsz:=N.sizes_mem hm
   have hx:=ih _ hm (by omega)
   have hdt:=N.depths_take_succ hlt
   have hd0:=hds i
   have hdd:=N.depth_size (ks[i])
   generalize ks[i]=p at hr hx hdt hsz hdd
   obtain ⟨k2,f2,t2,w2,a2,z2,ks2⟩:=p
   generalize hdp:(N.mk k2 f2 t2 w2 a2 z2 ks2).depth=dd at hx hdt hdd
   rw [N.enc_mk] at hr
   rw [N.v_mk] at hx
   have hw:IntKind.i64.wrap ((dd:Int)+1)=(dd:Int)+1:=wrap_i64 (by omega) (by omega)
   simp [f4,f1,hr]
   refine CallK_of' (hx _) ?_
   by_cases hm:N.depths (ks.take i) < dd
   · simp [hw,f3,hm]
     refine NextF_of (H.length+1) (Nat.le_refl _) hlt (by simp [f4]) ?_
     rw [hdt]
     simp [f1,cut_appk hcl]
     omega
   · simp [hw,f3,hm]
     refine NextF_of (H.length+1) (Nat.le_refl _) hlt (by simp [f4]) ?_
     rw [hdt]
     simp [f1,f3,cut_appk hcl]
     omega
 · have hii:i=ks.length:=by
    have:¬ i < ks.length:=by simpa using h
    omega
   rw [hii,List.take_of_length_le (Nat.le_refl _)] at f3
   simp [f3]
   simp [RetK,cut_app hcl]
   omega
end
section
variable {P:Program} {R:RF} {z:Bool} {L:List Tk}
theorem Has.parse7 {f fd} (h:Has P f (irR7Parse R.file fd R.tn R.tr)) (hR:RHasA P R) (hd:Has P fd (irR6Depth fd R.tn)) (hL:L.length≤1048576) (H:Hp) :
 ACall P f [.d (.sl z 4 (L.map encTk))] H (fun r H'=>r = .tup [(parseP L).1.v,.d (.int .i64 (parseP L).2.1),.d (.int .i64 (parseP L).2.2)]∧H'=H):=by
 obtain ⟨fn,hf,hcf⟩:=h
 refine acall_fin hf hcf (by simp [irR7Parse]) fun hcl _ => ?_
 obtain ⟨Q,hQ⟩:∃ Q:A→Hp→Prop,Q=fun r H'=>r = .tup [(parseP L).1.v,.d (.int .i64 (parseP L).2.1),.d (.int .i64 (parseP L).2.2)]∧H'=H:=⟨_,rfl⟩
 rw [← hQ]
 have hnone:∀ e b:Int,parseP L=(N.none,e,b)→Q (.tup [.agg [.d (.int .i64 0),.d (.int .i64 0),.d (.int .i64 0),.d (.str []),.d (.int .i64 0),.d (.sl true 6 [])],.d (.int .i64 e),.d (.int .i64 b)]) H:=fun e b h=>by
  subst hQ
  rw [h]
  exact ⟨rfl,rfl⟩
 by_cases h0:L=[]
 · subst h0
   simp [irR7Parse]
   simp [RetK,cut_app hcl]
   exact hnone 1 0 (by simp [parseP])
 have hl0:0 < L.length:=List.length_pos_iff.2 h0
 have h0':¬ (L.length:Int)=0:=by omega
 have hw:IntKind.i64.wrap ((L.length:Int) - 1)=((L.length - 1:Nat):Int):=by rw [wrap_i64 (by omega) (by omega)]; omega
 have hr:=rowAt_map encTk (l:=L) (i:=L.length - 1) (by omega)
 have hg:L[L.length - 1]?=some (L[L.length - 1]'(by omega)):=List.getElem?_eq_getElem (by omega)
 have hkd:kdT L (L.length - 1)=(L[L.length - 1]'(by omega)).k:=by unfold kdT; rw [hg]
 generalize L[L.length - 1]'(by omega)=tk at hr hkd
 obtain ⟨k,a,l,x⟩:=tk
 simp only [encTk] at hr hkd
 by_cases h1:k=0
 case neg =>
  simp [irR7Parse,h0,h0',hw,hr,h1]
  simp [RetK,cut_app hcl]
  exact hnone 1 0 (by simp [parseP,hkd,h1])
 by_cases h2:4000 < L.length
 case pos =>
  have h2':(4000:Int) < L.length:=by omega
  simp [irR7Parse,h0,h0',hw,hr,h1,h2']
  simp [RetK,cut_app hcl]
  exact hnone 1 0 (by simp [parseP,h2])
 have h2':¬ (4000:Int) < L.length:=by omega
 have hE:EndsL L:=fun i hi=>by
  have:i=L.length - 1:=by omega
  rw [this,hkd,h1]
 have hpp:parseP L=match parseF L with
  | .ok n _=>if 60 < n.depth then (N.none,25,0) else (n,0,0)
  | .bad q=>(N.none,24,(q:Int))
  | .out=>(N.none,24,0):=by
  unfold parseP
  split
  · rename_i h
    rw [hkd,h1] at h
    rcases h with h | h | h
    · exact absurd h h0
    · exact absurd rfl h
    · exact absurd h h2
  · rfl
 simp [irR7Parse,h0,h0',hw,hr,h1,h2']
 obtain ⟨r0,hr0⟩:∃ r0:Ob,r0 = .box R.tn [.d (.int .i64 0),.d (.int .i64 0),.d (.int .i64 0),.d (.str []),.d (.int .i64 0),.d (.sl true 6 [])]:=⟨_,rfl⟩
 have g:=hR.fileA (z:=z) hE hl0 hL (H:=H++[r0,rst R.tr z L none]) (i:=H.length+1) (by simp)
 have e1:∀ s,(H++[r0,rst R.tr z L none]).set (H.length+1) (rst R.tr z L s)=H++[r0,rst R.tr z L s]:=fun s=>by simp
 rw [e1] at g
 rw [hr0] at g
 simp only [rst] at g
 refine CallK_of g ?_
 rintro _ _ ⟨m,s',rfl,rfl,hrel⟩
 have e2:∀ s,(H++[r0,.box R.tr [.d (.sl z 4 (L.map encTk)),.d (.int .i64 (-1))]]).set (H.length+1) (rst R.tr z L s)=H++[r0,rst R.tr z L s]:=fun s=>by simp
 rw [← hr0,e2]
 rw [hr0]
 rcases hrel.none' with ⟨q,b,hq,rfl,e3⟩ | ⟨k',hk,rfl⟩
 · have hq':parseF L = .bad q:=hq
   rw [hq'] at hpp
   obtain ⟨k2,f2,t2,w2,a2,z2,ks2⟩:=m
   have hqn:(0:Int)≤q:=by omega
   rw [N.v_mk]
   simp [rst,hqn]
   repeat' apply And.intro
   all_goals
    simp [RetK,cut_app hcl]
    try exact hnone 24 q hpp
 · have hk':parseF L = .ok m k':=hk
   rw [hk'] at hpp
   have hsz:=pp_size (L:=L) (16 * L.length+8) (.file []) 0 trivial
   rw [show pp L (16 * L.length+8) (.file []) 0 = .ok m k' from hk] at hsz
   simp only [Sz,G.k1,G.sz,N.sizes_nil] at hsz
   have hadv:=pp_adv (L:=L) (16 * L.length+8) (.file []) 0
   rw [show pp L (16 * L.length+8) (.file []) 0 = .ok m k' from hk] at hadv
   obtain ⟨v1,-,v3⟩:=hadv
   have hdep:=N.depth_size m
   have hd':=hd.depth6 m (by omega)
   obtain ⟨k2,f2,t2,w2,a2,z2,ks2⟩:=m
   rw [N.v_mk] at hd'
   rw [N.v_mk]
   simp [rst]
   refine CallK_of' (hd' _) ?_
   by_cases h60:60 < N.depth (.mk k2 f2 t2 w2 a2 z2 ks2)
   · have h60':(60:Int) < N.depth (.mk k2 f2 t2 w2 a2 z2 ks2):=by omega
     simp [h60']
     simp [RetK,cut_app hcl]
     exact hnone 25 0 (by rw [hpp]; simp [h60])
   · have h60':¬ (60:Int) < N.depth (.mk k2 f2 t2 w2 a2 z2 ks2):=by omega
     simp [h60']
     simp [RetK,cut_app hcl]
     subst hQ
     rw [hpp]
     simp [h60,N.v_mk]
theorem Has.of7 {f fl fp tn} (h:Has P f (irR7Of fl fp tn)) (hl:∀ (s:Bs),s.length≤1048576→∀ H,ACall P fl [.d (.str s)] H (fun r H'=>r = .tup [.d (.sl true 4 ((lexS s).1.map encTk)),.d (.int .i64 (lexS s).2.1),.d (.int .i64 (lexS s).2.2)]∧H'=H))
 (hp:∀ (z:Bool) (L:List Tk),L.length≤1048576→∀ H,ACall P fp [.d (.sl z 4 (L.map encTk))] H (fun r H'=>r = .tup [(parseP L).1.v,.d (.int .i64 (parseP L).2.1),.d (.int .i64 (parseP L).2.2)]∧H'=H))
 (s:Bs) (hs:s.length≤1048576) (H:Hp) :
 ACall P f [.d (.str s)] H (fun r H'=>r = .tup [.d (.sl true 4 ((parseO s).1.map encTk)),(parseO s).2.1.v,.d (.int .i64 (parseO s).2.2.1),.d (.int .i64 (parseO s).2.2.2)]∧H'=H):=by
 obtain ⟨fn,hf,hcf⟩:=h
 refine acall_fin hf hcf (by simp [irR7Of]) fun hcl _ => ?_
 obtain ⟨Q,hQ⟩:∃ Q:A→Hp→Prop,Q=fun r H'=>r = .tup [.d (.sl true 4 ((parseO s).1.map encTk)),(parseO s).2.1.v,.d (.int .i64 (parseO s).2.2.1),.d (.int .i64 (parseO s).2.2.2)]∧H'=H:=⟨_,rfl⟩
 rw [← hQ]
 have hnone:∀ e b:Int,parseO s=([],N.none,e,b)→Q (.tup [.d (.sl true 4 []),.agg [.d (.int .i64 0),.d (.int .i64 0),.d (.int .i64 0),.d (.str []),.d (.int .i64 0),.d (.sl true 6 [])],.d (.int .i64 e),.d (.int .i64 b)]) H:=fun e b h=>by
  subst hQ
  rw [h]
  exact ⟨rfl,rfl⟩
 have hO:parseO s=if (lexS s).2.1 ≠ 0 then ([],N.none,(lexS s).2.1,(lexS s).2.2)
  else if (parseP (lexS s).1).2.1 ≠ 0 then ([],N.none,(parseP (lexS s).1).2.1,match (lexS s).1[(parseP (lexS s).1).2.2.toNat]? with | some t=>(t.a:Int) | none=>0)
  else ((lexS s).1,(parseP (lexS s).1).1,0,0):=rfl
 have hlk:=lexS_like (s:=s)
 have g1:=hl s hs (H++[Ob.box tn [.d (.int .i64 0),.d (.int .i64 0),.d (.int .i64 0),.d (.str []),.d (.int .i64 0),.d (.sl true 6 [])]])
 generalize lexS s=LS at hO hlk g1
 obtain ⟨L,e,b⟩:=LS
 simp only at hO hlk g1
 simp [irR7Of]
 refine CallK_of' g1 ?_
 by_cases he:e=0
 case neg =>
  rw [if_pos he] at hO
  simp [he]
  simp [RetK,cut_app hcl]
  exact hnone e b hO
 rw [if_neg (by simp [he])] at hO
 obtain ⟨l1,l2,l3,l4,l5⟩:=hlk he
 have hat:=parseP_at l2 l1
 have g2:=hp true L (by omega)
 generalize parseP L=PS at hO hat g2
 obtain ⟨m,e2,b2⟩:=PS
 simp only at hO hat g2
 simp [he]
 refine CallK_of' (g2 _) ?_
 obtain ⟨k,f',t,w,a,z,ks⟩:=m
 rw [N.v_mk]
 obtain ⟨hb0,hb1⟩:=hat
 obtain ⟨q,rfl⟩:∃ q:Nat,b2=(q:Int):=⟨b2.toNat,by omega⟩
 simp only [Int.toNat_natCast] at hO hb1
 have hr:=rowAt_map encTk hb1
 rw [List.getElem?_eq_getElem hb1] at hO
 generalize L[q]=tk at hr hO
 obtain ⟨tk,ta,tl,tx⟩:=tk
 simp only [encTk] at hr
 simp
 by_cases he2:e2=0
 case neg =>
  rw [if_pos he2] at hO
  simp [he2,hr]
  repeat' apply And.intro
  all_goals
   simp [RetK,cut_app hcl]
   try exact hnone e2 ta hO
 rw [if_neg (by simp [he2])] at hO
 simp [he2]
 simp [RetK,cut_app hcl]
 subst hQ
 rw [hO]
 exact ⟨by rw [N.v_mk],rfl⟩
end
end
def ACallD (P:Program) (f:FuncId) (args:List A) (H:Hp) (Q:Hp→Prop):Prop :=
 ∀ (κ : K) (w : World) (vs : List Value), HR κ H w → vs.length = args.length → (∀ (i : Nat) (v : Value) (a : A), vs[i]? = some v → args[i]? = some a → VR κ v a) →
   CallsD P f vs.toArray .returning w fun e u w'=>u = .returning∧∃ v κ' H',e = .returned v ∧ κ.le κ'∧HR κ' H' w'∧Q H'
theorem sr_init {κ:K} {n:Nat} {args:List A} {H:Hp} {w:World} {vs:List Value} (hn:args.length≤n) (hr:HR κ H w) (hl:vs.length=args.length) (hv:∀ (i:Nat) (v:Value) (a:A),vs[i]?=some v→args[i]?=some a→VR κ v a) :
 SR κ ⟨n,[]⟩ (Fr.init args) H { tmps:=vs.toArray++Array.replicate (n - vs.toArray.size) undef,defers:=[] } w:=by
 refine ⟨by simp only [Array.size_append,List.size_toArray,Array.size_replicate]; omega,rfl,hr,fun s => ?_⟩
 simp only [Fr.init]
 by_cases hlt:s < args.length
 · have hlt':s < vs.length:=by omega
   rw [Array.getD_eq_getD_getElem?,Array.getElem?_append_left (by simpa using hlt')]
   simp only [List.getElem?_toArray,List.getElem?_eq_getElem hlt',List.getElem?_eq_getElem hlt,Option.getD_some]
   exact hv s _ _ (List.getElem?_eq_getElem hlt') (List.getElem?_eq_getElem hlt)
 · rw [List.getElem?_eq_none (by omega),Array.getD_eq_getD_getElem?,Array.getElem?_append_right (by simpa using (by omega:vs.length≤s))]
   have:((Array.replicate (n - vs.toArray.size) undef)[s - vs.toArray.size]?).getD undef=undef:=by
    by_cases h2:s - vs.toArray.size < n - vs.toArray.size
    · rw [Array.getElem?_replicate,if_pos h2]; rfl
    · rw [Array.getElem?_replicate,if_neg h2]; rfl
   rw [this]
   exact .tup [] [] rfl (by simp)
def NoRes (K:Hp→Prop):Ex→Fr→Hp→Prop
 | .exit _,_,H=>False
 | _,_,H=>K H
theorem no_results {P:Program} {fn:Func} (h:fn.results = #[]) (tmps:Array Value) (w:World):(results fn tmps).run P w = .ok (.tuple #[]) w:=by
 unfold results
 rw [h]
 simp
theorem acallD_of {P:Program} {f:FuncId} {fn:Func} {c:Code} {tok:List Nat} {args:List A} {H:Hp} {K:Hp→Prop} (hf:P.funcs[f]?=some fn) (hb:fn.body=some c) (hres:fn.results = #[]) (hn:args.length≤fn.ntmps)
 (h:H.Closed→AWp P H.length (compC P fn.ntmps tok c) (NoRes K) (Fr.init args) H):ACallD P f args H K:=by
 intro κ w vs hr hl hv
 refine (callsD_of_wp (R:=fun e w'=>∃ v κ' H',e = .returned v ∧ κ.le κ'∧HR κ' H' w'∧K H') hf hb ?_)
 refine wp_mono (awp_sound (nt:=⟨fn.ntmps,[]⟩) hr.dom c _ κ _ H _ w (Zam.K.le_refl κ) (sr_init hn hr hl hv) (h hr.closed)) ?_
 rintro e a' w' ⟨κ',fr',H',e',he,h0',hs',hq⟩
 have fin:K H'→a'.defers=[]∧∃ v,(results fn a'.tmps).run P w' = .ok v w'∧∃ v1 κ1 H1,Ending.returned v = .returned v1 ∧ κ.le κ1∧HR κ1 H1 w'∧K H1:=fun hk =>
  ⟨hs'.defers,_,no_results hres _ _,_,κ',H',rfl,h0',hs'.hr,hk⟩
 cases e<;>cases e'<;>simp only [ExR] at he
 · exact fin hq
 · exact hq.elim
 · exact fin hq
theorem ops_sound_tail {P:Program} {κ0:K} {nt:NT} {tok:List Nat} {ops:Array Oper} {K:Fr→Hp→Prop} {Q:Exit→Act→World→Prop} {tail:List Oper} (hK:∀ κ fr H a w,κ0.le κ→SR κ nt fr H a w→K fr H→wpList P ops Q tail a w) :
 ∀ (l:List Oper) (κ:Zam.K) (fr:Fr) (H:Hp) (a:Act) (w:World),κ0.le κ→SR κ nt fr H a w→AOps P (l.map (compO P nt tok ops)) K fr H→wpList P ops Q (l++tail) a w:=by
 intro l
 induction l with
 | nil=>intro κ fr H a w h0 hs h; exact hK κ fr H a w h0 hs h
 | cons o l ih =>
   intro κ fr H a w h0 hs h
   simp only [List.map_cons,AOps] at h
   rcases compO_spec (P:=P) (nt:=nt) (tok:=tok) (ops:=ops) (o:=o) with hb | ⟨g,i,hg,hi,hd,hcomp⟩
   · rw [hb] at h; simp [badOp,runI,Arg.ev] at h
   · rw [hcomp] at h
     simp only at h
     have step:∀ fr,SR κ nt fr H a w→runI P fr H i (fun v H'=>AOps P (l.map (compO P nt tok ops)) K (fr.put o.dst v) H')→o.wp P a w (wpList P ops Q (l++tail)) Q:=fun fr hs h =>
      op_sound hi hd h0 hs h (fun κ' v H' u w' h0' hs' hk=>ih κ' _ _ _ _ h0' hs' hk)
     cases g with
     | none =>
       simp only at h
       rw [List.cons_append]
       unfold wpList
       rw [if_pos (wanted_none hg _)]
       exact .inl (step fr hs h)
     | some sb =>
       obtain ⟨s,b⟩:=sb
       simp only at h
       rw [List.cons_append]
       unfold wpList
       rw [wanted_some hg]
       rcases guard_sound hs h with ⟨h1,h2⟩ | ⟨h1,h2⟩
       · rw [h1]; simp only [if_true]; exact .inl (step fr hs h2)
       · rw [h1]
         simp only [Bool.false_eq_true,if_false]
         exact ih κ _ _ _ _ h0 (hs.put (Zam.K.le_refl κ) hs.hr hd (.tup [] [] rfl (by simp))) h2
def OnlyN (K:Fr→Hp→Prop):Ex→Fr→Hp→Prop
 | .normal=>K
 | _=>fun _ _=>False
theorem acall_defer2 {P:Program} {f:FuncId} {fn:Func} {tok:List Nat} {args:List A} {H:Hp} {K:A→Hp→Prop} {ca0 ca cb:Code} {id:Nat} {ops:Array Oper} {l:List Oper} {od:Oper} {c:Call} {s:Nat}
 (hf:P.funcs[f]?=some fn) (hb:fn.body=some (.seq ca0 (.seq ca (.seq (.region id ops false) cb)))) (hops:ops.toList=l++[od]) (hg:guardOf ops od.guard=some none) (hd:od.dst=none) (hop:od.op = .defer c) (hcal:c.callee = .value (.tmp s)) (hcar:c.args = #[])
 (hres:fn.results = #[]) (hn:args.length≤fn.ntmps)
 (h:H.Closed→AWp P H.length (compC P fn.ntmps tok ca0) (OnlyN fun fr0 H0=>H.length≤H0.length∧(Hp.Closed H0→AWp P H0.length (compC P fn.ntmps tok ca) (OnlyN fun fr1 H1=>AOps P (l.map (compO P fn.ntmps tok ops)) (fun fr2 H2=>∃ g cap,fr2 s = .fn (.func g) [] cap∧callOk P g=true ∧
  (Hp.Closed H2→AWp P H2.length (compC P fn.ntmps tok cb) (NoRes fun H3=>ACallD P g cap H3 fun H4=>∃ m,H.length≤m∧m≤H4.length∧K (.tup []) (Hp.cut m H4)) fr2 H2)) fr1 H1) fr0 H0)) (Fr.init args) H):ACall P f args H K:=by
 intro κ w vs hr hl hv
 refine calls_of_wp_defers hf hb ?_
 refine wp_seq (wp_mono (awp_sound (nt:=⟨fn.ntmps,[]⟩) hr.dom ca0 _ κ _ H _ w (Zam.K.le_refl κ) (sr_init hn hr hl hv) (h hr.closed)) ?_)
 rintro e a0 w0 ⟨κ0,fr0,H0,e',he,h00,hs0,h0⟩
 cases e' with
 | exit i=>exact h0.elim
 | ret=>exact h0.elim
 | normal =>
 cases e<;>simp only [ExR] at he
 obtain ⟨hlen0,h0⟩:=h0
 show (Code.seq ca (.seq (.region id ops false) cb)).wp P _ a0 w0
 refine wp_seq (wp_mono (awp_sound (nt:=⟨fn.ntmps,[]⟩) hs0.hr.dom ca _ κ0 fr0 H0 _ w0 (Zam.K.le_refl κ0) hs0 (h0 hs0.hr.closed)) ?_)
 rintro e a1 w1 ⟨κ1,fr1,H1,e',he,h01',hs1,h1⟩
 have h01:=h00.trans h01'
 cases e' with
 | exit i=>exact h1.elim
 | ret=>exact h1.elim
 | normal =>
 cases e<;>simp only [ExR] at he
 show (Code.seq (.region id ops false) cb).wp P _ a1 w1
 refine wp_seq (wp_region_list ?_)
 rw [hops]
 refine ops_sound_tail (κ0 := κ) (nt:=⟨fn.ntmps,[]⟩) (tok:=tok) ?_ l κ1 fr1 H1 a1 w1 h01 hs1 h1
 rintro κ2 fr2 H2 a2 w2 h02 hs2 ⟨g,cap,hfn,hok,h2⟩
 have hvs:=hs2.vr s
 rw [hfn] at hvs
 obtain ⟨capv,hev,hcl,hcv⟩:∃ capv:List Value,a2.tmps.getD s undef = .func (.func g) #[] capv.toArray∧capv.length=cap.length∧∀ (i:Nat) (v:Value) (a:A),capv[i]?=some v→cap[i]?=some a→VR κ2 v a:=by
  generalize hx:a2.tmps.getD s undef=x at hvs
  cases hvs with
  | fn _ vs1 vs2 _ _ hl1 hl2 p1 p2 =>
    have:vs1=[]:=List.eq_nil_of_length_eq_zero (by simpa using hl1)
    subst this
    exact ⟨vs2,rfl,hl2,p2⟩
 unfold wpList
 rw [if_pos (wanted_none hg _)]
 refine .inl ?_
 have hrun:(execOp a2.eval od).run P w2 = .ok (.defer { target := .fn (.func g) capv.toArray,args := #[] }) w2:=by
  unfold execOp
  rw [hop]
  simp only [resolve,hcal,hcar,Act.eval,hev,Deferred.ofValue,Sem.run_bind,Sem.run_pure,Result.andThen_ok]
  simp
 unfold Oper.wp
 rw [hrun,Oper.upon_defer,hd]
 have hs3:SR κ2 ⟨fn.ntmps,[{ target := .fn (.func g) capv.toArray,args := #[] }]⟩ fr2 H2 { a2 with defers := { target := .fn (.func g) capv.toArray,args := #[] } :: a2.defers } w2:=⟨hs2.size,by simp only [hs2.defers],hs2.hr,hs2.vr⟩
 show cb.wp P _ { a2 with defers := { target := .fn (.func g) capv.toArray,args := #[] } :: a2.defers } w2
 refine wp_mono (awp_sound hs2.hr.dom cb _ κ2 fr2 H2 _ w2 (Zam.K.le_refl κ2) hs3 (h2 hs2.hr.closed)) ?_
 rintro e a4 w4 ⟨κ4,fr4,H4,e',he,h24,hs4,hcall⟩
 have fin:(ACallD P g cap H4 fun H5=>∃ m,H.length≤m∧m≤H5.length∧K (.tup []) (Hp.cut m H5))→Leaves P fn a4.tmps (fun e w'=>∃ v κ' x H',e = .returned v ∧ κ.le κ'∧HR κ' H' w'∧VR κ' v x∧K x H') a4.defers .returning w4:=by
  intro hc
  rw [hs4.defers]
  refine leaves_cons (by simp) ?_ (CallsD.mono (hc κ4 w4 capv hs4.hr hcl fun i v a hi ha=>(hcv i v a hi ha).mono h24) ?_)
  · simp only [invoke]
    rw [callFunc_ok hok]
    simp
  · rintro e u w5 ⟨rfl,v,κ5,H5,rfl,h45,hr5,m,hm1,hm2,hk⟩
    have hle : κ.le κ5:=(h02.trans h24).trans h45
    exact ⟨_,no_results hres _ _,_,κ5.cut m,.tup [],Hp.cut m H5,rfl,Zam.K.le_cut hle fun i hi=>hr.dom i (by omega),hr5.cut m hm2,.tup [] [] rfl (by simp),hk⟩
 cases e<;>cases e'<;>simp only [ExR] at he
 · exact fin hcall
 · exact hcall.elim
 · exact fin hcall
def irScWrong (ed : Nat) : IFn := { nt := 24, res := [], body := ( .ops [⟨some 6,none,.mv (.t 0)⟩,⟨some 7,none,.nilCheck (.t 6)⟩,⟨some 8,none,.faddr 0 (.t 7)⟩,⟨some 9,none,.load 1 false (.t 8)⟩,⟨some 10,none,.mv (.t 0)⟩,⟨some 11,none,.nilCheck (.t 10)⟩,⟨some 12,none,.faddr 0 (.t 11)⟩,⟨some 13,none,.load 1 false (.t 12)⟩,⟨some 14,none,.nilCheck (.t 13)⟩,⟨some 15,none,.faddr 2 (.t 14)⟩,⟨some 16,none,.load 1 false (.t 15)⟩,⟨some 17,none,.mv (.t 1)⟩,⟨some 18,none,.mv (.t 2)⟩,⟨some 19,none,.build [(.int .i64 0),(.int .i64 0)] [(0,1,(.t 17)),(1,1,(.t 18))]⟩,⟨some 20,none,.bslice 2 [(.t 19)]⟩,⟨some 21,none,.appV 2 16 ed (.t 16) (.t 20)⟩,⟨some 22,none,.nilCheck (.t 9)⟩,⟨some 23,none,.faddr 2 (.t 22)⟩,⟨none,none,.store 1 (.t 23) (.t 21)⟩] true) }
def irScBind (wrong tn bd : Nat) : IFn := { nt := 58, res := [], body := ( .seq (.ops [⟨some 6,none,.box tn 6 (.t 2)⟩] false) (.seq (.seq (.ops [⟨some 11,none,.mv (.t 1)⟩,⟨some 12,none,.faddr 3 (.t 6)⟩,⟨some 13,none,.load 1 false (.t 12)⟩,⟨some 14,none,.lkp true (.str []) false [(.int .i64 0)] (.t 11) (.t 13)⟩,⟨some 10,none,.mv (.t 14)⟩,⟨some 15,none,.ext (.t 10) 0⟩,⟨some 16,none,.ext (.t 10) 1⟩,⟨some 8,none,.mv (.t 15)⟩,⟨some 9,none,.mv (.t 16)⟩] false) (.seq (.ops [⟨some 17,none,.mv (.t 9)⟩] false) (.cond (.t 17) (.ops [⟨some 18,none,.mv (.t 0)⟩,⟨some 19,none,.faddr 4 (.t 6)⟩,⟨some 20,none,.load 1 false (.t 19)⟩,⟨some 21,none,.call wrong [(.t 18),(.t 20),(.c (.int .i64 31))]⟩] false) (.skip)))) (.seq (.ops [⟨some 22,none,.mv (.t 1)⟩,⟨some 23,none,.faddr 3 (.t 6)⟩,⟨some 24,none,.load 1 false (.t 23)⟩,⟨some 25,none,.mv (.t 0)⟩,⟨some 26,none,.nilCheck (.t 25)⟩,⟨some 27,none,.faddr 0 (.t 26)⟩,⟨some 28,none,.load 1 false (.t 27)⟩,⟨some 29,none,.nilCheck (.t 28)⟩,⟨some 30,none,.faddr 0 (.t 29)⟩,⟨some 31,none,.load 1 false (.t 30)⟩,⟨some 32,none,.lenL (.t 31)⟩,⟨none,none,.mpUpd (.str []) (.t 22) (.t 24) (.t 32)⟩] true) (.ops [⟨some 33,none,.mv (.t 0)⟩,⟨some 34,none,.nilCheck (.t 33)⟩,⟨some 35,none,.faddr 0 (.t 34)⟩,⟨some 36,none,.load 1 false (.t 35)⟩,⟨some 37,none,.mv (.t 0)⟩,⟨some 38,none,.nilCheck (.t 37)⟩,⟨some 39,none,.faddr 0 (.t 38)⟩,⟨some 40,none,.load 1 false (.t 39)⟩,⟨some 41,none,.nilCheck (.t 40)⟩,⟨some 42,none,.faddr 0 (.t 41)⟩,⟨some 43,none,.load 1 false (.t 42)⟩,⟨some 44,none,.faddr 4 (.t 6)⟩,⟨some 45,none,.load 1 false (.t 44)⟩,⟨some 46,none,.mv (.t 3)⟩,⟨some 47,none,.faddr 3 (.t 6)⟩,⟨some 48,none,.load 1 false (.t 47)⟩,⟨some 49,none,.mv (.t 0)⟩,⟨some 50,none,.nilCheck (.t 49)⟩,⟨some 51,none,.faddr 3 (.t 50)⟩,⟨some 52,none,.load 1 false (.t 51)⟩,⟨some 53,none,.build [(.int .i64 0),(.int .i64 0),(.str []),(.int .i64 0)] [(0,1,(.t 45)),(1,1,(.t 46)),(2,1,(.t 48)),(3,1,(.t 52))]⟩,⟨some 54,none,.bslice 4 [(.t 53)]⟩,⟨some 55,none,.app 4 40 bd (.t 43) (.t 54)⟩,⟨some 56,none,.nilCheck (.t 36)⟩,⟨some 57,none,.faddr 0 (.t 56)⟩,⟨none,none,.store 1 (.t 57) (.t 55)⟩] true)))) }
def irScRes : IFn := { nt := 6, res := [], body := ( .ops [⟨some 2,none,.load 1 false (.t 1)⟩,⟨some 3,none,.load 1 false (.t 0)⟩,⟨some 4,none,.nilCheck (.t 2)⟩,⟨some 5,none,.faddr 1 (.t 4)⟩,⟨none,none,.store 1 (.t 5) (.t 3)⟩] false) }
def irScNode (within kids bind mention closed nodeC tp tn : Nat) : IFn := { nt := 48, res := [], body := ( .seq (.ops [⟨some 2,none,.box tp 1 (.t 0)⟩,⟨some 3,none,.box tn 6 (.t 1)⟩] false) (.seq (.ops [⟨some 4,none,.faddr 0 (.t 3)⟩,⟨some 5,none,.load 1 false (.t 4)⟩] false) (.blk 0 (.seq (.ops [⟨some 10,none,.bin .eql (.t 5) (.c (.int .i64 6))⟩,⟨some 9,none,.mv (.t 10)⟩] false) (.cond (.t 9) (.ops [⟨some 11,none,.load 1 false (.t 2)⟩,⟨some 12,none,.mkfn (.func nodeC) [] [(.t 2),(.t 3)]⟩,⟨some 13,none,.call within [(.t 11),(.c (.bool false)),(.t 12)]⟩] false) (.seq (.ops [⟨some 15,none,.bin .eql (.t 5) (.c (.int .i64 7))⟩,⟨some 14,none,.mv (.t 15)⟩] false) (.cond (.t 14) (.seq (.ops [⟨some 16,none,.load 1 false (.t 2)⟩,⟨some 17,none,.load 6 true (.t 3)⟩,⟨some 18,none,.call kids [(.t 16),(.t 17)]⟩] false) (.ops [⟨some 19,none,.load 1 false (.t 2)⟩,⟨some 20,none,.load 1 false (.t 2)⟩,⟨some 21,none,.nilCheck (.t 20)⟩,⟨some 22,none,.faddr 1 (.t 21)⟩,⟨some 23,none,.load 1 false (.t 22)⟩,⟨some 24,none,.nilCheck (.t 23)⟩,⟨some 25,none,.faddr 0 (.t 24)⟩,⟨some 26,none,.load 1 false (.t 25)⟩,⟨some 27,none,.load 6 true (.t 3)⟩,⟨some 28,none,.callE bind [(.t 19),(.t 26),(.t 27),(.c (.int .i64 4))]⟩] true)) (.seq (.ops [⟨some 30,none,.bin .eql (.t 5) (.c (.int .i64 8))⟩,⟨some 29,none,.mv (.t 30)⟩] false) (.cond (.t 29) (.seq (.ops [⟨some 31,none,.load 1 false (.t 2)⟩,⟨some 32,none,.load 6 true (.t 3)⟩,⟨some 33,none,.call mention [(.t 31),(.t 32),(.c (.bool true))]⟩] false) (.ops [⟨some 34,none,.load 1 false (.t 2)⟩,⟨some 35,none,.load 6 true (.t 3)⟩,⟨some 36,none,.call kids [(.t 34),(.t 35)]⟩] false)) (.seq (.ops [⟨some 38,none,.bin .eql (.t 5) (.c (.int .i64 23))⟩,⟨some 37,none,.mv (.t 38)⟩] false) (.cond (.t 37) (.ops [⟨some 39,none,.load 1 false (.t 2)⟩,⟨some 40,none,.load 6 true (.t 3)⟩,⟨some 41,none,.call mention [(.t 39),(.t 40),(.c (.bool false))]⟩] false) (.seq (.ops [⟨some 43,none,.bin .eql (.t 5) (.c (.int .i64 28))⟩,⟨some 42,none,.mv (.t 43)⟩] false) (.cond (.t 42) (.ops [⟨some 44,none,.load 1 false (.t 2)⟩,⟨some 45,none,.faddr 5 (.t 3)⟩,⟨some 46,none,.load 1 false (.t 45)⟩,⟨some 47,none,.call closed [(.t 44),(.t 46),(.c (.bool true))]⟩] false) (.ops [⟨some 6,none,.load 1 false (.t 2)⟩,⟨some 7,none,.load 6 true (.t 3)⟩,⟨some 8,none,.call kids [(.t 6),(.t 7)]⟩] false)))))))))))))) }
def irScNodeC (kids : Nat) : IFn := { nt := 5, res := [], body := ( .ops [⟨some 2,none,.load 1 false (.t 0)⟩,⟨some 3,none,.load 6 true (.t 1)⟩,⟨some 4,none,.call kids [(.t 2),(.t 3)]⟩] false) }
def irScKids (node tn : Nat) : IFn := { nt := 17, res := [], body := ( .seq (.ops [⟨some 3,none,.box tn 6 (.t 1)⟩] false) (.seq (.ops [⟨some 6,none,.faddr 5 (.t 3)⟩,⟨some 7,none,.load 1 false (.t 6)⟩,⟨some 8,none,.lenL (.t 7)⟩,⟨some 9,none,.mv (.c (.int .i64 0))⟩] false) (.blk 0 (.loop (.seq (.ops [⟨some 10,none,.bin .lss (.t 9) (.t 8)⟩] false) (.seq (.cond (.t 10) (.skip) (.exit 0)) (.seq (.blk 1 (.seq (.ops [⟨some 11,none,.iaddr 6 (.t 7) (.t 9)⟩,⟨some 12,none,.load 6 true (.t 11)⟩,⟨some 5,none,.alloc tn [(.int .i64 0),(.int .i64 0),(.int .i64 0),(.str []),(.int .i64 0),(.sl true 6 [])]⟩,⟨none,none,.store 6 (.t 5) (.t 12)⟩] false) (.ops [⟨some 13,none,.mv (.t 0)⟩,⟨some 14,none,.load 6 true (.t 5)⟩,⟨some 15,none,.call node [(.t 13),(.t 14)]⟩] false))) (.ops [⟨some 16,none,.bin .add (.t 9) (.c (.int .i64 1))⟩,⟨some 9,none,.mv (.t 16)⟩] false)))))))) }
def irScMention (find wrong tn mn : Nat) : IFn := { nt := 63, res := [], body := ( .seq (.ops [⟨some 4,none,.box tn 6 (.t 1)⟩] false) (.seq (.ops [⟨some 9,none,.mv (.t 0)⟩,⟨some 10,none,.faddr 3 (.t 4)⟩,⟨some 11,none,.load 1 false (.t 10)⟩,⟨some 12,none,.call find [(.t 9),(.t 11)]⟩,⟨some 8,none,.mv (.t 12)⟩,⟨some 13,none,.ext (.t 8) 0⟩,⟨some 14,none,.ext (.t 8) 1⟩,⟨some 6,none,.mv (.t 13)⟩,⟨some 7,none,.mv (.t 14)⟩] false) (.seq (.blk 0 (.seq (.ops [⟨some 16,none,.mv (.t 6)⟩,⟨some 17,none,.bin .lss (.t 16) (.c (.int .i64 0))⟩,⟨some 15,none,.mv (.t 17)⟩] false) (.cond (.t 15) (.ops [⟨some 18,none,.mv (.t 0)⟩,⟨some 19,none,.faddr 4 (.t 4)⟩,⟨some 20,none,.load 1 false (.t 19)⟩,⟨some 21,none,.call wrong [(.t 18),(.t 20),(.c (.int .i64 30))]⟩] false) (.seq (.ops [⟨some 23,none,.mv (.t 2)⟩,⟨some 24,none,.mv (.t 23)⟩,⟨some 25,some (24,true),.mv (.t 0)⟩,⟨some 26,some (24,true),.nilCheck (.t 25)⟩,⟨some 27,some (24,true),.faddr 0 (.t 26)⟩,⟨some 28,some (24,true),.load 1 false (.t 27)⟩,⟨some 29,some (24,true),.nilCheck (.t 28)⟩,⟨some 30,some (24,true),.faddr 0 (.t 29)⟩,⟨some 31,some (24,true),.load 1 false (.t 30)⟩,⟨some 32,some (24,true),.mv (.t 6)⟩,⟨some 33,some (24,true),.iaddr 4 (.t 31) (.t 32)⟩,⟨some 34,some (24,true),.faddr 1 (.t 33)⟩,⟨some 35,some (24,true),.load 1 false (.t 34)⟩,⟨some 36,some (24,true),.bin .lss (.t 35) (.c (.int .i64 3))⟩,⟨some 37,none,.pick (.t 24) (.t 36) (.c (.bool false))⟩,⟨some 22,none,.mv (.t 37)⟩] false) (.cond (.t 22) (.ops [⟨some 38,none,.mv (.t 0)⟩,⟨some 39,none,.faddr 4 (.t 4)⟩,⟨some 40,none,.load 1 false (.t 39)⟩,⟨some 41,none,.call wrong [(.t 38),(.t 40),(.c (.int .i64 35))]⟩] false) (.skip)))))) (.ops [⟨some 42,none,.mv (.t 0)⟩,⟨some 43,none,.nilCheck (.t 42)⟩,⟨some 44,none,.faddr 0 (.t 43)⟩,⟨some 45,none,.load 1 false (.t 44)⟩,⟨some 46,none,.mv (.t 0)⟩,⟨some 47,none,.nilCheck (.t 46)⟩,⟨some 48,none,.faddr 0 (.t 47)⟩,⟨some 49,none,.load 1 false (.t 48)⟩,⟨some 50,none,.nilCheck (.t 49)⟩,⟨some 51,none,.faddr 1 (.t 50)⟩,⟨some 52,none,.load 1 false (.t 51)⟩,⟨some 53,none,.faddr 4 (.t 4)⟩,⟨some 54,none,.load 1 false (.t 53)⟩,⟨some 55,none,.mv (.t 6)⟩,⟨some 56,none,.mv (.t 2)⟩,⟨some 57,none,.mv (.t 7)⟩,⟨some 58,none,.build [(.int .i64 0),(.int .i64 0),(.bool false),(.int .i64 0)] [(0,1,(.t 54)),(1,1,(.t 55)),(2,1,(.t 56)),(3,1,(.t 57))]⟩,⟨some 59,none,.bslice 4 [(.t 58)]⟩,⟨some 60,none,.app 4 32 mn (.t 52) (.t 59)⟩,⟨some 61,none,.nilCheck (.t 45)⟩,⟨some 62,none,.faddr 1 (.t 61)⟩,⟨none,none,.store 1 (.t 62) (.t 60)⟩] true)))) }
def irScFind : IFn := { nt := 50, res := [.t 4,.t 5], body := ( .seq (.ops [⟨some 4,none,.mv (.c (.int .i64 0))⟩,⟨some 5,none,.mv (.c (.int .i64 0))⟩] false) (.seq (.seq (.ops [⟨some 11,none,.mv (.t 0)⟩,⟨some 12,none,.nilCheck (.t 11)⟩,⟨some 13,none,.faddr 1 (.t 12)⟩,⟨some 14,none,.load 1 false (.t 13)⟩,⟨some 6,none,.mv (.t 14)⟩] false) (.blk 0 (.loop (.seq (.seq (.ops [⟨some 15,none,.mv (.t 6)⟩,⟨some 16,none,.isNilP true (.t 15)⟩] false) (.cond (.t 16) (.skip) (.exit 0))) (.seq (.blk 1 (.seq (.seq (.ops [⟨some 22,none,.mv (.t 6)⟩,⟨some 23,none,.nilCheck (.t 22)⟩,⟨some 24,none,.faddr 0 (.t 23)⟩,⟨some 25,none,.load 1 false (.t 24)⟩,⟨some 26,none,.mv (.t 1)⟩,⟨some 27,none,.lkp true (.str []) false [(.int .i64 0)] (.t 25) (.t 26)⟩,⟨some 21,none,.mv (.t 27)⟩,⟨some 28,none,.ext (.t 21) 0⟩,⟨some 29,none,.ext (.t 21) 1⟩,⟨some 7,none,.mv (.t 28)⟩,⟨some 8,none,.mv (.t 29)⟩] false) (.seq (.ops [⟨some 30,none,.mv (.t 8)⟩] false) (.cond (.t 30) (.seq (.ops [⟨some 31,none,.mv (.t 7)⟩,⟨some 32,none,.mv (.t 5)⟩,⟨some 4,none,.mv (.t 31)⟩,⟨some 5,none,.mv (.t 32)⟩] false) (.ret)) (.skip)))) (.seq (.ops [⟨some 33,none,.mv (.t 6)⟩,⟨some 34,none,.nilCheck (.t 33)⟩,⟨some 35,none,.faddr 1 (.t 34)⟩,⟨some 36,none,.load 1 false (.t 35)⟩] false) (.cond (.t 36) (.ops [⟨some 37,none,.mv (.t 5)⟩,⟨some 38,none,.bin .add (.t 37) (.c (.int .i64 1))⟩,⟨some 5,none,.mv (.t 38)⟩] false) (.skip))))) (.ops [⟨some 17,none,.mv (.t 6)⟩,⟨some 18,none,.nilCheck (.t 17)⟩,⟨some 19,none,.faddr 2 (.t 18)⟩,⟨some 20,none,.load 1 false (.t 19)⟩,⟨some 6,none,.mv (.t 20)⟩] false)))))) (.seq (.seq (.ops [⟨some 40,none,.mv (.t 0)⟩,⟨some 41,none,.nilCheck (.t 40)⟩,⟨some 42,none,.faddr 2 (.t 41)⟩,⟨some 43,none,.load 1 false (.t 42)⟩,⟨some 44,none,.mv (.t 1)⟩,⟨some 45,none,.lkp true (.str []) false [(.int .i64 0)] (.t 43) (.t 44)⟩,⟨some 39,none,.mv (.t 45)⟩,⟨some 46,none,.ext (.t 39) 0⟩,⟨some 47,none,.ext (.t 39) 1⟩,⟨some 9,none,.mv (.t 46)⟩,⟨some 10,none,.mv (.t 47)⟩] false) (.seq (.ops [⟨some 48,none,.mv (.t 10)⟩] false) (.cond (.t 48) (.seq (.ops [⟨some 49,none,.mv (.t 9)⟩,⟨some 4,none,.mv (.t 49)⟩,⟨some 5,none,.mv (.c (.int .i64 0))⟩] false) (.ret)) (.skip)))) (.seq (.ops [⟨some 4,none,.mv (.c (.int .i64 (-1)))⟩,⟨some 5,none,.mv (.c (.int .i64 0))⟩] false) (.ret))))) }
def irScClosed (within closedC tp ts : Nat) : IFn := { nt := 13, res := [], body := ( .seq (.ops [⟨some 3,none,.box tp 1 (.t 0)⟩,⟨some 4,none,.box ts 1 (.t 1)⟩] false) (.seq (.seq (.ops [⟨some 6,none,.load 1 false (.t 4)⟩,⟨some 7,none,.lenL (.t 6)⟩,⟨some 8,none,.bin .neq (.t 7) (.c (.int .i64 3))⟩] false) (.cond (.t 8) (.ret) (.skip))) (.ops [⟨some 9,none,.load 1 false (.t 3)⟩,⟨some 10,none,.mv (.t 2)⟩,⟨some 11,none,.mkfn (.func closedC) [] [(.t 4),(.t 3)]⟩,⟨some 12,none,.call within [(.t 9),(.t 10),(.t 11)]⟩] false))) }
def irScClosedC (bind node tn : Nat) : IFn := { nt := 29, res := [], body := ( .seq (.seq (.ops [⟨some 4,none,.load 1 false (.t 0)⟩,⟨some 5,none,.iaddr 6 (.t 4) (.c (.int .i64 0))⟩,⟨some 6,none,.faddr 5 (.t 5)⟩,⟨some 7,none,.load 1 false (.t 6)⟩,⟨some 8,none,.lenL (.t 7)⟩,⟨some 9,none,.mv (.c (.int .i64 0))⟩] false) (.blk 0 (.loop (.seq (.ops [⟨some 10,none,.bin .lss (.t 9) (.t 8)⟩] false) (.seq (.cond (.t 10) (.skip) (.exit 0)) (.seq (.blk 1 (.seq (.ops [⟨some 11,none,.iaddr 6 (.t 7) (.t 9)⟩,⟨some 12,none,.load 6 true (.t 11)⟩,⟨some 3,none,.alloc tn [(.int .i64 0),(.int .i64 0),(.int .i64 0),(.str []),(.int .i64 0),(.sl true 6 [])]⟩,⟨none,none,.store 6 (.t 3) (.t 12)⟩] false) (.ops [⟨some 13,none,.load 1 false (.t 1)⟩,⟨some 14,none,.load 1 false (.t 1)⟩,⟨some 15,none,.nilCheck (.t 14)⟩,⟨some 16,none,.faddr 1 (.t 15)⟩,⟨some 17,none,.load 1 false (.t 16)⟩,⟨some 18,none,.nilCheck (.t 17)⟩,⟨some 19,none,.faddr 0 (.t 18)⟩,⟨some 20,none,.load 1 false (.t 19)⟩,⟨some 21,none,.load 6 true (.t 3)⟩,⟨some 22,none,.callE bind [(.t 13),(.t 20),(.t 21),(.c (.int .i64 3))]⟩] true))) (.ops [⟨some 23,none,.bin .add (.t 9) (.c (.int .i64 1))⟩,⟨some 9,none,.mv (.t 23)⟩] false))))))) (.ops [⟨some 24,none,.load 1 false (.t 1)⟩,⟨some 25,none,.load 1 false (.t 0)⟩,⟨some 26,none,.iaddr 6 (.t 25) (.c (.int .i64 2))⟩,⟨some 27,none,.load 6 true (.t 26)⟩,⟨some 28,none,.callE node [(.t 24),(.t 27)]⟩] true)) }
def irScOf (bind closed srt cmp tn tm tb bd mn ed : Nat) : IFn := { nt := 69, res := [.cell 2 3 true], body := ( .seq (.ops [⟨some 1,none,.box tn 6 (.t 0)⟩,⟨some 2,none,.alloc tm [(.sl true 4 []),(.sl true 4 []),(.sl true 2 [])]⟩] false) (.seq (.ops [⟨some 3,none,.allocU tm [(.sl true 4 []),(.sl true 4 []),(.sl true 2 [])] [(0,4, bd),(1,4, mn),(2,1000002, ed)]⟩] false) (.seq (.ops [⟨some 9,none,.mkMap⟩,⟨some 10,none,.build [.nilp,.nilp,.nilm,(.int .i64 0)] [(0,1,(.t 3)),(2,1,(.t 9))]⟩,⟨some 11,none,.box tb 4 (.t 10)⟩,⟨some 4,none,.mv (.t 11)⟩] false) (.seq (.seq (.ops [⟨some 12,none,.faddr 5 (.t 1)⟩,⟨some 13,none,.load 1 false (.t 12)⟩,⟨some 14,none,.lenL (.t 13)⟩,⟨some 15,none,.mv (.c (.int .i64 0))⟩] false) (.blk 0 (.loop (.seq (.ops [⟨some 16,none,.bin .lss (.t 15) (.t 14)⟩] false) (.seq (.cond (.t 16) (.skip) (.exit 0)) (.seq (.blk 1 (.seq (.ops [⟨some 17,none,.mv (.t 15)⟩,⟨some 18,none,.iaddr 6 (.t 13) (.t 15)⟩,⟨some 19,none,.load 6 true (.t 18)⟩,⟨some 6,none,.alloc tn [(.int .i64 0),(.int .i64 0),(.int .i64 0),(.str []),(.int .i64 0),(.sl true 6 [])]⟩,⟨some 5,none,.mv (.t 17)⟩,⟨none,none,.store 6 (.t 6) (.t 19)⟩] false) (.seq (.ops [⟨some 20,none,.mv (.t 4)⟩,⟨some 21,none,.mv (.t 5)⟩,⟨some 22,none,.nilCheck (.t 20)⟩,⟨some 23,none,.faddr 3 (.t 22)⟩,⟨none,none,.store 1 (.t 23) (.t 21)⟩] false) (.seq (.ops [⟨some 24,none,.faddr 0 (.t 6)⟩,⟨some 25,none,.load 1 false (.t 24)⟩] false) (.blk 2 (.seq (.ops [⟨some 27,none,.bin .eql (.t 25) (.c (.int .i64 2))⟩,⟨some 26,none,.mv (.t 27)⟩] false) (.cond (.t 26) (.ops [⟨some 28,none,.mv (.t 4)⟩,⟨some 29,none,.mv (.t 4)⟩,⟨some 30,none,.nilCheck (.t 29)⟩,⟨some 31,none,.faddr 2 (.t 30)⟩,⟨some 32,none,.load 1 false (.t 31)⟩,⟨some 33,none,.load 6 true (.t 6)⟩,⟨some 34,none,.callE bind [(.t 28),(.t 32),(.t 33),(.c (.int .i64 1))]⟩] true) (.seq (.ops [⟨some 36,none,.bin .eql (.t 25) (.c (.int .i64 3))⟩,⟨some 35,none,.mv (.t 36)⟩] false) (.cond (.t 35) (.ops [⟨some 37,none,.mv (.t 4)⟩,⟨some 38,none,.mv (.t 4)⟩,⟨some 39,none,.nilCheck (.t 38)⟩,⟨some 40,none,.faddr 2 (.t 39)⟩,⟨some 41,none,.load 1 false (.t 40)⟩,⟨some 42,none,.load 6 true (.t 6)⟩,⟨some 43,none,.callE bind [(.t 37),(.t 41),(.t 42),(.c (.int .i64 2))]⟩] true) (.skip)))))))))) (.ops [⟨some 44,none,.bin .add (.t 15) (.c (.int .i64 1))⟩,⟨some 15,none,.mv (.t 44)⟩] false))))))) (.seq (.seq (.ops [⟨some 45,none,.faddr 5 (.t 1)⟩,⟨some 46,none,.load 1 false (.t 45)⟩,⟨some 47,none,.lenL (.t 46)⟩,⟨some 48,none,.mv (.c (.int .i64 0))⟩] false) (.blk 3 (.loop (.seq (.ops [⟨some 49,none,.bin .lss (.t 48) (.t 47)⟩] false) (.seq (.cond (.t 49) (.skip) (.exit 3)) (.seq (.blk 4 (.seq (.ops [⟨some 50,none,.mv (.t 48)⟩,⟨some 51,none,.iaddr 6 (.t 46) (.t 48)⟩,⟨some 52,none,.load 6 true (.t 51)⟩,⟨some 8,none,.alloc tn [(.int .i64 0),(.int .i64 0),(.int .i64 0),(.str []),(.int .i64 0),(.sl true 6 [])]⟩,⟨some 7,none,.mv (.t 50)⟩,⟨none,none,.store 6 (.t 8) (.t 52)⟩] false) (.seq (.ops [⟨some 53,none,.mv (.t 4)⟩,⟨some 54,none,.mv (.t 7)⟩,⟨some 55,none,.nilCheck (.t 53)⟩,⟨some 56,none,.faddr 3 (.t 55)⟩,⟨none,none,.store 1 (.t 56) (.t 54)⟩] false) (.seq (.ops [⟨some 57,none,.faddr 0 (.t 8)⟩,⟨some 58,none,.load 1 false (.t 57)⟩,⟨some 59,none,.bin .eql (.t 58) (.c (.int .i64 3))⟩] false) (.cond (.t 59) (.ops [⟨some 60,none,.mv (.t 4)⟩,⟨some 61,none,.faddr 5 (.t 8)⟩,⟨some 62,none,.load 1 false (.t 61)⟩,⟨some 63,none,.call closed [(.t 60),(.t 62),(.c (.bool false))]⟩] false) (.skip)))))) (.ops [⟨some 64,none,.bin .add (.t 48) (.c (.int .i64 1))⟩,⟨some 48,none,.mv (.t 64)⟩] false))))))) (.seq (.ops [⟨some 65,none,.faddr 2 (.t 3)⟩,⟨some 66,none,.load 1 false (.t 65)⟩,⟨some 67,none,.call srt [(.t 66),(.c (.fn cmp))]⟩] false) (.seq (.ops [⟨some 68,none,.load 3 true (.t 3)⟩,⟨none,none,.store 3 (.t 2) (.t 68)⟩] false) (.ret)))))))) }
def irScCmp (cmpI ed : Nat) : IFn := { nt := 10, res := [.t 4], body := ( .seq (.ops [⟨some 2,none,.box ed 2 (.t 0)⟩,⟨some 3,none,.box ed 2 (.t 1)⟩,⟨some 4,none,.mv (.c (.int .i64 0))⟩] false) (.seq (.ops [⟨some 5,none,.faddr 0 (.t 2)⟩,⟨some 6,none,.load 1 false (.t 5)⟩,⟨some 7,none,.faddr 0 (.t 3)⟩,⟨some 8,none,.load 1 false (.t 7)⟩,⟨some 9,none,.call cmpI [(.t 6),(.t 8)]⟩,⟨some 4,none,.mv (.t 9)⟩] false) (.ret))) }
def irScWritten (contF wrC tm tint : Nat) : IFn := { nt := 9, res := [.t 4], body := ( .seq (.ops [⟨some 2,none,.box tm 3 (.t 0)⟩,⟨some 3,none,.box tint 1 (.t 1)⟩,⟨some 4,none,.mv (.c (.bool false))⟩] false) (.seq (.ops [⟨some 5,none,.faddr 1 (.t 2)⟩,⟨some 6,none,.load 1 false (.t 5)⟩,⟨some 7,none,.mkfn (.func wrC) [] [(.t 3)]⟩,⟨some 8,none,.call contF [(.t 6),(.t 7)]⟩,⟨some 4,none,.mv (.t 8)⟩] false) (.ret))) }
def irScWrittenC (mn : Nat) : IFn := { nt := 12, res := [.t 3], body := ( .seq (.ops [⟨some 2,none,.box mn 4 (.t 0)⟩,⟨some 3,none,.mv (.c (.bool false))⟩] false) (.seq (.ops [⟨some 4,none,.faddr 1 (.t 2)⟩,⟨some 5,none,.load 1 false (.t 4)⟩,⟨some 6,none,.load 1 false (.t 1)⟩,⟨some 7,none,.bin .eql (.t 5) (.t 6)⟩,⟨some 8,none,.mv (.t 7)⟩,⟨some 9,some (8,true),.faddr 2 (.t 2)⟩,⟨some 10,some (8,true),.load 1 false (.t 9)⟩,⟨some 11,none,.pick (.t 8) (.t 10) (.c (.bool false))⟩,⟨some 3,none,.mv (.t 11)⟩] false) (.ret))) }
def irScContF (idxF : Nat) : IFn := { nt := 9, res := [.t 4], body := ( .seq (.ops [⟨some 4,none,.mv (.c (.bool false))⟩] false) (.seq (.ops [⟨some 5,none,.mv (.t 0)⟩,⟨some 6,none,.mv (.t 1)⟩,⟨some 7,none,.call idxF [(.t 5),(.t 6)]⟩,⟨some 8,none,.bin .geq (.t 7) (.c (.int .i64 0))⟩,⟨some 4,none,.mv (.t 8)⟩] false) (.ret))) }
def irScIdxF : IFn := { nt := 19, res := [.t 4], body := ( .seq (.ops [⟨some 4,none,.mv (.c (.int .i64 0))⟩] false) (.seq (.seq (.ops [⟨some 6,none,.mv (.t 0)⟩,⟨some 7,none,.lenL (.t 6)⟩,⟨some 8,none,.mv (.c (.int .i64 0))⟩] false) (.blk 0 (.loop (.seq (.ops [⟨some 9,none,.bin .lss (.t 8) (.t 7)⟩] false) (.seq (.cond (.t 9) (.skip) (.exit 0)) (.seq (.blk 1 (.seq (.ops [⟨some 10,none,.mv (.t 8)⟩,⟨some 5,none,.mv (.t 10)⟩] false) (.seq (.ops [⟨some 11,none,.mv (.t 1)⟩,⟨some 12,none,.mv (.t 0)⟩,⟨some 13,none,.mv (.t 5)⟩,⟨some 14,none,.iaddr 4 (.t 12) (.t 13)⟩,⟨some 15,none,.load 4 true (.t 14)⟩,⟨some 16,none,.callv (.t 11) [(.t 15)]⟩] false) (.cond (.t 16) (.seq (.ops [⟨some 17,none,.mv (.t 5)⟩,⟨some 4,none,.mv (.t 17)⟩] false) (.ret)) (.skip))))) (.ops [⟨some 18,none,.bin .add (.t 8) (.c (.int .i64 1))⟩,⟨some 8,none,.mv (.t 18)⟩] false))))))) (.seq (.ops [⟨some 4,none,.mv (.c (.int .i64 (-1)))⟩] false) (.ret)))) }
section
def ApR (P:N→Nat→Prop):PR→Prop
 | .ok m j=>P m j
 | _=>True
def G.one:G→Bool
 | .param | .tfield | .kind | .expr | .entry=>true
 | _=>false
def G.flat:G→Prop
 | .list o _ | .listL o _ _=>o.one=true
 | _=>True
theorem G.one_flat {o:G} (h:o.one=true):o.flat∧o.strict=true:=by cases o<;>simp [G.one] at h<;>exact ⟨trivial,rfl⟩
section
variable {L:List Tk} {P:N→Nat→Prop}
theorem ApR.want {k:Nat} {x:Bs} {h:Nat→PR} (hh:ApR P (h (k+1))):ApR P (wantR L k x h):=by
 unfold wantR
 split
 · exact hh
 · trivial
theorem ApR.word {k:Nat} {h:Bs→Nat→PR} (hh:ApR P (h (txT L k) (k+1))):ApR P (wordR L k h):=by
 unfold wordR
 split
 · exact hh
 · trivial
theorem ApR.ite {c:Prop} [Decidable c] {a b:PR} (ha:ApR P a) (hb:ApR P b):ApR P (if c then a else b):=by
 split
 · exact ha
 · exact hb
theorem ApR.ok {m:N} {j:Nat} (h:P m j):ApR P (.ok m j):=h
end
end
structure SBd where
 a:Int
 k:Int
 w:Bs
 i:Int
 deriving DecidableEq
instance:Inhabited SBd:=⟨⟨0,0,[],0⟩⟩
structure Mn where
 a:Int
 t:Int
 wr:Bool
 far:Int
 deriving DecidableEq
structure SM where
 bs:List SBd
 ms:List Mn
 bad:List (Int × Int)
def encBd (b:SBd):List D:=[.int .i64 b.a,.int .i64 b.k,.str b.w,.int .i64 b.i]
def encMn (m:Mn):List D:=[.int .i64 m.a,.int .i64 m.t,.bool m.wr,.int .i64 m.far]
def encBad (x:Int × Int):List D:=[.int .i64 x.1,.int .i64 x.2]
def SM.enc (S:SM):List D:=[.sl S.bs.isEmpty 4 (S.bs.map encBd),.sl S.ms.isEmpty 4 (S.ms.map encMn),.sl S.bad.isEmpty 2 (S.bad.map encBad)]
abbrev Nms:=List (Bs × Int)
def nmGet (w:Bs):Nms→Option Int
 | []=>none
 | e :: r=>if w=e.1 then some e.2 else nmGet w r
def nmPut (w:Bs) (v:Int):Nms→Nms
 | []=>[(w,v)]
 | e :: r=>if w=e.1 then (w,v) :: r else e :: nmPut w v r
theorem nmGet_put (w u:Bs) (v:Int):∀ l:Nms,nmGet u (nmPut w v l)=if u=w then some v else nmGet u l
 | []=>by simp [nmPut,nmGet]
 | e :: r => by
   simp only [nmPut]
   by_cases h:w=e.1
   · rw [if_pos h]
     simp only [nmGet,← h]
     by_cases hu:u=w
     · simp [hu]
     · simp [hu]
   · rw [if_neg h]
     simp only [nmGet,nmGet_put w u v r]
     by_cases hu:u=e.1
     · have:u ≠ w:=fun e'=>h (e' ▸ hu)
       rw [if_pos hu,if_neg this,if_pos hu]
     · rw [if_neg hu,if_neg hu]
structure Frm where
 es:Nms
 lam:Bool
def SM.bind (S:SM) (kind item:Int) (n:N) (dup:Bool):SM:=⟨S.bs++[⟨n.at_,kind,n.w,item⟩],S.ms,if dup then S.bad++[(n.at_,31)] else S.bad⟩
def SM.men (S:SM) (n:N) (wr:Bool) (p:Int × Int):SM :=
 ⟨S.bs,S.ms++[⟨n.at_,p.1,wr,p.2⟩],if p.1 < 0 then S.bad++[(n.at_,30)] else if wr∧(S.bs.getD p.1.toNat default).k < 3 then S.bad++[(n.at_,35)] else S.bad⟩
def findP (G:Nms) (w:Bs):List Frm→Int→Int × Int
 | [], _ => match nmGet w G with
   | some i=>(i,0)
   | none=>(-1,0)
 | f :: r, far => match nmGet w f.es with
   | some i=>(i,far)
   | none=>findP G w r (if f.lam then far+1 else far)
def bindP (kind item:Int) (n:N) (fr:Nms) (S:SM):Nms × SM:=(nmPut n.w S.bs.length fr,S.bind kind item n (nmGet n.w fr).isSome)
def bindsP (item:Int):List N→Nms→SM→Nms × SM
 | [],fr,S=>(fr,S)
 | n :: r,fr,S=>bindsP item r (bindP 3 item n fr S).1 (bindP 3 item n fr S).2
mutual
def nodeP (G:Nms) (item:Int):N→List Frm→Nms→Bool→SM→Nms × SM
 | .mk k f t w a z ks, E, fr, lam, S =>
   if k=6 then (fr,(kidsP G item ks (⟨fr,lam⟩ :: E) [] false S).2)
   else if k=7 then bindP 4 item (.mk k f t w a z ks) (kidsP G item ks E fr lam S).1 (kidsP G item ks E fr lam S).2
   else if k=8 then kidsP G item ks E fr lam (S.men (.mk k f t w a z ks) true (findP G w (⟨fr,lam⟩ :: E) 0))
   else if k=23 then (fr,S.men (.mk k f t w a z ks) false (findP G w (⟨fr,lam⟩ :: E) 0))
   else if k=28 then (fr,sclosedP G item ks (⟨fr,lam⟩ :: E) true S)
   else kidsP G item ks E fr lam S
def kidsP (G:Nms) (item:Int):List N→List Frm→Nms→Bool→SM→Nms × SM
 | [],E,fr,lam,S=>(fr,S)
 | n :: r,E,fr,lam,S=>kidsP G item r E (nodeP G item n E fr lam S).1 lam (nodeP G item n E fr lam S).2
def sclosedP (G:Nms) (item:Int):List N→List Frm→Bool→SM→SM
 | [],_,_,S=>S
 | [_],_,_,S=>S
 | [_,_],_,_,S=>S
 | [p,_,b],E,lam,S=>(nodeP G item b E (bindsP item p.ks [] S).1 lam (bindsP item p.ks [] S).2).2
 | _ :: _ :: _ :: _ :: _,_,_,S=>S
end
theorem nodeP_mk (G:Nms) (item k f t:Int) (w:Bs) (a:Int) (z:Bool) (ks:List N) (E:List Frm) (fr:Nms) (lam:Bool) (S:SM):nodeP G item (.mk k f t w a z ks) E fr lam S =
 if k=6 then (fr,(kidsP G item ks (⟨fr,lam⟩ :: E) [] false S).2)
 else if k=7 then bindP 4 item (.mk k f t w a z ks) (kidsP G item ks E fr lam S).1 (kidsP G item ks E fr lam S).2
 else if k=8 then kidsP G item ks E fr lam (S.men (.mk k f t w a z ks) true (findP G w (⟨fr,lam⟩ :: E) 0))
 else if k=23 then (fr,S.men (.mk k f t w a z ks) false (findP G w (⟨fr,lam⟩ :: E) 0))
 else if k=28 then (fr,sclosedP G item ks (⟨fr,lam⟩ :: E) true S)
 else kidsP G item ks E fr lam S:=by rw [nodeP]
theorem kidsP_nil (G:Nms) (item:Int) (E:List Frm) (fr:Nms) (lam:Bool) (S:SM):kidsP G item [] E fr lam S=(fr,S):=by rw [kidsP]
theorem kidsP_cons (G:Nms) (item:Int) (n:N) (r:List N) (E:List Frm) (fr:Nms) (lam:Bool) (S:SM):kidsP G item (n :: r) E fr lam S=kidsP G item r E (nodeP G item n E fr lam S).1 lam (nodeP G item n E fr lam S).2:=by rw [kidsP]
theorem sclosedP_three (G:Nms) (item:Int) (p q b:N) (E:List Frm) (lam:Bool) (S:SM):sclosedP G item [p,q,b] E lam S=(nodeP G item b E (bindsP item p.ks [] S).1 lam (bindsP item p.ks [] S).2).2:=by rw [sclosedP]
theorem sclosedP_ne (G:Nms) (item:Int) {l:List N} (h:l.length ≠ 3) (E:List Frm) (lam:Bool) (S:SM):sclosedP G item l E lam S=S:=by
 match l,h with
 | [],_=>rw [sclosedP]
 | [_],_=>rw [sclosedP]
 | [_,_],_=>rw [sclosedP]
 | [_,_,_],h=>exact absurd rfl h
 | _ :: _ :: _ :: _ :: _,_=>rw [sclosedP]
def topsP:Int→List N→Nms→SM→Nms × SM
 | _,[],G,S=>(G,S)
 | i,n :: r,G,S=>if n.k=2 then topsP (i+1) r (bindP 1 i n G S).1 (bindP 1 i n G S).2 else if n.k=3 then topsP (i+1) r (bindP 2 i n G S).1 (bindP 2 i n G S).2 else topsP (i+1) r G S
def defsP (G:Nms):Int→List N→SM→SM
 | _,[],S=>S
 | i,n :: r,S=>defsP G (i+1) r (if n.k=3 then sclosedP G i n.ks [] false S else S)
def allP (n:N):SM:=defsP (topsP 0 n.ks [] ⟨[],[],[]⟩).1 0 n.ks (topsP 0 n.ks [] ⟨[],[],[]⟩).2
structure Nm where
 to:Int
 beg:Bool
 lam:Bool
def swordR (bs:List SBd) (x:Nm):Bs:=(bs.getD x.to.toNat default).w
def dupR (bs:List SBd) (w:Bs):List Nm→Bool
 | []=>false
 | x :: r=>if x.beg then false else if swordR bs x=w then true else dupR bs w r
def lookR (bs:List SBd) (w:Bs):List Nm→Int→Option (Int × Int)
 | [],_=>none
 | x :: r,far=>if x.beg then lookR bs w r (if x.lam then far+1 else far) else if swordR bs x=w then some (x.to,far) else lookR bs w r far
def findR (bs:List SBd) (w:Bs) (L:List Nm):Int × Int:=match lookR bs w L 0 with
 | none=>(-1,0)
 | some (i,far)=>if (bs.getD i.toNat default).k < 3 then (i,0) else (i,far)
def bindR (kind item:Int) (n:N) (L:List Nm) (S:SM):List Nm × SM:=(⟨S.bs.length,false,false⟩ :: L,S.bind kind item n (dupR S.bs n.w L))
def bindsR (item:Int):List N→List Nm→SM→List Nm × SM
 | [],L,S=>(L,S)
 | n :: r,L,S=>bindsR item r (bindR 3 item n L S).1 (bindR 3 item n L S).2
mutual
def nodeR (item:Int):N→List Nm→SM→List Nm × SM
 | .mk k f t w a z ks, L, S =>
   if k=6 then (L,(kidsR item ks (⟨0,true,false⟩ :: L) S).2)
   else if k=7 then bindR 4 item (.mk k f t w a z ks) (kidsR item ks L S).1 (kidsR item ks L S).2
   else if k=8 then kidsR item ks L (S.men (.mk k f t w a z ks) true (findR S.bs w L))
   else if k=23 then (L,S.men (.mk k f t w a z ks) false (findR S.bs w L))
   else if k=28 then (L,sclosedR item ks L true S)
   else kidsR item ks L S
def kidsR (item:Int):List N→List Nm→SM→List Nm × SM
 | [],L,S=>(L,S)
 | n :: r,L,S=>kidsR item r (nodeR item n L S).1 (nodeR item n L S).2
def sclosedR (item:Int):List N→List Nm→Bool→SM→SM
 | [],_,_,S=>S
 | [_],_,_,S=>S
 | [_,_],_,_,S=>S
 | [p,_,b],L,lam,S=>(nodeR item b (bindsR item p.ks (⟨0,true,lam⟩ :: L) S).1 (bindsR item p.ks (⟨0,true,lam⟩ :: L) S).2).2
 | _ :: _ :: _ :: _ :: _,_,_,S=>S
end
theorem nodeR_mk (item k f t:Int) (w:Bs) (a:Int) (z:Bool) (ks:List N) (L:List Nm) (S:SM):nodeR item (.mk k f t w a z ks) L S =
 if k=6 then (L,(kidsR item ks (⟨0,true,false⟩ :: L) S).2)
 else if k=7 then bindR 4 item (.mk k f t w a z ks) (kidsR item ks L S).1 (kidsR item ks L S).2
 else if k=8 then kidsR item ks L (S.men (.mk k f t w a z ks) true (findR S.bs w L))
 else if k=23 then (L,S.men (.mk k f t w a z ks) false (findR S.bs w L))
 else if k=28 then (L,sclosedR item ks L true S)
 else kidsR item ks L S:=by rw [nodeR]
theorem kidsR_nil (item:Int) (L:List Nm) (S:SM):kidsR item [] L S=(L,S):=by rw [kidsR]
theorem kidsR_cons (item:Int) (n:N) (r:List N) (L:List Nm) (S:SM):kidsR item (n :: r) L S=kidsR item r (nodeR item n L S).1 (nodeR item n L S).2:=by rw [kidsR]
theorem sclosedR_three (item:Int) (p q b:N) (L:List Nm) (lam:Bool) (S:SM):sclosedR item [p,q,b] L lam S=(nodeR item b (bindsR item p.ks (⟨0,true,lam⟩ :: L) S).1 (bindsR item p.ks (⟨0,true,lam⟩ :: L) S).2).2:=by rw [sclosedR]
theorem sclosedR_ne (item:Int) {l:List N} (h:l.length ≠ 3) (L:List Nm) (lam:Bool) (S:SM):sclosedR item l L lam S=S:=by
 match l,h with
 | [],_=>rw [sclosedR]
 | [_],_=>rw [sclosedR]
 | [_,_],_=>rw [sclosedR]
 | [_,_,_],h=>exact absurd rfl h
 | _ :: _ :: _ :: _ :: _,_=>rw [sclosedR]
def topsR:Int→List N→List Nm→SM→List Nm × SM
 | _,[],L,S=>(L,S)
 | i,n :: r,L,S=>if n.k=2 then topsR (i+1) r (bindR 1 i n L S).1 (bindR 1 i n L S).2 else if n.k=3 then topsR (i+1) r (bindR 2 i n L S).1 (bindR 2 i n L S).2 else topsR (i+1) r L S
def defsR (L:List Nm):Int→List N→SM→SM
 | _,[],S=>S
 | i,n :: r,S=>defsR L (i+1) r (if n.k=3 then sclosedR i n.ks L false S else S)
def allR (n:N):SM:=defsR (topsR 0 n.ks [] ⟨[],[],[]⟩).1 0 n.ks (topsR 0 n.ks [] ⟨[],[],[]⟩).2
structure Seg (bs:List SBd) (lo:Bool) (es:Nms) (l:List Nm):Prop where
 get:∀ w,nmGet w es=(l.find? fun x=>decide (swordR bs x=w)).map Nm.to
 ok:∀ x ∈ l,x.beg=false∧0≤x.to∧x.to < bs.length∧(decide ((bs.getD x.to.toNat default).k < 3))=lo
inductive SRel (G:Nms) (bs:List SBd):List Frm→List Nm→Prop
 | top {l:List Nm} (h:Seg bs true G l):SRel G bs [] l
 | up {es:Nms} {lam:Bool} {l r:List Nm} {E:List Frm} (h:Seg bs false es l) (hr:SRel G bs E r):SRel G bs (⟨es,lam⟩ :: E) (l++⟨0,true,lam⟩ :: r)
theorem getD_app {bs:List SBd} {i:Int} (h0:0≤i) (h:i < bs.length) (l:List SBd):(bs++l).getD i.toNat default=bs.getD i.toNat default:=by
 simp only [List.getD_eq_getElem?_getD]
 rw [List.getElem?_append_left (by omega)]
theorem Seg.app {bs:List SBd} {lo:Bool} {es:Nms} {l:List Nm} (h:Seg bs lo es l) (b:List SBd):Seg (bs++b) lo es l:=by
 refine ⟨fun w => ?_,fun x hx => ?_⟩
 · rw [h.get]
   congr 1
   have:∀ l':List Nm,(∀ x ∈ l',x ∈ l)→l'.find? (fun x=>decide (swordR bs x=w))=l'.find? (fun x=>decide (swordR (bs++b) x=w)):=by
    intro l'
    induction l' with
    | nil=>intro _; rfl
    | cons y r ih =>
      intro hh
      obtain ⟨-,h1,h2,-⟩:=h.ok y (hh y (by simp))
      have e:swordR (bs++b) y=swordR bs y:=by unfold swordR; rw [getD_app h1 h2]
      simp only [List.find?_cons]
      rw [e,ih fun x hx=>hh x (by simp [hx])]
   exact this l fun _ h=>h
 · obtain ⟨h1,h2,h3,h4⟩:=h.ok x hx
   refine ⟨h1,h2,by simp; omega,?_⟩
   rw [getD_app h2 h3]; exact h4
theorem SRel.app {G:Nms} {bs:List SBd} {E:List Frm} {L:List Nm} (h:SRel G bs E L) (b:List SBd):SRel G (bs++b) E L:=by
 induction h with
 | top h=>exact .top (h.app b)
 | up h _ ih=>exact .up (h.app b) ih
theorem dup_seg {bs:List SBd} {lo:Bool} {es:Nms} {l:List Nm} (h:Seg bs lo es l) (w:Bs) (r:List Nm) (hr:r=[]∨∃ x r',r=x :: r'∧x.beg=true):dupR bs w (l++r)=(nmGet w es).isSome:=by
 rw [h.get]
 have hok:=h.ok
 clear h
 induction l with
 | nil =>
   rcases hr with rfl | ⟨x,r',rfl,hx⟩
   · rfl
   · simp [dupR,hx]
 | cons y l ih =>
   have:=(hok y (by simp)).1
   simp only [List.cons_append,dupR,this,List.find?_cons]
   by_cases hw:swordR bs y=w
   · simp [hw]
   · simp [hw]
     have:=ih fun x hx=>hok x (by simp [hx])
     rw [this]; simp
theorem look_seg {bs:List SBd} {lo:Bool} {es:Nms} {l:List Nm} (h:Seg bs lo es l) (w:Bs) (r:List Nm) (far:Int):lookR bs w (l++r) far=(match nmGet w es with | some i=>some (i,far) | none=>lookR bs w r far):=by
 rw [h.get]
 have hok:=h.ok
 clear h
 induction l with
 | nil=>rfl
 | cons y l ih =>
   have:=(hok y (by simp)).1
   simp only [List.cons_append,lookR,this,List.find?_cons]
   by_cases hw:swordR bs y=w
   · simp [hw]
   · simp [hw]
     rw [ih fun x hx=>hok x (by simp [hx])]
theorem seg_get {bs:List SBd} {lo:Bool} {es:Nms} {l:List Nm} (h:Seg bs lo es l) {w:Bs} {i:Int} (hi:nmGet w es=some i):0≤i∧i < bs.length∧decide ((bs.getD i.toNat default).k < 3)=lo:=by
 rw [h.get] at hi
 simp only [Option.map_eq_some_iff] at hi
 obtain ⟨x,hx,rfl⟩:=hi
 exact (h.ok x (List.mem_of_find?_eq_some hx)).2
theorem find_rel {G:Nms} {bs:List SBd} {E:List Frm} {L:List Nm} (h:SRel G bs E L) (w:Bs):∀ far:Int,findP G w E far=(match lookR bs w L far with
 | none=>(-1,0)
 | some (i,far)=>if (bs.getD i.toNat default).k < 3 then (i,0) else (i,far)):=by
 induction h with
 | @top l h =>
   intro far
   have:=look_seg h w [] far
   rw [List.append_nil] at this
   rw [this]
   simp only [findP]
   cases hg:nmGet w G with
   | none=>simp [lookR]
   | some i =>
     have:=(seg_get h hg).2.2
     simp only [decide_eq_true_eq] at this
     simp only [this,if_true]
 | @up es lam l r E h hr ih =>
   intro far
   rw [look_seg h]
   simp only [findP]
   cases hg:nmGet w es with
   | none =>
     simp only [lookR]
     rw [ih]
     rfl
   | some i =>
     have:=(seg_get h hg).2.2
     simp only [decide_eq_false_iff_not] at this
     simp only [this,if_false]
theorem Seg.put {bs:List SBd} {lo:Bool} {es:Nms} {l:List Nm} (h:Seg bs lo es l) (b:SBd) (hb:decide (b.k < 3)=lo):Seg (bs++[b]) lo (nmPut b.w bs.length es) (⟨bs.length,false,false⟩ :: l):=by
 have h':=h.app [b]
 have hg:(bs++[b]).getD ((bs.length:Int)).toNat default=b:=by simp
 refine ⟨fun w => ?_,fun x hx => ?_⟩
 · rw [nmGet_put,List.find?_cons,h'.get]
   simp only [swordR,hg]
   by_cases hw:w=b.w
   · simp [hw]
   · have:¬ b.w=w:=fun e=>hw e.symm
     simp [hw,this]
 · rcases List.mem_cons.1 hx with rfl | hx
   · refine ⟨rfl,by simp,by simp; omega,?_⟩
     rw [hg]; exact hb
   · exact h'.ok x hx
structure SRelN (G:Nms) (bs:List SBd) (E:List Frm) (fr:Nms) (lam:Bool) (L:List Nm):Prop where
 ex:∃ l r,L=l++⟨0,true,lam⟩ :: r∧Seg bs false fr l∧SRel G bs E r
theorem SRelN.rel {G:Nms} {bs:List SBd} {E:List Frm} {fr:Nms} {lam:Bool} {L:List Nm} (h:SRelN G bs E fr lam L):SRel G bs (⟨fr,lam⟩ :: E) L:=by
 obtain ⟨l,r,rfl,h1,h2⟩:=h.ex
 exact .up h1 h2
theorem SRelN.app {G:Nms} {bs:List SBd} {E:List Frm} {fr:Nms} {lam:Bool} {L:List Nm} (h:SRelN G bs E fr lam L) (b:List SBd):SRelN G (bs++b) E fr lam L:=by
 obtain ⟨l,r,rfl,h1,h2⟩:=h.ex
 exact ⟨l,r,rfl,h1.app b,h2.app b⟩
theorem SRel.new {G:Nms} {bs:List SBd} {E:List Frm} {L:List Nm} (h:SRel G bs E L) (lam:Bool):SRelN G bs E [] lam (⟨0,true,lam⟩ :: L):=⟨[],L,rfl,⟨fun _=>rfl,by simp⟩,h⟩
theorem SRelN.bind {G:Nms} {S:SM} {E:List Frm} {fr:Nms} {lam:Bool} {L:List Nm} (h:SRelN G S.bs E fr lam L) {kind:Int} (hk:3≤kind) (item:Int) (n:N) :
 (bindP kind item n fr S).2=(bindR kind item n L S).2∧SRelN G (bindP kind item n fr S).2.bs E (bindP kind item n fr S).1 lam (bindR kind item n L S).1∧∃ b,(bindP kind item n fr S).2.bs=S.bs++b:=by
 obtain ⟨l,r,rfl,h1,h2⟩:=h.ex
 refine ⟨?_,⟨_,r,rfl,h1.put ⟨n.at_,kind,n.w,item⟩ (by simp; omega),h2.app _⟩,_,rfl⟩
 simp only [bindP,bindR]
 rw [dup_seg h1 n.w _ (.inr ⟨_,_,rfl,rfl⟩)]
theorem SRelN.binds {G:Nms} {E:List Frm} {lam:Bool} (item:Int):∀ (l:List N) {S:SM} {fr:Nms} {L:List Nm},SRelN G S.bs E fr lam L →
 (bindsP item l fr S).2=(bindsR item l L S).2∧SRelN G (bindsP item l fr S).2.bs E (bindsP item l fr S).1 lam (bindsR item l L S).1∧∃ b,(bindsP item l fr S).2.bs=S.bs++b
 | [],S,fr,L,h=>⟨rfl,h,[],by simp [bindsP]⟩
 | n :: r, S, fr, L, h => by
   obtain ⟨h1,h2,b,hb⟩:=h.bind (Int.le_refl 3) item n
   obtain ⟨k1,k2,c,hc⟩:=SRelN.binds item r h2
   rw [bindsP,bindsR]
   rw [h1] at k1 k2 hc ⊢
   refine ⟨k1,k2,b++c,?_⟩
   rw [hc,← h1,hb,List.append_assoc]
theorem men_bs (S:SM) (n:N) (wr:Bool) (p:Int × Int):(S.men n wr p).bs=S.bs:=rfl
def BothN (n:N):Prop:=∀ (G:Nms) (item:Int) (E:List Frm) (fr:Nms) (lam:Bool) (S:SM) (L:List Nm),SRelN G S.bs E fr lam L →
 (nodeP G item n E fr lam S).2=(nodeR item n L S).2∧SRelN G (nodeP G item n E fr lam S).2.bs E (nodeP G item n E fr lam S).1 lam (nodeR item n L S).1∧∃ b,(nodeP G item n E fr lam S).2.bs=S.bs++b
theorem both_kids {ks:List N} (ih:∀ p ∈ ks,BothN p):∀ (G:Nms) (item:Int) (E:List Frm) (fr:Nms) (lam:Bool) (S:SM) (L:List Nm),SRelN G S.bs E fr lam L →
 (kidsP G item ks E fr lam S).2=(kidsR item ks L S).2∧SRelN G (kidsP G item ks E fr lam S).2.bs E (kidsP G item ks E fr lam S).1 lam (kidsR item ks L S).1∧∃ b,(kidsP G item ks E fr lam S).2.bs=S.bs++b:=by
 induction ks with
 | nil=>intro G item E fr lam S L h; rw [kidsP_nil,kidsR_nil]; exact ⟨rfl,h,[],by simp⟩
 | cons n r ih2 =>
   intro G item E fr lam S L h
   obtain ⟨h1,h2,b,hb⟩:=ih n (by simp) G item E fr lam S L h
   obtain ⟨k1,k2,c,hc⟩:=ih2 (fun p hp=>ih p (by simp [hp])) G item E _ lam _ _ h2
   rw [kidsP_cons,kidsR_cons]
   rw [h1] at k1 k2 hc ⊢
   exact ⟨k1,k2,b++c,by rw [hc,← h1,hb,List.append_assoc]⟩
theorem both_closed {ks:List N} (ih:∀ p ∈ ks,BothN p) (G:Nms) (item:Int) (E:List Frm) (lam:Bool) (S:SM) (L:List Nm) (h:SRel G S.bs E L) :
 sclosedP G item ks E lam S=sclosedR item ks L lam S∧∃ b,(sclosedP G item ks E lam S).bs=S.bs++b:=by
 by_cases hl:ks.length=3
 · match ks,hl with
   | [p, q, b], _ =>
     rw [sclosedP_three,sclosedR_three]
     obtain ⟨h1,h2,c,hc⟩:=SRelN.binds item p.ks (h.new lam)
     obtain ⟨k1,k2,d,hd⟩:=ih b (by simp) G item E _ lam _ _ h2
     rw [h1] at k1 k2 hd ⊢
     exact ⟨k1,c++d,by rw [hd,← h1,hc,List.append_assoc]⟩
 · rw [sclosedP_ne _ _ hl,sclosedR_ne _ hl]
   exact ⟨rfl,[],by simp⟩
theorem both (n:N):BothN n:=by
 induction n using N.ind with
 | h k f t w a z ks ih =>
 intro G item E fr lam S L h
 have hf:findP G w (⟨fr,lam⟩ :: E) 0=findR S.bs w L:=find_rel h.rel w 0
 rw [nodeP_mk,nodeR_mk,hf]
 by_cases h6:k=6
 · rw [if_pos h6,if_pos h6]
   obtain ⟨h1,h2,b,hb⟩:=both_kids ih G item _ [] false S _ (h.rel.new false)
   refine ⟨h1,?_,b,hb⟩
   simp only [hb]
   exact h.app b
 rw [if_neg h6,if_neg h6]
 by_cases h7:k=7
 · rw [if_pos h7,if_pos h7]
   obtain ⟨h1,h2,b,hb⟩:=both_kids ih G item E fr lam S _ h
   obtain ⟨k1,k2,c,hc⟩:=h2.bind (by decide:(3:Int)≤4) item (.mk k f t w a z ks)
   rw [h1] at k1 k2 hc ⊢
   exact ⟨k1,k2,b++c,by rw [hc,← h1,hb,List.append_assoc]⟩
 rw [if_neg h7,if_neg h7]
 by_cases h8:k=8
 · rw [if_pos h8,if_pos h8]
   exact both_kids ih G item E fr lam _ L h
 rw [if_neg h8,if_neg h8]
 by_cases h9:k=23
 · rw [if_pos h9,if_pos h9]
   exact ⟨rfl,h,[],by simp [men_bs]⟩
 rw [if_neg h9,if_neg h9]
 by_cases h10:k=28
 · rw [if_pos h10,if_pos h10]
   obtain ⟨h1,b,hb⟩:=both_closed ih G item _ true S L h.rel
   refine ⟨h1,?_,b,hb⟩
   simp only [hb]
   exact h.app b
 rw [if_neg h10,if_neg h10]
 exact both_kids ih G item E fr lam S L h
theorem tops_both:∀ (l:List N) (i:Int) (G:Nms) (L:List Nm) (S:SM),Seg S.bs true G L →
 (topsP i l G S).2=(topsR i l L S).2∧Seg (topsP i l G S).2.bs true (topsP i l G S).1 (topsR i l L S).1
 | [],i,G,L,S,h=>⟨rfl,h⟩
 | n :: r, i, G, L, S, h => by
   have step:∀ kind:Int,kind < 3→(bindP kind i n G S).2=(bindR kind i n L S).2∧Seg (bindP kind i n G S).2.bs true (bindP kind i n G S).1 (bindR kind i n L S).1:=fun kind hk=>by
    have:=dup_seg h n.w [] (.inl rfl)
    rw [List.append_nil] at this
    exact ⟨by simp only [bindP,bindR,this],h.put ⟨n.at_,kind,n.w,i⟩ (by simp; omega)⟩
   simp only [topsP,topsR]
   split
   · obtain ⟨h1,h2⟩:=step 1 (by decide)
     have:=tops_both r (i+1) _ _ _ h2
     rw [h1] at this ⊢; exact this
   · split
     · obtain ⟨h1,h2⟩:=step 2 (by decide)
       have:=tops_both r (i+1) _ _ _ h2
       rw [h1] at this ⊢; exact this
     · exact tops_both r (i+1) _ _ _ h
theorem defs_both {G:Nms} {L:List Nm}:∀ (l:List N) (i:Int) (S:SM),SRel G S.bs [] L→defsP G i l S=defsR L i l S
 | [],_,_,_=>rfl
 | n :: r, i, S, h => by
   simp only [defsP,defsR]
   obtain ⟨h1,b,hb⟩:=both_closed (ks:=n.ks) (fun p _=>both p) G i [] false S L h
   by_cases hk:n.k=3
   · rw [if_pos hk,if_pos hk,← h1]
     exact defs_both r (i+1) _ (by rw [hb]; exact h.app b)
   · rw [if_neg hk,if_neg hk]
     exact defs_both r (i+1) _ h
theorem all_both (n:N):allP n=allR n:=by
 obtain ⟨h1,h2⟩:=tops_both n.ks 0 [] [] ⟨[],[],[]⟩ ⟨fun _=>rfl,by simp⟩
 unfold allP allR
 rw [← h1]
 exact defs_both _ _ _ (.top h2)
section
structure SF where
 (wrong bind within res node nodeC kids mention find closed closedC cmp srt cmpI:FuncId)
 (tn tp ts tfp tf tb tm bd mn ed:TypeId)
structure SC where
 (im tb tm tv ib g:Nat)
def encNms (l:Nms):List (D × A):=l.map fun e=>(.str e.1,.d (.int .i64 e.2))
theorem mpGet_nms (w:Bs):∀ l:Nms,mpGet (.str w) (encNms l)=(nmGet w l).map fun i => .d (.int .i64 i)
 | []=>rfl
 | e :: r => by
   have ih:=mpGet_nms w r
   unfold encNms at ih ⊢
   simp only [List.map_cons,mpGet,sameK,nmGet,decide_eq_true_eq,ih]
   split<;>rfl
theorem mpPut_nms (w:Bs) (v:Int):∀ l:Nms,mpPut (.str w) (.d (.int .i64 v)) (encNms l)=encNms (nmPut w v l)
 | []=>rfl
 | e :: r => by
   have ih:=mpPut_nms w v r
   unfold encNms at ih ⊢
   simp only [List.map_cons,mpPut,sameK,nmPut,decide_eq_true_eq,ih]
   split<;>simp_all
theorem mpOk_nms (w:Bs) (l:Nms):mpOk (.str []) (.str w) (encNms l)=true:=by
 unfold mpOk encNms
 simp [keyOf]
def mbox (F:SF) (c:SC) (S:SM):Ob := .box F.tm [.osl true 4 (S.bs.map encBd) c.tb,.osl true 4 (S.ms.map encMn) c.tm,.vsl c.tv S.bad.length S.bad.length]
structure SInv (F:SF) (c:SC) (S:SM) (now:A) (item:Int) (G:Nms) (H:Hp):Prop where
 m:H[c.im]?=some (mbox F c S)
 b:H[c.tb]?=some (.tok S.bs.length 4 F.bd)
 e:H[c.tm]?=some (.tok S.ms.length 4 F.mn)
 v:H[c.tv]?=some (.vec 2 F.ed S.bad.length (S.bad.map encBad))
 i:H[c.ib]?=some (.box F.tb [.ptr c.im 0,now,.map c.g,.d (.int .i64 item)])
 g:H[c.g]?=some (.mp (encNms G))
 nd:(c.im ≠ c.tb∧c.im ≠ c.tm∧c.im ≠ c.tv∧c.im ≠ c.ib∧c.im ≠ c.g)∧(c.tb ≠ c.tm∧c.tb ≠ c.tv∧c.tb ≠ c.ib∧c.tb ≠ c.g)∧(c.tm ≠ c.tv∧c.tm ≠ c.ib∧c.tm ≠ c.g)∧(c.tv ≠ c.ib∧c.tv ≠ c.g)∧c.ib ≠ c.g
def SC.off (c:SC) (j:Nat):Prop:=j ≠ c.im∧j ≠ c.tb∧j ≠ c.tm∧j ≠ c.tv
def sput (F:SF) (c:SC) (S:SM) (H:Hp):Hp:=(((H.set c.tv (.vec 2 F.ed S.bad.length (S.bad.map encBad))).set c.tm (.tok S.ms.length 4 F.mn)).set c.tb (.tok S.bs.length 4 F.bd)).set c.im (mbox F c S)
section
variable {F:SF} {c:SC} {S S':SM} {now:A} {item:Int} {G:Nms} {H:Hp}
theorem sput_len:(sput F c S H).length=H.length:=by simp [sput]
theorem sput_off {j:Nat} (h:c.off j):(sput F c S H)[j]?=H[j]?:=by
 obtain ⟨h1,h2,h3,h4⟩:=h
 simp [sput,List.getElem?_set_ne (Ne.symm h1),List.getElem?_set_ne (Ne.symm h2),List.getElem?_set_ne (Ne.symm h3),List.getElem?_set_ne (Ne.symm h4)]
theorem SInv.lt (h:SInv F c S now item G H):c.im < H.length∧c.tb < H.length∧c.tm < H.length∧c.tv < H.length∧c.ib < H.length∧c.g < H.length:=⟨scan_len h.m,scan_len h.b,scan_len h.e,scan_len h.v,scan_len h.i,scan_len h.g⟩
theorem SInv.offI (h:SInv F c S now item G H):c.off c.ib:=by obtain ⟨a,b,d,e,f⟩:=h.nd; exact ⟨a.2.2.2.1.symm,b.2.2.1.symm,d.2.1.symm,e.1.symm⟩
theorem SInv.offG (h:SInv F c S now item G H):c.off c.g:=by obtain ⟨a,b,d,e,f⟩:=h.nd; exact ⟨a.2.2.2.2.symm,b.2.2.2.symm,d.2.2.symm,e.2.symm⟩
theorem sput_app (h:SInv F c S now item G H) (X:Hp):sput F c S' (H++X)=sput F c S' H++X:=by
 obtain ⟨a,b,d,e,-⟩:=h.lt
 unfold sput
 rw [List.set_append_left _ _ e,List.set_append_left _ _ (by simpa using d),List.set_append_left _ _ (by simpa using b),List.set_append_left _ _ (by simpa using a)]
theorem SInv.app (h:SInv F c S now item G H) (X:Hp):SInv F c S now item G (H++X) :=
 ⟨get_app h.m X,get_app h.b X,get_app h.e X,get_app h.v X,get_app h.i X,get_app h.g X,h.nd⟩
theorem SInv.put (h:SInv F c S now item G H) (S':SM):SInv F c S' now item G (sput F c S' H):=by
 obtain ⟨p1,p2,p3,p4,p5,p6⟩:=h.lt
 obtain ⟨a,b,d,e,f⟩:=h.nd
 refine ⟨?_,?_,?_,?_,by rw [sput_off h.offI]; exact h.i,by rw [sput_off h.offG]; exact h.g,h.nd⟩
 · unfold sput; rw [List.getElem?_set_self (by simpa using p1)]
 · unfold sput; rw [List.getElem?_set_ne a.1,List.getElem?_set_self (by simpa using p2)]
 · unfold sput; rw [List.getElem?_set_ne a.2.1,List.getElem?_set_ne b.1,List.getElem?_set_self (by simpa using p3)]
 · unfold sput; rw [List.getElem?_set_ne a.2.2.1,List.getElem?_set_ne b.2.1,List.getElem?_set_ne d.1,List.getElem?_set_self (by simpa using p4)]
theorem sput_self (h:SInv F c S now item G H):sput F c S H=H:=by
 unfold sput
 rw [Hp.set_self h.v,Hp.set_self h.e,Hp.set_self h.b,Hp.set_self h.m]
theorem hp_ext {A B:Hp} (h:∀ j:Nat,A[j]?=B[j]?):A=B:=List.ext_getElem? h
theorem sput_sput (S S':SM):sput F c S' (sput F c S H)=sput F c S' H:=by
 refine hp_ext fun j => ?_
 unfold sput
 simp only [List.getElem?_set,List.length_set]
 split
 · rfl
 · split
   · rfl
   · split
     · rfl
     · split
       · rfl
       · simp_all
theorem sput_set {j:Nat} (h:c.off j) (o:Ob):sput F c S (H.set j o)=(sput F c S H).set j o:=by
 obtain ⟨h1,h2,h3,h4⟩:=h
 unfold sput
 rw [List.set_comm _ _ h4,List.set_comm _ _ h3,List.set_comm _ _ h2,List.set_comm _ _ h1]
theorem SInv.set (h:SInv F c S now item G H) {j:Nat} (hj:c.off j) (h1:j ≠ c.ib) (h2:j ≠ c.g) (o:Ob):SInv F c S now item G (H.set j o):=by
 obtain ⟨a1,a2,a3,a4⟩:=hj
 exact ⟨by rw [List.getElem?_set_ne a1]; exact h.m,by rw [List.getElem?_set_ne a2]; exact h.b,by rw [List.getElem?_set_ne a3]; exact h.e,by rw [List.getElem?_set_ne a4]; exact h.v,by rw [List.getElem?_set_ne h1]; exact h.i,by rw [List.getElem?_set_ne h2]; exact h.g,h.nd⟩
theorem mbox_clr {n:Nat} (h1:c.tb < n) (h2:c.tm < n) (h3:c.tv < n):(mbox F c S).clr n=mbox F c S:=by simp [mbox,h1,h2,h3]
theorem sput_cut (h:SInv F c S now item G H) (hc:H.Closed):Hp.cut H.length (sput F c S' H)=sput F c S' H:=by
 obtain ⟨p1,p2,p3,p4,p5,p6⟩:=h.lt
 unfold sput
 rw [Hp.cut_set,Hp.cut_set,Hp.cut_set,Hp.cut_set,cut_self hc,mbox_clr p2 p3 p4]
 simp
theorem sput_cutX (h:SInv F c S now item G H) (hc:H.Closed) (X:Hp):Hp.cut H.length (sput F c S' H++X)=sput F c S' H:=by
 rw [cut_appL (by rw [sput_len]),sput_cut h hc]
theorem encNms_clr (n:Nat) (l:Nms):(Ob.mp (encNms l)).clr n = .mp (encNms l):=by simp [encNms]
end
def ChainAt (F:SF) (H:Hp):A→List (Nat × Nat × Frm)→Prop
 | a,[]=>a = .d .nilp
 | a,(i,m,f) :: r=>a = .ptr i 0∧(∀ x ∈ r,x.1 < i)∧∃ up,H[i]?=some (.box F.tf [.map m,.d (.bool f.lam),up])∧H[m]?=some (.mp (encNms f.es))∧ChainAt F H up r
theorem ChainAt.keep {F:SF} {H H':Hp}:∀ {l:List (Nat × Nat × Frm)} {a:A},ChainAt F H a l→(∀ x ∈ l,H'[x.1]?=H[x.1]?∧H'[x.2.1]?=H[x.2.1]?)→ChainAt F H' a l
 | [],a,h,_=>h
 | (i, m, f) :: r, a, ⟨h1, h2, up, h3, h4, h5⟩, hk => by
   obtain ⟨k1,k2⟩:=hk (i,m,f) (by simp)
   exact ⟨h1,h2,up,by rw [k1]; exact h3,by rw [k2]; exact h4,h5.keep fun x hx=>hk x (by simp [hx])⟩
theorem ChainAt.lt {F:SF} {H:Hp}:∀ {l:List (Nat × Nat × Frm)} {a:A},ChainAt F H a l→∀ x ∈ l,x.1 < H.length∧x.2.1 < H.length
 | [],a,h,x,hx=>by simp at hx
 | (i, m, f) :: r, a, ⟨h1, h2, up, h3, h4, h5⟩, x, hx => by
   rcases List.mem_cons.1 hx with rfl | hx
   · exact ⟨scan_len h3,scan_len h4⟩
   · exact h5.lt x hx
theorem ChainAt.app {F:SF} {H:Hp} {l:List (Nat × Nat × Frm)} {a:A} (h:ChainAt F H a l) (X:Hp):ChainAt F (H++X) a l :=
 h.keep fun x hx=>⟨List.getElem?_append_left (h.lt x hx).1,List.getElem?_append_left (h.lt x hx).2⟩
theorem ChainAt.val {F:SF} {H:Hp} {l:List (Nat × Nat × Frm)} {a:A} (h:ChainAt F H a l):(a = .d .nilp∧l=[])∨∃ i m f r,l=(i,m,f) :: r∧a = .ptr i 0∧i < H.length:=by
 cases l with
 | nil=>exact .inl ⟨h,rfl⟩
 | cons x r=>exact .inr ⟨x.1,x.2.1,x.2.2,r,rfl,h.1,(h.lt x (by simp)).1⟩
structure NInv (F:SF) (c:SC) (S:SM) (item:Int) (G:Nms) (i m:Nat) (fr:Nms) (lam:Bool) (E:List (Nat × Nat × Frm)) (H:Hp):Prop where
 s:SInv F c S (.ptr i 0) item G H
 ch:ChainAt F H (.ptr i 0) ((i,m,⟨fr,lam⟩) :: E)
 off:∀ x ∈ (i,m,(⟨fr,lam⟩:Frm)) :: E,(c.off x.1∧x.1 ≠ c.ib∧x.1 ≠ c.g)∧(c.off x.2.1∧x.2.1 ≠ c.ib∧x.2.1 ≠ c.g)
 nm:i ≠ m∧∀ x ∈ E,m ≠ x.1∧m ≠ x.2.1
section
variable {F:SF} {c:SC} {S S':SM} {item:Int} {G:Nms} {H:Hp} {i m:Nat} {fr fr':Nms} {lam:Bool} {E:List (Nat × Nat × Frm)}
theorem NInv.app (h:NInv F c S item G i m fr lam E H) (X:Hp):NInv F c S item G i m fr lam E (H++X):=⟨h.s.app X,h.ch.app X,h.off,h.nm⟩
theorem NInv.offM (h:NInv F c S item G i m fr lam E H):c.off m∧m ≠ c.ib∧m ≠ c.g:=(h.off (i,m,⟨fr,lam⟩) (by simp)).2
theorem NInv.lt (h:NInv F c S item G i m fr lam E H):i < H.length∧m < H.length:=h.ch.lt (i,m,⟨fr,lam⟩) (by simp)
theorem NInv.mp (h:NInv F c S item G i m fr lam E H):H[m]?=some (.mp (encNms fr)):=by obtain ⟨-,-,up,-,h4,-⟩:=h.ch; exact h4
theorem NInv.put (h:NInv F c S item G i m fr lam E H) (S':SM):NInv F c S' item G i m fr lam E (sput F c S' H):=by
 refine ⟨h.s.put S',h.ch.keep fun x hx => ?_,h.off,h.nm⟩
 have:=h.off x hx
 exact ⟨sput_off this.1.1,sput_off this.2.1⟩
theorem NInv.setM (h:NInv F c S item G i m fr lam E H) (fr':Nms):NInv F c S item G i m fr' lam E (H.set m (.mp (encNms fr'))):=by
 obtain ⟨o1,o2,o3⟩:=h.offM
 refine ⟨h.s.set o1 o2 o3 _,?_,fun x hx => ?_,h.nm⟩
 · obtain ⟨h1,h2,up,h3,h4,h5⟩:=h.ch
   refine ⟨h1,h2,up,by rw [List.getElem?_set_ne h.nm.1.symm]; exact h3,by rw [List.getElem?_set_self (scan_len h4)],h5.keep fun x hx => ?_⟩
   have:=h.nm.2 x hx
   exact ⟨List.getElem?_set_ne this.1,List.getElem?_set_ne this.2⟩
 · rcases List.mem_cons.1 hx with rfl | hx
   · exact h.off (i,m,⟨fr,lam⟩) (by simp)
   · exact h.off x (by simp [hx])
def nput (F:SF) (c:SC) (S:SM) (m:Nat) (fr:Nms) (H:Hp):Hp:=(sput F c S H).set m (.mp (encNms fr))
theorem NInv.nput (h:NInv F c S item G i m fr lam E H) (S':SM) (fr':Nms):NInv F c S' item G i m fr' lam E (nput F c S' m fr' H):=(h.put S').setM fr'
theorem nput_len:(nput F c S m fr H).length=H.length:=by simp [nput,sput_len]
theorem nput_nput (h:c.off m) (S S':SM) (fr fr':Nms):nput F c S' m fr' (nput F c S m fr H)=nput F c S' m fr' H:=by
 unfold nput
 rw [sput_set h,sput_sput,List.set_set]
theorem nput_app (h:NInv F c S item G i m fr lam E H) (X:Hp):nput F c S' m fr' (H++X)=nput F c S' m fr' H++X:=by
 unfold nput
 rw [sput_app h.s,List.set_append_left _ _ (by rw [sput_len]; exact h.lt.2)]
theorem nput_self (h:NInv F c S item G i m fr lam E H):nput F c S m fr H=H:=by
 unfold nput
 rw [sput_self h.s,Hp.set_self h.mp]
theorem nput_sput (h:NInv F c S item G i m fr lam E H) (S':SM):nput F c S' m fr H=sput F c S' H:=by
 unfold nput
 rw [Hp.set_self (by rw [sput_off h.offM.1]; exact h.mp)]
theorem nput_cutX (h:NInv F c S item G i m fr lam E H) (hc:H.Closed) (X:Hp):Hp.cut H.length (nput F c S' m fr' H++X)=nput F c S' m fr' H:=by
 rw [cut_appL (by rw [nput_len])]
 unfold nput
 rw [Hp.cut_set,sput_cut h.s hc,encNms_clr]
theorem nput_cut (h:NInv F c S item G i m fr lam E H) (hc:H.Closed):Hp.cut H.length (nput F c S' m fr' H)=nput F c S' m fr' H:=by
 have:=nput_cutX (S':=S') (fr':=fr') h hc []
 rwa [List.append_nil] at this
end
def SM.sz (S:SM):Nat:=S.bs.length+S.ms.length+S.bad.length
theorem SM.bind_sz (S:SM) (k i:Int) (n:N) (d:Bool):(S.bind k i n d).sz≤S.sz+2:=by
 unfold SM.bind SM.sz
 split<;>simp<;>omega
theorem SM.men_sz (S:SM) (n:N) (wr:Bool) (p:Int × Int):(S.men n wr p).sz≤S.sz+2:=by
 unfold SM.men SM.sz
 simp only
 split
 · simp; omega
 · split<;>simp<;>omega
end
section
def deferF (P:Program) (tok:List Nat) (fn:Func):Option (Nat × C × C × List IOp × Nat × C) :=
 match fn.body with
 | some (.seq ca0 (.seq ca (.seq (.region _ ops false) cb))) =>
   match ops.toList.getLast? with
   | some od =>
     match guardOf ops od.guard,od.dst,od.op with
     | some none, none, .defer c =>
       match c.callee with
       | .value (.tmp s)=>if c.args.size=0∧fn.results.size=0 then some (fn.ntmps,compC P fn.ntmps tok ca0,compC P fn.ntmps tok ca,ops.toList.dropLast.map (compO P fn.ntmps tok ops),s,compC P fn.ntmps tok cb) else none
       | _=>none
     | _,_,_=>none
   | none=>none
 | _=>none
theorem acall_deferF {P:Program} {f:FuncId} {fn:Func} {tok:List Nat} {args:List A} {H:Hp} {K:A→Hp→Prop} {nt s:Nat} {c0 c1 cb:C} {l:List IOp} (hf:P.funcs[f]?=some fn) (hd:deferF P tok fn=some (nt,c0,c1,l,s,cb)) (hn:args.length≤nt)
 (h:H.Closed→AWp P H.length c0 (OnlyN fun fr0 H0=>H.length≤H0.length∧(Hp.Closed H0→AWp P H0.length c1 (OnlyN fun fr1 H1=>AOps P l (fun fr2 H2=>∃ g cap,fr2 s = .fn (.func g) [] cap∧callOk P g=true ∧
  (Hp.Closed H2→AWp P H2.length cb (NoRes fun H3=>ACallD P g cap H3 fun H4=>∃ m,H.length≤m∧m≤H4.length∧K (.tup []) (Hp.cut m H4)) fr2 H2)) fr1 H1) fr0 H0)) (Fr.init args) H):ACall P f args H K:=by
 unfold deferF at hd
 split at hd
 · rename_i ca0 ca id ops cbb hb
   split at hd
   · rename_i od hod
     split at hd
     · rename_i c hg hdst hop
       split at hd
       · rename_i s' hcal
         split at hd
         · rename_i hsz
           cases hd
           have hops:ops.toList=ops.toList.dropLast++[od]:=by
            have hne:ops.toList ≠ []:=fun e=>by rw [e] at hod; cases hod
            rw [List.getLast?_eq_some_getLast hne] at hod
            cases hod
            exact (List.dropLast_concat_getLast hne).symm
           exact acall_defer2 hf hb hops hg hdst hop hcal (Array.eq_empty_of_size_eq_zero hsz.1) (Array.eq_empty_of_size_eq_zero hsz.2) hn h
         · cases hd
       · cases hd
     · cases hd
   · cases hd
 · cases hd
theorem acallD_ir {P:Program} {f:FuncId} {fn:Func} {tok:List Nat} {ifn:IFn} {args:List A} {H:Hp} {K:Hp→Prop} (hf:P.funcs[f]?=some fn) (hc:compF P tok fn=some ifn) (hr:ifn.res=[]) (hn:args.length≤ifn.nt)
 (h:H.Closed→AWp P H.length ifn.body (NoRes K) (Fr.init args) H):ACallD P f args H K:=by
 unfold compF at hc
 split at hc
 · rename_i c rs hb hrs
   cases hc
   simp only at hr hn h
   subst hr
   have:fn.results = #[]:=by
    cases hl:fn.results.toList with
    | nil=>exact Array.toList_eq_nil_iff.1 hl
    | cons x r =>
      rw [hl] at hrs
      simp only [List.mapM_cons,Option.bind_eq_bind,Option.bind_eq_some_iff,Option.pure_def] at hrs
      obtain ⟨_,_,_,_,h⟩:=hrs
      cases h
   exact acallD_of hf hb this hn h
 · cases hc
@[simp ↓] theorem OnlyN_normal {K:Fr→Hp→Prop} {fr:Fr} {H:Hp}:OnlyN K .normal fr H=K fr H:=propext Iff.rfl
@[simp ↓] theorem NoRes_normal {K:Hp→Prop} {fr:Fr} {H:Hp}:NoRes K .normal fr H=K H:=propext Iff.rfl
@[simp ↓] theorem NoRes_ret {K:Hp→Prop} {fr:Fr} {H:Hp}:NoRes K .ret fr H=K H:=propext Iff.rfl
structure SHas (P:Program) (F:SF):Prop where
 wrong:HasT P [2000021] F.wrong (irScWrong F.ed)
 bind:Has P F.bind (irScBind F.wrong F.tn F.bd)
 res:Has P F.res irScRes
 kRes:callOk P F.res=true
 node:HasT P [6000028] F.node (irScNode F.within F.kids F.bind F.mention F.closed F.nodeC F.tp F.tn)
 nodeC:Has P F.nodeC (irScNodeC F.kids)
 kNodeC:callOk P F.nodeC=true
 kids:Has P F.kids (irScKids F.node F.tn)
 mention:Has P F.mention (irScMention F.find F.wrong F.tn F.mn)
 find:Has P F.find irScFind
 closed:Has P F.closed (irScClosed F.within F.closedC F.tp F.ts)
 closedC:HasT P [6000022,6000028] F.closedC (irScClosedC F.bind F.node F.tn)
 kClosedC:callOk P F.closedC=true
section
variable {P:Program} {F:SF} {c:SC} {S S':SM} {now:A} {item:Int} {G:Nms} {H:Hp}
theorem sput_bad (h:SInv F c S now item G H) (l:List (Int × Int)):sput F c ⟨S.bs,S.ms,l⟩ H=(H.set c.tv (.vec 2 F.ed l.length (l.map encBad))).set c.im (mbox F c ⟨S.bs,S.ms,l⟩):=by
 obtain ⟨a,b,d,e,f⟩:=h.nd
 unfold sput
 rw [Hp.set_self (i:=c.tm) (by rw [List.getElem?_set_ne d.1.symm]; exact h.e),Hp.set_self (i:=c.tb) (by rw [List.getElem?_set_ne b.2.1.symm]; exact h.b)]
theorem sput_bs (h:SInv F c S now item G H) (l:List SBd):sput F c ⟨l,S.ms,S.bad⟩ H=(H.set c.tb (.tok l.length 4 F.bd)).set c.im (mbox F c ⟨l,S.ms,S.bad⟩):=by
 unfold sput
 rw [Hp.set_self h.v,Hp.set_self h.e]
theorem sput_ms (h:SInv F c S now item G H) (l:List Mn):sput F c ⟨S.bs,l,S.bad⟩ H=(H.set c.tm (.tok l.length 4 F.mn)).set c.im (mbox F c ⟨S.bs,l,S.bad⟩):=by
 obtain ⟨a,b,d,e,f⟩:=h.nd
 unfold sput
 rw [Hp.set_self h.v,Hp.set_self (i:=c.tb) (by rw [List.getElem?_set_ne b.1.symm]; exact h.b)]
theorem SHas.wrong' (hF:SHas P F) (h:SInv F c S now item G H) (at_ e:Int) (hb:S.sz≤4398046511104) :
 ACall P F.wrong [.ptr c.ib 0,.d (.int .i64 at_),.d (.int .i64 e)] H (fun r H'=>r = .tup []∧H'=sput F c ⟨S.bs,S.ms,S.bad++[(at_,e)]⟩ H):=by
 obtain ⟨fn,hf,hcf⟩:=hF.wrong
 refine acall_fin hf hcf (by simp [irScWrong]) fun hcl _ => ?_
 have hi:=h.i
 have hm:=h.m
 have hv:=h.v
 obtain ⟨a,-,-,d4,-⟩:=h.nd
 have hm2:∀ o,(H.set c.tv o)[c.im]?=some (mbox F c S):=fun o=>by rw [List.getElem?_set_ne a.2.2.1.symm]; exact hm
 have hfit:(S.bad.length+1) * 16≤140737488355328:=by unfold SM.sz at hb; omega
 have hcut:=sput_cut (S':=⟨S.bs,S.ms,S.bad++[(at_,e)]⟩) h hcl
 rw [sput_bad h] at hcut ⊢
 simp only [mbox] at hm hm2 hcut ⊢
 have htk:List.take S.bad.length (S.bad.map encBad)=S.bad.map encBad:=List.take_of_length_le (by simp)
 simp [irScWrong,hi,hm,hm2,hv,hfit,htk]
 simp [RetK]
 simp [encBad] at hcut ⊢
 exact hcut
theorem SHas.res' (hF:SHas P F) {i j ib:Nat} {tb:TypeId} {im g now0 now1 it:A} {t1 t2:TypeId} (hi:H[i]?=some (.box t1 [now1])) (hj:H[j]?=some (.box t2 [.ptr ib 0])) (hb:H[ib]?=some (.box tb [im,now0,g,it])) (hn:now1 = .d .nilp∨∃ k,now1 = .ptr k 0) :
 ACallD P F.res [.ptr i 0,.ptr j 0] H (fun H'=>H'=H.set ib (.box tb [im,now1,g,it])):=by
 obtain ⟨fn,hf,hcf⟩:=hF.res
 refine acallD_ir hf hcf rfl (by simp [irScRes]) fun hcl => ?_
 rcases hn with rfl | ⟨k,rfl⟩<;>simp [irScRes,hi,hj,hb]
theorem SHas.bind' (hF:SHas P F) (h:SInv F c S now item G H) {m:Nat} {es:Nms} (hm:H[m]?=some (.mp (encNms es))) (hoff:c.off m∧m ≠ c.ib) (n:N) (kind:Int) (hb:S.sz≤2199023255552) :
 ACall P F.bind [.ptr c.ib 0,.map m,n.v,.d (.int .i64 kind)] H (fun r H'=>r = .tup []∧H'=nput F c (bindP kind item n es S).2 m (bindP kind item n es S).1 H):=by
 obtain ⟨fn,hf,hcf⟩:=hF.bind
 refine acall_fin hf hcf (by simp [irScBind]) fun hcl _ => ?_
 obtain ⟨k,f,t,w,a,z,ks⟩:=n
 rw [N.v_mk]
 have hml:=scan_len hm
 obtain ⟨p1,p2,p3,p4,p5,p6⟩:=h.lt
 obtain ⟨na,nb,nd,ne,nf⟩:=h.nd
 obtain ⟨bx,hbx⟩:∃ bx,bx=Ob.box F.tn [.d (.int .i64 k),.d (.int .i64 f),.d (.int .i64 t),.d (.str w),.d (.int .i64 a),.d (.sl z 6 (ks.map N.enc))]:=⟨_,rfl⟩
 have hA:=get_app hm
 have hg:=mpGet_nms w es
 have hok:=mpOk_nms w es
 have hput:=mpPut_nms w S.bs.length es
 have hfit:(S.bs.length+1) * 40≤140737488355328:=by unfold SM.sz at hb; omega
 have key:∀ (S1:SM) (W:Hp),W=sput F c S1 H++[bx]→S1.bs=S.bs→S1.ms=S.ms→(bindP kind item (.mk k f t w a z ks) es S).2=⟨S1.bs++[⟨a,kind,w,item⟩],S1.ms,S1.bad⟩ →
  W[H.length]?=some bx∧W[m]?=some (.mp (encNms es))∧W[c.ib]?=some (.box F.tb [.ptr c.im 0,now,.map c.g,.d (.int .i64 item)])∧W[c.im]?=some (mbox F c S1)∧(∀ o,(W.set m o)[H.length]?=some bx)∧(∀ o,(W.set m o)[c.ib]?=some (.box F.tb [.ptr c.im 0,now,.map c.g,.d (.int .i64 item)]))∧(∀ o,(W.set m o)[c.im]?=some (mbox F c S1)) ∧
  (∀ o,(W.set m o)[c.tb]?=some (.tok S.bs.length 4 F.bd))∧(∀ o o',((W.set m o).set c.tb o')[c.im]?=some (mbox F c S1))∧H.length≤W.length ∧
  Hp.cut H.length (((W.set m (.mp (encNms (nmPut w S.bs.length es)))).set c.tb (.tok (S.bs.length+1) 4 F.bd)).set c.im (mbox F c ⟨S1.bs++[⟨a,kind,w,item⟩],S1.ms,S1.bad⟩))=nput F c (bindP kind item (.mk k f t w a z ks) es S).2 m (bindP kind item (.mk k f t w a z ks) es S).1 H:=by
  rintro S1 W rfl e1 e2 e3
  have hs1:=h.put S1
  have hs2:=hs1.app [bx]
  have hl:H.length=(sput F c S1 H).length:=sput_len.symm
  have g1:(sput F c S1 H++[bx])[H.length]?=some bx:=by rw [hl]; simp
  have hmn:m ≠ H.length:=by omega
  have e4:(bindP kind item (.mk k f t w a z ks) es S).1=nmPut w S.bs.length es:=rfl
  refine ⟨g1,get_app (by rw [sput_off hoff.1]; exact hm) _,hs2.i,hs2.m,fun o=>by rw [List.getElem?_set_ne hmn]; exact g1,fun o=>by rw [List.getElem?_set_ne hoff.2]; exact hs2.i,fun o=>by rw [List.getElem?_set_ne hoff.1.1]; exact hs2.m,
   fun o=>by rw [List.getElem?_set_ne hoff.1.2.1,← e1]; exact hs2.b,fun o o'=>by rw [List.getElem?_set_ne na.1.symm,List.getElem?_set_ne hoff.1.1]; exact hs2.m,by simp [sput_len],?_⟩
  rw [e3,e4]
  have hsb:=sput_bs hs1 (S1.bs++[⟨a,kind,w,item⟩])
  rw [sput_sput] at hsb
  unfold nput
  have hX:((((sput F c S1 H++[bx]).set m (.mp (encNms (nmPut w S.bs.length es)))).set c.tb (.tok (S.bs.length+1) 4 F.bd)).set c.im (mbox F c ⟨S1.bs++[⟨a,kind,w,item⟩],S1.ms,S1.bad⟩))=(sput F c ⟨S1.bs++[⟨a,kind,w,item⟩],S1.ms,S1.bad⟩ H).set m (.mp (encNms (nmPut w S.bs.length es)))++[bx]:=by
   rw [hsb,List.set_append_left _ _ (by rw [sput_len]; exact hml),List.set_append_left _ _ (by rw [List.length_set,sput_len]; exact p2),List.set_append_left _ _ (by rw [List.length_set,List.length_set,sput_len]; exact p1)]
   congr 1
   rw [List.set_comm _ _ hoff.1.2.1,List.set_comm _ _ hoff.1.1,e1]
   simp
  rw [hX,cut_appL (by rw [List.length_set,sput_len]),Hp.cut_set,sput_cut h hcl,encNms_clr]
 cases hgg:nmGet w es with
 | none =>
   have k0:=key S (H++[bx]) (by rw [sput_self h]) rfl rfl (by simp [bindP,SM.bind,hgg,N.at_,N.w])
   rw [hgg] at hg
   obtain ⟨q1,q2,q3,q4,q5,q6,q7,q8,q9,q10,q11⟩:=k0
   simp only [mbox] at q4 q7 q9 q11
   subst hbx
   simp [irScBind,-mpOk,-mpGet,-mpPut,q2,hg,hok]
   generalize H++_=W at q1 q2 q3 q4 q5 q6 q7 q8 q9 q10 q11 ⊢
   simp [-mpOk,-mpGet,-mpPut,q1,q2,hg,hok,q3,q4,q5,q6,q7,q8,q9,hput,hfit,appA]
   simp [RetK,q10]
   simp [encBd] at q11 ⊢
   exact q11
 | some i =>
   have k0:=key ⟨S.bs,S.ms,S.bad++[(a,31)]⟩ _ rfl rfl rfl (by simp [bindP,SM.bind,hgg,N.at_,N.w])
   rw [hgg] at hg
   have gw:=hF.wrong' (h.app [bx]) a 31 (by omega)
   rw [sput_app h] at gw
   obtain ⟨q1,q2,q3,q4,q5,q6,q7,q8,q9,q10,q11⟩:=k0
   simp only [mbox] at q4 q7 q9 q11
   have hA1:=hA [bx]
   subst hbx
   simp [irScBind,-mpOk,-mpGet,-mpPut,hA1,hg,hok]
   refine CallK_of' gw ?_
   generalize sput F c ⟨S.bs,S.ms,S.bad++[(a,31)]⟩ H++_=W at q1 q2 q3 q4 q5 q6 q7 q8 q9 q10 q11 ⊢
   simp [-mpOk,-mpGet,-mpPut,q1,q2,hg,hok,q3,q4,q5,q6,q7,q8,q9,hput,hfit,appA]
   simp [RetK,q10]
   simp [encBd] at q11 ⊢
   exact q11
end
end
def FOk (n:Nat) (es:Nms):Prop:=∀ w i,nmGet w es=some i→0≤i∧i < n
theorem FOk.nil (n:Nat):FOk n []:=fun w i h=>by cases h
theorem FOk.mono {n m:Nat} {es:Nms} (h:FOk n es) (hm:n≤m):FOk m es:=fun w i hi=>by have:=h w i hi; omega
theorem FOk.put {n:Nat} {es:Nms} (h:FOk n es) (w:Bs):FOk (n+1) (nmPut w n es):=fun u i hi=>by
 rw [nmGet_put] at hi
 split at hi
 · cases hi; omega
 · have:=h u i hi; omega
theorem findP_ok {n:Nat} {G:Nms} (hG:FOk n G) (w:Bs):∀ (E:List Frm) (far:Int),(∀ f ∈ E,FOk n f.es)→0≤far→((findP G w E far).1 = -1∨0≤(findP G w E far).1∧(findP G w E far).1 < n)∧0≤(findP G w E far).2∧(findP G w E far).2≤far+E.length
 | [], far, _, h0 => by
   simp only [findP]
   cases hg:nmGet w G with
   | none=>simp; omega
   | some i=>have:=hG w i hg; simp; omega
 | f :: r, far, h, h0 => by
   simp only [findP]
   cases hg:nmGet w f.es with
   | none =>
     have:=findP_ok hG w r (if f.lam then far+1 else far) (fun x hx=>h x (by simp [hx])) (by split<;>omega)
     refine ⟨this.1,this.2.1,?_⟩
     have h3:=this.2.2
     simp only [List.length_cons]
     split at h3<;>omega
   | some i=>have:=h f (by simp) w i hg; simp; omega
structure Grew (S S':SM) (k:Nat) (fr':Nms):Prop where
 bs:S.bs.length≤S'.bs.length
 sz:S'.sz≤S.sz+2 * k
 ok:FOk S'.bs.length fr'
theorem Grew.bind {S:SM} {fr:Nms} (h:FOk S.bs.length fr) (kind item:Int) (n:N):Grew S (bindP kind item n fr S).2 1 (bindP kind item n fr S).1:=by
 refine ⟨by simp [bindP,SM.bind],?_,?_⟩
 · exact SM.bind_sz S kind item n _
 · have:=h.put n.w
   simpa [bindP,SM.bind] using this
theorem Grew.binds {item:Int}:∀ (l:List N) {S:SM} {fr:Nms},FOk S.bs.length fr→Grew S (bindsP item l fr S).2 l.length (bindsP item l fr S).1
 | [],S,fr,h=>⟨Nat.le_refl _,by simp [bindsP],h⟩
 | n :: r, S, fr, h => by
   have h1:=Grew.bind h 3 item n
   have h2:=Grew.binds (item:=item) r h1.ok
   refine ⟨Nat.le_trans h1.bs h2.bs,?_,h2.ok⟩
   have:=h1.sz; have:=h2.sz
   simp only [bindsP,List.length_cons]; omega
def GrewN (n:N):Prop:=∀ (G:Nms) (item:Int) (E:List Frm) (fr:Nms) (lam:Bool) (S:SM),FOk S.bs.length fr→Grew S (nodeP G item n E fr lam S).2 n.size (nodeP G item n E fr lam S).1
theorem grew_kids {ks:List N} (ih:∀ p ∈ ks,GrewN p):∀ (G:Nms) (item:Int) (E:List Frm) (fr:Nms) (lam:Bool) (S:SM),FOk S.bs.length fr→Grew S (kidsP G item ks E fr lam S).2 (N.sizes ks) (kidsP G item ks E fr lam S).1:=by
 induction ks with
 | nil=>intro G item E fr lam S h; rw [kidsP_nil]; exact ⟨Nat.le_refl _,by simp,h⟩
 | cons n r ih2 =>
   intro G item E fr lam S h
   have h1:=ih n (by simp) G item E fr lam S h
   have h2:=ih2 (fun p hp=>ih p (by simp [hp])) G item E _ lam _ h1.ok
   rw [kidsP_cons,N.sizes_cons]
   refine ⟨Nat.le_trans h1.bs h2.bs,?_,h2.ok⟩
   have:=h1.sz; have:=h2.sz
   omega
theorem grew_closed {ks:List N} (ih:∀ p ∈ ks,GrewN p) (G:Nms) (item:Int) (E:List Frm) (lam:Bool) (S:SM):S.bs.length≤(sclosedP G item ks E lam S).bs.length∧(sclosedP G item ks E lam S).sz≤S.sz+2 * N.sizes ks:=by
 by_cases hl:ks.length=3
 · match ks,hl with
   | [p, q, b], _ =>
     rw [sclosedP_three]
     have h1:=Grew.binds (item:=item) p.ks (FOk.nil S.bs.length)
     have h2:=ih b (by simp) G item E _ lam _ h1.ok
     have:=h1.sz; have:=h2.sz; have:=h1.bs; have:=h2.bs
     have h3:=N.sizes_len p.ks
     have h4:=N.size_ks p
     simp only [N.sizes_cons,N.sizes_nil]
     omega
 · rw [sclosedP_ne _ _ hl]; omega
theorem grew (n:N):GrewN n:=by
 induction n using N.ind with
 | h k f t w a z ks ih =>
 intro G item E fr lam S h
 rw [nodeP_mk,N.size_mk]
 by_cases h6:k=6
 · rw [if_pos h6]
   have h1:=grew_kids ih G item (⟨fr,lam⟩ :: E) [] false S (FOk.nil _)
   have:=h1.sz
   exact ⟨h1.bs,by simp only; omega,h.mono h1.bs⟩
 rw [if_neg h6]
 by_cases h7:k=7
 · rw [if_pos h7]
   have h1:=grew_kids ih G item E fr lam S h
   have h2:=Grew.bind h1.ok 4 item (.mk k f t w a z ks)
   have:=h1.sz; have:=h2.sz
   exact ⟨Nat.le_trans h1.bs h2.bs,by omega,h2.ok⟩
 rw [if_neg h7]
 by_cases h8:k=8
 · rw [if_pos h8]
   have h1:=grew_kids ih G item E fr lam (S.men (.mk k f t w a z ks) true (findP G w (⟨fr,lam⟩ :: E) 0)) h
   have:=h1.sz
   have:=SM.men_sz S (.mk k f t w a z ks) true (findP G w (⟨fr,lam⟩ :: E) 0)
   exact ⟨h1.bs,by omega,h1.ok⟩
 rw [if_neg h8]
 by_cases h9:k=23
 · rw [if_pos h9]
   have:=SM.men_sz S (.mk k f t w a z ks) false (findP G w (⟨fr,lam⟩ :: E) 0)
   exact ⟨Nat.le_refl _,by simp only; omega,h⟩
 rw [if_neg h9]
 by_cases h10:k=28
 · rw [if_pos h10]
   have h1:=grew_closed ih G item (⟨fr,lam⟩ :: E) true S
   exact ⟨h1.1,by simp only; omega,h.mono h1.1⟩
 rw [if_neg h10]
 have h1:=grew_kids ih G item E fr lam S h
 have:=h1.sz
 exact ⟨h1.bs,by omega,h1.ok⟩
section
section
variable {P:Program} {F:SF} {c:SC} {S S':SM} {now:A} {item:Int} {G:Nms} {H:Hp}
theorem ChainAt.clr {l:List (Nat × Nat × Frm)} {a:A} (h:ChainAt F H a l):a.clr H.length=a:=by
 rcases h.val with ⟨rfl,-⟩ | ⟨i,m,f,r,-,rfl,hi⟩
 · simp
 · simp [hi]
def muF:A→Nat
 | .ptr i _=>i+1
 | _=>0
theorem SHas.find' (hF:SHas P F) (h:SInv F c S now item G H) {E:List (Nat × Nat × Frm)} (hc:ChainAt F H now E) (w:Bs) (hE:E.length≤1099511627776) :
 ACall P F.find [.ptr c.ib 0,.d (.str w)] H (fun r H'=>r = .tup [.d (.int .i64 (findP G w (E.map fun x=>x.2.2) 0).1),.d (.int .i64 (findP G w (E.map fun x=>x.2.2) 0).2)]∧H'=H):=by
 obtain ⟨fn,hf,hcf⟩:=hF.find
 refine acall_fin hf hcf (by simp [irScFind]) fun hcl _ => ?_
 have hi:=h.i
 have hG:=h.g
 have hil:=(h.lt).2.2.2.2.1
 have hg:=mpGet_nms w
 have hok:=mpOk_nms w
 simp [irScFind,hi]
 refine LoopK_of H.length (fun fr H'=>H'=H∧fr 0 = .ptr c.ib 0∧fr 1 = .d (.str w)∧∃ a E' far,fr 6=a∧ChainAt F H a E'∧fr 5 = .d (.int .i64 far)∧0≤far∧far+E'.length≤1099511627776∧findP G w (E'.map fun x=>x.2.2) far=findP G w (E.map fun x=>x.2.2) 0) (fun fr _=>muF (fr 6)) (by simp)
  ⟨cut_self hcl,by simp [hil],by simp,now,E,0,by simpa using hc.clr,hc,by simp,Int.le_refl _,by omega,rfl⟩ ?_
 rintro fr H' ⟨rfl,f0,f1,a,E',far,f6,hch,f5,h0,hle,hfe⟩
 cases E' with
 | nil =>
   simp only [ChainAt] at hch
   subst hch
   rw [← hfe]
   simp only [List.map_nil,findP]
   cases hgg:nmGet w G with
   | none=>simp [f0,f1,f5,f6,hi,hG,-mpOk,-mpGet,hok,hg,hgg,RetK,cut_self hcl]
   | some q=>simp [f0,f1,f5,f6,hi,hG,-mpOk,-mpGet,hok,hg,hgg,RetK,cut_self hcl]
 | cons x r =>
   obtain ⟨i,m,ff⟩:=x
   obtain ⟨rfl,hlt,up,h1,h2,h3⟩:=hch
   have hu:up.clr H'.length=up:=h3.clr
   rw [← hfe]
   simp only [List.map_cons,findP]
   simp only [List.map_cons,findP] at hfe
   cases hgg:nmGet w ff.es with
   | some q=>simp [f0,f1,f5,f6,h1,h2,-mpOk,-mpGet,hok,hg,hgg,RetK,cut_self hcl]
   | none =>
     rw [hgg] at hfe
     simp only at hfe
     have hw:IntKind.i64.wrap (far+1)=far+1:=wrap_i64 (by omega) (by simp only [List.length_cons] at hle; omega)
     have hm:muF (up.clr H'.length) < muF (.ptr i 0):=by
      rw [hu]
      rcases h3.val with ⟨rfl,-⟩ | ⟨i',m',f',r',rfl,rfl,-⟩
      · simp [muF]
      · have:=hlt (i',m',f') (by simp)
        simp [muF] at this ⊢; omega
     cases hlam:ff.lam with
     | true =>
       rw [hlam] at h1 hfe
       simp [f0,f1,f5,f6,h1,h2,-mpOk,-mpGet,hok,hg,hgg,hw]
       refine AgainK_of (by simp) ⟨cut_self hcl,by simp [f0,hil],by simp [f1],up,r,far+1,by simpa using hu,h3,by simp,by omega,by simp only [List.length_cons] at hle; omega,?_⟩ ?_
       · rfl
       · exact hm
     | false =>
       rw [hlam] at h1 hfe
       simp [f0,f1,f5,f6,h1,h2,-mpOk,-mpGet,hok,hg,hgg]
       refine AgainK_of (by simp) ⟨cut_self hcl,by simp [f0,hil],by simp [f1],up,r,far,by simpa using hu,h3,by simp [f5],by omega,by simp only [List.length_cons] at hle; omega,?_⟩ ?_
       · rfl
       · exact hm
theorem SHas.mention' (hF:SHas P F) (h:SInv F c S now item G H) {E:List (Nat × Nat × Frm)} (hc:ChainAt F H now E) (n:N) (wr:Bool) (hE:E.length≤1099511627776) (hb:S.sz≤2199023255552) (hG:FOk S.bs.length G) (hO:∀ x ∈ E,FOk S.bs.length x.2.2.es) :
 ACall P F.mention [.ptr c.ib 0,n.v,.d (.bool wr)] H (fun r H'=>r = .tup []∧H'=sput F c (S.men n wr (findP G n.w (E.map fun x=>x.2.2) 0)) H):=by
 obtain ⟨fn,hf,hcf⟩:=hF.mention
 refine acall_fin hf hcf (by simp [irScMention]) fun hcl _ => ?_
 obtain ⟨k,f,t,w,a,z,ks⟩:=n
 rw [N.v_mk]
 obtain ⟨p1,p2,p3,p4,p5,p6⟩:=h.lt
 obtain ⟨na,nb,nd,ne,nf⟩:=h.nd
 obtain ⟨bx,hbx⟩:∃ bx,bx=Ob.box F.tn [.d (.int .i64 k),.d (.int .i64 f),.d (.int .i64 t),.d (.str w),.d (.int .i64 a),.d (.sl z 6 (ks.map N.enc))]:=⟨_,rfl⟩
 have hfit:(S.ms.length+1) * 32≤140737488355328:=by unfold SM.sz at hb; omega
 have gf:=hF.find' (h.app [bx]) (hc.app [bx]) w hE
 have hok:=findP_ok hG w (E.map fun x=>x.2.2) 0 (fun f hf=>by
  obtain ⟨x,hx,rfl⟩:=List.mem_map.1 hf
  exact hO x hx) (Int.le_refl _)
 have hmen:S.men (.mk k f t w a z ks) wr (findP G w (E.map fun x=>x.2.2) 0)=⟨S.bs,S.ms++[⟨a,(findP G w (E.map fun x=>x.2.2) 0).1,wr,(findP G w (E.map fun x=>x.2.2) 0).2⟩],if (findP G w (E.map fun x=>x.2.2) 0).1 < 0 then S.bad++[(a,30)] else if wr∧(S.bs.getD (findP G w (E.map fun x=>x.2.2) 0).1.toNat default).k < 3 then S.bad++[(a,35)] else S.bad⟩:=rfl
 rw [show N.w (.mk k f t w a z ks)=w from rfl,hmen]
 generalize findP G w (E.map fun x=>x.2.2) 0=p at gf hok ⊢
 obtain ⟨to,far⟩:=p
 obtain ⟨hto,hf0,hf1⟩:=hok
 simp only at hto hf0 hf1 ⊢
 have key:∀ (bad:List (Int × Int)) (W:Hp),W=sput F c ⟨S.bs,S.ms,bad⟩ H++[bx] →
  W[H.length]?=some bx∧W[c.ib]?=some (.box F.tb [.ptr c.im 0,now,.map c.g,.d (.int .i64 item)])∧W[c.im]?=some (mbox F c ⟨S.bs,S.ms,bad⟩)∧W[c.tm]?=some (.tok S.ms.length 4 F.mn)∧(∀ o,(W.set c.tm o)[c.im]?=some (mbox F c ⟨S.bs,S.ms,bad⟩))∧H.length≤W.length ∧
  Hp.cut H.length ((W.set c.tm (.tok (S.ms.length+1) 4 F.mn)).set c.im (mbox F c ⟨S.bs,S.ms++[⟨a,to,wr,far⟩],bad⟩))=sput F c ⟨S.bs,S.ms++[⟨a,to,wr,far⟩],bad⟩ H:=by
  rintro bad W rfl
  have hs1:=h.put ⟨S.bs,S.ms,bad⟩
  have hs2:=hs1.app [bx]
  have hl:H.length=(sput F c ⟨S.bs,S.ms,bad⟩ H).length:=sput_len.symm
  refine ⟨by rw [hl]; simp,hs2.i,hs2.m,hs2.e,fun o=>by rw [List.getElem?_set_ne na.2.1.symm]; exact hs2.m,by simp [sput_len],?_⟩
  have hsb:=sput_ms hs1 (S.ms++[⟨a,to,wr,far⟩])
  rw [sput_sput] at hsb
  have hX:((sput F c ⟨S.bs,S.ms,bad⟩ H++[bx]).set c.tm (.tok (S.ms.length+1) 4 F.mn)).set c.im (mbox F c ⟨S.bs,S.ms++[⟨a,to,wr,far⟩],bad⟩)=sput F c ⟨S.bs,S.ms++[⟨a,to,wr,far⟩],bad⟩ H++[bx]:=by
   rw [hsb,List.set_append_left _ _ (by rw [sput_len]; exact p3),List.set_append_left _ _ (by rw [List.length_set,sput_len]; exact p1)]
   simp
  rw [hX]
  exact sput_cutX h hcl [bx]
 have hh:=h.app [bx]
 have e1:=hh.i
 have e2:=hh.m
 have e3:(H++[bx])[H.length]?=some bx:=by simp
 have hW0:H++[bx]=sput F c ⟨S.bs,S.ms,S.bad⟩ H++[bx]:=by rw [sput_self h]
 simp only [mbox] at e2
 by_cases hneg:to < 0
 · have gw:=hF.wrong' hh a 30 (by omega)
   rw [sput_app h] at gw
   obtain ⟨q1,q2,q3,q4,q5,q6,q7⟩:=key (S.bad++[(a,30)]) _ rfl
   simp only [mbox] at q3 q5 q7
   have hbx':=hbx
   subst hbx
   simp [irScMention]
   refine CallK_of' gf ?_
   generalize H++_=W0 at gw e1 e2 e3 ⊢
   simp [hneg,e3]
   refine CallK_of' gw ?_
   generalize sput F c ⟨S.bs,S.ms,S.bad++[(a,30)]⟩ H++_=W at q1 q2 q3 q4 q5 q6 q7 ⊢
   simp [q1,q2,q3,q4,q5,hfit,appA]
   simp [RetK,q6]
   simp [encMn,hneg] at q7 ⊢
   exact q7
 · obtain ⟨i,rfl⟩:∃ i:Nat,to=(i:Int):=⟨to.toNat,by omega⟩
   have hil:i < S.bs.length:=by omega
   have hr:=rowAt_map encBd hil
   have hgd:S.bs.getD i default=S.bs[i]:=by simp [List.getD_eq_getElem?_getD,hil]
   have hneg':¬ ((i:Int) < 0):=hneg
   rw [Int.toNat_natCast,hgd]
   generalize S.bs[i]=b at hr ⊢
   obtain ⟨ba,bk,bw,bi⟩:=b
   simp only [encBd] at hr
   simp only
   rw [if_neg hneg']
   by_cases hset:wr=true∧bk < 3
   · rw [if_pos hset]
     have gw:=hF.wrong' hh a 35 (by omega)
     rw [sput_app h] at gw
     obtain ⟨q1,q2,q3,q4,q5,q6,q7⟩:=key (S.bad++[(a,35)]) _ rfl
     simp only [mbox] at q3 q5 q7
     obtain ⟨rfl,hk⟩:=hset
     subst hbx
     simp [irScMention]
     refine CallK_of' gf ?_
     generalize H++_=W0 at gw e1 e2 e3 ⊢
     simp [hneg',e3,e1,e2,hr,hk]
     refine CallK_of' gw ?_
     generalize sput F c ⟨S.bs,S.ms,S.bad++[(a,35)]⟩ H++_=W at q1 q2 q3 q4 q5 q6 q7 ⊢
     simp [q1,q2,q3,q4,q5,hfit,appA]
     simp [RetK,q6]
     simp [encMn] at q7 ⊢
     exact q7
   · rw [if_neg hset]
     obtain ⟨q1,q2,q3,q4,q5,q6,q7⟩:=key S.bad _ hW0
     simp only [mbox] at q3 q5 q7
     subst hbx
     simp [irScMention]
     refine CallK_of' gf ?_
     generalize H++_=W at q1 q2 q3 q4 q5 q6 q7 ⊢
     cases wr with
     | false =>
       simp [hneg',q1,q2,q3,q4,q5,hfit,appA]
       simp [RetK,q6]
       simp [encMn] at q7 ⊢
       exact q7
     | true =>
       have hk:¬ bk < 3:=fun hk=>hset ⟨rfl,hk⟩
       simp [hneg',q1,q2,q3,q4,q5,hr,hk,hfit,appA]
       simp [RetK,q6]
       simp [encMn] at q7 ⊢
       exact q7
end
end
end Go.Zam
