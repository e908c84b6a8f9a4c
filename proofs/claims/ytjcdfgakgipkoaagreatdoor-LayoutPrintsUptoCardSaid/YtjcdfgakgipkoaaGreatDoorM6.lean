/-
  Texts of one proof, one behind the other.
-/
import Derived.Test.YtjcdfgakgipkoaaGreatDoorM5
set_option linter.all false
set_option maxRecDepth 100000
set_option maxHeartbeats 4000000
namespace Go.Zam
section
theorem isT_same {L:List Tk} {i:Nat} {x y:Bs} (h:isT L i x=true) (h':isT L i y=true):x=y:=by
 unfold isT at h h'
 cases hg:L[i]? with
 | none=>rw [hg] at h; cases h
 | some t =>
   rw [hg] at h h'
   simp at h h'
   rw [← h.2,← h'.2]
section
variable {P:Program} {R:RF} {z:Bool} {L:List Tk} {H X:Hp} {i:Nat} {s:PSt}
theorem RHas.expr' (hR:RHas P R) (hx:Has P R.expr (irR7Expr R.sum R.is R.ended R.tn)) (hE:EndsL L) (hL:L.length≤1048576) (n:Nat) (hn:n≤1099511627776) (hS:UR P R.tr z L n .sum R.sum):UR P R.tr z L (n+1) .expr R.expr:=by
 refine UR_of fun H i s hi hpp => ?_
 obtain ⟨fn,hf,hcf⟩:=hx
 refine acall_fin hf hcf (by simp [irR7Expr]) fun hcl _ => ?_
 have hp0:=hpp.1.1
 simp only [G.c] at hp0
 have hget:∀ st X,(H.set i (rst R.tr z L st)++X)[i]?=some (rst R.tr z L st):=fun st X=>upG hi
 have hcc:∀ st' X,Hp.cut H.length (H.set i (rst R.tr z L st')++X)=H.set i (rst R.tr z L st'):=fun st' X=>rcut hcl
 have gS:=fun X s hp=>hS H X i s hi hp
 obtain ⟨Q,hQ⟩:∃ Q:A→Hp→Prop,Q=RQ R.tr z L (n+1) .expr H i [] s:=⟨_,rfl⟩
 rw [← hQ]
 simp [irR7Expr]
 refine CallK_of (gS _ s ((MoE.refl s).pre hpp (by decide) (by simp only [G.c]; omega))) ?_
 rintro _ _ ⟨m,s1,rfl,rfl,r1⟩
 have m1:=r1.moE hE
 have hlt:=m1.lt hpp.2
 obtain ⟨k,f,t,w,a,zz,ks⟩:=m
 rw [N.v_mk]
 have ret:Rel L (n+1) .expr s (.mk k f t w a zz ks) s1→Q (.tup [.agg [.d (.int .i64 k),.d (.int .i64 f),.d (.int .i64 t),.d (.str w),.d (.int .i64 a),.d (.sl zz 6 (ks.map N.enc))],.d (.int .i64 (s1.1:Int))]) (H.set i (rst R.tr z L s1.2)):=fun h=>by
  subst hQ
  exact ⟨_,s1,by rw [N.v_mk],by simp,h⟩
 obtain ⟨p1,st1⟩:=s1
 cases st1 with
 | some q =>
   have hg1:=hget (some q)
   have hc:=hcc (some q)
   have hq:¬ (q:Int) < 0:=by omega
   have hq':(0:Int)≤q:=by omega
   simp only [rst] at hg1 hc ret
   simp [rst,hg1,hq,hq']
   simp [RetK,hc]
   refine ret ?_
   obtain ⟨p,st⟩:=s
   cases st with
   | some q' =>
     obtain ⟨b,e,e3⟩:=r1.some'
     simp only [Prod.mk.injEq,Option.some.injEq] at e
     obtain ⟨rfl,rfl⟩:=e
     simp only [G.wt] at e3
     simpa [Rel,G.wt] using e3
   | none =>
     rcases r1.none' with ⟨q',b,e,e2,e3⟩ | ⟨k',e,e2⟩
     · simp only [Prod.mk.injEq,Option.some.injEq] at e2
       obtain ⟨rfl,rfl⟩:=e2
       simp [Rel,pp,e,PR.then]
       omega
     · simp at e2
 | none =>
   have hl1:p1 < L.length:=hlt rfl
   have hg1:=hget none
   have hc:=hcc none
   obtain ⟨hs0,hle,-⟩:=m1 rfl
   obtain ⟨p,st⟩:=s
   simp only at hs0
   subst hs0
   simp only at hle
   obtain ⟨hp1,hp2⟩:=hpp.1.2.2 rfl
   simp only [G.c] at hp1 hp2
   have e1:pp L n .sum p = .ok (.mk k f t w a zz ks) p1:=by
    rcases r1.none' with ⟨q',b,e,e2,e3⟩ | ⟨k',e,e2⟩
    · simp at e2
    · simp only [Prod.mk.injEq] at e2
      rw [e,e2.1]
   have hw:IntKind.i64.wrap ((p1:Int)+1)=((p1+1:Nat):Int):=by rw [wrap_i64 (by omega) (by omega)]; omega
   have gi1:=fun X=>hR.isA (z:=z) (st:=none) (X:=X) hi hl1 [60]
   have gi2:=fun X=>hR.isA (z:=z) (st:=none) (X:=X) hi hl1 [61,61]
   have more:∀ (K:Int),isT L p1 [60]=true∧K=14∨isT L p1 [60]=false∧isT L p1 [61,61]=true∧K=15→∀ (m2:N) (s2:PSt),Rel L n .sum (p1+1,none) m2 s2→Q (.tup [.agg [.d (.int .i64 K),.d (.int .i64 f),.d (.int .i64 (s2.1:Int)),.d (.str []),.d (.int .i64 0),.d (.sl false 6 [[.int .i64 k,.int .i64 f,.int .i64 t,.str w,.int .i64 a,.sl zz 6 (ks.map N.enc)],m2.enc])],.d (.int .i64 (s2.1:Int))]) (H.set i (rst R.tr z L s2.2)):=by
    intro K hK m2 s2 r2
    subst hQ
    refine ⟨N.new K f s2.1 [] 0 [.mk k f t w a zz ks,m2],s2,by simp [N.new,N.v_mk,N.enc_mk],by simp,?_⟩
    simp only [Rel,pp,e1,PR.then]
    rcases hK with ⟨h1,rfl⟩ | ⟨h1,h2,rfl⟩
    · have:=isT_ltE hE h1
      rw [if_pos h1]
      rcases r2.none' with ⟨q',b,e,rfl,e3⟩ | ⟨k',e,rfl⟩
      · simp [e,PR.then]; omega
      · simp [e,PR.then,N.f]
    · have:=isT_ltE hE h2
      rw [if_neg (by simp [h1]),if_pos h2]
      rcases r2.none' with ⟨q',b,e,rfl,e3⟩ | ⟨k',e,rfl⟩
      · simp [e,PR.then]; omega
      · simp [e,PR.then,N.f]
   have pre2:p1+1 < L.length→PPreR L n .sum (p1+1,none):=fun h=>⟨⟨by simp only [G.c]; omega,by simp only [G.c]; omega,fun _=>⟨by simp only; omega,by simp only [G.c]; omega⟩⟩,fun _=>h⟩
   cases hT:isT L p1 [60] with
   | true =>
     have hT2:isT L p1 [61,61]=false:=by
      cases h:isT L p1 [61,61] with
      | false=>rfl
      | true=>exact absurd (isT_same hT h) (by decide)
     have g3:=fun X=>gS X _ (pre2 (isT_ltE hE hT))
     have more:=more 14 (.inl ⟨hT,rfl⟩)
     rw [hT] at gi1
     rw [hT2] at gi2
     simp only [rst] at hg1 gi1 gi2 g3
     simp [rst,hg1]
     refine CallK_of' (gi1 _) ?_
     simp
     refine CallK_of' (gi2 _) ?_
     simp [hw]
     refine CallK_of (g3 _) ?_
     rintro _ _ ⟨m2,s2,rfl,rfl,r2⟩
     have more:=more m2 s2 r2
     obtain ⟨k2,f2,t2,w2,a2,z2,ks2⟩:=m2
     rw [N.v_mk]
     rw [N.enc_mk] at more
     have g5:=hR.ended.rended 14 f 0 [] 0 true [] (s2.1:Int) false [[.int .i64 k,.int .i64 f,.int .i64 t,.str w,.int .i64 a,.sl zz 6 (ks.map N.enc)],[.int .i64 k2,.int .i64 f2,.int .i64 t2,.str w2,.int .i64 a2,.sl z2 6 (ks2.map N.enc)]]
     simp only [ag] at g5
     simp
     refine CallK_of' (g5 _) ?_
     simp
     simp [RetK,hcc]
     exact more
   | false =>
     cases hT2:isT L p1 [61,61] with
     | true =>
       have g3:=fun X=>gS X _ (pre2 (isT_ltE hE hT2))
       have more:=more 15 (.inr ⟨hT,hT2,rfl⟩)
       rw [hT] at gi1
       rw [hT2] at gi2
       simp only [rst] at hg1 gi1 gi2 g3
       simp [rst,hg1]
       refine CallK_of' (gi1 _) ?_
       simp
       refine CallK_of' (gi2 _) ?_
       simp
       refine CallK_of' (gi2 _) ?_
       simp [hw]
       refine CallK_of (g3 _) ?_
       rintro _ _ ⟨m2,s2,rfl,rfl,r2⟩
       have more:=more m2 s2 r2
       obtain ⟨k2,f2,t2,w2,a2,z2,ks2⟩:=m2
       rw [N.v_mk]
       rw [N.enc_mk] at more
       have g5:=hR.ended.rended 15 f 0 [] 0 true [] (s2.1:Int) false [[.int .i64 k,.int .i64 f,.int .i64 t,.str w,.int .i64 a,.sl zz 6 (ks.map N.enc)],[.int .i64 k2,.int .i64 f2,.int .i64 t2,.str w2,.int .i64 a2,.sl z2 6 (ks2.map N.enc)]]
       simp only [ag] at g5
       simp
       refine CallK_of' (g5 _) ?_
       simp
       simp [RetK,hcc]
       exact more
     | false =>
       rw [hT] at gi1
       rw [hT2] at gi2
       simp only [rst] at hg1 gi1 gi2 hc ret
       simp [rst,hg1]
       refine CallK_of' (gi1 _) ?_
       simp
       refine CallK_of' (gi2 _) ?_
       simp
       simp [RetK,hc]
       refine ret ?_
       simp [Rel,pp,e1,PR.then,hT,hT2]
end
end
section
def zbx (tn:TypeId):Ob := .box tn [.d (.int .i64 0),.d (.int .i64 0),.d (.int .i64 0),.d (.str []),.d (.int .i64 0),.d (.sl true 6 [])]
theorem rcutk {tr:TypeId} {z:Bool} {L:List Tk} {H:Hp} {i:Nat} {st:Option Nat} (hcl:Hp.Closed (H.set i (rst tr z L st))) (st':Option Nat) (k:Nat) (X:Hp):Hp.cut (H.length+k) (H.set i (rst tr z L st')++X)=H.set i (rst tr z L st')++(X.take k).map (Ob.clr (H.length+k)):=by
 have hc:Hp.Closed (H.set i (rst tr z L st')):=by
  have e:H.set i (rst tr z L st')=(H.set i (rst tr z L st)).set i (rst tr z L st'):=by simp
  intro n hn
  have h:=hcl n (by simpa using hn)
  rw [e,List.map_set,h,rst_clr]
 have:=cut_appk hc k X
 rwa [List.length_set] at this
section
variable {P:Program} {R:RF} {z:Bool} {L:List Tk}
theorem node_ho (tn:TypeId) (a:N):∃ (k f t:Int) (w:Bs) (q:Int) (za:Bool) (ks:List N),a.f=f∧a.enc=[.int .i64 k,.int .i64 f,.int .i64 t,.str w,.int .i64 q,.sl za 6 (ks.map N.enc)]∧a.v = .agg [.d (.int .i64 k),.d (.int .i64 f),.d (.int .i64 t),.d (.str w),.d (.int .i64 q),.d (.sl za 6 (ks.map N.enc))]∧abx tn a = .box tn [.d (.int .i64 k),.d (.int .i64 f),.d (.int .i64 t),.d (.str w),.d (.int .i64 q),.d (.sl za 6 (ks.map N.enc))]:=by
 obtain ⟨k,f,t,w,q,za,ks⟩:=a
 exact ⟨k,f,t,w,q,za,ks,rfl,by rw [N.enc_mk],by rw [N.v_mk],by rw [abx,N.enc_mk]; rfl⟩
theorem RHas.term' (hR:RHas P R) (hx:Has P R.term (irR7Term R.post R.is R.ended R.tn)) (hE:EndsL L) (hL:L.length≤1048576) (n:Nat) (hn:n≤1099511627776) (hT:∀ m,m < n+1→UR P R.tr z L m .post R.post):UR P R.tr z L (n+1) .term R.term:=by
 refine UR_of fun H i s hi hpp => ?_
 obtain ⟨fn,hf,hcf⟩:=hx
 refine acall_fin hf hcf (by simp [irR7Term]) fun hcl _ => ?_
 have hp1:=hpp.1.1
 simp only [G.c] at hp1
 simp [irR7Term]
 refine CallK_of (hT n (by omega) H _ i s hi ((MoE.refl s).pre hpp (by decide) (by simp only [G.c]; omega))) ?_
 rintro _ _ ⟨a0,s1,rfl,rfl,r1⟩
 have b1:=r1.le
 have m1:=r1.moE hE
 obtain ⟨XX,hXX⟩:∃ XX:N→Hp,XX=fun a=>[zbx R.tn,abx R.tn a]:=⟨_,rfl⟩
 have hXl:∀ a,(XX a).length=2:=fun a=>by rw [hXX]; rfl
 obtain ⟨E,hE0⟩:∃ E:Fr→Hp→Prop,E=fun fr H'=>∃ a s',(fr 0 = .ptr i 0∧fr 4 = .ptr H.length 0∧fr 6 = .ptr (H.length+1) 0∧fr 7 = .d (.int .i64 (s'.1:Int)))∧Rel L (n+1) .term s a s'∧∃ Y,H'=H.set i (rst R.tr z L s'.2)++(XX a++Y):=⟨_,rfl⟩
 have hE1:∀ fr a s',(fr 0 = .ptr i 0∧fr 4 = .ptr H.length 0∧fr 6 = .ptr (H.length+1) 0∧fr 7 = .d (.int .i64 (s'.1:Int)))→Rel L (n+1) .term s a s'→E fr (H.set i (rst R.tr z L s'.2)++XX a):=fun fr a s' h h'=>by subst hE0; exact ⟨a,s',h,h',[],by simp⟩
 obtain ⟨k,f,t,w,q,za,ks,hf0,he,hv,hb⟩:=node_ho R.tn a0
 rw [hv]
 simp
 rw [show H.set i (rst R.tr z L s1.2)++[Ob.box R.tn [.d (.int .i64 0),.d (.int .i64 0),.d (.int .i64 0),.d (.str []),.d (.int .i64 0),.d (.sl true 6 [])],.box R.tn [.d (.int .i64 k),.d (.int .i64 f),.d (.int .i64 t),.d (.str w),.d (.int .i64 q),.d (.sl za 6 (ks.map N.enc))]]=H.set i (rst R.tr z L s1.2)++XX a0 by rw [hXX,← hb]; rfl]
 refine LoopK_outR 0 E (fun _ _=>False) ?_ (fun _ _ h=>h.elim) ?_
 rotate_left
 · intro fr H' h
   subst hE0
   obtain ⟨a,s',⟨f0,f4,f6,f7⟩,hr,Y,rfl⟩:=h
   obtain ⟨k,f,t,w,q,za,ks,-,-,hv,hb⟩:=node_ho R.tn a
   subst hXX
   simp [f0,f4,f6,f7,hb,zbx]
   simp [RetK,rcut hcl]
   exact ⟨a,s',by rw [hv],by simp,hr⟩
 clear hE0
 have hcut:∀ a st' X,Hp.cut (H.length+2) (H.set i (rst R.tr z L st')++(XX a++X))=H.set i (rst R.tr z L st')++XX a:=fun a st' X=>by
  rw [rcutk hcl,hXX]
  change H.set i (rst R.tr z L st')++[(zbx R.tn).clr _,(abx R.tn a).clr _]=_
  rw [abx_clr]; rfl
 have hcut0:∀ a st',Hp.cut (H.length+2) (H.set i (rst R.tr z L st')++XX a)=H.set i (rst R.tr z L st')++XX a:=fun a st'=>by simpa using hcut a st' []
 have hg0:∀ st X,(H.set i (rst R.tr z L st)++X)[i]?=some (rst R.tr z L st):=fun st X=>upG hi
 have hset:∀ a a' X,(XX a++X).set 1 (abx R.tn a')=XX a'++X:=fun a a' X=>by rw [hXX]; simp
 have hgA:∀ a X,(XX a++X)[1]?=some (abx R.tn a):=fun a X=>by rw [hXX]; simp
 have hgB:∀ a b X,(XX a++b :: X)[2]?=some b:=fun a b X=>by rw [hXX]; simp
 refine LoopM_of (H.length+2) (fun d fr H'=>∃ a s',(fr 0 = .ptr i 0∧fr 4 = .ptr H.length 0∧fr 6 = .ptr (H.length+1) 0∧fr 7 = .d (.int .i64 (s'.1:Int)))∧H'=H.set i (rst R.tr z L s'.2)++XX a ∧
  ((d=0∧s'.2 ≠ none∧∀ m,Rel L (n+1) .term s m s')∨∃ p1,s'=(p1,none)∧s.2=none∧d≤n∧pp L (n+1) .term s.1=pp L d (.termL a) p1∧p1 < L.length∧16 * (L.length - p1)+1≤d)) (match s1.2 with | none=>n | some _=>0) (by simp [hXl]) ⟨a0,s1,?_⟩ ?_
 · have hil2:i < H.length+2:=by omega
   refine ⟨by simp [hil2],hcut0 _ _,?_⟩
   obtain ⟨p,st⟩:=s
   cases st with
   | some q =>
     obtain ⟨b,rfl,e⟩:=r1.some'
     simp only [G.wt] at e
     exact .inl ⟨rfl,by simp,fun m=>by simp [Rel,G.wt]; omega⟩
   | none =>
     obtain ⟨hp2,hp3⟩:=hpp.1.2.2 rfl
     simp only [G.c] at hp2 hp3
     have hpl:=hpp.2 rfl
     rcases r1.none' with ⟨q',b,hq,rfl,e3⟩ | ⟨j,hj,rfl⟩
     · exact .inl ⟨rfl,by simp,fun m=>by simp [Rel,pp,hq,PR.then]; omega⟩
     · have:=pp_advE hE n .post p
       rw [hj] at this
       obtain ⟨v1,v2,v3⟩:=this
       have v2:=v2 rfl
       have v3:=v3 v2
       exact .inr ⟨j,rfl,rfl,by simp,by simp [pp,hj,PR.then],v3,by (try simp only at hp3 ⊢); omega⟩
 · rintro d fr H' ⟨a,s',⟨f0,f4,f6,f7⟩,rfl,hd⟩
   have hil2:i < H.length+2:=by omega
   rcases hd with ⟨rfl,q1,q2⟩ | ⟨p1,rfl,hs2,hdn,hpe,hp1',hrk⟩
   · obtain ⟨p',st'⟩:=s'
     cases st' with
     | none=>simp at q1
     | some q =>
       have hg1:=hg0 (some q)
       have hq:¬ (q:Int) < 0:=by omega
       have hE2:=fun fr h=>hE1 fr a (p',some q) h (q2 _)
       simp only [rst] at hg1 hE2
       simp [f0,f7,rst,hg1,hq]
       exact hE2 _ (by simp [f0,f4,f6,f7])
   · obtain ⟨d',rfl⟩:∃ d',d=d'+1:=⟨d - 1,by omega⟩
     have hRel:∀ m s',(match pp L (d'+1) (.termL a) p1 with | .out=>False | .bad q=>s'.2=some q∧s'.1≤L.length+(n+1) | .ok m' k=>m=m'∧s'=(k,none))→Rel L (n+1) .term s m s':=fun m s' h=>by
      unfold Rel
      rw [hs2]
      simp only
      rw [hpe]; exact h
     have hg1:=hg0 none
     have gi:=fun X=>hR.isA (z:=z) (st:=none) (X:=X) hi hp1' [42]
     have hw:IntKind.i64.wrap ((p1:Int)+1)=((p1+1:Nat):Int):=by rw [wrap_i64 (by omega) (by omega)]; omega
     cases hjb:isT L p1 [42] with
     | false =>
       have hE2:=fun fr h=>hE1 fr a (p1,none) h (hRel _ _ (by simp [pp,hjb]))
       rw [hjb] at gi
       simp only [rst] at hg1 gi hE2
       simp [f0,f7,rst,hg1]
       refine CallK_of' (gi _) ?_
       simp
       exact hE2 _ (by simp [f0,f4,f6,f7])
     | true =>
       have l1:=isT_ltE hE hjb
       obtain ⟨k,f,t,w,q,za,ks,hf,he,hv,hb⟩:=node_ho R.tn a
       have gp:=fun X=>hT d' (by omega) H X i (p1+1,none) hi ⟨⟨by simp only [G.c]; omega,by simp only [G.c]; omega,fun _=>⟨by simp only; omega,by simp only [G.c]; omega⟩⟩,fun _=>l1⟩
       rw [hjb] at gi
       simp only [rst] at hg1 gi gp
       simp [f0,f7,rst,hg1]
       refine CallK_of' (gi _) ?_
       simp [f0,f7,hw]
       refine CallK_of (gp _) ?_
       rintro _ _ ⟨b,s2,rfl,rfl,r2⟩
       obtain ⟨kb,fb,tb,wb,qb,zb,ksb,hfb,heb,hvb,hbb⟩:=node_ho R.tn b
       rw [hvb]
       obtain ⟨bo,hbo⟩:∃ bo:Ob,bo = .box R.tn [.d (.int .i64 kb),.d (.int .i64 fb),.d (.int .i64 tb),.d (.str wb),.d (.int .i64 qb),.d (.sl zb 6 (ksb.map N.enc))]:=⟨_,rfl⟩
       have hA:=hgA a
       rw [hb] at hA
       have hB:=fun X=>hgB a bo X
       rw [hbo] at hB
       have g5:=hR.ended.rended 18 f 0 [] 0 true [] (s2.1:Int) false [a.enc,b.enc]
       rw [he,heb] at g5
       simp only [ag] at g5
       have hA1:∀ h,(XX a)[1]'h = .box R.tn [.d (.int .i64 k),.d (.int .i64 f),.d (.int .i64 t),.d (.str w),.d (.int .i64 q),.d (.sl za 6 (ks.map N.enc))]:=fun h=>by rw [← hb]; simp [hXX]
       simp [f6,hXl,hA,hB,hA1]
       refine CallK_of' (g5 _) ?_
       have hnew:abx R.tn (N.new 18 f s2.1 [] 0 [a,b]) = .box R.tn [.d (.int .i64 18),.d (.int .i64 f),.d (.int .i64 s2.1),.d (.str []),.d (.int .i64 0),.d (.sl false 6 [[.int .i64 k,.int .i64 f,.int .i64 t,.str w,.int .i64 q,.sl za 6 (ks.map N.enc)],[.int .i64 kb,.int .i64 fb,.int .i64 tb,.str wb,.int .i64 qb,.sl zb 6 (ksb.map N.enc)]])]:=by
        rw [abx,N.new,N.enc_mk]
        simp [he,heb]
       have hs1:=fun Y=>hset a (N.new 18 f s2.1 [] 0 [a,b]) Y
       rw [hnew] at hs1
       simp [f6,hXl,hA,hA1,hs1]
       rcases r2.none' with ⟨q',b',hq,rfl,e3⟩ | ⟨j,hj,rfl⟩
       · refine NextM_of (H.length+2) 0 (Nat.le_refl _) (by simp [hXl]) (by omega) ⟨_,(b',some q'),by simp [f0,f4,f6,hil2],hcut _ _ _,.inl ⟨rfl,by simp,fun m=>hRel _ _ ?_⟩⟩
         simp [pp,hjb,hq,PR.then]; omega
       · have:=pp_advE hE d' .post (p1+1)
         rw [hj] at this
         obtain ⟨v1,v2,v3⟩:=this
         have v2:=v2 rfl
         have v3:=v3 v2
         refine NextM_of (H.length+2) d' (Nat.le_refl _) (by simp [hXl]) (by omega) ⟨_,(j,none),by simp [f0,f4,f6,hil2],hcut _ _ _,.inr ⟨j,rfl,hs2,by omega,?_,v3,by omega⟩⟩
         rw [hpe]; simp [pp,hjb,hj,PR.then,hf]
end
end
section
section
variable {P:Program} {R:RF} {z:Bool} {L:List Tk}
theorem RHas.sum' (hR:RHas P R) (hx:Has P R.sum (irR7Sum R.term R.is R.ended R.tn)) (hE:EndsL L) (hL:L.length≤1048576) (n:Nat) (hn:n≤1099511627776) (hT:∀ m,m < n+1→UR P R.tr z L m .term R.term):UR P R.tr z L (n+1) .sum R.sum:=by
 refine UR_of fun H i s hi hpp => ?_
 obtain ⟨fn,hf,hcf⟩:=hx
 refine acall_fin hf hcf (by simp [irR7Sum]) fun hcl _ => ?_
 have hp1:=hpp.1.1
 simp only [G.c] at hp1
 simp [irR7Sum]
 refine CallK_of (hT n (by omega) H _ i s hi ((MoE.refl s).pre hpp (by decide) (by simp only [G.c]; omega))) ?_
 rintro _ _ ⟨a0,s1,rfl,rfl,r1⟩
 have b1:=r1.le
 have m1:=r1.moE hE
 obtain ⟨XX,hXX⟩:∃ XX:N→Hp,XX=fun a=>[zbx R.tn,abx R.tn a]:=⟨_,rfl⟩
 have hXl:∀ a,(XX a).length=2:=fun a=>by rw [hXX]; rfl
 obtain ⟨E,hE0⟩:∃ E:Fr→Hp→Prop,E=fun fr H'=>∃ a s',(fr 0 = .ptr i 0∧fr 4 = .ptr H.length 0∧fr 6 = .ptr (H.length+1) 0∧fr 7 = .d (.int .i64 (s'.1:Int)))∧Rel L (n+1) .sum s a s'∧∃ Y,H'=H.set i (rst R.tr z L s'.2)++(XX a++Y):=⟨_,rfl⟩
 have hE1:∀ fr a s',(fr 0 = .ptr i 0∧fr 4 = .ptr H.length 0∧fr 6 = .ptr (H.length+1) 0∧fr 7 = .d (.int .i64 (s'.1:Int)))→Rel L (n+1) .sum s a s'→E fr (H.set i (rst R.tr z L s'.2)++XX a):=fun fr a s' h h'=>by subst hE0; exact ⟨a,s',h,h',[],by simp⟩
 obtain ⟨k,f,t,w,q,za,ks,hf0,he,hv,hb⟩:=node_ho R.tn a0
 rw [hv]
 simp
 rw [show H.set i (rst R.tr z L s1.2)++[Ob.box R.tn [.d (.int .i64 0),.d (.int .i64 0),.d (.int .i64 0),.d (.str []),.d (.int .i64 0),.d (.sl true 6 [])],.box R.tn [.d (.int .i64 k),.d (.int .i64 f),.d (.int .i64 t),.d (.str w),.d (.int .i64 q),.d (.sl za 6 (ks.map N.enc))]]=H.set i (rst R.tr z L s1.2)++XX a0 by rw [hXX,← hb]; rfl]
 refine LoopK_outR 0 E (fun _ _=>False) ?_ (fun _ _ h=>h.elim) ?_
 rotate_left
 · intro fr H' h
   subst hE0
   obtain ⟨a,s',⟨f0,f4,f6,f7⟩,hr,Y,rfl⟩:=h
   obtain ⟨k,f,t,w,q,za,ks,-,-,hv,hb⟩:=node_ho R.tn a
   subst hXX
   simp [f0,f4,f6,f7,hb,zbx]
   simp [RetK,rcut hcl]
   exact ⟨a,s',by rw [hv],by simp,hr⟩
 clear hE0
 have hcut:∀ a st' X,Hp.cut (H.length+2) (H.set i (rst R.tr z L st')++(XX a++X))=H.set i (rst R.tr z L st')++XX a:=fun a st' X=>by
  rw [rcutk hcl,hXX]
  change H.set i (rst R.tr z L st')++[(zbx R.tn).clr _,(abx R.tn a).clr _]=_
  rw [abx_clr]; rfl
 have hcut0:∀ a st',Hp.cut (H.length+2) (H.set i (rst R.tr z L st')++XX a)=H.set i (rst R.tr z L st')++XX a:=fun a st'=>by simpa using hcut a st' []
 have hg0:∀ st X,(H.set i (rst R.tr z L st)++X)[i]?=some (rst R.tr z L st):=fun st X=>upG hi
 have hset:∀ a a' X,(XX a++X).set 1 (abx R.tn a')=XX a'++X:=fun a a' X=>by rw [hXX]; simp
 have hgA:∀ a X,(XX a++X)[1]?=some (abx R.tn a):=fun a X=>by rw [hXX]; simp
 have hgB:∀ a b X,(XX a++b :: X)[2]?=some b:=fun a b X=>by rw [hXX]; simp
 refine LoopM_of (H.length+2) (fun d fr H'=>∃ a s',(fr 0 = .ptr i 0∧fr 4 = .ptr H.length 0∧fr 6 = .ptr (H.length+1) 0∧fr 7 = .d (.int .i64 (s'.1:Int)))∧H'=H.set i (rst R.tr z L s'.2)++XX a ∧
  ((d=0∧s'.2 ≠ none∧∀ m,Rel L (n+1) .sum s m s')∨∃ p1,s'=(p1,none)∧s.2=none∧d≤n∧pp L (n+1) .sum s.1=pp L d (.sumL a) p1∧p1 < L.length∧16 * (L.length - p1)+1≤d)) (match s1.2 with | none=>n | some _=>0) (by simp [hXl]) ⟨a0,s1,?_⟩ ?_
 · have hil2:i < H.length+2:=by omega
   refine ⟨by simp [hil2],hcut0 _ _,?_⟩
   obtain ⟨p,st⟩:=s
   cases st with
   | some q =>
     obtain ⟨b,rfl,e⟩:=r1.some'
     simp only [G.wt] at e
     exact .inl ⟨rfl,by simp,fun m=>by simp [Rel,G.wt]; omega⟩
   | none =>
     obtain ⟨hp2,hp3⟩:=hpp.1.2.2 rfl
     simp only [G.c] at hp2 hp3
     have hpl:=hpp.2 rfl
     rcases r1.none' with ⟨q',b,hq,rfl,e3⟩ | ⟨j,hj,rfl⟩
     · exact .inl ⟨rfl,by simp,fun m=>by simp [Rel,pp,hq,PR.then]; omega⟩
     · have:=pp_advE hE n .term p
       rw [hj] at this
       obtain ⟨v1,v2,v3⟩:=this
       have v2:=v2 rfl
       have v3:=v3 v2
       exact .inr ⟨j,rfl,rfl,by simp,by simp [pp,hj,PR.then],v3,by (try simp only at hp3 ⊢); omega⟩
 · rintro d fr H' ⟨a,s',⟨f0,f4,f6,f7⟩,rfl,hd⟩
   have hil2:i < H.length+2:=by omega
   rcases hd with ⟨rfl,q1,q2⟩ | ⟨p1,rfl,hs2,hdn,hpe,hp1',hrk⟩
   · obtain ⟨p',st'⟩:=s'
     cases st' with
     | none=>simp at q1
     | some q =>
       have hg1:=hg0 (some q)
       have hq:¬ (q:Int) < 0:=by omega
       have hE2:=fun fr h=>hE1 fr a (p',some q) h (q2 _)
       simp only [rst] at hg1 hE2
       simp [f0,f7,rst,hg1,hq]
       exact hE2 _ (by simp [f0,f4,f6,f7])
   · obtain ⟨d',rfl⟩:∃ d',d=d'+1:=⟨d - 1,by omega⟩
     have hRel:∀ m s',(match pp L (d'+1) (.sumL a) p1 with | .out=>False | .bad q=>s'.2=some q∧s'.1≤L.length+(n+1) | .ok m' k=>m=m'∧s'=(k,none))→Rel L (n+1) .sum s m s':=fun m s' h=>by
      unfold Rel
      rw [hs2]
      simp only
      rw [hpe]; exact h
     have hg1:=hg0 none
     have gi:=fun X=>hR.isA (z:=z) (st:=none) (X:=X) hi hp1' [43]
     have gj:=fun X=>hR.isA (z:=z) (st:=none) (X:=X) hi hp1' [45]
     have hw:IntKind.i64.wrap ((p1:Int)+1)=((p1+1:Nat):Int):=by rw [wrap_i64 (by omega) (by omega)]; omega
     cases hjb:isT L p1 [43] with
     | true =>
       have l1:=isT_ltE hE hjb
       have hjc:isT L p1 [45]=false:=by
        cases h:isT L p1 [45] with
        | false=>rfl
        | true=>exact absurd (isT_same hjb h) (by decide)
       obtain ⟨k,f,t,w,q,za,ks,hf,he,hv,hb⟩:=node_ho R.tn a
       have gp:=fun X=>hT d' (by omega) H X i (p1+1,none) hi ⟨⟨by simp only [G.c]; omega,by simp only [G.c]; omega,fun _=>⟨by simp only; omega,by simp only [G.c]; omega⟩⟩,fun _=>l1⟩
       rw [hjb] at gi
       rw [hjc] at gj
       simp only [rst] at hg1 gi gj gp
       simp [f0,f7,rst,hg1]
       refine CallK_of' (gi _) ?_
       simp [f0,f7]
       refine CallK_of' (gj _) ?_
       simp [f0,f7,hw]
       refine CallK_of (gp _) ?_
       rintro _ _ ⟨b,s2,rfl,rfl,r2⟩
       obtain ⟨kb,fb,tb,wb,qb,zb,ksb,hfb,heb,hvb,hbb⟩:=node_ho R.tn b
       rw [hvb]
       obtain ⟨bo,hbo⟩:∃ bo:Ob,bo = .box R.tn [.d (.int .i64 kb),.d (.int .i64 fb),.d (.int .i64 tb),.d (.str wb),.d (.int .i64 qb),.d (.sl zb 6 (ksb.map N.enc))]:=⟨_,rfl⟩
       have hA:=hgA a
       rw [hb] at hA
       have hB:=fun X=>hgB a bo X
       rw [hbo] at hB
       have g5:=hR.ended.rended 16 f 0 [] 0 true [] (s2.1:Int) false [a.enc,b.enc]
       rw [he,heb] at g5
       simp only [ag] at g5
       have hA1:∀ h,(XX a)[1]'h = .box R.tn [.d (.int .i64 k),.d (.int .i64 f),.d (.int .i64 t),.d (.str w),.d (.int .i64 q),.d (.sl za 6 (ks.map N.enc))]:=fun h=>by rw [← hb]; simp [hXX]
       simp [f6,hXl,hA,hB,hA1]
       refine CallK_of' (g5 _) ?_
       have hnew:abx R.tn (N.new 16 f s2.1 [] 0 [a,b]) = .box R.tn [.d (.int .i64 16),.d (.int .i64 f),.d (.int .i64 s2.1),.d (.str []),.d (.int .i64 0),.d (.sl false 6 [[.int .i64 k,.int .i64 f,.int .i64 t,.str w,.int .i64 q,.sl za 6 (ks.map N.enc)],[.int .i64 kb,.int .i64 fb,.int .i64 tb,.str wb,.int .i64 qb,.sl zb 6 (ksb.map N.enc)]])]:=by
        rw [abx,N.new,N.enc_mk]
        simp [he,heb]
       have hs1:=fun Y=>hset a (N.new 16 f s2.1 [] 0 [a,b]) Y
       rw [hnew] at hs1
       simp [f6,hXl,hA,hA1,hs1]
       rcases r2.none' with ⟨q',b',hq,rfl,e3⟩ | ⟨j,hj,rfl⟩
       · refine NextM_of (H.length+2) 0 (Nat.le_refl _) (by simp [hXl]) (by omega) ⟨_,(b',some q'),by simp [f0,f4,f6,hil2],hcut _ _ _,.inl ⟨rfl,by simp,fun m=>hRel _ _ ?_⟩⟩
         simp [pp,hjb,hq,PR.then]; omega
       · have:=pp_advE hE d' .term (p1+1)
         rw [hj] at this
         obtain ⟨v1,v2,v3⟩:=this
         have v2:=v2 rfl
         have v3:=v3 v2
         refine NextM_of (H.length+2) d' (Nat.le_refl _) (by simp [hXl]) (by omega) ⟨_,(j,none),by simp [f0,f4,f6,hil2],hcut _ _ _,.inr ⟨j,rfl,hs2,by omega,?_,v3,by omega⟩⟩
         rw [hpe]; simp [pp,hjb,hj,PR.then,hf]
     | false =>
       cases hjc:isT L p1 [45] with
       | false =>
         have hE2:=fun fr h=>hE1 fr a (p1,none) h (hRel _ _ (by simp [pp,hjb,hjc]))
         rw [hjb] at gi
         rw [hjc] at gj
         simp only [rst] at hg1 gi gj hE2
         simp [f0,f7,rst,hg1]
         refine CallK_of' (gi _) ?_
         simp [f0,f7]
         refine CallK_of' (gj _) ?_
         simp
         exact hE2 _ (by simp [f0,f4,f6,f7])
       | true =>
         have l1:=isT_ltE hE hjc
         obtain ⟨k,f,t,w,q,za,ks,hf,he,hv,hb⟩:=node_ho R.tn a
         have gp:=fun X=>hT d' (by omega) H X i (p1+1,none) hi ⟨⟨by simp only [G.c]; omega,by simp only [G.c]; omega,fun _=>⟨by simp only; omega,by simp only [G.c]; omega⟩⟩,fun _=>l1⟩
         rw [hjb] at gi
         rw [hjc] at gj
         simp only [rst] at hg1 gi gj gp
         simp [f0,f7,rst,hg1]
         refine CallK_of' (gi _) ?_
         simp [f0,f7]
         refine CallK_of' (gj _) ?_
         simp [f0,f7]
         refine CallK_of' (gj _) ?_
         simp [f0,f7,hw]
         refine CallK_of (gp _) ?_
         rintro _ _ ⟨b,s2,rfl,rfl,r2⟩
         obtain ⟨kb,fb,tb,wb,qb,zb,ksb,hfb,heb,hvb,hbb⟩:=node_ho R.tn b
         rw [hvb]
         obtain ⟨bo,hbo⟩:∃ bo:Ob,bo = .box R.tn [.d (.int .i64 kb),.d (.int .i64 fb),.d (.int .i64 tb),.d (.str wb),.d (.int .i64 qb),.d (.sl zb 6 (ksb.map N.enc))]:=⟨_,rfl⟩
         have hA:=hgA a
         rw [hb] at hA
         have hB:=fun X=>hgB a bo X
         rw [hbo] at hB
         have g5:=hR.ended.rended 17 f 0 [] 0 true [] (s2.1:Int) false [a.enc,b.enc]
         rw [he,heb] at g5
         simp only [ag] at g5
         have hA1:∀ h,(XX a)[1]'h = .box R.tn [.d (.int .i64 k),.d (.int .i64 f),.d (.int .i64 t),.d (.str w),.d (.int .i64 q),.d (.sl za 6 (ks.map N.enc))]:=fun h=>by rw [← hb]; simp [hXX]
         simp [f6,hXl,hA,hB,hA1]
         refine CallK_of' (g5 _) ?_
         have hnew:abx R.tn (N.new 17 f s2.1 [] 0 [a,b]) = .box R.tn [.d (.int .i64 17),.d (.int .i64 f),.d (.int .i64 s2.1),.d (.str []),.d (.int .i64 0),.d (.sl false 6 [[.int .i64 k,.int .i64 f,.int .i64 t,.str w,.int .i64 q,.sl za 6 (ks.map N.enc)],[.int .i64 kb,.int .i64 fb,.int .i64 tb,.str wb,.int .i64 qb,.sl zb 6 (ksb.map N.enc)]])]:=by
          rw [abx,N.new,N.enc_mk]
          simp [he,heb]
         have hs1:=fun Y=>hset a (N.new 17 f s2.1 [] 0 [a,b]) Y
         rw [hnew] at hs1
         simp [f6,hXl,hA,hA1,hs1]
         rcases r2.none' with ⟨q',b',hq,rfl,e3⟩ | ⟨j,hj,rfl⟩
         · refine NextM_of (H.length+2) 0 (Nat.le_refl _) (by simp [hXl]) (by omega) ⟨_,(b',some q'),by simp [f0,f4,f6,hil2],hcut _ _ _,.inl ⟨rfl,by simp,fun m=>hRel _ _ ?_⟩⟩
           simp [pp,hjb,hjc,hq,PR.then]; omega
         · have:=pp_advE hE d' .term (p1+1)
           rw [hj] at this
           obtain ⟨v1,v2,v3⟩:=this
           have v2:=v2 rfl
           have v3:=v3 v2
           refine NextM_of (H.length+2) d' (Nat.le_refl _) (by simp [hXl]) (by omega) ⟨_,(j,none),by simp [f0,f4,f6,hil2],hcut _ _ _,.inr ⟨j,rfl,hs2,by omega,?_,v3,by omega⟩⟩
           rw [hpe]; simp [pp,hjb,hjc,hj,PR.then,hf]
end
end
section
theorem fin_nodeR {tr:TypeId} {z z':Bool} {L:List Tk} {n:Nat} {g:G} {H:Hp} {i:Nat} {s s':PSt} {k f t a:Int} {w:Bs} {rows:List (List D)} (ks:List N) (hrows:rows=ks.map N.enc) (hz:rows=[]→z'=true) (hr:Rel L n g s (N.new k f t w a ks) s') :
 ∃ r',Nrm (.tup [.agg [.d (.int .i64 k),.d (.int .i64 f),.d (.int .i64 t),.d (.str w),.d (.int .i64 a),.d (.sl z' 6 rows)],.d (.int .i64 (s'.1:Int))]) r'∧RQ tr z L n g H i [] s r' (H.set i (rst tr z L s'.2)):=by
 refine ⟨.tup [.agg [.d (.int .i64 k),.d (.int .i64 f),.d (.int .i64 t),.d (.str w),.d (.int .i64 a),.d (.sl rows.isEmpty 6 rows)],.d (.int .i64 (s'.1:Int))],?_,N.new k f t w a ks,s',?_,by simp,hr⟩
 · intro κ v h
   cases h with
   | tup vs _ hl hh =>
     refine .tup vs _ (by simpa using hl) fun j v a hv ha => ?_
     match j with
     | 0 =>
       simp at ha
       subst ha
       exact nrm_node hz κ v (hh 0 v _ hv rfl)
     | 1=>exact hh 1 v _ hv ha
     | j+2=>simp at ha
 · rw [N.v_new,hrows]
   cases ks<;>rfl
def US (P:Program) (tr:TypeId) (z:Bool) (L:List Tk) (n:Nat) (g:G) (f:FuncId):Prop:=∀ (H X:Hp) (i p:Nat),i < H.length→PPreR L n g (p,none)→ACall P f [.ptr i 0,.d (.int .i64 (p:Int))] (H.set i (rst tr z L none)++X) (RQ tr z L n g H i X (p,none))
theorem US_of {P:Program} {tr:TypeId} {z:Bool} {L:List Tk} {n:Nat} {g:G} {f:FuncId} (h:∀ (H:Hp) (i p:Nat),i < H.length→PPreR L n g (p,none)→ACall P f [.ptr i 0,.d (.int .i64 (p:Int))] (H.set i (rst tr z L none)) (RQ tr z L n g H i [] (p,none))):US P tr z L n g f:=by
 intro H X i p hi hp
 have:=h (H++X) i p (by simp; omega) hp
 rw [List.set_append_left _ _ hi] at this
 refine this.mono ?_
 rintro r H' ⟨m,s',rfl,rfl,hr⟩
 refine ⟨m,s',rfl,?_,hr⟩
 rw [List.append_nil,List.set_append_left _ _ hi]
section
variable {P:Program} {R:RF} {z:Bool} {L:List Tk}
theorem RHas.block' (hR:RHas P R) (hx:HasT P [7] R.block (irR7Block R.want R.is R.stmt R.ended R.tn)) (hE:EndsL L) (hL:L.length≤1048576) (n:Nat) (hn:n≤1099511627776) (hS:∀ m,m < n→US P R.tr z L m .stmt R.stmt):UR P R.tr z L (n+1) .block R.block:=by
 refine UR_of fun H i s hi hpp => ?_
 obtain ⟨fn,hf,hcf⟩:=hx
 refine acall_norm (acall_fin hf hcf (by simp [irR7Block]) fun hcl _ => ?_)
 have hp1:=hpp.1.1
 simp only [G.c] at hp1
 have g1:=fun X=>hR.wantA (z:=z) (s:=s) (X:=X) hi hpp.2 (by omega) [123]
 generalize h1:wantS L [123] s=s1 at g1
 have b1:=wantS_le h1
 simp [irR7Block]
 refine CallK_of' (g1 _) ?_
 simp
 obtain ⟨XX,hXX⟩:∃ XX:List N→Hp,XX=fun ks=>[zbx R.tn,.tok ks.length 6 R.tn]:=⟨_,rfl⟩
 have hXl:∀ a,(XX a).length=2:=fun a=>by rw [hXX]; rfl
 obtain ⟨E,hE0⟩:∃ E:Fr→Hp→Prop,E=fun fr H'=>∃ (ks:List N) (s':PSt),(fr 0 = .ptr i 0∧fr 1 = .d (.int .i64 (s.1:Int))∧fr 4 = .ptr H.length 0∧fr 6 = .d (.int .i64 (s'.1:Int))∧fr 7 = .osl true 6 (ks.map N.enc) (H.length+1))∧(s'.2=none→s'.1 < L.length)∧s'.1≤1125899906842624∧Rel L (n+1) .block s (N.new 6 s.1 (wantS L [125] s').1 [] 0 ks) (wantS L [125] s')∧H'=H.set i (rst R.tr z L s'.2)++XX ks:=⟨_,rfl⟩
 refine LoopK_outR 0 E (fun _ _=>False) ?_ (fun _ _ h=>h.elim) ?_
 rotate_left
 · intro fr H' h
   subst hE0
   obtain ⟨ks,s',⟨f0,f1,f4,f6,f7⟩,hlt,hb,hr,rfl⟩:=h
   have g2:=fun X=>hR.wantA (z:=z) (s:=s') (X:=X) hi hlt hb [125]
   generalize wantS L [125] s'=s2 at g2 hr
   simp [f0,f6]
   refine CallK_of' (g2 _) ?_
   have g5:=fun H0=>hR.ended.rendedT 6 (s.1:Int) 0 [] 0 true [] (s2.1:Int) true (ks.map N.enc) H0 (H.length+1)
   simp only [ag] at g5
   simp [f1,f7,hXl]
   refine CallK_of' (g5 _ (by simp [hXl])) ?_
   subst hXX
   simp [f4,zbx]
   simp [RetK,rcut hcl,nl]
   exact fin_nodeR (z':=true) ks rfl (fun _=>rfl) hr
 have hE1:∀ fr (ks:List N) (s':PSt),(fr 0 = .ptr i 0∧fr 1 = .d (.int .i64 (s.1:Int))∧fr 4 = .ptr H.length 0∧fr 6 = .d (.int .i64 (s'.1:Int))∧fr 7 = .osl true 6 (ks.map N.enc) (H.length+1))→(s'.2=none→s'.1 < L.length)→s'.1≤1125899906842624→Rel L (n+1) .block s (N.new 6 s.1 (wantS L [125] s').1 [] 0 ks) (wantS L [125] s')→E fr (H.set i (rst R.tr z L s'.2)++XX ks):=fun fr ks s' a b c d=>by subst hE0; exact ⟨ks,s',a,b,c,d,rfl⟩
 clear hE0
 have hcut:∀ ks st' X,Hp.cut (H.length+2) (H.set i (rst R.tr z L st')++(XX ks++X))=H.set i (rst R.tr z L st')++XX ks:=fun ks st' X=>by
  rw [rcutk hcl,hXX]; rfl
 have hcut0:∀ ks st',Hp.cut (H.length+2) (H.set i (rst R.tr z L st')++XX ks)=H.set i (rst R.tr z L st')++XX ks:=fun ks st'=>by simpa using hcut ks st' []
 have hg0:∀ st X,(H.set i (rst R.tr z L st)++X)[i]?=some (rst R.tr z L st):=fun st X=>upG hi
 have hgT:∀ (ks:List N) X,(XX ks++X)[1]?=some (.tok ks.length 6 R.tn):=fun ks X=>by rw [hXX]; simp
 have hgT1:∀ (ks:List N) h,(XX ks)[1]'h = .tok ks.length 6 R.tn:=fun ks h=>by simp [hXX]
 have hgB:∀ (ks:List N) b X,(XX ks++b :: X)[2]?=some b:=fun ks b X=>by rw [hXX]; simp
 have hsT:∀ (ks:List N) (m:N) X,(XX ks++X).set 1 (.tok (ks.length+1) 6 R.tn)=XX (ks++[m])++X:=fun ks m X=>by rw [hXX]; simp
 rw [show H.set i (rst R.tr z L s1.2)++[Ob.box R.tn [.d (.int .i64 0),.d (.int .i64 0),.d (.int .i64 0),.d (.str []),.d (.int .i64 0),.d (.sl true 6 [])],.tok 0 6 R.tn]=H.set i (rst R.tr z L s1.2)++XX [] by rw [hXX]; rfl]
 refine LoopM_of (H.length+2) (fun d fr H'=>∃ (ks:List N) (s':PSt),(fr 0 = .ptr i 0∧fr 1 = .d (.int .i64 (s.1:Int))∧fr 4 = .ptr H.length 0∧fr 6 = .d (.int .i64 (s'.1:Int))∧fr 7 = .osl true 6 (ks.map N.enc) (H.length+1))∧H'=H.set i (rst R.tr z L s'.2)++XX ks ∧
  ((d=0∧s'.2 ≠ none∧s'.1≤1125899906842624∧∀ m,Rel L (n+1) .block s m s')∨∃ p1,s'=(p1,none)∧s.2=none∧d≤n∧pp L (n+1) .block s.1=(pp L d (.stmts ks) p1).then (fun m j => .ok (N.new 6 s.1 j [] 0 m.ks) j)∧p1 < L.length∧16 * (L.length - p1)+7≤d∧ks.length≤p1)) (match s1.2 with | none=>n | some _=>0) (by simp [hXl]) ⟨[],s1,?_⟩ ?_
 · have hil2:i < H.length+2:=by omega
   refine ⟨by simp [hil2],hcut0 _ _,?_⟩
   subst h1
   obtain ⟨p,st⟩:=s
   cases st with
   | some q=>exact .inl ⟨rfl,by simp,by simp only [wantS_some]; simp only at hp1; omega,fun m=>by simp [Rel]⟩
   | none =>
     obtain ⟨hp2,hp3⟩:=hpp.1.2.2 rfl
     simp only [G.c] at hp2 hp3
     by_cases c1:isT L p [123]=true
     · have l1:=isT_ltE hE c1
       simp [c1]
       refine ⟨by simp [pp,wantR,c1],l1,by omega⟩
     · simp [c1]
       refine ⟨by omega,fun m => ?_⟩
       simp [Rel,pp,wantR,c1]
       omega
 · rintro d fr H' ⟨ks,s',⟨f0,f1,f4,f6,f7⟩,rfl,hd⟩
   have hil2:i < H.length+2:=by omega
   rcases hd with ⟨rfl,q1,qb,q2⟩ | ⟨p1,rfl,hs2,hdn,hpe,hp1',hrk,hks⟩
   · obtain ⟨p',st'⟩:=s'
     cases st' with
     | none=>simp at q1
     | some q =>
       have hg1:=hg0 (some q)
       have hq:¬ (q:Int) < 0:=by omega
       have hE2:=fun fr h=>hE1 fr ks (p',some q) h (fun e=>by cases e) qb (q2 _)
       simp only [rst] at hg1 hE2
       simp [f0,f6,rst,hg1,hq]
       exact hE2 _ (by simp [f0,f1,f4,f6,f7,hXl])
   · obtain ⟨d',rfl⟩:∃ d',d=d'+1:=⟨d - 1,by omega⟩
     have hRel:∀ m s',(match (pp L (d'+1) (.stmts ks) p1).then (fun m j => .ok (N.new 6 s.1 j [] 0 m.ks) j) with | .out=>False | .bad q=>s'.2=some q∧s'.1≤L.length+(n+1) | .ok m' k=>m=m'∧s'=(k,none))→Rel L (n+1) .block s m s':=fun m s' h=>by
      unfold Rel
      rw [hs2]
      simp only
      rw [hpe]; exact h
     have hg1:=hg0 none
     have gi:=fun X=>hR.isA (z:=z) (st:=none) (X:=X) hi hp1' [125]
     cases hjb:isT L p1 [125] with
     | true =>
       have hE2:=fun fr h=>hE1 fr ks (p1,none) h (fun _=>hp1') (by simp only; omega) (hRel _ _ (by simp [pp,PR.then,hjb,N.bag,N.new,N.ks]))
       rw [hjb] at gi
       simp only [rst] at hg1 gi hE2
       simp [f0,f6,rst,hg1]
       refine CallK_of' (gi _) ?_
       simp
       exact hE2 _ (by simp [f0,f1,f4,f6,f7,hXl])
     | false =>
       have gp:=fun X=>hS d' (by omega) H X i p1 hi ⟨⟨by simp only [G.c]; omega,by simp only [G.c]; omega,fun _=>⟨by simp only; omega,by simp only [G.c]; omega⟩⟩,fun _=>hp1'⟩
       rw [hjb] at gi
       simp only [rst] at hg1 gi gp
       simp [f0,f6,rst,hg1]
       refine CallK_of' (gi _) ?_
       simp [f0,f6]
       refine CallK_of (gp _) ?_
       rintro _ _ ⟨b,s2,rfl,rfl,r2⟩
       obtain ⟨kb,fb,tb,wb,qb,zb,ksb,hfb,heb,hvb,hbb⟩:=node_ho R.tn b
       rw [hvb]
       obtain ⟨bo,hbo⟩:∃ bo:Ob,bo = .box R.tn [.d (.int .i64 kb),.d (.int .i64 fb),.d (.int .i64 tb),.d (.str wb),.d (.int .i64 qb),.d (.sl zb 6 (ksb.map N.enc))]:=⟨_,rfl⟩
       have hB:=fun X=>hgB ks bo X
       rw [hbo] at hB
       have hT:=hgT ks
       have hT1:=hgT1 ks
       have hs1:=hsT ks b
       have hbd:(ks.length+1) * 72≤140737488355328:=by omega
       have hmap:ks.map N.enc++[[.int .i64 kb,.int .i64 fb,.int .i64 tb,.str wb,.int .i64 qb,.sl zb 6 (ksb.map N.enc)]]=(ks++[b]).map N.enc:=by simp [heb]
       simp [f7,hXl,hB,hT,hT1,appA,slOf,hbd,hs1,hmap]
       rcases r2.none' with ⟨q',b',hq,rfl,e3⟩ | ⟨j,hj,rfl⟩
       · refine NextM_of (H.length+2) 0 (Nat.le_refl _) (by simp [hXl]) (by omega) ⟨ks++[b],(b',some q'),by simp [f0,f1,f4,hil2],hcut _ _ _,.inl ⟨rfl,by simp,by simp only; omega,fun m=>hRel _ _ ?_⟩⟩
         simp [pp,hjb,hq,PR.then]; omega
       · have:=pp_advE hE d' .stmt p1
         rw [hj] at this
         obtain ⟨v1,v2,v3⟩:=this
         have v2:=v2 rfl
         refine NextM_of (H.length+2) d' (Nat.le_refl _) (by simp [hXl]) (by omega) ⟨ks++[b],(j,none),by simp [f0,f1,f4,hil2],hcut _ _ _,.inr ⟨j,rfl,hs2,by omega,?_,v3 v2,by have:=v3 v2; omega,by simp; omega⟩⟩
         rw [hpe]; simp [pp,hjb,hj,PR.then]
end
end
section
def LG (one:G) (e:Bs):List N→G
 | [] => .list one e
 | k :: ks => .listL one e (k :: ks)
theorem LG_step {L:List Tk} {d:Nat} {one:G} {e:Bs} {ks:List N} {p:Nat} (hd:2≤d) (h:ks=[]→isT L p e=false):∃ m,m < d∧d≤m+2∧pp L d (LG one e ks) p=(pp L m one p).then fun x j=>if isT L j e then .ok (N.bag (ks++[x])) (j+1) else wantR L j [44] fun j=>pp L m (.listL one e (ks++[x])) j:=by
 cases ks with
 | nil =>
   obtain ⟨m,rfl⟩:∃ m,d=m+2:=⟨d - 2,by omega⟩
   refine ⟨m,by omega,by omega,?_⟩
   simp only [LG,pp,h rfl]
   rfl
 | cons k ks =>
   obtain ⟨m,rfl⟩:∃ m,d=m+1:=⟨d - 1,by omega⟩
   refine ⟨m,by omega,by omega,?_⟩
   simp only [LG,pp]
theorem LG_snoc (one:G) (e:Bs) (ks:List N) (x:N):LG one e (ks++[x]) = .listL one e (ks++[x]):=by cases ks<;>rfl
theorem relParam {L:List Tk} (hE:EndsL L) {n p:Nat} {t:N} {s3:PSt} (h:Rel L n .typed (wordS L (p,none)) t s3) (hb:s3.1≤L.length+(n+1)):Rel L (n+1) .param (p,none) (N.new 5 p s3.1 (if wordOkB L (p,none) then txT L p else []) (if wordOkB L (p,none) then (p:Int) else 0) [t]) s3:=by
 by_cases c:kdT L p=1
 · simp only [wordS_none,c,if_true] at h
   simp only [Rel,pp,wordR,c,if_true]
   rcases h.none' with ⟨q,a,e,rfl,e3⟩ | ⟨k,e,rfl⟩
   · simp [e,PR.then]; omega
   · simp [e,PR.then,c]
 · simp only [wordS_none,c,if_false] at h
   obtain ⟨a,rfl,e3⟩:=h.some'
   simp only [Rel,pp,wordR,c,if_false]
   simp only [G.wt] at e3
   simp
   omega
section
variable {P:Program} {R:RF} {z:Bool} {L:List Tk}
theorem RHas.params' (hR:RHas P R) (hx:HasT P [7] R.params (irR7Params R.want R.is R.word R.typed R.ended R.tn)) (hE:EndsL L) (hL:L.length≤1048576) (n:Nat) (hn:n≤1099511627776) (hS:∀ m,m < n→UR P R.tr z L m .typed R.typed):UR P R.tr z L (n+1) .params R.params:=by
 refine UR_of fun H i s hi hpp => ?_
 obtain ⟨fn,hf,hcf⟩:=hx
 refine acall_norm (acall_fin hf hcf (by simp [irR7Params]) fun hcl _ => ?_)
 have hp1:=hpp.1.1
 simp only [G.c] at hp1
 have g1:=fun X=>hR.wantA (z:=z) (s:=s) (X:=X) hi hpp.2 (by omega) [40]
 generalize h1:wantS L [40] s=s1 at g1
 have b1:=wantS_le h1
 simp [irR7Params]
 refine CallK_of' (g1 _) ?_
 simp
 obtain ⟨XX,hXX⟩:∃ XX:List N→Hp,XX=fun ks=>[zbx R.tn,.tok ks.length 6 R.tn]:=⟨_,rfl⟩
 have hXl:∀ a,(XX a).length=2:=fun a=>by rw [hXX]; rfl
 obtain ⟨E,hE0⟩:∃ E:Fr→Hp→Prop,E=fun fr H'=>∃ (ks:List N) (s':PSt) (X:Hp),(fr 0 = .ptr i 0∧fr 1 = .d (.int .i64 (s.1:Int))∧fr 4 = .ptr H.length 0∧fr 6 = .d (.int .i64 (s'.1:Int))∧fr 7 = .osl true 6 (ks.map N.enc) (H.length+1))∧(s'.2=none→s'.1 < L.length)∧s'.1≤1125899906842624∧Rel L (n+1) .params s (N.new 4 s.1 (wantS L [41] s').1 [] 0 ks) (wantS L [41] s')∧H'=H.set i (rst R.tr z L s'.2)++(XX ks++X):=⟨_,rfl⟩
 refine LoopK_outR 0 E (fun _ _=>False) ?_ (fun _ _ h=>h.elim) ?_
 rotate_left
 · intro fr H' h
   subst hE0
   obtain ⟨ks,s',X,⟨f0,f1,f4,f6,f7⟩,hlt,hb,hr,rfl⟩:=h
   have g2:=fun X=>hR.wantA (z:=z) (s:=s') (X:=X) hi hlt hb [41]
   generalize wantS L [41] s'=s2 at g2 hr
   simp [f0,f6]
   refine CallK_of' (g2 _) ?_
   have g5:=fun H0=>hR.ended.rendedT 4 (s.1:Int) 0 [] 0 true [] (s2.1:Int) true (ks.map N.enc) H0 (H.length+1)
   simp only [ag] at g5
   simp [f1,f7,hXl]
   refine CallK_of' (g5 _ (by simp [hXl]; omega)) ?_
   subst hXX
   simp [f4,zbx]
   simp [RetK,rcut hcl,nl]
   exact fin_nodeR (z':=true) ks rfl (fun _=>rfl) hr
 have hE1:∀ fr (ks:List N) (s':PSt) (X:Hp),(fr 0 = .ptr i 0∧fr 1 = .d (.int .i64 (s.1:Int))∧fr 4 = .ptr H.length 0∧fr 6 = .d (.int .i64 (s'.1:Int))∧fr 7 = .osl true 6 (ks.map N.enc) (H.length+1))→(s'.2=none→s'.1 < L.length)→s'.1≤1125899906842624→Rel L (n+1) .params s (N.new 4 s.1 (wantS L [41] s').1 [] 0 ks) (wantS L [41] s')→E fr (H.set i (rst R.tr z L s'.2)++(XX ks++X)):=fun fr ks s' X a b c d=>by subst hE0; exact ⟨ks,s',X,a,b,c,d,rfl⟩
 clear hE0
 have hcut:∀ ks st' X,Hp.cut (H.length+2) (H.set i (rst R.tr z L st')++(XX ks++X))=H.set i (rst R.tr z L st')++XX ks:=fun ks st' X=>by
  rw [rcutk hcl,hXX]; rfl
 have hcut0:∀ ks st',Hp.cut (H.length+2) (H.set i (rst R.tr z L st')++XX ks)=H.set i (rst R.tr z L st')++XX ks:=fun ks st'=>by simpa using hcut ks st' []
 have hg0:∀ st X,(H.set i (rst R.tr z L st)++X)[i]?=some (rst R.tr z L st):=fun st X=>upG hi
 have hgT:∀ (ks:List N) X,(XX ks++X)[1]?=some (.tok ks.length 6 R.tn):=fun ks X=>by rw [hXX]; simp
 have hgT1:∀ (ks:List N) h,(XX ks)[1]'h = .tok ks.length 6 R.tn:=fun ks h=>by simp [hXX]
 have hgB:∀ (ks:List N) b X,(XX ks++b :: X)[2]?=some b:=fun ks b X=>by rw [hXX]; simp
 have hgC:∀ (ks:List N) b c X,(XX ks++b :: c :: X)[3]?=some c:=fun ks b c X=>by rw [hXX]; simp
 have hsT:∀ (ks:List N) (m:N) X,(XX ks++X).set 1 (.tok (ks.length+1) 6 R.tn)=XX (ks++[m])++X:=fun ks m X=>by rw [hXX]; simp
 rw [show H.set i (rst R.tr z L s1.2)++[Ob.box R.tn [.d (.int .i64 0),.d (.int .i64 0),.d (.int .i64 0),.d (.str []),.d (.int .i64 0),.d (.sl true 6 [])],.tok 0 6 R.tn]=H.set i (rst R.tr z L s1.2)++XX [] by rw [hXX]; rfl]
 refine LoopM_of (H.length+2) (fun d fr H'=>∃ (ks:List N) (s':PSt),(fr 0 = .ptr i 0∧fr 1 = .d (.int .i64 (s.1:Int))∧fr 4 = .ptr H.length 0∧fr 6 = .d (.int .i64 (s'.1:Int))∧fr 7 = .osl true 6 (ks.map N.enc) (H.length+1))∧H'=H.set i (rst R.tr z L s'.2)++XX ks ∧
  ((d=0∧s'.2 ≠ none∧s'.1≤1125899906842624∧∀ m,Rel L (n+1) .params s m s')∨∃ p1,s'=(p1,none)∧s.2=none∧d≤n∧pp L (n+1) .params s.1=(pp L d (LG .param [41] ks) p1).then (fun m j => .ok (N.new 4 s.1 j [] 0 m.ks) j)∧p1 < L.length∧16 * (L.length - p1)+9≤d∧ks.length≤p1)) (match s1.2 with | none=>n | some _=>0) (by simp [hXl]) ⟨[],s1,?_⟩ ?_
 · have hil2:i < H.length+2:=by omega
   refine ⟨by simp [hil2],hcut0 _ _,?_⟩
   subst h1
   obtain ⟨p,st⟩:=s
   cases st with
   | some q=>exact .inl ⟨rfl,by simp,by simp only [wantS_some]; simp only at hp1; omega,fun m=>by simp [Rel]⟩
   | none =>
     obtain ⟨hp2,hp3⟩:=hpp.1.2.2 rfl
     simp only [G.c] at hp2 hp3
     by_cases c1:isT L p [40]=true
     · have l1:=isT_ltE hE c1
       simp [c1]
       refine ⟨by simp [pp,wantR,c1,LG],l1,by omega⟩
     · simp [c1]
       refine ⟨by omega,fun m => ?_⟩
       simp [Rel,pp,wantR,c1]
       omega
 · rintro d fr H' ⟨ks,s',⟨f0,f1,f4,f6,f7⟩,rfl,hd⟩
   have hil2:i < H.length+2:=by omega
   have hE1':=fun fr ks s' a b c d=>by simpa using hE1 fr ks s' [] a b c d
   rcases hd with ⟨rfl,q1,qb,q2⟩ | ⟨p1,rfl,hs2,hdn,hpe,hp1',hrk,hks⟩
   · obtain ⟨p',st'⟩:=s'
     cases st' with
     | none=>simp at q1
     | some q =>
       have hg1:=hg0 (some q)
       have hq:¬ (q:Int) < 0:=by omega
       have hE2:=fun fr h=>hE1' fr ks (p',some q) h (fun e=>by cases e) qb (q2 _)
       simp only [rst] at hg1 hE2
       simp [f0,f6,rst,hg1,hq]
       exact hE2 _ (by simp [f0,f1,f4,f6,f7,hXl])
   · have hRel:∀ m s',(match (pp L d (LG .param [41] ks) p1).then (fun m j => .ok (N.new 4 s.1 j [] 0 m.ks) j) with | .out=>False | .bad q=>s'.2=some q∧s'.1≤L.length+(n+1) | .ok m' k=>m=m'∧s'=(k,none))→Rel L (n+1) .params s m s':=fun m s' h=>by
      unfold Rel
      rw [hs2]
      simp only
      rw [hpe]; exact h
     have hg1:=hg0 none
     have gi:=fun X=>hR.isA (z:=z) (st:=none) (X:=X) hi hp1' [41]
     by_cases hend:ks=[]∧isT L p1 [41]=true
     · obtain ⟨rfl,hjb⟩:=hend
       obtain ⟨d',rfl⟩:∃ d',d=d'+1:=⟨d - 1,by omega⟩
       have hE2:=fun fr h=>hE1' fr [] (p1,none) h (fun _=>hp1') (by simp only; omega) (hRel _ _ (by simp [LG,pp,PR.then,hjb,N.bag,N.new,N.ks]))
       rw [hjb] at gi
       simp only [rst] at hg1 gi hE2
       simp [f0,f6,f7,rst,hg1]
       refine CallK_of' (gi _) ?_
       simp
       exact hE2 _ (by simp [f0,f1,f4,f6,f7,hXl])
     · have hstep:=LG_step (L:=L) (d:=d) (one := .param) (e:=[41]) (ks:=ks) (p:=p1) (by omega) (fun e=>by
        cases h:isT L p1 [41] with
        | false=>rfl
        | true=>exact absurd ⟨e,h⟩ hend)
       obtain ⟨m,hm1,hm2,hpp2⟩:=hstep
       obtain ⟨m',rfl⟩:∃ m',m=m'+1:=⟨m - 1,by omega⟩
       have gw:=fun X=>hR.wordA (z:=z) (s:=(p1,none)) (X:=X) hi (fun _=>hp1') (by simp only; omega) 5 p1 0 [] 0 true []
       have hrp:=fun t s3=>relParam (L:=L) hE (n:=m') (p:=p1) (t:=t) (s3:=s3)
       generalize h2:wordS L (p1,none)=s2 at gw hrp
       have b2:=wordS_le h2
       have m2:=wordS_moE hE h2
       have hlt2:=m2.lt (fun _=>hp1')
       have gt:=fun X=>hS m' (by omega) H X i s2 hi ⟨⟨by simp only [G.c]; simp only at b2; omega,by simp only [G.c]; omega,fun e=>by
        obtain ⟨a1,a2,a3⟩:=m2 e
        have:=hlt2 e
        simp only at a2
        simp only [G.c]
        exact ⟨by omega,by omega⟩⟩,hlt2⟩
       simp only at gw b2
       generalize (if wordOkB L (p1,none)=true then txT L p1 else [])=W at gw hrp
       generalize (if wordOkB L (p1,none)=true then (p1:Int) else 0)=Q at gw hrp
       simp only [rst,ag] at hg1 gi gw gt
       rcases List.eq_nil_or_concat ks with hk0 | ⟨kk,kx,hk0⟩
       · have hjb:isT L p1 [41]=false:=by
          cases h:isT L p1 [41] with
          | false=>rfl
          | true=>exact absurd ⟨hk0,h⟩ hend
         rw [hjb] at gi
         simp [f0,f6,f7,rst,hg1,hk0]
         refine CallK_of' (gi _) ?_
         rw [← hk0]
         simp [f0,f6]
         refine CallK_of' (gw _) ?_
         simp [f0]
         refine CallK_of (gt _) ?_
         rintro _ _ ⟨t,s3,rfl,rfl,r3⟩
         obtain ⟨kt,ft,tt',wt',qt,zt,kst,hft,het,hvt,hbt⟩:=node_ho R.tn t
         rw [hvt]
         obtain ⟨bo,hbo⟩:∃ bo:Ob,bo = .box R.tn [.d (.int .i64 5),.d (.int .i64 (p1:Int)),.d (.int .i64 0),.d (.str W),.d (.int .i64 Q),.d (.sl true 6 [])]:=⟨_,rfl⟩
         obtain ⟨co,hco⟩:∃ co:Ob,co = .box R.tn [.d (.int .i64 kt),.d (.int .i64 ft),.d (.int .i64 tt'),.d (.str wt'),.d (.int .i64 qt),.d (.sl zt 6 (kst.map N.enc))]:=⟨_,rfl⟩
         have hB:=fun X=>hgB ks bo X
         have hC:=fun X=>hgC ks bo co X
         rw [hbo] at hB
         rw [hbo,hco] at hC
         have hT:=hgT ks
         have hT1:=hgT1 ks
         have g5:=fun H0=>hR.ended.rended 5 p1 0 W Q true [] (s3.1:Int) false [t.enc] H0
         rw [het] at g5
         simp only [ag] at g5
         simp [f0,f7,hXl,hB,hC]
         refine CallK_of' (g5 _) ?_
         have hsx:=r3.wt0 rfl
         have hs3b:s3.1≤L.length+(m'+1):=by omega
         obtain ⟨x,hx⟩:∃ x:N,x=N.new 5 p1 s3.1 W Q [t]:=⟨_,rfl⟩
         have hrx:Rel L (m'+1) .param (p1,none) x s3:=by rw [hx]; exact hrp t s3 r3 hs3b
         have hs1:=hsT ks x
         have hbd:(ks.length+1) * 72≤140737488355328:=by omega
         have hmap:ks.map N.enc++[[.int .i64 5,.int .i64 (p1:Int),.int .i64 (s3.1:Int),.str W,.int .i64 Q,.sl false 6 [[.int .i64 kt,.int .i64 ft,.int .i64 tt',.str wt',.int .i64 qt,.sl zt 6 (kst.map N.enc)]]]]=(ks++[x]).map N.enc:=by
          rw [List.map_append,hx]
          simp [N.new,N.enc_mk,het]
         clear hrp hx r3 g5 gt gw
         simp [f0,f7,hXl,hT,hT1,appA,slOf,hbd,hs1,hmap]
         obtain ⟨p3,st3⟩:=s3
         simp only at hs3b
         cases st3 with
         | some q =>
           have hg2:=hg0 (some q)
           have hq':(0:Int)≤q:=by omega
           have hbad:pp L (m'+1) .param p1 = .bad q:=by
            rcases hrx.none' with ⟨q',a,e,e2,e3⟩ | ⟨k,e,e2⟩
            · simp only [Prod.mk.injEq,Option.some.injEq] at e2
              rw [e,e2.2]
            · simp at e2
           have hE2:=fun fr X h=>hE1 fr (ks++[x]) (p3,some q) X h (fun e=>by cases e) (by simp only; omega) (hRel _ _ (by rw [hpp2,hbad]; simp [PR.then]; omega))
           simp only [rst] at hg2 hE2
           simp [f0,rst,hg2,hq']
           exact hE2 _ _ (by simp [f0,f1,f4,hXl])
         | none =>
           have hok:pp L (m'+1) .param p1 = .ok x p3:=by
            rcases hrx.none' with ⟨q',a,e,e2,e3⟩ | ⟨k,e,e2⟩
            · simp at e2
            · simp only [Prod.mk.injEq] at e2
              rw [e,e2.1]
           have hadv:=pp_advE hE (m'+1) .param p1
           rw [hok] at hadv
           obtain ⟨v1,v2,v3⟩:=hadv
           have v2:=v2 rfl
           have v3:=v3 v2
           have gi3:=fun X=>hR.isA (z:=z) (st:=none) (X:=X) hi v3 [41]
           have gw3:=fun X=>hR.wantA (z:=z) (s:=(p3,none)) (X:=X) hi (fun _=>v3) (by simp only; omega) [44]
           have hg2:=hg0 none
           cases hc:isT L p3 [41] with
           | true =>
             have hE2:=fun fr X h=>hE1 fr (ks++[x]) (p3,none) X h (fun _=>v3) (by simp only; omega) (hRel _ _ (by rw [hpp2,hok]; simp [PR.then,hc,N.bag,N.new,N.ks]))
             rw [hc] at gi3
             simp only [rst] at hg2 gi3 hE2
             simp [f0,rst,hg2]
             refine CallK_of' (gi3 _) ?_
             simp
             exact hE2 _ _ (by simp [f0,f1,f4,hXl])
           | false =>
             rw [hc] at gi3
             have hstp:=hpp2
             rw [hok] at hstp
             simp only [PR.then,hc,wantR] at hstp
             by_cases hcm:isT L p3 [44]=true
             · have hl4:=isT_ltE hE hcm
               simp only [wantS_none,hcm,if_true] at gw3
               simp only [rst] at hg2 gi3 gw3
               simp [f0,rst,hg2]
               refine CallK_of' (gi3 _) ?_
               simp [f0]
               refine CallK_of' (gw3 _) ?_
               simp
               refine NextM_of (H.length+2) (m'+1) (Nat.le_refl _) (by simp [hXl]) (by omega) ⟨ks++[x],(p3+1,none),by simp [f0,f1,f4,hil2],by simpa [rst] using hcut (ks++[x]) none _,.inr ⟨p3+1,rfl,hs2,by omega,?_,hl4,by omega,by simp; omega⟩⟩
               rw [hpe,hstp,hcm,LG_snoc]
               simp
             · have hcm':isT L p3 [44]=false:=by simpa using hcm
               simp only [wantS_none,hcm',Bool.false_eq_true,if_false] at gw3
               simp only [rst] at hg2 gi3 gw3
               simp [f0,rst,hg2]
               refine CallK_of' (gi3 _) ?_
               simp [f0]
               refine CallK_of' (gw3 _) ?_
               simp
               refine NextM_of (H.length+2) 0 (Nat.le_refl _) (by simp [hXl]) (by omega) ⟨ks++[x],(p3,some p3),by simp [f0,f1,f4,hil2],by simpa [rst] using hcut (ks++[x]) (some p3) _,.inl ⟨rfl,by simp,by simp only; omega,fun mm=>hRel _ _ ?_⟩⟩
               rw [hstp,hcm']
               simp [PR.then]
               omega
       · have hkn:¬ ks=[]:=fun e=>by rw [e] at hk0; simp at hk0
         simp [f0,f6,f7,rst,hg1,hkn]
         refine CallK_of' (gw _) ?_
         simp [f0]
         refine CallK_of (gt _) ?_
         rintro _ _ ⟨t,s3,rfl,rfl,r3⟩
         obtain ⟨kt,ft,tt',wt',qt,zt,kst,hft,het,hvt,hbt⟩:=node_ho R.tn t
         rw [hvt]
         obtain ⟨bo,hbo⟩:∃ bo:Ob,bo = .box R.tn [.d (.int .i64 5),.d (.int .i64 (p1:Int)),.d (.int .i64 0),.d (.str W),.d (.int .i64 Q),.d (.sl true 6 [])]:=⟨_,rfl⟩
         obtain ⟨co,hco⟩:∃ co:Ob,co = .box R.tn [.d (.int .i64 kt),.d (.int .i64 ft),.d (.int .i64 tt'),.d (.str wt'),.d (.int .i64 qt),.d (.sl zt 6 (kst.map N.enc))]:=⟨_,rfl⟩
         have hB:=fun X=>hgB ks bo X
         have hC:=fun X=>hgC ks bo co X
         rw [hbo] at hB
         rw [hbo,hco] at hC
         have hT:=hgT ks
         have hT1:=hgT1 ks
         have g5:=fun H0=>hR.ended.rended 5 p1 0 W Q true [] (s3.1:Int) false [t.enc] H0
         rw [het] at g5
         simp only [ag] at g5
         simp [f0,f7,hXl,hB,hC]
         refine CallK_of' (g5 _) ?_
         have hsx:=r3.wt0 rfl
         have hs3b:s3.1≤L.length+(m'+1):=by omega
         obtain ⟨x,hx⟩:∃ x:N,x=N.new 5 p1 s3.1 W Q [t]:=⟨_,rfl⟩
         have hrx:Rel L (m'+1) .param (p1,none) x s3:=by rw [hx]; exact hrp t s3 r3 hs3b
         have hs1:=hsT ks x
         have hbd:(ks.length+1) * 72≤140737488355328:=by omega
         have hmap:ks.map N.enc++[[.int .i64 5,.int .i64 (p1:Int),.int .i64 (s3.1:Int),.str W,.int .i64 Q,.sl false 6 [[.int .i64 kt,.int .i64 ft,.int .i64 tt',.str wt',.int .i64 qt,.sl zt 6 (kst.map N.enc)]]]]=(ks++[x]).map N.enc:=by
          rw [List.map_append,hx]
          simp [N.new,N.enc_mk,het]
         clear hrp hx r3 g5 gt gw
         simp [f0,f7,hXl,hT,hT1,appA,slOf,hbd,hs1,hmap]
         obtain ⟨p3,st3⟩:=s3
         simp only at hs3b
         cases st3 with
         | some q =>
           have hg2:=hg0 (some q)
           have hq':(0:Int)≤q:=by omega
           have hbad:pp L (m'+1) .param p1 = .bad q:=by
            rcases hrx.none' with ⟨q',a,e,e2,e3⟩ | ⟨k,e,e2⟩
            · simp only [Prod.mk.injEq,Option.some.injEq] at e2
              rw [e,e2.2]
            · simp at e2
           have hE2:=fun fr X h=>hE1 fr (ks++[x]) (p3,some q) X h (fun e=>by cases e) (by simp only; omega) (hRel _ _ (by rw [hpp2,hbad]; simp [PR.then]; omega))
           simp only [rst] at hg2 hE2
           simp [f0,rst,hg2,hq']
           exact hE2 _ _ (by simp [f0,f1,f4,hXl])
         | none =>
           have hok:pp L (m'+1) .param p1 = .ok x p3:=by
            rcases hrx.none' with ⟨q',a,e,e2,e3⟩ | ⟨k,e,e2⟩
            · simp at e2
            · simp only [Prod.mk.injEq] at e2
              rw [e,e2.1]
           have hadv:=pp_advE hE (m'+1) .param p1
           rw [hok] at hadv
           obtain ⟨v1,v2,v3⟩:=hadv
           have v2:=v2 rfl
           have v3:=v3 v2
           have gi3:=fun X=>hR.isA (z:=z) (st:=none) (X:=X) hi v3 [41]
           have gw3:=fun X=>hR.wantA (z:=z) (s:=(p3,none)) (X:=X) hi (fun _=>v3) (by simp only; omega) [44]
           have hg2:=hg0 none
           cases hc:isT L p3 [41] with
           | true =>
             have hE2:=fun fr X h=>hE1 fr (ks++[x]) (p3,none) X h (fun _=>v3) (by simp only; omega) (hRel _ _ (by rw [hpp2,hok]; simp [PR.then,hc,N.bag,N.new,N.ks]))
             rw [hc] at gi3
             simp only [rst] at hg2 gi3 hE2
             simp [f0,rst,hg2]
             refine CallK_of' (gi3 _) ?_
             simp
             exact hE2 _ _ (by simp [f0,f1,f4,hXl])
           | false =>
             rw [hc] at gi3
             have hstp:=hpp2
             rw [hok] at hstp
             simp only [PR.then,hc,wantR] at hstp
             by_cases hcm:isT L p3 [44]=true
             · have hl4:=isT_ltE hE hcm
               simp only [wantS_none,hcm,if_true] at gw3
               simp only [rst] at hg2 gi3 gw3
               simp [f0,rst,hg2]
               refine CallK_of' (gi3 _) ?_
               simp [f0]
               refine CallK_of' (gw3 _) ?_
               simp
               refine NextM_of (H.length+2) (m'+1) (Nat.le_refl _) (by simp [hXl]) (by omega) ⟨ks++[x],(p3+1,none),by simp [f0,f1,f4,hil2],by simpa [rst] using hcut (ks++[x]) none _,.inr ⟨p3+1,rfl,hs2,by omega,?_,hl4,by omega,by simp; omega⟩⟩
               rw [hpe,hstp,hcm,LG_snoc]
               simp
             · have hcm':isT L p3 [44]=false:=by simpa using hcm
               simp only [wantS_none,hcm',Bool.false_eq_true,if_false] at gw3
               simp only [rst] at hg2 gi3 gw3
               simp [f0,rst,hg2]
               refine CallK_of' (gi3 _) ?_
               simp [f0]
               refine CallK_of' (gw3 _) ?_
               simp
               refine NextM_of (H.length+2) 0 (Nat.le_refl _) (by simp [hXl]) (by omega) ⟨ks++[x],(p3,some p3),by simp [f0,f1,f4,hil2],by simpa [rst] using hcut (ks++[x]) (some p3) _,.inl ⟨rfl,by simp,by simp only; omega,fun mm=>hRel _ _ ?_⟩⟩
               rw [hstp,hcm']
               simp [PR.then]
               omega
end
end
theorem relTail {L:List Tk} (hE:EndsL L) {n p p0 K:Nat} {Q:Int} {W:Bs} {x:N} {s1:PSt} (hn:1≤n) (hpe:pp L (n+1) .stmt p=(pp L n .expr p0).then fun x j=>wantR L j [59] fun _ => .ok (N.new K p ((j+1:Nat):Int) W Q [x]) (j+1)) (r:Rel L n .expr (p0,none) x s1):Rel L (n+1) .stmt (p,none) (N.new K p (wantS L [59] s1).1 W Q [x]) (wantS L [59] s1):=by
 simp only [Rel,hpe]
 rcases r.none' with ⟨q,a,e,rfl,e3⟩ | ⟨k,e,rfl⟩
 · simp [e,PR.then]; omega
 · have ha:=pp_advE hE n .expr p0
   rw [e] at ha
   have hk:=ha.2.2 (ha.2.1 rfl)
   by_cases c:isT L k [59]=true
   · simp [e,PR.then,wantR,c]
   · simp [e,PR.then,wantR,c]; omega
theorem relIf {L:List Tk} (hE:EndsL L) {n p:Nat} {c b o:N} {s1 s2 s3:PSt} (hT:isT L p kIf=true) (hl:isT L p kLet=false) (r1:Rel L n .expr (p+1,none) c s1) (r2:Rel L n .block s1 b s2)
 (h3:s3=s2∧o=N.none∧(s2.2=none→isT L s2.1 kElse=false)∨s2.2=none∧isT L s2.1 kElse=true∧Rel L n .block (s2.1+1,none) o s3):Rel L (n+1) .stmt (p,none) (N.new 9 p s3.1 [] 0 [c,b,o]) s3:=by
 simp only [Rel,pp,hT,hl]
 rcases r1.none' with ⟨q,a,e,rfl,e3⟩ | ⟨k,e,rfl⟩
 · obtain ⟨a2,rfl,e4⟩:=r2.some'
   simp only [G.wt] at e4
   rcases h3 with ⟨rfl,rfl,h3⟩ | ⟨h3,-⟩
   · simp [e,PR.then]; omega
   · simp at h3
 rcases r2.none' with ⟨q,a,e',rfl,e4⟩ | ⟨k',e',rfl⟩
 · rcases h3 with ⟨rfl,rfl,h3⟩ | ⟨h3,-⟩
   · simp [e,e',PR.then]; omega
   · simp at h3
 rcases h3 with ⟨rfl,rfl,h3⟩ | ⟨-,h3,r3⟩
 · have:=h3 rfl
   simp only at this
   simp [e,e',PR.then,this]
 · simp only at h3 r3
   rcases r3.none' with ⟨q,a,e'',rfl,e5⟩ | ⟨k'',e'',rfl⟩
   · simp [e,e',e'',PR.then,h3]; omega
   · simp [e,e',e'',PR.then,h3]
theorem relWhile {L:List Tk} (hE:EndsL L) {n p:Nat} {c b:N} {s1 s2:PSt} (hT:isT L p kWhile=true) (hl:isT L p kLet=false) (hi:isT L p kIf=false) (r1:Rel L n .expr (p+1,none) c s1) (r2:Rel L n .block s1 b s2):Rel L (n+1) .stmt (p,none) (N.new 10 p s2.1 [] 0 [c,b]) s2:=by
 simp only [Rel,pp,hT,hl,hi]
 rcases r1.none' with ⟨q,a,e,rfl,e3⟩ | ⟨k,e,rfl⟩
 · obtain ⟨a2,rfl,e4⟩:=r2.some'
   simp only [G.wt] at e4
   simp [e,PR.then]; omega
 rcases r2.none' with ⟨q,a,e',rfl,e4⟩ | ⟨k',e',rfl⟩
 · simp [e,e',PR.then]; omega
 · simp [e,e',PR.then]
theorem relLet {L:List Tk} (hE:EndsL L) {n p:Nat} {t x:N} {s1 s2 s3 s4 s5:PSt} (hn:4≤n) (hl:isT L p kLet=true) (h1:wordS L (p+1,none)=s1) (r1:Rel L n .typed s1 t s2) (h3:wantS L [61] s2=s3) (r2:Rel L n .expr s3 x s4) (h5:wantS L [59] s4=s5) :
 Rel L (n+1) .stmt (p,none) (N.new 7 p s5.1 (if wordOkB L (p+1,none) then txT L (p+1) else []) (if wordOkB L (p+1,none) then ((p+1:Nat):Int) else 0) [t,x]) s5:=by
 have hpl:=isT_ltE hE hl
 subst h1
 simp only [Rel,pp,hl,wordR,if_true]
 by_cases c1:kdT L (p+1)=1
 case neg =>
  simp only [wordS_none,c1,if_false] at r1
  obtain ⟨a,rfl,e3⟩:=r1.some'
  subst h3
  simp only [wantS_some] at r2
  obtain ⟨b,rfl,e4⟩:=r2.some'
  subst h5
  simp only [G.wt] at e3 e4
  simp [c1]; omega
 simp only [wordS_none,c1,if_true] at r1
 have hpl2:=kdT_ltE hE (i:=p+1) (by omega)
 rcases r1.none' with ⟨q,a,e,rfl,e3⟩ | ⟨k,e,rfl⟩
 · subst h3
   simp only [wantS_some] at r2
   obtain ⟨b,rfl,e4⟩:=r2.some'
   subst h5
   simp only [G.wt] at e4
   simp [c1,e,PR.then]; omega
 have ha:=pp_advE hE n .typed (p+1+1)
 rw [e] at ha
 have hk:k < L.length:=by
  rcases Nat.lt_or_ge (p+1+1) k with h | h
  · exact ha.2.2 h
  · omega
 by_cases c2:isT L k [61]=true
 case neg =>
  simp only [wantS_none,c2] at h3
  subst h3
  simp only [Bool.false_eq_true,if_false] at r2
  obtain ⟨b,rfl,e4⟩:=r2.some'
  subst h5
  simp only [G.wt] at e4
  simp [c1,c2,e,PR.then,wantR]; omega
 simp only [wantS_none,c2,if_true] at h3
 subst h3
 rcases r2.none' with ⟨q,a,e',rfl,e3⟩ | ⟨k',e',rfl⟩
 · subst h5
   simp [c1,c2,e,e',PR.then,wantR]; omega
 have ha':=pp_advE hE n .expr (k+1)
 rw [e'] at ha'
 have hk':=ha'.2.2 (ha'.2.1 rfl)
 by_cases c3:isT L k' [59]=true
 · simp only [wantS_none,c3,if_true] at h5
   subst h5
   simp [c1,c2,c3,e,e',PR.then,wantR]
 · simp only [wantS_none,c3] at h5
   subst h5
   simp [c1,c2,c3,e,e',PR.then,wantR]; omega
section
theorem pre_at {L:List Tk} {n:Nat} {g:G} {q p:Nat} {s:PSt} (hL:L.length≤1048576) (hn:n≤1099511627776) (hp:p < L.length) (hgc:g.c≤6) (h:16 * (L.length - p)+6≤n+1) (hb:s.1≤L.length+n+5) (hm:MoE L (p+1,none) s) (hl:s.2=none→s.1 < L.length):PPreR L n g s:=by
 refine ⟨⟨by omega,by omega,fun e => ?_⟩,hl⟩
 obtain ⟨-,a2,-⟩:=hm e
 have:=hl e
 simp only at a2
 exact ⟨by omega,by omega⟩
theorem pre_at0 {L:List Tk} {n:Nat} {p:Nat} (h:PPreR L (n+1) .stmt (p,none)):PPreR L n .expr (p,none):=by
 obtain ⟨⟨h1,h2,h3⟩,h4⟩:=h
 obtain ⟨h5,h6⟩:=h3 rfl
 simp only [G.c] at *
 exact ⟨⟨by simp only [G.c] at *; omega,by simp only [G.c]; omega,fun _=>⟨h5,by simp only [G.c]; omega⟩⟩,fun _=>h4 trivial⟩
theorem Rel.bnd {L:List Tk} {n:Nat} {g:G} {m:N} {s s':PSt} (h:Rel L n g s m s') {B:Nat} (hb:s.1+1≤B) (hB:L.length+n≤B):s'.1≤B:=by
 rcases h.le with h | h | h | h<;>omega
section
variable {P:Program} {R:RF} {z:Bool} {L:List Tk}
theorem RHas.stmt' (hR:RHas P R) (hx:HasT P [8,47] R.stmt (irR7Stmt R.is R.expr R.block R.ended R.word R.typed R.want R.tn)) (hE:EndsL L) (hL:L.length≤1048576) (n:Nat) (hn:n≤1099511627776) (hEx:UR P R.tr z L n .expr R.expr) (hTy:UR P R.tr z L n .typed R.typed) (hBl:UR P R.tr z L n .block R.block):US P R.tr z L (n+1) .stmt R.stmt:=by
 refine US_of fun H i p hi hpp => ?_
 obtain ⟨fn,hf,hcf⟩:=hx
 refine acall_norm (acall_fin hf hcf (by simp [irR7Stmt]) fun hcl _ => ?_)
 have hp:p < L.length:=hpp.2 rfl
 obtain ⟨hp1,hp2⟩:=hpp.1.2.2 rfl
 simp only [G.c] at hp1 hp2
 have hw:IntKind.i64.wrap ((p:Int)+1)=((p+1:Nat):Int):=by rw [wrap_i64 (by omega) (by omega)]; omega
 have hget:∀ st X,(H.set i (rst R.tr z L st)++X)[i]?=some (rst R.tr z L st):=fun st X=>upG hi
 have hcc:∀ st' X,Hp.cut H.length (H.set i (rst R.tr z L st')++X)=H.set i (rst R.tr z L st'):=fun st' X=>rcut hcl
 have gi:=fun X x=>hR.isA (z:=z) (st:=none) (X:=X) hi hp x
 have no:∀ {x y:Bs},x ≠ y→isT L p x=true→isT L p y=false:=fun {x y} hxy h=>by
  cases h':isT L p y with
  | false=>rfl
  | true=>exact absurd (isT_same h h') hxy
 have hX1:∀ X q,(H.set i (rst R.tr z L q)++X).length=H.length+X.length:=fun X q=>by simp
 simp only [rst] at gi hget
 by_cases hIf:isT L p kIf=true
 · simp [irR7Stmt,rst]
   refine CallK_of' (gi _ kIf) ?_
   simp [hIf]
   have l1:=isT_ltE hE hIf
   have gE:=fun X=>hEx H X i (p+1,none) hi (pre_at (q:=0) hL hn hp (by decide) (by omega) (by simp only; omega) (.refl _) (fun _=>l1))
   simp only [rst] at gE
   refine CallK_of' (gi _ kIf) ?_
   simp [hIf,hw]
   refine CallK_of (gE _) ?_
   rintro _ _ ⟨c,s1,rfl,rfl,r1⟩
   have m1:=r1.moE hE
   have hs1:=m1.lt (fun _=>l1)
   have b1:=r1.bnd (B:=L.length+n+2) (by simp only; omega) (by omega)
   have gB:=fun X=>hBl H X i s1 hi (pre_at (q:=0) hL hn hp (by decide) (by omega) (by omega) m1 hs1)
   obtain ⟨kc,fc,tc,wc,qc,zc,ksc,hfc,hec,hvc,hbc⟩:=node_ho R.tn c
   rw [hvc]
   simp
   refine CallK_of (gB _) ?_
   rintro _ _ ⟨b,s2,rfl,rfl,r2⟩
   have m2:=m1.trans (r2.moE hE)
   have hs2:=m2.lt (fun _=>l1)
   have b2:=r2.bnd (B:=L.length+n+4) (by omega) (by omega)
   obtain ⟨kb,fb,tb,wb,qb,zb,ksb,hfb,heb,hvb,hbb⟩:=node_ho R.tn b
   rw [hvb]
   simp
   obtain ⟨p2,st2⟩:=s2
   simp only at hs2 b2
   have hno:([.int .i64 0,.int .i64 0,.int .i64 0,.str [],.int .i64 0,.sl true 6 []]:List D)=N.none.enc:=rfl
   cases st2 with
   | some q =>
     have hg1:=hget (some q)
     simp only at hg1
     have hq:¬ (q:Int) < 0:=by omega
     have heo:=hno
     simp [rst,hg1,hq]
     have g5:=fun H0=>hR.ended.rendedT 9 p 0 [] 0 true [] (((p2,some q):PSt).1:Int) false [[.int .i64 kc,.int .i64 fc,.int .i64 tc,.str wc,.int .i64 qc,.sl zc 6 (ksc.map N.enc)],[.int .i64 kb,.int .i64 fb,.int .i64 tb,.str wb,.int .i64 qb,.sl zb 6 (ksb.map N.enc)],[.int .i64 0,.int .i64 0,.int .i64 0,.str [],.int .i64 0,.sl true 6 []]] H0 (H.length+5)
     simp only [ag] at g5
     simp [appA,slOf]
     refine CallK_of' (g5 _ (by simp)) ?_
     simp
     have hc1:=fun X=>hcc ((p2,some q):PSt).2 X
     simp only [rst] at hc1
     simp [RetK,hc1,rst,nl]
     have hrel:=fin_nodeR (tr:=R.tr) (z:=z) (H:=H) (i:=i) (z':=false) (t:=(((p2,some q):PSt).1:Int)) [c,b,.none] (rows:=[[.int .i64 kc,.int .i64 fc,.int .i64 tc,.str wc,.int .i64 qc,.sl zc 6 (ksc.map N.enc)],[.int .i64 kb,.int .i64 fb,.int .i64 tb,.str wb,.int .i64 qb,.sl zb 6 (ksb.map N.enc)],[.int .i64 0,.int .i64 0,.int .i64 0,.str [],.int .i64 0,.sl true 6 []]]) (by simp [hec,heb,heo]) (by simp) (relIf hE hIf (no (by decide) hIf) r1 r2 (.inl ⟨rfl,rfl,by simp⟩))
     simpa [rst] using hrel
   | none =>
     have hg1:=hget none
     simp only at hg1
     have hp2l:=hs2 rfl
     have gi2:=fun X=>hR.isA (z:=z) (st:=none) (X:=X) hi hp2l kElse
     have hw2:IntKind.i64.wrap ((p2:Int)+1)=((p2+1:Nat):Int):=by rw [wrap_i64 (by omega) (by omega)]; omega
     simp only [rst] at gi2
     simp [rst,hg1]
     refine CallK_of' (gi2 _) ?_
     cases hel:isT L p2 kElse with
     | false =>
       have heo:=hno
       simp [hel]
       have g5:=fun H0=>hR.ended.rendedT 9 p 0 [] 0 true [] (((p2,none):PSt).1:Int) false [[.int .i64 kc,.int .i64 fc,.int .i64 tc,.str wc,.int .i64 qc,.sl zc 6 (ksc.map N.enc)],[.int .i64 kb,.int .i64 fb,.int .i64 tb,.str wb,.int .i64 qb,.sl zb 6 (ksb.map N.enc)],[.int .i64 0,.int .i64 0,.int .i64 0,.str [],.int .i64 0,.sl true 6 []]] H0 (H.length+5)
       simp only [ag] at g5
       simp [appA,slOf]
       refine CallK_of' (g5 _ (by simp)) ?_
       simp
       have hc1:=fun X=>hcc ((p2,none):PSt).2 X
       simp only [rst] at hc1
       simp [RetK,hc1,rst,nl]
       have hrel:=fin_nodeR (tr:=R.tr) (z:=z) (H:=H) (i:=i) (z':=false) (t:=(((p2,none):PSt).1:Int)) [c,b,.none] (rows:=[[.int .i64 kc,.int .i64 fc,.int .i64 tc,.str wc,.int .i64 qc,.sl zc 6 (ksc.map N.enc)],[.int .i64 kb,.int .i64 fb,.int .i64 tb,.str wb,.int .i64 qb,.sl zb 6 (ksb.map N.enc)],[.int .i64 0,.int .i64 0,.int .i64 0,.str [],.int .i64 0,.sl true 6 []]]) (by simp [hec,heb,heo]) (by simp) (relIf hE hIf (no (by decide) hIf) r1 r2 (.inl ⟨rfl,rfl,fun _=>hel⟩))
       simpa [rst] using hrel
     | true =>
       have l2:=isT_ltE hE hel
       have gB:=fun X=>hBl H X i (p2+1,none) hi (pre_at (q:=0) hL hn hp (by decide) (by omega) (by simp only; omega) (m2.trans (by intro e; exact ⟨rfl,by simp,fun _=>l2⟩)) (fun _=>l2))
       simp only [rst] at gB
       simp [hel,hw2]
       refine CallK_of (gB _) ?_
       rintro _ _ ⟨o,s3,rfl,rfl,r3⟩
       obtain ⟨ko,fo,to,wo,qo,zo,kso,hfo,heo,hvo,hbo⟩:=node_ho R.tn o
       rw [hvo]
       simp
       have g5:=fun H0=>hR.ended.rendedT 9 p 0 [] 0 true [] (s3.1:Int) false [[.int .i64 kc,.int .i64 fc,.int .i64 tc,.str wc,.int .i64 qc,.sl zc 6 (ksc.map N.enc)],[.int .i64 kb,.int .i64 fb,.int .i64 tb,.str wb,.int .i64 qb,.sl zb 6 (ksb.map N.enc)],[.int .i64 ko,.int .i64 fo,.int .i64 to,.str wo,.int .i64 qo,.sl zo 6 (kso.map N.enc)]] H0 (H.length+5)
       simp only [ag] at g5
       simp [appA,slOf]
       refine CallK_of' (g5 _ (by simp)) ?_
       simp
       have hc1:=fun X=>hcc s3.2 X
       simp only [rst] at hc1
       simp [RetK,hc1,rst,nl]
       have hrel:=fin_nodeR (tr:=R.tr) (z:=z) (H:=H) (i:=i) (z':=false) (t:=(s3.1:Int)) [c,b,o] (rows:=[[.int .i64 kc,.int .i64 fc,.int .i64 tc,.str wc,.int .i64 qc,.sl zc 6 (ksc.map N.enc)],[.int .i64 kb,.int .i64 fb,.int .i64 tb,.str wb,.int .i64 qb,.sl zb 6 (ksb.map N.enc)],[.int .i64 ko,.int .i64 fo,.int .i64 to,.str wo,.int .i64 qo,.sl zo 6 (kso.map N.enc)]]) (by simp [hec,heb,heo]) (by simp) (relIf hE hIf (no (by decide) hIf) r1 r2 (.inr ⟨rfl,hel,r3⟩))
       simpa [rst] using hrel
 have hIf:isT L p kIf=false:=by simpa using hIf
 by_cases hWh:isT L p kWhile=true
 · simp [irR7Stmt,rst]
   refine CallK_of' (gi _ kIf) ?_
   simp [hIf]
   refine CallK_of' (gi _ kWhile) ?_
   simp [hWh]
   have l1:=isT_ltE hE hWh
   have gE:=fun X=>hEx H X i (p+1,none) hi (pre_at (q:=0) hL hn hp (by decide) (by omega) (by simp only; omega) (.refl _) (fun _=>l1))
   simp only [rst] at gE
   refine CallK_of' (gi _ kIf) ?_
   simp [hIf,hw]
   refine CallK_of (gE _) ?_
   rintro _ _ ⟨c,s1,rfl,rfl,r1⟩
   have m1:=r1.moE hE
   have hs1:=m1.lt (fun _=>l1)
   have b1:=r1.bnd (B:=L.length+n+2) (by simp only; omega) (by omega)
   have gB:=fun X=>hBl H X i s1 hi (pre_at (q:=0) hL hn hp (by decide) (by omega) (by omega) m1 hs1)
   obtain ⟨kc,fc,tc,wc,qc,zc,ksc,hfc,hec,hvc,hbc⟩:=node_ho R.tn c
   rw [hvc]
   simp
   refine CallK_of (gB _) ?_
   rintro _ _ ⟨b,s2,rfl,rfl,r2⟩
   obtain ⟨kb,fb,tb,wb,qb,zb,ksb,hfb,heb,hvb,hbb⟩:=node_ho R.tn b
   rw [hvb]
   simp
   have g5:=fun H0=>hR.ended.rendedT 10 p 0 [] 0 true [] (s2.1:Int) false [[.int .i64 kc,.int .i64 fc,.int .i64 tc,.str wc,.int .i64 qc,.sl zc 6 (ksc.map N.enc)],[.int .i64 kb,.int .i64 fb,.int .i64 tb,.str wb,.int .i64 qb,.sl zb 6 (ksb.map N.enc)]] H0 (H.length+5)
   simp only [ag] at g5
   have hc1:=fun X=>hcc s2.2 X
   simp only [rst] at hc1
   refine CallK_of' (g5 _ (by simp)) ?_
   simp
   simp [RetK,hc1,rst,nl]
   have hrel:=fin_nodeR (tr:=R.tr) (z:=z) (H:=H) (i:=i) (z':=false) (t:=(s2.1:Int)) [c,b] (rows:=[[.int .i64 kc,.int .i64 fc,.int .i64 tc,.str wc,.int .i64 qc,.sl zc 6 (ksc.map N.enc)],[.int .i64 kb,.int .i64 fb,.int .i64 tb,.str wb,.int .i64 qb,.sl zb 6 (ksb.map N.enc)]]) (by simp [hec,heb]) (by simp) (relWhile hE hWh (no (by decide) hWh) hIf r1 r2)
   simpa [rst] using hrel
 have hWh:isT L p kWhile=false:=by simpa using hWh
 by_cases hLe:isT L p kLet=true
 · have l1:=isT_ltE hE hLe
   simp [irR7Stmt,rst]
   refine CallK_of' (gi _ kIf) ?_
   simp [hIf]
   refine CallK_of' (gi _ kWhile) ?_
   simp [hWh]
   refine CallK_of' (gi _ kLet) ?_
   simp [hLe,hw]
   have hp1w:(((p+1:Nat),none):PSt).2=none→(((p+1:Nat),none):PSt).1 < L.length:=fun _=>l1
   have gW:=fun X=>hR.wordA (z:=z) (s:=(p+1,none)) (X:=X) hi hp1w (by simp only; omega) 7 p 0 [] 0 true []
   simp only [rst,ag] at gW
   have hrel0:=fun t x s2 s3 s4 s5=>relLet hE (n:=n) (p:=p) (t:=t) (x:=x) (s1:=wordS L (p+1,none)) (s2:=s2) (s3:=s3) (s4:=s4) (s5:=s5) (by omega) hLe rfl
   have m1:=wordS_moE hE (rfl:wordS L (p+1,none)=_)
   have b1:=wordS_le (rfl:wordS L (p+1,none)=_)
   generalize wordS L (p+1,none)=s1 at gW hrel0 m1 b1
   generalize (if wordOkB L (p+1,none)=true then txT L (p+1) else [])=W at gW hrel0
   generalize (if wordOkB L (p+1,none)=true then ((p+1:Nat):Int) else 0)=Q at gW hrel0
   have hs1:=m1.lt (fun _=>l1)
   simp only at b1
   have gT:=fun X=>hTy H X i s1 hi (pre_at (q:=0) hL hn hp (by decide) (by omega) (by omega) m1 hs1)
   refine CallK_of' (gW _) ?_
   simp
   refine CallK_of (gT _) ?_
   rintro _ _ ⟨c,s2,rfl,rfl,r1⟩
   have m2:=m1.trans (r1.moE hE)
   have hs2:=m2.lt (fun _=>l1)
   have b2:=r1.bnd (B:=L.length+n+3) (by omega) (by omega)
   obtain ⟨kc,fc,tc,wc,qc,zc,ksc,hfc,hec,hvc,hbc⟩:=node_ho R.tn c
   rw [hvc]
   have gw:=fun X=>hR.wantA (z:=z) (s:=s2) (X:=X) hi hs2 (by omega) [61]
   have m3:=m2.trans (wantS_moE hE (rfl:wantS L [61] s2=_))
   have b3:=wantS_le (rfl:wantS L [61] s2=_)
   have hrel0:=fun x s4 s5=>hrel0 c x s2 (wantS L [61] s2) s4 s5 r1 rfl
   generalize wantS L [61] s2=s3 at gw hrel0 m3 b3
   have hs3:=m3.lt (fun _=>l1)
   have gE:=fun X=>hEx H X i s3 hi (pre_at (q:=0) hL hn hp (by decide) (by omega) (by omega) m3 hs3)
   simp [appA,slOf]
   refine CallK_of' (gw _) ?_
   simp
   refine CallK_of (gE _) ?_
   rintro _ _ ⟨b,s4,rfl,rfl,r2⟩
   have m4:=m3.trans (r2.moE hE)
   have hs4:=m4.lt (fun _=>l1)
   have b4:=r2.bnd (B:=L.length+n+5) (by omega) (by omega)
   obtain ⟨kb,fb,tb,wb,qb,zb,ksb,hfb,heb,hvb,hbb⟩:=node_ho R.tn b
   rw [hvb]
   have gw:=fun X=>hR.wantA (z:=z) (s:=s4) (X:=X) hi hs4 (by omega) [59]
   have hrel0:=fun s5=>hrel0 b s4 s5 r2
   generalize wantS L [59] s4=s5 at gw hrel0
   have hrel0:=hrel0 s5 rfl
   simp
   refine CallK_of' (gw _) ?_
   simp
   have g5:=fun H0=>hR.ended.rendedT 7 p 0 W Q true [] (s5.1:Int) true [[.int .i64 kc,.int .i64 fc,.int .i64 tc,.str wc,.int .i64 qc,.sl zc 6 (ksc.map N.enc)],[.int .i64 kb,.int .i64 fb,.int .i64 tb,.str wb,.int .i64 qb,.sl zb 6 (ksb.map N.enc)]] H0 (H.length+2)
   simp only [ag] at g5
   have hc1:=fun X=>hcc s5.2 X
   simp only [rst] at hc1
   simp [appA,slOf]
   refine CallD_of (g5 _ (by simp)) ?_
   simp
   simp [RetK,hc1,rst,nl]
   have hrel:=fin_nodeR (tr:=R.tr) (z:=z) (H:=H) (i:=i) (z':=true) (t:=(s5.1:Int)) [c,b] (rows:=[[.int .i64 kc,.int .i64 fc,.int .i64 tc,.str wc,.int .i64 qc,.sl zc 6 (ksc.map N.enc)],[.int .i64 kb,.int .i64 fb,.int .i64 tb,.str wb,.int .i64 qb,.sl zb 6 (ksb.map N.enc)]]) (by simp [hec,heb]) (by simp) (hrel0)
   simpa [rst] using hrel
 have hLe:isT L p kLet=false:=by simpa using hLe
 by_cases hPr:isT L p kPrint=true
 · have l1:=isT_ltE hE hPr
   simp [irR7Stmt,rst]
   refine CallK_of' (gi _ kIf) ?_
   simp [hIf]
   refine CallK_of' (gi _ kWhile) ?_
   simp [hWh]
   refine CallK_of' (gi _ kLet) ?_
   simp [hLe]
   refine CallK_of' (gi _ kPrint) ?_
   simp [hPr,hw]
   have gE:=fun X=>hEx H X i (p+1,none) hi (pre_at (q:=0) hL hn hp (by decide) (by omega) (by simp only; omega) (.refl _) (fun _=>l1))
   simp only [rst] at gE
   refine CallK_of (gE _) ?_
   rintro _ _ ⟨x,s1,rfl,rfl,r1⟩
   have m1:=r1.moE hE
   have hs1:=m1.lt (fun _=>l1)
   have b1:=r1.bnd (B:=L.length+n+2) (by simp only; omega) (by omega)
   obtain ⟨kx,fx,tx,wx,qx,zx,ksx,hfx,hex,hvx,hbx⟩:=node_ho R.tn x
   rw [hvx]
   have gw:=fun X=>hR.wantA (z:=z) (s:=s1) (X:=X) hi hs1 (by omega) [59]
   have hrel0:=relTail hE (n:=n) (p:=p) (p0:=p+1) (K:=11) (Q:=0) (W:=[]) (x:=x) (by omega) (by simp [pp,hIf,hWh,hLe,hPr]) r1
   generalize wantS L [59] s1=s2 at gw hrel0
   simp
   refine CallK_of' (gw _) ?_
   simp
   have g5:=fun H0=>hR.ended.rendedT 11 p 0 [] 0 true [] (s2.1:Int) true [[.int .i64 kx,.int .i64 fx,.int .i64 tx,.str wx,.int .i64 qx,.sl zx 6 (ksx.map N.enc)]] H0 (H.length+2)
   simp only [ag] at g5
   have hc1:=fun X=>hcc s2.2 X
   simp only [rst] at hc1
   simp [appA,slOf]
   refine CallD_of (g5 _ (by simp)) ?_
   simp
   simp [RetK,hc1,rst,nl]
   have hrel:=fin_nodeR (tr:=R.tr) (z:=z) (H:=H) (i:=i) (z':=true) (t:=(s2.1:Int)) [x] (rows:=[[.int .i64 kx,.int .i64 fx,.int .i64 tx,.str wx,.int .i64 qx,.sl zx 6 (ksx.map N.enc)]]) (by simp [hex]) (by simp) (hrel0)
   simpa [rst] using hrel
 have hPr:isT L p kPrint=false:=by simpa using hPr
 by_cases hRe:isT L p kReturn=true
 · have l1:=isT_ltE hE hRe
   simp [irR7Stmt,rst]
   refine CallK_of' (gi _ kIf) ?_
   simp [hIf]
   refine CallK_of' (gi _ kWhile) ?_
   simp [hWh]
   refine CallK_of' (gi _ kLet) ?_
   simp [hLe]
   refine CallK_of' (gi _ kPrint) ?_
   simp [hPr]
   refine CallK_of' (gi _ kReturn) ?_
   simp [hRe,hw]
   have gE:=fun X=>hEx H X i (p+1,none) hi (pre_at (q:=0) hL hn hp (by decide) (by omega) (by simp only; omega) (.refl _) (fun _=>l1))
   simp only [rst] at gE
   refine CallK_of (gE _) ?_
   rintro _ _ ⟨x,s1,rfl,rfl,r1⟩
   have m1:=r1.moE hE
   have hs1:=m1.lt (fun _=>l1)
   have b1:=r1.bnd (B:=L.length+n+2) (by simp only; omega) (by omega)
   obtain ⟨kx,fx,tx,wx,qx,zx,ksx,hfx,hex,hvx,hbx⟩:=node_ho R.tn x
   rw [hvx]
   have gw:=fun X=>hR.wantA (z:=z) (s:=s1) (X:=X) hi hs1 (by omega) [59]
   have hrel0:=relTail hE (n:=n) (p:=p) (p0:=p+1) (K:=12) (Q:=0) (W:=[]) (x:=x) (by omega) (by simp [pp,hIf,hWh,hLe,hPr,hRe]) r1
   generalize wantS L [59] s1=s2 at gw hrel0
   simp
   refine CallK_of' (gw _) ?_
   simp
   have g5:=fun H0=>hR.ended.rendedT 12 p 0 [] 0 true [] (s2.1:Int) true [[.int .i64 kx,.int .i64 fx,.int .i64 tx,.str wx,.int .i64 qx,.sl zx 6 (ksx.map N.enc)]] H0 (H.length+2)
   simp only [ag] at g5
   have hc1:=fun X=>hcc s2.2 X
   simp only [rst] at hc1
   simp [appA,slOf]
   refine CallD_of (g5 _ (by simp)) ?_
   simp
   simp [RetK,hc1,rst,nl]
   have hrel:=fin_nodeR (tr:=R.tr) (z:=z) (H:=H) (i:=i) (z':=true) (t:=(s2.1:Int)) [x] (rows:=[[.int .i64 kx,.int .i64 fx,.int .i64 tx,.str wx,.int .i64 qx,.sl zx 6 (ksx.map N.enc)]]) (by simp [hex]) (by simp) (hrel0)
   simpa [rst] using hrel
 have hRe:isT L p kReturn=false:=by simpa using hRe
 have hA:=get_app (set_get hi (rst R.tr z L none))
 have hr:=rowAt_map encTk hp
 have hg:L[p]?=some L[p]:=List.getElem?_eq_getElem hp
 have hkd:kdT L p=L[p].k:=by unfold kdT; rw [hg]
 generalize L[p]=tk at hr hkd
 obtain ⟨kk,ta,tl,y⟩:=tk
 simp only [encTk] at hr hkd
 have hget1:=fun X=>hget none X
 simp only at hget1
 by_cases h1:kk=1
 · subst h1
   have l1:=kdT_ltE hE (i:=p) (by omega)
   have gi1:=fun X=>hR.isA (z:=z) (st:=none) (X:=X) hi l1 [61]
   simp only [rst] at gi1
   by_cases hSe:isT L (p+1) [61]=true
   · have l2:=isT_ltE hE hSe
     have hw2:IntKind.i64.wrap ((p:Int)+1+1)=((p+2:Nat):Int):=by rw [wrap_i64 (by omega) (by omega)]; omega
     have hpw:(((p:Nat),none):PSt).2=none→(((p:Nat),none):PSt).1 < L.length:=fun _=>hp
     have gW:=fun X=>hR.wordA (z:=z) (s:=(p,none)) (X:=X) hi hpw (by simp only; omega) 8 p 0 [] 0 true []
     simp only [wordS_none,wordOkB_none,hkd,if_true,decide_true,rst,ag] at gW
     have gE:=fun X=>hEx H X i (p+2,none) hi (pre_at (q:=0) hL hn hp (by decide) (by omega) (by simp only; omega) (by intro e; exact ⟨rfl,by simp,fun _=>l2⟩) (fun _=>l2))
     simp only [rst] at gE
     simp [irR7Stmt,rst]
     refine CallK_of' (gi _ kIf) ?_
     simp [hIf]
     refine CallK_of' (gi _ kWhile) ?_
     simp [hWh]
     refine CallK_of' (gi _ kLet) ?_
     simp [hLe]
     refine CallK_of' (gi _ kPrint) ?_
     simp [hPr]
     refine CallK_of' (gi _ kReturn) ?_
     simp [hRe,hget1,hr,hw]
     refine CallK_of' (gi1 _) ?_
     simp [hSe]
     refine CallK_of' (gW _) ?_
     simp [hw2]
     refine CallK_of (gE _) ?_
     rintro _ _ ⟨x,s1,rfl,rfl,r1⟩
     have m1:=r1.moE hE
     have hs1:=m1.lt (fun _=>l2)
     have b1:=r1.bnd (B:=L.length+n+3) (by simp only; omega) (by omega)
     obtain ⟨kx,fx,tx,wx,qx,zx,ksx,hfx,hex,hvx,hbx⟩:=node_ho R.tn x
     rw [hvx]
     have gw:=fun X=>hR.wantA (z:=z) (s:=s1) (X:=X) hi hs1 (by omega) [59]
     have hrel0:=relTail hE (n:=n) (p:=p) (p0:=p+2) (K:=8) (Q:=(p:Int)) (W:=txT L p) (x:=x) (by omega) (by simp [pp,hIf,hWh,hLe,hPr,hRe,hkd,hSe]) r1
     generalize wantS L [59] s1=s2 at gw hrel0
     simp
     refine CallK_of' (gw _) ?_
     simp
     have g5:=fun H0=>hR.ended.rendedT 8 p 0 (txT L p) p true [] (s2.1:Int) true [[.int .i64 kx,.int .i64 fx,.int .i64 tx,.str wx,.int .i64 qx,.sl zx 6 (ksx.map N.enc)]] H0 (H.length+2)
     simp only [ag] at g5
     have hc1:=fun X=>hcc s2.2 X
     simp only [rst] at hc1
     simp [appA,slOf]
     refine CallD_of (g5 _ (by simp)) ?_
     simp
     simp [RetK,hc1,rst,nl]
     have hrel:=fin_nodeR (tr:=R.tr) (z:=z) (H:=H) (i:=i) (z':=true) (t:=(s2.1:Int)) [x] (rows:=[[.int .i64 kx,.int .i64 fx,.int .i64 tx,.str wx,.int .i64 qx,.sl zx 6 (ksx.map N.enc)]]) (by simp [hex]) (by simp) (hrel0)
     simpa [rst] using hrel
   · have hSe:isT L (p+1) [61]=false:=by simpa using hSe
     have gE:=fun X=>hEx H X i (p,none) hi (pre_at0 hpp)
     simp only [rst] at gE
     simp [irR7Stmt,rst]
     refine CallK_of' (gi _ kIf) ?_
     simp [hIf]
     refine CallK_of' (gi _ kWhile) ?_
     simp [hWh]
     refine CallK_of' (gi _ kLet) ?_
     simp [hLe]
     refine CallK_of' (gi _ kPrint) ?_
     simp [hPr]
     refine CallK_of' (gi _ kReturn) ?_
     simp [hRe,hget1,hr,hw]
     refine CallK_of' (gi1 _) ?_
     simp [hSe]
     refine CallK_of (gE _) ?_
     rintro _ _ ⟨x,s1,rfl,rfl,r1⟩
     have m1:=r1.moE hE
     have hs1:=m1.lt (fun _=>hp)
     have b1:=r1.bnd (B:=L.length+n+3) (by simp only; omega) (by omega)
     obtain ⟨kx,fx,tx,wx,qx,zx,ksx,hfx,hex,hvx,hbx⟩:=node_ho R.tn x
     rw [hvx]
     have gw:=fun X=>hR.wantA (z:=z) (s:=s1) (X:=X) hi hs1 (by omega) [59]
     have hrel0:=relTail hE (n:=n) (p:=p) (p0:=p) (K:=13) (Q:=0) (W:=[]) (x:=x) (by omega) (by simp [pp,hIf,hWh,hLe,hPr,hRe,hkd,hSe]) r1
     generalize wantS L [59] s1=s2 at gw hrel0
     simp
     refine CallK_of' (gw _) ?_
     simp
     have g5:=fun H0=>hR.ended.rendedT 13 p 0 [] 0 true [] (s2.1:Int) true [[.int .i64 kx,.int .i64 fx,.int .i64 tx,.str wx,.int .i64 qx,.sl zx 6 (ksx.map N.enc)]] H0 (H.length+2)
     simp only [ag] at g5
     have hc1:=fun X=>hcc s2.2 X
     simp only [rst] at hc1
     simp [appA,slOf]
     refine CallD_of (g5 _ (by simp)) ?_
     simp
     simp [RetK,hc1,rst,nl]
     have hrel:=fin_nodeR (tr:=R.tr) (z:=z) (H:=H) (i:=i) (z':=true) (t:=(s2.1:Int)) [x] (rows:=[[.int .i64 kx,.int .i64 fx,.int .i64 tx,.str wx,.int .i64 qx,.sl zx 6 (ksx.map N.enc)]]) (by simp [hex]) (by simp) (hrel0)
     simpa [rst] using hrel
 · have hk1:¬ kdT L p=1:=by rw [hkd]; exact h1
   have gE:=fun X=>hEx H X i (p,none) hi (pre_at0 hpp)
   simp only [rst] at gE
   simp [irR7Stmt,rst]
   refine CallK_of' (gi _ kIf) ?_
   simp [hIf]
   refine CallK_of' (gi _ kWhile) ?_
   simp [hWh]
   refine CallK_of' (gi _ kLet) ?_
   simp [hLe]
   refine CallK_of' (gi _ kPrint) ?_
   simp [hPr]
   refine CallK_of' (gi _ kReturn) ?_
   simp [hRe,hget1,hr,h1]
   refine CallK_of (gE _) ?_
   rintro _ _ ⟨x,s1,rfl,rfl,r1⟩
   have m1:=r1.moE hE
   have hs1:=m1.lt (fun _=>hp)
   have b1:=r1.bnd (B:=L.length+n+3) (by simp only; omega) (by omega)
   obtain ⟨kx,fx,tx,wx,qx,zx,ksx,hfx,hex,hvx,hbx⟩:=node_ho R.tn x
   rw [hvx]
   have gw:=fun X=>hR.wantA (z:=z) (s:=s1) (X:=X) hi hs1 (by omega) [59]
   have hrel0:=relTail hE (n:=n) (p:=p) (p0:=p) (K:=13) (Q:=0) (W:=[]) (x:=x) (by omega) (by simp [pp,hIf,hWh,hLe,hPr,hRe,hk1]) r1
   generalize wantS L [59] s1=s2 at gw hrel0
   simp
   refine CallK_of' (gw _) ?_
   simp
   have g5:=fun H0=>hR.ended.rendedT 13 p 0 [] 0 true [] (s2.1:Int) true [[.int .i64 kx,.int .i64 fx,.int .i64 tx,.str wx,.int .i64 qx,.sl zx 6 (ksx.map N.enc)]] H0 (H.length+2)
   simp only [ag] at g5
   have hc1:=fun X=>hcc s2.2 X
   simp only [rst] at hc1
   simp [appA,slOf]
   refine CallD_of (g5 _ (by simp)) ?_
   simp
   simp [RetK,hc1,rst,nl]
   have hrel:=fin_nodeR (tr:=R.tr) (z:=z) (H:=H) (i:=i) (z':=true) (t:=(s2.1:Int)) [x] (rows:=[[.int .i64 kx,.int .i64 fx,.int .i64 tx,.str wx,.int .i64 qx,.sl zx 6 (ksx.map N.enc)]]) (by simp [hex]) (by simp) (hrel0)
   simpa [rst] using hrel
end
end
def Ex.mid (M:Fr→Hp→Prop) (Q:Ex→Fr→Hp→Prop):Ex→Fr→Hp→Prop
 | .normal=>M
 | e=>Q e
@[simp ↓] theorem mid_normal {M:Fr→Hp→Prop} {Q:Ex→Fr→Hp→Prop} {fr:Fr} {H:Hp}:Ex.mid M Q .normal fr H=M fr H:=rfl
@[simp ↓] theorem mid_ret {M:Fr→Hp→Prop} {Q:Ex→Fr→Hp→Prop} {fr:Fr} {H:Hp}:Ex.mid M Q .ret fr H=Q .ret fr H:=rfl
@[simp ↓] theorem mid_exit {M:Fr→Hp→Prop} {Q:Ex→Fr→Hp→Prop} {j:Nat} {fr:Fr} {H:Hp}:Ex.mid M Q (.exit j) fr H=Q (.exit j) fr H:=rfl
theorem Seq_mid {P:Program} {n0:Nat} {Q:Ex→Fr→Hp→Prop} {fr:Fr} {H:Hp} {a b:C} (M:Fr→Hp→Prop) (h:AWp P n0 a (Ex.mid M Q) fr H) (hm:∀ fr H,M fr H→AWp P n0 b Q fr H):AWp P n0 (.seq a b) Q fr H :=
 AWp.mono a (fun e fr H h=>by
  cases e with
  | normal=>exact hm fr H h
  | ret=>exact h
  | exit j=>exact h) fr H h
theorem relPart {L:List Tk} (hE:EndsL L) {n p:Nat} {one sub:G} {K:Int} {t:N} {s3:PSt} (h0:1≤n) (hpe:pp L (n+1) one p=wordR L p fun w _=>wantR L (p+1) [58] fun _=>(pp L n sub (p+2)).then fun t j => .ok (N.new K p j w p [t]) j) (hp:p < L.length) (h:Rel L n sub (wantS L [58] (wordS L (p,none))) t s3) (hb:s3.1≤L.length+(n+1)):Rel L (n+1) one (p,none) (N.new K p s3.1 (if wordOkB L (p,none) then txT L p else []) (if wordOkB L (p,none) then (p:Int) else 0) [t]) s3:=by
 simp only [Rel,hpe,wordR]
 by_cases c:kdT L p=1
 · simp only [wordS_none,c,if_true] at h ⊢
   have l1:=kdT_ltE hE (i:=p) (by omega)
   by_cases c2:isT L (p+1) [58]=true
   · simp only [wantS_none,c2,if_true] at h
     rcases h.none' with ⟨q,a,e,rfl,e3⟩ | ⟨k,e,rfl⟩
     · simp [e,PR.then,wantR,c2]; omega
     · simp [e,PR.then,wantR,c2,c]
   · simp only [wantS_none,c2] at h
     obtain ⟨a,rfl,e3⟩:=h.some'
     simp [wantR,c2]; omega
 · simp only [wordS_none,c,if_false,wantS_some] at h
   obtain ⟨a,rfl,e3⟩:=h.some'
   simp only [c,if_false]
   simp; omega
theorem relTfield {L:List Tk} (hE:EndsL L) {n p:Nat} {t:N} {s3:PSt} (h0:1≤n) (hp:p < L.length) (h:Rel L n .kind (wantS L [58] (wordS L (p,none))) t s3) (hb:s3.1≤L.length+(n+1)):Rel L (n+1) .tfield (p,none) (N.new 33 p s3.1 (if wordOkB L (p,none) then txT L p else []) (if wordOkB L (p,none) then (p:Int) else 0) [t]) s3:=relPart hE h0 (by simp only [pp]) hp h hb
theorem relEntry {L:List Tk} (hE:EndsL L) {n p:Nat} {t:N} {s3:PSt} (h0:1≤n) (hp:p < L.length) (h:Rel L n .expr (wantS L [58] (wordS L (p,none))) t s3) (hb:s3.1≤L.length+(n+1)):Rel L (n+1) .entry (p,none) (N.new 27 p s3.1 (if wordOkB L (p,none) then txT L p else []) (if wordOkB L (p,none) then (p:Int) else 0) [t]) s3:=relPart hE h0 (by simp only [pp]) hp h hb
theorem relIn {L:List Tk} {n p:Nat} {g one:G} {e:Bs} {K:Int} {ks:List N} {s2:PSt} (hpe:pp L (n+1) g p=(pp L n (.list one e) (p+1)).then fun m j => .ok (N.new K p j [] 0 m.ks) j) (h:Rel L n (.list one e) (p+1,none) (N.bag ks) s2):Rel L (n+1) g (p,none) (N.new K p s2.1 [] 0 ks) s2:=by
 simp only [Rel,hpe]
 rcases h.none' with ⟨q,a,e,rfl,e3⟩ | ⟨k,e,rfl⟩
 · simp [e,PR.then]; omega
 · simp [e,PR.then,N.bag,N.new,N.ks]
theorem relKFn {L:List Tk} (hE:EndsL L) {n p:Nat} {ks:List N} {t:N} {s1 s2 s3 s4 s5:PSt} (hp:p < L.length) (i1:isT L p kInt=false) (i2:isT L p kStr=false) (i3:isT L p kDyn=false) (i4:isT L p [123]=false) (h1:wantS L kFn (p,none)=s1) (h2:wantS L [40] s1=s2) (h3:Rel L n (.list .kind [41]) s2 (N.bag ks) s3) (h4:wantS L [58] s3=s4) (h5:Rel L n .kind s4 t s5):Rel L (n+1) .kind (p,none) (N.new 34 p s5.1 [] 0 (ks++[t])) s5:=by
 simp only [Rel,pp,i1,i2,i3,i4,wantR,Bool.false_eq_true,if_false]
 by_cases c1:isT L p kFn=true
 case neg =>
  simp only [wantS_none,c1] at h1
  subst h1
  simp only [Bool.false_eq_true,if_false,wantS_some] at h2
  subst h2
  obtain ⟨a,rfl,e3⟩:=h3.some'
  simp only [wantS_some] at h4
  subst h4
  obtain ⟨b,rfl,e5⟩:=h5.some'
  simp only [G.wt] at e3 e5
  simp [c1]; omega
 have l1:=isT_ltE hE c1
 simp only [wantS_none,c1,if_true] at h1
 subst h1
 by_cases c2:isT L (p+1) [40]=true
 case neg =>
  simp only [wantS_none,c2] at h2
  subst h2
  simp only [Bool.false_eq_true,if_false] at h3
  obtain ⟨a,rfl,e3⟩:=h3.some'
  simp only [wantS_some] at h4
  subst h4
  obtain ⟨b,rfl,e5⟩:=h5.some'
  simp only [G.wt] at e3 e5
  simp [c1,c2]; omega
 have l2:=isT_ltE hE c2
 simp only [wantS_none,c2,if_true] at h2
 subst h2
 rcases h3.none' with ⟨q,a,e,rfl,e3⟩ | ⟨k,e,rfl⟩
 · simp only [wantS_some] at h4
   subst h4
   obtain ⟨b,rfl,e5⟩:=h5.some'
   simp only [G.wt] at e5
   simp [c1,c2,e,PR.then]; omega
 have ha:=pp_advE hE n (.list .kind [41]) (p+1+1)
 rw [e] at ha
 have hk:k < L.length:=by
  rcases Nat.lt_or_ge (p+1+1) k with h | h
  · exact ha.2.2 h
  · omega
 by_cases c3:isT L k [58]=true
 case neg =>
  simp only [wantS_none,c3] at h4
  subst h4
  simp only [Bool.false_eq_true,if_false] at h5
  obtain ⟨b,rfl,e5⟩:=h5.some'
  simp only [G.wt] at e5
  simp [c1,c2,c3,e,PR.then]; omega
 simp only [wantS_none,c3,if_true] at h4
 subst h4
 rcases h5.none' with ⟨q,a,e',rfl,e5⟩ | ⟨k',e',rfl⟩
 · simp [c1,c2,c3,e,e',PR.then]; omega
 · simp [c1,c2,c3,e,e',PR.then,N.bag,N.new,N.ks]
section
def plainK:Nat→Bs
 | 0=>kInt
 | 1=>kStr
 | _=>kDyn
section
variable {P:Program} {R:RF} {z:Bool} {L:List Tk}
theorem RHas.kind' (hR:RHas P R) (hx:HasT P [9] R.kind (irR7Kind R.is R.word R.want R.kind R.ended R.tn)) (hE:EndsL L) (hL:L.length≤1048576) (n:Nat) (hn:n≤1099511627776) (hS:∀ m,m < n+1→UR P R.tr z L m .kind R.kind):UR P R.tr z L (n+1) .kind R.kind:=by
 refine UR_of fun H i s hi hpp => ?_
 obtain ⟨fn,hf,hcf⟩:=hx
 refine acall_norm (acall_fin hf hcf (by simp [irR7Kind]) fun hcl _ => ?_)
 have hp0:=hpp.1.1
 simp only [G.c] at hp0
 obtain ⟨p,st⟩:=s
 have hget:∀ st X,(H.set i (rst R.tr z L st)++X)[i]?=some (rst R.tr z L st):=fun st X=>upG hi
 have hcc:∀ st' X,Hp.cut H.length (H.set i (rst R.tr z L st')++X)=H.set i (rst R.tr z L st'):=fun st' X=>rcut hcl
 cases st with
 | some q =>
   have hq':(0:Int)≤q:=by omega
   have hg1:=hget (some q)
   have hc1:=hcc (some q)
   simp only [rst] at hg1 hc1
   simp [irR7Kind,rst,hg1,hq']
   simp [RetK,hc1,rst,nl]
   have hrel:=fin_nodeR (tr:=R.tr) (z:=z) (L:=L) (H:=H) (i:=i) (z':=true) (n:=n+1) (g := .kind) (s:=(p,some q)) (s':=(p,some q)) (k:=0) (f:=0) (t:=0) (a:=0) (w:=[]) [] (rows:=[]) rfl (by simp) (by simp [Rel])
   simpa [rst] using hrel
 | none =>
   have hp:p < L.length:=hpp.2 rfl
   obtain ⟨hp1,hp2⟩:=hpp.1.2.2 rfl
   simp only [G.c] at hp1 hp2
   have hw:IntKind.i64.wrap ((p:Int)+1)=((p+1:Nat):Int):=by rw [wrap_i64 (by omega) (by omega)]; omega
   have hg1:=hget none
   simp only [rst] at hg1
   have gi:=fun x X=>hR.isA (z:=z) (st:=none) (X:=X) hi hp x
   simp only [rst] at gi
   simp [irR7Kind,rst,hg1]
   obtain ⟨E,hE0⟩:∃ E:Fr→Hp→Prop,E=fun fr H'=>(fr 0 = .ptr i 0∧fr 1 = .d (.int .i64 (p:Int))∧fr 4 = .ptr H.length 0∧fr 6 = .d (.int .i64 (p:Int)))∧(isT L p kInt=false∧isT L p kStr=false∧isT L p kDyn=false)∧H'=H.set i (rst R.tr z L none)++[zbx R.tn]:=⟨_,rfl⟩
   obtain ⟨RR,hRR⟩:∃ RR:Fr→Hp→Prop,RR=fun fr H'=>∃ K:Nat,fr 4 = .ptr H.length 0∧fr 5 = .d (.int .i64 ((p+1:Nat):Int))∧pp L (n+1) .kind p = .ok (N.new K p (p+1) [] 0 []) (p+1)∧H'=H.set i (rst R.tr z L none)++[.box R.tn [.d (.int .i64 K),.d (.int .i64 (p:Int)),.d (.int .i64 ((p+1:Nat):Int)),.d (.str []),.d (.int .i64 0),.d (.sl true 6 [])]]:=⟨_,rfl⟩
   refine LoopK_outR 0 E RR ?_ ?_ ?_
   rotate_left
   · intro fr H' h
     subst hRR
     obtain ⟨K,f4,f5,hr,rfl⟩:=h
     simp [f4,f5]
     simp [RetK,hcc,nl]
     have hrel:=fin_nodeR (tr:=R.tr) (z:=z) (L:=L) (H:=H) (i:=i) (z':=true) (n:=n+1) (g := .kind) (s:=(p,none)) (s':=(p+1,none)) (k:=K) (f:=p) (t:=((p+1:Nat):Int)) (a:=0) (w:=[]) [] (rows:=[]) rfl (by simp) (by simp [Rel,hr])
     simpa using hrel
   · intro fr H' h
     subst hE0
     clear hRR
     obtain ⟨⟨f0,f1,f4,f6⟩,⟨i1,i2,i3⟩,rfl⟩:=h
     have gi4:=fun X=>gi [123] X
     cases i4:isT L p [123] with
     | true =>
       rw [i4] at gi4
       have l1:=isT_ltE hE i4
       simp [f0,f1,f4,f6,rst,zbx]
       refine CallK_of' (gi4 _) ?_
       simp [f6,hw]
       have hs0l:(((p+1,none):PSt)).2=none→((p+1,none):PSt).1 < L.length:=fun _=>l1
       have hs0c:((p+1,none):PSt).2=none→16 * (L.length - ((p+1,none):PSt).1)+9≤n:=fun _=>by simp only; omega
       obtain ⟨XX,hXX⟩:∃ XX:List N→Hp,XX=fun ks=>[zbx R.tn,.tok ks.length 6 R.tn]:=⟨_,rfl⟩
       have hXl:∀ a,(XX a).length=2:=fun a=>by rw [hXX]; rfl
       obtain ⟨E,hE0⟩:∃ E:Fr→Hp→Prop,E=fun fr H'=>∃ (ks:List N) (s':PSt) (X:Hp),(fr 0 = .ptr i 0∧fr 1 = .d (.int .i64 (p:Int))∧fr 4 = .ptr H.length 0∧fr 6 = .d (.int .i64 (s'.1:Int))∧fr 9 = .osl true 6 (ks.map N.enc) (H.length+1))∧(s'.2=none→s'.1 < L.length)∧s'.1≤1125899906842624∧ks.length * 72≤70368744177664∧Rel L n (.list .tfield [125]) ((p+1,none):PSt) (N.bag ks) (wantS L [125] s')∧H'=H.set i (rst R.tr z L s'.2)++(XX ks++X):=⟨_,rfl⟩
       refine LoopK_outR 2 E (fun _ _=>False) ?_ (fun _ _ h=>h.elim) ?_
       rotate_left
       · intro fr H' h
         subst hE0
         obtain ⟨ks,s',X,⟨f0,f1,f4,f6,f9⟩,hlt,hb,hkb,hr,rfl⟩:=h
         have g2:=fun X=>hR.wantA (z:=z) (s:=s') (X:=X) hi hlt hb [125]
         generalize wantS L [125] s'=s2 at g2 hr
         simp [f0,f6]
         refine CallK_of' (g2 _) ?_
         have g5:=fun H0=>hR.ended.rendedT 32 (p:Int) 0 [] 0 true [] (s2.1:Int) true (ks.map N.enc) H0 (H.length+1)
         simp only [ag] at g5
         simp [f1,f9,hXl]
         refine CallK_of' (g5 _ (by simp [hXl]; omega)) ?_
         subst hXX
         simp [f4,zbx]
         simp [RetK,rcut hcl,nl]
         exact fin_nodeR (z':=true) ks rfl (fun _=>rfl) (relIn (by simp [pp,i1,i2,i3,i4]) hr)
       have hE1:∀ fr (ks:List N) (s':PSt) (X:Hp),(fr 0 = .ptr i 0∧fr 1 = .d (.int .i64 (p:Int))∧fr 4 = .ptr H.length 0∧fr 6 = .d (.int .i64 (s'.1:Int))∧fr 9 = .osl true 6 (ks.map N.enc) (H.length+1))→(s'.2=none→s'.1 < L.length)→s'.1≤1125899906842624→ks.length * 72≤70368744177664→Rel L n (.list .tfield [125]) ((p+1,none):PSt) (N.bag ks) (wantS L [125] s')→E fr (H.set i (rst R.tr z L s'.2)++(XX ks++X)):=fun fr ks s' X a b c d e=>by subst hE0; exact ⟨ks,s',X,a,b,c,d,e,rfl⟩
       clear hE0
       have hcut:∀ ks st' X,Hp.cut (H.length+2) (H.set i (rst R.tr z L st')++(XX ks++X))=H.set i (rst R.tr z L st')++XX ks:=fun ks st' X=>by
        rw [rcutk hcl,hXX]; rfl
       have hcut0:∀ ks st',Hp.cut (H.length+2) (H.set i (rst R.tr z L st')++XX ks)=H.set i (rst R.tr z L st')++XX ks:=fun ks st'=>by simpa using hcut ks st' []
       have hg0:∀ st X,(H.set i (rst R.tr z L st)++X)[i]?=some (rst R.tr z L st):=fun st X=>upG hi
       have hgT:∀ (ks:List N) X,(XX ks++X)[1]?=some (.tok (ks.length) 6 R.tn):=fun ks X=>by rw [hXX]; simp
       have hgT1:∀ (ks:List N) h,(XX ks)[1]'h = .tok (ks.length) 6 R.tn:=fun ks h=>by simp [hXX]
       have hgB:∀ (ks:List N) b X,(XX ks++b :: X)[2]?=some b:=fun ks b X=>by rw [hXX]; simp
       have hgC:∀ (ks:List N) b c X,(XX ks++b :: c :: X)[3]?=some c:=fun ks b c X=>by rw [hXX]; simp
       have hsT:∀ (ks:List N) (m:N) X,(XX ks++X).set 1 (.tok (ks.length+1) 6 R.tn)=XX (ks++[m])++X:=fun ks m X=>by rw [hXX]; simp
       have hil2:i < H.length+2:=by omega
       rw [show H.set i (.box R.tr [.d (.sl z 4 (L.map encTk)),.d (.int .i64 (-1))])++[Ob.box R.tn [.d (.int .i64 0),.d (.int .i64 0),.d (.int .i64 0),.d (.str []),.d (.int .i64 0),.d (.sl true 6 [])],.tok 0 6 R.tn]=H.set i (rst R.tr z L none)++XX [] by rw [hXX]; rfl]
       refine LoopM_of (H.length+2) (fun d fr H'=>∃ (ks:List N) (s':PSt),(fr 0 = .ptr i 0∧fr 1 = .d (.int .i64 (p:Int))∧fr 4 = .ptr H.length 0∧fr 6 = .d (.int .i64 (s'.1:Int))∧fr 9 = .osl true 6 (ks.map N.enc) (H.length+1))∧H'=H.set i (rst R.tr z L s'.2)++XX ks ∧
        ((d=0∧s'.2 ≠ none∧s'.1≤1125899906842624∧ks.length * 72≤70368744177664∧∀ m,Rel L n (.list .tfield [125]) ((p+1,none):PSt) m s')∨∃ p1,s'=(p1,none)∧((p+1,none):PSt).2=none∧d≤n∧pp L n (.list .tfield [125]) ((p+1,none):PSt).1=pp L d (LG .tfield [125] ks) p1∧p1 < L.length∧16 * (L.length - p1)+9≤d∧ks.length≤p1)) (match ((p+1,none):PSt).2 with | none=>n | some _=>0) (by simp [hXl]) ⟨[],((p+1,none):PSt),?_⟩ ?_
       · refine ⟨by simp [hil2,f0,f1,f4],hcut0 _ _,?_⟩
         cases h0:((p+1,none):PSt).2 with
         | some q=>first | exact absurd h0 (by simp; done) | exact .inl ⟨rfl,by simp [h0],by omega,by simp,fun m=>by simp [Rel,h0,G.wt]⟩
         | none=>exact .inr ⟨((p+1,none):PSt).1,by rw [← h0],rfl,Nat.le_refl _,by simp [LG],hs0l h0,by have:=hs0c h0; omega,by simp⟩
       · rintro d fr H' ⟨ks,s',⟨f0,f1,f4,f6,f9⟩,rfl,hd⟩
         rcases hd with ⟨rfl,q1,qb,qk,q2⟩ | ⟨p1,rfl,hs2,hdn,hpe,hp1',hrk,hks⟩
         · obtain ⟨p',st'⟩:=s'
           cases st' with
           | none=>simp at q1
           | some q =>
             have hg1:=hg0 (some q)
             have hq:¬ (q:Int) < 0:=by omega
             have hE2:=fun fr h=>hE1 fr ks (p',some q) [] h (fun e=>by cases e) qb qk (q2 _)
             simp only [rst,List.append_nil] at hg1 hE2
             simp [f0,f6,rst,hg1,hq]
             exact hE2 _ (by simp [f0,f1,f4,f6,f9,hXl])
         · have hRel:∀ m s',(match pp L d (LG .tfield [125] ks) p1 with | .out=>False | .bad q=>s'.2=some q∧s'.1≤L.length+n | .ok m' k=>m=m'∧s'=(k,none))→Rel L n (.list .tfield [125]) ((p+1,none):PSt) m s':=fun m s' h=>by
            unfold Rel
            rw [hs2]
            simp only
            rw [hpe]; exact h
           have hg1:=hg0 none
           have gi:=fun X=>hR.isA (z:=z) (st:=none) (X:=X) hi hp1' [125]
           by_cases hend:ks=[]∧isT L p1 [125]=true
           · obtain ⟨rfl,hjb⟩:=hend
             obtain ⟨d',rfl⟩:∃ d',d=d'+1:=⟨d - 1,by omega⟩
             have hE2:=fun fr h=>hE1 fr [] (p1,none) [] h (fun _=>hp1') (by simp only; omega) (by simp) (hRel _ _ (by simp [LG,pp,hjb,N.bag,N.new]))
             rw [hjb] at gi
             simp only [rst,List.append_nil] at hg1 gi hE2
             simp [f0,f6,f9,rst,hg1]
             refine CallK_of' (gi _) ?_
             simp
             exact hE2 _ (by simp [f0,f1,f4,f6,f9,hXl])
           · have hje:ks=[]→isT L p1 [125]=false:=fun e=>by
              cases h:isT L p1 [125] with
              | false=>rfl
              | true=>exact absurd ⟨e,h⟩ hend
             obtain ⟨M,hM⟩:∃ M:Fr→Hp→Prop,M=fun fr H'=>(fr 0 = .ptr i 0∧fr 1 = .d (.int .i64 (p:Int))∧fr 4 = .ptr H.length 0∧fr 6 = .d (.int .i64 (((p1,none):PSt).1:Int))∧fr 9 = .osl true 6 (ks.map N.enc) (H.length+1))∧H'=H.set i (rst R.tr z L none)++XX ks:=⟨_,rfl⟩
             have hM1:∀ fr,(fr 0 = .ptr i 0∧fr 1 = .d (.int .i64 (p:Int))∧fr 4 = .ptr H.length 0∧fr 6 = .d (.int .i64 (((p1,none):PSt).1:Int))∧fr 9 = .osl true 6 (ks.map N.enc) (H.length+1))→M fr (H.set i (rst R.tr z L none)++XX ks):=fun fr h=>by subst hM; exact ⟨h,rfl⟩
             refine Seq_mid M ?_ ?_
             · clear hM
               simp only [rst] at hg1 gi hM1
               rcases List.eq_nil_or_concat ks with hk0 | ⟨kk,kx,hk0⟩
               · rw [hje hk0] at gi
                 simp [f0,f6,f9,rst,hg1,hk0]
                 refine CallK_of' (gi _) ?_
                 rw [← hk0]
                 simp [f0,f6]
                 exact hM1 _ (by simp [f0,f1,f4,f6,f9,hXl])
               · have hkn:¬ ks=[]:=fun e=>by rw [e] at hk0; simp at hk0
                 simp [f0,f6,f9,rst,hg1,hkn]
                 exact hM1 _ (by simp [f0,f1,f4,f6,f9,hXl])
             · intro fr H' h
               subst hM
               obtain ⟨⟨f0,f1,f4,f6,f9⟩,rfl⟩:=h
               have hstep:=LG_step (L:=L) (d:=d) (one := .tfield) (e:=[125]) (ks:=ks) (p:=p1) (by omega) hje
               obtain ⟨m,hm1,hm2,hpp2⟩:=hstep
               obtain ⟨m',rfl⟩:∃ m',m=m'+1:=⟨m - 1,by omega⟩
               have gw:=fun X=>hR.wordA (z:=z) (s:=(p1,none)) (X:=X) hi (fun _=>hp1') (by simp only; omega) 33 p1 0 [] 0 true []
               have hrp:=fun t s3=>relTfield (L:=L) hE (n:=m') (p:=p1) (t:=t) (s3:=s3) (by omega) hp1'
               generalize h2:wordS L (p1,none)=s2 at gw hrp
               have b2:=wordS_le h2
               have m2:=wordS_moE hE h2
               have hlt2:=m2.lt (fun _=>hp1')
               simp only at gw b2
               have gv:=fun X=>hR.wantA (z:=z) (s:=s2) (X:=X) hi hlt2 (by omega) [58]
               generalize h2v:wantS L [58] s2=s2v at gv hrp
               have b2:=Nat.le_trans (wantS_le h2v) (Nat.succ_le_succ b2)
               have m2:=m2.trans (wantS_moE hE h2v)
               have hlt2:=m2.lt (fun _=>hp1')
               simp only [rst] at gv
               have gt:=fun X=>hS m' (by omega) H X i s2v hi ⟨⟨by simp only [G.c]; omega,by simp only [G.c]; omega,fun e=>by
                obtain ⟨a1,a2,a3⟩:=m2 e
                have:=hlt2 e
                simp only at a2
                simp only [G.c]
                exact ⟨by omega,by omega⟩⟩,hlt2⟩
               generalize (if wordOkB L (p1,none)=true then txT L p1 else [])=W at gw hrp
               generalize (if wordOkB L (p1,none)=true then (p1:Int) else 0)=Q at gw hrp
               simp only [rst,ag] at hg1 gw gt
               simp [f0,f6,rst]
               refine CallK_of' (gw _) ?_
               simp [f0]
               refine CallK_of' (gv _) ?_
               simp [f0]
               refine CallK_of (gt _) ?_
               rintro _ _ ⟨t,s3,rfl,rfl,r3⟩
               obtain ⟨kt,ft,tt',wt',qt,zt,kst,hft,het,hvt,hbt⟩:=node_ho R.tn t
               rw [hvt]
               obtain ⟨bo,hbo⟩:∃ bo:Ob,bo = .box R.tn [.d (.int .i64 33),.d (.int .i64 (p1:Int)),.d (.int .i64 0),.d (.str W),.d (.int .i64 Q),.d (.sl true 6 [])]:=⟨_,rfl⟩
               obtain ⟨co,hco⟩:∃ co:Ob,co = .box R.tn [.d (.int .i64 kt),.d (.int .i64 ft),.d (.int .i64 tt'),.d (.str wt'),.d (.int .i64 qt),.d (.sl zt 6 (kst.map N.enc))]:=⟨_,rfl⟩
               have hB:=fun X=>hgB ks bo X
               have hC:=fun X=>hgC ks bo co X
               rw [hbo] at hB
               rw [hbo,hco] at hC
               have hT:=hgT ks
               have hT1:=hgT1 ks
               have g5:=fun H0=>hR.ended.rended 33 p1 0 W Q true [] (s3.1:Int) false [t.enc] H0
               rw [het] at g5
               simp only [ag] at g5
               simp [f0,f9,hXl,hB,hC]
               refine CallK_of' (g5 _) ?_
               have hs3b:s3.1≤L.length+(m'+1):=by have:=r3.bnd (B:=L.length+(m'+1)) (by omega) (by omega); omega
               obtain ⟨x,hx⟩:∃ x:N,x=N.new 33 p1 s3.1 W Q [t]:=⟨_,rfl⟩
               have hrx:Rel L (m'+1) .tfield (p1,none) x s3:=by rw [hx]; exact hrp t s3 r3 hs3b
               have hs1:=hsT ks x
               have hbd:(ks.length+1) * 72≤140737488355328:=by omega
               have hmap:ks.map N.enc++[[.int .i64 33,.int .i64 (p1:Int),.int .i64 (s3.1:Int),.str W,.int .i64 Q,.sl false 6 [[.int .i64 kt,.int .i64 ft,.int .i64 tt',.str wt',.int .i64 qt,.sl zt 6 (kst.map N.enc)]]]]=(ks++[x]).map N.enc:=by
                rw [List.map_append,hx]
                simp [N.new,N.enc_mk,het]
               clear hrp hx r3 g5 gt gw
               simp [f0,f9,hXl,hT,hT1,appA,slOf,hbd,hs1,hmap]
               obtain ⟨p3,st3⟩:=s3
               simp only at hs3b
               cases st3 with
               | some q =>
                 have hg2:=hg0 (some q)
                 have hq':(0:Int)≤q:=by omega
                 have hbad:pp L (m'+1) .tfield p1 = .bad q:=by
                  rcases hrx.none' with ⟨q',a,e,e2,e3⟩ | ⟨k,e,e2⟩
                  · simp only [Prod.mk.injEq,Option.some.injEq] at e2
                    rw [e,e2.2]
                  · simp at e2
                 have hE2:=fun fr X h=>hE1 fr (ks++[x]) (p3,some q) X h (fun e=>by cases e) (by simp only; omega) (by simp; omega) (hRel _ _ (by rw [hpp2,hbad]; simp [PR.then]; omega))
                 simp only [rst] at hg2 hE2
                 simp [f0,rst,hg2,hq']
                 exact hE2 _ _ (by simp [f0,f1,f4,hXl])
               | none =>
                 have hok:pp L (m'+1) .tfield p1 = .ok x p3:=by
                  rcases hrx.none' with ⟨q',a,e,e2,e3⟩ | ⟨k,e,e2⟩
                  · simp at e2
                  · simp only [Prod.mk.injEq] at e2
                    rw [e,e2.1]
                 have hadv:=pp_advE hE (m'+1) .tfield p1
                 rw [hok] at hadv
                 obtain ⟨v1,v2,v3⟩:=hadv
                 have v2:=v2 rfl
                 have v3:=v3 v2
                 have gi3:=fun X=>hR.isA (z:=z) (st:=none) (X:=X) hi v3 [125]
                 have gw3:=fun X=>hR.wantA (z:=z) (s:=(p3,none)) (X:=X) hi (fun _=>v3) (by simp only; omega) [44]
                 have hg2:=hg0 none
                 cases hc:isT L p3 [125] with
                 | true =>
                   have hE2:=fun fr X h=>hE1 fr (ks++[x]) (p3,none) X h (fun _=>v3) (by simp only; omega) (by simp; omega) (hRel _ _ (by rw [hpp2,hok]; simp [PR.then,hc,N.bag,N.new]))
                   rw [hc] at gi3
                   simp only [rst] at hg2 gi3 hE2
                   simp [f0,rst,hg2]
                   refine CallK_of' (gi3 _) ?_
                   simp
                   exact hE2 _ _ (by simp [f0,f1,f4,hXl])
                 | false =>
                   rw [hc] at gi3
                   have hstp:=hpp2
                   rw [hok] at hstp
                   simp only [PR.then,hc,wantR] at hstp
                   by_cases hcm:isT L p3 [44]=true
                   · have hl4:=isT_ltE hE hcm
                     simp only [wantS_none,hcm,if_true] at gw3
                     simp only [rst] at hg2 gi3 gw3
                     simp [f0,rst,hg2]
                     refine CallK_of' (gi3 _) ?_
                     simp [f0]
                     refine CallK_of' (gw3 _) ?_
                     simp
                     refine NextM_of (H.length+2) (m'+1) (Nat.le_refl _) (by simp [hXl]) (by omega) ⟨ks++[x],(p3+1,none),by simp [f0,f1,f4,hil2],by simpa [rst] using hcut (ks++[x]) none _,.inr ⟨p3+1,rfl,hs2,by omega,?_,hl4,by omega,by simp; omega⟩⟩
                     rw [hpe,hstp,hcm,LG_snoc]
                     simp
                   · have hcm':isT L p3 [44]=false:=by simpa using hcm
                     simp only [wantS_none,hcm',Bool.false_eq_true,if_false] at gw3
                     simp only [rst] at hg2 gi3 gw3
                     simp [f0,rst,hg2]
                     refine CallK_of' (gi3 _) ?_
                     simp [f0]
                     refine CallK_of' (gw3 _) ?_
                     simp
                     refine NextM_of (H.length+2) 0 (Nat.le_refl _) (by simp [hXl]) (by omega) ⟨ks++[x],(p3,some p3),by simp [f0,f1,f4,hil2],by simpa [rst] using hcut (ks++[x]) (some p3) _,.inl ⟨rfl,by simp,by simp only; omega,by simp; omega,fun mm=>hRel _ _ ?_⟩⟩
                     rw [hstp,hcm']
                     simp [PR.then]
                     omega
     | false =>
       rw [i4] at gi4
       have g1:=fun X=>hR.wantA (z:=z) (s:=(p,none)) (X:=X) hi (fun _=>hp) (by simp only; omega) kFn
       have m1:=wantS_moE hE (rfl:wantS L kFn (p,none)=_)
       have b1:=wantS_le (rfl:wantS L kFn (p,none)=_)
       have hrel0:=fun ks t s2 s3 s4 s5=>relKFn hE (n:=n) (p:=p) (ks:=ks) (t:=t) (s2:=s2) (s3:=s3) (s4:=s4) (s5:=s5) hp i1 i2 i3 i4 rfl
       have q1:(wantS L kFn (p,none)).2=none→(wantS L kFn (p,none)).1=p+1:=by rw [wantS_none]; split<;>simp
       generalize wantS L kFn (p,none)=s1 at g1 m1 b1 hrel0 q1
       have g2:=fun X=>hR.wantA (z:=z) (s:=s1) (X:=X) hi (m1.lt (fun _=>hp)) (by simp only at b1; omega) [40]
       have m2:=m1.trans (wantS_moE hE (rfl:wantS L [40] s1=_))
       have b2:=wantS_le (rfl:wantS L [40] s1=_)
       have hrel0:=fun ks t s3 s4 s5=>hrel0 ks t (wantS L [40] s1) s3 s4 s5 rfl
       have mo:=wantS_moE hE (rfl:wantS L [40] s1=_)
       have hs0c:(wantS L [40] s1).2=none→16 * (L.length - (wantS L [40] s1).1)+9≤n:=fun e=>by
        obtain ⟨a1,a2,-⟩:=mo e
        have:=q1 a1
        omega
       clear mo
       generalize wantS L [40] s1=s2 at g2 m2 b2 hrel0 hs0c
       have hs0l:=m2.lt (fun _=>hp)
       simp only [rst] at g1
       simp [f0,f1,f4,f6,rst,zbx]
       refine CallK_of' (gi4 _) ?_
       simp [f0,f6]
       refine CallK_of' (g1 _) ?_
       simp [f0]
       refine CallK_of' (g2 _) ?_
       simp [f0]
       obtain ⟨XX,hXX⟩:∃ XX:List N→Hp,XX=fun ks=>[zbx R.tn,.tok ks.length 6 R.tn]:=⟨_,rfl⟩
       have hXl:∀ a,(XX a).length=2:=fun a=>by rw [hXX]; rfl
       obtain ⟨E,hE0⟩:∃ E:Fr→Hp→Prop,E=fun fr H'=>∃ (ks:List N) (s':PSt) (X:Hp),(fr 0 = .ptr i 0∧fr 1 = .d (.int .i64 (p:Int))∧fr 4 = .ptr H.length 0∧fr 6 = .d (.int .i64 (s'.1:Int))∧fr 9 = .osl true 6 (ks.map N.enc) (H.length+1))∧(s'.2=none→s'.1 < L.length)∧s'.1≤1125899906842624∧ks.length * 72≤70368744177664∧Rel L n (.list .kind [41]) s2 (N.bag ks) (wantS L [41] s')∧H'=H.set i (rst R.tr z L s'.2)++(XX ks++X):=⟨_,rfl⟩
       refine LoopK_outR 4 E (fun _ _=>False) ?_ (fun _ _ h=>h.elim) ?_
       rotate_left
       · intro fr H' h
         subst hE0
         obtain ⟨ks,s',X,⟨f0,f1,f4,f6,f9⟩,hlt,hb,hkb,hr,rfl⟩:=h
         have m3:=m2.trans (hr.moE hE)
         have hl3:=m3.lt (fun _=>hp)
         have b3:=hr.bnd (B:=L.length+n+3) (by simp only at b1; omega) (by omega)
         have g3:=fun X=>hR.wantA (z:=z) (s:=s') (X:=X) hi hlt hb [41]
         have hrel0:=fun t s4 s5=>hrel0 ks t _ s4 s5 hr
         generalize wantS L [41] s'=s3 at g3 hr m3 hl3 b3 hrel0
         have g4:=fun X=>hR.wantA (z:=z) (s:=s3) (X:=X) hi hl3 (by omega) [58]
         have m24:=(hr.moE hE).trans (wantS_moE hE (rfl:wantS L [58] s3=_))
         have m4:=m3.trans (wantS_moE hE (rfl:wantS L [58] s3=_))
         have b4:=wantS_le (rfl:wantS L [58] s3=_)
         have hrel0:=fun t s5=>hrel0 t _ s5 rfl
         generalize wantS L [58] s3=s4 at g4 m4 b4 hrel0 m24
         have hl4:=m4.lt (fun _=>hp)
         have g6:=fun X=>hS n (by omega) H X i s4 hi ⟨⟨by simp only [G.c]; omega,by simp only [G.c]; omega,fun e=>by
          obtain ⟨a1,a2,a3⟩:=m4 e
          have:=hl4 e
          obtain ⟨a4,a5,-⟩:=m24 e
          have:=hs0c a4
          simp only [G.c]
          exact ⟨by omega,by omega⟩⟩,hl4⟩
         simp [f0,f6]
         refine CallK_of' (g3 _) ?_
         simp [f0]
         refine CallK_of' (g4 _) ?_
         simp [f0]
         refine CallK_of (g6 _) ?_
         rintro _ _ ⟨t,s5,rfl,rfl,r5⟩
         have hrel0:=hrel0 t s5 r5
         obtain ⟨kt,ft,tt',wt',qt,zt,kst,hft,het,hvt,hbt⟩:=node_ho R.tn t
         rw [hvt]
         obtain ⟨bo,hbo⟩:∃ bo:Ob,bo = .box R.tn [.d (.int .i64 kt),.d (.int .i64 ft),.d (.int .i64 tt'),.d (.str wt'),.d (.int .i64 qt),.d (.sl zt 6 (kst.map N.enc))]:=⟨_,rfl⟩
         have g5:=fun H0=>hR.ended.rendedT 34 (p:Int) 0 [] 0 true [] (s5.1:Int) true (ks.map N.enc++[[.int .i64 kt,.int .i64 ft,.int .i64 tt',.str wt',.int .i64 qt,.sl zt 6 (kst.map N.enc)]]) H0 (H.length+1)
         simp only [ag] at g5
         simp [f1,f4,f9]
         subst hXX
         have hbd:(ks.length+1) * 72≤140737488355328:=by omega
         have hi2:i < H.length+2:=by omega
         simp [appA,slOf,hbd]
         refine CallK_of' (g5 _ (by simp)) ?_
         simp [f4,zbx]
         simp [RetK,rcut hcl,nl]
         exact fin_nodeR (z':=true) (ks++[t]) (by simp [het]) (by simp) hrel0
       have hE1:∀ fr (ks:List N) (s':PSt) (X:Hp),(fr 0 = .ptr i 0∧fr 1 = .d (.int .i64 (p:Int))∧fr 4 = .ptr H.length 0∧fr 6 = .d (.int .i64 (s'.1:Int))∧fr 9 = .osl true 6 (ks.map N.enc) (H.length+1))→(s'.2=none→s'.1 < L.length)→s'.1≤1125899906842624→ks.length * 72≤70368744177664→Rel L n (.list .kind [41]) s2 (N.bag ks) (wantS L [41] s')→E fr (H.set i (rst R.tr z L s'.2)++(XX ks++X)):=fun fr ks s' X a b c d e=>by subst hE0; exact ⟨ks,s',X,a,b,c,d,e,rfl⟩
       clear hE0
       have hcut:∀ ks st' X,Hp.cut (H.length+2) (H.set i (rst R.tr z L st')++(XX ks++X))=H.set i (rst R.tr z L st')++XX ks:=fun ks st' X=>by
        rw [rcutk hcl,hXX]; rfl
       have hcut0:∀ ks st',Hp.cut (H.length+2) (H.set i (rst R.tr z L st')++XX ks)=H.set i (rst R.tr z L st')++XX ks:=fun ks st'=>by simpa using hcut ks st' []
       have hg0:∀ st X,(H.set i (rst R.tr z L st)++X)[i]?=some (rst R.tr z L st):=fun st X=>upG hi
       have hgT:∀ (ks:List N) X,(XX ks++X)[1]?=some (.tok (ks.length) 6 R.tn):=fun ks X=>by rw [hXX]; simp
       have hgT1:∀ (ks:List N) h,(XX ks)[1]'h = .tok (ks.length) 6 R.tn:=fun ks h=>by simp [hXX]
       have hgB:∀ (ks:List N) b X,(XX ks++b :: X)[2]?=some b:=fun ks b X=>by rw [hXX]; simp
       have hgC:∀ (ks:List N) b c X,(XX ks++b :: c :: X)[3]?=some c:=fun ks b c X=>by rw [hXX]; simp
       have hsT:∀ (ks:List N) (m:N) X,(XX ks++X).set 1 (.tok (ks.length+1) 6 R.tn)=XX (ks++[m])++X:=fun ks m X=>by rw [hXX]; simp
       have hil2:i < H.length+2:=by omega
       rw [show H.set i (rst R.tr z L s2.2)++[Ob.box R.tn [.d (.int .i64 0),.d (.int .i64 0),.d (.int .i64 0),.d (.str []),.d (.int .i64 0),.d (.sl true 6 [])],.tok 0 6 R.tn]=H.set i (rst R.tr z L s2.2)++XX [] by rw [hXX]; rfl]
       refine LoopM_of (H.length+2) (fun d fr H'=>∃ (ks:List N) (s':PSt),(fr 0 = .ptr i 0∧fr 1 = .d (.int .i64 (p:Int))∧fr 4 = .ptr H.length 0∧fr 6 = .d (.int .i64 (s'.1:Int))∧fr 9 = .osl true 6 (ks.map N.enc) (H.length+1))∧H'=H.set i (rst R.tr z L s'.2)++XX ks ∧
        ((d=0∧s'.2 ≠ none∧s'.1≤1125899906842624∧ks.length * 72≤70368744177664∧∀ m,Rel L n (.list .kind [41]) s2 m s')∨∃ p1,s'=(p1,none)∧s2.2=none∧d≤n∧pp L n (.list .kind [41]) s2.1=pp L d (LG .kind [41] ks) p1∧p1 < L.length∧16 * (L.length - p1)+9≤d∧ks.length≤p1)) (match s2.2 with | none=>n | some _=>0) (by simp [hXl]) ⟨[],s2,?_⟩ ?_
       · refine ⟨by simp [hil2,f0,f1,f4],hcut0 _ _,?_⟩
         cases h0:s2.2 with
         | some q=>first | exact absurd h0 (by simp; done) | exact .inl ⟨rfl,by simp [h0],by omega,by simp,fun m=>by simp [Rel,h0,G.wt]⟩
         | none=>exact .inr ⟨s2.1,by rw [← h0],rfl,Nat.le_refl _,by simp [LG],hs0l h0,by have:=hs0c h0; omega,by simp⟩
       · rintro d fr H' ⟨ks,s',⟨f0,f1,f4,f6,f9⟩,rfl,hd⟩
         rcases hd with ⟨rfl,q1,qb,qk,q2⟩ | ⟨p1,rfl,hs2,hdn,hpe,hp1',hrk,hks⟩
         · obtain ⟨p',st'⟩:=s'
           cases st' with
           | none=>simp at q1
           | some q =>
             have hg1:=hg0 (some q)
             have hq:¬ (q:Int) < 0:=by omega
             have hE2:=fun fr h=>hE1 fr ks (p',some q) [] h (fun e=>by cases e) qb qk (q2 _)
             simp only [rst,List.append_nil] at hg1 hE2
             simp [f0,f6,rst,hg1,hq]
             exact hE2 _ (by simp [f0,f1,f4,f6,f9,hXl])
         · have hRel:∀ m s',(match pp L d (LG .kind [41] ks) p1 with | .out=>False | .bad q=>s'.2=some q∧s'.1≤L.length+n | .ok m' k=>m=m'∧s'=(k,none))→Rel L n (.list .kind [41]) s2 m s':=fun m s' h=>by
            unfold Rel
            rw [hs2]
            simp only
            rw [hpe]; exact h
           have hg1:=hg0 none
           have gi:=fun X=>hR.isA (z:=z) (st:=none) (X:=X) hi hp1' [41]
           by_cases hend:ks=[]∧isT L p1 [41]=true
           · obtain ⟨rfl,hjb⟩:=hend
             obtain ⟨d',rfl⟩:∃ d',d=d'+1:=⟨d - 1,by omega⟩
             have hE2:=fun fr h=>hE1 fr [] (p1,none) [] h (fun _=>hp1') (by simp only; omega) (by simp) (hRel _ _ (by simp [LG,pp,hjb,N.bag,N.new]))
             rw [hjb] at gi
             simp only [rst,List.append_nil] at hg1 gi hE2
             simp [f0,f6,f9,rst,hg1]
             refine CallK_of' (gi _) ?_
             simp
             exact hE2 _ (by simp [f0,f1,f4,f6,f9,hXl])
           · have hje:ks=[]→isT L p1 [41]=false:=fun e=>by
              cases h:isT L p1 [41] with
              | false=>rfl
              | true=>exact absurd ⟨e,h⟩ hend
             obtain ⟨M,hM⟩:∃ M:Fr→Hp→Prop,M=fun fr H'=>(fr 0 = .ptr i 0∧fr 1 = .d (.int .i64 (p:Int))∧fr 4 = .ptr H.length 0∧fr 6 = .d (.int .i64 (((p1,none):PSt).1:Int))∧fr 9 = .osl true 6 (ks.map N.enc) (H.length+1))∧H'=H.set i (rst R.tr z L none)++XX ks:=⟨_,rfl⟩
             have hM1:∀ fr,(fr 0 = .ptr i 0∧fr 1 = .d (.int .i64 (p:Int))∧fr 4 = .ptr H.length 0∧fr 6 = .d (.int .i64 (((p1,none):PSt).1:Int))∧fr 9 = .osl true 6 (ks.map N.enc) (H.length+1))→M fr (H.set i (rst R.tr z L none)++XX ks):=fun fr h=>by subst hM; exact ⟨h,rfl⟩
             refine Seq_mid M ?_ ?_
             · clear hM
               simp only [rst] at hg1 gi hM1
               rcases List.eq_nil_or_concat ks with hk0 | ⟨kk,kx,hk0⟩
               · rw [hje hk0] at gi
                 simp [f0,f6,f9,rst,hg1,hk0]
                 refine CallK_of' (gi _) ?_
                 rw [← hk0]
                 simp [f0,f6]
                 exact hM1 _ (by simp [f0,f1,f4,f6,f9,hXl])
               · have hkn:¬ ks=[]:=fun e=>by rw [e] at hk0; simp at hk0
                 simp [f0,f6,f9,rst,hg1,hkn]
                 exact hM1 _ (by simp [f0,f1,f4,f6,f9,hXl])
             · intro fr H' h
               subst hM
               obtain ⟨⟨f0,f1,f4,f6,f9⟩,rfl⟩:=h
               have hstep:=LG_step (L:=L) (d:=d) (one := .kind) (e:=[41]) (ks:=ks) (p:=p1) (by omega) hje
               obtain ⟨m,hm1,hm2,hpp2⟩:=hstep
               have gt:=fun X=>hS m (by omega) H X i (p1,none) hi ⟨⟨by simp only [G.c]; omega,by simp only [G.c]; omega,fun _=>⟨by simp only; omega,by simp only [G.c]; omega⟩⟩,fun _=>hp1'⟩
               simp only [rst] at hg1 gt
               simp [f0,f6,rst]
               refine CallK_of (gt _) ?_
               rintro _ _ ⟨x,s3,rfl,rfl,hrx⟩
               obtain ⟨kt,ft,tt',wt',qt,zt,kst,hft,het,hvt,hbt⟩:=node_ho R.tn x
               rw [hvt]
               obtain ⟨bo,hbo⟩:∃ bo:Ob,bo = .box R.tn [.d (.int .i64 kt),.d (.int .i64 ft),.d (.int .i64 tt'),.d (.str wt'),.d (.int .i64 qt),.d (.sl zt 6 (kst.map N.enc))]:=⟨_,rfl⟩
               have hB:=fun X=>hgB ks bo X
               rw [hbo] at hB
               have hT:=hgT ks
               have hT1:=hgT1 ks
               have hs3b:s3.1≤L.length+n:=hrx.bnd (by simp only; omega) (by omega)
               have hs1:=hsT ks x
               have hbd:(ks.length+1) * 72≤140737488355328:=by omega
               have hmap:ks.map N.enc++[[.int .i64 kt,.int .i64 ft,.int .i64 tt',.str wt',.int .i64 qt,.sl zt 6 (kst.map N.enc)]]=(ks++[x]).map N.enc:=by
                rw [List.map_append]
                simp [het]
               clear gt
               simp [f9,hXl,hB,hT,hT1,appA,slOf,hbd,hs1,hmap]
               obtain ⟨p3,st3⟩:=s3
               simp only at hs3b
               cases st3 with
               | some q =>
                 have hg2:=hg0 (some q)
                 have hq':(0:Int)≤q:=by omega
                 have hbad:pp L m .kind p1 = .bad q:=by
                  rcases hrx.none' with ⟨q',a,e,e2,e3⟩ | ⟨k,e,e2⟩
                  · simp only [Prod.mk.injEq,Option.some.injEq] at e2
                    rw [e,e2.2]
                  · simp at e2
                 have hE2:=fun fr X h=>hE1 fr (ks++[x]) (p3,some q) X h (fun e=>by cases e) (by simp only; omega) (by simp; omega) (hRel _ _ (by rw [hpp2,hbad]; simp [PR.then]; omega))
                 simp only [rst] at hg2 hE2
                 simp [f0,rst,hg2,hq']
                 exact hE2 _ _ (by simp [f0,f1,f4,hXl])
               | none =>
                 have hok:pp L m .kind p1 = .ok x p3:=by
                  rcases hrx.none' with ⟨q',a,e,e2,e3⟩ | ⟨k,e,e2⟩
                  · simp at e2
                  · simp only [Prod.mk.injEq] at e2
                    rw [e,e2.1]
                 have hadv:=pp_advE hE m .kind p1
                 rw [hok] at hadv
                 obtain ⟨v1,v2,v3⟩:=hadv
                 have v2:=v2 rfl
                 have v3:=v3 v2
                 have gi3:=fun X=>hR.isA (z:=z) (st:=none) (X:=X) hi v3 [41]
                 have gw3:=fun X=>hR.wantA (z:=z) (s:=(p3,none)) (X:=X) hi (fun _=>v3) (by simp only; omega) [44]
                 have hg2:=hg0 none
                 cases hc:isT L p3 [41] with
                 | true =>
                   have hE2:=fun fr X h=>hE1 fr (ks++[x]) (p3,none) X h (fun _=>v3) (by simp only; omega) (by simp; omega) (hRel _ _ (by rw [hpp2,hok]; simp [PR.then,hc,N.bag,N.new]))
                   rw [hc] at gi3
                   simp only [rst] at hg2 gi3 hE2
                   simp [f0,rst,hg2]
                   refine CallK_of' (gi3 _) ?_
                   simp
                   exact hE2 _ _ (by simp [f0,f1,f4,hXl])
                 | false =>
                   rw [hc] at gi3
                   have hstp:=hpp2
                   rw [hok] at hstp
                   simp only [PR.then,hc,wantR] at hstp
                   by_cases hcm:isT L p3 [44]=true
                   · have hl4:=isT_ltE hE hcm
                     simp only [wantS_none,hcm,if_true] at gw3
                     simp only [rst] at hg2 gi3 gw3
                     simp [f0,rst,hg2]
                     refine CallK_of' (gi3 _) ?_
                     simp [f0]
                     refine CallK_of' (gw3 _) ?_
                     simp
                     refine NextM_of (H.length+2) m (Nat.le_refl _) (by simp [hXl]) (by omega) ⟨ks++[x],(p3+1,none),by simp [f0,f1,f4,hil2],by simpa [rst] using hcut (ks++[x]) none _,.inr ⟨p3+1,rfl,hs2,by omega,?_,hl4,by omega,by simp; omega⟩⟩
                     rw [hpe,hstp,hcm,LG_snoc]
                     simp
                   · have hcm':isT L p3 [44]=false:=by simpa using hcm
                     simp only [wantS_none,hcm',Bool.false_eq_true,if_false] at gw3
                     simp only [rst] at hg2 gi3 gw3
                     simp [f0,rst,hg2]
                     refine CallK_of' (gi3 _) ?_
                     simp [f0]
                     refine CallK_of' (gw3 _) ?_
                     simp
                     refine NextM_of (H.length+2) 0 (Nat.le_refl _) (by simp [hXl]) (by omega) ⟨ks++[x],(p3,some p3),by simp [f0,f1,f4,hil2],by simpa [rst] using hcut (ks++[x]) (some p3) _,.inl ⟨rfl,by simp,by simp only; omega,by simp; omega,fun mm=>hRel _ _ ?_⟩⟩
                     rw [hstp,hcm']
                     simp [PR.then]
                     omega
   have hE1:∀ fr,(fr 0 = .ptr i 0∧fr 1 = .d (.int .i64 (p:Int))∧fr 4 = .ptr H.length 0∧fr 6 = .d (.int .i64 (p:Int)))→(isT L p kInt=false∧isT L p kStr=false∧isT L p kDyn=false)→E fr (H.set i (rst R.tr z L none)++[zbx R.tn]):=fun fr a b=>by subst hE0; exact ⟨a,b,rfl⟩
   have hR1:∀ fr (K:Nat),fr 4 = .ptr H.length 0→fr 5 = .d (.int .i64 ((p+1:Nat):Int))→pp L (n+1) .kind p = .ok (N.new K p (p+1) [] 0 []) (p+1)→RR fr (H.set i (rst R.tr z L none)++[.box R.tn [.d (.int .i64 K),.d (.int .i64 (p:Int)),.d (.int .i64 ((p+1:Nat):Int)),.d (.str []),.d (.int .i64 0),.d (.sl true 6 [])]]):=fun fr K a b c=>by subst hRR; exact ⟨K,a,b,c,rfl⟩
   clear hE0 hRR
   have hil1:i < H.length+1:=by omega
   have hcut1:Hp.cut (H.length+1) (H.set i (rst R.tr z L none)++[zbx R.tn])=H.set i (rst R.tr z L none)++[zbx R.tn]:=by
    rw [rcutk hcl]; rfl
   refine LoopM_of (H.length+1) (fun d fr H'=>∃ j:Nat,d=3 - j∧j≤3∧(fr 0 = .ptr i 0∧fr 1 = .d (.int .i64 (p:Int))∧fr 4 = .ptr H.length 0∧fr 6 = .d (.int .i64 (p:Int))∧fr 7 = .d (.sl false 1 [[.str kInt],[.str kStr],[.str kDyn]])∧fr 8 = .d (.int .i64 (j:Int)))∧(∀ k,k < j→isT L p (plainK k)=false)∧H'=H.set i (rst R.tr z L none)++[zbx R.tn]) 3 (by simp) ⟨0,rfl,by omega,by simp [hil1,kInt,kStr,kDyn],by simp,?_⟩ ?_
   · exact hcut1
   · rintro d fr H' ⟨j,rfl,hj,⟨f0,f1,f4,f6,f7,f8⟩,hno,rfl⟩
     have hgz:∀ X,(H.set i (rst R.tr z L none)++X)[i]?=some (rst R.tr z L none):=fun X=>hget none X
     match j,hj with
     | 0, _ =>
       have gj:=fun X=>gi kInt X
       have hrw:Zam.rowAt [[.str kInt],[.str kStr],[.str kDyn]] (0:Int)=some [.str kInt]:=rfl
       cases c:isT L p kInt with
       | true =>
         rw [c] at gj
         have hR2:=fun fr a b=>hR1 fr 29 a b (by simp [pp,c])
         simp only [rst,zbx] at hR2 gj
         simp [f0,f6,f7,f8,rst,zbx,hrw]
         refine CallK_of' (gj _) ?_
         simp [f1,f4,f6,f8,hw]
         exact hR2 _ (by simp [f4]) (by simp)
       | false =>
         rw [c] at gj
         simp [f0,f6,f7,f8,rst,zbx,hrw]
         refine CallK_of' (gj _) ?_
         simp [f8]
         refine NextM_of (H.length+1) (3 - 1) (Nat.le_refl _) (by simp) (by omega) ⟨1,rfl,by omega,by simp [f0,f1,f4,f6,f7,hil1,show IntKind.i64.wrap 1=1 from rfl],?_,by simpa [rst,zbx] using hcut1⟩
         intro k hk
         match k,hk with
         | 0,_=>exact c
     | 1, _ =>
       have hno0:isT L p kInt=false:=hno 0 (by omega)
       have gj:=fun X=>gi kStr X
       have hrw:Zam.rowAt [[.str kInt],[.str kStr],[.str kDyn]] (1:Int)=some [.str kStr]:=rfl
       cases c:isT L p kStr with
       | true =>
         rw [c] at gj
         have hR2:=fun fr a b=>hR1 fr 30 a b (by simp [pp,hno0,c])
         simp only [rst,zbx] at hR2 gj
         simp [f0,f6,f7,f8,rst,zbx,hrw]
         refine CallK_of' (gj _) ?_
         simp [f1,f4,f6,f8,hw]
         exact hR2 _ (by simp [f4]) (by simp)
       | false =>
         rw [c] at gj
         simp [f0,f6,f7,f8,rst,zbx,hrw]
         refine CallK_of' (gj _) ?_
         simp [f8]
         refine NextM_of (H.length+1) (3 - 2) (Nat.le_refl _) (by simp) (by omega) ⟨2,rfl,by omega,by simp [f0,f1,f4,f6,f7,hil1,show IntKind.i64.wrap 2=2 from rfl],?_,by simpa [rst,zbx] using hcut1⟩
         intro k hk
         match k,hk with
         | 0,_=>exact hno0
         | 1,_=>exact c
     | 2, _ =>
       have hno0:isT L p kInt=false:=hno 0 (by omega)
       have hno1:isT L p kStr=false:=hno 1 (by omega)
       have gj:=fun X=>gi kDyn X
       have hrw:Zam.rowAt [[.str kInt],[.str kStr],[.str kDyn]] (2:Int)=some [.str kDyn]:=rfl
       cases c:isT L p kDyn with
       | true =>
         rw [c] at gj
         have hR2:=fun fr a b=>hR1 fr 31 a b (by simp [pp,hno0,hno1,c])
         simp only [rst,zbx] at hR2 gj
         simp [f0,f6,f7,f8,rst,zbx,hrw]
         refine CallK_of' (gj _) ?_
         simp [f1,f4,f6,f8,hw]
         exact hR2 _ (by simp [f4]) (by simp)
       | false =>
         rw [c] at gj
         simp [f0,f6,f7,f8,rst,zbx,hrw]
         refine CallK_of' (gj _) ?_
         simp [f8]
         refine NextM_of (H.length+1) (3 - 3) (Nat.le_refl _) (by simp) (by omega) ⟨3,rfl,by omega,by simp [f0,f1,f4,f6,f7,hil1,show IntKind.i64.wrap 3=3 from rfl],?_,by simpa [rst,zbx] using hcut1⟩
         intro k hk
         match k,hk with
         | 0,_=>exact hno0
         | 1,_=>exact hno1
         | 2,_=>exact c
     | 3, _ =>
       have hE2:=fun fr a=>hE1 fr a ⟨hno 0 (by omega),hno 1 (by omega),hno 2 (by omega)⟩
       simp only [rst,zbx] at hE2
       simp [f8,rst,zbx]
       exact hE2 _ (by simp [f0,f1,f4,f6])
end
end
section
theorem relGroup {L:List Tk} (hE:EndsL L) {n p:Nat} {x:N} {s1:PSt} (hn:1≤n) (hpe:pp L (n+1) .atom p=(pp L n .expr (p+1)).then fun x j=>wantR L j [41] fun _ => .ok (N.new 25 p ((j+1:Nat):Int) [] 0 [x]) (j+1)) (r:Rel L n .expr (p+1,none) x s1):Rel L (n+1) .atom (p,none) (N.new 25 p (wantS L [41] s1).1 [] 0 [x]) (wantS L [41] s1):=by
 simp only [Rel,hpe]
 rcases r.none' with ⟨q,a,e,rfl,e3⟩ | ⟨k,e,rfl⟩
 · simp [e,PR.then]; omega
 · have ha:=pp_advE hE n .expr (p+1)
   rw [e] at ha
   have hk:=ha.2.2 (ha.2.1 rfl)
   by_cases c:isT L k [41]=true
   · simp [e,PR.then,wantR,c]
   · simp [e,PR.then,wantR,c]; omega
theorem relLam {L:List Tk} (hE:EndsL L) {n p:Nat} {t1 t2 t3:N} {s1 s2:PSt} (hp:p < L.length) (hn:1≤n) (hpe:pp L (n+1) .atom p=wantR L p kFn fun _=>(pp L n .params (p+1)).then fun p' j=>(pp L n .typed j).then fun t j=>(pp L n .block j).then fun b j => .ok (N.new 28 p j [] 0 [p',t,b]) j) (h1:wantS L kFn (p,none)=s1) (h2:LamRel L n s1 t1 t2 t3 s2):Rel L (n+1) .atom (p,none) (N.new 28 p s2.1 [] 0 [t1,t2,t3]) s2:=by
 obtain ⟨u1,u2,r1,r2,r3⟩:=h2
 simp only [Rel,hpe,wantR]
 by_cases c1:isT L p kFn=true
 case neg =>
  simp only [wantS_none,c1] at h1
  subst h1
  simp only [Bool.false_eq_true,if_false] at r1
  obtain ⟨a,rfl,e3⟩:=r1.some'
  obtain ⟨b,rfl,e4⟩:=r2.some'
  obtain ⟨c,rfl,e5⟩:=r3.some'
  simp only [G.wt] at e3 e4 e5
  simp [c1]; omega
 simp only [wantS_none,c1,if_true] at h1
 subst h1
 rcases r1.none' with ⟨q,a,e,rfl,e3⟩ | ⟨k,e,rfl⟩
 · obtain ⟨b,rfl,e4⟩:=r2.some'
   obtain ⟨c,rfl,e5⟩:=r3.some'
   simp only [G.wt] at e4 e5
   simp [c1,e,PR.then]; omega
 rcases r2.none' with ⟨q,a,e',rfl,e4⟩ | ⟨k',e',rfl⟩
 · obtain ⟨c,rfl,e5⟩:=r3.some'
   simp only [G.wt] at e5
   simp [c1,e,e',PR.then]; omega
 rcases r3.none' with ⟨q,a,e'',rfl,e5⟩ | ⟨k'',e'',rfl⟩
 · simp [c1,e,e',e'',PR.then]; omega
 · simp [c1,e,e',e'',PR.then]
section
variable {P:Program} {R:RF} {z:Bool} {L:List Tk}
theorem RHas.atom' (hR:RHas P R) (hx:HasT P [11] R.atom (irR7Atom R.is R.expr R.want R.ended R.word R.lambda R.tn R.tt)) (hE:EndsL L) (hL:L.length≤1048576) (n:Nat) (hn:n≤1099511627776) (hS:∀ m,m < n+1→UR P R.tr z L m .expr R.expr) (hPa:UR P R.tr z L n .params R.params) (hTy:UR P R.tr z L n .typed R.typed) (hBl:UR P R.tr z L n .block R.block):UR P R.tr z L (n+1) .atom R.atom:=by
 refine UR_of fun H i s hi hpp => ?_
 obtain ⟨fn,hf,hcf⟩:=hx
 refine acall_norm (acall_fin hf hcf (by simp [irR7Atom]) fun hcl _ => ?_)
 have hp0:=hpp.1.1
 simp only [G.c] at hp0
 obtain ⟨p,st⟩:=s
 have hget:∀ st X,(H.set i (rst R.tr z L st)++X)[i]?=some (rst R.tr z L st):=fun st X=>upG hi
 have hcc:∀ st' X,Hp.cut H.length (H.set i (rst R.tr z L st')++X)=H.set i (rst R.tr z L st'):=fun st' X=>rcut hcl
 simp only at hp0
 have hw:IntKind.i64.wrap ((p:Int)+1)=((p+1:Nat):Int):=by rw [wrap_i64 (by omega) (by omega)]; omega
 cases st with
 | some q =>
   have hq':(0:Int)≤q:=by omega
   have hg1:=hget (some q)
   have hc1:=hcc (some q)
   simp only [rst] at hg1 hc1
   simp [irR7Atom,rst,hg1,hq']
   simp [RetK,hc1,rst,nl]
   have hrel:=fin_nodeR (tr:=R.tr) (z:=z) (L:=L) (H:=H) (i:=i) (z':=true) (n:=n+1) (g := .atom) (s:=(p,some q)) (s':=(p,some q)) (k:=0) (f:=0) (t:=0) (a:=0) (w:=[]) [] (rows:=[]) rfl (by simp) (by simp [Rel])
   simpa [rst] using hrel
 | none =>
   have hp:p < L.length:=hpp.2 rfl
   obtain ⟨hp1,hp2⟩:=hpp.1.2.2 rfl
   simp only [G.c] at hp1 hp2
   have hg1:=hget none
   have hc1:=hcc none
   simp only [rst] at hg1 hc1
   have gi:=fun x X=>hR.isA (z:=z) (st:=none) (X:=X) hi hp x
   simp only [rst] at gi
   have hA:=get_app (set_get hi (rst R.tr z L none))
   simp only [rst] at hA
   have hr:=rowAt_map encTk hp
   have hg:L[p]?=some L[p]:=List.getElem?_eq_getElem hp
   have hkd:kdT L p=L[p].k:=by unfold kdT; rw [hg]
   have htx:txT L p=L[p].x:=by unfold txT; rw [hg]
   generalize L[p]=tk at hr hkd htx
   obtain ⟨kk,ta,tl,y⟩:=tk
   simp only [encTk] at hr hkd htx
   by_cases k3:kk=3
   · subst k3
     simp [irR7Atom,rst,hg1,hr,hw]
     simp [RetK,hc1,rst,nl]
     have hrel:=fin_nodeR (tr:=R.tr) (z:=z) (L:=L) (H:=H) (i:=i) (z':=true) (n:=n+1) (g := .atom) (s:=(p,none)) (s':=(p+1,none)) (k:=21) (f:=p) (t:=((p+1:Nat):Int)) (a:=p) (w:=y) [] (rows:=[]) rfl (by simp) (by simp [Rel,pp,hkd,htx])
     simpa [rst] using hrel
   by_cases k4:kk=4
   · subst k4
     simp [irR7Atom,rst,hg1,hr,hw]
     simp [RetK,hc1,rst,nl]
     have hrel:=fin_nodeR (tr:=R.tr) (z:=z) (L:=L) (H:=H) (i:=i) (z':=true) (n:=n+1) (g := .atom) (s:=(p,none)) (s':=(p+1,none)) (k:=22) (f:=p) (t:=((p+1:Nat):Int)) (a:=p) (w:=y) [] (rows:=[]) rfl (by simp) (by simp [Rel,pp,hkd,htx])
     simpa [rst] using hrel
   by_cases k1:kk=1
   · subst k1
     simp [irR7Atom,rst,hg1,hr,hw]
     simp [RetK,hc1,rst,nl]
     have hrel:=fin_nodeR (tr:=R.tr) (z:=z) (L:=L) (H:=H) (i:=i) (z':=true) (n:=n+1) (g := .atom) (s:=(p,none)) (s':=(p+1,none)) (k:=23) (f:=p) (t:=((p+1:Nat):Int)) (a:=p) (w:=y) [] (rows:=[]) rfl (by simp) (by simp [Rel,pp,hkd,htx])
     simpa [rst] using hrel
   have hno:¬ kdT L p=3∧¬ kdT L p=4∧¬ kdT L p=1:=by rw [hkd]; exact ⟨k3,k4,k1⟩
   obtain ⟨n3,n4,n1⟩:=hno
   by_cases cI:isT L p kInput=true
   · simp [irR7Atom,rst,hg1,hr,hw,k1,k3,k4]
     refine CallK_of' (gi kInput _) ?_
     simp [cI,hw]
     simp [RetK,hc1,rst,nl]
     have hrel:=fin_nodeR (tr:=R.tr) (z:=z) (L:=L) (H:=H) (i:=i) (z':=true) (n:=n+1) (g := .atom) (s:=(p,none)) (s':=(p+1,none)) (k:=24) (f:=p) (t:=((p+1:Nat):Int)) (a:=0) (w:=[]) [] (rows:=[]) rfl (by simp) (by simp [Rel,pp,n3,n4,n1,cI])
     simpa [rst] using hrel
   have cI:isT L p kInput=false:=by simpa using cI
   by_cases cG:isT L p [40]=true
   · have l1:=isT_ltE hE cG
     have gE:=fun X=>hS n (by omega) H X i (p+1,none) hi ⟨⟨by simp only [G.c]; omega,by simp only [G.c]; omega,fun _=>⟨by simp only; omega,by simp only [G.c]; omega⟩⟩,fun _=>l1⟩
     simp only [rst] at gE
     simp [irR7Atom,rst,hg1,hr,hw,k1,k3,k4]
     refine CallK_of' (gi kInput _) ?_
     simp [cI]
     refine CallK_of' (gi [40] _) ?_
     simp [cG,hw]
     refine CallK_of (gE _) ?_
     rintro _ _ ⟨x,s1,rfl,rfl,r1⟩
     have hs1:=(r1.moE hE).lt (fun _=>l1)
     have b1:=r1.bnd (B:=L.length+n+3) (by simp only; omega) (by omega)
     obtain ⟨kx,fx,tx,wx,qx,zx,ksx,hfx,hex,hvx,hbx⟩:=node_ho R.tn x
     rw [hvx]
     have gw:=fun X=>hR.wantA (z:=z) (s:=s1) (X:=X) hi hs1 (by omega) [41]
     have hrel0:=relGroup hE (by omega) (by simp [pp,n3,n4,n1,cI,cG]) r1
     generalize wantS L [41] s1=s2 at gw hrel0
     simp
     refine CallK_of' (gw _) ?_
     simp
     have g5:=fun H0=>hR.ended.rended 25 p 0 [] 0 true [] (s2.1:Int) false [[.int .i64 kx,.int .i64 fx,.int .i64 tx,.str wx,.int .i64 qx,.sl zx 6 (ksx.map N.enc)]] H0
     simp only [ag] at g5
     refine CallK_of' (g5 _) ?_
     simp
     simp [RetK,hcc,nl]
     exact fin_nodeR (z':=false) [x] (by simp [hex]) (by simp) hrel0
   have cG:isT L p [40]=false:=by simpa using cG
   by_cases cR:isT L p [123]=true
   · have l1:=isT_ltE hE cR
     simp [irR7Atom,rst,hg1,hr,hw,k1,k3,k4]
     refine CallK_of' (gi kInput _) ?_
     simp [cI]
     refine CallK_of' (gi [40] _) ?_
     simp [cG]
     refine CallK_of' (gi [123] _) ?_
     simp [cR,hw]
     have hs0l:(((p+1,none):PSt)).2=none→((p+1,none):PSt).1 < L.length:=fun _=>l1
     have hs0c:((p+1,none):PSt).2=none→16 * (L.length - ((p+1,none):PSt).1)+9≤n:=fun _=>by simp only; omega
     obtain ⟨XX,hXX⟩:∃ XX:List N→Hp,XX=fun ks=>[.box R.tn [.d (.int .i64 0),.d (.int .i64 0),.d (.int .i64 0),.d (.str []),.d (.int .i64 0),.d (.sl true 6 [])],.box R.tn [.d (.int .i64 0),.d (.int .i64 (p:Int)),.d (.int .i64 ((p:Int)+1)),.d (.str y),.d (.int .i64 (p:Int)),.d (.sl true 6 [])],.box R.tt [.d (.int .i64 kk),.d (.int .i64 ta),.d (.str tl),.d (.str y)],.tok ks.length 6 R.tn]:=⟨_,rfl⟩
     have hXl:∀ a,(XX a).length=4:=fun a=>by rw [hXX]; rfl
     obtain ⟨E,hE0⟩:∃ E:Fr→Hp→Prop,E=fun fr H'=>∃ (ks:List N) (s':PSt) (X:Hp),(fr 0 = .ptr i 0∧fr 1 = .d (.int .i64 (p:Int))∧fr 4 = .ptr H.length 0∧fr 6 = .d (.int .i64 (s'.1:Int))∧fr 11 = .osl true 6 (ks.map N.enc) (H.length+3))∧(s'.2=none→s'.1 < L.length)∧s'.1≤1125899906842624∧ks.length * 72≤70368744177664∧Rel L n (.list .entry [125]) ((p+1,none):PSt) (N.bag ks) (wantS L [125] s')∧H'=H.set i (rst R.tr z L s'.2)++(XX ks++X):=⟨_,rfl⟩
     refine LoopK_outR 1 E (fun _ _=>False) ?_ (fun _ _ h=>h.elim) ?_
     rotate_left
     · intro fr H' h
       subst hE0
       obtain ⟨ks,s',X,⟨f0,f1,f4,f6,f11⟩,hlt,hb,hkb,hr,rfl⟩:=h
       have g2:=fun X=>hR.wantA (z:=z) (s:=s') (X:=X) hi hlt hb [125]
       generalize wantS L [125] s'=s2 at g2 hr
       simp [f0,f6]
       refine CallK_of' (g2 _) ?_
       have g5:=fun H0=>hR.ended.rendedT 26 (p:Int) 0 [] 0 true [] (s2.1:Int) true (ks.map N.enc) H0 (H.length+3)
       simp only [ag] at g5
       simp [f1,f11,hXl]
       refine CallK_of' (g5 _ (by simp [hXl]; omega)) ?_
       subst hXX
       simp [f4]
       simp [RetK,hcc,nl]
       exact fin_nodeR (z':=true) ks rfl (fun _=>rfl) (relIn (by simp [pp,n3,n4,n1,cI,cG,cR]) hr)
     have hE1:∀ fr (ks:List N) (s':PSt) (X:Hp),(fr 0 = .ptr i 0∧fr 1 = .d (.int .i64 (p:Int))∧fr 4 = .ptr H.length 0∧fr 6 = .d (.int .i64 (s'.1:Int))∧fr 11 = .osl true 6 (ks.map N.enc) (H.length+3))→(s'.2=none→s'.1 < L.length)→s'.1≤1125899906842624→ks.length * 72≤70368744177664→Rel L n (.list .entry [125]) ((p+1,none):PSt) (N.bag ks) (wantS L [125] s')→E fr (H.set i (rst R.tr z L s'.2)++(XX ks++X)):=fun fr ks s' X a b c d e=>by subst hE0; exact ⟨ks,s',X,a,b,c,d,e,rfl⟩
     clear hE0
     have hcut:∀ ks st' X,Hp.cut (H.length+4) (H.set i (rst R.tr z L st')++(XX ks++X))=H.set i (rst R.tr z L st')++XX ks:=fun ks st' X=>by
      rw [rcutk hcl,hXX]; rfl
     have hcut0:∀ ks st',Hp.cut (H.length+4) (H.set i (rst R.tr z L st')++XX ks)=H.set i (rst R.tr z L st')++XX ks:=fun ks st'=>by simpa using hcut ks st' []
     have hg0:∀ st X,(H.set i (rst R.tr z L st)++X)[i]?=some (rst R.tr z L st):=fun st X=>upG hi
     have hgT:∀ (ks:List N) X,(XX ks++X)[3]?=some (.tok (ks.length) 6 R.tn):=fun ks X=>by rw [hXX]; simp
     have hgT1:∀ (ks:List N) h,(XX ks)[3]'h = .tok (ks.length) 6 R.tn:=fun ks h=>by simp [hXX]
     have hgB:∀ (ks:List N) b X,(XX ks++b :: X)[4]?=some b:=fun ks b X=>by rw [hXX]; simp
     have hgC:∀ (ks:List N) b c X,(XX ks++b :: c :: X)[5]?=some c:=fun ks b c X=>by rw [hXX]; simp
     have hsT:∀ (ks:List N) (m:N) X,(XX ks++X).set 3 (.tok (ks.length+1) 6 R.tn)=XX (ks++[m])++X:=fun ks m X=>by rw [hXX]; simp
     have hil2:i < H.length+4:=by omega
     rw [show H.set i (.box R.tr [.d (.sl z 4 (L.map encTk)),.d (.int .i64 (-1))])++[.box R.tn [.d (.int .i64 0),.d (.int .i64 0),.d (.int .i64 0),.d (.str []),.d (.int .i64 0),.d (.sl true 6 [])],.box R.tn [.d (.int .i64 0),.d (.int .i64 (p:Int)),.d (.int .i64 ((p:Int)+1)),.d (.str y),.d (.int .i64 (p:Int)),.d (.sl true 6 [])],.box R.tt [.d (.int .i64 kk),.d (.int .i64 ta),.d (.str tl),.d (.str y)],.tok 0 6 R.tn]=H.set i (rst R.tr z L none)++XX [] by rw [hXX]; rfl]
     refine LoopM_of (H.length+4) (fun d fr H'=>∃ (ks:List N) (s':PSt),(fr 0 = .ptr i 0∧fr 1 = .d (.int .i64 (p:Int))∧fr 4 = .ptr H.length 0∧fr 6 = .d (.int .i64 (s'.1:Int))∧fr 11 = .osl true 6 (ks.map N.enc) (H.length+3))∧H'=H.set i (rst R.tr z L s'.2)++XX ks ∧
      ((d=0∧s'.2 ≠ none∧s'.1≤1125899906842624∧ks.length * 72≤70368744177664∧∀ m,Rel L n (.list .entry [125]) ((p+1,none):PSt) m s')∨∃ p1,s'=(p1,none)∧((p+1,none):PSt).2=none∧d≤n∧pp L n (.list .entry [125]) ((p+1,none):PSt).1=pp L d (LG .entry [125] ks) p1∧p1 < L.length∧16 * (L.length - p1)+9≤d∧ks.length≤p1)) (match ((p+1,none):PSt).2 with | none=>n | some _=>0) (by simp [hXl]) ⟨[],((p+1,none):PSt),?_⟩ ?_
     · refine ⟨by simp [hil2,id],hcut0 _ _,?_⟩
       cases h0:((p+1,none):PSt).2 with
       | some q=>first | exact absurd h0 (by simp; done) | exact .inl ⟨rfl,by simp [h0],by omega,by simp,fun m=>by simp [Rel,h0,G.wt]⟩
       | none=>exact .inr ⟨((p+1,none):PSt).1,by rw [← h0],rfl,Nat.le_refl _,by simp [LG],hs0l h0,by have:=hs0c h0; omega,by simp⟩
     · rintro d fr H' ⟨ks,s',⟨f0,f1,f4,f6,f11⟩,rfl,hd⟩
       rcases hd with ⟨rfl,q1,qb,qk,q2⟩ | ⟨p1,rfl,hs2,hdn,hpe,hp1',hrk,hks⟩
       · obtain ⟨p',st'⟩:=s'
         cases st' with
         | none=>simp at q1
         | some q =>
           have hg1:=hg0 (some q)
           have hq:¬ (q:Int) < 0:=by omega
           have hE2:=fun fr h=>hE1 fr ks (p',some q) [] h (fun e=>by cases e) qb qk (q2 _)
           simp only [rst,List.append_nil] at hg1 hE2
           simp [f0,f6,rst,hg1,hq]
           exact hE2 _ (by simp [f0,f1,f4,f6,f11,hXl])
       · have hRel:∀ m s',(match pp L d (LG .entry [125] ks) p1 with | .out=>False | .bad q=>s'.2=some q∧s'.1≤L.length+n | .ok m' k=>m=m'∧s'=(k,none))→Rel L n (.list .entry [125]) ((p+1,none):PSt) m s':=fun m s' h=>by
          unfold Rel
          rw [hs2]
          simp only
          rw [hpe]; exact h
         have hg1:=hg0 none
         have gi:=fun X=>hR.isA (z:=z) (st:=none) (X:=X) hi hp1' [125]
         by_cases hend:ks=[]∧isT L p1 [125]=true
         · obtain ⟨rfl,hjb⟩:=hend
           obtain ⟨d',rfl⟩:∃ d',d=d'+1:=⟨d - 1,by omega⟩
           have hE2:=fun fr h=>hE1 fr [] (p1,none) [] h (fun _=>hp1') (by simp only; omega) (by simp) (hRel _ _ (by simp [LG,pp,hjb,N.bag,N.new]))
           rw [hjb] at gi
           simp only [rst,List.append_nil] at hg1 gi hE2
           simp [f0,f6,f11,rst,hg1]
           refine CallK_of' (gi _) ?_
           simp
           exact hE2 _ (by simp [f0,f1,f4,f6,f11,hXl])
         · have hje:ks=[]→isT L p1 [125]=false:=fun e=>by
            cases h:isT L p1 [125] with
            | false=>rfl
            | true=>exact absurd ⟨e,h⟩ hend
           obtain ⟨M,hM⟩:∃ M:Fr→Hp→Prop,M=fun fr H'=>(fr 0 = .ptr i 0∧fr 1 = .d (.int .i64 (p:Int))∧fr 4 = .ptr H.length 0∧fr 6 = .d (.int .i64 (((p1,none):PSt).1:Int))∧fr 11 = .osl true 6 (ks.map N.enc) (H.length+3))∧H'=H.set i (rst R.tr z L none)++XX ks:=⟨_,rfl⟩
           have hM1:∀ fr,(fr 0 = .ptr i 0∧fr 1 = .d (.int .i64 (p:Int))∧fr 4 = .ptr H.length 0∧fr 6 = .d (.int .i64 (((p1,none):PSt).1:Int))∧fr 11 = .osl true 6 (ks.map N.enc) (H.length+3))→M fr (H.set i (rst R.tr z L none)++XX ks):=fun fr h=>by subst hM; exact ⟨h,rfl⟩
           refine Seq_mid M ?_ ?_
           · clear hM
             simp only [rst] at hg1 gi hM1
             rcases List.eq_nil_or_concat ks with hk0 | ⟨kk,kx,hk0⟩
             · rw [hje hk0] at gi
               simp [f0,f6,f11,rst,hg1,hk0]
               refine CallK_of' (gi _) ?_
               rw [← hk0]
               simp [f0,f6]
               exact hM1 _ (by simp [f0,f1,f4,f6,f11,hXl])
             · have hkn:¬ ks=[]:=fun e=>by rw [e] at hk0; simp at hk0
               simp [f0,f6,f11,rst,hg1,hkn]
               exact hM1 _ (by simp [f0,f1,f4,f6,f11,hXl])
           · intro fr H' h
             subst hM
             obtain ⟨⟨f0,f1,f4,f6,f11⟩,rfl⟩:=h
             have hstep:=LG_step (L:=L) (d:=d) (one := .entry) (e:=[125]) (ks:=ks) (p:=p1) (by omega) hje
             obtain ⟨m,hm1,hm2,hpp2⟩:=hstep
             obtain ⟨m',rfl⟩:∃ m',m=m'+1:=⟨m - 1,by omega⟩
             have gw:=fun X=>hR.wordA (z:=z) (s:=(p1,none)) (X:=X) hi (fun _=>hp1') (by simp only; omega) 27 p1 0 [] 0 true []
             have hrp:=fun t s3=>relEntry (L:=L) hE (n:=m') (p:=p1) (t:=t) (s3:=s3) (by omega) hp1'
             generalize h2:wordS L (p1,none)=s2 at gw hrp
             have b2:=wordS_le h2
             have m2:=wordS_moE hE h2
             have hlt2:=m2.lt (fun _=>hp1')
             simp only at gw b2
             have gv:=fun X=>hR.wantA (z:=z) (s:=s2) (X:=X) hi hlt2 (by omega) [58]
             generalize h2v:wantS L [58] s2=s2v at gv hrp
             have b2:=Nat.le_trans (wantS_le h2v) (Nat.succ_le_succ b2)
             have m2:=m2.trans (wantS_moE hE h2v)
             have hlt2:=m2.lt (fun _=>hp1')
             simp only [rst] at gv
             have gt:=fun X=>hS m' (by omega) H X i s2v hi ⟨⟨by simp only [G.c]; omega,by simp only [G.c]; omega,fun e=>by
              obtain ⟨a1,a2,a3⟩:=m2 e
              have:=hlt2 e
              simp only at a2
              simp only [G.c]
              exact ⟨by omega,by omega⟩⟩,hlt2⟩
             generalize (if wordOkB L (p1,none)=true then txT L p1 else [])=W at gw hrp
             generalize (if wordOkB L (p1,none)=true then (p1:Int) else 0)=Q at gw hrp
             simp only [rst,ag] at hg1 gw gt
             simp [f0,f6,rst]
             refine CallK_of' (gw _) ?_
             simp [f0]
             refine CallK_of' (gv _) ?_
             simp [f0]
             refine CallK_of (gt _) ?_
             rintro _ _ ⟨t,s3,rfl,rfl,r3⟩
             obtain ⟨kt,ft,tt',wt',qt,zt,kst,hft,het,hvt,hbt⟩:=node_ho R.tn t
             rw [hvt]
             obtain ⟨bo,hbo⟩:∃ bo:Ob,bo = .box R.tn [.d (.int .i64 27),.d (.int .i64 (p1:Int)),.d (.int .i64 0),.d (.str W),.d (.int .i64 Q),.d (.sl true 6 [])]:=⟨_,rfl⟩
             obtain ⟨co,hco⟩:∃ co:Ob,co = .box R.tn [.d (.int .i64 kt),.d (.int .i64 ft),.d (.int .i64 tt'),.d (.str wt'),.d (.int .i64 qt),.d (.sl zt 6 (kst.map N.enc))]:=⟨_,rfl⟩
             have hB:=fun X=>hgB ks bo X
             have hC:=fun X=>hgC ks bo co X
             rw [hbo] at hB
             rw [hbo,hco] at hC
             have hT:=hgT ks
             have hT1:=hgT1 ks
             have g5:=fun H0=>hR.ended.rended 27 p1 0 W Q true [] (s3.1:Int) false [t.enc] H0
             rw [het] at g5
             simp only [ag] at g5
             simp [f0,f11,hXl,hB,hC]
             refine CallK_of' (g5 _) ?_
             have hs3b:s3.1≤L.length+(m'+1):=by have:=r3.bnd (B:=L.length+(m'+1)) (by omega) (by omega); omega
             obtain ⟨x,hx⟩:∃ x:N,x=N.new 27 p1 s3.1 W Q [t]:=⟨_,rfl⟩
             have hrx:Rel L (m'+1) .entry (p1,none) x s3:=by rw [hx]; exact hrp t s3 r3 hs3b
             have hs1:=hsT ks x
             have hbd:(ks.length+1) * 72≤140737488355328:=by omega
             have hmap:ks.map N.enc++[[.int .i64 27,.int .i64 (p1:Int),.int .i64 (s3.1:Int),.str W,.int .i64 Q,.sl false 6 [[.int .i64 kt,.int .i64 ft,.int .i64 tt',.str wt',.int .i64 qt,.sl zt 6 (kst.map N.enc)]]]]=(ks++[x]).map N.enc:=by
              rw [List.map_append,hx]
              simp [N.new,N.enc_mk,het]
             clear hrp hx r3 g5 gt gw
             simp [f0,f11,hXl,hT,hT1,appA,slOf,hbd,hs1,hmap]
             obtain ⟨p3,st3⟩:=s3
             simp only at hs3b
             cases st3 with
             | some q =>
               have hg2:=hg0 (some q)
               have hq':(0:Int)≤q:=by omega
               have hbad:pp L (m'+1) .entry p1 = .bad q:=by
                rcases hrx.none' with ⟨q',a,e,e2,e3⟩ | ⟨k,e,e2⟩
                · simp only [Prod.mk.injEq,Option.some.injEq] at e2
                  rw [e,e2.2]
                · simp at e2
               have hE2:=fun fr X h=>hE1 fr (ks++[x]) (p3,some q) X h (fun e=>by cases e) (by simp only; omega) (by simp; omega) (hRel _ _ (by rw [hpp2,hbad]; simp [PR.then]; omega))
               simp only [rst] at hg2 hE2
               simp [f0,rst,hg2,hq']
               exact hE2 _ _ (by simp [f0,f1,f4,hXl])
             | none =>
               have hok:pp L (m'+1) .entry p1 = .ok x p3:=by
                rcases hrx.none' with ⟨q',a,e,e2,e3⟩ | ⟨k,e,e2⟩
                · simp at e2
                · simp only [Prod.mk.injEq] at e2
                  rw [e,e2.1]
               have hadv:=pp_advE hE (m'+1) .entry p1
               rw [hok] at hadv
               obtain ⟨v1,v2,v3⟩:=hadv
               have v2:=v2 rfl
               have v3:=v3 v2
               have gi3:=fun X=>hR.isA (z:=z) (st:=none) (X:=X) hi v3 [125]
               have gw3:=fun X=>hR.wantA (z:=z) (s:=(p3,none)) (X:=X) hi (fun _=>v3) (by simp only; omega) [44]
               have hg2:=hg0 none
               cases hc:isT L p3 [125] with
               | true =>
                 have hE2:=fun fr X h=>hE1 fr (ks++[x]) (p3,none) X h (fun _=>v3) (by simp only; omega) (by simp; omega) (hRel _ _ (by rw [hpp2,hok]; simp [PR.then,hc,N.bag,N.new]))
                 rw [hc] at gi3
                 simp only [rst] at hg2 gi3 hE2
                 simp [f0,rst,hg2]
                 refine CallK_of' (gi3 _) ?_
                 simp
                 exact hE2 _ _ (by simp [f0,f1,f4,hXl])
               | false =>
                 rw [hc] at gi3
                 have hstp:=hpp2
                 rw [hok] at hstp
                 simp only [PR.then,hc,wantR] at hstp
                 by_cases hcm:isT L p3 [44]=true
                 · have hl4:=isT_ltE hE hcm
                   simp only [wantS_none,hcm,if_true] at gw3
                   simp only [rst] at hg2 gi3 gw3
                   simp [f0,rst,hg2]
                   refine CallK_of' (gi3 _) ?_
                   simp [f0]
                   refine CallK_of' (gw3 _) ?_
                   simp
                   refine NextM_of (H.length+4) (m'+1) (Nat.le_refl _) (by simp [hXl]) (by omega) ⟨ks++[x],(p3+1,none),by simp [f0,f1,f4,hil2],by simpa [rst] using hcut (ks++[x]) none _,.inr ⟨p3+1,rfl,hs2,by omega,?_,hl4,by omega,by simp; omega⟩⟩
                   rw [hpe,hstp,hcm,LG_snoc]
                   simp
                 · have hcm':isT L p3 [44]=false:=by simpa using hcm
                   simp only [wantS_none,hcm',Bool.false_eq_true,if_false] at gw3
                   simp only [rst] at hg2 gi3 gw3
                   simp [f0,rst,hg2]
                   refine CallK_of' (gi3 _) ?_
                   simp [f0]
                   refine CallK_of' (gw3 _) ?_
                   simp
                   refine NextM_of (H.length+4) 0 (Nat.le_refl _) (by simp [hXl]) (by omega) ⟨ks++[x],(p3,some p3),by simp [f0,f1,f4,hil2],by simpa [rst] using hcut (ks++[x]) (some p3) _,.inl ⟨rfl,by simp,by simp only; omega,by simp; omega,fun mm=>hRel _ _ ?_⟩⟩
                   rw [hstp,hcm']
                   simp [PR.then]
                   omega
   have cR:isT L p [123]=false:=by simpa using cR
   have g1:=fun X=>hR.wantA (z:=z) (s:=(p,none)) (X:=X) hi (fun _=>hp) (by simp only; omega) kFn
   have m1:=wantS_moE hE (rfl:wantS L kFn (p,none)=_)
   have b1:=wantS_le (rfl:wantS L kFn (p,none)=_)
   have hrel0:=fun t1 t2 t3 s2=>relLam hE (n:=n) (p:=p) (t1:=t1) (t2:=t2) (t3:=t3) (s2:=s2) hp (by omega) (by simp [pp,n3,n4,n1,cI,cG,cR]) rfl
   have q1:(wantS L kFn (p,none)).2=none→(wantS L kFn (p,none)).1=p+1:=by rw [wantS_none]; split<;>simp
   generalize wantS L kFn (p,none)=s1 at g1 m1 b1 hrel0 q1
   have hl1:=m1.lt (fun _=>hp)
   simp only [rst] at g1
   simp [irR7Atom,rst,hg1,hr,hw,k1,k3,k4]
   refine CallK_of' (gi kInput _) ?_
   simp [cI]
   refine CallK_of' (gi [40] _) ?_
   simp [cG]
   refine CallK_of' (gi [123] _) ?_
   simp [cR]
   refine CallK_of' (g1 _) ?_
   simp
   have gl:=fun X=>hR.lambda' (z:=z) (X:=X) (s:=s1) hE hL n hn hPa hTy hBl hi (by simp only at b1; omega) (by omega) (fun e=>by
    obtain ⟨a1,a2,a3⟩:=m1 e
    have:=hl1 e
    have:=q1 e
    exact ⟨by omega,by omega⟩)
   simp only [rst] at gl
   refine CallK_of (gl _) ?_
   rintro _ _ ⟨t1,t2,t3,s2,rfl,rfl,r2⟩
   have hrel0:=hrel0 t1 t2 t3 s2 r2
   have g5:=fun H0=>hR.ended.rended 28 p 0 [] 0 true [] (s2.1:Int) false [t1.enc,t2.enc,t3.enc] H0
   simp only [ag] at g5
   have hc2:=fun X=>hcc s2.2 X
   simp only [rst] at hc2
   simp
   refine CallK_of' (g5 _) ?_
   simp
   simp [RetK,hc2,nl]
   have hrel:=fin_nodeR (tr:=R.tr) (z:=z) (H:=H) (i:=i) (z':=false) [t1,t2,t3] (rows:=[t1.enc,t2.enc,t3.enc]) (by simp) (by simp) hrel0
   simpa [rst] using hrel
end
end
section
section
variable {P:Program} {R:RF} {z:Bool} {L:List Tk}
theorem RHas.post' (hR:RHas P R) (hx:HasT P [10,56] R.post (irR7Post R.atom R.is R.word R.ended R.expr R.want R.tn)) (hE:EndsL L) (hL:L.length≤1048576) (n:Nat) (hn:n≤1099511627776) (hA0:UR P R.tr z L n .atom R.atom) (hS:∀ m,m < n+1→UR P R.tr z L m .expr R.expr):UR P R.tr z L (n+1) .post R.post:=by
 refine UR_of fun H i s hi hpp => ?_
 obtain ⟨fn,hf,hcf⟩:=hx
 refine acall_fin hf hcf (by simp [irR7Post]) fun hcl _ => ?_
 have hp1:=hpp.1.1
 simp only [G.c] at hp1
 simp [irR7Post]
 refine CallK_of (hA0 H _ i s hi ((MoE.refl s).pre hpp (by decide) (by simp only [G.c]; omega))) ?_
 rintro _ _ ⟨a0,s1,rfl,rfl,r1⟩
 have b1:=r1.le
 have m1:=r1.moE hE
 obtain ⟨OX,hOX⟩:∃ OX:N→Hp,OX=fun a=>[zbx R.tn,abx R.tn a]:=⟨_,rfl⟩
 have hOl:∀ a,(OX a).length=2:=fun a=>by rw [hOX]; rfl
 obtain ⟨E,hE0⟩:∃ E:Fr→Hp→Prop,E=fun fr H'=>∃ a s',(fr 0 = .ptr i 0∧fr 4 = .ptr H.length 0∧fr 6 = .ptr (H.length+1) 0∧fr 7 = .d (.int .i64 (s'.1:Int)))∧Rel L (n+1) .post s a s'∧∃ Y,H'=H.set i (rst R.tr z L s'.2)++(OX a++Y):=⟨_,rfl⟩
 have hE1:∀ fr a s',(fr 0 = .ptr i 0∧fr 4 = .ptr H.length 0∧fr 6 = .ptr (H.length+1) 0∧fr 7 = .d (.int .i64 (s'.1:Int)))→Rel L (n+1) .post s a s'→E fr (H.set i (rst R.tr z L s'.2)++OX a):=fun fr a s' h h'=>by subst hE0; exact ⟨a,s',h,h',[],by simp⟩
 obtain ⟨k,f,t,w,q,za,ks,hf0,he,hv,hb⟩:=node_ho R.tn a0
 rw [hv]
 simp
 rw [show H.set i (rst R.tr z L s1.2)++[Ob.box R.tn [.d (.int .i64 0),.d (.int .i64 0),.d (.int .i64 0),.d (.str []),.d (.int .i64 0),.d (.sl true 6 [])],.box R.tn [.d (.int .i64 k),.d (.int .i64 f),.d (.int .i64 t),.d (.str w),.d (.int .i64 q),.d (.sl za 6 (ks.map N.enc))]]=H.set i (rst R.tr z L s1.2)++OX a0 by rw [hOX,← hb]; rfl]
 refine LoopK_outR 0 E (fun _ _=>False) ?_ (fun _ _ h=>h.elim) ?_
 rotate_left
 · intro fr H' h
   subst hE0
   obtain ⟨a,s',⟨f0,f4,f6,f7⟩,hr,Y,rfl⟩:=h
   obtain ⟨k,f,t,w,q,za,ks,-,-,hv,hb⟩:=node_ho R.tn a
   subst hOX
   simp [f0,f4,f6,f7,hb,zbx]
   simp [RetK,rcut hcl]
   exact ⟨a,s',by rw [hv],by simp,hr⟩
 clear hE0
 have hcutO:∀ a st' X,Hp.cut (H.length+2) (H.set i (rst R.tr z L st')++(OX a++X))=H.set i (rst R.tr z L st')++OX a:=fun a st' X=>by
  rw [rcutk hcl,hOX]
  change H.set i (rst R.tr z L st')++[(zbx R.tn).clr _,(abx R.tn a).clr _]=_
  rw [abx_clr]; rfl
 have hcutO0:∀ a st',Hp.cut (H.length+2) (H.set i (rst R.tr z L st')++OX a)=H.set i (rst R.tr z L st')++OX a:=fun a st'=>by simpa using hcutO a st' []
 have hgO:∀ st X,(H.set i (rst R.tr z L st)++X)[i]?=some (rst R.tr z L st):=fun st X=>upG hi
 have hset:∀ a a' X,(OX a++X).set 1 (abx R.tn a')=OX a'++X:=fun a a' X=>by rw [hOX]; simp
 have hgA:∀ a X,(OX a++X)[1]?=some (abx R.tn a):=fun a X=>by rw [hOX]; simp
 have hgB:∀ a b X,(OX a++b :: X)[2]?=some b:=fun a b X=>by rw [hOX]; simp
 refine LoopM_of (H.length+2) (fun d fr H'=>∃ a s',(fr 0 = .ptr i 0∧fr 4 = .ptr H.length 0∧fr 6 = .ptr (H.length+1) 0∧fr 7 = .d (.int .i64 (s'.1:Int)))∧H'=H.set i (rst R.tr z L s'.2)++OX a ∧
  ((d=0∧s'.2 ≠ none∧∀ m,Rel L (n+1) .post s m s')∨∃ o1,s'=(o1,none)∧s.2=none∧d≤n∧pp L (n+1) .post s.1=pp L d (.postL a) o1∧o1 < L.length∧16 * (L.length - o1)+1≤d)) (match s1.2 with | none=>n | some _=>0) (by simp [hOl]) ⟨a0,s1,?_⟩ ?_
 · have hil2:i < H.length+2:=by omega
   refine ⟨by simp [hil2],hcutO0 _ _,?_⟩
   obtain ⟨p,st⟩:=s
   cases st with
   | some q =>
     obtain ⟨b,rfl,e⟩:=r1.some'
     simp only [G.wt] at e
     exact .inl ⟨rfl,by simp,fun m=>by simp [Rel,G.wt]; omega⟩
   | none =>
     obtain ⟨hp2,hp3⟩:=hpp.1.2.2 rfl
     simp only [G.c] at hp2 hp3
     have hpl:=hpp.2 rfl
     rcases r1.none' with ⟨q',b,hq,rfl,e3⟩ | ⟨j,hj,rfl⟩
     · exact .inl ⟨rfl,by simp,fun m=>by simp [Rel,pp,hq,PR.then]; omega⟩
     · have:=pp_advE hE n .atom p
       rw [hj] at this
       obtain ⟨v1,v2,v3⟩:=this
       have v2:=v2 rfl
       have v3:=v3 v2
       exact .inr ⟨j,rfl,rfl,by simp,by simp [pp,hj,PR.then],v3,by (try simp only at hp3 ⊢); omega⟩
 · rintro d fr H' ⟨a,s',⟨f0,f4,f6,f7⟩,rfl,hd⟩
   have hil2O:i < H.length+2:=by omega
   rcases hd with ⟨rfl,q1,q2⟩ | ⟨o1,rfl,hsn,hdn,hpeO,ho1,hrk⟩
   · obtain ⟨p',st'⟩:=s'
     cases st' with
     | none=>simp at q1
     | some q =>
       have hg1:=hgO (some q)
       have hq:¬ (q:Int) < 0:=by omega
       have hE2:=fun fr h=>hE1 fr a (p',some q) h (q2 _)
       simp only [rst] at hg1 hE2
       simp [f0,f7,rst,hg1,hq]
       exact hE2 _ (by simp [f0,f4,f6,f7])
   · obtain ⟨d',rfl⟩:∃ d',d=d'+1:=⟨d - 1,by omega⟩
     have hRelO:∀ m s',(match pp L (d'+1) (.postL a) o1 with | .out=>False | .bad q=>s'.2=some q∧s'.1≤L.length+(n+1) | .ok m' k=>m=m'∧s'=(k,none))→Rel L (n+1) .post s m s':=fun m s' h=>by
      unfold Rel
      rw [hsn]
      simp only
      rw [hpeO]; exact h
     have hg1:=hgO none
     have gi:=fun X=>hR.isA (z:=z) (st:=none) (X:=X) hi ho1 [46]
     have gi2:=fun X=>hR.isA (z:=z) (st:=none) (X:=X) hi ho1 [40]
     have hw:IntKind.i64.wrap ((o1:Int)+1)=((o1+1:Nat):Int):=by rw [wrap_i64 (by omega) (by omega)]; omega
     simp only [rst] at hg1 gi gi2
     obtain ⟨k,f,t,w,q,za,kse,hf,he,hv,hb⟩:=node_ho R.tn a
     have hA:=hgA a
     rw [hb] at hA
     have hA1:∀ h,(OX a)[1]'h = .box R.tn [.d (.int .i64 k),.d (.int .i64 f),.d (.int .i64 t),.d (.str w),.d (.int .i64 q),.d (.sl za 6 (kse.map N.enc))]:=fun h=>by rw [← hb]; simp [hOX]
     cases hjb:isT L o1 [46] with
     | true =>
       have l1:=isT_ltE hE hjb
       rw [hjb] at gi
       have gW:=fun X=>hR.wordA (z:=z) (s:=(o1+1,none)) (X:=X) hi (fun _=>l1) (by simp only; omega) 19 f 0 [] 0 true []
       simp only [rst,ag] at gW
       have b2:=wordS_le (rfl:wordS L (o1+1,none)=_)
       have hsw:(∃ q',wordS L (o1+1,none)=(o1+1,some q')∧pp L (d'+1) (.postL a) o1 = .bad q')∨(wordS L (o1+1,none)=(o1+1+1,none)∧o1+1+1 < L.length∧pp L (d'+1) (.postL a) o1=pp L d' (.postL (N.new 19 a.f ((o1+1+1:Nat):Int) (if wordOkB L (o1+1,none) then txT L (o1+1) else []) (if wordOkB L (o1+1,none) then ((o1+1:Nat):Int) else 0) [a])) (o1+1+1)):=by
        by_cases c:kdT L (o1+1)=1
        · exact .inr ⟨by simp [c],kdT_ltE hE (by omega),by simp [pp,hjb,wordR,c]⟩
        · exact .inl ⟨o1+1,by simp [c],by simp [pp,hjb,wordR,c]⟩
       generalize wordS L (o1+1,none)=s2 at gW b2 hsw
       generalize (if wordOkB L (o1+1,none)=true then txT L (o1+1) else [])=W at gW hsw
       generalize (if wordOkB L (o1+1,none)=true then ((o1+1:Nat):Int) else 0)=Q at gW hsw
       simp only at b2
       have g5:=hR.ended.rended 19 f 0 W Q true [] (s2.1:Int) false [[.int .i64 k,.int .i64 f,.int .i64 t,.str w,.int .i64 q,.sl za 6 (kse.map N.enc)]]
       simp only [ag] at g5
       obtain ⟨bo,hbo⟩:∃ bo:Ob,bo = .box R.tn [.d (.int .i64 19),.d (.int .i64 f),.d (.int .i64 0),.d (.str W),.d (.int .i64 Q),.d (.sl true 6 [])]:=⟨_,rfl⟩
       have hB:=fun X=>hgB a bo X
       rw [hbo] at hB
       simp [f0,f7,rst,hg1]
       refine CallK_of' (gi _) ?_
       simp [f0,f7]
       refine CallK_of' (gi _) ?_
       simp [f0,f6,f7,hw,hA,hA1,hOl]
       refine CallK_of' (gW _) ?_
       simp [f6,hA,hA1,hOl,hB]
       refine CallK_of' (g5 _) ?_
       have hnew:abx R.tn (N.new 19 a.f s2.1 W Q [a]) = .box R.tn [.d (.int .i64 19),.d (.int .i64 f),.d (.int .i64 s2.1),.d (.str W),.d (.int .i64 Q),.d (.sl false 6 [[.int .i64 k,.int .i64 f,.int .i64 t,.str w,.int .i64 q,.sl za 6 (kse.map N.enc)]])]:=by
        rw [abx,N.new,N.enc_mk]
        simp [he,hf]
       have hs1:=fun Y=>hset a (N.new 19 a.f s2.1 W Q [a]) Y
       rw [hnew] at hs1
       simp [f6,hOl,hA,hA1,hs1]
       rcases hsw with ⟨q',rfl,hq⟩ | ⟨rfl,l2,hq⟩
       · refine NextM_of (H.length+2) 0 (Nat.le_refl _) (by simp [hOl]) (by omega) ⟨_,(o1+1,some q'),by simp [f0,f4,f6,hil2O],by simpa [rst] using hcutO (N.new 19 a.f ((o1+1:Nat):Int) W Q [a]) (some q') _,.inl ⟨rfl,by simp,fun m=>hRelO _ _ ?_⟩⟩
         rw [hq]; simp; omega
       · refine NextM_of (H.length+2) d' (Nat.le_refl _) (by simp [hOl]) (by omega) ⟨_,(o1+1+1,none),by simp [f0,f4,f6,hil2O],by simpa [rst] using hcutO (N.new 19 a.f ((o1+1+1:Nat):Int) W Q [a]) none _,.inr ⟨o1+1+1,rfl,hsn,by omega,?_,l2,by omega⟩⟩
         rw [hpeO,hq]; simp
     | false =>
       rw [hjb] at gi
       cases hjc:isT L o1 [40] with
       | false =>
         rw [hjc] at gi2
         have hE2:=fun fr h=>hE1 fr a (o1,none) h (hRelO _ _ (by simp [pp,hjb,hjc]))
         simp only [rst] at hE2
         simp [f0,f7,rst,hg1]
         refine CallK_of' (gi _) ?_
         simp [f0,f7]
         refine CallK_of' (gi2 _) ?_
         simp
         exact hE2 _ (by simp [f0,f4,f6,f7])
       | true =>
         rw [hjc] at gi2
         have l1:=isT_ltE hE hjc
         simp [f0,f7,rst,hg1]
         refine CallK_of' (gi _) ?_
         simp [f0,f7]
         refine CallK_of' (gi2 _) ?_
         simp [f0,f7]
         refine CallK_of' (gi _) ?_
         simp [f6,f7,hw,hA,hA1,hOl]
         have hs0l:(((o1+1,none):PSt)).2=none→((o1+1,none):PSt).1 < L.length:=fun _=>l1
         have hs0c:((o1+1,none):PSt).2=none→16 * (L.length - ((o1+1,none):PSt).1)+9≤d':=fun _=>by simp only; omega
         obtain ⟨XX,hXX⟩:∃ XX:List N→Hp,XX=fun ks=>[zbx R.tn,.box R.tn [.d (.int .i64 k),.d (.int .i64 f),.d (.int .i64 t),.d (.str w),.d (.int .i64 q),.d (.sl za 6 (kse.map N.enc))],.tok (ks.length+1) 6 R.tn]:=⟨_,rfl⟩
         have hXl:∀ a,(XX a).length=3:=fun a=>by rw [hXX]; rfl
         obtain ⟨E,hE0⟩:∃ E:Fr→Hp→Prop,E=fun fr H'=>∃ (ks:List N) (s':PSt) (X:Hp),(fr 0 = .ptr i 0∧fr 4 = .ptr H.length 0∧fr 6 = .ptr (H.length+1) 0∧fr 7 = .d (.int .i64 (s'.1:Int))∧fr 10 = .osl false 6 ([.int .i64 k,.int .i64 f,.int .i64 t,.str w,.int .i64 q,.sl za 6 (kse.map N.enc)] :: ks.map N.enc) (H.length+2))∧(s'.2=none→s'.1 < L.length)∧s'.1≤1125899906842624∧ks.length * 72≤70368744177664∧Rel L d' (.list .expr [41]) ((o1+1,none):PSt) (N.bag ks) (wantS L [41] s')∧H'=H.set i (rst R.tr z L s'.2)++(XX ks++X):=⟨_,rfl⟩
         refine LoopK_outR 2 E (fun _ _=>False) ?_ (fun _ _ h=>h.elim) ?_
         rotate_left
         · intro fr H' h
           subst hE0
           obtain ⟨ks,s',X,⟨f0,f4,f6,f7,f10⟩,hlt,hb,hkb,hr,rfl⟩:=h
           have b2:=hr.bnd (B:=L.length+d'+3) (by simp only; omega) (by omega)
           have g2:=fun X=>hR.wantA (z:=z) (s:=s') (X:=X) hi hlt hb [41]
           generalize wantS L [41] s'=s2 at g2 hr b2
           have g5:=fun H0=>hR.ended.rendedT 20 f 0 [] 0 true [] (s2.1:Int) false ([.int .i64 k,.int .i64 f,.int .i64 t,.str w,.int .i64 q,.sl za 6 (kse.map N.enc)] :: ks.map N.enc) H0 (H.length+2)
           simp only [ag] at g5
           subst hXX
           simp [f0,f7]
           refine CallK_of' (g2 _) ?_
           simp [f6,f10]
           refine CallK_of' (g5 _ (by simp)) ?_
           simp [f6]
           have hfin:Hp.cut (H.length+2) (H.set i (rst R.tr z L s2.2)++zbx R.tn :: .box R.tn [.d (.int .i64 20),.d (.int .i64 f),.d (.int .i64 s2.1),.d (.str []),.d (.int .i64 0),.osl false 6 ([.int .i64 k,.int .i64 f,.int .i64 t,.str w,.int .i64 q,.sl za 6 (kse.map N.enc)] :: ks.map N.enc) (H.length+2)] :: .tok (ks.length+1) 6 R.tn :: X)=H.set i (rst R.tr z L s2.2)++OX (N.new 20 a.f s2.1 [] 0 (a :: ks)):=by
            rw [rcutk hcl,hOX]
            simp [abx,N.new,N.enc_mk,he,hf,zbx]
           rcases hr.none' with ⟨q',b',hq,rfl,e3⟩ | ⟨j,hj,rfl⟩
           · refine NextM_of (H.length+2) 0 (Nat.le_refl _) (by simp) (by omega) ⟨N.new 20 a.f b' [] 0 (a :: ks),(b',some q'),by simp [f0,f4,f6,hil2O],hfin,.inl ⟨rfl,by simp,fun m=>hRelO _ _ ?_⟩⟩
             simp [pp,hjb,hjc,hq,PR.then]; omega
           · have:=pp_advE hE d' (.list .expr [41]) (o1+1)
             rw [hj] at this
             obtain ⟨v1,v2,v3⟩:=this
             have v2:=v2 rfl
             have v3:=v3 v2
             refine NextM_of (H.length+2) d' (Nat.le_refl _) (by simp) (by omega) ⟨N.new 20 a.f j [] 0 (a :: ks),(j,none),by simp [f0,f4,f6,hil2O],hfin,.inr ⟨j,rfl,hsn,by omega,?_,v3,by omega⟩⟩
             rw [hpeO]; simp [pp,hjb,hjc,hj,PR.then,N.bag,N.new,N.ks]
         have hE1:∀ fr (ks:List N) (s':PSt) (X:Hp),(fr 0 = .ptr i 0∧fr 4 = .ptr H.length 0∧fr 6 = .ptr (H.length+1) 0∧fr 7 = .d (.int .i64 (s'.1:Int))∧fr 10 = .osl false 6 ([.int .i64 k,.int .i64 f,.int .i64 t,.str w,.int .i64 q,.sl za 6 (kse.map N.enc)] :: ks.map N.enc) (H.length+2))→(s'.2=none→s'.1 < L.length)→s'.1≤1125899906842624→ks.length * 72≤70368744177664→Rel L d' (.list .expr [41]) ((o1+1,none):PSt) (N.bag ks) (wantS L [41] s')→E fr (H.set i (rst R.tr z L s'.2)++(XX ks++X)):=fun fr ks s' X a b c d e=>by subst hE0; exact ⟨ks,s',X,a,b,c,d,e,rfl⟩
         clear hE0
         have hcut:∀ ks st' X,Hp.cut (H.length+3) (H.set i (rst R.tr z L st')++(XX ks++X))=H.set i (rst R.tr z L st')++XX ks:=fun ks st' X=>by
          rw [rcutk hcl,hXX]; rfl
         have hcut0:∀ ks st',Hp.cut (H.length+3) (H.set i (rst R.tr z L st')++XX ks)=H.set i (rst R.tr z L st')++XX ks:=fun ks st'=>by simpa using hcut ks st' []
         have hg0:∀ st X,(H.set i (rst R.tr z L st)++X)[i]?=some (rst R.tr z L st):=fun st X=>upG hi
         have hgT:∀ (ks:List N) X,(XX ks++X)[2]?=some (.tok (ks.length+1) 6 R.tn):=fun ks X=>by rw [hXX]; simp
         have hgT1:∀ (ks:List N) h,(XX ks)[2]'h = .tok (ks.length+1) 6 R.tn:=fun ks h=>by simp [hXX]
         have hgB:∀ (ks:List N) b X,(XX ks++b :: X)[3]?=some b:=fun ks b X=>by rw [hXX]; simp
         have hgC:∀ (ks:List N) b c X,(XX ks++b :: c :: X)[4]?=some c:=fun ks b c X=>by rw [hXX]; simp
         have hsT:∀ (ks:List N) (m:N) X,(XX ks++X).set 2 (.tok (ks.length+2) 6 R.tn)=XX (ks++[m])++X:=fun ks m X=>by rw [hXX]; simp
         have hil2:i < H.length+3:=by omega
         rw [show H.set i (.box R.tr [.d (.sl z 4 (L.map encTk)),.d (.int .i64 (-1))])++(OX a++[.tok 1 6 R.tn])=H.set i (rst R.tr z L none)++XX [] by rw [hXX,hOX]; simp [hb,rst]]
         refine LoopM_of (H.length+3) (fun d fr H'=>∃ (ks:List N) (s':PSt),(fr 0 = .ptr i 0∧fr 4 = .ptr H.length 0∧fr 6 = .ptr (H.length+1) 0∧fr 7 = .d (.int .i64 (s'.1:Int))∧fr 10 = .osl false 6 ([.int .i64 k,.int .i64 f,.int .i64 t,.str w,.int .i64 q,.sl za 6 (kse.map N.enc)] :: ks.map N.enc) (H.length+2))∧H'=H.set i (rst R.tr z L s'.2)++XX ks ∧
          ((d=0∧s'.2 ≠ none∧s'.1≤1125899906842624∧ks.length * 72≤70368744177664∧∀ m,Rel L d' (.list .expr [41]) ((o1+1,none):PSt) m s')∨∃ p1,s'=(p1,none)∧((o1+1,none):PSt).2=none∧d≤d'∧pp L d' (.list .expr [41]) ((o1+1,none):PSt).1=pp L d (LG .expr [41] ks) p1∧p1 < L.length∧16 * (L.length - p1)+9≤d∧ks.length≤p1)) (match ((o1+1,none):PSt).2 with | none=>d' | some _=>0) (by simp [hXl]) ⟨[],((o1+1,none):PSt),?_⟩ ?_
         · refine ⟨by simp [hil2,f0,f4,f6],hcut0 _ _,?_⟩
           cases h0:((o1+1,none):PSt).2 with
           | some q=>first | exact absurd h0 (by simp; done) | exact .inl ⟨rfl,by simp [h0],by omega,by simp,fun m=>by simp [Rel,h0,G.wt]⟩
           | none=>exact .inr ⟨((o1+1,none):PSt).1,by rw [← h0],rfl,Nat.le_refl _,by simp [LG],hs0l h0,by have:=hs0c h0; omega,by simp⟩
         · rintro d fr H' ⟨ks,s',⟨f0,f4,f6,f7,f10⟩,rfl,hd⟩
           rcases hd with ⟨rfl,q1,qb,qk,q2⟩ | ⟨p1,rfl,hs2,hdn,hpe,hp1',hrk,hks⟩
           · obtain ⟨p',st'⟩:=s'
             cases st' with
             | none=>simp at q1
             | some q =>
               have hg1:=hg0 (some q)
               have hq:¬ (q:Int) < 0:=by omega
               have hE2:=fun fr h=>hE1 fr ks (p',some q) [] h (fun e=>by cases e) qb qk (q2 _)
               simp only [rst,List.append_nil] at hg1 hE2
               simp [f0,f7,rst,hg1,hq]
               exact hE2 _ (by simp [f0,f4,f6,f7,f10,hXl])
           · have hRel:∀ m s',(match pp L d (LG .expr [41] ks) p1 with | .out=>False | .bad q=>s'.2=some q∧s'.1≤L.length+d' | .ok m' k=>m=m'∧s'=(k,none))→Rel L d' (.list .expr [41]) ((o1+1,none):PSt) m s':=fun m s' h=>by
              unfold Rel
              rw [hs2]
              simp only
              rw [hpe]; exact h
             have hg1:=hg0 none
             have gi:=fun X=>hR.isA (z:=z) (st:=none) (X:=X) hi hp1' [41]
             by_cases hend:ks=[]∧isT L p1 [41]=true
             · obtain ⟨rfl,hjb⟩:=hend
               obtain ⟨d',rfl⟩:∃ d',d=d'+1:=⟨d - 1,by omega⟩
               have hE2:=fun fr h=>hE1 fr [] (p1,none) [] h (fun _=>hp1') (by simp only; omega) (by simp) (hRel _ _ (by simp [LG,pp,hjb,N.bag,N.new]))
               rw [hjb] at gi
               simp only [rst,List.append_nil] at hg1 gi hE2
               simp [f0,f7,f10,rst,hg1]
               refine CallK_of' (gi _) ?_
               simp
               exact hE2 _ (by simp [f0,f4,f6,f7,f10,hXl])
             · have hje:ks=[]→isT L p1 [41]=false:=fun e=>by
                cases h:isT L p1 [41] with
                | false=>rfl
                | true=>exact absurd ⟨e,h⟩ hend
               obtain ⟨M,hM⟩:∃ M:Fr→Hp→Prop,M=fun fr H'=>(fr 0 = .ptr i 0∧fr 4 = .ptr H.length 0∧fr 6 = .ptr (H.length+1) 0∧fr 7 = .d (.int .i64 (((p1,none):PSt).1:Int))∧fr 10 = .osl false 6 ([.int .i64 k,.int .i64 f,.int .i64 t,.str w,.int .i64 q,.sl za 6 (kse.map N.enc)] :: ks.map N.enc) (H.length+2))∧H'=H.set i (rst R.tr z L none)++XX ks:=⟨_,rfl⟩
               have hM1:∀ fr,(fr 0 = .ptr i 0∧fr 4 = .ptr H.length 0∧fr 6 = .ptr (H.length+1) 0∧fr 7 = .d (.int .i64 (((p1,none):PSt).1:Int))∧fr 10 = .osl false 6 ([.int .i64 k,.int .i64 f,.int .i64 t,.str w,.int .i64 q,.sl za 6 (kse.map N.enc)] :: ks.map N.enc) (H.length+2))→M fr (H.set i (rst R.tr z L none)++XX ks):=fun fr h=>by subst hM; exact ⟨h,rfl⟩
               refine Seq_mid M ?_ ?_
               · clear hM
                 simp only [rst] at hg1 gi hM1
                 rcases List.eq_nil_or_concat ks with hk0 | ⟨kk,kx,hk0⟩
                 · rw [hje hk0] at gi
                   simp [f0,f7,f10,rst,hg1,hk0]
                   refine CallK_of' (gi _) ?_
                   rw [← hk0]
                   simp [f0,f7]
                   exact hM1 _ (by simp [f0,f4,f6,f7,f10,hXl])
                 · have hkn:¬ ks=[]:=fun e=>by rw [e] at hk0; simp at hk0
                   have hk1:¬ ((ks.length:Int)+1=1):=by
                    have:ks.length ≠ 0:=by simpa using hkn
                    omega
                   simp [f0,f7,f10,rst,hg1,hkn,hk1]
                   exact hM1 _ (by simp [f0,f4,f6,f7,f10,hXl])
               · intro fr H' h
                 subst hM
                 obtain ⟨⟨f0,f4,f6,f7,f10⟩,rfl⟩:=h
                 have hstep:=LG_step (L:=L) (d:=d) (one := .expr) (e:=[41]) (ks:=ks) (p:=p1) (by omega) hje
                 obtain ⟨m,hm1,hm2,hpp2⟩:=hstep
                 have gt:=fun X=>hS m (by omega) H X i (p1,none) hi ⟨⟨by simp only [G.c]; omega,by simp only [G.c]; omega,fun _=>⟨by simp only; omega,by simp only [G.c]; omega⟩⟩,fun _=>hp1'⟩
                 simp only [rst] at hg1 gt
                 simp [f0,f7,rst]
                 refine CallK_of (gt _) ?_
                 rintro _ _ ⟨x,s3,rfl,rfl,hrx⟩
                 obtain ⟨kt,ft,tt',wt',qt,zt,kst,hft,het,hvt,hbt⟩:=node_ho R.tn x
                 rw [hvt]
                 obtain ⟨bo,hbo⟩:∃ bo:Ob,bo = .box R.tn [.d (.int .i64 kt),.d (.int .i64 ft),.d (.int .i64 tt'),.d (.str wt'),.d (.int .i64 qt),.d (.sl zt 6 (kst.map N.enc))]:=⟨_,rfl⟩
                 have hB:=fun X=>hgB ks bo X
                 rw [hbo] at hB
                 have hT:=hgT ks
                 have hT1:=hgT1 ks
                 have hs3b:s3.1≤L.length+d':=hrx.bnd (by simp only; omega) (by omega)
                 have hs1:=hsT ks x
                 have hbd:(ks.length+2) * 72≤140737488355328:=by omega
                 have hmap:ks.map N.enc++[[.int .i64 kt,.int .i64 ft,.int .i64 tt',.str wt',.int .i64 qt,.sl zt 6 (kst.map N.enc)]]=(ks++[x]).map N.enc:=by
                  rw [List.map_append]
                  simp [het]
                 clear gt
                 simp [f10,hXl,hB,hT,hT1,appA,slOf,hbd,hs1,hmap]
                 obtain ⟨p3,st3⟩:=s3
                 simp only at hs3b
                 cases st3 with
                 | some q =>
                   have hg2:=hg0 (some q)
                   have hq':(0:Int)≤q:=by omega
                   have hbad:pp L m .expr p1 = .bad q:=by
                    rcases hrx.none' with ⟨q',a,e,e2,e3⟩ | ⟨k,e,e2⟩
                    · simp only [Prod.mk.injEq,Option.some.injEq] at e2
                      rw [e,e2.2]
                    · simp at e2
                   have hE2:=fun fr X h=>hE1 fr (ks++[x]) (p3,some q) X h (fun e=>by cases e) (by simp only; omega) (by simp; omega) (hRel _ _ (by rw [hpp2,hbad]; simp [PR.then]; omega))
                   simp only [rst] at hg2 hE2
                   simp [f0,rst,hg2,hq']
                   exact hE2 _ _ (by simp [f0,f4,f6,hXl])
                 | none =>
                   have hok:pp L m .expr p1 = .ok x p3:=by
                    rcases hrx.none' with ⟨q',a,e,e2,e3⟩ | ⟨k,e,e2⟩
                    · simp at e2
                    · simp only [Prod.mk.injEq] at e2
                      rw [e,e2.1]
                   have hadv:=pp_advE hE m .expr p1
                   rw [hok] at hadv
                   obtain ⟨v1,v2,v3⟩:=hadv
                   have v2:=v2 rfl
                   have v3:=v3 v2
                   have gi3:=fun X=>hR.isA (z:=z) (st:=none) (X:=X) hi v3 [41]
                   have gw3:=fun X=>hR.wantA (z:=z) (s:=(p3,none)) (X:=X) hi (fun _=>v3) (by simp only; omega) [44]
                   have hg2:=hg0 none
                   cases hc:isT L p3 [41] with
                   | true =>
                     have hE2:=fun fr X h=>hE1 fr (ks++[x]) (p3,none) X h (fun _=>v3) (by simp only; omega) (by simp; omega) (hRel _ _ (by rw [hpp2,hok]; simp [PR.then,hc,N.bag,N.new]))
                     rw [hc] at gi3
                     simp only [rst] at hg2 gi3 hE2
                     simp [f0,rst,hg2]
                     refine CallK_of' (gi3 _) ?_
                     simp
                     exact hE2 _ _ (by simp [f0,f4,f6,hXl])
                   | false =>
                     rw [hc] at gi3
                     have hstp:=hpp2
                     rw [hok] at hstp
                     simp only [PR.then,hc,wantR] at hstp
                     by_cases hcm:isT L p3 [44]=true
                     · have hl4:=isT_ltE hE hcm
                       simp only [wantS_none,hcm,if_true] at gw3
                       simp only [rst] at hg2 gi3 gw3
                       simp [f0,rst,hg2]
                       refine CallK_of' (gi3 _) ?_
                       simp [f0]
                       refine CallK_of' (gw3 _) ?_
                       simp
                       refine NextM_of (H.length+3) m (Nat.le_refl _) (by simp [hXl]) (by omega) ⟨ks++[x],(p3+1,none),by simp [f0,f4,f6,hil2],by simpa [rst] using hcut (ks++[x]) none _,.inr ⟨p3+1,rfl,hs2,by omega,?_,hl4,by omega,by simp; omega⟩⟩
                       rw [hpe,hstp,hcm,LG_snoc]
                       simp
                     · have hcm':isT L p3 [44]=false:=by simpa using hcm
                       simp only [wantS_none,hcm',Bool.false_eq_true,if_false] at gw3
                       simp only [rst] at hg2 gi3 gw3
                       simp [f0,rst,hg2]
                       refine CallK_of' (gi3 _) ?_
                       simp [f0]
                       refine CallK_of' (gw3 _) ?_
                       simp
                       refine NextM_of (H.length+3) 0 (Nat.le_refl _) (by simp [hXl]) (by omega) ⟨ks++[x],(p3,some p3),by simp [f0,f4,f6,hil2],by simpa [rst] using hcut (ks++[x]) (some p3) _,.inl ⟨rfl,by simp,by simp only; omega,by simp; omega,fun mm=>hRel _ _ ?_⟩⟩
                       rw [hstp,hcm']
                       simp [PR.then]
                       omega
end
end
section
structure RHasA (P:Program) (R:RF):Prop extends RHas P R where
 params:HasT P [7] R.params (irR7Params R.want R.is R.word R.typed R.ended R.tn)
 kind:HasT P [9] R.kind (irR7Kind R.is R.word R.want R.kind R.ended R.tn)
 block:HasT P [7] R.block (irR7Block R.want R.is R.stmt R.ended R.tn)
 stmt:HasT P [8,47] R.stmt (irR7Stmt R.is R.expr R.block R.ended R.word R.typed R.want R.tn)
 expr:Has P R.expr (irR7Expr R.sum R.is R.ended R.tn)
 sum:Has P R.sum (irR7Sum R.term R.is R.ended R.tn)
 term:Has P R.term (irR7Term R.post R.is R.ended R.tn)
 post:HasT P [10,56] R.post (irR7Post R.atom R.is R.word R.ended R.expr R.want R.tn)
 atom:HasT P [11] R.atom (irR7Atom R.is R.expr R.want R.ended R.word R.lambda R.tn R.tt)
 file:HasT P [4] R.file (irR7File R.is R.use_ R.def_ R.ended R.tn)
structure RAll (P:Program) (R:RF) (z:Bool) (L:List Tk) (n:Nat):Prop where
 params:UR P R.tr z L n .params R.params
 typed:UR P R.tr z L n .typed R.typed
 kind:UR P R.tr z L n .kind R.kind
 block:UR P R.tr z L n .block R.block
 stmt:US P R.tr z L n .stmt R.stmt
 expr:UR P R.tr z L n .expr R.expr
 sum:UR P R.tr z L n .sum R.sum
 term:UR P R.tr z L n .term R.term
 post:UR P R.tr z L n .post R.post
 atom:UR P R.tr z L n .atom R.atom
theorem UR_zero {P:Program} {z:Bool} {L:List Tk} {tr:TypeId} {g:G} {f:FuncId} (hg:0 < g.c):UR P tr z L 0 g f:=fun H X i s hi hp=>absurd hp.1.2.1 (by omega)
theorem US_zero {P:Program} {z:Bool} {L:List Tk} {tr:TypeId} {g:G} {f:FuncId} (hg:0 < g.c):US P tr z L 0 g f:=fun H X i p hi hp=>absurd hp.1.2.1 (by omega)
section
variable {P:Program} {R:RF} {z:Bool} {L:List Tk}
theorem RHasA.all (hR:RHasA P R) (hE:EndsL L) (hL:L.length≤1048576):∀ n,n≤1099511627776→RAll P R z L n:=by
 intro n
 induction n using Nat.strongRecOn with
 | ind n ih =>
 intro hn
 cases n with
 | zero=>exact ⟨UR_zero (by decide),UR_zero (by decide),UR_zero (by decide),UR_zero (by decide),US_zero (by decide),UR_zero (by decide),UR_zero (by decide),UR_zero (by decide),UR_zero (by decide),UR_zero (by decide)⟩
 | succ n =>
   have a:∀ m,m < n+1→RAll P R z L m:=fun m hm=>ih m hm (by omega)
   have b:=a n (by omega)
   have hn':n≤1099511627776:=by omega
   have h0:=hR.toRHas
   exact ⟨h0.params' hR.params hE hL n hn' (fun m hm=>(a m (by omega)).typed),h0.typed' hE hL n hn' b.kind,h0.kind' hR.kind hE hL n hn' (fun m hm=>(a m hm).kind),h0.block' hR.block hE hL n hn' (fun m hm=>(a m (by omega)).stmt),
    h0.stmt' hR.stmt hE hL n hn' b.expr b.typed b.block,h0.expr' hR.expr hE hL n hn' b.sum,h0.sum' hR.sum hE hL n hn' (fun m hm=>(a m hm).term),h0.term' hR.term hE hL n hn' (fun m hm=>(a m hm).post),
    h0.post' hR.post hE hL n hn' b.atom (fun m hm=>(a m hm).expr),h0.atom' hR.atom hE hL n hn' (fun m hm=>(a m hm).expr) b.params b.typed b.block⟩
def RQF (tr:TypeId) (z:Bool) (L:List Tk) (n:Nat) (H:Hp) (i:Nat):A→Hp→Prop:=fun r H'=>∃ m s',r=m.v∧H'=H.set i (rst tr z L s'.2)∧Rel L n (.file []) (0,none) m s'
theorem fin_fileR {tr:TypeId} {z z':Bool} {L:List Tk} {n:Nat} {H:Hp} {i:Nat} {s':PSt} {k f t a:Int} {w:Bs} {rows:List (List D)} (ks:List N) (hrows:rows=ks.map N.enc) (hz:rows=[]→z'=true) (hr:Rel L n (.file []) (0,none) (N.new k f t w a ks) s') :
 ∃ r',Nrm (.agg [.d (.int .i64 k),.d (.int .i64 f),.d (.int .i64 t),.d (.str w),.d (.int .i64 a),.d (.sl z' 6 rows)]) r'∧RQF tr z L n H i r' (H.set i (rst tr z L s'.2)):=by
 refine ⟨_,nrm_node hz,_,s',?_,rfl,hr⟩
 rw [N.v_new,hrows]
 cases ks<;>rfl
theorem RHasA.file' (hR:RHasA P R) (hE:EndsL L) (h0l:0 < L.length) (hL:L.length≤1048576) (n:Nat) (hn:n≤1099511627776) (hr0:16 * L.length+7≤n+1) {H:Hp} {i:Nat} (hi:i < H.length) :
 ACall P R.file [.ptr i 0] (H.set i (rst R.tr z L none)) (RQF R.tr z L (n+1) H i):=by
 obtain ⟨fn,hf,hcf⟩:=hR.file
 have h0:=hR.toRHas
 refine acall_norm (acall_fin hf hcf (by simp [irR7File]) fun hcl _ => ?_)
 simp [irR7File]
 obtain ⟨XX,hXX⟩:∃ XX:List N→Hp,XX=fun ks=>[zbx R.tn,.tok ks.length 6 R.tn]:=⟨_,rfl⟩
 have hXl:∀ a,(XX a).length=2:=fun a=>by rw [hXX]; rfl
 obtain ⟨E,hE0⟩:∃ E:Fr→Hp→Prop,E=fun fr H'=>∃ (ks:List N) (s':PSt),(fr 0 = .ptr i 0∧fr 2 = .ptr H.length 0∧fr 3 = .d (.int .i64 (s'.1:Int))∧fr 4 = .osl true 6 (ks.map N.enc) (H.length+1))∧Rel L (n+1) (.file []) (0,none) (N.new 1 0 s'.1 [] 0 ks) s'∧H'=H.set i (rst R.tr z L s'.2)++XX ks:=⟨_,rfl⟩
 have hE1:∀ fr (ks:List N) (s':PSt),(fr 0 = .ptr i 0∧fr 2 = .ptr H.length 0∧fr 3 = .d (.int .i64 (s'.1:Int))∧fr 4 = .osl true 6 (ks.map N.enc) (H.length+1))→Rel L (n+1) (.file []) (0,none) (N.new 1 0 s'.1 [] 0 ks) s'→E fr (H.set i (rst R.tr z L s'.2)++XX ks):=fun fr ks s' a b=>by subst hE0; exact ⟨ks,s',a,b,rfl⟩
 refine LoopK_outR 0 E (fun _ _=>False) ?_ (fun _ _ h=>h.elim) ?_
 rotate_left
 · intro fr H' h
   subst hE0
   obtain ⟨ks,s',⟨f0,f2,f3,f4⟩,hr,rfl⟩:=h
   have g5:=fun H0=>h0.ended.rendedT 1 0 0 [] 0 true [] (s'.1:Int) true (ks.map N.enc) H0 (H.length+1)
   simp only [ag] at g5
   subst hXX
   simp [f3,f4,zbx]
   refine CallK_of' (g5 _ (by simp)) ?_
   simp [f2]
   simp [RetK,rcut hcl,nl]
   exact fin_fileR (z':=true) ks rfl (fun _=>rfl) hr
 clear hE0
 have hcut:∀ ks st' X,Hp.cut (H.length+2) (H.set i (rst R.tr z L st')++(XX ks++X))=H.set i (rst R.tr z L st')++XX ks:=fun ks st' X=>by
  rw [rcutk hcl,hXX]; rfl
 have hcut0:∀ ks st',Hp.cut (H.length+2) (H.set i (rst R.tr z L st')++XX ks)=H.set i (rst R.tr z L st')++XX ks:=fun ks st'=>by simpa using hcut ks st' []
 have hg0:∀ st X,(H.set i (rst R.tr z L st)++X)[i]?=some (rst R.tr z L st):=fun st X=>upG hi
 have hgT:∀ (ks:List N) X,(XX ks++X)[1]?=some (.tok ks.length 6 R.tn):=fun ks X=>by rw [hXX]; simp
 have hgT1:∀ (ks:List N) h,(XX ks)[1]'h = .tok ks.length 6 R.tn:=fun ks h=>by simp [hXX]
 have hgB:∀ (ks:List N) b X,(XX ks++b :: X)[2]?=some b:=fun ks b X=>by rw [hXX]; simp
 have hsT:∀ (ks:List N) (m:N) X,(XX ks++X).set 1 (.tok (ks.length+1) 6 R.tn)=XX (ks++[m])++X:=fun ks m X=>by rw [hXX]; simp
 have hsB:∀ (ks:List N) b b' X,(XX ks++b :: X).set 2 b'=XX ks++b' :: X:=fun ks b b' X=>by rw [hXX]; simp
 have hil2:i < H.length+2:=by omega
 rw [show H.set i (rst R.tr z L none)++[Ob.box R.tn [.d (.int .i64 0),.d (.int .i64 0),.d (.int .i64 0),.d (.str []),.d (.int .i64 0),.d (.sl true 6 [])],.tok 0 6 R.tn]=H.set i (rst R.tr z L none)++XX [] by rw [hXX]; rfl]
 refine LoopM_of (H.length+2) (fun d fr H'=>∃ (ks:List N) (s':PSt),(fr 0 = .ptr i 0∧fr 2 = .ptr H.length 0∧fr 3 = .d (.int .i64 (s'.1:Int))∧fr 4 = .osl true 6 (ks.map N.enc) (H.length+1))∧H'=H.set i (rst R.tr z L s'.2)++XX ks ∧
  ((d=0∧s'.2 ≠ none∧∀ m,Rel L (n+1) (.file []) (0,none) m s')∨∃ p1,s'=(p1,none)∧d≤n+1∧pp L (n+1) (.file []) 0=pp L d (.file ks) p1∧p1 < L.length∧16 * (L.length - p1)+7≤d∧ks.length≤p1)) (n+1) (by simp [hXl]) ⟨[],(0,none),by simp [hil2],hcut0 _ _,.inr ⟨0,rfl,by omega,rfl,h0l,by omega,by simp⟩⟩ ?_
 rintro d fr H' ⟨ks,s',⟨f0,f2,f3,f4⟩,rfl,hd⟩
 rcases hd with ⟨rfl,q1,q2⟩ | ⟨p1,rfl,hdn,hpp,hp1',hrk,hks⟩
 · obtain ⟨p',st'⟩:=s'
   cases st' with
   | none=>simp at q1
   | some q =>
     have hg1:=hg0 (some q)
     have hq:¬ (q:Int) < 0:=by omega
     have hE2:=fun fr h=>hE1 fr ks (p',some q) h (q2 _)
     simp only [rst] at hg1 hE2
     simp [f0,f3,rst,hg1,hq]
     exact hE2 _ (by simp [f0,f2,f3,f4])
 obtain ⟨d',rfl⟩:∃ d',d=d'+1:=⟨d - 1,by omega⟩
 have hRel:∀ m s',(match pp L (d'+1) (.file ks) p1 with | .out=>False | .bad q=>s'.2=some q∧s'.1≤L.length+(n+1) | .ok m' k=>m=m'∧s'=(k,none))→Rel L (n+1) (.file []) (0,none) m s':=fun m s' h=>by
  unfold Rel
  simp only
  rw [hpp]; exact h
 have hg1:=hg0 none
 have gi:=fun X=>h0.isA (z:=z) (st:=none) (X:=X) hi hp1' kUse
 have hr:=rowAt_map encTk hp1'
 have hg:L[p1]?=some L[p1]:=List.getElem?_eq_getElem hp1'
 have hkd:kdT L p1=L[p1].k:=by unfold kdT; rw [hg]
 generalize L[p1]=tk at hr hkd
 obtain ⟨kk,ta,tl,y⟩:=tk
 simp only [encTk] at hr hkd
 simp only [rst] at hg1 gi
 by_cases hk0:kk=0
 · subst hk0
   have hE2:=fun fr h=>hE1 fr ks (p1,none) h (hRel _ _ (by simp [pp,hkd]))
   simp only [rst] at hE2
   simp [f0,f3,rst,hg1,hr]
   exact hE2 _ (by simp [f0,f2,f3,f4])
 have hk0':¬ kdT L p1=0:=by rw [hkd]; exact hk0
 obtain ⟨n',rfl⟩:∃ n',d'=n'+1:=⟨d' - 1,by omega⟩
 have ha:=hR.all (z:=z) hE hL n' (by omega)
 cases hu:isT L p1 kUse with
 | true =>
   have hpf:pp L (n'+1+1) (.file ks) p1=(pp L (n'+1) .use p1).then fun m j=>pp L (n'+1) (.file (ks++[m])) j:=by
    rw [pp]
    simp only [hk0',hu,if_true,if_false]
   rw [hu] at gi
   have gU:∀ X,ACall P R.use_ [.ptr i 0,.d (.int .i64 (p1:Int))] (H.set i (rst R.tr z L none)++X) (RQ R.tr z L (n'+1) .use H i X (p1,none)):=fun X=>by
    have:=h0.use' (z:=z) hE hL n' (H:=H++X) (i:=i) (by simp; omega) p1 hu
    rw [List.set_append_left _ _ hi] at this
    refine this.mono ?_
    rintro r H' ⟨m,s',rfl,rfl,hr⟩
    exact ⟨m,s',rfl,by rw [List.append_nil,List.set_append_left _ _ hi],hr⟩
   simp only [rst] at gU
   simp [f0,f3,rst,hg1,hr,hk0]
   refine CallK_of' (gi _) ?_
   simp [f0,f3]
   refine CallK_of (gU _) ?_
   rintro _ _ ⟨m,s3,rfl,rfl,r3⟩
   obtain ⟨kt,ft,tt',wt',qt,zt,kst,hft,het,hvt,hbt⟩:=node_ho R.tn m
   rw [hvt]
   obtain ⟨bo,hbo⟩:∃ bo:Ob,bo = .box R.tn [.d (.int .i64 kt),.d (.int .i64 ft),.d (.int .i64 tt'),.d (.str wt'),.d (.int .i64 qt),.d (.sl zt 6 (kst.map N.enc))]:=⟨_,rfl⟩
   have hB:=fun X=>hgB ks bo X
   rw [hbo] at hB
   have hB0:=fun X=>hgB ks (.box R.tn [.d (.int .i64 0),.d (.int .i64 0),.d (.int .i64 0),.d (.str []),.d (.int .i64 0),.d (.sl true 6 [])]) X
   have hT:=hgT ks
   have hT1:=hgT1 ks
   have hs1:=hsT ks m
   have hsb:=hsB ks
   have hbd:(ks.length+1) * 72≤140737488355328:=by omega
   have hmap:ks.map N.enc++[[.int .i64 kt,.int .i64 ft,.int .i64 tt',.str wt',.int .i64 qt,.sl zt 6 (kst.map N.enc)]]=(ks++[m]).map N.enc:=by
    rw [List.map_append]
    simp [het]
   simp [f4,hXl,hB,hB0,hT,hT1,appA,slOf,hbd,hs1,hsb,hmap]
   rcases r3.none' with ⟨q,b,hq,rfl,e3⟩ | ⟨j,hj,rfl⟩
   · refine NextM_of (H.length+2) 0 (Nat.le_refl _) (by simp [hXl]) (by omega) ⟨ks++[m],(b,some q),by simp [f0,f2,hil2],by simpa [rst] using hcut (ks++[m]) (some q) _,.inl ⟨rfl,by simp,fun m=>hRel _ _ ?_⟩⟩
     rw [hpf,hq]; simp [PR.then]; omega
   · have:=pp_advE hE (n'+1) .use p1
     rw [hj] at this
     obtain ⟨v1,v2,v3⟩:=this
     have v2:=v2 rfl
     have v3:=v3 v2
     refine NextM_of (H.length+2) (n'+1) (Nat.le_refl _) (by simp [hXl]) (by omega) ⟨ks++[m],(j,none),by simp [f0,f2,hil2],by simpa [rst] using hcut (ks++[m]) none _,.inr ⟨j,rfl,by omega,?_,v3,by omega,by simp; omega⟩⟩
     rw [hpp,hpf,hj]; simp [PR.then]
 | false =>
   have hpf:pp L (n'+1+1) (.file ks) p1=(pp L (n'+1) .defn p1).then fun m j=>pp L (n'+1) (.file (ks++[m])) j:=by
    rw [pp]
    simp only [hk0',hu,if_false,Bool.false_eq_true]
   rw [hu] at gi
   have gU:∀ X,ACall P R.def_ [.ptr i 0,.d (.int .i64 (p1:Int))] (H.set i (rst R.tr z L none)++X) (RQ R.tr z L (n'+1) .defn H i X (p1,none)):=fun X=>by
    have:=h0.def' (z:=z) hE hL n' (by omega) ha.params ha.typed ha.block (H:=H++X) (i:=i) (by simp; omega) p1 ⟨⟨by simp only [G.c]; omega,by simp only [G.c]; omega,fun _=>⟨by simp only; omega,by simp only [G.c]; omega⟩⟩,fun _=>hp1'⟩
    rw [List.set_append_left _ _ hi] at this
    refine this.mono ?_
    rintro r H' ⟨m,s',rfl,rfl,hr⟩
    exact ⟨m,s',rfl,by rw [List.append_nil,List.set_append_left _ _ hi],hr⟩
   simp only [rst] at gU
   simp [f0,f3,rst,hg1,hr,hk0]
   refine CallK_of' (gi _) ?_
   simp [f0,f3]
   refine CallK_of (gU _) ?_
   rintro _ _ ⟨m,s3,rfl,rfl,r3⟩
   obtain ⟨kt,ft,tt',wt',qt,zt,kst,hft,het,hvt,hbt⟩:=node_ho R.tn m
   rw [hvt]
   obtain ⟨bo,hbo⟩:∃ bo:Ob,bo = .box R.tn [.d (.int .i64 kt),.d (.int .i64 ft),.d (.int .i64 tt'),.d (.str wt'),.d (.int .i64 qt),.d (.sl zt 6 (kst.map N.enc))]:=⟨_,rfl⟩
   have hB:=fun X=>hgB ks bo X
   rw [hbo] at hB
   have hB0:=fun X=>hgB ks (.box R.tn [.d (.int .i64 0),.d (.int .i64 0),.d (.int .i64 0),.d (.str []),.d (.int .i64 0),.d (.sl true 6 [])]) X
   have hT:=hgT ks
   have hT1:=hgT1 ks
   have hs1:=hsT ks m
   have hsb:=hsB ks
   have hbd:(ks.length+1) * 72≤140737488355328:=by omega
   have hmap:ks.map N.enc++[[.int .i64 kt,.int .i64 ft,.int .i64 tt',.str wt',.int .i64 qt,.sl zt 6 (kst.map N.enc)]]=(ks++[m]).map N.enc:=by
    rw [List.map_append]
    simp [het]
   simp [f4,hXl,hB,hB0,hT,hT1,appA,slOf,hbd,hs1,hsb,hmap]
   rcases r3.none' with ⟨q,b,hq,rfl,e3⟩ | ⟨j,hj,rfl⟩
   · refine NextM_of (H.length+2) 0 (Nat.le_refl _) (by simp [hXl]) (by omega) ⟨ks++[m],(b,some q),by simp [f0,f2,hil2],by simpa [rst] using hcut (ks++[m]) (some q) _,.inl ⟨rfl,by simp,fun m=>hRel _ _ ?_⟩⟩
     rw [hpf,hq]; simp [PR.then]; omega
   · have:=pp_advE hE (n'+1) .defn p1
     rw [hj] at this
     obtain ⟨v1,v2,v3⟩:=this
     have v2:=v2 rfl
     have v3:=v3 v2
     refine NextM_of (H.length+2) (n'+1) (Nat.le_refl _) (by simp [hXl]) (by omega) ⟨ks++[m],(j,none),by simp [f0,f2,hil2],by simpa [rst] using hcut (ks++[m]) none _,.inr ⟨j,rfl,by omega,?_,v3,by omega,by simp; omega⟩⟩
     rw [hpp,hpf,hj]; simp [PR.then]
theorem RHasA.fileA (hR:RHasA P R) (hE:EndsL L) (h0l:0 < L.length) (hL:L.length≤1048576) {H:Hp} {i:Nat} (hi:i < H.length) :
 ACall P R.file [.ptr i 0] (H.set i (rst R.tr z L none)) (RQF R.tr z L (16 * L.length+8) H i):=hR.file' hE h0l hL (16 * L.length+7) (by omega) (by omega) hi
end
end
section
section
variable {P:Program} {F:PF}
end
end
section
section
variable {P:Program}
theorem Has.depth6 {f:FuncId} {tn:TypeId} (h:Has P f (irR6Depth f tn)):∀ (n:N),n.size≤1125899906842624→∀ H,ACall P f [n.v] H (fun r H'=>r = .d (.int .i64 (n.depth:Int))∧H'=H):=by
 refine N.ind fun k f' t w a z ks ih => ?_
 intro hs H
 obtain ⟨fn,hf,hcf⟩:=h
 refine acall_fin hf hcf (by simp [irR6Depth]) fun hcl _ => ?_
 rw [N.size_mk] at hs
 rw [N.v_mk,N.depth_mk]
 have hlen:=N.sizes_len ks
 have hds:∀ i,N.depths (ks.take i)≤1125899906842624:=fun i=>by
  refine N.depths_le _ fun p hp => ?_
  have:=N.depth_size p
  have:=N.sizes_mem (List.mem_of_mem_take hp)
  omega
 simp [irR6Depth]
 refine ForK_of (H.length+1) ks.length (fun i fr H'=>fr 1 = .ptr H.length 0∧fr 3 = .d (.int .i64 ((N.depths (ks.take i):Int)+1))∧H'=H++[.box tn [.d (.int .i64 k),.d (.int .i64 f'),.d (.int .i64 t),.d (.str w),.d (.int .i64 a),.d (.sl z 6 (ks.map N.enc))]]) (by omega) (by decide) (by simp) (by simp) ?_ ?_
 · simp [N.depths,cut_appk hcl]
 rintro i fr H' hi f4 ⟨f1,f3,rfl⟩
 simp [f4,f1]
 refine BrK_split (fun h => ?_) (fun h => ?_)
 · have hlt:i < ks.length:=by simpa using h
   have hr:=rowAt_map N.enc hlt
   have hm:=List.getElem_mem hlt
   have hsz:=N.sizes_mem hm
   have hx:=ih _ hm (by omega)
   have hdt:=N.depths_take_succ hlt
   have hd0:=hds i
   have hdd:=N.depth_size (ks[i])
   generalize ks[i]=p at hr hx hdt hsz hdd
   obtain ⟨k2,f2,t2,w2,a2,z2,ks2⟩:=p
   generalize hdp:(N.mk k2 f2 t2 w2 a2 z2 ks2).depth=dd at hx hdt hdd
   rw [N.enc_mk] at hr
   rw [N.v_mk] at hx
   have hw:IntKind.i64.wrap ((dd:Int)+1)=(dd:Int)+1:=wrap_i64 (by omega) (by omega)
   simp [f4,f1,hr]
   refine CallK_of' (hx _) ?_
   by_cases hm:N.depths (ks.take i) < dd
   · simp [hw,f3,hm]
     refine NextF_of (H.length+1) (Nat.le_refl _) hlt (by simp [f4]) ?_
     rw [hdt]
     simp [f1,cut_appk hcl]
     omega
   · simp [hw,f3,hm]
     refine NextF_of (H.length+1) (Nat.le_refl _) hlt (by simp [f4]) ?_
     rw [hdt]
     simp [f1,f3,cut_appk hcl]
     omega
 · have hii:i=ks.length:=by
    have:¬ i < ks.length:=by simpa using h
    omega
   rw [hii,List.take_of_length_le (Nat.le_refl _)] at f3
   simp [f3]
   simp [RetK,cut_app hcl]
   omega
end
section
variable {P:Program} {R:RF} {z:Bool} {L:List Tk}
theorem Has.parse7 {f fd} (h:Has P f (irR7Parse R.file fd R.tn R.tr)) (hR:RHasA P R) (hd:Has P fd (irR6Depth fd R.tn)) (hL:L.length≤1048576) (H:Hp) :
 ACall P f [.d (.sl z 4 (L.map encTk))] H (fun r H'=>r = .tup [(parseP L).1.v,.d (.int .i64 (parseP L).2.1),.d (.int .i64 (parseP L).2.2)]∧H'=H):=by
 obtain ⟨fn,hf,hcf⟩:=h
 refine acall_fin hf hcf (by simp [irR7Parse]) fun hcl _ => ?_
 obtain ⟨Q,hQ⟩:∃ Q:A→Hp→Prop,Q=fun r H'=>r = .tup [(parseP L).1.v,.d (.int .i64 (parseP L).2.1),.d (.int .i64 (parseP L).2.2)]∧H'=H:=⟨_,rfl⟩
 rw [← hQ]
 have hnone:∀ e b:Int,parseP L=(N.none,e,b)→Q (.tup [.agg [.d (.int .i64 0),.d (.int .i64 0),.d (.int .i64 0),.d (.str []),.d (.int .i64 0),.d (.sl true 6 [])],.d (.int .i64 e),.d (.int .i64 b)]) H:=fun e b h=>by
  subst hQ
  rw [h]
  exact ⟨rfl,rfl⟩
 by_cases h0:L=[]
 · subst h0
   simp [irR7Parse]
   simp [RetK,cut_app hcl]
   exact hnone 1 0 (by simp [parseP])
 have hl0:0 < L.length:=List.length_pos_iff.2 h0
 have h0':¬ (L.length:Int)=0:=by omega
 have hw:IntKind.i64.wrap ((L.length:Int) - 1)=((L.length - 1:Nat):Int):=by rw [wrap_i64 (by omega) (by omega)]; omega
 have hr:=rowAt_map encTk (l:=L) (i:=L.length - 1) (by omega)
 have hg:L[L.length - 1]?=some (L[L.length - 1]'(by omega)):=List.getElem?_eq_getElem (by omega)
 have hkd:kdT L (L.length - 1)=(L[L.length - 1]'(by omega)).k:=by unfold kdT; rw [hg]
 generalize L[L.length - 1]'(by omega)=tk at hr hkd
 obtain ⟨k,a,l,x⟩:=tk
 simp only [encTk] at hr hkd
 by_cases h1:k=0
 case neg =>
  simp [irR7Parse,h0,h0',hw,hr,h1]
  simp [RetK,cut_app hcl]
  exact hnone 1 0 (by simp [parseP,hkd,h1])
 by_cases h2:4000 < L.length
 case pos =>
  have h2':(4000:Int) < L.length:=by omega
  simp [irR7Parse,h0,h0',hw,hr,h1,h2']
  simp [RetK,cut_app hcl]
  exact hnone 1 0 (by simp [parseP,h2])
 have h2':¬ (4000:Int) < L.length:=by omega
 have hE:EndsL L:=fun i hi=>by
  have:i=L.length - 1:=by omega
  rw [this,hkd,h1]
 have hpp:parseP L=match parseF L with
  | .ok n _=>if 60 < n.depth then (N.none,25,0) else (n,0,0)
  | .bad q=>(N.none,24,(q:Int))
  | .out=>(N.none,24,0):=by
  unfold parseP
  split
  · rename_i h
    rw [hkd,h1] at h
    rcases h with h | h | h
    · exact absurd h h0
    · exact absurd rfl h
    · exact absurd h h2
  · rfl
 simp [irR7Parse,h0,h0',hw,hr,h1,h2']
 obtain ⟨r0,hr0⟩:∃ r0:Ob,r0 = .box R.tn [.d (.int .i64 0),.d (.int .i64 0),.d (.int .i64 0),.d (.str []),.d (.int .i64 0),.d (.sl true 6 [])]:=⟨_,rfl⟩
 have g:=hR.fileA (z:=z) hE hl0 hL (H:=H++[r0,rst R.tr z L none]) (i:=H.length+1) (by simp)
 have e1:∀ s,(H++[r0,rst R.tr z L none]).set (H.length+1) (rst R.tr z L s)=H++[r0,rst R.tr z L s]:=fun s=>by simp
 rw [e1] at g
 rw [hr0] at g
 simp only [rst] at g
 refine CallK_of g ?_
 rintro _ _ ⟨m,s',rfl,rfl,hrel⟩
 have e2:∀ s,(H++[r0,.box R.tr [.d (.sl z 4 (L.map encTk)),.d (.int .i64 (-1))]]).set (H.length+1) (rst R.tr z L s)=H++[r0,rst R.tr z L s]:=fun s=>by simp
 rw [← hr0,e2]
 rw [hr0]
 rcases hrel.none' with ⟨q,b,hq,rfl,e3⟩ | ⟨k',hk,rfl⟩
 · have hq':parseF L = .bad q:=hq
   rw [hq'] at hpp
   obtain ⟨k2,f2,t2,w2,a2,z2,ks2⟩:=m
   have hqn:(0:Int)≤q:=by omega
   rw [N.v_mk]
   simp [rst,hqn]
   repeat' apply And.intro
   all_goals
    simp [RetK,cut_app hcl]
    try exact hnone 24 q hpp
 · have hk':parseF L = .ok m k':=hk
   rw [hk'] at hpp
   have hsz:=pp_size (L:=L) (16 * L.length+8) (.file []) 0 trivial
   rw [show pp L (16 * L.length+8) (.file []) 0 = .ok m k' from hk] at hsz
   simp only [Sz,G.k1,G.sz,N.sizes_nil] at hsz
   have hadv:=pp_adv (L:=L) (16 * L.length+8) (.file []) 0
   rw [show pp L (16 * L.length+8) (.file []) 0 = .ok m k' from hk] at hadv
   obtain ⟨v1,-,v3⟩:=hadv
   have hdep:=N.depth_size m
   have hd':=hd.depth6 m (by omega)
   obtain ⟨k2,f2,t2,w2,a2,z2,ks2⟩:=m
   rw [N.v_mk] at hd'
   rw [N.v_mk]
   simp [rst]
   refine CallK_of' (hd' _) ?_
   by_cases h60:60 < N.depth (.mk k2 f2 t2 w2 a2 z2 ks2)
   · have h60':(60:Int) < N.depth (.mk k2 f2 t2 w2 a2 z2 ks2):=by omega
     simp [h60']
     simp [RetK,cut_app hcl]
     exact hnone 25 0 (by rw [hpp]; simp [h60])
   · have h60':¬ (60:Int) < N.depth (.mk k2 f2 t2 w2 a2 z2 ks2):=by omega
     simp [h60']
     simp [RetK,cut_app hcl]
     subst hQ
     rw [hpp]
     simp [h60,N.v_mk]
theorem Has.of7 {f fl fp tn} (h:Has P f (irR7Of fl fp tn)) (hl:∀ (s:Bs),s.length≤1048576→∀ H,ACall P fl [.d (.str s)] H (fun r H'=>r = .tup [.d (.sl true 4 ((lexS s).1.map encTk)),.d (.int .i64 (lexS s).2.1),.d (.int .i64 (lexS s).2.2)]∧H'=H))
 (hp:∀ (z:Bool) (L:List Tk),L.length≤1048576→∀ H,ACall P fp [.d (.sl z 4 (L.map encTk))] H (fun r H'=>r = .tup [(parseP L).1.v,.d (.int .i64 (parseP L).2.1),.d (.int .i64 (parseP L).2.2)]∧H'=H))
 (s:Bs) (hs:s.length≤1048576) (H:Hp) :
 ACall P f [.d (.str s)] H (fun r H'=>r = .tup [.d (.sl true 4 ((parseO s).1.map encTk)),(parseO s).2.1.v,.d (.int .i64 (parseO s).2.2.1),.d (.int .i64 (parseO s).2.2.2)]∧H'=H):=by
 obtain ⟨fn,hf,hcf⟩:=h
 refine acall_fin hf hcf (by simp [irR7Of]) fun hcl _ => ?_
 obtain ⟨Q,hQ⟩:∃ Q:A→Hp→Prop,Q=fun r H'=>r = .tup [.d (.sl true 4 ((parseO s).1.map encTk)),(parseO s).2.1.v,.d (.int .i64 (parseO s).2.2.1),.d (.int .i64 (parseO s).2.2.2)]∧H'=H:=⟨_,rfl⟩
 rw [← hQ]
 have hnone:∀ e b:Int,parseO s=([],N.none,e,b)→Q (.tup [.d (.sl true 4 []),.agg [.d (.int .i64 0),.d (.int .i64 0),.d (.int .i64 0),.d (.str []),.d (.int .i64 0),.d (.sl true 6 [])],.d (.int .i64 e),.d (.int .i64 b)]) H:=fun e b h=>by
  subst hQ
  rw [h]
  exact ⟨rfl,rfl⟩
 have hO:parseO s=if (lexS s).2.1 ≠ 0 then ([],N.none,(lexS s).2.1,(lexS s).2.2)
  else if (parseP (lexS s).1).2.1 ≠ 0 then ([],N.none,(parseP (lexS s).1).2.1,match (lexS s).1[(parseP (lexS s).1).2.2.toNat]? with | some t=>(t.a:Int) | none=>0)
  else ((lexS s).1,(parseP (lexS s).1).1,0,0):=rfl
 have hlk:=lexS_like (s:=s)
 have g1:=hl s hs (H++[Ob.box tn [.d (.int .i64 0),.d (.int .i64 0),.d (.int .i64 0),.d (.str []),.d (.int .i64 0),.d (.sl true 6 [])]])
 generalize lexS s=LS at hO hlk g1
 obtain ⟨L,e,b⟩:=LS
 simp only at hO hlk g1
 simp [irR7Of]
 refine CallK_of' g1 ?_
 by_cases he:e=0
 case neg =>
  rw [if_pos he] at hO
  simp [he]
  simp [RetK,cut_app hcl]
  exact hnone e b hO
 rw [if_neg (by simp [he])] at hO
 obtain ⟨l1,l2,l3,l4,l5⟩:=hlk he
 have hat:=parseP_at l2 l1
 have g2:=hp true L (by omega)
 generalize parseP L=PS at hO hat g2
 obtain ⟨m,e2,b2⟩:=PS
 simp only at hO hat g2
 simp [he]
 refine CallK_of' (g2 _) ?_
 obtain ⟨k,f',t,w,a,z,ks⟩:=m
 rw [N.v_mk]
 obtain ⟨hb0,hb1⟩:=hat
 obtain ⟨q,rfl⟩:∃ q:Nat,b2=(q:Int):=⟨b2.toNat,by omega⟩
 simp only [Int.toNat_natCast] at hO hb1
 have hr:=rowAt_map encTk hb1
 rw [List.getElem?_eq_getElem hb1] at hO
 generalize L[q]=tk at hr hO
 obtain ⟨tk,ta,tl,tx⟩:=tk
 simp only [encTk] at hr
 simp
 by_cases he2:e2=0
 case neg =>
  rw [if_pos he2] at hO
  simp [he2,hr]
  repeat' apply And.intro
  all_goals
   simp [RetK,cut_app hcl]
   try exact hnone e2 ta hO
 rw [if_neg (by simp [he2])] at hO
 simp [he2]
 simp [RetK,cut_app hcl]
 subst hQ
 rw [hO]
 exact ⟨by rw [N.v_mk],rfl⟩
end
end
end Go.Zam
namespace Go.Proofs.Zl
section
open Go Go.Zam Go.Proofs
theorem rcf4:compF Tryz.prog [] Tryz.f4=some (irR7Of 10 11 25):=by kernel_rfl
theorem rcf11:compF Tryz.prog [] Tryz.f11=some (irR7Parse 22 23 25 63):=by kernel_rfl
theorem rcf108:compF Tryz.prog [9] Tryz.f108=some (irR7Kind 47 68 69 108 50 25):=by kernel_rfl
theorem rcf23:compF Tryz.prog [] Tryz.f23=some (irR6Depth 23 25):=by kernel_rfl
theorem rcf22:compF Tryz.prog [4] Tryz.f22=some (irR7File 47 48 49 50 25):=by kernel_rfl
theorem rcf47:compF Tryz.prog [] Tryz.f47=some (irR7Is 35):=by kernel_rfl
theorem rcf68:compF Tryz.prog [] Tryz.f68=some (irR7Word 25):=by kernel_rfl
theorem rcf69:compF Tryz.prog [] Tryz.f69=some (irR7Want 47):=by kernel_rfl
theorem rcf50:compF Tryz.prog [] Tryz.f50=some (irR7Ended 25):=by kernel_rfl
theorem rcf48:compF Tryz.prog [] Tryz.f48=some (irR7Use 68 69 50 25):=by kernel_rfl
theorem rcf49:compF Tryz.prog [] Tryz.f49=some (irR7Def 69 68 70 50 25):=by kernel_rfl
theorem rcf70:compF Tryz.prog [] Tryz.f70=some (irR7Lambda 92 93 94 25):=by kernel_rfl
theorem rcf92:compF Tryz.prog [7] Tryz.f92=some (irR7Params 69 47 68 93 50 25):=by kernel_rfl
theorem rcf93:compF Tryz.prog [] Tryz.f93=some (irR7Typed 47 108 25):=by kernel_rfl
theorem rcf94:compF Tryz.prog [7] Tryz.f94=some (irR7Block 69 47 109 50 25):=by kernel_rfl
theorem rcf109:compF Tryz.prog [8,47] Tryz.f109=some (irR7Stmt 47 120 94 50 68 93 69 25):=by kernel_rfl
theorem rcf120:compF Tryz.prog [] Tryz.f120=some (irR7Expr 131 47 50 25):=by kernel_rfl
theorem rcf131:compF Tryz.prog [] Tryz.f131=some (irR7Sum 138 47 50 25):=by kernel_rfl
theorem rcf138:compF Tryz.prog [] Tryz.f138=some (irR7Term 141 47 50 25):=by kernel_rfl
theorem rcf141:compF Tryz.prog [10,56] Tryz.f141=some (irR7Post 144 47 68 50 120 69 25):=by kernel_rfl
theorem rcf144:compF Tryz.prog [11] Tryz.f144=some (irR7Atom 47 120 69 50 68 70 25 35):=by kernel_rfl
theorem rcf10:compF Tryz.prog [6] Tryz.f10=some (irR4Lex 19 20 21 35):=by kernel_rfl
theorem rcf20:compF Tryz.prog [] Tryz.f20=some (irR4Lead):=by kernel_rfl
theorem rcf21:compF Tryz.prog [] Tryz.f21=some (irR4One 43 44 45 46):=by kernel_rfl
theorem rcf19:compF Tryz.prog [] Tryz.f19=some (irR3Bad 42):=by kernel_rfl
theorem rcf42:compF Tryz.prog [] Tryz.f42=some (irR3Next 67):=by kernel_rfl
theorem rcf67:compF Tryz.prog [] Tryz.f67=some (irR3More):=by kernel_rfl
theorem rcf46:compF Tryz.prog [] Tryz.f46=some (irR3Unquote):=by kernel_rfl
theorem lex4Ok (s:Bs) (hs:s.length≤1048576) (H:Hp) :
 ACall Tryz.prog 10 [.d (.str s)] H (fun r H'=>r = .tup [.d (.sl true 4 ((lexS s).1.map encTk)),.d (.int .i64 (lexS s).2.1),.d (.int .i64 (lexS s).2.2)]∧H'=H) :=
 HasT.lex4 ⟨_,Tryz.func10,rcf10⟩
  (fun s H hs=>Has.bad3 ⟨_,Tryz.func19,rcf19⟩ (fun s n hn hl H=>Has.next3 ⟨_,Tryz.func42,rcf42⟩ (Has.more3 ⟨_,Tryz.func67,rcf67⟩) s n hn hl H) s hs H)
  (fun s n hn hl H=>Has.lead4 ⟨_,Tryz.func20,rcf20⟩ s n hn hl H)
  (fun s n hn hl H=>Has.one4 ⟨_,Tryz.func21,rcf21⟩ rletterOk rdigitOk risKeyOk (fun s H hs=>Has.unquote3 ⟨_,Tryz.func46,rcf46⟩ s hs H) s n hn hl H) s hs H
def Rf:RF := { kind:=108,file:=22,is:=47,word:=68,want:=69,ended:=50,use_:=48,def_:=49,lambda:=70,params:=92,typed:=93,block:=94,stmt:=109,expr:=120,sum:=131,term:=138,post:=141,atom:=144,tn:=25,tt:=35,tr:=63 }
theorem rHas:RHasA Tryz.prog Rf where
 is:=⟨_,Tryz.func47,rcf47⟩
 word:=⟨_,Tryz.func68,rcf68⟩
 want:=⟨_,Tryz.func69,rcf69⟩
 ended:=⟨_,Tryz.func50,rcf50⟩
 use_:=⟨_,Tryz.func48,rcf48⟩
 def_:=⟨_,Tryz.func49,rcf49⟩
 lambda:=⟨_,Tryz.func70,rcf70⟩
 typed:=⟨_,Tryz.func93,rcf93⟩
 params:=⟨_,Tryz.func92,rcf92⟩
 kind:=⟨_,Tryz.func108,rcf108⟩
 block:=⟨_,Tryz.func94,rcf94⟩
 stmt:=⟨_,Tryz.func109,rcf109⟩
 expr:=⟨_,Tryz.func120,rcf120⟩
 sum:=⟨_,Tryz.func131,rcf131⟩
 term:=⟨_,Tryz.func138,rcf138⟩
 post:=⟨_,Tryz.func141,rcf141⟩
 atom:=⟨_,Tryz.func144,rcf144⟩
 file:=⟨_,Tryz.func22,rcf22⟩
theorem refOfOk (s:Bs) (hs:s.length≤1048576) (H:Hp) :
 ACall Tryz.prog 4 [.d (.str s)] H (fun r H'=>r = .tup [.d (.sl true 4 ((parseO s).1.map encTk)),(parseO s).2.1.v,.d (.int .i64 (parseO s).2.2.1),.d (.int .i64 (parseO s).2.2.2)]∧H'=H) :=
 Has.of7 ⟨_,Tryz.func4,rcf4⟩ (fun s hs H=>lex4Ok s hs H) (fun z L hL H=>Has.parse7 (R:=Rf) ⟨_,Tryz.func11,rcf11⟩ rHas ⟨_,Tryz.func23,rcf23⟩ hL H) s hs H
end
end Go.Proofs.Zl
