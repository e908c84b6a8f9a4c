/-
  Texts of one proof, one behind the other.
-/
import Derived.Test.YthhlbefhanplhaaGreatDoorM6
import Derived.Test.YthhlbefhanplhaaGreatDoorM4
import Derived.Test.YthhlbefhanplhaaGreatDoorM3
import Derived.Sort.Row
import Derived.Sort.Grow
import Derived.Sort.EncStr
import Derived.Laws.AppendOwn
import Derived.Lib.SlicesCompact
import Derived.Sort.Walk0
import Derived.Test.YthhlbefhanplhaaGreatDoorM5
import Derived.KernelRfl
set_option linter.all false
set_option maxRecDepth 100000
set_option maxHeartbeats 4000000
namespace Go.Zam
section
def deferF (P:Program) (tok:List Nat) (fn:Func):Option (Nat × C × C × List IOp × Nat × C) :=
 match fn.body with
 | some (.seq ca0 (.seq ca (.seq (.region _ ops false) cb))) =>
   match ops.toList.getLast? with
   | some od =>
     match guardOf ops od.guard,od.dst,od.op with
     | some none, none, .defer c =>
       match c.callee with
       | .value (.tmp s)=>if c.args.size=0∧fn.results.size=0 then some (fn.ntmps,compC P fn.ntmps tok ca0,compC P fn.ntmps tok ca,ops.toList.dropLast.map (compO P fn.ntmps tok ops),s,compC P fn.ntmps tok cb) else none
       | _=>none
     | _,_,_=>none
   | none=>none
 | _=>none
theorem acall_deferF {P:Program} {f:FuncId} {fn:Func} {tok:List Nat} {args:List A} {H:Hp} {K:A→Hp→Prop} {nt s:Nat} {c0 c1 cb:C} {l:List IOp} (hf:P.funcs[f]?=some fn) (hd:deferF P tok fn=some (nt,c0,c1,l,s,cb)) (hn:args.length≤nt)
 (h:H.Closed→AWp P H.length c0 (OnlyN fun fr0 H0=>H.length≤H0.length∧(Hp.Closed H0→AWp P H0.length c1 (OnlyN fun fr1 H1=>AOps P l (fun fr2 H2=>∃ g cap,fr2 s = .fn (.func g) [] cap∧callOk P g=true ∧
  (Hp.Closed H2→AWp P H2.length cb (NoRes fun H3=>ACallD P g cap H3 fun H4=>∃ m,H.length≤m∧m≤H4.length∧K (.tup []) (Hp.cut m H4)) fr2 H2)) fr1 H1) fr0 H0)) (Fr.init args) H):ACall P f args H K:=by
 unfold deferF at hd
 split at hd
 · rename_i ca0 ca id ops cbb hb
   split at hd
   · rename_i od hod
     split at hd
     · rename_i c hg hdst hop
       split at hd
       · rename_i s' hcal
         split at hd
         · rename_i hsz
           cases hd
           have hops:ops.toList=ops.toList.dropLast++[od]:=by
            have hne:ops.toList ≠ []:=fun e=>by rw [e] at hod; cases hod
            rw [List.getLast?_eq_some_getLast hne] at hod
            cases hod
            exact (List.dropLast_concat_getLast hne).symm
           exact acall_defer2 hf hb hops hg hdst hop hcal (Array.eq_empty_of_size_eq_zero hsz.1) (Array.eq_empty_of_size_eq_zero hsz.2) hn h
         · cases hd
       · cases hd
     · cases hd
   · cases hd
 · cases hd
theorem acallD_ir {P:Program} {f:FuncId} {fn:Func} {tok:List Nat} {ifn:IFn} {args:List A} {H:Hp} {K:Hp→Prop} (hf:P.funcs[f]?=some fn) (hc:compF P tok fn=some ifn) (hr:ifn.res=[]) (hn:args.length≤ifn.nt)
 (h:H.Closed→AWp P H.length ifn.body (NoRes K) (Fr.init args) H):ACallD P f args H K:=by
 unfold compF at hc
 split at hc
 · rename_i c rs hb hrs
   cases hc
   simp only at hr hn h
   subst hr
   have:fn.results = #[]:=by
    cases hl:fn.results.toList with
    | nil=>exact Array.toList_eq_nil_iff.1 hl
    | cons x r =>
      rw [hl] at hrs
      simp only [List.mapM_cons,Option.bind_eq_bind,Option.bind_eq_some_iff,Option.pure_def] at hrs
      obtain ⟨_,_,_,_,h⟩:=hrs
      cases h
   exact acallD_of hf hb this hn h
 · cases hc
@[simp ↓] theorem OnlyN_normal {K:Fr→Hp→Prop} {fr:Fr} {H:Hp}:OnlyN K .normal fr H=K fr H:=propext Iff.rfl
@[simp ↓] theorem NoRes_normal {K:Hp→Prop} {fr:Fr} {H:Hp}:NoRes K .normal fr H=K H:=propext Iff.rfl
@[simp ↓] theorem NoRes_ret {K:Hp→Prop} {fr:Fr} {H:Hp}:NoRes K .ret fr H=K H:=propext Iff.rfl
structure SHas (P:Program) (F:SF):Prop where
 wrong:HasT P [2000021] F.wrong (irScWrong F.ed)
 bind:Has P F.bind (irScBind F.wrong F.tn F.bd)
 res:Has P F.res irScRes
 kRes:callOk P F.res=true
 node:HasT P [6000028] F.node (irScNode F.within F.kids F.bind F.mention F.closed F.nodeC F.tp F.tn)
 nodeC:Has P F.nodeC (irScNodeC F.kids)
 kNodeC:callOk P F.nodeC=true
 kids:Has P F.kids (irScKids F.node F.tn)
 mention:Has P F.mention (irScMention F.find F.wrong F.tn F.mn)
 find:Has P F.find irScFind
 closed:Has P F.closed (irScClosed F.within F.closedC F.tp F.ts)
 closedC:HasT P [6000022,6000028] F.closedC (irScClosedC F.bind F.node F.tn)
 kClosedC:callOk P F.closedC=true
section
variable {P:Program} {F:SF} {c:SC} {S S':SM} {now:A} {item:Int} {G:Nms} {H:Hp}
theorem sput_bad (h:SInv F c S now item G H) (l:List (Int × Int)):sput F c ⟨S.bs,S.ms,l⟩ H=(H.set c.tv (.vec 2 F.ed l.length (l.map encBad))).set c.im (mbox F c ⟨S.bs,S.ms,l⟩):=by
 obtain ⟨a,b,d,e,f⟩:=h.nd
 unfold sput
 rw [Hp.set_self (i:=c.tm) (by rw [List.getElem?_set_ne d.1.symm]; exact h.e),Hp.set_self (i:=c.tb) (by rw [List.getElem?_set_ne b.2.1.symm]; exact h.b)]
theorem sput_bs (h:SInv F c S now item G H) (l:List SBd):sput F c ⟨l,S.ms,S.bad⟩ H=(H.set c.tb (.tok l.length 4 F.bd)).set c.im (mbox F c ⟨l,S.ms,S.bad⟩):=by
 unfold sput
 rw [Hp.set_self h.v,Hp.set_self h.e]
theorem sput_ms (h:SInv F c S now item G H) (l:List Mn):sput F c ⟨S.bs,l,S.bad⟩ H=(H.set c.tm (.tok l.length 4 F.mn)).set c.im (mbox F c ⟨S.bs,l,S.bad⟩):=by
 obtain ⟨a,b,d,e,f⟩:=h.nd
 unfold sput
 rw [Hp.set_self h.v,Hp.set_self (i:=c.tb) (by rw [List.getElem?_set_ne b.1.symm]; exact h.b)]
theorem SHas.wrong' (hF:SHas P F) (h:SInv F c S now item G H) (at_ e:Int) (hb:S.sz≤4398046511104) :
 ACall P F.wrong [.ptr c.ib 0,.d (.int .i64 at_),.d (.int .i64 e)] H (fun r H'=>r = .tup []∧H'=sput F c ⟨S.bs,S.ms,S.bad++[(at_,e)]⟩ H):=by
 obtain ⟨fn,hf,hcf⟩:=hF.wrong
 refine acall_fin hf hcf (by simp [irScWrong]) fun hcl _ => ?_
 have hi:=h.i
 have hm:=h.m
 have hv:=h.v
 obtain ⟨a,-,-,d4,-⟩:=h.nd
 have hm2:∀ o,(H.set c.tv o)[c.im]?=some (mbox F c S):=fun o=>by rw [List.getElem?_set_ne a.2.2.1.symm]; exact hm
 have hfit:(S.bad.length+1) * 16≤140737488355328:=by unfold SM.sz at hb; omega
 have hcut:=sput_cut (S':=⟨S.bs,S.ms,S.bad++[(at_,e)]⟩) h hcl
 rw [sput_bad h] at hcut ⊢
 simp only [mbox] at hm hm2 hcut ⊢
 have htk:List.take S.bad.length (S.bad.map encBad)=S.bad.map encBad:=List.take_of_length_le (by simp)
 simp [irScWrong,hi,hm,hm2,hv,hfit,htk]
 simp [RetK]
 simp [encBad] at hcut ⊢
 exact hcut
theorem SHas.res' (hF:SHas P F) {i j ib:Nat} {tb:TypeId} {im g now0 now1 it:A} {t1 t2:TypeId} (hi:H[i]?=some (.box t1 [now1])) (hj:H[j]?=some (.box t2 [.ptr ib 0])) (hb:H[ib]?=some (.box tb [im,now0,g,it])) (hn:now1 = .d .nilp∨∃ k,now1 = .ptr k 0) :
 ACallD P F.res [.ptr i 0,.ptr j 0] H (fun H'=>H'=H.set ib (.box tb [im,now1,g,it])):=by
 obtain ⟨fn,hf,hcf⟩:=hF.res
 refine acallD_ir hf hcf rfl (by simp [irScRes]) fun hcl => ?_
 rcases hn with rfl | ⟨k,rfl⟩<;>simp [irScRes,hi,hj,hb]
theorem SHas.bind' (hF:SHas P F) (h:SInv F c S now item G H) {m:Nat} {es:Nms} (hm:H[m]?=some (.mp (encNms es))) (hoff:c.off m∧m ≠ c.ib) (n:N) (kind:Int) (hb:S.sz≤2199023255552) :
 ACall P F.bind [.ptr c.ib 0,.map m,n.v,.d (.int .i64 kind)] H (fun r H'=>r = .tup []∧H'=nput F c (bindP kind item n es S).2 m (bindP kind item n es S).1 H):=by
 obtain ⟨fn,hf,hcf⟩:=hF.bind
 refine acall_fin hf hcf (by simp [irScBind]) fun hcl _ => ?_
 obtain ⟨k,f,t,w,a,z,ks⟩:=n
 rw [N.v_mk]
 have hml:=scan_len hm
 obtain ⟨p1,p2,p3,p4,p5,p6⟩:=h.lt
 obtain ⟨na,nb,nd,ne,nf⟩:=h.nd
 obtain ⟨bx,hbx⟩:∃ bx,bx=Ob.box F.tn [.d (.int .i64 k),.d (.int .i64 f),.d (.int .i64 t),.d (.str w),.d (.int .i64 a),.d (.sl z 6 (ks.map N.enc))]:=⟨_,rfl⟩
 have hA:=get_app hm
 have hg:=mpGet_nms w es
 have hok:=mpOk_nms w es
 have hput:=mpPut_nms w S.bs.length es
 have hfit:(S.bs.length+1) * 40≤140737488355328:=by unfold SM.sz at hb; omega
 have key:∀ (S1:SM) (W:Hp),W=sput F c S1 H++[bx]→S1.bs=S.bs→S1.ms=S.ms→(bindP kind item (.mk k f t w a z ks) es S).2=⟨S1.bs++[⟨a,kind,w,item⟩],S1.ms,S1.bad⟩ →
  W[H.length]?=some bx∧W[m]?=some (.mp (encNms es))∧W[c.ib]?=some (.box F.tb [.ptr c.im 0,now,.map c.g,.d (.int .i64 item)])∧W[c.im]?=some (mbox F c S1)∧(∀ o,(W.set m o)[H.length]?=some bx)∧(∀ o,(W.set m o)[c.ib]?=some (.box F.tb [.ptr c.im 0,now,.map c.g,.d (.int .i64 item)]))∧(∀ o,(W.set m o)[c.im]?=some (mbox F c S1)) ∧
  (∀ o,(W.set m o)[c.tb]?=some (.tok S.bs.length 4 F.bd))∧(∀ o o',((W.set m o).set c.tb o')[c.im]?=some (mbox F c S1))∧H.length≤W.length ∧
  Hp.cut H.length (((W.set m (.mp (encNms (nmPut w S.bs.length es)))).set c.tb (.tok (S.bs.length+1) 4 F.bd)).set c.im (mbox F c ⟨S1.bs++[⟨a,kind,w,item⟩],S1.ms,S1.bad⟩))=nput F c (bindP kind item (.mk k f t w a z ks) es S).2 m (bindP kind item (.mk k f t w a z ks) es S).1 H:=by
  rintro S1 W rfl e1 e2 e3
  have hs1:=h.put S1
  have hs2:=hs1.app [bx]
  have hl:H.length=(sput F c S1 H).length:=sput_len.symm
  have g1:(sput F c S1 H++[bx])[H.length]?=some bx:=by rw [hl]; simp
  have hmn:m ≠ H.length:=by omega
  have e4:(bindP kind item (.mk k f t w a z ks) es S).1=nmPut w S.bs.length es:=rfl
  refine ⟨g1,get_app (by rw [sput_off hoff.1]; exact hm) _,hs2.i,hs2.m,fun o=>by rw [List.getElem?_set_ne hmn]; exact g1,fun o=>by rw [List.getElem?_set_ne hoff.2]; exact hs2.i,fun o=>by rw [List.getElem?_set_ne hoff.1.1]; exact hs2.m,
   fun o=>by rw [List.getElem?_set_ne hoff.1.2.1,← e1]; exact hs2.b,fun o o'=>by rw [List.getElem?_set_ne na.1.symm,List.getElem?_set_ne hoff.1.1]; exact hs2.m,by simp [sput_len],?_⟩
  rw [e3,e4]
  have hsb:=sput_bs hs1 (S1.bs++[⟨a,kind,w,item⟩])
  rw [sput_sput] at hsb
  unfold nput
  have hX:((((sput F c S1 H++[bx]).set m (.mp (encNms (nmPut w S.bs.length es)))).set c.tb (.tok (S.bs.length+1) 4 F.bd)).set c.im (mbox F c ⟨S1.bs++[⟨a,kind,w,item⟩],S1.ms,S1.bad⟩))=(sput F c ⟨S1.bs++[⟨a,kind,w,item⟩],S1.ms,S1.bad⟩ H).set m (.mp (encNms (nmPut w S.bs.length es)))++[bx]:=by
   rw [hsb,List.set_append_left _ _ (by rw [sput_len]; exact hml),List.set_append_left _ _ (by rw [List.length_set,sput_len]; exact p2),List.set_append_left _ _ (by rw [List.length_set,List.length_set,sput_len]; exact p1)]
   congr 1
   rw [List.set_comm _ _ hoff.1.2.1,List.set_comm _ _ hoff.1.1,e1]
   simp
  rw [hX,cut_appL (by rw [List.length_set,sput_len]),Hp.cut_set,sput_cut h hcl,encNms_clr]
 cases hgg:nmGet w es with
 | none =>
   have k0:=key S (H++[bx]) (by rw [sput_self h]) rfl rfl (by simp [bindP,SM.bind,hgg,N.at_,N.w])
   rw [hgg] at hg
   obtain ⟨q1,q2,q3,q4,q5,q6,q7,q8,q9,q10,q11⟩:=k0
   simp only [mbox] at q4 q7 q9 q11
   subst hbx
   simp [irScBind,-mpOk,-mpGet,-mpPut,q2,hg,hok]
   generalize H++_=W at q1 q2 q3 q4 q5 q6 q7 q8 q9 q10 q11 ⊢
   simp [-mpOk,-mpGet,-mpPut,q1,q2,hg,hok,q3,q4,q5,q6,q7,q8,q9,hput,hfit,appA]
   simp [RetK,q10]
   simp [encBd] at q11 ⊢
   exact q11
 | some i =>
   have k0:=key ⟨S.bs,S.ms,S.bad++[(a,31)]⟩ _ rfl rfl rfl (by simp [bindP,SM.bind,hgg,N.at_,N.w])
   rw [hgg] at hg
   have gw:=hF.wrong' (h.app [bx]) a 31 (by omega)
   rw [sput_app h] at gw
   obtain ⟨q1,q2,q3,q4,q5,q6,q7,q8,q9,q10,q11⟩:=k0
   simp only [mbox] at q4 q7 q9 q11
   have hA1:=hA [bx]
   subst hbx
   simp [irScBind,-mpOk,-mpGet,-mpPut,hA1,hg,hok]
   refine CallK_of' gw ?_
   generalize sput F c ⟨S.bs,S.ms,S.bad++[(a,31)]⟩ H++_=W at q1 q2 q3 q4 q5 q6 q7 q8 q9 q10 q11 ⊢
   simp [-mpOk,-mpGet,-mpPut,q1,q2,hg,hok,q3,q4,q5,q6,q7,q8,q9,hput,hfit,appA]
   simp [RetK,q10]
   simp [encBd] at q11 ⊢
   exact q11
end
end
section
section
variable {P:Program} {F:SF} {c:SC} {S S':SM} {now:A} {item:Int} {G:Nms} {H:Hp}
theorem ChainAt.clr {l:List (Nat × Nat × Frm)} {a:A} (h:ChainAt F H a l):a.clr H.length=a:=by
 rcases h.val with ⟨rfl,-⟩ | ⟨i,m,f,r,-,rfl,hi⟩
 · simp
 · simp [hi]
def muF:A→Nat
 | .ptr i _=>i+1
 | _=>0
theorem SHas.find' (hF:SHas P F) (h:SInv F c S now item G H) {E:List (Nat × Nat × Frm)} (hc:ChainAt F H now E) (w:Bs) (hE:E.length≤1099511627776) :
 ACall P F.find [.ptr c.ib 0,.d (.str w)] H (fun r H'=>r = .tup [.d (.int .i64 (findP G w (E.map fun x=>x.2.2) 0).1),.d (.int .i64 (findP G w (E.map fun x=>x.2.2) 0).2)]∧H'=H):=by
 obtain ⟨fn,hf,hcf⟩:=hF.find
 refine acall_fin hf hcf (by simp [irScFind]) fun hcl _ => ?_
 have hi:=h.i
 have hG:=h.g
 have hil:=(h.lt).2.2.2.2.1
 have hg:=mpGet_nms w
 have hok:=mpOk_nms w
 simp [irScFind,hi]
 refine LoopK_of H.length (fun fr H'=>H'=H∧fr 0 = .ptr c.ib 0∧fr 1 = .d (.str w)∧∃ a E' far,fr 6=a∧ChainAt F H a E'∧fr 5 = .d (.int .i64 far)∧0≤far∧far+E'.length≤1099511627776∧findP G w (E'.map fun x=>x.2.2) far=findP G w (E.map fun x=>x.2.2) 0) (fun fr _=>muF (fr 6)) (by simp)
  ⟨cut_self hcl,by simp [hil],by simp,now,E,0,by simpa using hc.clr,hc,by simp,Int.le_refl _,by omega,rfl⟩ ?_
 rintro fr H' ⟨rfl,f0,f1,a,E',far,f6,hch,f5,h0,hle,hfe⟩
 cases E' with
 | nil =>
   simp only [ChainAt] at hch
   subst hch
   rw [← hfe]
   simp only [List.map_nil,findP]
   cases hgg:nmGet w G with
   | none=>simp [f0,f1,f5,f6,hi,hG,-mpOk,-mpGet,hok,hg,hgg,RetK,cut_self hcl]
   | some q=>simp [f0,f1,f5,f6,hi,hG,-mpOk,-mpGet,hok,hg,hgg,RetK,cut_self hcl]
 | cons x r =>
   obtain ⟨i,m,ff⟩:=x
   obtain ⟨rfl,hlt,up,h1,h2,h3⟩:=hch
   have hu:up.clr H'.length=up:=h3.clr
   rw [← hfe]
   simp only [List.map_cons,findP]
   simp only [List.map_cons,findP] at hfe
   cases hgg:nmGet w ff.es with
   | some q=>simp [f0,f1,f5,f6,h1,h2,-mpOk,-mpGet,hok,hg,hgg,RetK,cut_self hcl]
   | none =>
     rw [hgg] at hfe
     simp only at hfe
     have hw:IntKind.i64.wrap (far+1)=far+1:=wrap_i64 (by omega) (by simp only [List.length_cons] at hle; omega)
     have hm:muF (up.clr H'.length) < muF (.ptr i 0):=by
      rw [hu]
      rcases h3.val with ⟨rfl,-⟩ | ⟨i',m',f',r',rfl,rfl,-⟩
      · simp [muF]
      · have:=hlt (i',m',f') (by simp)
        simp [muF] at this ⊢; omega
     cases hlam:ff.lam with
     | true =>
       rw [hlam] at h1 hfe
       simp [f0,f1,f5,f6,h1,h2,-mpOk,-mpGet,hok,hg,hgg,hw]
       refine AgainK_of (by simp) ⟨cut_self hcl,by simp [f0,hil],by simp [f1],up,r,far+1,by simpa using hu,h3,by simp,by omega,by simp only [List.length_cons] at hle; omega,?_⟩ ?_
       · rfl
       · exact hm
     | false =>
       rw [hlam] at h1 hfe
       simp [f0,f1,f5,f6,h1,h2,-mpOk,-mpGet,hok,hg,hgg]
       refine AgainK_of (by simp) ⟨cut_self hcl,by simp [f0,hil],by simp [f1],up,r,far,by simpa using hu,h3,by simp [f5],by omega,by simp only [List.length_cons] at hle; omega,?_⟩ ?_
       · rfl
       · exact hm
theorem SHas.mention' (hF:SHas P F) (h:SInv F c S now item G H) {E:List (Nat × Nat × Frm)} (hc:ChainAt F H now E) (n:N) (wr:Bool) (hE:E.length≤1099511627776) (hb:S.sz≤2199023255552) (hG:FOk S.bs.length G) (hO:∀ x ∈ E,FOk S.bs.length x.2.2.es) :
 ACall P F.mention [.ptr c.ib 0,n.v,.d (.bool wr)] H (fun r H'=>r = .tup []∧H'=sput F c (S.men n wr (findP G n.w (E.map fun x=>x.2.2) 0)) H):=by
 obtain ⟨fn,hf,hcf⟩:=hF.mention
 refine acall_fin hf hcf (by simp [irScMention]) fun hcl _ => ?_
 obtain ⟨k,f,t,w,a,z,ks⟩:=n
 rw [N.v_mk]
 obtain ⟨p1,p2,p3,p4,p5,p6⟩:=h.lt
 obtain ⟨na,nb,nd,ne,nf⟩:=h.nd
 obtain ⟨bx,hbx⟩:∃ bx,bx=Ob.box F.tn [.d (.int .i64 k),.d (.int .i64 f),.d (.int .i64 t),.d (.str w),.d (.int .i64 a),.d (.sl z 6 (ks.map N.enc))]:=⟨_,rfl⟩
 have hfit:(S.ms.length+1) * 32≤140737488355328:=by unfold SM.sz at hb; omega
 have gf:=hF.find' (h.app [bx]) (hc.app [bx]) w hE
 have hok:=findP_ok hG w (E.map fun x=>x.2.2) 0 (fun f hf=>by
  obtain ⟨x,hx,rfl⟩:=List.mem_map.1 hf
  exact hO x hx) (Int.le_refl _)
 have hmen:S.men (.mk k f t w a z ks) wr (findP G w (E.map fun x=>x.2.2) 0)=⟨S.bs,S.ms++[⟨a,(findP G w (E.map fun x=>x.2.2) 0).1,wr,(findP G w (E.map fun x=>x.2.2) 0).2⟩],if (findP G w (E.map fun x=>x.2.2) 0).1 < 0 then S.bad++[(a,30)] else if wr∧(S.bs.getD (findP G w (E.map fun x=>x.2.2) 0).1.toNat default).k < 3 then S.bad++[(a,35)] else S.bad⟩:=rfl
 rw [show N.w (.mk k f t w a z ks)=w from rfl,hmen]
 generalize findP G w (E.map fun x=>x.2.2) 0=p at gf hok ⊢
 obtain ⟨to,far⟩:=p
 obtain ⟨hto,hf0,hf1⟩:=hok
 simp only at hto hf0 hf1 ⊢
 have key:∀ (bad:List (Int × Int)) (W:Hp),W=sput F c ⟨S.bs,S.ms,bad⟩ H++[bx] →
  W[H.length]?=some bx∧W[c.ib]?=some (.box F.tb [.ptr c.im 0,now,.map c.g,.d (.int .i64 item)])∧W[c.im]?=some (mbox F c ⟨S.bs,S.ms,bad⟩)∧W[c.tm]?=some (.tok S.ms.length 4 F.mn)∧(∀ o,(W.set c.tm o)[c.im]?=some (mbox F c ⟨S.bs,S.ms,bad⟩))∧H.length≤W.length ∧
  Hp.cut H.length ((W.set c.tm (.tok (S.ms.length+1) 4 F.mn)).set c.im (mbox F c ⟨S.bs,S.ms++[⟨a,to,wr,far⟩],bad⟩))=sput F c ⟨S.bs,S.ms++[⟨a,to,wr,far⟩],bad⟩ H:=by
  rintro bad W rfl
  have hs1:=h.put ⟨S.bs,S.ms,bad⟩
  have hs2:=hs1.app [bx]
  have hl:H.length=(sput F c ⟨S.bs,S.ms,bad⟩ H).length:=sput_len.symm
  refine ⟨by rw [hl]; simp,hs2.i,hs2.m,hs2.e,fun o=>by rw [List.getElem?_set_ne na.2.1.symm]; exact hs2.m,by simp [sput_len],?_⟩
  have hsb:=sput_ms hs1 (S.ms++[⟨a,to,wr,far⟩])
  rw [sput_sput] at hsb
  have hX:((sput F c ⟨S.bs,S.ms,bad⟩ H++[bx]).set c.tm (.tok (S.ms.length+1) 4 F.mn)).set c.im (mbox F c ⟨S.bs,S.ms++[⟨a,to,wr,far⟩],bad⟩)=sput F c ⟨S.bs,S.ms++[⟨a,to,wr,far⟩],bad⟩ H++[bx]:=by
   rw [hsb,List.set_append_left _ _ (by rw [sput_len]; exact p3),List.set_append_left _ _ (by rw [List.length_set,sput_len]; exact p1)]
   simp
  rw [hX]
  exact sput_cutX h hcl [bx]
 have hh:=h.app [bx]
 have e1:=hh.i
 have e2:=hh.m
 have e3:(H++[bx])[H.length]?=some bx:=by simp
 have hW0:H++[bx]=sput F c ⟨S.bs,S.ms,S.bad⟩ H++[bx]:=by rw [sput_self h]
 simp only [mbox] at e2
 by_cases hneg:to < 0
 · have gw:=hF.wrong' hh a 30 (by omega)
   rw [sput_app h] at gw
   obtain ⟨q1,q2,q3,q4,q5,q6,q7⟩:=key (S.bad++[(a,30)]) _ rfl
   simp only [mbox] at q3 q5 q7
   have hbx':=hbx
   subst hbx
   simp [irScMention]
   refine CallK_of' gf ?_
   generalize H++_=W0 at gw e1 e2 e3 ⊢
   simp [hneg,e3]
   refine CallK_of' gw ?_
   generalize sput F c ⟨S.bs,S.ms,S.bad++[(a,30)]⟩ H++_=W at q1 q2 q3 q4 q5 q6 q7 ⊢
   simp [q1,q2,q3,q4,q5,hfit,appA]
   simp [RetK,q6]
   simp [encMn,hneg] at q7 ⊢
   exact q7
 · obtain ⟨i,rfl⟩:∃ i:Nat,to=(i:Int):=⟨to.toNat,by omega⟩
   have hil:i < S.bs.length:=by omega
   have hr:=rowAt_map encBd hil
   have hgd:S.bs.getD i default=S.bs[i]:=by simp [List.getD_eq_getElem?_getD,hil]
   have hneg':¬ ((i:Int) < 0):=hneg
   rw [Int.toNat_natCast,hgd]
   generalize S.bs[i]=b at hr ⊢
   obtain ⟨ba,bk,bw,bi⟩:=b
   simp only [encBd] at hr
   simp only
   rw [if_neg hneg']
   by_cases hset:wr=true∧bk < 3
   · rw [if_pos hset]
     have gw:=hF.wrong' hh a 35 (by omega)
     rw [sput_app h] at gw
     obtain ⟨q1,q2,q3,q4,q5,q6,q7⟩:=key (S.bad++[(a,35)]) _ rfl
     simp only [mbox] at q3 q5 q7
     obtain ⟨rfl,hk⟩:=hset
     subst hbx
     simp [irScMention]
     refine CallK_of' gf ?_
     generalize H++_=W0 at gw e1 e2 e3 ⊢
     simp [hneg',e3,e1,e2,hr,hk]
     refine CallK_of' gw ?_
     generalize sput F c ⟨S.bs,S.ms,S.bad++[(a,35)]⟩ H++_=W at q1 q2 q3 q4 q5 q6 q7 ⊢
     simp [q1,q2,q3,q4,q5,hfit,appA]
     simp [RetK,q6]
     simp [encMn] at q7 ⊢
     exact q7
   · rw [if_neg hset]
     obtain ⟨q1,q2,q3,q4,q5,q6,q7⟩:=key S.bad _ hW0
     simp only [mbox] at q3 q5 q7
     subst hbx
     simp [irScMention]
     refine CallK_of' gf ?_
     generalize H++_=W at q1 q2 q3 q4 q5 q6 q7 ⊢
     cases wr with
     | false =>
       simp [hneg',q1,q2,q3,q4,q5,hfit,appA]
       simp [RetK,q6]
       simp [encMn] at q7 ⊢
       exact q7
     | true =>
       have hk:¬ bk < 3:=fun hk=>hset ⟨rfl,hk⟩
       simp [hneg',q1,q2,q3,q4,q5,hr,hk,hfit,appA]
       simp [RetK,q6]
       simp [encMn] at q7 ⊢
       exact q7
end
end
section
def scW0 (tp:TypeId):C := .ops [⟨(some 3),none,.box tp 1 (.t 0)⟩] false
def scW1 (tfp : TypeId) : C := .ops [
    ⟨(some 7),none,.load 1 false (.t 3)⟩,
    ⟨(some 8),none,.nilCheck (.t 7)⟩,
    ⟨(some 9),none,.faddr 1 (.t 8)⟩,
    ⟨(some 10),none,.load 1 false (.t 9)⟩,
    ⟨(some 6),none,.alloc tfp [.nilp]⟩,
    ⟨none,none,.store 1 (.t 6) (.t 10)⟩] false
def scWl (res:FuncId):List IOp:=[⟨(some 11),none,.mkfn (.func res) [] [(.t 6),(.t 3)]⟩]
def scW2 (tf : TypeId) : C := .seq (.ops [
    ⟨(some 12),none,.load 1 false (.t 3)⟩,
    ⟨(some 13),none,.mkMap⟩,
    ⟨(some 14),none,.mv (.t 1)⟩,
    ⟨(some 15),none,.load 1 false (.t 6)⟩,
    ⟨(some 16),none,.build [.nilm,(.bool false),.nilp] [(0,1,(.t 13)),(1,1,(.t 14)),(2,1,(.t 15))]⟩,
    ⟨(some 17),none,.box tf 3 (.t 16)⟩,
    ⟨(some 18),none,.nilCheck (.t 12)⟩,
    ⟨(some 19),none,.faddr 1 (.t 18)⟩,
    ⟨none,none,.store 1 (.t 19) (.t 17)⟩] false)
 (.ops [
  ⟨(some 20),none,.mv (.t 2)⟩,
  ⟨(some 21),none,.callv (.t 20) []⟩] false)
def HasW (P:Program) (F:SF):Prop:=∃ fn,P.funcs[F.within]?=some fn∧deferF P [] fn=some (22,scW0 F.tp,scW1 F.tfp,scWl F.res,11,scW2 F.tf)
structure OInv (F:SF) (c:SC) (S:SM) (now:A) (item:Int) (G:Nms) (E:List (Nat × Nat × Frm)) (H:Hp):Prop where
 s:SInv F c S now item G H
 ch:ChainAt F H now E
 off:∀ x ∈ E,(c.off x.1∧x.1 ≠ c.ib∧x.1 ≠ c.g)∧(c.off x.2.1∧x.2.1 ≠ c.ib∧x.2.1 ≠ c.g)
section
variable {P:Program} {F:SF} {c:SC} {S S':SM} {now:A} {item:Int} {G:Nms} {H:Hp} {E:List (Nat × Nat × Frm)}
theorem NInv.o {i m:Nat} {fr:Nms} {lam:Bool} (h:NInv F c S item G i m fr lam E H):OInv F c S (.ptr i 0) item G ((i,m,⟨fr,lam⟩) :: E) H:=⟨h.s,h.ch,h.off⟩
theorem OInv.app (h:OInv F c S now item G E H) (X:Hp):OInv F c S now item G E (H++X):=⟨h.s.app X,h.ch.app X,h.off⟩
theorem sput_appL (h:SInv F c S now item G H) {H':Hp} (hl:H'.length=H.length) (X:Hp):sput F c S' (H'++X)=sput F c S' H'++X:=by
 obtain ⟨a,b,d,e,-⟩:=h.lt
 unfold sput
 rw [List.set_append_left _ _ (by omega),List.set_append_left _ _ (by simp; omega),List.set_append_left _ _ (by simp; omega),List.set_append_left _ _ (by simp; omega)]
def inScope (F:SF) (c:SC) (now:A) (item:Int) (lam:Bool) (H:Hp):Hp :=
 (H.set c.ib (.box F.tb [.ptr c.im 0,.ptr (H.length+3) 0,.map c.g,.d (.int .i64 item)]))++[.box F.tp [.ptr c.ib 0],.box F.tfp [now],.mp [],.box F.tf [.map (H.length+2),.d (.bool lam),now]]
theorem inScope_get {j:Nat} {o:Ob} (hj:H[j]?=some o) (h:j ≠ c.ib) (item:Int) (lam:Bool):(inScope F c now item lam H)[j]?=some o:=by
 unfold inScope
 exact get_app (by rw [List.getElem?_set_ne (Ne.symm h)]; exact hj) _
theorem inScope_at {lam:Bool} (k:Nat):(inScope F c now item lam H)[H.length+k]?=([.box F.tp [.ptr c.ib 0],.box F.tfp [now],.mp [],.box F.tf [.map (H.length+2),.d (.bool lam),now]]:Hp)[k]?:=by
 unfold inScope
 rw [List.getElem?_append_right (by simp)]
 simp
theorem OInv.inner (h:OInv F c S now item G E H) (lam:Bool):NInv F c S item G (H.length+3) (H.length+2) [] lam E (inScope F c now item lam H):=by
 obtain ⟨p1,p2,p3,p4,p5,p6⟩:=h.s.lt
 obtain ⟨na,nb,nd,ne,nf⟩:=h.s.nd
 have hlt:=h.ch.lt
 refine ⟨⟨inScope_get h.s.m na.2.2.2.1 _ _,inScope_get h.s.b nb.2.2.1 _ _,inScope_get h.s.e nd.2.1 _ _,inScope_get h.s.v ne.1 _ _,?_,inScope_get h.s.g nf.symm _ _,h.s.nd⟩,?_,fun x hx => ?_,by omega,fun x hx => ?_⟩
 · unfold inScope
   exact get_app (by rw [List.getElem?_set_self p5]) _
 · refine ⟨rfl,fun x hx=>by have:=(hlt x hx).1; omega,now,inScope_at 3,inScope_at 2,h.ch.keep fun x hx => ?_⟩
   have h1:=h.off x hx
   have h2:=hlt x hx
   exact ⟨by rw [List.getElem?_eq_getElem h2.1]; exact inScope_get (List.getElem?_eq_getElem h2.1) h1.1.2.1 _ _,by rw [List.getElem?_eq_getElem h2.2]; exact inScope_get (List.getElem?_eq_getElem h2.2) h1.2.2.1 _ _⟩
 · rcases List.mem_cons.1 hx with rfl | hx
   · refine ⟨⟨⟨?_,?_,?_,?_⟩,?_,?_⟩,⟨⟨?_,?_,?_,?_⟩,?_,?_⟩⟩<;>simp only<;>omega
   · exact h.off x hx
 · have:=hlt x hx
   omega
theorem SHas.within' (hF:SHas P F) (hW:HasW P F) (h:OInv F c S now item G E H) (lam:Bool) {g:FuncId} {cap:List A} (hg:callOk P g=true) {es:Nms}
 (hdo:ACall P g cap (inScope F c now item lam H) (fun r H2=>r = .tup []∧H2=nput F c S' (H.length+2) es (inScope F c now item lam H))) :
 ACall P F.within [.ptr c.ib 0,.d (.bool lam),.fn (.func g) [] cap] H (fun r H'=>r = .tup []∧H'=sput F c S' H):=by
 obtain ⟨fn,hf,hd⟩:=hW
 refine acall_deferF hf hd (by simp) fun hcl => ?_
 have hi:=h.s.i
 have hA:=get_app hi
 obtain ⟨p1,p2,p3,p4,p5,p6⟩:=h.s.lt
 simp only [scW0,scW1,scWl,scW2]
 simp [hA]
 refine fun _ => ?_
 have hnow:(now = .d .nilp∧E=[])∨∃ i m f r,E=(i,m,f) :: r∧now = .ptr i 0∧i < H.length:=h.ch.val
 have hflat:now = .d .nilp∨∃ k,now = .ptr k 0:=by
  rcases hnow with ⟨h1,-⟩ | ⟨i,-,-,-,-,h1,-⟩
  · exact .inl h1
  · exact .inr ⟨i,h1⟩
 have step:∀ X:Hp,Hp.cut H.length ((nput F c S' (H.length+2) es (inScope F c now item lam H)).set c.ib (.box F.tb [.ptr c.im 0,now,.map c.g,.d (.int .i64 item)]))=sput F c S' H:=fun _=>by
  unfold nput inScope
  rw [sput_appL h.s (by simp),List.set_append_right _ _ (by rw [sput_len,List.length_set]; omega),List.set_append_left _ _ (by rw [sput_len,List.length_set]; exact p5),sput_set h.s.offI,List.set_set,Hp.set_self (by rw [sput_off h.s.offI]; exact hi)]
  exact sput_cutX h.s hcl _
 have hN:=(h.inner lam).nput S' es
 have q1:(nput F c S' (H.length+2) es (inScope F c now item lam H))[H.length+1]?=some (.box F.tfp [now]):=by
  unfold nput
  rw [List.getElem?_set_ne (by omega),sput_off ⟨by omega,by omega,by omega,by omega⟩]; exact inScope_at 1
 have q2:(nput F c S' (H.length+2) es (inScope F c now item lam H))[H.length]?=some (.box F.tp [.ptr c.ib 0]):=by
  unfold nput
  rw [List.getElem?_set_ne (by omega),sput_off ⟨by omega,by omega,by omega,by omega⟩]; exact inScope_at 0
 have q3:=hN.s.i
 have hres:=hF.res' q1 q2 q3 hflat
 have hlen:H.length≤(nput F c S' (H.length+2) es (inScope F c now item lam H)).length:=by rw [nput_len]; simp [inScope]
 have hst:=step []
 unfold inScope at hdo hres hst hlen
 have hB:∀ X,(H++X).set c.ib (.box F.tb [.ptr c.im 0,.ptr (H.length+3) 0,.map c.g,.d (.int .i64 item)])=H.set c.ib (.box F.tb [.ptr c.im 0,.ptr (H.length+3) 0,.map c.g,.d (.int .i64 item)])++X:=fun X=>List.set_append_left _ _ p5
 rcases hflat with rfl | ⟨k,rfl⟩
 all_goals
  simp
  refine ⟨_,_,⟨rfl,rfl⟩,hF.kRes,fun _ => ?_⟩
  simp [hA,hB]
  refine ⟨hg,CallK_of' hdo ?_⟩
  simp
  intro κ w vs hr hl hv
  refine (hres κ w vs hr hl hv).mono ?_
  rintro e u w' ⟨h1,v,κ',H',h2,h3,h4,rfl⟩
  exact ⟨h1,v,κ',_,h2,h3,h4,H.length,Nat.le_refl _,by simpa using hlen,hst⟩
theorem sput_appO (h:OInv F c S now item G E H) (X:Hp):sput F c S' (H++X)=sput F c S' H++X:=sput_app h.s X
def NodeOk (P:Program) (F:SF) (n:N):Prop:=∀ (c:SC) (S:SM) (item:Int) (G:Nms) (i m:Nat) (fr:Nms) (lam:Bool) (E:List (Nat × Nat × Frm)) (H:Hp),NInv F c S item G i m fr lam E H→FOk S.bs.length G→FOk S.bs.length fr→(∀ x ∈ E,FOk S.bs.length x.2.2.es) →
 S.sz+2 * n.size≤2199023255552→E.length+n.size≤1099511627775→ACall P F.node [.ptr c.ib 0,n.v] H (fun r H'=>r = .tup []∧H'=nput F c (nodeP G item n (E.map fun x=>x.2.2) fr lam S).2 m (nodeP G item n (E.map fun x=>x.2.2) fr lam S).1 H)
theorem kidsP_snoc (G:Nms) (item:Int) (x:N) (E:List Frm) (lam:Bool):∀ (l:List N) (fr:Nms) (S:SM),kidsP G item (l++[x]) E fr lam S=nodeP G item x E (kidsP G item l E fr lam S).1 lam (kidsP G item l E fr lam S).2
 | [],fr,S=>by rw [List.nil_append,kidsP_cons,kidsP_nil,kidsP_nil]
 | y :: r,fr,S=>by rw [List.cons_append,kidsP_cons,kidsP_snoc G item x E lam r,kidsP_cons]
theorem bindsP_snoc (item:Int) (x:N):∀ (l:List N) (fr:Nms) (S:SM),bindsP item (l++[x]) fr S=bindP 3 item x (bindsP item l fr S).1 (bindsP item l fr S).2
 | [],fr,S=>rfl
 | y :: r,fr,S=>by rw [List.cons_append,bindsP,bindsP_snoc item x r]; rfl
theorem SHas.kids' (hF:SHas P F) {k f t:Int} {w:Bs} {a:Int} {z:Bool} {ks:List N} (ih:∀ p ∈ ks,NodeOk P F p) {i m:Nat} {fr:Nms} {lam:Bool} (h:NInv F c S item G i m fr lam E H) (hG:FOk S.bs.length G) (hfr:FOk S.bs.length fr) (hE:∀ x ∈ E,FOk S.bs.length x.2.2.es)
 (hb:S.sz+2 * N.sizes ks≤2199023255552) (hl:E.length+N.sizes ks≤1099511627775) :
 ACall P F.kids [.ptr c.ib 0,N.v (.mk k f t w a z ks)] H (fun r H'=>r = .tup []∧H'=nput F c (kidsP G item ks (E.map fun x=>x.2.2) fr lam S).2 m (kidsP G item ks (E.map fun x=>x.2.2) fr lam S).1 H):=by
 obtain ⟨fn,hf,hcf⟩:=hF.kids
 refine acall_fin hf hcf (by simp [irScKids]) fun hcl _ => ?_
 rw [N.v_mk]
 have hib:=h.s.lt.2.2.2.2.1
 have hsl:=N.sizes_len ks
 obtain ⟨bx,hbx⟩:∃ bx,bx=Ob.box F.tn [.d (.int .i64 k),.d (.int .i64 f),.d (.int .i64 t),.d (.str w),.d (.int .i64 a),.d (.sl z 6 (ks.map N.enc))]:=⟨_,rfl⟩
 have hbc:bx.clr (H.length+1)=bx:=by subst hbx; simp
 have hcut1:∀ S' fr' X,Hp.cut (H.length+1) (nput F c S' m fr' H++bx :: X)=nput F c S' m fr' H++[bx]:=fun S' fr' X=>by
  have e:nput F c S' m fr' H++bx :: X=(nput F c S' m fr' (H++[bx]))++X:=by rw [nput_app h]; simp
  have hcl1:Hp.Closed (H++[bx]):=Closed.snoc hcl fun n hn=>by subst hbx; simp
  have:=nput_cutX (S':=S') (fr':=fr') (h.app [bx]) hcl1 X
  rw [List.length_append,List.length_singleton] at this
  rw [e,this,nput_app h]
 have hcut0:Hp.cut (H.length+1) (H++[bx])=H++[bx]:=by
  have:=hcut1 S fr []
  rw [nput_self h] at this
  exact this
 simp [irScKids]
 rw [← hbx]
 refine LoopK_out 0 (fun fr' H'=>H'=nput F c (kidsP G item ks (E.map fun x=>x.2.2) fr lam S).2 m (kidsP G item ks (E.map fun x=>x.2.2) fr lam S).1 H++[bx]) ?_ ?_
 · refine RangeK_of (H.length+1) ks.length (fun j fr' H'=>fr' 0 = .ptr c.ib 0∧fr' 7 = .d (.sl z 6 (ks.map N.enc))∧H'=nput F c (kidsP G item (ks.take j) (E.map fun x=>x.2.2) fr lam S).2 m (kidsP G item (ks.take j) (E.map fun x=>x.2.2) fr lam S).1 H++[bx]) (by omega) (by decide) (by simp) (by simp) ?_ ?_ ?_
   · rw [List.take_zero,kidsP_nil,nput_self h]
     simp [hcut0]; omega
   · rintro j fr' H' hj f9 f8 ⟨f0,f7,rfl⟩
     have hr:=rowAt_map N.enc hj
     have hm:=List.getElem_mem hj
     have hsz:N.sizes (ks.take j)+(ks[j]).size≤N.sizes ks:=by
      have:ks=ks.take j++ks[j] :: ks.drop (j+1):=by rw [List.getElem_cons_drop]; simp
      have e:N.sizes ks=N.sizes (ks.take j)+(ks[j].size+N.sizes (ks.drop (j+1))):=by conv=>lhs; rw [this,N.sizes_app,N.sizes_cons]
      omega
     have hgr:=grew_kids (fun p _=>grew p) (ks:=ks.take j) G item (E.map fun x=>x.2.2) fr lam S hfr
     have hn1:=h.nput (kidsP G item (ks.take j) (E.map fun x=>x.2.2) fr lam S).2 (kidsP G item (ks.take j) (E.map fun x=>x.2.2) fr lam S).1
     have hstep:kidsP G item (ks.take (j+1)) (E.map fun x=>x.2.2) fr lam S=nodeP G item ks[j] (E.map fun x=>x.2.2) (kidsP G item (ks.take j) (E.map fun x=>x.2.2) fr lam S).1 lam (kidsP G item (ks.take j) (E.map fun x=>x.2.2) fr lam S).2:=by
      rw [List.take_succ_eq_append_getElem hj,kidsP_snoc]
     have ihj:=ih _ hm
     generalize ks[j]=x at hr hsz ihj hstep
     obtain ⟨g1,g2,g3⟩:=hgr
     generalize kidsP G item (ks.take j) (E.map fun x=>x.2.2) fr lam S=KP at g1 g2 g3 hn1 hstep ⊢
     obtain ⟨fr1,S1⟩:=KP
     simp only at g1 g2 g3 hn1 hstep ⊢
     have hlen:H.length=(nput F c S1 m fr1 H).length:=nput_len.symm
     have ihc:=fun X=>ihj c S1 item G i m fr1 lam E _ (hn1.app (bx :: X)) (hG.mono g1) g3 (fun x hx=>(hE x hx).mono g1) (by omega) (by omega)
     obtain ⟨k2,f2,t2,w2,a2,z2,ks2⟩:=x
     rw [N.enc_mk] at hr
     rw [N.v_mk] at ihc
     have hk:∀ X Y,(nput F c S1 m fr1 H++bx :: X)++Y=nput F c S1 m fr1 H++bx :: (X++Y):=fun X Y=>by simp
     have hlb:(nput F c S1 m fr1 H++[bx]).length=H.length+1:=by simp [nput_len]
     simp [f9,f7,hr,f0]
     rw [show nput F c S1 m fr1 H++[bx,Ob.box F.tn [.d (.int .i64 k2),.d (.int .i64 f2),.d (.int .i64 t2),.d (.str w2),.d (.int .i64 a2),.d (.sl z2 6 (ks2.map N.enc))]]=nput F c S1 m fr1 H++bx :: [Ob.box F.tn [.d (.int .i64 k2),.d (.int .i64 f2),.d (.int .i64 t2),.d (.str w2),.d (.int .i64 a2),.d (.sl z2 6 (ks2.map N.enc))]] from rfl]
     refine CallK_of' (ihc _) ?_
     rw [nput_app hn1,nput_nput h.offM.1]
     simp
     refine NextK_of (H.length+1) (Nat.le_refl _) (by simp [f9,f8,nput_len]) ?_
     simp [f0,f7,hstep,hcut1]; omega
   · rintro fr' H' f9 f8 ⟨f0,f7,rfl⟩
     rw [List.take_of_length_le (Nat.le_refl _)]
     simp
 · rintro fr' H' rfl
   simp
   simp [RetK,nput_len,nput_cutX h hcl]
end
end
section
section
variable {P:Program} {F:SF} {c:SC} {S S':SM} {now:A} {item:Int} {G:Nms} {H:Hp} {E:List (Nat × Nat × Frm)}
theorem SHas.closedC' (hF:SHas P F) {p q b:N} {z:Bool} (ih:NodeOk P F b) {i m:Nat} {lam:Bool} (h:NInv F c S item G i m [] lam E H) (hG:FOk S.bs.length G) (hE:∀ x ∈ E,FOk S.bs.length x.2.2.es)
 (hb:S.sz+2 * N.sizes [p,q,b]≤2199023255552) (hl:E.length+N.sizes [p,q,b]≤1099511627775) {al ab:Nat} (h1:H[al]?=some (.box F.ts [.d (.sl z 6 ([p,q,b].map N.enc))])) (h2:H[ab]?=some (.box F.tp [.ptr c.ib 0])) (hoa:(c.off al∧al ≠ m)∧(c.off ab∧ab ≠ m)) :
 ACall P F.closedC [.ptr al 0,.ptr ab 0] H (fun r H'=>r = .tup []∧H'=nput F c (nodeP G item b (E.map fun x=>x.2.2) (bindsP item p.ks [] S).1 lam (bindsP item p.ks [] S).2).2 m (nodeP G item b (E.map fun x=>x.2.2) (bindsP item p.ks [] S).1 lam (bindsP item p.ks [] S).2).1 H):=by
 obtain ⟨fn,hf,hcf⟩:=hF.closedC
 refine acall_fin hf hcf (by simp [irScClosedC]) fun hcl _ => ?_
 have hal:=scan_len h1
 have hab:=scan_len h2
 have hps:p.ks.length+b.size+1≤N.sizes [p,q,b]:=by
  simp only [N.sizes_cons,N.sizes_nil]
  have:=N.sizes_len p.ks
  have:=N.size_ks p
  omega
 have hr0:Zam.rowAt ([p,q,b].map N.enc) 0=some p.enc:=rfl
 have hr2:Zam.rowAt ([p,q,b].map N.enc) 2=some b.enc:=rfl
 simp only [List.map_cons,List.map_nil] at h1 hr0 hr2
 have hbe:b.v = .agg (b.enc.map .d):=rfl
 have hgr0:=Grew.binds (item:=item) p.ks (FOk.nil S.bs.length)
 have hn0:=h.nput (bindsP item p.ks [] S).2 (bindsP item p.ks [] S).1
 have ihb:=ih c (bindsP item p.ks [] S).2 item G i m (bindsP item p.ks [] S).1 lam E _ hn0 (hG.mono hgr0.bs) hgr0.ok (fun x hx=>(hE x hx).mono hgr0.bs) (by have:=hgr0.sz; omega) (by omega)
 rw [nput_nput h.offM.1] at ihb
 have hat:∀ S' fr' X,(nput F c S' m fr' H++X)[al]?=some (.box F.ts [.d (.sl z 6 [p.enc,q.enc,b.enc])])∧(nput F c S' m fr' H++X)[ab]?=some (.box F.tp [.ptr c.ib 0]):=fun S' fr' X=>by
  refine ⟨get_app ?_ X,get_app ?_ X⟩
  · unfold nput; rw [List.getElem?_set_ne (Ne.symm hoa.1.2),sput_off hoa.1.1]; exact h1
  · unfold nput; rw [List.getElem?_set_ne (Ne.symm hoa.2.2),sput_off hoa.2.1]; exact h2
 have hat0:∀ S' fr',(nput F c S' m fr' H)[al]?=some (.box F.ts [.d (.sl z 6 [p.enc,q.enc,b.enc])])∧(nput F c S' m fr' H)[ab]?=some (.box F.tp [.ptr c.ib 0]):=fun S' fr'=>by
  have:=hat S' fr' []
  rwa [List.append_nil] at this
 have hbs:b.enc.length=6:=by cases b; rw [N.enc_mk]; rfl
 obtain ⟨pk,pf,pt,pw,pa,pz,pks⟩:=p
 rw [N.enc_mk] at h1 hr0 hr2
 simp only [N.enc_mk] at hat hat0
 simp only [N.ks] at hgr0 hn0 ihb hps ⊢
 generalize hres:nodeP G item b (E.map fun x=>x.2.2) (bindsP item pks [] S).1 lam (bindsP item pks [] S).2=R at ihb ⊢
 simp [irScClosedC,h1,hr0]
 refine LoopK_out 0 (fun fr' H'=>fr' 0 = .ptr al 0∧fr' 1 = .ptr ab 0∧H'=nput F c (bindsP item pks [] S).2 m (bindsP item pks [] S).1 H) ?_ ?_
 · refine RangeK_of H.length pks.length (fun j fr' H'=>fr' 0 = .ptr al 0∧fr' 1 = .ptr ab 0∧fr' 7 = .d (.sl pz 6 (pks.map N.enc))∧H'=nput F c (bindsP item (pks.take j) [] S).2 m (bindsP item (pks.take j) [] S).1 H) (by omega) (by decide) (by simp) (by simp) ?_ ?_ ?_
   · rw [List.take_zero,bindsP,nput_self h]
     simp [cut_self hcl,hal,hab]
   · rintro j fr' H' hj f9 f8 ⟨f0,f1,f7,rfl⟩
     have hr:=rowAt_map N.enc hj
     have hgr:=Grew.binds (item:=item) (pks.take j) (FOk.nil S.bs.length)
     have hn1:=h.nput (bindsP item (pks.take j) [] S).2 (bindsP item (pks.take j) [] S).1
     have hstep:bindsP item (pks.take (j+1)) [] S=bindP 3 item pks[j] (bindsP item (pks.take j) [] S).1 (bindsP item (pks.take j) [] S).2:=by
      rw [List.take_succ_eq_append_getElem hj,bindsP_snoc]
     have hll:(pks.take j).length≤pks.length:=by simp; omega
     obtain ⟨ga,gb⟩:=hat0 (bindsP item (pks.take j) [] S).2 (bindsP item (pks.take j) [] S).1
     have gA:=fun X=>(hat (bindsP item (pks.take j) [] S).2 (bindsP item (pks.take j) [] S).1 X).2
     generalize pks[j]=x at hr hstep
     obtain ⟨g1,g2,g3⟩:=hgr
     generalize bindsP item (pks.take j) [] S=KP at g1 g2 g3 hn1 hstep ga gb gA ⊢
     obtain ⟨fr1,S1⟩:=KP
     simp only at g1 g2 g3 hn1 hstep ga gb gA ⊢
     have gbind:=fun X=>hF.bind' (hn1.s.app X) (get_app hn1.mp X) ⟨h.offM.1,h.offM.2.1⟩ x 3 (by omega)
     have hi1:=fun X=>(hn1.s.app X).i
     obtain ⟨c1,c2,up,c3,c4,c5⟩:=hn1.ch
     have hc3:=get_app c3
     obtain ⟨k2,f2,t2,w2,a2,z2,ks2⟩:=x
     rw [N.enc_mk] at hr
     rw [N.v_mk] at gbind
     have hlen:H.length=(nput F c S1 m fr1 H).length:=nput_len.symm
     have hlast:∀ bx:Ob,(nput F c S1 m fr1 H++[bx])[H.length]?=some bx:=fun bx=>by rw [hlen]; simp
     have hpush:∀ bx:Ob,(nput F c S1 m fr1 H).length=H.length:=fun _=>nput_len
     simp [f9,f7,hr,f0,f1,nput_len]
     generalize hX:Ob.box F.tn [.d (.int .i64 k2),.d (.int .i64 f2),.d (.int .i64 t2),.d (.str w2),.d (.int .i64 a2),.d (.sl z2 6 (ks2.map N.enc))]=bx
     have hs0:(nput F c S1 m fr1 H++[Ob.box F.tn [.d (.int .i64 0),.d (.int .i64 0),.d (.int .i64 0),.d (.str []),.d (.int .i64 0),.d (.sl true 6 [])]]).set H.length bx=nput F c S1 m fr1 H++[bx]:=by rw [hlen,set_app0]; simp
     have gb1:=gbind [bx]
     rw [nput_app hn1,nput_nput h.offM.1] at gb1
     have w1:=gA [bx]
     have w2':=hi1 [bx]
     have w3:=hc3 [bx]
     have w4:=hlast bx
     have wl:(nput F c S1 m fr1 H++[bx]).length=H.length+1:=by simp [nput_len]
     generalize nput F c S1 m fr1 H++[bx]=W at gb1 w1 w2' w3 w4 wl ⊢
     subst hX
     simp [f1,w1,w2',w3,w4]
     refine CallE_of gb1 ?_
     simp
     refine NextK_of H.length (Nat.le_refl _) (by simp [f9,f8,nput_len]) ?_
     simp [f0,f1,f7,hal,hab,hstep,nput_cutX h hcl]
   · rintro fr' H' f9 f8 ⟨f0,f1,f7,rfl⟩
     rw [List.take_of_length_le (Nat.le_refl _)]
     simp [f0,f1]
 · rintro fr' H' ⟨f0,f1,rfl⟩
   obtain ⟨ga,gb⟩:=hat0 (bindsP item pks [] S).2 (bindsP item pks [] S).1
   generalize nput F c (bindsP item pks [] S).2 m (bindsP item pks [] S).1 H=W at ihb ga gb
   simp [f0,f1,ga,gb,hr2]
   have hbv:(A.agg (b.enc.map .d))=b.v:=rfl
   rw [← hbv] at ihb
   obtain ⟨bk,bf,bt,bw,ba,bz,bks⟩:=b
   simp only [N.enc_mk] at ihb ⊢
   simp at ihb ⊢
   refine CallE_of ihb ?_
   simp
   simp [RetK,nput_len,nput_cut h hcl]
theorem SHas.closed' (hF:SHas P F) (hW:HasW P F) {ks:List N} {z:Bool} (ih:∀ p ∈ ks,NodeOk P F p) (h:OInv F c S now item G E H) (lam:Bool) (hG:FOk S.bs.length G) (hE:∀ x ∈ E,FOk S.bs.length x.2.2.es)
 (hb:S.sz+2 * N.sizes ks≤2199023255552) (hl:E.length+N.sizes ks≤1099511627775) :
 ACall P F.closed [.ptr c.ib 0,.d (.sl z 6 (ks.map N.enc)),.d (.bool lam)] H (fun r H'=>r = .tup []∧H'=sput F c (sclosedP G item ks (E.map fun x=>x.2.2) lam S) H):=by
 obtain ⟨fn,hf,hcf⟩:=hF.closed
 refine acall_fin hf hcf (by simp [irScClosed]) fun hcl _ => ?_
 by_cases h3:ks.length=3
 · have hks:∃ p q b,ks=[p,q,b]:=by
    match ks,h3 with
    | [p,q,b],_=>exact ⟨p,q,b,rfl⟩
   obtain ⟨p,q,b,rfl⟩:=hks
   rw [sclosedP_three]
   obtain ⟨p1,p2,p3,p4,p5,p6⟩:=h.s.lt
   have hO:=h.app [.box F.tp [.ptr c.ib 0],.box F.ts [.d (.sl z 6 ([p,q,b].map N.enc))]]
   have hin:=hO.inner lam
   have hL:(H++[Ob.box F.tp [.ptr c.ib 0],.box F.ts [.d (.sl z 6 ([p,q,b].map N.enc))]]:Hp).length=H.length+2:=by simp
   have a1:(H++[Ob.box F.tp [.ptr c.ib 0],.box F.ts [.d (.sl z 6 ([p,q,b].map N.enc))]]:Hp)[H.length+1]?=some (.box F.ts [.d (.sl z 6 ([p,q,b].map N.enc))]):=by simp
   have a2:(H++[Ob.box F.tp [.ptr c.ib 0],.box F.ts [.d (.sl z 6 ([p,q,b].map N.enc))]]:Hp)[H.length]?=some (.box F.tp [.ptr c.ib 0]):=by simp
   have gd:=hF.closedC' (z:=z) (ih b (by simp)) hin hG hE hb hl (inScope_get a1 (by omega) _ _) (inScope_get a2 (by omega) _ _) (by rw [hL]; refine ⟨⟨⟨?_,?_,?_,?_⟩,?_⟩,⟨⟨?_,?_,?_,?_⟩,?_⟩⟩<;>omega)
   have gw:=hF.within' hW hO lam hF.kClosedC gd
   rw [sput_appO h] at gw
   simp only [List.map_cons,List.map_nil] at gw ⊢
   simp [irScClosed]
   refine CallK_of' gw ?_
   simp
   simp [RetK,sput_len,sput_cutX h.s hcl]
 · rw [sclosedP_ne _ _ h3,sput_self h.s]
   have h3':¬ ((ks.length:Int)=3):=by omega
   simp [irScClosed,h3']
   simp [RetK,cut_app hcl]
theorem SHas.node' (hF:SHas P F) (hW:HasW P F) (n:N):NodeOk P F n:=by
 induction n using N.ind with
 | h k f t w a z ks ih =>
 intro c S item G i m fr lam E H h hG hfr hE hb hl
 obtain ⟨fn,hf,hcf⟩:=hF.node
 refine acall_fin hf hcf (by simp [irScNode]) fun hcl _ => ?_
 rw [N.size_mk] at hb hl
 obtain ⟨p1,p2,p3,p4,p5,p6⟩:=h.s.lt
 obtain ⟨bb,hbb⟩:∃ bb,bb=Ob.box F.tp [.ptr c.ib 0]:=⟨_,rfl⟩
 obtain ⟨bx,hbx⟩:∃ bx,bx=Ob.box F.tn [.d (.int .i64 k),.d (.int .i64 f),.d (.int .i64 t),.d (.str w),.d (.int .i64 a),.d (.sl z 6 (ks.map N.enc))]:=⟨_,rfl⟩
 have hA:=h.app [bb,bx]
 have a1:(H++[bb,bx]:Hp)[H.length+1]?=some bx:=by simp
 have a2:(H++[bb,bx]:Hp)[H.length]?=some bb:=by simp
 have hE':∀ x ∈ (i,m,(⟨fr,lam⟩:Frm)) :: E,FOk S.bs.length x.2.2.es:=fun x hx=>by
  rcases List.mem_cons.1 hx with rfl | hx
  · exact hfr
  · exact hE x hx
 have hmap:((i,m,(⟨fr,lam⟩:Frm)) :: E).map (fun x=>x.2.2)=⟨fr,lam⟩ :: E.map fun x=>x.2.2:=rfl
 have hfin:∀ S' fr' X,Hp.cut H.length (nput F c S' m fr' H++X)=nput F c S' m fr' H:=fun S' fr' X=>nput_cutX h hcl X
 have hi:=hA.s.i
 rw [nodeP_mk]
 by_cases h6:k=6
 · rw [if_pos h6]
   subst h6
   have hO:=hA.o
   have hin:=hO.inner false
   have gk:=hF.kids' (k:=6) (f:=f) (t:=t) (w:=w) (a:=a) (z:=z) ih hin hG (FOk.nil _) hE' (by omega) (by simp only [List.length_cons]; omega)
   rw [hmap] at gk
   have gd:ACall P F.nodeC [.ptr H.length 0,.ptr (H.length+1) 0] (inScope F c (.ptr i 0) item false (H++[bb,bx])) (fun r H2=>r = .tup []∧H2=nput F c (kidsP G item ks (⟨fr,lam⟩ :: E.map fun x=>x.2.2) [] false S).2 ((H++[bb,bx]:Hp).length+2) (kidsP G item ks (⟨fr,lam⟩ :: E.map fun x=>x.2.2) [] false S).1 (inScope F c (.ptr i 0) item false (H++[bb,bx]))):=by
    obtain ⟨fn,hf,hcf⟩:=hF.nodeC
    refine acall_fin hf hcf (by simp [irScNodeC]) fun hcl2 _ => ?_
    have b1:=inScope_get (F:=F) (now := .ptr i 0) a1 (by omega:H.length+1 ≠ c.ib) item false
    have b2:=inScope_get (F:=F) (now := .ptr i 0) a2 (by omega:H.length ≠ c.ib) item false
    rw [hbx,hbb] at b1 b2
    rw [N.v_mk] at gk
    have hcut:=nput_cut (S':=(kidsP G item ks (⟨fr,lam⟩ :: E.map fun x=>x.2.2) [] false S).2) (fr':=(kidsP G item ks (⟨fr,lam⟩ :: E.map fun x=>x.2.2) [] false S).1) hin hcl2
    generalize kidsP G item ks (⟨fr,lam⟩ :: E.map fun x=>x.2.2) [] false S=R at gk hcut ⊢
    rw [hbx,hbb] at gk hcut ⊢
    generalize inScope F c (.ptr i 0) item false (H++[Ob.box F.tp [.ptr c.ib 0],Ob.box F.tn [.d (.int .i64 6),.d (.int .i64 f),.d (.int .i64 t),.d (.str w),.d (.int .i64 a),.d (.sl z 6 (ks.map N.enc))]])=W at b1 b2 gk hcut ⊢
    simp [irScNodeC,b1,b2]
    simp at gk
    refine CallK_of' gk ?_
    simp at hcut ⊢
    simp [RetK,nput_len,hcut]
   have gw:=hF.within' hW hO false hF.kNodeC gd
   rw [sput_appO h.o] at gw
   have hfin':=hfin (kidsP G item ks (⟨fr,lam⟩ :: E.map fun x=>x.2.2) [] false S).2 fr [bb,bx]
   rw [nput_sput h] at hfin'
   rw [nput_sput h]
   generalize kidsP G item ks (⟨fr,lam⟩ :: E.map fun x=>x.2.2) [] false S=R at gw hfin' ⊢
   subst hbb; subst hbx
   rw [N.v_mk]
   simp [irScNode]
   refine CallK_of' gw ?_
   simp
   simp [RetK,sput_len,hfin']
 rw [if_neg h6]
 have gk:=hF.kids' (k:=k) (f:=f) (t:=t) (w:=w) (a:=a) (z:=z) ih hA hG hfr hE (by omega) (by omega)
 by_cases h7:k=7
 · rw [if_pos h7]
   subst h7
   have hgr:=grew_kids (fun p _=>grew p) (ks:=ks) G item (E.map fun x=>x.2.2) fr lam S hfr
   have hN:=hA.nput (kidsP G item ks (E.map fun x=>x.2.2) fr lam S).2 (kidsP G item ks (E.map fun x=>x.2.2) fr lam S).1
   have gb:=hF.bind' hN.s hN.mp ⟨h.offM.1,h.offM.2.1⟩ (.mk 7 f t w a z ks) 4 (by have:=hgr.sz; omega)
   rw [nput_nput h.offM.1] at gb
   have b0:(nput F c (kidsP G item ks (E.map fun x=>x.2.2) fr lam S).2 m (kidsP G item ks (E.map fun x=>x.2.2) fr lam S).1 (H++[bb,bx]))[H.length]?=some bb:=by rw [nput_app h,← nput_len (F:=F) (c:=c) (S:=(kidsP G item ks (E.map fun x=>x.2.2) fr lam S).2) (m:=m) (fr:=(kidsP G item ks (E.map fun x=>x.2.2) fr lam S).1)]; simp
   have b1:(nput F c (kidsP G item ks (E.map fun x=>x.2.2) fr lam S).2 m (kidsP G item ks (E.map fun x=>x.2.2) fr lam S).1 (H++[bb,bx]))[H.length+1]?=some bx:=by rw [nput_app h,← nput_len (F:=F) (c:=c) (S:=(kidsP G item ks (E.map fun x=>x.2.2) fr lam S).2) (m:=m) (fr:=(kidsP G item ks (E.map fun x=>x.2.2) fr lam S).1)]; simp
   have b2:=hN.s.i
   obtain ⟨-,-,up,b3,-,-⟩:=hN.ch
   have hfin':=hfin (bindP 4 item (.mk 7 f t w a z ks) (kidsP G item ks (E.map fun x=>x.2.2) fr lam S).1 (kidsP G item ks (E.map fun x=>x.2.2) fr lam S).2).2 (bindP 4 item (.mk 7 f t w a z ks) (kidsP G item ks (E.map fun x=>x.2.2) fr lam S).1 (kidsP G item ks (E.map fun x=>x.2.2) fr lam S).2).1 [bb,bx]
   generalize kidsP G item ks (E.map fun x=>x.2.2) fr lam S=R at gk gb b0 b1 b2 b3 hfin' ⊢
   rw [N.v_mk] at gk gb ⊢
   generalize bindP 4 item (.mk 7 f t w a z ks) R.1 R.2=R2 at gb hfin' ⊢
   subst hbb; subst hbx
   simp [irScNode]
   refine CallK_of' gk ?_
   generalize nput F c R.2 m R.1 (H++_)=W at gb b0 b1 b2 b3 ⊢
   simp [b0,b1,b2,b3]
   refine CallE_of gb ?_
   rw [nput_app h]
   simp
   simp [RetK,nput_len,hfin']
 rw [if_neg h7]
 have hff:N.w (.mk k f t w a z ks)=w:=rfl
 by_cases h8:k=8
 · rw [if_pos h8]
   subst h8
   have gm:=hF.mention' hA.s hA.ch (.mk 8 f t w a z ks) true (by simp only [List.length_cons]; omega) (by omega) hG hE'
   rw [hmap,hff] at gm
   have hN:=hA.put (S.men (.mk 8 f t w a z ks) true (findP G w (⟨fr,lam⟩ :: E.map fun x=>x.2.2) 0))
   have hms:=SM.men_sz S (.mk 8 f t w a z ks) true (findP G w (⟨fr,lam⟩ :: E.map fun x=>x.2.2) 0)
   have gk2:=hF.kids' (k:=8) (f:=f) (t:=t) (w:=w) (a:=a) (z:=z) ih hN hG hfr hE (by omega) (by omega)
   have b0:(sput F c (S.men (.mk 8 f t w a z ks) true (findP G w (⟨fr,lam⟩ :: E.map fun x=>x.2.2) 0)) (H++[bb,bx]))[H.length]?=some bb:=by rw [sput_off ⟨by omega,by omega,by omega,by omega⟩]; exact a2
   have b1:(sput F c (S.men (.mk 8 f t w a z ks) true (findP G w (⟨fr,lam⟩ :: E.map fun x=>x.2.2) 0)) (H++[bb,bx]))[H.length+1]?=some bx:=by rw [sput_off ⟨by omega,by omega,by omega,by omega⟩]; exact a1
   generalize S.men (.mk 8 f t w a z ks) true (findP G w (⟨fr,lam⟩ :: E.map fun x=>x.2.2) 0)=S1 at gm gk2 b0 b1 ⊢
   have e1:∀ S' fr',nput F c S' m fr' (sput F c S1 (H++[bb,bx]))=nput F c S' m fr' H++[bb,bx]:=fun S' fr'=>by
    rw [← nput_app h]; unfold nput; rw [sput_sput]
   rw [e1] at gk2
   have hfin':=hfin (kidsP G item ks (E.map fun x=>x.2.2) fr lam S1).2 (kidsP G item ks (E.map fun x=>x.2.2) fr lam S1).1 [bb,bx]
   generalize kidsP G item ks (E.map fun x=>x.2.2) fr lam S1=R at gk2 hfin' ⊢
   rw [N.v_mk] at gm gk2 ⊢
   subst hbb; subst hbx
   simp [irScNode]
   refine CallK_of' gm ?_
   generalize sput F c S1 (H++_)=W at gk2 b0 b1 ⊢
   simp [b0,b1]
   refine CallK_of' gk2 ?_
   simp
   simp [RetK,nput_len,hfin']
 rw [if_neg h8]
 by_cases h9:k=23
 · rw [if_pos h9]
   subst h9
   have gm:=hF.mention' hA.s hA.ch (.mk 23 f t w a z ks) false (by simp only [List.length_cons]; omega) (by omega) hG hE'
   rw [hmap,hff,sput_app h.s] at gm
   have hfin':=hfin (S.men (.mk 23 f t w a z ks) false (findP G w (⟨fr,lam⟩ :: E.map fun x=>x.2.2) 0)) fr [bb,bx]
   rw [nput_sput h] at hfin' ⊢
   generalize S.men (.mk 23 f t w a z ks) false (findP G w (⟨fr,lam⟩ :: E.map fun x=>x.2.2) 0)=S1 at gm hfin' ⊢
   rw [N.v_mk] at gm ⊢
   subst hbb; subst hbx
   simp [irScNode]
   refine CallK_of' gm ?_
   simp
   simp [RetK,sput_len,hfin']
 rw [if_neg h9]
 by_cases h10:k=28
 · rw [if_pos h10]
   subst h10
   have gc:=hF.closed' hW (z:=z) ih hA.o true hG hE' (by omega) (by simp only [List.length_cons]; omega)
   rw [hmap,sput_app h.s] at gc
   have hfin':=hfin (sclosedP G item ks (⟨fr,lam⟩ :: E.map fun x=>x.2.2) true S) fr [bb,bx]
   rw [nput_sput h] at hfin' ⊢
   generalize sclosedP G item ks (⟨fr,lam⟩ :: E.map fun x=>x.2.2) true S=S1 at gc hfin' ⊢
   rw [N.v_mk]
   subst hbb; subst hbx
   simp [irScNode]
   refine CallK_of' gc ?_
   simp
   simp [RetK,sput_len,hfin']
 rw [if_neg h10]
 rw [nput_app h] at gk
 have hfin':=hfin (kidsP G item ks (E.map fun x=>x.2.2) fr lam S).2 (kidsP G item ks (E.map fun x=>x.2.2) fr lam S).1 [bb,bx]
 generalize kidsP G item ks (E.map fun x=>x.2.2) fr lam S=R at gk hfin' ⊢
 rw [N.v_mk] at gk ⊢
 subst hbb; subst hbx
 simp [irScNode,h6,h7,h8,h9,h10]
 refine CallK_of' gk ?_
 simp
 simp [RetK,nput_len,hfin']
end
end
section
theorem cmpInt_cmp:Cmp cmpInt where
 refl x:=by simp [cmpInt]
 anti x y:=by unfold cmpInt; constructor<;>intro h<;>(split at h<;>split<;>try split)<;>(try split at h)<;>(try omega)<;>simp_all<;>omega
 trans x y z h1 h2:=by
  unfold cmpInt at *
  (repeat' split at h1)<;>(repeat' split at h2)<;>(repeat' split)<;>omega
def cBad (a b:Int × Int):Int:=cmpInt a.1 b.1
theorem cBad_cmp:Cmp cBad:=Cmp.on (α:=Int × Int) cmpInt_cmp Prod.fst
def scopeM (n:N):SM:=⟨(allP n).bs,(allP n).ms,ssort cBad (allP n).bad⟩
theorem topsP_snoc (x:N):∀ (l:List N) (i:Int) (G:Nms) (S:SM),topsP i (l++[x]) G S=(if x.k=2 then bindP 1 (i+l.length) x (topsP i l G S).1 (topsP i l G S).2 else if x.k=3 then bindP 2 (i+l.length) x (topsP i l G S).1 (topsP i l G S).2 else topsP i l G S)
 | [],i,G,S=>by simp only [List.nil_append,topsP,List.length_nil,Int.natCast_zero,Int.add_zero]
 | y :: r, i, G, S => by
   have e:i+1+(r.length:Int)=i+((y :: r).length:Int):=by simp; omega
   simp only [List.cons_append,topsP]
   split
   · rw [topsP_snoc x r,e]
   · split
     · rw [topsP_snoc x r,e]
     · rw [topsP_snoc x r,e]
theorem defsP_snoc (G:Nms) (x:N):∀ (l:List N) (i:Int) (S:SM),defsP G i (l++[x]) S=(if x.k=3 then sclosedP G (i+l.length) x.ks [] false (defsP G i l S) else defsP G i l S)
 | [],i,S=>by simp only [List.nil_append,defsP,List.length_nil,Int.natCast_zero,Int.add_zero]
 | y :: r, i, S => by
   have e:i+1+(r.length:Int)=i+((y :: r).length:Int):=by simp; omega
   simp only [List.cons_append,defsP]
   rw [defsP_snoc G x r,e]
theorem tops_grew:∀ (l:List N) (i:Int) (G:Nms) (S:SM),FOk S.bs.length G→Grew S (topsP i l G S).2 l.length (topsP i l G S).1
 | [],i,G,S,h=>⟨Nat.le_refl _,by simp [topsP],h⟩
 | n :: r, i, G, S, h => by
   simp only [topsP,List.length_cons]
   have step:∀ k:Int,Grew S (topsP (i+1) r (bindP k i n G S).1 (bindP k i n G S).2).2 (r.length+1) (topsP (i+1) r (bindP k i n G S).1 (bindP k i n G S).2).1:=fun k=>by
    have h1:=Grew.bind h k i n
    have h2:=tops_grew r (i+1) _ _ h1.ok
    refine ⟨Nat.le_trans h1.bs h2.bs,?_,h2.ok⟩
    have:=h1.sz; have:=h2.sz
    omega
   split
   · exact step 1
   · split
     · exact step 2
     · have h2:=tops_grew r (i+1) G S h
       exact ⟨h2.bs,by have:=h2.sz; omega,h2.ok⟩
theorem defs_grew (G:Nms):∀ (l:List N) (i:Int) (S:SM),S.bs.length≤(defsP G i l S).bs.length∧(defsP G i l S).sz≤S.sz+2 * N.sizes l
 | [],i,S=>by simp [defsP]
 | n :: r, i, S => by
   simp only [defsP,N.sizes_cons]
   have h1:=grew_closed (ks:=n.ks) (fun p _=>grew p) G i [] false S
   have h3:=N.size_ks n
   split
   · have h2:=defs_grew G r (i+1) (sclosedP G i n.ks [] false S)
     omega
   · have h2:=defs_grew G r (i+1) S
     omega
def scC (L:Nat):SC:=⟨L+5,L+2,L+3,L+4,L+7,L+6⟩
def scY (F:SF) (L:Nat) (bx:Ob) (S:SM) (G:Nms) (it:Int):Hp:=[bx,.box F.tm [.d (.sl true 4 []),.d (.sl true 4 []),.d (.sl true 2 [])],.tok S.bs.length 4 F.bd,.tok S.ms.length 4 F.mn,.vec 2 F.ed S.bad.length (S.bad.map encBad),mbox F (scC L) S,.mp (encNms G),.box F.tb [.ptr (L+5) 0,.d .nilp,.map (L+6),.d (.int .i64 it)]]
section
variable {P:Program} {F:SF} {S S':SM} {G G':Nms} {H:Hp} {it:Int} {bx:Ob}
theorem scY_inv (X:Hp):SInv F (scC H.length) S (.d .nilp) it G (H++(scY F H.length bx S G it++X)):=by
 refine ⟨?_,?_,?_,?_,?_,?_,?_⟩
 · simp only [scC,scY,List.cons_append,List.nil_append,getElem?_appk]; rfl
 · simp only [scC,scY,List.cons_append,List.nil_append,getElem?_appk]; rfl
 · simp only [scC,scY,List.cons_append,List.nil_append,getElem?_appk]; rfl
 · simp only [scC,scY,List.cons_append,List.nil_append,getElem?_appk]; rfl
 · simp only [scC,scY,List.cons_append,List.nil_append,getElem?_appk]; rfl
 · simp only [scC,scY,List.cons_append,List.nil_append,getElem?_appk]; rfl
 · simp only [scC]; omega
theorem scY_nput (X:Hp):nput F (scC H.length) S' (H.length+6) G' (H++(scY F H.length bx S G it++X))=H++(scY F H.length bx S' G' it++X):=by
 simp only [nput,sput,scC,scY,List.cons_append,List.nil_append,set_appk]; rfl
theorem scY_sput (X:Hp):sput F (scC H.length) S' (H++(scY F H.length bx S G it++X))=H++(scY F H.length bx S' G it++X):=by
 simp only [sput,scC,scY,List.cons_append,List.nil_append,set_appk]; rfl
theorem scY_cut (hcl:H.Closed) (hbx:∀ n,bx.clr n=bx) (X:Hp):Hp.cut (H.length+8) (H++(scY F H.length bx S G it++X))=H++scY F H.length bx S G it:=by
 rw [cut_appk hcl]
 have:((scY F H.length bx S G it++X).take 8)=scY F H.length bx S G it:=by simp [scY]
 rw [this]
 simp only [scY,List.map_cons,List.map_nil,hbx,encNms_clr]
 rw [mbox_clr (by simp [scC]) (by simp [scC]) (by simp [scC])]
 simp
def scTail (srt cmp : FuncId) : C := .seq (.ops [
    ⟨(some 65),none,.faddr 2 (.t 3)⟩,
    ⟨(some 66),none,.load 1 false (.t 65)⟩,
    ⟨(some 67),none,.call srt [(.t 66),(.c (.fn cmp))]⟩] false)
 (.seq (.ops [
  ⟨(some 68),none,.load 3 true (.t 3)⟩,
  ⟨none,none,.store 3 (.t 2) (.t 68)⟩] false)
 (.ret))
theorem SHas.ofW (hF:SHas P F) (hW:HasW P F) {fof:FuncId} (hof:HasT P [5000003,8200003,6000034,6000043] fof (irScOf F.bind F.closed F.srt F.cmp F.tn F.tm F.tb F.bd F.mn F.ed))
 {k f t:Int} {w:Bs} {a:Int} {z:Bool} {ks:List N} (hn:N.sizes ks≤68719476736) (q:Nat) (K:A→Hp→Prop)
 (hq:H.Closed→∀ (it:Int) (fr:Fr),fr 3 = .ptr (H.length+5) 0→fr 2 = .ptr (H.length+1) 0→AWp P H.length (scTail F.srt F.cmp) (Fin [.cell 2 3 true] (H.length+q) K) fr
  (H++scY F H.length (.box F.tn [.d (.int .i64 k),.d (.int .i64 f),.d (.int .i64 t),.d (.str w),.d (.int .i64 a),.d (.sl z 6 (ks.map N.enc))]) (defsP (topsP 0 ks [] ⟨[],[],[]⟩).1 0 ks (topsP 0 ks [] ⟨[],[],[]⟩).2) (topsP 0 ks [] ⟨[],[],[]⟩).1 it)) :
 ACall P fof [N.v (.mk k f t w a z ks)] H K:=by
 obtain ⟨fn,hf,hcf⟩:=hof
 refine acall_fink q hf hcf (by simp [irScOf]) fun hcl _ => ?_
 have hq:=hq hcl
 rw [N.v_mk]
 have hsl:=N.sizes_len ks
 obtain ⟨bx,hbx⟩:∃ bx,bx=Ob.box F.tn [.d (.int .i64 k),.d (.int .i64 f),.d (.int .i64 t),.d (.str w),.d (.int .i64 a),.d (.sl z 6 (ks.map N.enc))]:=⟨_,rfl⟩
 have hbc:∀ n,bx.clr n=bx:=fun n=>by subst hbx; simp
 rw [← hbx] at hq
 simp [irScOf]
 rw [← hbx]
 have hstart:(H++[bx,.box F.tm [.d (.sl true 4 []),.d (.sl true 4 []),.d (.sl true 2 [])],.tok 0 4 F.bd,.tok 0 4 F.mn,.vec 2 F.ed 0 [],.box F.tm [.osl true 4 [] (H.length+2),.osl true 4 [] (H.length+3),.vsl (H.length+4) 0 0],.mp [],.box F.tb [.ptr (H.length+5) 0,.d .nilp,.map (H.length+6),.d (.int .i64 0)]]:Hp)=H++scY F H.length bx ⟨[],[],[]⟩ [] 0:=rfl
 rw [hstart]
 have hbx1:∀ S G it X,(H++(scY F H.length bx S G it++X))[H.length]?=some bx:=fun S G it X=>by simp only [scY,List.cons_append,getElem?_app0]; rfl
 refine LoopK_out 0 (fun fr' H'=>fr' 1 = .ptr H.length 0∧fr' 2 = .ptr (H.length+1) 0∧fr' 3 = .ptr (H.length+5) 0∧fr' 4 = .ptr (H.length+7) 0∧∃ it,H'=H++scY F H.length bx (topsP 0 ks [] ⟨[],[],[]⟩).2 (topsP 0 ks [] ⟨[],[],[]⟩).1 it) ?_ ?_
 · refine RangeK_of (H.length+8) ks.length (fun j fr' H'=>fr' 1 = .ptr H.length 0∧fr' 2 = .ptr (H.length+1) 0∧fr' 3 = .ptr (H.length+5) 0∧fr' 4 = .ptr (H.length+7) 0∧fr' 13 = .d (.sl z 6 (ks.map N.enc))∧∃ it,H'=H++scY F H.length bx (topsP 0 (ks.take j) [] ⟨[],[],[]⟩).2 (topsP 0 (ks.take j) [] ⟨[],[],[]⟩).1 it) (by omega) (by decide) (by simp [scY]) (by simp) ?_ ?_ ?_
   · have hc0:=scY_cut (F:=F) (S:=⟨[],[],[]⟩) (G:=[]) (it:=0) hcl hbc []
     rw [List.append_nil] at hc0
     rw [List.take_zero]
     refine ⟨by simp,by simp,by simp,by simp,by simp,0,?_⟩
     rw [hc0]; rfl
   · rintro j fr' H' hj f9 f8 ⟨f1,f2,f3,f4,f13,it,rfl⟩
     have hr:=rowAt_map N.enc hj
     have hll:(ks.take j).length=j:=by simp; omega
     have hgr:=tops_grew (ks.take j) 0 [] ⟨[],[],[]⟩ (FOk.nil _)
     have hstep:=topsP_snoc ks[j] (ks.take j) 0 [] ⟨[],[],[]⟩
     rw [← List.take_succ_eq_append_getElem hj,hll,Int.zero_add] at hstep
     generalize ks[j]=x at hr hstep
     obtain ⟨g1,g2,g3⟩:=hgr
     have hz:SM.sz ⟨[],[],[]⟩=0:=rfl
     rw [hll,hz] at g2
     generalize topsP 0 (ks.take j) [] ⟨[],[],[]⟩=TP at g1 g2 g3 hstep ⊢
     obtain ⟨G1,S1⟩:=TP
     simp only at g1 g2 g3 hstep ⊢
     obtain ⟨k2,f2',t2,w2,a2,z2,ks2⟩:=x
     have gb:=fun (X:Hp) (kind:Int)=>hF.bind' (scY_inv (F:=F) (bx:=bx) (S:=S1) (G:=G1) (it:=(j:Int)) (H:=H) X) (m:=H.length+6) (es:=G1) (by simp only [scY,List.cons_append,List.nil_append,getElem?_appk]; rfl) ⟨⟨by simp only [scC]; omega,by simp only [scC]; omega,by simp only [scC]; omega,by simp only [scC]; omega⟩,by simp only [scC]; omega⟩ (.mk k2 f2' t2 w2 a2 z2 ks2) kind (by omega)
     simp only [scY_nput] at gb
     have hcut:=fun (S':SM) (G':Nms) X=>scY_cut (F:=F) (S:=S') (G:=G') (it:=(j:Int)) hcl hbc X
     rw [N.enc_mk] at hr
     rw [N.v_mk] at gb
     have e7:∀ (S:SM) (G:Nms) (it:Int) X,(scY F H.length bx S G it++X)[7]?=some (.box F.tb [.ptr (H.length+5) 0,.d .nilp,.map (H.length+6),.d (.int .i64 it)]):=fun _ _ it X=>rfl
     have e8:∀ (S:SM) (G:Nms) (it:Int) (x:Ob),(scY F H.length bx S G it++[x])[8]?=some x:=fun _ _ it x=>rfl
     have s8:∀ (it:Int) (x y:Ob),(scY F H.length bx S1 G1 it++[x]).set 8 y=scY F H.length bx S1 G1 it++[y]:=fun it x y=>rfl
     have s7:∀ (it:Int) X,(scY F H.length bx S1 G1 it++X).set 7 (.box F.tb [.ptr (H.length+5) 0,.d .nilp,.map (H.length+6),.d (.int .i64 (j:Int))])=scY F H.length bx S1 G1 (j:Int)++X:=fun it X=>rfl
     have lY:∀ S G it,(scY F H.length bx S G it).length=8:=fun _ _ _=>rfl
     simp [f9,f13,hr,f4,lY,e7,e8,s8,s7,-getElem?_pos]
     have nxt:∀ (S':SM) (G':Nms) (fr2:Fr) (X:Hp),fr2 15 = .d (.int .i64 (j:Int))→fr2 14 = .d (.int .i64 (ks.length:Int))→fr2 1 = .ptr H.length 0→fr2 2 = .ptr (H.length+1) 0→fr2 3 = .ptr (H.length+5) 0→fr2 4 = .ptr (H.length+7) 0→fr2 13 = .d (.sl z 6 (ks.map N.enc))→topsP 0 (ks.take (j+1)) [] ⟨[],[],[]⟩=(G',S') →
      NextK (fun j fr' H'=>fr' 1 = .ptr H.length 0∧fr' 2 = .ptr (H.length+1) 0∧fr' 3 = .ptr (H.length+5) 0∧fr' 4 = .ptr (H.length+7) 0∧fr' 13 = .d (.sl z 6 (ks.map N.enc))∧∃ it,H'=H++scY F H.length bx (topsP 0 (ks.take j) [] ⟨[],[],[]⟩).2 (topsP 0 (ks.take j) [] ⟨[],[],[]⟩).1 it) .mk (H.length+8) ks.length 15 14 44 j fr2 (H++(scY F H.length bx S' G' (j:Int)++X)):=fun S' G' fr2 X u15 u14 u1 u2 u3 u4 u13 hst=>by
      refine NextK_of (H.length+8) (Nat.le_refl _) (by simp [lY,u15,u14]) ?_
      refine ⟨by simp [u1],by simp [u2],by simp [u3],by simp [u4],by simp [u13],j,?_⟩
      rw [hcut,hst]
     by_cases h2:k2=2
     · subst h2
       rw [if_pos (show (N.mk 2 f2' t2 w2 a2 z2 ks2).k=2 from rfl)] at hstep
       have gb1:=gb [Ob.box F.tn [.d (.int .i64 2),.d (.int .i64 f2'),.d (.int .i64 t2),.d (.str w2),.d (.int .i64 a2),.d (.sl z2 6 (ks2.map N.enc))]] 1
       simp [f4,e7,e8,-getElem?_pos]
       refine CallE_of gb1 ?_
       simp
       refine nxt _ _ _ _ (by simp [f9]) (by simp [f8]) (by simp [f1]) (by simp [f2]) (by simp [f3]) (by simp [f4]) (by simp [f13]) ?_
       rw [hstep]
     · by_cases h3:k2=3
       · subst h3
         rw [if_neg (show ¬ (N.mk 3 f2' t2 w2 a2 z2 ks2).k=2 from h2),if_pos (show (N.mk 3 f2' t2 w2 a2 z2 ks2).k=3 from rfl)] at hstep
         have gb1:=gb [Ob.box F.tn [.d (.int .i64 3),.d (.int .i64 f2'),.d (.int .i64 t2),.d (.str w2),.d (.int .i64 a2),.d (.sl z2 6 (ks2.map N.enc))]] 2
         simp [f4,e7,e8,-getElem?_pos]
         refine CallE_of gb1 ?_
         simp
         refine nxt _ _ _ _ (by simp [f9]) (by simp [f8]) (by simp [f1]) (by simp [f2]) (by simp [f3]) (by simp [f4]) (by simp [f13]) ?_
         rw [hstep]
       · rw [if_neg (show ¬ (N.mk k2 f2' t2 w2 a2 z2 ks2).k=2 from h2),if_neg (show ¬ (N.mk k2 f2' t2 w2 a2 z2 ks2).k=3 from h3)] at hstep
         simp [h2,h3,f4,e7,e8,-getElem?_pos]
         exact nxt _ _ _ _ (by simp [f9]) (by simp [f8]) (by simp [f1]) (by simp [f2]) (by simp [f3]) (by simp [f4]) (by simp [f13]) hstep
   · rintro fr' H' f9 f8 ⟨f1,f2,f3,f4,f13,it,rfl⟩
     rw [List.take_of_length_le (Nat.le_refl _)]
     simp [f1,f2,f3,f4]
     exact ⟨it,rfl⟩
 · rintro fr' H' ⟨f1,f2,f3,f4,it,rfl⟩
   have hgT:=tops_grew ks 0 [] ⟨[],[],[]⟩ (FOk.nil _)
   generalize topsP 0 ks [] ⟨[],[],[]⟩=TP at hq hgT ⊢
   obtain ⟨G,S0⟩:=TP
   obtain ⟨t1,t2,t3⟩:=hgT
   have hz:SM.sz ⟨[],[],[]⟩=0:=rfl
   rw [hz] at t2
   simp only at hq t1 t2 t3 ⊢
   have e0:∀ S (it:Int),(scY F H.length bx S G it)[0]?=some bx:=fun _ _=>rfl
   have e0':∀ S (it:Int) X,(scY F H.length bx S G it++X)[0]?=some bx:=fun _ _ _=>rfl
   have ebx:(H++scY F H.length bx S0 G it)[H.length]?=some bx:=by rw [getElem?_app0]; rfl
   rw [hbx] at ebx
   have lY:∀ S G it,(scY F H.length bx S G it).length=8:=fun _ _ _=>rfl
   have e7:∀ (S:SM) (it:Int) X,(scY F H.length bx S G it++X)[7]?=some (.box F.tb [.ptr (H.length+5) 0,.d .nilp,.map (H.length+6),.d (.int .i64 it)]):=fun _ it X=>rfl
   have e8:∀ (S:SM) (it:Int) (x:Ob),(scY F H.length bx S G it++[x])[8]?=some x:=fun _ it x=>rfl
   have s8:∀ (S:SM) (it:Int) (x y:Ob),(scY F H.length bx S G it++[x]).set 8 y=scY F H.length bx S G it++[y]:=fun _ it x y=>rfl
   have s7:∀ (S:SM) (it j:Int) X,(scY F H.length bx S G it++X).set 7 (.box F.tb [.ptr (H.length+5) 0,.d .nilp,.map (H.length+6),.d (.int .i64 j)])=scY F H.length bx S G j++X:=fun _ it j X=>rfl
   have e00:(scY F H.length bx S0 G it)[0]?=some (Ob.box F.tn [.d (.int .i64 k),.d (.int .i64 f),.d (.int .i64 t),.d (.str w),.d (.int .i64 a),.d (.sl z 6 (ks.map N.enc))]):=by rw [← hbx]; rfl
   simp [f1,e00,-getElem?_pos]
   refine LoopK_out 3 (fun fr' H'=>fr' 2 = .ptr (H.length+1) 0∧fr' 3 = .ptr (H.length+5) 0∧∃ it,H'=H++scY F H.length bx (defsP G 0 ks S0) G it) ?_ ?_
   · refine RangeK_of (H.length+8) ks.length (fun j fr' H'=>fr' 2 = .ptr (H.length+1) 0∧fr' 3 = .ptr (H.length+5) 0∧fr' 4 = .ptr (H.length+7) 0∧fr' 46 = .d (.sl z 6 (ks.map N.enc))∧∃ it,H'=H++scY F H.length bx (defsP G 0 (ks.take j) S0) G it) (by omega) (by decide) (by simp [scY]) (by simp) ?_ ?_ ?_
     · have hc0:=scY_cut (F:=F) (S:=S0) (G:=G) (it:=it) hcl hbc []
       rw [List.append_nil] at hc0
       rw [List.take_zero]
       refine ⟨by simp [f2],by simp [f3],by simp [f4],by simp,it,?_⟩
       rw [hc0]; rfl
     · rintro j fr' H' hj f9 f8 ⟨f2,f3,f4,f13,it,rfl⟩
       have hr:=rowAt_map N.enc hj
       have hll:(ks.take j).length=j:=by simp; omega
       have hgr:=defs_grew G (ks.take j) 0 S0
       have hstep:=defsP_snoc G ks[j] (ks.take j) 0 S0
       rw [← List.take_succ_eq_append_getElem hj,hll,Int.zero_add] at hstep
       have hsz:N.sizes (ks.take j)+(ks[j]).size≤N.sizes ks:=by
        have:ks=ks.take j++ks[j] :: ks.drop (j+1):=by rw [List.getElem_cons_drop]; simp
        have e:N.sizes ks=N.sizes (ks.take j)+(ks[j].size+N.sizes (ks.drop (j+1))):=by conv=>lhs; rw [this,N.sizes_app,N.sizes_cons]
        omega
       generalize ks[j]=x at hr hstep hsz
       generalize defsP G 0 (ks.take j) S0=S1 at hgr hstep ⊢
       obtain ⟨k2,f2',t2',w2,a2,z2,ks2⟩:=x
       rw [N.size_mk] at hsz
       have hcut:=fun (S':SM) X=>scY_cut (F:=F) (S:=S') (G:=G) (it:=(j:Int)) hcl hbc X
       have hO:∀ X,OInv F (scC H.length) S1 (.d .nilp) j G [] (H++(scY F H.length bx S1 G (j:Int)++X)):=fun X=>⟨scY_inv X,rfl,by simp⟩
       have gc:=fun X=>hF.closed' hW (z:=z2) (ks:=ks2) (fun p _=>hF.node' hW p) (hO X) false (t3.mono hgr.1) (by simp) (by omega) (by simp; omega)
       simp only [scY_sput,List.map_nil] at gc
       rw [N.enc_mk] at hr
       have nxt:∀ (S':SM) (fr2:Fr) (X:Hp),fr2 48 = .d (.int .i64 (j:Int))→fr2 47 = .d (.int .i64 (ks.length:Int))→fr2 2 = .ptr (H.length+1) 0→fr2 3 = .ptr (H.length+5) 0→fr2 4 = .ptr (H.length+7) 0→fr2 46 = .d (.sl z 6 (ks.map N.enc))→defsP G 0 (ks.take (j+1)) S0=S' →
        NextK (fun j fr' H'=>fr' 2 = .ptr (H.length+1) 0∧fr' 3 = .ptr (H.length+5) 0∧fr' 4 = .ptr (H.length+7) 0∧fr' 46 = .d (.sl z 6 (ks.map N.enc))∧∃ it,H'=H++scY F H.length bx (defsP G 0 (ks.take j) S0) G it) .mk (H.length+8) ks.length 48 47 64 j fr2 (H++(scY F H.length bx S' G (j:Int)++X)):=fun S' fr2 X u15 u14 u2 u3 u4 u13 hst=>by
        refine NextK_of (H.length+8) (Nat.le_refl _) (by simp [lY,u15,u14]) ?_
        refine ⟨by simp [u2],by simp [u3],by simp [u4],by simp [u13],j,?_⟩
        rw [hcut,hst]
       by_cases h3:k2=3
       · subst h3
         rw [if_pos (show (N.mk 3 f2' t2' w2 a2 z2 ks2).k=3 from rfl)] at hstep
         simp [f9,f13,hr,f4,lY,e7,e8,s8,s7,-getElem?_pos]
         refine CallK_of' (gc _) ?_
         simp
         exact nxt _ _ _ (by simp [f9]) (by simp [f8]) (by simp [f2]) (by simp [f3]) (by simp [f4]) (by simp [f13]) hstep
       · rw [if_neg (show ¬ (N.mk k2 f2' t2' w2 a2 z2 ks2).k=3 from h3)] at hstep
         simp [f9,f13,hr,f4,lY,e7,e8,s8,s7,h3,-getElem?_pos]
         exact nxt _ _ _ (by simp [f9]) (by simp [f8]) (by simp [f2]) (by simp [f3]) (by simp [f4]) (by simp [f13]) hstep
     · rintro fr' H' f9 f8 ⟨f2,f3,f4,f13,it,rfl⟩
       rw [List.take_of_length_le (Nat.le_refl _)]
       simp [f2,f3]
       exact ⟨it,rfl⟩
   · rintro fr' H' ⟨f2,f3,it,rfl⟩
     exact hq it fr' f3 f2
end
end
section
section
variable {P:Program} {F:RSF} {c:RSC} {S S':SM} {H:Hp}
end
end
section
section
variable {P:Program} {F:RSF} {S S':SM} {H:Hp} {bx:Ob}
end
end
section
section
variable {P:Program}
end
end


section
section
variable {L:List Tk}
end
section
variable {L L':List Tk} {d b lo c:Nat}
end
end
section
section
variable {L L':List Tk} {d b:Nat}
end
end
section
section
variable {L L':List Tk} {d b:Nat}
end
end
theorem parseP_size (L:List Tk):(parseP L).1.size≤1+4 * L.length:=by
 have hn:N.none.size=1:=N.size_none
 unfold parseP
 split
 · simp only; omega
 · cases hF:parseF L with
   | out=>simp only; omega
   | bad q=>simp only; omega
   | ok m j =>
     simp only
     split
     · simp only; omega
     · have hsz:=pp_size (L:=L) (16 * L.length+8) (.file []) 0 trivial
       rw [show pp L (16 * L.length+8) (.file []) 0 = .ok m j from hF] at hsz
       simp only [Sz,G.k1,G.sz,N.sizes_nil] at hsz
       have hadv:=pp_adv (L:=L) (16 * L.length+8) (.file []) 0
       rw [show pp L (16 * L.length+8) (.file []) 0 = .ok m j from hF] at hadv
       obtain ⟨v1,-,v3⟩:=hadv
       simp only; omega
theorem parseO_size (s:Bs):(parseO s).2.1.size≤16001:=by
 unfold parseO
 split
 · simp only [N.size_none]; omega
 · rename_i h
   split
   · simp only [N.size_none]; omega
   · have:=parseP_size (lexS s).1
     have:=(lexS_like (s:=s) (by simpa using h)).2.2.2.2
     simp only; omega
section
open Go.Proofs
structure Un where
 n:Bs
 t:Bs
 tk:List Tk
 tr:N
 sm:SM
 bad:Int
 pos:Int
def Un.enc (u:Un):List D:=[.str u.n,.str u.t,.sl true 4 (u.tk.map encTk)]++u.tr.enc++u.sm.enc++[.int .i64 u.bad,.int .i64 u.pos]
theorem Un.enc_len (u:Un):u.enc.length=14:=by
 obtain ⟨n,t,tk,⟨k,f,to,w,a,z,ks⟩,sm,b,p⟩:=u
 simp [Un.enc,N.enc_mk,SM.enc]
def readU (m:Mod):Un :=
 ⟨m.n,m.t,(parseO m.t).1,(parseO m.t).2.1,if (parseO m.t).2.2.1=0 then scopeM (parseO m.t).2.1 else ⟨[],[],[]⟩,(parseO m.t).2.2.1,(parseO m.t).2.2.2⟩
section
variable {P:Program} {H0:Hp}
def PofOk (P:Program) (H0:Hp) (f:Nat):Prop:=∀ (s:Bs),s.length≤1048576→∀ H,Pre0 H0 H →
 ACall P f [.d (.str s)] H (fun r H'=>r = .tup [.d (.sl true 4 ((parseO s).1.map encTk)),(parseO s).2.1.v,.d (.int .i64 (parseO s).2.2.1),.d (.int .i64 (parseO s).2.2.2)]∧H'=H)
def SofOk (P:Program) (f:Nat):Prop:=∀ (n:N),n.size≤68719476736→∀ H,ACall P f [n.v] H (fun r H'=>r = .agg ((scopeM n).enc.map .d)∧H'=H)
theorem Has.pjRead {f pof sof tM tU:Nat} (h:Has P f (irPjRead pof sof tM tU)) (hp:PofOk P H0 pof) (hs:SofOk P sof) (m:Mod) (hm:m.t.length≤1048576) (H:Hp) (hH:Pre0 H0 H) :
 ACall P f [.agg [.d (.str m.n),.d (.str m.t)]] H (fun r H'=>r = .agg ((readU m).enc.map .d)∧H'=H):=by
 obtain ⟨fn,hf,hcf⟩:=h
 refine acall_fin hf hcf (by simp [irPjRead]) fun hcl _ => ?_
 have g1:=fun X=>hp m.t hm (H++X) (hH.app X)
 have g2:=fun X=>hs (parseO m.t).2.1 (Nat.le_trans (parseO_size m.t) (by decide)) (H++X)
 unfold readU
 obtain ⟨n,t⟩:=m
 simp only at g1 g2 ⊢
 generalize parseO t=p at g1 g2 ⊢
 obtain ⟨tk,tr,bad,pos⟩:=p
 simp only at g1 g2 ⊢
 generalize scopeM tr=S at g2 ⊢
 obtain ⟨bs,ms,bd⟩:=S
 obtain ⟨k,fr,to,w,a,z,ks⟩:=tr
 simp only [N.v_mk,N.enc_mk,SM.enc,List.map_cons,List.map_nil] at g1 g2
 simp [irPjRead]
 refine CallK_of' (g1 _) ?_
 simp
 by_cases hb:bad=0
 · subst hb
   simp
   refine CallK_of' (g2 _) ?_
   simp
   simp [RetK,cut_app hcl,Un.enc,SM.enc,N.enc_mk]
 · simp [hb]
   simp [RetK,cut_app hcl,Un.enc,SM.enc,N.enc_mk,hb]
end
end
section
open Go.Proofs
def cU (a b:Un):Int:=cmpStr a.n b.n
theorem cU_cmp:Cmp cU:=cmpStr_cmp.on Un.n
theorem Un.enc_eq (u:Un):∃ l,l.length=13∧u.enc = .str u.n :: l:=⟨_,by
 have:=u.enc_len
 obtain ⟨n,t,tk,⟨k,f,to,w,a,z,ks⟩,sm,b,p⟩:=u
 simp [Un.enc,N.enc_mk,SM.enc],rfl⟩
theorem list13 {α:Type}:∀ {l:List α},l.length=13→∃ a b c d e f g h i j k m n,l=[a,b,c,d,e,f,g,h,i,j,k,m,n]
 | [a,b,c,d,e,f,g,h,i,j,k,m,n],_=>⟨a,b,c,d,e,f,g,h,i,j,k,m,n,rfl⟩
theorem Un.ld (u:Un) (H:Hp):ldA H 14 (.eptr u.enc)=some (rowE Un.enc u):=by
 obtain ⟨l,hl,hu⟩:=u.enc_eq
 obtain ⟨a,b,c,d,e,f',g,h,i,j,k,m',n',rfl⟩:=list13 hl
 simp [ldA,rowE,hu,cutL]
section
variable {P:Program}
theorem Has.pjCmpU {f cmpS nan tU:Nat} (h:Has P f (irPjCmpU cmpS tU)) (hs:Has P cmpS (irCompare nan)) (hn:Has P nan irIsNaN) (u v:Un) (H:Hp) :
 ACall P f [.agg (rowE Un.enc u),.agg (rowE Un.enc v)] H (fun r H'=>r = .d (.int .i64 (cU u v))∧H'=H):=by
 obtain ⟨fn,hf,hcf⟩:=h
 obtain ⟨l,hl,hu⟩:=u.enc_eq
 obtain ⟨m,hm,hv⟩:=v.enc_eq
 obtain ⟨a,b,c,d,e,f',g,h,i,j,k,m',n',rfl⟩:=list13 hl
 obtain ⟨a',b',c',d',e',f'',g',h',i',j',k',m'',n'',rfl⟩:=list13 hm
 refine acall_fin hf hcf (by simp [irPjCmpU]) fun hcl _ => ?_
 simp [irPjCmpU,rowE,hu,hv]
 refine CallK_of' (compareStr_acall hs.choose_spec.1 hs.choose_spec.2 hn.choose_spec.1 hn.choose_spec.2 _ _) ?_
 simp [RetK,cut_app hcl,cU]
theorem Has.pjCmpUS {f cmpS nan tU:Nat} (h:Has P f (irPjCmpUS cmpS tU)) (hs:Has P cmpS (irCompare nan)) (hn:Has P nan irIsNaN) (u:Un) (s:Bs) (H:Hp) :
 ACall P f [.agg (rowE Un.enc u),.d (.str s)] H (fun r H'=>r = .d (.int .i64 (cmpStr u.n s))∧H'=H):=by
 obtain ⟨fn,hf,hcf⟩:=h
 obtain ⟨l,hl,hu⟩:=u.enc_eq
 obtain ⟨a,b,c,d,e,f',g,h,i,j,k,m',n',rfl⟩:=list13 hl
 refine acall_fin hf hcf (by simp [irPjCmpUS]) fun hcl _ => ?_
 simp [irPjCmpUS,rowE,hu]
 refine CallK_of' (compareStr_acall hs.choose_spec.1 hs.choose_spec.2 hn.choose_spec.1 hn.choose_spec.2 _ _) ?_
 simp [RetK,cut_app hcl]
def lbU (S:List Un) (s:Bs):Nat:=(S.takeWhile fun u=>decide (cmpStr u.n s < 0)).length
theorem lbU_eq {S:List Un} {s:Bs} {k:Nat} (h1:k≤S.length) (h2:∀ j u,j < k→S[j]?=some u→cmpStr u.n s < 0) (h3:∀ u,S[k]?=some u→¬ cmpStr u.n s < 0):lbU S s=k:=by
 unfold lbU
 induction S generalizing k with
 | nil=>simp at h1; simp [h1]
 | cons x S ih =>
   cases k with
   | zero =>
     have:=h3 x rfl
     simp [this]
   | succ k =>
     have h:=h2 0 x (by omega) rfl
     rw [List.takeWhile_cons,if_pos (by simpa using h),List.length_cons]
     rw [ih (by simpa using h1) (fun j u hj hu=>h2 (j+1) u (by omega) (by simpa using hu)) (fun u hu=>h3 u (by simpa using hu))]
theorem Has.pjBins {f g:Nat} (h:Has P f irPjBins) (S:List Un) (z:Bool) (s:Bs) (hl:S.length≤1048576) (hso:∀ (i j:Nat) (u v:Un),i≤j→S[i]?=some u→S[j]?=some v→cmpStr v.n s < 0→cmpStr u.n s < 0)
 (hg:callOk P g=true) (hc:∀ (u:Un) (H:Hp),ACall P g [.agg (rowE Un.enc u),.d (.str s)] H (fun r H'=>r = .d (.int .i64 (cmpStr u.n s))∧H'=H)) (H:Hp) :
 ACall P f [.d (.sl z 14 (S.map Un.enc)),.d (.str s),.d (.fn g)] H (fun r H'=>r = .tup [.d (.int .i64 (lbU S s)),.d (.bool (match S[lbU S s]? with | some u=>decide (cmpStr u.n s=0) | none=>false))]∧H'=H):=by
 obtain ⟨fn,hf,hcf⟩:=h
 refine acall_fin hf hcf (by simp [irPjBins]) fun hcl _ => ?_
 simp [irPjBins]
 refine LoopK_out 0 (fun fr H'=>fr 0 = .d (.sl z 14 (S.map Un.enc))∧fr 1 = .d (.str s)∧fr 2 = .d (.fn g)∧fr 8 = .d (.int .i64 S.length)∧fr 9 = .d (.int .i64 (lbU S s:Nat))∧H'=H) ?_ ?_
 · refine LoopK_of H.length (fun fr H'=>∃ lo hi:Nat,lo≤hi∧hi≤S.length∧(∀ j u,j < lo→S[j]?=some u→cmpStr u.n s < 0)∧(∀ j u,hi≤j→S[j]?=some u→¬ cmpStr u.n s < 0) ∧
    fr 0 = .d (.sl z 14 (S.map Un.enc))∧fr 1 = .d (.str s)∧fr 2 = .d (.fn g)∧fr 8 = .d (.int .i64 S.length)∧fr 9 = .d (.int .i64 lo)∧fr 10 = .d (.int .i64 hi)∧H'=H)
    (fun fr H'=>match fr 9,fr 10 with | .d (.int _ k),.d (.int _ l)=>(l - k).toNat | _,_=>0) (by simp) ?_ ?_
   · refine ⟨0,S.length,by omega,by omega,fun j u hj=>by omega,fun j u hj hu=>absurd (List.getElem?_eq_some_iff.1 hu).1 (by omega),?_⟩
     simp [cut_self hcl]
   rintro fr H' ⟨lo,hi,e1,e2,eA,eB,f0,f1,f2,f8,f9,f10,hH'⟩
   rw [hH']
   simp [f9,f10]
   refine BrK_split (fun h4 => ?_) (fun h4 => ?_)
   · have h4:lo < hi:=by simp at h4; omega
     have v1:IntKind.i64.wrap ((lo:Int)+hi)=lo+hi:=wrap_i64 (by omega) (by omega)
     have v2:=half_op (n:=(lo:Int)+hi) (by omega) (by omega)
     generalize hk:(lo+hi) / 2=k
     have hk2:((lo:Int)+hi) / 2=k:=by omega
     rw [hk2] at v2
     have v4:IntKind.i64.wrap ((k:Int)+1)=k+1:=wrap_i64 (by omega) (by omega)
     obtain ⟨u,hu⟩:∃ u,S[k]?=some u:=⟨_,List.getElem?_eq_getElem (by omega)⟩
     have hr:Zam.rowAt (S.map Un.enc) (k:Int)=some u.enc:=by simp [Zam.rowAt,hu]
     simp [f0,f1,f2,f9,f10,v1,shr_one,v2,hr,u.ld,hg,-ldA]
     refine CallK_of' (hc u _) ?_
     simp
     refine BrK_split (fun h5 => ?_) (fun h5 => ?_)
     · have h5:cmpStr u.n s < 0:=by simpa using h5
       simp [v4]
       refine AgainK_of (m:=H.length) (by simp) ⟨k+1,hi,by omega,by omega,?_,eB,?_⟩ ?_
       · intro j x hj hx
         exact hso j k x u (by omega) hx hu h5
       · simp [f0,f1,f2,f8,f9,f10,cut_self hcl]
       · simp [f9,f10]; omega
     · have h5:¬ cmpStr u.n s < 0:=by simpa using h5
       simp
       refine AgainK_of (m:=H.length) (by simp) ⟨lo,k,by omega,by omega,eA,?_,?_⟩ ?_
       · intro j x hj hx h6
         exact h5 (hso k j u x hj hu hx h6)
       · simp [f0,f1,f2,f8,f9,f10,cut_self hcl]
       · simp [f9,f10]; omega
   · have:lo=hi:=by simp at h4; omega
     subst this
     simp [f0,f1,f2,f8,f9]
     rw [lbU_eq (by omega) eA (fun u hu=>eB lo u (Nat.le_refl _) hu)]
 · rintro fr H' ⟨f0,f1,f2,f8,f9,rfl⟩
   have hle:lbU S s≤S.length:=(List.takeWhile_prefix _).length_le
   simp [f0,f1,f2,f8,f9]
   refine GdK_split (by simp) (fun h => ?_) (fun h => ?_)
   · have hlt:lbU S s < S.length:=by simpa using h
     have hu:S[lbU S s]?=some S[lbU S s]:=List.getElem?_eq_getElem hlt
     generalize S[lbU S s]=u at hu
     have hr:Zam.rowAt (S.map Un.enc) ((lbU S s:Nat):Int)=some u.enc:=by simp [Zam.rowAt,hu]
     simp [f0,f1,f2,f8,f9,hr,u.ld,hg,hlt,-ldA]
     refine CallK_of' (hc u _) ?_
     simp
     simp [RetK,cut_self hcl,hu]
   · have hlt:¬ lbU S s < S.length:=by simpa using h
     have hn:S[lbU S s]?=none:=by simp; omega
     simp [h]
     simp [RetK,cut_self hcl]
     rw [hn]
end
end
section
open Go.RowKit (Below)
open Go.Proofs Go.Sort
end
section
open Go.RowKit (Below)
open Go.Proofs Go.Sort
end

end Go.Zam
namespace Go.Zam
abbrev Str':=List UInt8
namespace Ty
end Ty
end Go.Zam
namespace Go.Zam
open Classical
namespace Ty
end Ty
end Go.Zam
namespace Go.Zam
open Classical
namespace Ty
end Ty
end Go.Zam
namespace Go.Zam
open Classical
namespace Ty
end Ty
end Go.Zam
namespace Go.Zam
section
open Classical
section
variable {P:Program}
end
end

section
open Classical
section
variable {P:Program}
end
section
variable {P:Program}
end
end
section
open Go.RowKit (Below)
open Go.Proofs Go.Sort
section
variable {P:Program}
end
end
section
open Go.Proofs
end
section
open Classical
section
variable {P:Program}
end
end

section
open Classical
section
variable {P:Program}
end
end
section
section
variable {P:Program} {F:PF}
end
end
section
open Classical
section
variable {P:Program}
end
end
section
open Go.Proofs
open Classical
section
variable {L:List Tk} {b:Nat}
end
end
section
open Classical
section
variable {P:Program}
end
end
section
open Classical
section
variable {P:Program}
end
end
section
open Classical
section
variable {P:Program} {bt:Nat}
end
end
section
open Classical
section
variable {P:Program} {t:Nat}
end
end
end Go.Zam
namespace Go.Zam
open Classical
namespace Ty
end Ty
section
variable {P:Program} {t:Nat} {H0:Hp}
end
end Go.Zam
namespace Go.Zam
section
open Classical
section
variable {P:Program} {t:Nat} {H0:Hp}
end
end
section
open Classical
section
variable {c:Bool} {k k':Int} {z z' y y':Bool} {ns ns':List Str'} {ps ps':List T}
end
end
section
open Classical
section
variable {P:Program} {t tS:TypeId}
end
end
section
open Classical
section
variable {P:Program} {t:Nat} {H0:Hp}
end
end
section
open Classical
end
section
open Classical
section
variable {P:Program}
end
end
section
open Go.Proofs
def pA (S:List Un):A := .eptr [.sl S.isEmpty 14 (S.map Un.enc)]
def zU:List D:=[.str [],.str [],.sl true 4 [],.int .i64 0,.int .i64 0,.int .i64 0,.str [],.int .i64 0,.sl true 6 [],.sl true 4 [],.sl true 4 [],.sl true 2 [],.int .i64 0,.int .i64 0]
def unitU (S:List Un) (s:Bs):Option Un:=match S[lbU S s]? with
 | some u=>if cmpStr u.n s=0 then some u else none
 | none=>none
theorem take_app {H X:Hp} (R:List (List D)) (j:Nat) {b sz e:Nat} (r:List D) (hj:j < R.length) (hb:(R.length+1) * b≤140737488355328) :
 appA (H++(.tok j sz e :: X)) sz b e [r] (.osl true sz (R.take j) H.length)=some (.osl true sz (R.take j++[r]) H.length,H++(.tok (j+1) sz e :: X)):=by
 have hl:(R.take j).length=j:=by simp; omega
 have:=appA_osl (H:=H++(.tok j sz e :: X)) (t:=H.length) (sz:=sz) (b:=b) (e:=e) (z:=true) (rows:=R.take j) (new:=[r]) (by simp [hl]) (by
  rw [hl]; simp only [List.length_singleton]
  exact Nat.le_trans (Nat.mul_le_mul_right _ (by omega)) hb)
 rw [this,hl]
 simp
section
variable {P:Program}
theorem Has.pjUnit {f bins cmpUS cmpS nan tU:Nat} (h:Has P f (irPjUnit bins cmpUS tU)) (hb:Has P bins irPjBins) (hc:Has P cmpUS (irPjCmpUS cmpS tU)) (hk:callOk P cmpUS=true) (hs:Has P cmpS (irCompare nan)) (hn:Has P nan irIsNaN)
 (S:List Un) (s:Bs) (hl:S.length≤1048576) (hso:∀ (i j:Nat) (u v:Un),i≤j→S[i]?=some u→S[j]?=some v→cmpStr v.n s < 0→cmpStr u.n s < 0) (H:Hp) :
 ACall P f [pA S,.d (.str s)] H (fun r H'=>r = .tup [.agg (((unitU S s).elim zU Un.enc).map .d),.d (.bool (unitU S s).isSome)]∧H'=H):=by
 obtain ⟨fn,hf,hcf⟩:=h
 refine acall_fin hf hcf (by simp [irPjUnit]) fun hcl _ => ?_
 have g:=fun X=>Has.pjBins hb S S.isEmpty s hl hso hk (fun u H=>Has.pjCmpUS hc hs hn u s H) (H++X)
 unfold unitU
 simp [irPjUnit,pA]
 refine CallK_of' (g _) ?_
 cases hu:S[lbU S s]? with
 | none =>
   simp
   simp [RetK,cut_app hcl,zU]
 | some u =>
   by_cases h0:cmpStr u.n s=0
   · have hr:Zam.rowAt (S.map Un.enc) ((lbU S s:Nat):Int)=some u.enc:=by simp [Zam.rowAt,hu]
     obtain ⟨l,hl,he⟩:=u.enc_eq
     obtain ⟨a,b,c,d,e,f',g,h,i,j,k,m',n',rfl⟩:=list13 hl
     simp [h0,hr,he]
     simp [RetK,cut_app hcl,h0,he]
   · simp [h0]
     simp [RetK,cut_app hcl,zU,h0]
theorem Has.pjUnit0 {f bins cmpUS tU:Nat} (h:Has P f (irPjUnit bins cmpUS tU)) (s:Bs) (H:Hp) :
 ACall P f [.d .nilp,.d (.str s)] H (fun r H'=>r = .tup [.agg (zU.map .d),.d (.bool false)]∧H'=H):=by
 obtain ⟨fn,hf,hcf⟩:=h
 refine acall_fin hf hcf (by simp [irPjUnit]) fun hcl _ => ?_
 simp [irPjUnit]
 simp [RetK,cut_app hcl,zU]
theorem Has.pjNames {f tU tS:Nat} (h:HasT P [3] f (irPjNames tU tS)) (S:List Un) (hl:S.length≤1048576) (H:Hp) :
 ACall P f [pA S] H (fun r H'=>r = .d (.sl true 1 (S.map fun u=>[.str u.n]))∧H'=H):=by
 obtain ⟨fn,hf,hcf⟩:=h
 refine acall_fin hf hcf (by simp [irPjNames]) fun hcl _ => ?_
 simp [irPjNames,pA]
 refine LoopK_out 0 (fun fr H'=>fr 3 = .osl true 1 (S.map fun u=>[.str u.n]) H.length∧H'=H++[.tok S.length 1 tS]) ?_ ?_
 · refine RangeK_of (H.length+1) S.length (fun j fr H'=>fr 11 = .d (.sl S.isEmpty 14 (S.map Un.enc))∧fr 3 = .osl true 1 ((S.map fun u=>[D.str u.n]).take j) H.length∧H'=H++[.tok j 1 tS]) (by omega) (by decide) (by simp) (by simp) ?_ ?_ ?_
   · simp [cut_appk hcl]
   · rintro j fr H' hj fi fn ⟨f11,f3,rfl⟩
     obtain ⟨u,hu⟩:∃ u,S[j]?=some u:=⟨_,List.getElem?_eq_getElem hj⟩
     have hr:Zam.rowAt (S.map Un.enc) (j:Int)=some u.enc:=by simp [Zam.rowAt,hu]
     obtain ⟨l,hl',he⟩:=u.enc_eq
     obtain ⟨a,b,c,d,e,f',g,h,i,j',k,m',n',rfl⟩:=list13 hl'
     have ht:(S.map fun u=>[D.str u.n]).take (j+1)=(S.map fun u=>[D.str u.n]).take j++[[.str u.n]]:=by rw [List.take_succ,List.getElem?_map,hu]; rfl
     have happ:=fun X=>take_app (H:=H) (X:=X) (S.map fun u=>[D.str u.n]) j (b:=16) (sz:=1) (e:=tS) [.str u.n] (by simpa using hj) (by simp; omega)
     simp [fi,f11,hr,he,f3,happ]
     refine NextK_of (H.length+1) (Nat.le_refl _) (by simp [fi,fn]) ?_
     simp [f11,cut_appk hcl,ht]
   · rintro fr H' fi fn ⟨f11,f3,rfl⟩
     simp
     rw [f3,List.take_of_length_le (by simp)]
 · rintro fr H' ⟨f3,rfl⟩
   simp [f3]
   simp [RetK,cut_app hcl]
end
end
section
open Go.Proofs
def chkU:Option Bs→List Un→Int
 | _,[]=>0
 | p,u :: r=>if isNameB u.n=false then 1 else if p=some u.n then 4 else chkU (some u.n) r
def pvU (S:List Un) (j:Nat):Option Bs:=match j with
 | 0=>none
 | j+1=>(S[j]?).map Un.n
section
variable {P:Program}
structure SortU (P:Program) (clone srt stb ins sym rot swp cU cmpS nan tU:Nat):Prop where
 clone:HasT P [1000005] clone (irCloneM 14 216 tU)
 srt:Has P srt (irSortStable stb)
 stb:Has P stb (irStable ins sym)
 ins:Has P ins (irInsertion 14)
 sym:Has P sym (irSymMerge 14 rot sym)
 rot:Has P rot (irRotate swp)
 swp:Has P swp (irSwapRange 14)
 cmpU:Has P cU (irPjCmpU cmpS tU)
 kCmpU:callOk P cU=true
 cmpS:Has P cmpS (irCompare nan)
 nan:Has P nan irIsNaN
theorem ofWalk {f clone srt stb ins sym rot swp cmpU cmpS nan tU isName tP:Nat} (hC:SortU P clone srt stb ins sym rot swp cmpU cmpS nan tU) (h:Has P f (irPjOf clone srt isName cmpU tP tU))
 (hN:∀ s H,ACall P isName [.d (.str s)] H (fun r H'=>r = .d (.bool (isNameB s))∧H'=H)) {H:Hp} (l:List Un) (hl0:l ≠ []) (hl:l.length≤8) (z:Bool) (k:Nat) (K:A→Hp→Prop)
 (hok:H.Closed→chkU none (ssort cU l)=0→RetK K .mk (H.length+k) (some (.tup [.ptr (H.length+2) 0,.d (.int .i64 0)])) (H++[.arr 14 [],arrE Un.enc 14 (ssort cU l),.box tP [.msl (H.length+1) 0 l.length]]))
 (herr:∀ e X,H.Closed→chkU none (ssort cU l)=e→e ≠ 0→RetK K .mk (H.length+k) (some (.tup [.d .nilp,.d (.int .i64 e)])) (H++X)) :
 ACall P f [.d (.sl z 14 (l.map Un.enc))] H K:=by
 have hlen:=ssort_length cU_cmp l
 refine acall_fink k h.choose_spec.1 h.choose_spec.2 (by simp [irPjOf]) fun hcl _ => ?_
 have h8:¬ (8:Int) < l.length:=by omega
 simp [irPjOf,h8]
 refine CallK_of' (cloneM_acall hC.clone.choose_spec.1 hC.clone.choose_spec.2 (rows:=l.map Un.enc) (by simpa using hl0) (by simp; omega)) ?_
 simp
 have hss:∀ X,ACall P srt [.msl (H.length+1) 0 l.length,.d (.fn cmpU)] (H++[.arr 14 [],arrE Un.enc 14 l]++X) (fun r' H'=>r' = .tup []∧H'=H++[.arr 14 [],arrE Un.enc 14 (ssort cU l)]++X):=fun X=>by
  have:=sortStable_acall Un.enc_len cU_cmp hC.srt.choose_spec.1 hC.srt.choose_spec.2 hC.stb.choose_spec.1 hC.stb.choose_spec.2 hC.ins.choose_spec.1 hC.ins.choose_spec.2 hC.sym.choose_spec.1 hC.sym.choose_spec.2 hC.rot.choose_spec.1 hC.rot.choose_spec.2 hC.swp.choose_spec.1 hC.swp.choose_spec.2
   (g := .d (.fn cmpU)) (fun H x y Q t hq=>by
    simp only [ValD_d]
    exact ⟨hC.kCmpU,CallD_of (Has.pjCmpU hC.cmpU hC.cmpS hC.nan x y H) hq⟩) (H:=H++[.arr 14 [],arrE Un.enc 14 l]++X) (i:=H.length+1) (L:=l) (fun m _=>by simp) (by simp) (by omega)
  refine this.mono ?_
  rintro r H' ⟨rfl,rfl⟩
  exact ⟨rfl,by simp⟩
 have hss1:=hss [.box tP [.msl (H.length+1) 0 l.length]]
 rw [show arrE Un.enc 14 l = .arr 14 ((l.map Un.enc).map (List.map .d)) by simp [arrE,rowE]] at hss1
 simp at hss1
 refine CallK_of' hss1 ?_
 clear hss1 hss
 generalize hS:ssort cU l=S at *
 rw [← hlen]
 rw [← hlen] at hok
 have hS8:S.length≤8:=by omega
 have hi:∀ X:Hp,(H ++ .arr 14 [] :: arrE Un.enc 14 S :: X)[H.length+1]?=some (arrE Un.enc 14 S):=fun X=>by simp
 simp
 refine LoopK_outR 0 (fun fr H'=>fr 4 = .ptr (H.length+2) 0∧chkU none S=0∧H'=H++[.arr 14 [],arrE Un.enc 14 S,.box tP [.msl (H.length+1) 0 S.length]])
  (fun fr H'=>∃ e X,chkU none S=e∧e ≠ 0∧fr 2 = .d .nilp∧fr 3 = .d (.int .i64 e)∧H'=H++X) ?_ ?_ ?_
 · refine RangeK_of (H.length+3) S.length (fun j fr H'=>fr 4 = .ptr (H.length+2) 0∧fr 22 = .msl (H.length+1) 0 S.length∧chkU none S=chkU (pvU S j) (S.drop j)∧H'=H++[.arr 14 [],arrE Un.enc 14 S,.box tP [.msl (H.length+1) 0 S.length]]) (by omega) (by decide) (by simp) (by simp) ?_ ?_ ?_
   · simp [cut_appk hcl,arrE_clr,pvU,-Ob.clr]
     exact ⟨by simp,by simp⟩
   · rintro j fr H' hj fi fn ⟨f4,f22,hch,rfl⟩
     obtain ⟨u,hu⟩:∃ u,S[j]?=some u:=⟨_,List.getElem?_eq_getElem hj⟩
     have hdr:S.drop j=u :: S.drop (j+1):=by
      rw [List.drop_eq_getElem_cons hj]
      congr 1
      rw [List.getElem?_eq_getElem hj] at hu; cases hu; rfl
     rw [hdr] at hch
     simp only [chkU] at hch
     obtain ⟨l13,hl',he⟩:=u.enc_eq
     obtain ⟨a,b,c,d,e,f',g,h,i,j',k',m',n',rfl⟩:=list13 hl'
     have h1:=arr_iaddr (n:=S.length) (hi [.box tP [.msl (H.length+1) 0 S.length]]) rfl hj
     have h2:=arr_ld Un.enc_len (hi [.box tP [.msl (H.length+1) 0 S.length]]) hu
     rw [rowE,he] at h2
     simp only [List.map_cons,List.map_nil] at h2
     simp [fi,f4,f22,h1,h2,ld_ptr,st_ptr,-iaddrA,-ldA,-stA]
     refine CallK_of' (hN _ _) ?_
     simp
     cases hb:isNameB u.n with
     | false =>
       rw [if_pos hb] at hch
       simp [hch]
     | true =>
       rw [if_neg (by rw [hb]; decide)] at hch
       have hps:pvU S (j+1)=some u.n:=by simp [pvU,hu]
       by_cases hj0:j=0
       · subst hj0
         rw [if_neg (by simp [pvU])] at hch
         simp
         refine NextK_of (H.length+3) (Nat.le_refl _) (by simp [fi,fn]) ?_
         simp [f4,f22,cut_appk hcl,arrE_clr,-Ob.clr]
         refine ⟨by rw [hch]; simp [pvU,hu],by simp,by simp⟩
       · have hjp:0 < j:=by omega
         obtain ⟨v,hv⟩:∃ v,S[j - 1]?=some v:=⟨_,List.getElem?_eq_getElem (by omega)⟩
         have hpv:pvU S j=some v.n:=by
          obtain ⟨j,rfl⟩:∃ i,j=i+1:=⟨j - 1,by omega⟩
          simp only [Nat.add_sub_cancel] at hv
          simp [pvU,hv]
         rw [hpv] at hch
         have hw:IntKind.i64.wrap ((j:Int) - 1)=((j - 1:Nat):Int):=by rw [wrap_i64 (by omega) (by omega)]; omega
         have h3:=arr_iaddr (n:=S.length) (k:=j - 1) (hi [.box tP [.msl (H.length+1) 0 S.length],.box tU [A.d (D.str u.n),A.d a,A.d b,A.d c,A.d d,A.d e,A.d f',A.d g,A.d h,A.d i,A.d j',A.d k',A.d m',A.d n']]) rfl (by omega)
         obtain ⟨lv,-,hev⟩:=v.enc_eq
         have h4:=arr_ldc (hi [.box tP [.msl (H.length+1) 0 S.length],.box tU [A.d (D.str u.n),A.d a,A.d b,A.d c,A.d d,A.d e,A.d f',A.d g,A.d h,A.d i,A.d j',A.d k',A.d m',A.d n']]) hv (j:=0) (by rw [hev]; rfl)
         simp [f4,hjp,hw,h3,h4,ld_ptr,st_ptr,-iaddrA,-ldA,-stA]
         by_cases hvu:v.n=u.n
         · rw [if_pos (by rw [hvu])] at hch
           simp [hvu,hch]
         · rw [if_neg (by simpa using hvu)] at hch
           simp [hvu]
           refine NextK_of (H.length+3) (Nat.le_refl _) (by simp [fi,fn]) ?_
           simp [f4,f22,cut_appk hcl,arrE_clr,hps,hch,-Ob.clr]
           exact ⟨by simp,by simp⟩
   · rintro fr H' fi fn ⟨f4,f22,hch,rfl⟩
     simp [f4]
     rw [hch,List.drop_length]; rfl
 · rintro fr H' ⟨e,X,h1,h2,f2,f3,rfl⟩
   simp [f2,f3]
   exact herr e X hcl h1 h2
 · rintro fr H' ⟨f4,h1,rfl⟩
   simp [f4]
   exact hok hcl h1
def ofU (l:List Un):List Un × Int:=if 8 < l.length then ([],5) else (if chkU none (ssort cU l)=0 then ssort cU l else [],chkU none (ssort cU l))
def ofA (l:List Un):A := .tup [if (ofU l).2=0 then pA (ofU l).1 else .d .nilp,.d (.int .i64 (ofU l).2)]
theorem Has.pjOf {f clone srt stb ins sym rot swp cmpU cmpS nan tU isName tP:Nat} (hC:SortU P clone srt stb ins sym rot swp cmpU cmpS nan tU) (h:Has P f (irPjOf clone srt isName cmpU tP tU))
 (hN:∀ s H,ACall P isName [.d (.str s)] H (fun r H'=>r = .d (.bool (isNameB s))∧H'=H)) {H:Hp} (l:List Un) (hb:l.length≤1048576) (z:Bool) (hz:l=[]→z=true) :
 ACall P f [.d (.sl z 14 (l.map Un.enc))] H (fun r H'=>r=ofA l∧H'=H):=by
 by_cases h8:8 < l.length
 · have ho:ofA l = .tup [.d .nilp,.d (.int .i64 5)]:=by simp [ofA,ofU,h8]
   rw [ho]
   refine acall_fin h.choose_spec.1 h.choose_spec.2 (by simp [irPjOf]) fun hcl _ => ?_
   have h8':(8:Int) < l.length:=by omega
   simp [irPjOf,h8']
   simp [RetK,cut_self hcl]
 by_cases h0:l=[]
 · subst h0
   obtain rfl:=hz rfl
   have ho:ofA [] = .tup [.eptr [.sl true 14 []],.d (.int .i64 0)]:=rfl
   rw [ho]
   refine ACall.freezeBoxD (b:=0) (ty:=tP) (X:=[.box tP [.d (.sl true 14 [])]]) rfl ?_
   refine acall_fink 1 h.choose_spec.1 h.choose_spec.2 (by simp [irPjOf]) fun hcl _ => ?_
   simp [irPjOf]
   refine CallK_of' (clone0_acall hC.clone.choose_spec.1 hC.clone.choose_spec.2) ?_
   simp
   refine CallK_of' (sortStable0_acall (sz:=14) hC.srt.choose_spec.1 hC.srt.choose_spec.2 hC.stb.choose_spec.1 hC.stb.choose_spec.2 hC.ins.choose_spec.1 hC.ins.choose_spec.2 (fun m _=>by simp)) ?_
   simp
   refine LoopK_out 0 (fun fr H'=>fr 4 = .ptr H.length 0∧H'=H++[.box tP [.d (.sl true 14 [])]]) ?_ ?_
   · refine RangeK_of (H.length+1) 0 (fun j fr H'=>fr 4 = .ptr H.length 0∧H'=H++[.box tP [.d (.sl true 14 [])]]) (by omega) (by decide) (by simp) (by simp) ?_ ?_ ?_
     · simp [cut_appk hcl]
     · rintro j fr H' hj
       exact absurd hj (by omega)
     · rintro fr H' fi fn ⟨f4,rfl⟩
       simp [f4]
   · rintro fr H' ⟨f4,rfl⟩
     simp [f4]
     simp [RetK,cut_appk hcl]
 have hlen:=ssort_length cU_cmp l
 by_cases hc:chkU none (ssort cU l)=0
 · have hne:(ssort cU l).isEmpty=false:=by
    cases hs:ssort cU l with
    | nil=>rw [hs] at hlen; exact absurd (List.eq_nil_of_length_eq_zero hlen.symm) h0
    | cons _ _=>rfl
   have ho:ofA l = .tup [.eptr [.sl false 14 ((ssort cU l).map Un.enc)],.d (.int .i64 0)]:=by simp [ofA,ofU,h8,hc,pA,hne]
   rw [ho]
   refine ACall.freezeBox (i:=1) (b:=2) (ty:=tP) (X:=[.arr 14 [],arrE Un.enc 14 (ssort cU l),.box tP [.msl (H.length+1) 0 l.length]]) (by simp [arrE,rowE]) (by simp [hlen]) ?_
   refine ofWalk hC h hN l h0 (by omega) z 3 _ (fun hcl _ => ?_) (fun e X _ h1 h2=>absurd (h1.symm.trans hc) h2)
   simp [RetK,hlen,cut_appk hcl,arrE_clr,-Ob.clr]
   exact ⟨by simp,by simp⟩
 · have ho:ofA l = .tup [.d .nilp,.d (.int .i64 (chkU none (ssort cU l)))]:=by simp [ofA,ofU,h8,hc]
   rw [ho]
   refine ofWalk hC h hN l h0 (by omega) z 0 _ (fun _ h1=>absurd h1 hc) (fun e X hcl h1 h2 => ?_)
   subst h1
   simp [RetK,cut_app hcl]
end
end
end Go.Zam
namespace Go.Zam
open Go.Proofs
namespace R2
section
variable {P:Program}
end
end R2
end Go.Zam
namespace Go.Zam
section
open Go.Proofs
section
variable {P:Program}
end
end
section
open Go.Proofs
section
variable {P:Program}
end
end
section
open Go.Proofs
section
variable {P:Program} {H0:Hp}
def ReadOk (P:Program) (H0:Hp) (f:Nat):Prop:=∀ (m:Mod),m.t.length≤1048576→∀ H,Pre0 H0 H→ACall P f [.agg [.d (.str m.n),.d (.str m.t)]] H (fun r H'=>r = .agg ((readU m).enc.map .d)∧H'=H)
theorem HasT.pjLoad {f read of_ tM tU:Nat} (h:HasT P [4] f (irPjLoad read of_ tM tU)) (hr:ReadOk P H0 read)
 (ho:∀ (l:List Un) (z:Bool),l.length≤1048576→(l=[]→z=true)→∀ H,ACall P of_ [.d (.sl z 14 (l.map Un.enc))] H (fun r H'=>r=ofA l∧H'=H))
 (l:List Mod) (z:Bool) (ht:∀ m ∈ l,m.t.length≤1048576) (H:Hp) (hH:Pre0 H0 H) :
 ACall P f [.d (.sl z 2 (l.map encM))] H (fun r H'=>r=ofA (l.map readU)∧H'=H):=by
 obtain ⟨fn,hf,hcf⟩:=h
 by_cases h8:8 < l.length
 · have hoe:ofA (l.map readU) = .tup [.d .nilp,.d (.int .i64 5)]:=by simp [ofA,ofU,h8]
   rw [hoe]
   refine acall_fin hf hcf (by simp [irPjLoad]) fun hcl _ => ?_
   have h8':(8:Int) < l.length:=by omega
   simp [irPjLoad,h8']
   simp [RetK,cut_self hcl]
 refine acall_fin hf hcf (by simp [irPjLoad]) fun hcl _ => ?_
 have h8':¬ (8:Int) < l.length:=by omega
 simp [irPjLoad,h8']
 refine LoopK_out 0 (fun fr H'=>fr 4 = .osl true 14 ((l.map readU).map Un.enc) H.length∧H'=H++[.tok l.length 14 tU]) ?_ ?_
 · refine RangeK_of (H.length+1) l.length (fun j fr H'=>fr 10 = .d (.sl z 2 (l.map encM))∧fr 4 = .osl true 14 (((l.map readU).map Un.enc).take j) H.length∧H'=H++[.tok j 14 tU]) (by omega) (by decide) (by simp) (by simp) ?_ ?_ ?_
   · simp [cut_appk hcl]
   · rintro j fr H' hj fi fn ⟨f10,f4,rfl⟩
     obtain ⟨m,hm⟩:∃ m,l[j]?=some m:=⟨_,List.getElem?_eq_getElem hj⟩
     have hrow:Zam.rowAt (l.map encM) (j:Int)=some [.str m.n,.str m.t]:=by simp [Zam.rowAt,hm,encM]
     have hrd:=fun X=>hr m (ht m (List.mem_of_getElem? hm)) (H++X) (hH.app X)
     obtain ⟨l13,hl',he⟩:=(readU m).enc_eq
     obtain ⟨a,b,c,d,e,f',g,h,i,j',k',m',n',rfl⟩:=list13 hl'
     have ht':((l.map readU).map Un.enc).take (j+1)=((l.map readU).map Un.enc).take j++[(readU m).enc]:=by rw [List.take_succ,List.getElem?_map,List.getElem?_map,hm]; rfl
     rw [he] at ht'
     have happ:=fun X=>take_app (H:=H) (X:=X) ((l.map readU).map Un.enc) j (b:=216) (sz:=14) (e:=tU) [.str (readU m).n,a,b,c,d,e,f',g,h,i,j',k',m',n'] (by simpa using hj) (by simp; omega)
     generalize (l.map readU).map Un.enc=R at *
     simp [fi,f10,f4,hrow]
     refine CallK_of' (hrd _) ?_
     simp [he,f4,happ]
     refine NextK_of (H.length+1) (Nat.le_refl _) (by simp [fi,fn]) ?_
     simp [f10,cut_appk hcl,ht']
   · rintro fr H' fi fn ⟨f10,f4,rfl⟩
     simp
     rw [f4,List.take_of_length_le (by simp),List.map_map]
 · rintro fr H' ⟨f4,rfl⟩
   simp [f4]
   have hof:=ho (l.map readU) true (by simp; omega) (fun _=>rfl) (H++[.tok l.length 14 tU])
   rw [List.map_map] at hof
   refine CallK_of' (ACall.osl1 hof) ?_
   unfold ofA
   by_cases hz:(ofU (l.map readU)).2=0
   · simp only [if_pos hz,pA]
     simp
     simp [RetK,cut_app hcl]
   · simp only [if_neg hz]
     simp
     simp [RetK,cut_app hcl]
end
end
section
open Go.Proofs
section
variable {P:Program} {H0:Hp}
end
end
section
open Go.Proofs
def itU (w:Bs):List SBd→Int→Int→Int
 | [],_,pos=>pos
 | b :: r,i,pos=>itU w r (i+1) (if b.k=2∧b.w=w then i else pos)
section
variable {P:Program}
end
end
section
def SWd (L:List Tk) (w:Bs) (a:Int):Prop:=0≤a∧w=txT L a.toNat∧kdT L a.toNat=1
theorem SWd.mk' {L:List Tk} {i:Nat} (h:kdT L i=1):SWd L (txT L i) (i:Int):=⟨by omega,by simp,by simpa using h⟩
theorem SWd.mk1 {L:List Tk} {i:Nat} (h:kdT L (i+1)=1):SWd L (txT L (i+1)) ((i:Int)+1):=by
 have:=SWd.mk' h
 simpa using this
theorem SWd.mk3 {L:List Tk} {i:Nat} (h:kdT L (i+3)=1):SWd L (txT L (i+3)) ((i:Int)+3):=by
 have:=SWd.mk' h
 simpa using this
def ScP (L:List Tk):List N→Int→Int→Prop
 | [],b,e=>b≤e
 | x :: r,b,e=>x.k=5∧b≤x.at_∧SWd L x.w x.at_∧ScP L r (x.at_+1) e
mutual
def Sc (L:List Tk):N→Int→Int→Prop
 | .mk k f t w a z ks, b, e =>
   if k=7∨k=8 then SWd L w a∧b≤a∧ScS L ks (a+1) e
   else if k=23 then SWd L w a∧b≤a∧a < e
   else if k=28 then ScC L ks b e
   else ScS L ks b e
def ScS (L:List Tk):List N→Int→Int→Prop
 | [],b,e=>b≤e
 | n :: r,b,e=>∃ m,Sc L n b m∧ScS L r m e
def ScC (L:List Tk):List N→Int→Int→Prop
 | [],_,_=>False
 | [_],_,_=>False
 | [_,_],_,_=>False
 | [p,_,c],b,e=>∃ m,ScP L p.ks b m∧Sc L c m e
 | _ :: _ :: _ :: _ :: _,_,_=>False
end
section
variable {L:List Tk}
theorem Sc_mk (k f t:Int) (w:Bs) (a:Int) (z:Bool) (ks:List N) (b e:Int):Sc L (.mk k f t w a z ks) b e =
 if k=7∨k=8 then SWd L w a∧b≤a∧ScS L ks (a+1) e
 else if k=23 then SWd L w a∧b≤a∧a < e
 else if k=28 then ScC L ks b e
 else ScS L ks b e:=by rw [Sc]
theorem ScS_nil (b e:Int):ScS L [] b e=(b≤e):=by rw [ScS]
theorem ScS_cons (n:N) (r:List N) (b e:Int):ScS L (n :: r) b e=∃ m,Sc L n b m∧ScS L r m e:=by rw [ScS]
theorem ScC_three (p q c:N) (b e:Int):ScC L [p,q,c] b e=∃ m,ScP L p.ks b m∧Sc L c m e:=by rw [ScC]
theorem ScC_inv {ks:List N} {b e:Int} (h:ScC L ks b e):∃ p q c m,ks=[p,q,c]∧ScP L p.ks b m∧Sc L c m e:=by
 match ks,h with
 | [],h=>rw [ScC] at h; exact h.elim
 | [_],h=>rw [ScC] at h; exact h.elim
 | [_,_],h=>rw [ScC] at h; exact h.elim
 | [p,q,c],h=>rw [ScC] at h; obtain ⟨m,h1,h2⟩:=h; exact ⟨p,q,c,m,rfl,h1,h2⟩
 | _ :: _ :: _ :: _ :: _,h=>rw [ScC] at h; exact h.elim
theorem ScP.le:∀ {l:List N} {b e:Int},ScP L l b e→b≤e
 | [],_,_,h=>h
 | x :: r,b,e,h=>by have:=ScP.le h.2.2.2; have:=h.2.1; omega
theorem ScP.mono:∀ {l:List N} {b e b' e':Int},ScP L l b e→b'≤b→e≤e'→ScP L l b' e'
 | [],b,e,b',e',h,h1,h2=>by simp only [ScP] at h ⊢; omega
 | x :: r,b,e,b',e',h,h1,h2=>⟨h.1,by have:=h.2.1; omega,h.2.2.1,ScP.mono h.2.2.2 (Int.le_refl _) h2⟩
theorem ScP.snoc:∀ {l:List N} {b e e':Int} {x:N},ScP L l b e→x.k=5→e≤x.at_→SWd L x.w x.at_→x.at_+1≤e'→ScP L (l++[x]) b e'
 | [],b,e,e',x,h,h0,h1,h2,h3=>⟨h0,by simp only [ScP] at h; omega,h2,h3⟩
 | y :: r,b,e,e',x,h,h0,h1,h2,h3=>⟨h.1,h.2.1,h.2.2.1,ScP.snoc h.2.2.2 h0 h1 h2 h3⟩
def ScOk (L:List Tk) (n:N):Prop:=∀ b e,Sc L n b e→b≤e∧∀ b' e',b'≤b→e≤e'→Sc L n b' e'
theorem scS_ok {ks:List N} (ih:∀ p ∈ ks,ScOk L p):∀ b e,ScS L ks b e→b≤e∧∀ b' e',b'≤b→e≤e'→ScS L ks b' e':=by
 induction ks with
 | nil=>intro b e h; rw [ScS_nil] at h; exact ⟨h,fun b' e' h1 h2=>by rw [ScS_nil]; omega⟩
 | cons n r ih2 =>
   intro b e h
   rw [ScS_cons] at h
   obtain ⟨m,h1,h2⟩:=h
   obtain ⟨a1,a2⟩:=ih n (by simp) _ _ h1
   obtain ⟨b1,b2⟩:=ih2 (fun p hp=>ih p (by simp [hp])) _ _ h2
   refine ⟨by omega,fun b' e' h3 h4 => ?_⟩
   rw [ScS_cons]
   exact ⟨m,a2 _ _ h3 (Int.le_refl _),b2 _ _ (Int.le_refl _) h4⟩
theorem sc_ok (n:N):ScOk L n:=by
 induction n using N.ind with
 | h k f t w a z ks ih =>
 intro b e h
 have hS:=scS_ok (L:=L) ih
 rw [Sc_mk] at h
 by_cases h1:k=7∨k=8
 · rw [if_pos h1] at h
   obtain ⟨p1,p2,p3⟩:=h
   obtain ⟨q1,q2⟩:=hS _ _ p3
   refine ⟨by omega,fun b' e' h3 h4 => ?_⟩
   rw [Sc_mk,if_pos h1]
   exact ⟨p1,by omega,q2 _ _ (Int.le_refl _) h4⟩
 rw [if_neg h1] at h
 by_cases h2:k=23
 · rw [if_pos h2] at h
   refine ⟨by omega,fun b' e' h3 h4 => ?_⟩
   rw [Sc_mk,if_neg h1,if_pos h2]
   exact ⟨h.1,by omega,by omega⟩
 rw [if_neg h2] at h
 by_cases h3:k=28
 · rw [if_pos h3] at h
   obtain ⟨p,q,c,m,rfl,p1,p2⟩:=ScC_inv h
   obtain ⟨q1,q2⟩:=ih c (by simp) _ _ p2
   have:=p1.le
   refine ⟨by omega,fun b' e' h5 h6 => ?_⟩
   rw [Sc_mk,if_neg h1,if_neg h2,if_pos h3,ScC_three]
   exact ⟨m,p1.mono h5 (Int.le_refl _),q2 _ _ (Int.le_refl _) h6⟩
 rw [if_neg h3] at h
 obtain ⟨q1,q2⟩:=hS _ _ h
 refine ⟨q1,fun b' e' h5 h6 => ?_⟩
 rw [Sc_mk,if_neg h1,if_neg h2,if_neg h3]
 exact q2 _ _ h5 h6
theorem Sc.le {n:N} {b e:Int} (h:Sc L n b e):b≤e:=(sc_ok n b e h).1
theorem Sc.mono {n:N} {b e b' e':Int} (h:Sc L n b e) (h1:b'≤b) (h2:e≤e'):Sc L n b' e':=(sc_ok n b e h).2 b' e' h1 h2
theorem ScS.le {ks:List N} {b e:Int} (h:ScS L ks b e):b≤e:=(scS_ok (fun p _=>sc_ok p) b e h).1
theorem ScS.mono {ks:List N} {b e b' e':Int} (h:ScS L ks b e) (h1:b'≤b) (h2:e≤e'):ScS L ks b' e':=(scS_ok (fun p _=>sc_ok p) b e h).2 b' e' h1 h2
theorem ScS.nil {b e:Int} (h:b≤e):ScS L [] b e:=by rw [ScS_nil]; exact h
theorem ScS.cons {n:N} {r:List N} {b m m' e:Int} (h:Sc L n b m) (hr:ScS L r m' e) (hm:m≤m'):ScS L (n :: r) b e:=by rw [ScS_cons]; exact ⟨m,h,hr.mono hm (Int.le_refl _)⟩
theorem ScS.app {r:List N} {e':Int}:∀ {ks:List N} {b e:Int},ScS L ks b e→ScS L r e e'→ScS L (ks++r) b e'
 | [],b,e,h,hr=>by rw [ScS_nil] at h; exact hr.mono h (Int.le_refl _)
 | p :: l, b, e, h, hr => by
   rw [ScS_cons] at h
   obtain ⟨m,h1,h2⟩:=h
   rw [List.cons_append,ScS_cons]
   exact ⟨m,h1,ScS.app h2 hr⟩
theorem ScS.snoc {ks:List N} {x:N} {b e i j e':Int} (h:ScS L ks b e) (hx:Sc L x i j) (h1:e≤i) (h2:j≤e'):ScS L (ks++[x]) b e':=h.app (ScS.cons (hx.mono h1 (Int.le_refl _)) (ScS.nil h2) (Int.le_refl _))
theorem Sc.new {k f t:Int} {w:Bs} {a:Int} {ks:List N} {b e:Int} (h:decide (k=7∨k=8∨k=23∨k=28)=false) (hs:ScS L ks b e):Sc L (N.new k f t w a ks) b e:=by
 simp only [decide_eq_false_iff_not,not_or] at h
 rw [N.new,Sc_mk,if_neg (by omega),if_neg (by omega),if_neg (by omega)]
 exact hs
theorem Sc.none {b e:Int} (h:b≤e):Sc L N.none b e:=Sc.new (by decide) (ScS.nil h)
theorem Sc.lam {f t:Int} {w:Bs} {a:Int} {p q c:N} {b m e:Int} (hp:ScP L p.ks b m) (hc:Sc L c m e):Sc L (N.new 28 f t w a [p,q,c]) b e:=by
 rw [N.new,Sc_mk,if_neg (by omega),if_neg (by omega),if_pos rfl,ScC_three]
 exact ⟨m,hp,hc⟩
theorem Sc.name {f t:Int} {w:Bs} {a:Int} {b e:Int} (hw:SWd L w a) (h1:b≤a) (h2:a < e):Sc L (N.new 23 f t w a []) b e:=by
 rw [N.new,Sc_mk,if_neg (by omega),if_pos rfl]
 exact ⟨hw,h1,h2⟩
theorem Sc.bound {k f t:Int} {w:Bs} {a:Int} {ks:List N} {b e:Int} (hk:k=7∨k=8) (hw:SWd L w a) (h1:b≤a) (h2:ScS L ks (a+1) e):Sc L (N.new k f t w a ks) b e:=by
 rw [N.new,Sc_mk,if_pos hk]
 exact ⟨hw,h1,h2⟩
structure It (L:List Tk) (x:N) (b e:Int):Prop where
 fr:b≤x.f
 lo:x.f≤x.at_
 hi:x.at_ < x.t
 to:x.t≤e
 wd:SWd L x.w x.at_
 is:(x.k=2∧∃ p,x.ks=[p]∧x.f≤p.at_∧p.at_ < x.t∧SWd L p.w p.at_)∨(x.k=3∧ScC L x.ks (x.at_+1) x.t)
def ItS (L:List Tk):List N→Int→Int→Prop
 | [],b,e=>b≤e
 | x :: r,b,e=>It L x b x.t∧ItS L r x.t e
theorem ItS.snoc:∀ {l:List N} {b i:Int} {x:N},ItS L l b i→It L x i x.t→ItS L (l++[x]) b x.t
 | [],b,i,x,h,hx=>⟨⟨by simp only [ItS] at h; have:=hx.fr; omega,hx.lo,hx.hi,hx.to,hx.wd,hx.is⟩,Int.le_refl _⟩
 | y :: r,b,i,x,h,hx=>⟨h.1,ItS.snoc h.2 hx⟩
def ScQ (L:List Tk) (i:Nat):G→N→Nat→Prop
 | .list .param _,m,j=>ScP L m.ks i j
 | .list _ _,m,j=>ScS L m.ks i j
 | .listL .param _ ks,m,j=>∀ b:Int,ScP L ks b i→ScP L m.ks b j
 | .listL _ _ ks,m,j=>∀ b:Int,ScS L ks b i→ScS L m.ks b j
 | .stmts ks,m,j=>∀ b:Int,ScS L ks b i→ScS L m.ks b j
 | .file ks,m,j=>ItS L ks 0 i→ItS L m.ks 0 j
 | .use,m,j | .defn,m,j=>It L m i j∧m.t=j
 | .params,m,j=>ScP L m.ks i j
 | .param,m,j=>m.k=5∧(i:Int)≤m.at_∧SWd L m.w m.at_∧m.at_+1≤j
 | .sumL a,m,j | .termL a,m,j | .postL a,m,j=>∀ b:Int,Sc L a b i→Sc L m b j
 | _,m,j=>Sc L m i j
theorem ApR.wordK {P:N→Nat→Prop} {k:Nat} {h:Bs→Nat→PR} (hh:kdT L k=1→ApR P (h (txT L k) (k+1))):ApR P (wordR L k h):=by
 unfold wordR
 split
 · rename_i e; exact hh e
 · trivial
theorem ApR.iteK {P:N→Nat→Prop} {c:Prop} [Decidable c] {a b:PR} (ha:c→ApR P a) (hb:ApR P b):ApR P (if c then a else b):=by
 split
 · rename_i e; exact ha e
 · exact hb
theorem ApR.lastS {P:N→Nat→Prop} {n:Nat} (ih:∀ g i,g.flat→ApR (ScQ L i g) (pp L n g i)) {g:G} {k:Nat} (hg:g.flat) (hh:∀ m j,k≤j→(g.strict=true→k < j)→ScQ L k g m j→P m j):ApR P (pp L n g k):=by
 have h1:=ih g k hg
 have h2:=pp_adv (L:=L) n g k
 generalize pp L n g k=r at h1 h2
 cases r with
 | out=>trivial
 | bad j=>trivial
 | ok m j=>exact hh _ j h2.1 h2.2.1 h1
theorem ApR.thenS {P:N→Nat→Prop} {n:Nat} (ih:∀ g i,g.flat→ApR (ScQ L i g) (pp L n g i)) {g:G} {k:Nat} {h:N→Nat→PR} (hg:g.flat) (hh:∀ m j,k≤j→(g.strict=true→k < j)→ScQ L k g m j→ApR P (h m j)):ApR P ((pp L n g k).then h):=by
 have h1:=ih g k hg
 have h2:=pp_adv (L:=L) n g k
 generalize pp L n g k=r at h1 h2
 cases r with
 | out=>trivial
 | bad j=>trivial
 | ok m j=>exact hh m j h2.1 h2.2.1 h1
theorem pp_scope:∀ (n:Nat) (g:G) (i:Nat),g.flat→ApR (ScQ L i g) (pp L n g i)
 | 0,g,i,_=>trivial
 | n + 1, g, i, hg => by
   have ih:=pp_scope n
   cases g
   case listL one e ks =>
    simp only [pp]
    cases one<;>simp only [G.flat,G.one,Bool.false_eq_true] at hg
    case param =>
     refine ApR.thenS ih trivial fun m j h1 h2 h3 => ?_
     obtain ⟨p0,p1,p2,p3⟩:=h3
     refine ApR.ite (ApR.ok fun b hb => ?_) (ApR.want (ApR.lastS ih rfl fun x j' h1' h2' h3' b hb=>h3' b (ScP.snoc hb p0 p1 p2 (by omega))))
     exact ScP.snoc hb p0 p1 p2 (by omega)
    all_goals
     refine ApR.thenS ih trivial fun m j h1 h2 h3 => ?_
     refine ApR.ite (ApR.ok fun b hb => ?_) (ApR.want (ApR.lastS ih rfl fun x j' h1' h2' h3' b hb=>h3' b (ScS.snoc hb h3 (Int.le_refl _) (by omega))))
     exact ScS.snoc hb h3 (Int.le_refl _) (by omega)
   case list one e =>
    simp only [pp]
    cases one<;>simp only [G.flat,G.one,Bool.false_eq_true] at hg
    case param =>
     refine ApR.ite (ApR.ok ?_) (ApR.lastS ih rfl fun x j h1 h2 h3=>h3 i (Int.le_refl _))
     show (i:Int)≤_
     omega
    all_goals
     refine ApR.ite (ApR.ok ?_) (ApR.lastS ih rfl fun x j h1 h2 h3=>h3 i (ScS.nil (Int.le_refl _)))
     exact (show ScS L [] _ _ from ScS.nil (by omega))
   case stmts ks =>
    simp only [pp]
    refine ApR.ite (ApR.ok fun b hb=>hb.mono (Int.le_refl _) (by omega)) (ApR.thenS ih trivial fun m j h1 h2 h3=>ApR.lastS ih trivial fun x j' h1' h2' h3' b hb=>h3' b (ScS.snoc hb h3 (Int.le_refl _) (Int.le_refl _)))
   case file ks =>
    simp only [pp]
    refine ApR.ite (ApR.ok fun hb=>hb) (ApR.ite ?_ ?_)
    all_goals exact ApR.thenS ih trivial fun m j h1 h2 h3=>ApR.lastS ih trivial fun x j' h1' h2' h3' hb=>h3' (h3.2 ▸ ItS.snoc hb ⟨h3.1.fr,h3.1.lo,h3.1.hi,Int.le_refl _,h3.1.wd,h3.1.is⟩)
   case use =>
    simp only [pp]
    refine ApR.want (ApR.wordK fun w1=>ApR.want (ApR.wordK fun w2=>ApR.want (ApR.ok ?_)))
    refine ⟨⟨Int.le_refl _,?_,?_,?_,SWd.mk3 w2,.inl ⟨rfl,_,rfl,?_,?_,SWd.mk1 w1⟩⟩,?_⟩<;>simp only [N.new,N.f,N.t,N.at_]<;>omega
   case defn =>
    simp only [pp]
    refine ApR.want (ApR.wordK fun w1=>ApR.thenS ih trivial fun p j h1 h2 h3=>ApR.thenS ih trivial fun t j' h1' h2' h3'=>ApR.thenS ih trivial fun b k h1'' h2'' h3''=>ApR.ok ?_)
    have h2:=h2 rfl
    refine ⟨⟨Int.le_refl _,?_,?_,?_,SWd.mk1 w1,.inr ⟨rfl,?_⟩⟩,rfl⟩
    · simp only [N.new,N.f,N.at_]; omega
    · simp only [N.new,N.t,N.at_]; omega
    · simp only [N.new,N.t]; omega
    · simp only [N.new,N.ks,N.at_,N.t]
      rw [ScC_three]
      have h3:ScP L p.ks _ _:=h3
      have h3'':Sc L b _ _:=h3''
      exact ⟨j',h3.mono (by omega) (by omega),h3''⟩
   case params =>
    simp only [pp]
    refine ApR.want (ApR.thenS ih rfl fun m j h1 h2 h3=>ApR.ok ?_)
    have h3:ScP L m.ks _ _:=h3
    exact h3.mono (by omega) (Int.le_refl _)
   case param =>
    simp only [pp]
    refine ApR.wordK fun w1=>ApR.thenS ih trivial fun t j h1 h2 h3=>ApR.ok ⟨rfl,Int.le_refl _,SWd.mk' w1,?_⟩
    simp only [N.new,N.at_]; omega
   case typed =>
    simp only [pp]
    refine ApR.ite (ApR.lastS ih trivial fun m j h1 h2 h3 => ?_) (ApR.ok (show Sc L _ _ _ from Sc.none (Int.le_refl _)))
    have h3:Sc L m _ _:=h3
    exact h3.mono (by omega) (Int.le_refl _)
   case sumL a =>
    simp only [pp]
    refine ApR.ite ?_ (ApR.ite ?_ (ApR.ok fun b hb=>hb))
    all_goals
     refine ApR.thenS ih trivial fun m j h1 h2 h3=>ApR.lastS ih trivial fun x j' h1' h2' h3' b hb=>h3' b ?_
     exact (show Sc L _ _ _ from Sc.new (by decide) (ScS.cons hb (ScS.cons h3 (ScS.nil (Int.le_refl _)) (Int.le_refl _)) (by omega)))
   case termL a =>
    simp only [pp]
    refine ApR.ite ?_ (ApR.ok fun b hb=>hb)
    refine ApR.thenS ih trivial fun m j h1 h2 h3=>ApR.lastS ih trivial fun x j' h1' h2' h3' b hb=>h3' b ?_
    exact (show Sc L _ _ _ from Sc.new (by decide) (ScS.cons hb (ScS.cons h3 (ScS.nil (Int.le_refl _)) (Int.le_refl _)) (by omega)))
   case postL a =>
    simp only [pp]
    refine ApR.ite (ApR.word ?_) (ApR.ite ?_ (ApR.ok fun b hb=>hb))
    · refine ApR.lastS ih trivial fun x j' h1' h2' h3' b hb=>h3' b ?_
      exact (show Sc L _ _ _ from Sc.new (by decide) (ScS.cons hb (ScS.nil (Int.le_refl _)) (by omega)))
    · refine ApR.thenS ih rfl fun m j h1 h2 h3=>ApR.lastS ih trivial fun x j' h1' h2' h3' b hb=>h3' b ?_
      have h3:ScS L m.ks _ _:=h3
      exact (show Sc L _ _ _ from Sc.new (by decide) (ScS.cons hb h3 (by omega)))
   case block =>
    simp only [pp]
    refine ApR.want (ApR.thenS ih trivial fun m j h1 h2 h3=>ApR.ok ?_)
    have h3:=h3 _ (ScS.nil (Int.le_refl _))
    exact (show Sc L _ _ _ from Sc.new (by decide) (h3.mono (by omega) (Int.le_refl _)))
   case expr =>
    simp only [pp]
    refine ApR.thenS ih trivial fun a j h1 h2 h3=>ApR.ite ?_ (ApR.ite ?_ (ApR.ok h3))
    all_goals
     refine ApR.thenS ih trivial fun m j' h1' h2' h3'=>ApR.ok ?_
     exact (show Sc L _ _ _ from Sc.new (by decide) (ScS.cons h3 (ScS.cons h3' (ScS.nil (Int.le_refl _)) (Int.le_refl _)) (by omega)))
   case sum =>
    simp only [pp]
    exact ApR.thenS ih trivial fun a j h1 h2 h3=>ApR.lastS ih trivial fun x j' h1' h2' h3'=>h3' _ h3
   case term =>
    simp only [pp]
    exact ApR.thenS ih trivial fun a j h1 h2 h3=>ApR.lastS ih trivial fun x j' h1' h2' h3'=>h3' _ h3
   case post =>
    simp only [pp]
    exact ApR.thenS ih trivial fun a j h1 h2 h3=>ApR.lastS ih trivial fun x j' h1' h2' h3'=>h3' _ h3
   case kind =>
    simp only [pp]
    refine ApR.ite (ApR.ok (show Sc L _ _ _ from Sc.new (by decide) (ScS.nil (by omega)))) (ApR.ite (ApR.ok (show Sc L _ _ _ from Sc.new (by decide) (ScS.nil (by omega)))) (ApR.ite (ApR.ok (show Sc L _ _ _ from Sc.new (by decide) (ScS.nil (by omega)))) (ApR.ite ?_ ?_)))
    · refine ApR.thenS ih rfl fun m j h1 h2 h3=>ApR.ok ?_
      have h3:ScS L m.ks _ _:=h3
      exact (show Sc L _ _ _ from Sc.new (by decide) (h3.mono (by omega) (Int.le_refl _)))
    · refine ApR.want (ApR.want (ApR.thenS ih rfl fun m j h1 h2 h3=>ApR.want (ApR.thenS ih trivial fun t j' h1' h2' h3'=>ApR.ok ?_)))
      have h3:ScS L m.ks _ _:=h3
      exact (show Sc L _ _ _ from Sc.new (by decide) ((h3.mono (by omega) (Int.le_refl _)).snoc h3' (by omega) (Int.le_refl _)))
   case tfield =>
    simp only [pp]
    refine ApR.word (ApR.want (ApR.thenS ih trivial fun m j h1 h2 h3=>ApR.ok ?_))
    exact (show Sc L _ _ _ from Sc.new (by decide) (ScS.cons (Sc.mono h3 (by omega) (Int.le_refl _)) (ScS.nil (Int.le_refl _)) (Int.le_refl _)))
   case stmt =>
    simp only [pp]
    refine ApR.ite (ApR.wordK fun w1=>ApR.thenS ih trivial fun t j h1 h2 h3=>ApR.want (ApR.thenS ih trivial fun x j' h1' h2' h3'=>ApR.want (ApR.ok ?_))) (ApR.ite ?_ (ApR.ite ?_ (ApR.ite ?_ (ApR.ite ?_ (ApR.iteK (fun w1 => ?_) ?_)))))
    · exact (show Sc L _ _ _ from Sc.bound (.inl rfl) (SWd.mk1 w1) (by omega) (ScS.cons (Sc.mono h3 (by omega) (Int.le_refl _)) (ScS.cons h3' (ScS.nil (Int.le_refl _)) (by omega)) (by omega)))
    · refine ApR.thenS ih trivial fun c j h1 h2 h3=>ApR.thenS ih trivial fun b j' h1' h2' h3'=>ApR.ite (ApR.thenS ih trivial fun o j'' h1'' h2'' h3''=>ApR.ok ?_) (ApR.ok ?_)
      · exact (show Sc L _ _ _ from Sc.new (by decide) (ScS.cons (Sc.mono h3 (by omega) (Int.le_refl _)) (ScS.cons h3' (ScS.cons h3'' (ScS.nil (Int.le_refl _)) (Int.le_refl _)) (by omega)) (Int.le_refl _)))
      · exact (show Sc L _ _ _ from Sc.new (by decide) (ScS.cons (Sc.mono h3 (by omega) (Int.le_refl _)) (ScS.cons h3' (ScS.cons (Sc.none (Int.le_refl _)) (ScS.nil (Int.le_refl _)) (Int.le_refl _)) (Int.le_refl _)) (Int.le_refl _)))
    · refine ApR.thenS ih trivial fun c j h1 h2 h3=>ApR.thenS ih trivial fun b j' h1' h2' h3'=>ApR.ok ?_
      exact (show Sc L _ _ _ from Sc.new (by decide) (ScS.cons (Sc.mono h3 (by omega) (Int.le_refl _)) (ScS.cons h3' (ScS.nil (Int.le_refl _)) (Int.le_refl _)) (Int.le_refl _)))
    · refine ApR.thenS ih trivial fun c j h1 h2 h3=>ApR.want (ApR.ok ?_)
      exact (show Sc L _ _ _ from Sc.new (by decide) (ScS.cons (Sc.mono h3 (by omega) (Int.le_refl _)) (ScS.nil (by omega)) (Int.le_refl _)))
    · refine ApR.thenS ih trivial fun c j h1 h2 h3=>ApR.want (ApR.ok ?_)
      exact (show Sc L _ _ _ from Sc.new (by decide) (ScS.cons (Sc.mono h3 (by omega) (Int.le_refl _)) (ScS.nil (by omega)) (Int.le_refl _)))
    · refine ApR.thenS ih trivial fun c j h1 h2 h3=>ApR.want (ApR.ok ?_)
      exact (show Sc L _ _ _ from Sc.bound (.inr rfl) (SWd.mk' w1.1) (Int.le_refl _) (ScS.cons (Sc.mono h3 (by omega) (Int.le_refl _)) (ScS.nil (by omega)) (Int.le_refl _)))
    · refine ApR.thenS ih trivial fun c j h1 h2 h3=>ApR.want (ApR.ok ?_)
      exact (show Sc L _ _ _ from Sc.new (by decide) (ScS.cons h3 (ScS.nil (by omega)) (Int.le_refl _)))
   case atom =>
    simp only [pp]
    refine ApR.ite (ApR.ok (show Sc L _ _ _ from Sc.new (by decide) (ScS.nil (by omega)))) (ApR.ite (ApR.ok (show Sc L _ _ _ from Sc.new (by decide) (ScS.nil (by omega)))) (ApR.iteK (fun w1=>ApR.ok (show Sc L _ _ _ from Sc.name (SWd.mk' w1) (Int.le_refl _) (by omega))) (ApR.ite (ApR.ok (show Sc L _ _ _ from Sc.new (by decide) (ScS.nil (by omega)))) (ApR.ite ?_ (ApR.ite ?_ ?_)))))
    · refine ApR.thenS ih trivial fun c j h1 h2 h3=>ApR.want (ApR.ok ?_)
      exact (show Sc L _ _ _ from Sc.new (by decide) (ScS.cons (Sc.mono h3 (by omega) (Int.le_refl _)) (ScS.nil (by omega)) (Int.le_refl _)))
    · refine ApR.thenS ih rfl fun m j h1 h2 h3=>ApR.ok ?_
      have h3:ScS L m.ks _ _:=h3
      exact (show Sc L _ _ _ from Sc.new (by decide) (h3.mono (by omega) (Int.le_refl _)))
    · refine ApR.want (ApR.thenS ih trivial fun p j h1 h2 h3=>ApR.thenS ih trivial fun t j' h1' h2' h3'=>ApR.thenS ih trivial fun b j'' h1'' h2'' h3''=>ApR.ok ?_)
      have h3:ScP L p.ks _ _:=h3
      have h3'':Sc L b _ _:=h3''
      exact (show Sc L _ _ _ from Sc.lam (h3.mono (by omega) (by omega)) h3'')
   case entry =>
    simp only [pp]
    refine ApR.word (ApR.want (ApR.thenS ih trivial fun m j h1 h2 h3=>ApR.ok ?_))
    exact (show Sc L _ _ _ from Sc.new (by decide) (ScS.cons (Sc.mono h3 (by omega) (Int.le_refl _)) (ScS.nil (Int.le_refl _)) (Int.le_refl _)))
end
end
section
def evB (bs:List SBd) (t:Int):Nat:=bs.countP fun b=>decide (b.a=t)
def evM (ms:List Mn) (t:Int):Nat:=ms.countP fun m=>decide (m.a=t)
def indS (b e t:Int):Nat:=if b≤t∧t < e then 1 else 0
theorem evB_app (a b:List SBd) (t:Int):evB (a++b) t=evB a t+evB b t:=List.countP_append
theorem evM_app (a b:List Mn) (t:Int):evM (a++b) t=evM a t+evM b t:=List.countP_append
theorem evB_nil (t:Int):evB [] t=0:=rfl
theorem evM_nil (t:Int):evM [] t=0:=rfl
theorem evB_one (b:SBd) (t:Int):evB [b] t=if b.a=t then 1 else 0:=by simp [evB,List.countP_cons]
theorem evM_one (b:Mn) (t:Int):evM [b] t=if b.a=t then 1 else 0:=by simp [evM,List.countP_cons]
theorem ind_add {b m m' e:Int} (h1:b≤m) (h:m≤m') (h2:m'≤e) (t:Int):indS b m t+indS m' e t≤indS b e t:=by
 unfold indS
 split<;>split<;>split<;>omega
theorem ind_mono {b e b' e':Int} (h1:b'≤b) (h2:e≤e') (t:Int):indS b e t≤indS b' e' t:=by
 unfold indS
 split<;>split<;>omega
theorem ind_one {a b e t:Int} (h1:b≤a) (h2:a < e):(if a=t then 1 else 0)≤indS b e t:=by
 unfold indS
 split<;>split<;>omega
theorem ind_pos {b e t:Int} (h:0 < indS b e t):b≤t∧t < e:=by
 unfold indS at h
 split at h
 · assumption
 · omega
def bAt (bs:List SBd) (i:Int):SBd:=bs.getD i.toNat default
def InSight (bs:List SBd) (lo b it:Int) (M:List Nm):Prop:=∀ x ∈ M,x.beg=false→0≤x.to∧x.to < bs.length∧((bAt bs x.to).k < 3∨(lo≤(bAt bs x.to).a∧(bAt bs x.to).a < b∧(bAt bs x.to).i=it))
def MGood (bs:List SBd) (lo it:Int) (m:Mn):Prop:=m.t = -1∨(0≤m.t∧m.t < bs.length∧((bAt bs m.t).k < 3∨(lo≤(bAt bs m.t).a∧(bAt bs m.t).a < m.a∧(bAt bs m.t).i=it)))
theorem bAt_app {bs:List SBd} {i:Int} (h0:0≤i) (h:i < bs.length) (l:List SBd):bAt (bs++l) i=bAt bs i:=getD_app h0 h l
theorem InSight.app {bs:List SBd} {lo b it:Int} {M:List Nm} (h:InSight bs lo b it M) (l:List SBd):InSight (bs++l) lo b it M:=fun x hx hb=>by
 obtain ⟨h1,h2,h3⟩:=h x hx hb
 rw [bAt_app h1 h2]
 exact ⟨h1,by simp; omega,h3⟩
theorem InSight.mono {bs:List SBd} {lo b b' it:Int} {M:List Nm} (h:InSight bs lo b it M) (hb:b≤b'):InSight bs lo b' it M:=fun x hx hb'=>by
 obtain ⟨h1,h2,h3⟩:=h x hx hb'
 exact ⟨h1,h2,h3.imp id fun ⟨a,b,c⟩=>⟨a,by omega,c⟩⟩
theorem InSight.beg {bs:List SBd} {lo b it:Int} {M:List Nm} (h:InSight bs lo b it M) (lam:Bool):InSight bs lo b it (⟨0,true,lam⟩ :: M):=fun x hx hb=>by
 rcases List.mem_cons.1 hx with rfl | hx
 · cases hb
 · exact h x hx hb
theorem MGood.app {bs:List SBd} {lo it:Int} {m:Mn} (h:MGood bs lo it m) (l:List SBd):MGood (bs++l) lo it m:=by
 rcases h with h | ⟨h1,h2,h3⟩
 · exact .inl h
 · refine .inr ?_
   rw [bAt_app h1 h2]
   exact ⟨h1,by simp; omega,h3⟩
structure Went (TL:List Tk) (lo it:Int) (c:Int→Nat) (S S':SM):Prop where
 ex:∃ nb nm nd,S'.bs=S.bs++nb∧S'.ms=S.ms++nm∧S'.bad=S.bad++nd∧(∀ t,evB nb t+evM nm t≤c t)∧(∀ x ∈ nb,3≤x.k∧x.k≤4∧x.i=it∧SWd TL x.w x.a)∧(∀ m ∈ nm,MGood S'.bs lo it m∧kdT TL m.a.toNat=1)∧∀ x ∈ nd,0 < c x.1
section
variable {TL:List Tk} {lo it:Int}
theorem Went.refl {c:Int→Nat} (S:SM):Went TL lo it c S S:=⟨[],[],[],by simp,by simp,by simp,by simp [evB,evM],by simp,by simp,by simp⟩
theorem Went.trans {c1 c2 c:Int→Nat} {S S1 S2:SM} (h1:Went TL lo it c1 S S1) (h2:Went TL lo it c2 S1 S2) (hc:∀ t,c1 t+c2 t≤c t):Went TL lo it c S S2:=by
 obtain ⟨nb,nm,nd,a1,a2,a3,a4,a5,a6,a7⟩:=h1.ex
 obtain ⟨nb',nm',nd',b1,b2,b3,b4,b5,b6,b7⟩:=h2.ex
 refine ⟨nb++nb',nm++nm',nd++nd',by rw [b1,a1,List.append_assoc],by rw [b2,a2,List.append_assoc],by rw [b3,a3,List.append_assoc],fun t => ?_,fun x hx => ?_,fun m hm => ?_,fun x hx => ?_⟩
 · rw [evB_app,evM_app]
   have:=a4 t; have:=b4 t; have:=hc t; omega
 · exact (List.mem_append.1 hx).elim (a5 x) (b5 x)
 · rcases List.mem_append.1 hm with hm | hm
   · rw [b1]; exact ⟨(a6 m hm).1.app _,(a6 m hm).2⟩
   · exact b6 m hm
 · rcases List.mem_append.1 hx with hx | hx
   · have:=a7 x hx; have:=hc x.1; omega
   · have:=b7 x hx; have:=hc x.1; omega
theorem Went.mono {c c':Int→Nat} {S S':SM} (h:Went TL lo it c S S') (hc:∀ t,c t≤c' t):Went TL lo it c' S S':=by
 obtain ⟨nb,nm,nd,a1,a2,a3,a4,a5,a6,a7⟩:=h.ex
 exact ⟨nb,nm,nd,a1,a2,a3,fun t=>Nat.le_trans (a4 t) (hc t),a5,a6,fun x hx=>Nat.lt_of_lt_of_le (a7 x hx) (hc _)⟩
theorem Went.bs {c:Int→Nat} {S S':SM} (h:Went TL lo it c S S'):∃ nb,S'.bs=S.bs++nb:=by
 obtain ⟨nb,nm,nd,a1,-⟩:=h.ex
 exact ⟨nb,a1⟩
theorem lookR_mem {bs:List SBd} {w:Bs}:∀ {M:List Nm} {far i f:Int},lookR bs w M far=some (i,f)→∃ x ∈ M,x.beg=false∧x.to=i∧swordR bs x=w
 | [],far,i,f,h=>by cases h
 | x :: r, far, i, f, h => by
   simp only [lookR] at h
   split at h
   · obtain ⟨y,h1,h2⟩:=lookR_mem h
     exact ⟨y,by simp [h1],h2⟩
   · rename_i hb
     split at h
     · rename_i hw
       cases h
       exact ⟨x,by simp,by simpa using hb,rfl,hw⟩
     · obtain ⟨y,h1,h2⟩:=lookR_mem h
       exact ⟨y,by simp [h1],h2⟩
theorem findR_good {bs:List SBd} {M:List Nm} {b:Int} (h:InSight bs lo b it M) (w:Bs) {a:Int} (ha:b≤a) (wr:Bool):MGood bs lo it ⟨a,(findR bs w M).1,wr,(findR bs w M).2⟩:=by
 unfold findR
 cases hl:lookR bs w M 0 with
 | none=>exact .inl rfl
 | some p =>
   obtain ⟨i,f⟩:=p
   obtain ⟨x,hx,hb,rfl,-⟩:=lookR_mem hl
   obtain ⟨h1,h2,h3⟩:=h x hx hb
   refine .inr ?_
   simp only
   split<;>exact ⟨h1,h2,h3.imp id fun ⟨p,q,r⟩=>⟨p,by simp only; omega,r⟩⟩
theorem Went.men {bs0:List SBd} {S:SM} {M:List Nm} {b:Int} (h:InSight S.bs lo b it M) (n:N) (hw:SWd TL n.w n.at_) (hb:b≤n.at_) (wr:Bool):Went TL lo it (indS n.at_ (n.at_+1)) S (S.men n wr (findR S.bs n.w M)):=by
 refine ⟨[],[⟨n.at_,(findR S.bs n.w M).1,wr,(findR S.bs n.w M).2⟩],if (findR S.bs n.w M).1 < 0 then [(n.at_,30)] else if wr∧(S.bs.getD (findR S.bs n.w M).1.toNat default).k < 3 then [(n.at_,35)] else [],by simp [SM.men],rfl,?_,fun t => ?_,by simp,fun m hm => ?_,fun x hx => ?_⟩
 · simp only [SM.men]
   split
   · rfl
   · split
     · rfl
     · simp
 · rw [evB_nil,evM_one,Nat.zero_add]; exact ind_one (Int.le_refl _) (by show n.at_ < n.at_+1; omega)
 · simp only [List.mem_singleton] at hm
   subst hm
   exact ⟨findR_good h n.w hb wr,hw.2.2⟩
 · have:x.1=n.at_:=by
    split at hx
    · simp at hx; rw [hx]
    · split at hx
      · simp at hx; rw [hx]
      · simp at hx
   rw [this]
   have:=ind_one (a:=n.at_) (b:=n.at_) (e:=n.at_+1) (t:=n.at_) (Int.le_refl _) (by omega)
   simp only [if_true] at this; omega
theorem Went.bind {S:SM} {M:List Nm} {b:Int} (h:InSight S.bs lo b it M) (n:N) (hl:lo≤n.at_) (hw:SWd TL n.w n.at_) {kind:Int} (hk:3≤kind∧kind≤4) {e:Int} (he:n.at_ < e) (hbe:b≤e) :
 Went TL lo it (indS n.at_ (n.at_+1)) S (bindR kind it n M S).2∧InSight (bindR kind it n M S).2.bs lo e it (bindR kind it n M S).1:=by
 refine ⟨⟨[⟨n.at_,kind,n.w,it⟩],[],if dupR S.bs n.w M then [(n.at_,31)] else [],rfl,by simp [bindR,SM.bind],?_,fun t => ?_,fun x hx => ?_,by simp,fun x hx => ?_⟩,fun x hx hb => ?_⟩
 · simp only [bindR,SM.bind]
   split
   · rfl
   · simp
 · rw [evM_nil,evB_one,Nat.add_zero]; exact ind_one (Int.le_refl _) (by show n.at_ < n.at_+1; omega)
 · simp only [List.mem_singleton] at hx
   subst hx
   exact ⟨hk.1,hk.2,rfl,hw⟩
 · have:x.1=n.at_:=by
    split at hx
    · simp at hx; rw [hx]
    · simp at hx
   rw [this]
   have:=ind_one (a:=n.at_) (b:=n.at_) (e:=n.at_+1) (t:=n.at_) (Int.le_refl _) (by omega)
   simp only [if_true] at this; omega
 · simp only [bindR] at hx
   rcases List.mem_cons.1 hx with rfl | hx
   · have hg:bAt (S.bs++[⟨n.at_,kind,n.w,it⟩]) (S.bs.length:Int)=⟨n.at_,kind,n.w,it⟩:=by simp [bAt]
     show _∧_∧_
     simp only [bindR,SM.bind,hg]
     exact ⟨by omega,by simp; omega,.inr ⟨hl,he,trivial⟩⟩
   · exact ((h.app [⟨n.at_,kind,n.w,it⟩]).mono hbe) x hx hb
theorem Went.binds:∀ (l:List N) {b e:Int} {S:SM} {M:List Nm},ScP TL l b e→lo≤b→InSight S.bs lo b it M→Went TL lo it (indS b e) S (bindsR it l M S).2∧InSight (bindsR it l M S).2.bs lo e it (bindsR it l M S).1
 | [],b,e,S,M,h,hl,hi=>⟨.refl _,hi.mono h⟩
 | n :: r, b, e, S, M, h, hl, hi => by
   obtain ⟨h0,h1,h2,h3⟩:=h
   obtain ⟨a1,a2⟩:=Went.bind hi n (by omega) h2 (kind:=3) (by decide) (e:=n.at_+1) (by omega) (by omega)
   obtain ⟨b1,b2⟩:=Went.binds r h3 (by omega) a2
   have:=h3.le
   exact ⟨a1.trans b1 fun t=>Nat.le_trans (ind_add (by omega) (Int.le_refl _) (by omega) t) (ind_mono h1 (Int.le_refl _) t),b2⟩
def WentN (TL:List Tk) (lo it:Int) (n:N):Prop:=∀ (b e:Int) (S:SM) (M:List Nm),Sc TL n b e→lo≤b→InSight S.bs lo b it M→Went TL lo it (indS b e) S (nodeR it n M S).2∧InSight (nodeR it n M S).2.bs lo e it (nodeR it n M S).1
theorem went_kids {ks:List N} (ih:∀ p ∈ ks,WentN TL lo it p):∀ (b e:Int) (S:SM) (M:List Nm),ScS TL ks b e→lo≤b→InSight S.bs lo b it M→Went TL lo it (indS b e) S (kidsR it ks M S).2∧InSight (kidsR it ks M S).2.bs lo e it (kidsR it ks M S).1:=by
 induction ks with
 | nil=>intro b e S M h hl hi; rw [kidsR_nil]; rw [ScS_nil] at h; exact ⟨.refl _,hi.mono h⟩
 | cons n r ih2 =>
   intro b e S M h hl hi
   rw [ScS_cons] at h
   obtain ⟨m,h1,h2⟩:=h
   obtain ⟨a1,a2⟩:=ih n (by simp) b m S M h1 hl hi
   have:=h1.le
   obtain ⟨b1,b2⟩:=ih2 (fun p hp=>ih p (by simp [hp])) m e _ _ h2 (by omega) a2
   have:=h2.le
   rw [kidsR_cons]
   exact ⟨a1.trans b1 fun t=>ind_add (by omega) (Int.le_refl _) (by omega) t,b2⟩
theorem went_closed {ks:List N} (ih:∀ p ∈ ks,WentN TL lo it p) {b e:Int} {S:SM} {M:List Nm} (h:ScC TL ks b e) (hl:lo≤b) (hi:InSight S.bs lo b it M) (lam:Bool):Went TL lo it (indS b e) S (sclosedR it ks M lam S):=by
 obtain ⟨p,q,c,m,rfl,h1,h2⟩:=ScC_inv h
 rw [sclosedR_three]
 obtain ⟨a1,a2⟩:=Went.binds p.ks h1 hl (hi.beg lam)
 have:=h1.le
 obtain ⟨b1,-⟩:=ih c (by simp) m e _ _ h2 (by omega) a2
 have:=h2.le
 exact a1.trans b1 fun t=>ind_add (by omega) (Int.le_refl _) (by omega) t
theorem went (n:N):WentN TL lo it n:=by
 induction n using N.ind with
 | h k f t w a z ks ih =>
 intro b e S M h hl hi
 rw [Sc_mk] at h
 rw [nodeR_mk]
 by_cases h78:k=7∨k=8
 · rw [if_pos h78] at h
   obtain ⟨h1,h2,h3⟩:=h
   have hle:=h3.le
   rcases h78 with rfl | rfl
   · rw [if_neg (by decide),if_pos rfl]
     obtain ⟨a1,a2⟩:=went_kids ih (a+1) e S M h3 (by omega) (hi.mono (by omega))
     obtain ⟨b1,b2⟩:=Went.bind a2 (.mk 7 f t w a z ks) (by show lo≤a; omega) h1 (kind:=4) (by decide) (e:=e) (by show a < e; omega) (Int.le_refl _)
     refine ⟨a1.trans b1 fun t => ?_,b2⟩
     have:=ind_add (b:=a) (m:=a+1) (m':=a+1) (e:=e) (by omega) (Int.le_refl _) (by omega) t
     have:=ind_mono (b:=a) (e:=e) (b':=b) (e':=e) h2 (Int.le_refl _) t
     simp only [N.at_]
     omega
   · rw [if_neg (by decide),if_neg (by decide),if_pos rfl]
     have a1:=Went.men (TL:=TL) (bs0:=[]) hi (.mk 8 f t w a z ks) h1 h2 true
     have hs':InSight (S.men (.mk 8 f t w a z ks) true (findR S.bs w M)).bs lo (a+1) it M:=InSight.mono (b:=b) hi (by omega)
     obtain ⟨b1,b2⟩:=went_kids ih (a+1) e _ M h3 (by omega) hs'
     refine ⟨a1.trans b1 fun t => ?_,b2⟩
     have:=ind_add (b:=a) (m:=a+1) (m':=a+1) (e:=e) (by omega) (Int.le_refl _) (by omega) t
     have:=ind_mono (b:=a) (e:=e) (b':=b) (e':=e) h2 (Int.le_refl _) t
     simp only [N.at_]
     omega
 rw [if_neg h78] at h
 by_cases h23:k=23
 · rw [if_pos h23] at h
   subst h23
   obtain ⟨h1,h2,h3⟩:=h
   rw [if_neg (by decide),if_neg (by decide),if_neg (by decide),if_pos rfl]
   have a1:=Went.men (TL:=TL) (bs0:=[]) hi (.mk 23 f t w a z ks) h1 h2 false
   exact ⟨a1.mono fun t=>ind_mono h2 (by simp only [N.at_]; omega) t,by rw [men_bs]; exact hi.mono (by omega)⟩
 rw [if_neg h23] at h
 by_cases h28:k=28
 · rw [if_pos h28] at h
   subst h28
   rw [if_neg (by decide),if_neg (by decide),if_neg (by decide),if_neg (by decide),if_pos rfl]
   have a1:=went_closed ih h hl hi true
   have hle:b≤e:=by
    obtain ⟨p,q,c,m,rfl,h1,h2⟩:=ScC_inv h
    have:=h1.le; have:=h2.le; omega
   obtain ⟨nb,hnb⟩:=a1.bs
   exact ⟨a1,by simp only [hnb]; exact (hi.app nb).mono hle⟩
 rw [if_neg h28] at h
 by_cases h6:k=6
 · subst h6
   rw [if_pos rfl]
   obtain ⟨a1,-⟩:=went_kids ih b e S _ h hl (hi.beg false)
   obtain ⟨nb,hnb⟩:=a1.bs
   exact ⟨a1,by simp only [hnb]; exact (hi.app nb).mono h.le⟩
 · rw [if_neg h6,if_neg (by omega),if_neg (by omega),if_neg h23,if_neg h28]
   exact went_kids ih b e S M h hl hi
end
def cTops:List N→Int→Nat
 | [],_=>0
 | x :: r,t=>indS x.at_ (x.at_+1) t+cTops r t
def cDefs:List N→Int→Nat
 | [],_=>0
 | x :: r,t=>indS (x.at_+1) x.t t+cDefs r t
theorem c_le {TL:List Tk}:∀ {l:List N} {b e:Int},ItS TL l b e→∀ t,cTops l t+cDefs l t≤indS b e t
 | [],_,_,_,t=>Nat.zero_le _
 | x :: r, b, e, h, t => by
   obtain ⟨h1,h2⟩:=h
   have hle:x.t≤e:=by
    clear h1
    induction r generalizing x with
    | nil=>exact h2
    | cons y r ih=>have:=h2.1; have:=ih y h2.2; have:=this; have h3:=h2.1.fr; have h4:=h2.1.lo; have h5:=h2.1.hi; omega
   have:=c_le h2 t
   have a1:=ind_add (b:=x.at_) (m:=x.at_+1) (m':=x.at_+1) (e:=x.t) (by omega) (Int.le_refl _) (by have:=h1.hi; omega) t
   have a2:=ind_mono (b:=x.at_) (e:=x.t) (b':=b) (e':=x.t) (by have:=h1.fr; have:=h1.lo; omega) (Int.le_refl _) t
   have a3:=ind_add (b:=b) (m:=x.t) (m':=x.t) (e:=e) (by have:=h1.fr; have:=h1.lo; have:=h1.hi; omega) (Int.le_refl _) hle t
   simp only [cTops,cDefs]
   omega
theorem ItS.le {TL:List Tk}:∀ {l:List N} {b e:Int},ItS TL l b e→b≤e
 | [],_,_,h=>h
 | x :: r,b,e,h=>by have:=ItS.le h.2; have h3:=h.1.fr; have h4:=h.1.lo; have h5:=h.1.hi; omega
theorem ItS.get {TL:List Tk}:∀ {l:List N} {b e:Int},ItS TL l b e→∀ (i:Nat) (x:N),l[i]?=some x→It TL x b x.t∧x.t≤e
 | [],_,_,_,i,x,h=>by simp at h
 | y :: r,b,e,h,0,x,hx=>by simp at hx; subst hx; exact ⟨h.1,ItS.le h.2⟩
 | y :: r, b, e, h, i + 1, x, hx => by
   obtain ⟨h1,h2⟩:=ItS.get h.2 i x (by simpa using hx)
   have h3:=h.1.fr; have h4:=h.1.lo; have h5:=h.1.hi
   exact ⟨⟨by have:=h1.fr; omega,h1.lo,h1.hi,h1.to,h1.wd,h1.is⟩,h2⟩
theorem tops_walk {TL:List Tk}:∀ (l:List N) {b e:Int} (i:Int) (S:SM) (M:List Nm),ItS TL l b e→0≤i→(∀ x ∈ M,x.beg=false∧0≤x.to∧x.to < S.bs.length∧(bAt S.bs x.to).k < 3) →
 ∃ nb nd, (topsR i l M S).2 = ⟨S.bs ++ nb, S.ms, S.bad ++ nd⟩ ∧ nb.length = l.length ∧ (∀ (j : Nat) (x : N), l[j]? = some x → nb[j]? = some ⟨x.at_, x.k - 1, x.w, i + j⟩) ∧ (∀ t, evB nb t ≤ cTops l t) ∧ (∀ x ∈ nd, 0 < cTops l x.1) ∧
   ∀ x ∈ (topsR i l M S).1,x.beg=false∧0≤x.to∧x.to < (S.bs++nb).length∧(bAt (S.bs++nb) x.to).k < 3
 | [],b,e,i,S,M,h,hi,hM=>⟨[],[],by simp [topsR],rfl,by simp,by simp [evB,cTops],by simp,by simpa [topsR] using hM⟩
 | n :: r, b, e, i, S, M, h, hi, hM => by
   have hk:n.k=2∨n.k=3:=by rcases h.1.is with ⟨h,-⟩ | ⟨h,-⟩<;>simp [h]
   have hstep:topsR i (n :: r) M S=topsR (i+1) r (bindR (n.k - 1) i n M S).1 (bindR (n.k - 1) i n M S).2:=by
    rcases hk with hk | hk
    · simp only [topsR,hk,if_true]; rfl
    · simp only [topsR,hk,if_true]; rfl
   have hM':∀ x ∈ (bindR (n.k - 1) i n M S).1,x.beg=false∧0≤x.to∧x.to < (bindR (n.k - 1) i n M S).2.bs.length∧(bAt (bindR (n.k - 1) i n M S).2.bs x.to).k < 3:=fun x hx=>by
    simp only [bindR] at hx ⊢
    rcases List.mem_cons.1 hx with rfl | hx
    · have hg:bAt (S.bs++[⟨n.at_,n.k - 1,n.w,i⟩]) (S.bs.length:Int)=⟨n.at_,n.k - 1,n.w,i⟩:=by simp [bAt]
      simp only [SM.bind,hg]
      exact ⟨trivial,by omega,by simp; omega,by omega⟩
    · obtain ⟨h1,h2,h3,h4⟩:=hM x hx
      simp only [SM.bind,bAt_app h2 h3]
      exact ⟨h1,h2,by simp; omega,h4⟩
   obtain ⟨nb,nd,a1,a2,a3,a4,a5,a6⟩:=tops_walk r (i+1) _ _ h.2 (by omega) hM'
   refine ⟨⟨n.at_,n.k - 1,n.w,i⟩ :: nb,(if dupR S.bs n.w M then [(n.at_,31)] else [])++nd,?_,by simp [a2],fun j x hx => ?_,fun t => ?_,fun x hx => ?_,?_⟩
   · rw [hstep,a1]
     simp only [bindR,SM.bind,List.append_assoc,List.singleton_append]
     congr 1
     split<;>simp
   · cases j with
     | zero=>simp at hx; subst hx; simp
     | succ j =>
       have:=a3 j x (by simpa using hx)
       rw [List.getElem?_cons_succ,this]
       congr 2
       omega
   · have e1:evB (⟨n.at_,n.k - 1,n.w,i⟩ :: nb) t=evB [⟨n.at_,n.k - 1,n.w,i⟩] t+evB nb t:=evB_app [_] nb t
     rw [e1,evB_one]
     have:=a4 t
     have h2:=ind_one (a:=n.at_) (b:=n.at_) (e:=n.at_+1) (t:=t) (Int.le_refl _) (by omega)
     simp only [cTops]
     omega
   · simp only [cTops]
     rcases List.mem_append.1 hx with hx | hx
     · split at hx
       · simp at hx
         have h2:=ind_one (a:=n.at_) (b:=n.at_) (e:=n.at_+1) (t:=n.at_) (Int.le_refl _) (by omega)
         simp only [if_true] at h2
         rw [hx]; simp only; omega
       · simp at hx
     · have:=a5 x hx; omega
   · rw [hstep]
     have e2:(bindR (n.k - 1) i n M S).2.bs++nb=S.bs++⟨n.at_,n.k - 1,n.w,i⟩ :: nb:=by simp [bindR,SM.bind]
     rw [e2] at a6
     exact a6
structure MOk (TL:List Tk) (ks:List N) (bs:List SBd) (m:Mn):Prop where
 kd:kdT TL m.a.toNat=1
 ex:∃ (j:Nat) (x:N),ks[j]?=some x∧x.k=3∧x.at_+1≤m.a∧m.a < x.t∧MGood bs (x.at_+1) j m
theorem MOk.app {TL:List Tk} {ks:List N} {bs:List SBd} {m:Mn} (h:MOk TL ks bs m) (l:List SBd):MOk TL ks (bs++l) m:=by
 obtain ⟨j,x,h1,h2,h3,h4,h5⟩:=h.ex
 exact ⟨h.kd,j,x,h1,h2,h3,h4,h5.app l⟩
structure BOk (TL:List Tk) (ks:List N) (b:SBd):Prop where
 ex:∃ (j:Nat) (x:N),ks[j]?=some x∧x.k=3∧x.at_+1≤b.a∧b.a < x.t∧b.i=j∧3≤b.k∧b.k≤4∧SWd TL b.w b.a
theorem defs_walk {TL:List Tk} {ks:List N} {M:List Nm}:∀ (l:List N) {b e:Int} (i:Nat) (S:SM),ItS TL l b e→(∀ (j:Nat) (x:N),l[j]?=some x→ks[i+j]?=some x)→(∀ x ∈ M,x.beg=false∧0≤x.to∧x.to < S.bs.length∧(bAt S.bs x.to).k < 3) →
 ∃ nb nm nd,defsR M i l S=⟨S.bs++nb,S.ms++nm,S.bad++nd⟩∧(∀ t,evB nb t+evM nm t≤cDefs l t)∧(∀ x ∈ nd,0 < cDefs l x.1)∧(∀ x ∈ nb,BOk TL ks x)∧∀ m ∈ nm,MOk TL ks (S.bs++nb) m
 | [],b,e,i,S,h,hk,hM=>⟨[],[],[],by simp [defsR],by simp [evB,evM,cDefs],by simp,by simp,by simp⟩
 | n :: r, b, e, i, S, h, hk, hM => by
   have hk':∀ (j:Nat) (x:N),r[j]?=some x→ks[i+1+j]?=some x:=fun j x hx=>by
    have:=hk (j+1) x (by simpa using hx)
    rw [← this]; congr 1; omega
   have hcast:((i+1:Nat):Int)=(i:Int)+1:=by omega
   rcases h.1.is with ⟨k2,-⟩ | ⟨k3,hc⟩
   · obtain ⟨nb,nm,nd,a1,a2,a3,a4,a5⟩:=defs_walk r (i+1) S h.2 hk' hM
     refine ⟨nb,nm,nd,?_,fun t => ?_,fun x hx => ?_,a4,a5⟩
     · simp only [defsR]
       rw [if_neg (by omega),← hcast]; exact a1
     · have:=a2 t; simp only [cDefs]; omega
     · have:=a3 x hx; simp only [cDefs]; omega
   · have hS:InSight S.bs (n.at_+1) (n.at_+1) i M:=fun x hx hb=>by
      obtain ⟨-,h2,h3,h4⟩:=hM x hx
      exact ⟨h2,h3,.inl h4⟩
     have hw:=went_closed (TL:=TL) (ks:=n.ks) (fun p _=>went p) hc (Int.le_refl _) hS false
     obtain ⟨nb1,nm1,nd1,b1,b2,b3,b4,b5,b6,b7⟩:=hw.ex
     have hM':∀ x ∈ M,x.beg=false∧0≤x.to∧x.to < (sclosedR i n.ks M false S).bs.length∧(bAt (sclosedR i n.ks M false S).bs x.to).k < 3:=fun x hx=>by
      obtain ⟨h1,h2,h3,h4⟩:=hM x hx
      rw [b1,bAt_app h2 h3]
      exact ⟨h1,h2,by simp; omega,h4⟩
     obtain ⟨nb,nm,nd,a1,a2,a3,a4,a5⟩:=defs_walk r (i+1) _ h.2 hk' hM'
     have hki:=hk 0 n rfl
     rw [Nat.add_zero] at hki
     refine ⟨nb1++nb,nm1++nm,nd1++nd,?_,fun t => ?_,fun x hx => ?_,fun x hx => ?_,fun m hm => ?_⟩
     · simp only [defsR]
       rw [if_pos k3,← hcast,a1,b1,b2,b3]
       simp only [List.append_assoc]
     · rw [evB_app,evM_app]
       have:=a2 t; have:=b4 t
       simp only [cDefs]; omega
     · simp only [cDefs]
       rcases List.mem_append.1 hx with hx | hx
       · have:=b7 x hx; omega
       · have:=a3 x hx; omega
     · rcases List.mem_append.1 hx with hx | hx
       · obtain ⟨c1,c2,c3,c4⟩:=b5 x hx
         have hpos:0 < evB nb1 x.a:=List.countP_pos_iff.2 ⟨x,hx,by simp⟩
         have:=b4 x.a
         obtain ⟨d1,d2⟩:=ind_pos (b:=n.at_+1) (e:=n.t) (t:=x.a) (by omega)
         exact ⟨i,n,hki,k3,d1,d2,c3,c1,c2,c4⟩
       · exact a4 x hx
     · rw [← List.append_assoc,← b1]
       rcases List.mem_append.1 hm with hm | hm
       · have hpos:0 < evM nm1 m.a:=List.countP_pos_iff.2 ⟨m,hm,by simp⟩
         have:=b4 m.a
         obtain ⟨d1,d2⟩:=ind_pos (b:=n.at_+1) (e:=n.t) (t:=m.a) (by omega)
         exact MOk.app ⟨(b6 m hm).2,i,n,hki,k3,d1,d2,(b6 m hm).1⟩ nb
       · exact a5 m hm
structure Named (TL:List Tk) (n:N) (e:Int) (S:SM):Prop where
 once:∀ t,evB S.bs t+evM S.ms t≤indS 0 e t
 tops:∀ (j:Nat) (x:N),n.ks[j]?=some x→S.bs[j]?=some ⟨x.at_,x.k - 1,x.w,j⟩
 locs:∀ (j:Nat) (b:SBd),S.bs[j]?=some b→n.ks.length≤j→BOk TL n.ks b
 ms:∀ m ∈ S.ms,MOk TL n.ks S.bs m
 bad:∀ x ∈ S.bad,0≤x.1∧x.1 < e
 len:n.ks.length≤S.bs.length
theorem named {TL:List Tk} {n:N} {e:Int} (h:ItS TL n.ks 0 e):Named TL n e (allR n):=by
 obtain ⟨nb,nd,a1,a2,a3,a4,a5,a6⟩:=tops_walk n.ks 0 ⟨[],[],[]⟩ [] h (Int.le_refl _) (by simp)
 simp only [List.nil_append] at a1 a6
 have hM:∀ x ∈ (topsR 0 n.ks [] ⟨[],[],[]⟩).1,x.beg=false∧0≤x.to∧x.to < (topsR 0 n.ks [] ⟨[],[],[]⟩).2.bs.length∧(bAt (topsR 0 n.ks [] ⟨[],[],[]⟩).2.bs x.to).k < 3:=by rw [a1]; exact a6
 obtain ⟨nb1,nm1,nd1,b1,b2,b3,b4,b5⟩:=defs_walk (ks:=n.ks) n.ks 0 _ h (fun j x hx=>by rw [Nat.zero_add]; exact hx) hM
 have b1':allR n=_:=b1
 simp only [a1] at b1' b5
 have hc:=fun t=>c_le h t
 refine ⟨fun t => ?_,fun j x hx => ?_,fun j b hb hj => ?_,?_,fun x hx => ?_,?_⟩
 · rw [b1']
   simp only [List.nil_append,evB_app]
   have:=a4 t; have:=b2 t; have:=hc t; omega
 · have:=a3 j x hx
   rw [b1']
   simp only
   have hj:j < nb.length:=(List.getElem?_eq_some_iff.1 this).1
   rw [List.getElem?_append_left hj,this]
   congr 2
   omega
 · rw [b1'] at hb
   simp only at hb
   rw [List.getElem?_append_right (by omega)] at hb
   exact b4 b (List.mem_of_getElem? hb)
 · rw [b1']
   simp only [List.nil_append]
   exact b5
 · rw [b1'] at hx
   simp only at hx
   rcases List.mem_append.1 hx with hx | hx
   · have:=a5 x hx; have:=hc x.1
     exact ind_pos (by omega)
   · have:=b3 x hx; have:=hc x.1
     exact ind_pos (by omega)
 · rw [b1']
   simp only [List.length_append]
   omega
end
end Go.Zam
namespace Go.Zam
namespace N
end N
section
variable {L L':List Tk}
end
section
variable {TL L':List Tk} {q:Nat} {name:Bs} {F:SM} {lo it:Int}
end
end Go.Zam
namespace Go.Zam
section
theorem parseO_file {s:Bs} (h:(parseO s).2.2.1=0):∃ (m:N) (j:Nat),(parseO s).1=(lexS s).1∧(parseO s).2.1=m∧parseF (lexS s).1 = .ok m j∧m.depth≤60∧(lexS s).2.1=0∧ItS (lexS s).1 m.ks 0 j∧j≤(lexS s).1.length∧parseP (lexS s).1=(m,0,0):=by
 unfold parseO at h ⊢
 by_cases h1:(lexS s).2.1=0
 · rw [if_neg (by simp [h1])] at h ⊢
   by_cases h2:(parseP (lexS s).1).2.1=0
   · rw [if_neg (by simp [h2])] at h ⊢
     have hp:parseP (lexS s).1=parseP (lexS s).1:=rfl
     conv at h2=>lhs; unfold parseP
     conv at hp=>rhs; unfold parseP
     split at h2
     · simp at h2
     · rename_i hc
       rw [if_neg hc] at hp
       cases hF:parseF (lexS s).1 with
       | out=>rw [hF] at h2; simp at h2
       | bad q=>rw [hF] at h2; simp at h2
       | ok m j =>
         rw [hF] at h2 hp
         simp only at h2 hp
         split at h2
         · simp at h2
         · rename_i hd
           rw [if_neg hd] at hp
           have hs:=pp_scope (L:=(lexS s).1) (16 * (lexS s).1.length+8) (.file []) 0 trivial
           have ha:=pp_adv (L:=(lexS s).1) (16 * (lexS s).1.length+8) (.file []) 0
           have hF2:=hF
           unfold parseF at hF2
           rw [hF2] at hs ha
           obtain ⟨-,-,a3⟩:=ha
           refine ⟨m,j,rfl,by rw [hp],rfl,by omega,h1,hs (Int.le_refl _),?_,hp⟩
           by_cases hj:0 < j
           · exact a3 hj
           · omega
   · rw [if_pos (by simpa using h2)] at h
     exact absurd h h2
 · rw [if_pos (by simpa using h1)] at h
   exact absurd h h1
section
variable {TL:List Tk} {n:N} {e:Int} {S:SM}
theorem Named.item (h:Named TL n e S) (hI:ItS TL n.ks 0 e) {j:Nat} {b:SBd} (hb:S.bs[j]?=some b):∃ (i:Nat) (x:N),n.ks[i]?=some x∧b.i=i∧x.f≤b.a∧b.a < x.t∧SWd TL b.w b.a∧((b.k≤2∧i=j∧b.a=x.at_∧b.k=x.k - 1∧b.w=x.w)∨(3≤b.k∧b.k≤4∧x.k=3∧n.ks.length≤j)):=by
 by_cases hj:j < n.ks.length
 · have hx:=List.getElem?_eq_getElem hj
   have:=h.tops j _ hx
   rw [hb] at this
   cases this
   obtain ⟨g,-⟩:=hI.get j _ hx
   refine ⟨j,_,hx,rfl,g.lo,g.hi,g.wd,.inl ⟨?_,rfl,rfl,rfl,rfl⟩⟩
   rcases g.is with ⟨h,-⟩ | ⟨h,-⟩<;>simp only [h]<;>omega
 · obtain ⟨i,x,h1,h2,h3,h4,h5,h6,h7,h8⟩:=(h.locs j b hb (by omega)).ex
   obtain ⟨g,-⟩:=hI.get i _ h1
   have:=g.lo
   exact ⟨i,x,h1,h5,by omega,h4,h8,.inr ⟨h6,h7,h2,by omega⟩⟩
end
section
variable {L:List Tk} {n:N} {e:Int} {S:SM} {us:List Int} {name:Bs} {q:Nat}
end
end
section
open Go.Proofs
structure GdU (u:Un):Prop where
 use:∀ b ∈ u.sm.bs,b.k=1→∃ (i:Nat) (x p:N),b.i=i∧u.tr.ks[i]?=some x∧x.ks=[p]∧0≤p.at_∧p.at_ < u.tk.length
 df:∀ b ∈ u.sm.bs,b.k=2→∃ (i:Nat) (x p:N) (r:List N),b.i=i∧u.tr.ks[i]?=some x∧x.ks=p :: r
 pos:∀ b ∈ u.sm.bs,0≤b.a∧b.a < u.tk.length
 bad:∀ x ∈ u.sm.bad,0≤x.1∧x.1 < u.tk.length
theorem ScC.three {L:List Tk} {ks:List N} {b e:Int} (h:ScC L ks b e):∃ p q c,ks=[p,q,c]:=by
 match ks with
 | []=>exact h.elim
 | [_]=>exact h.elim
 | [_,_]=>exact h.elim
 | [p,q,c]=>exact ⟨p,q,c,rfl⟩
 | _ :: _ :: _ :: _ :: _=>exact h.elim
theorem readU_gd (m:Mod):GdU (readU m):=by
 by_cases h0:(parseO m.t).2.2.1=0
 · obtain ⟨n,j,h1,h2,h3,h4,h5,hI,hj,h6⟩:=parseO_file h0
   have hsm:(readU m).sm=scopeM n:=by
    show (if _ then _ else _)=_
    rw [if_pos h0,h2]
   have htr:(readU m).tr=n:=h2
   have htk:(readU m).tk=(lexS m.t).1:=h1
   have hN:=named hI
   have hall:=all_both n
   have hbs:(scopeM n).bs=(allR n).bs:=by rw [← hall]; rfl
   have hit:∀ b ∈ (allR n).bs,∃ (i:Nat) (x:N),n.ks[i]?=some x∧b.i=i∧0≤b.a∧b.a < (lexS m.t).1.length∧(b.k=1→x.k=2)∧(b.k=2→x.k=3):=by
    intro b hb
    obtain ⟨q,hq⟩:=List.getElem?_of_mem hb
    obtain ⟨i,x,g1,g2,g3,g4,g5,g6⟩:=hN.item hI hq
    have gl:=(hI.get i x g1).2
    refine ⟨i,x,g1,g2,g5.1,by omega,fun e => ?_,fun e => ?_⟩
    · rcases g6 with g6 | g6
      · omega
      · omega
    · rcases g6 with g6 | g6
      · omega
      · omega
   refine ⟨fun b hb hk => ?_,fun b hb hk => ?_,fun b hb => ?_,fun x hx => ?_⟩
   · rw [hsm,hbs] at hb
     obtain ⟨i,x,g1,g2,g3,g4,g5,g6⟩:=hit b hb
     have gI:=hI.get i x g1
     rcases gI.1.is with ⟨-,p,p1,p2,p3,p4⟩ | ⟨e,-⟩
     · refine ⟨i,x,p,g2,by rw [htr]; exact g1,p1,p4.1,?_⟩
       rw [htk]; have:=gI.2; omega
     · have:=g5 hk; omega
   · rw [hsm,hbs] at hb
     obtain ⟨i,x,g1,g2,g3,g4,g5,g6⟩:=hit b hb
     have gI:=hI.get i x g1
     rcases gI.1.is with ⟨e,-⟩ | ⟨-,hc⟩
     · have:=g6 hk; omega
     · obtain ⟨p,q,c,hp⟩:=hc.three
       exact ⟨i,x,p,_,g2,by rw [htr]; exact g1,hp⟩
   · rw [hsm,hbs] at hb
     obtain ⟨i,x,g1,g2,g3,g4,-⟩:=hit b hb
     exact ⟨g3,by rw [htk]; exact g4⟩
   · rw [hsm] at hx
     have hx':x ∈ (allR n).bad:=by
      rw [← hall]
      exact ((ssort_spec cBad_cmp _).2.mem cBad_cmp).2 hx
     have:=hN.bad x hx'
     rw [htk]; omega
 · have hsm:(readU m).sm=⟨[],[],[]⟩:=by
    show (if _ then _ else _)=_
    rw [if_neg h0]
   refine ⟨?_,?_,?_,?_⟩ <;> · rw [hsm]; simp
end
section
open Go.Proofs
theorem Un.enc_all (u:Un):∃ z ms,u.enc=[.str u.n,.str u.t,.sl true 4 (u.tk.map encTk),.int .i64 u.tr.k,.int .i64 u.tr.f,.int .i64 u.tr.t,.str u.tr.w,.int .i64 u.tr.at_,.sl z 6 (u.tr.ks.map N.enc),.sl u.sm.bs.isEmpty 4 (u.sm.bs.map encBd),ms,.sl u.sm.bad.isEmpty 2 (u.sm.bad.map encBad),.int .i64 u.bad,.int .i64 u.pos]:=by
 obtain ⟨n,t,tk,⟨k,f,to,w,a,z,ks⟩,sm,b,p⟩:=u
 exact ⟨z,.sl sm.ms.isEmpty 4 (sm.ms.map encMn),by simp [Un.enc,N.enc_mk,SM.enc,N.k,N.f,N.t,N.w,N.at_,N.ks]⟩
theorem N.enc_all (n:N):∃ z,n.enc=[.int .i64 n.k,.int .i64 n.f,.int .i64 n.t,.str n.w,.int .i64 n.at_,.sl z 6 (n.ks.map N.enc)]:=by
 obtain ⟨k,f,t,w,a,z,ks⟩:=n
 exact ⟨z,by simp [N.enc_mk,N.k,N.f,N.t,N.w,N.at_,N.ks]⟩
def spU (u:Un) (a:Int):Int:=if 0≤a then (match u.tk[a.toNat]? with | some t=>t.a | none=>0) else 0
def modN (u:Un) (b:SBd):N:=match u.tr.ks[b.i.toNat]? with
 | some x=>x.ks.headD N.none
 | none=>N.none
theorem GdU.mod {u:Un} (h:GdU u) {b:SBd} (hb:b ∈ u.sm.bs) (hk:b.k=1):∃ (i:Nat) (x:N),b.i=i∧u.tr.ks[i]?=some x∧x.ks=[modN u b]∧0≤(modN u b).at_∧(modN u b).at_ < u.tk.length:=by
 obtain ⟨i,x,p,h1,h2,h3,h4⟩:=h.use b hb hk
 have:modN u b=p:=by
  unfold modN
  rw [h1,Int.toNat_natCast,h2]
  simp [h3]
 rw [this]
 exact ⟨i,x,h1,h2,h3,h4⟩
section
variable {P:Program}
theorem Has.pjSpot {f tU tSp:Nat} (h:Has P f (irPjSpot tU tSp)) (u:Un) (a:Int) (hl:u.tk.length≤1099511627776) (H:Hp) :
 ACall P f [.agg (u.enc.map .d),.d (.int .i64 a)] H (fun r H'=>r = .agg [.d (.str u.n),.d (.int .i64 (spU u a))]∧H'=H):=by
 obtain ⟨fn,hf,hcf⟩:=h
 refine acall_fin hf hcf (by simp [irPjSpot]) fun hcl _ => ?_
 obtain ⟨z,ms,he⟩:=u.enc_all
 unfold spU
 generalize u.tk=T at *
 simp [irPjSpot,he]
 by_cases h0:0≤a
 · by_cases h1:a < T.length
   · obtain ⟨i,rfl⟩:∃ i:Nat,a=i:=⟨a.toNat,by omega⟩
     have hi:i < T.length:=by omega
     have hr:Zam.rowAt (T.map encTk) (i:Int)=some (encTk T[i]):=rowAt_map encTk hi
     simp [h1,hr,encTk]
     simp [RetK,cut_app hcl,hi]
   · have hn:T[a.toNat]?=none:=by simp; omega
     simp [h0,h1]
     simp [RetK,cut_app hcl]
     rw [hn]
     exact fun _=>rfl
 · simp [h0]
   simp [RetK,cut_app hcl]
   exact fun h=>absurd h h0
def impU (S:List Un) (u:Un) (b:SBd):Bs × Int:=if b.k=1 then ((modN u b).w,(unitU S (modN u b).w).elim (-1) fun v=>itU b.w v.sm.bs 0 (-1)) else ([],-1)
def ItemOk (P:Program) (f:Nat):Prop:=∀ (u:Un) (w:Bs),u.sm.bs.length≤1099511627776→∀ H,ACall P f [.agg (u.enc.map .d),.d (.str w)] H (fun r H'=>r = .d (.int .i64 (itU w u.sm.bs 0 (-1)))∧H'=H)
def UnitOk (P:Program) (S:List Un) (f:Nat):Prop:=∀ (s:Bs) (H:Hp),ACall P f [pA S,.d (.str s)] H (fun r H'=>r = .tup [.agg (((unitU S s).elim zU Un.enc).map .d),.d (.bool (unitU S s).isSome)]∧H'=H)
theorem Has.pjImp {f unit item tU tBd tIm:Nat} {S:List Un} (h:Has P f (irPjImp unit item tU tBd tIm)) (hu:UnitOk P S unit) (hi:ItemOk P item) (hS:∀ v ∈ S,v.sm.bs.length≤1099511627776) (u:Un) (hg:GdU u) (b:SBd) (hb:b ∈ u.sm.bs) (hlk:u.tr.ks.length≤1099511627776) (H:Hp) :
 ACall P f [pA S,.agg (u.enc.map .d),.agg ((encBd b).map .d)] H (fun r H'=>r = .agg [.d (.str (impU S u b).1),.d (.int .i64 (impU S u b).2)]∧H'=H):=by
 obtain ⟨fn,hf,hcf⟩:=h
 refine acall_fin hf hcf (by simp [irPjImp]) fun hcl _ => ?_
 obtain ⟨z,ms,he⟩:=u.enc_all
 by_cases hk:b.k=1
 · obtain ⟨i,x,h1,h2,h3,h4,h5⟩:=hg.mod hb hk
   have hI:impU S u b=((modN u b).w,(unitU S (modN u b).w).elim (-1) fun v=>itU b.w v.sm.bs 0 (-1)):=by rw [impU,if_pos hk]
   rw [hI]
   have hil:i < u.tr.ks.length:=(List.getElem?_eq_some_iff.1 h2).1
   have hge:¬ ((u.tr.ks.length:Int)≤(i:Int)):=by omega
   have hr:Zam.rowAt (u.tr.ks.map N.enc) (i:Int)=some x.enc:=by simp [Zam.rowAt,h2]
   obtain ⟨zx,hx⟩:=x.enc_all
   obtain ⟨zm,hm⟩:=(modN u b).enc_all
   rw [h3] at hx
   have hun:=hu (modN u b).w
   generalize modN u b=m at *
   have hr0:∀ r:List D,Zam.rowAt [r] 0=some r:=fun _=>rfl
   simp [irPjImp,he,encBd,hk,h1,hge,hr,hr0,hx,hm]
   refine CallK_of' (hun _) ?_
   cases hv:unitU S m.w with
   | none =>
     simp [zU]
     simp [RetK,cut_app hcl]
   | some v =>
     have hvS:v ∈ S:=by
      unfold unitU at hv
      split at hv
      · rename_i v' hv'
        split at hv
        · cases hv; exact List.mem_of_getElem? hv'
        · cases hv
      · cases hv
     have hit:=fun X=>hi v b.w (hS v hvS) (H++X)
     obtain ⟨zv,mv,hve⟩:=v.enc_all
     rw [hve] at hit
     simp only [List.map_cons,List.map_nil] at hit
     simp [hve]
     refine CallK_of' (hit _) ?_
     simp
     simp [RetK,cut_app hcl]
 · have hI:impU S u b=([],-1):=by rw [impU,if_neg hk]
   rw [hI]
   simp [irPjImp,he,encBd,hk]
   simp [RetK,cut_app hcl]
end
end
section
open Go.Proofs
section
variable {P:Program}
end
end
section
open Go.Proofs
structure Dg where
 m:Bs
 a:Int
 c:Int
def encDg (d:Dg):List D:=[.str d.m,.int .i64 d.a,.int .i64 d.c]
def imp1 (S:List Un) (u:Un) (b:SBd):List Dg :=
 if b.k=1 then (if (unitU S (modN u b).w).isSome=false∨(modN u b).w=u.n then [⟨u.n,spU u (modN u b).at_,32⟩] else if (impU S u b).2 < 0 then [⟨u.n,spU u b.a,33⟩] else []) else []
def impsU (S:List Un) (u:Un) (l:List SBd):List Dg:=l.flatMap (imp1 S u)
theorem imp1_len (S:List Un) (u:Un) (b:SBd):(imp1 S u b).length≤1:=by
 unfold imp1
 split
 · split
   · simp
   · split<;>simp
 · simp
theorem impsU_len (S:List Un) (u:Un):∀ l,(impsU S u l).length≤l.length
 | []=>by simp [impsU]
 | b :: l => by
   have h1:=imp1_len S u b
   have h2:=impsU_len S u l
   unfold impsU at h2 ⊢
   simp only [List.flatMap_cons,List.length_append,List.length_cons]
   omega
theorem impsU_take {S:List Un} {u:Un} {l:List SBd} {j:Nat} {b:SBd} (h:l[j]?=some b):impsU S u (l.take (j+1))=impsU S u (l.take j)++imp1 S u b:=by
 rw [List.take_succ,h]
 simp [impsU]
theorem app_one {H X:Hp} {bx:Ob} {R:List (List D)} {n b sz e:Nat} (r:List D) (hn:R.length=n) (hb:(n+1) * b≤140737488355328) :
 appA (H++(bx :: .tok n sz e :: X)) sz b e [r] (.osl true sz R (H.length+1))=some (.osl true sz (R++[r]) (H.length+1),H++(bx :: .tok (n+1) sz e :: X)):=by
 subst hn
 rw [appA_osl (H:=H++(bx :: .tok R.length sz e :: X)) (t:=H.length+1) (by simp) (by simpa using hb)]
 simp
section
variable {P:Program}
def SpotOk (P:Program) (f:Nat):Prop:=∀ (u:Un) (a:Int),u.tk.length≤1099511627776→∀ H,ACall P f [.agg (u.enc.map .d),.d (.int .i64 a)] H (fun r H'=>r = .agg [.d (.str u.n),.d (.int .i64 (spU u a))]∧H'=H)
def ImpOk (P:Program) (S:List Un) (u:Un) (f:Nat):Prop:=∀ b ∈ u.sm.bs,∀ H,ACall P f [pA S,.agg (u.enc.map .d),.agg ((encBd b).map .d)] H (fun r H'=>r = .agg [.d (.str (impU S u b).1),.d (.int .i64 (impU S u b).2)]∧H'=H)
theorem HasT.pjImps {f imp unit spot tU tBd tN tIm tD:Nat} {S:List Un} (h:HasT P [5] f (irPjImps imp unit spot tU tBd tN tIm tD)) (u:Un) (hu:UnitOk P S unit) (hi:ImpOk P S u imp) (hs:SpotOk P spot) (hg:GdU u)
 (hlb:u.sm.bs.length≤1099511627776) (hlt:u.tk.length≤1099511627776) (H:Hp) :
 ACall P f [pA S,.agg (u.enc.map .d)] H (fun r H'=>r = .d (.sl true 3 ((impsU S u u.sm.bs).map encDg))∧H'=H):=by
 obtain ⟨fn,hf,hcf⟩:=h
 refine acall_fin hf hcf (by simp [irPjImps]) fun hcl _ => ?_
 obtain ⟨zu,ms,he⟩:=u.enc_all
 have hsp:=fun a X=>hs u a hlt (H++X)
 have him:=fun b hb X=>hi b hb (H++X)
 rw [he] at hsp him
 simp only [List.map_cons,List.map_nil] at hsp him
 simp [irPjImps,he,pA]
 simp only [pA] at him
 generalize hbx:Ob.box tU [A.d (.str u.n),A.d (.str u.t),A.d (.sl true 4 (u.tk.map encTk)),A.d (.int .i64 u.tr.k),A.d (.int .i64 u.tr.f),A.d (.int .i64 u.tr.t),A.d (.str u.tr.w),A.d (.int .i64 u.tr.at_),A.d (.sl zu 6 (u.tr.ks.map N.enc)),A.d (.sl u.sm.bs.isEmpty 4 (u.sm.bs.map encBd)),A.d ms,A.d (.sl u.sm.bad.isEmpty 2 (u.sm.bad.map encBad)),A.d (.int .i64 u.bad),A.d (.int .i64 u.pos)]=bx
 refine LoopK_out 0 (fun fr H'=>fr 5 = .osl true 3 ((impsU S u u.sm.bs).map encDg) (H.length+1)∧∃ n,H'=H++[bx,.tok n 3 tD]) ?_ ?_
 · refine RangeK_of (H.length+2) u.sm.bs.length (fun j fr H'=>fr 0 = .eptr [.sl S.isEmpty 14 (S.map Un.enc)]∧fr 3 = .ptr H.length 0∧fr 14 = .d (.sl u.sm.bs.isEmpty 4 (u.sm.bs.map encBd))∧fr 5 = .osl true 3 ((impsU S u (u.sm.bs.take j)).map encDg) (H.length+1) ∧
    H'=H++[bx,.tok (impsU S u (u.sm.bs.take j)).length 3 tD]) (by omega) (by decide) (by simp) (by simp) ?_ ?_ ?_
   · simp [cut_appk hcl,impsU,← hbx]
   · rintro j fr H' hj fi fn ⟨f0,f3,f14,f5,rfl⟩
     obtain ⟨b,hb⟩:∃ b,u.sm.bs[j]?=some b:=⟨_,List.getElem?_eq_getElem hj⟩
     have hrow:Zam.rowAt (u.sm.bs.map encBd) (j:Int)=some [.int .i64 b.a,.int .i64 b.k,.str b.w,.int .i64 b.i]:=by simp [Zam.rowAt,hb,encBd]
     have hbm:=List.mem_of_getElem? hb
     have htk:=impsU_take (S:=S) (u:=u) hb
     have hlen:=impsU_len S u (u.sm.bs.take j)
     have hlj:(u.sm.bs.take j).length≤u.sm.bs.length:=by simp; omega
     generalize impsU S u (u.sm.bs.take j)=R at *
     have happ:=fun X m' a' c'=>app_one (H:=H) (X:=X) (bx:=bx) (R:=R.map encDg) (n:=R.length) (b:=32) (sz:=3) (e:=tD) [.str m',.int .i64 a',.int .i64 c'] (by simp) (by omega)
     rw [← hbx] at happ
     by_cases hk:b.k=1
     · obtain ⟨i,x,h1,h2,h3,h4,h5⟩:=hg.mod hbm hk
       have hr:Zam.rowAt (u.tr.ks.map N.enc) (i:Int)=some x.enc:=by simp [Zam.rowAt,h2]
       obtain ⟨zx,hx⟩:=x.enc_all
       obtain ⟨zm,hm⟩:=(modN u b).enc_all
       rw [h3] at hx
       have himb:=him b hbm
       have hI1:(impU S u b).1=(modN u b).w:=by rw [impU,if_pos hk]
       rw [hI1] at himb
       have hun:=hu (modN u b).w
       have h1m:imp1 S u b=(if (unitU S (modN u b).w).isSome=false∨(modN u b).w=u.n then [⟨u.n,spU u (modN u b).at_,32⟩] else if (impU S u b).2 < 0 then [⟨u.n,spU u b.a,33⟩] else []):=by rw [imp1,if_pos hk]
       rw [h1m] at htk
       have hspm:=hsp (modN u b).at_
       have hspb:=hsp b.a
       generalize (impU S u b).2=q at *
       generalize modN u b=m at *
       have hr0:∀ r:List D,Zam.rowAt [r] 0=some r:=fun _=>rfl
       simp only [encBd,hk,h1,List.map_cons,List.map_nil] at himb
       simp [fi,f0,f3,f14,hrow,← hbx,hk,h1,hr,hr0,hx,hm]
       refine CallK_of' (himb _) ?_
       simp [f0]
       refine CallK_of' (hun _) ?_
       cases hv:unitU S m.w with
       | none =>
         rw [hv] at htk
         simp only [Option.isSome_none,true_or,if_true] at htk
         simp [zU,f3,← hbx,f5]
         refine CallK_of' (hspm _) ?_
         simp [happ]
         refine NextK_of (H.length+2) (Nat.le_refl _) (by simp [fi,fn]) ?_
         simp [f0,f3,f14,cut_appk hcl,← hbx,htk,encDg]
       | some v =>
         rw [hv] at htk
         obtain ⟨zv,mv,hve⟩:=v.enc_all
         simp only [Option.isSome_some,Bool.true_eq_false,false_or] at htk
         by_cases hn:m.w=u.n
         · rw [if_pos hn] at htk
           simp [hve,hn,f3,← hbx,f5]
           refine CallK_of' (hspm _) ?_
           simp [happ]
           refine NextK_of (H.length+2) (Nat.le_refl _) (by simp [fi,fn]) ?_
           simp [f0,f3,f14,cut_appk hcl,← hbx,htk,encDg]
         · rw [if_neg hn] at htk
           by_cases hq:q < 0
           · rw [if_pos hq] at htk
             simp [hve,hn,hq,f3,← hbx,f5]
             refine CallK_of' (hspb _) ?_
             simp [happ]
             refine NextK_of (H.length+2) (Nat.le_refl _) (by simp [fi,fn]) ?_
             simp [f0,f3,f14,cut_appk hcl,← hbx,htk,encDg]
           · rw [if_neg hq,List.append_nil] at htk
             simp [hve,hn,hq,f3,← hbx,f5]
             refine NextK_of (H.length+2) (Nat.le_refl _) (by simp [fi,fn]) ?_
             simp [f0,f3,f5,f14,cut_appk hcl,← hbx,htk]
     · have h1m:imp1 S u b=[]:=by rw [imp1,if_neg hk]
       rw [h1m,List.append_nil] at htk
       simp [fi,f14,hrow,← hbx,hk]
       refine NextK_of (H.length+2) (Nat.le_refl _) (by simp [fi,fn]) ?_
       simp [f0,f3,f5,f14,cut_appk hcl,← hbx,htk]
   · rintro fr H' fi fn ⟨f0,f3,f14,f5,rfl⟩
     rw [List.take_length] at f5 ⊢
     simp [f5]
 · rintro fr H' ⟨f5,n,rfl⟩
   simp [f5]
   simp [RetK,cut_app hcl]
end
end
section
open Go.Proofs
theorem Cmp.lex {α:Type} {c d : α → α→Int} (hc:Cmp c) (hd:Cmp d):Cmp fun x y=>if c x y=0 then d x y else c x y:=by
 have hz:∀ x y,c x y=0→c y x=0:=fun x y h=>by
  have h1:=hc.anti x y
  have h2:=hc.anti y x
  omega
 refine ⟨fun x=>by simp [hc.refl,hd.refl],fun x y => ?_,fun x y z h1 h2 => ?_⟩
 · have h1:=hc.anti x y
   have h2:=hc.anti y x
   have h3:=hd.anti x y
   show (if c x y=0 then d x y else c x y) < 0 ↔ 0 < (if c y x=0 then d y x else c y x)
   by_cases h:c x y=0
   · rw [if_pos h,if_pos (hz x y h)]; exact h3
   · have:¬ c y x=0:=fun e=>h (hz y x e)
     rw [if_neg h,if_neg this]; exact h1
 · have h1:(if c x y=0 then d x y else c x y)≤0:=h1
   have h2:(if c y z=0 then d y z else c y z)≤0:=h2
   show (if c x z=0 then d x z else c x z)≤0
   have a1:=hc.anti x y; have a2:=hc.anti y x; have a3:=hc.anti y z; have a4:=hc.anti z y; have a5:=hc.anti x z; have a6:=hc.anti z x
   have t1:=hc.trans x y z; have t2:=hc.trans z y x; have t3:=hc.trans y z x; have t4:=hc.trans z x y
   have t5:=hd.trans x y z
   split at h1<;>split at h2<;>split<;>first | omega | exact t5 h1 h2
def cD (a b:Dg):Int:=if cmpStr a.m b.m=0 then (if cmpInt a.a b.a=0 then cmpInt a.c b.c else cmpInt a.a b.a) else cmpStr a.m b.m
theorem cD_cmp:Cmp cD:=(cmpStr_cmp.on Dg.m).lex ((cmpInt_cmp.on Dg.a).lex (cmpInt_cmp.on Dg.c))
theorem cD_or (a b:Dg):orL [cmpStr a.m b.m,cmpInt a.a b.a,cmpInt a.c b.c]=cD a b:=by
 simp only [orL,cD]
 by_cases h:cmpInt a.c b.c=0
 · simp [h]
 · simp [h]
theorem encDg_len:∀ d,(encDg d).length=3:=fun _=>rfl
section
variable {P:Program}
structure SortD (P:Program) (clone srt stb ins sym rot swp fD cmpS nanS cmpI nanI cmpE nanE or_ tD:Nat):Prop where
 clone:HasT P [1000005] clone (irCloneM 3 32 tD)
 srt:Has P srt (irSortStable stb)
 stb:Has P stb (irStable ins sym)
 ins:Has P ins (irInsertion 3)
 sym:Has P sym (irSymMerge 3 rot sym)
 rot:Has P rot (irRotate swp)
 swp:Has P swp (irSwapRange 3)
 cmpD:Has P fD (irPjCmpD cmpS cmpI cmpE or_ tD)
 kCmpD:callOk P fD=true
 cmpS:Has P cmpS (irCompare nanS)
 nanS:Has P nanS irIsNaN
 cmpI:Has P cmpI (irCompare nanI)
 nanI:Has P nanI irIsNaN
 cmpE:Has P cmpE (irCompare nanE)
 nanE:Has P nanE irIsNaN
 or_:Has P or_ irOrInt
variable {clone srt stb ins sym rot swp cmpD cmpS nanS cmpI nanI cmpE nanE or_ tD:Nat}
theorem cmpD_acall (hC:SortD P clone srt stb ins sym rot swp cmpD cmpS nanS cmpI nanI cmpE nanE or_ tD) (H:Hp) (x y:Dg):ACall P cmpD [.agg (rowE encDg x),.agg (rowE encDg y)] H (fun r H'=>r = .d (.int .i64 (cD x y))∧H'=H):=by
 refine acall_fin hC.cmpD.choose_spec.1 hC.cmpD.choose_spec.2 (by simp [irPjCmpD]) fun hcl _ => ?_
 have g1:=fun X=>compareStr_acall hC.cmpS.choose_spec.1 hC.cmpS.choose_spec.2 hC.nanS.choose_spec.1 hC.nanS.choose_spec.2 (H:=H++X) x.m y.m
 have g2:=fun X=>compareInt_acall hC.cmpI.choose_spec.1 hC.cmpI.choose_spec.2 hC.nanI.choose_spec.1 hC.nanI.choose_spec.2 (H:=H++X) (k := .i64) x.a y.a
 have g3:=fun X=>compareInt_acall hC.cmpE.choose_spec.1 hC.cmpE.choose_spec.2 hC.nanE.choose_spec.1 hC.nanE.choose_spec.2 (H:=H++X) (k := .i64) x.c y.c
 have g4:=fun X=>orInt_acall hC.or_.choose_spec.1 hC.or_.choose_spec.2 (H:=H++X) (z:=false) [cmpStr x.m y.m,cmpInt x.a y.a,cmpInt x.c y.c] (by simp)
 rw [cD_or] at g4
 simp only [List.map_cons,List.map_nil] at g4
 simp [irPjCmpD,rowE,encDg]
 refine CallD_of (g1 _) ?_
 simp
 refine CallD_of (g2 _) ?_
 simp
 refine CallD_of (g3 _) ?_
 simp
 refine CallD_of (g4 _) ?_
 simp
 simp [RetK,cut_app hcl]
theorem sortDOk {f:Nat} (h:Has P f (irPjSort clone srt cmpD)) (hC:SortD P clone srt stb ins sym rot swp cmpD cmpS nanS cmpI nanI cmpE nanE or_ tD) (H:Hp) (z:Bool) (l:List Dg) (hl:l.length≤1099511627776) :
 ACall P f [.d (.sl z 3 (l.map encDg))] H (fun r H'=>r = .d (.sl (z && l.isEmpty) 3 ((ssort cD l).map encDg))∧H'=H):=by
 have hss:∀ (H:Hp) (i:Nat),H[i]?=some (arrE encDg 3 l)→ACall P srt [.msl i 0 l.length,.d (.fn cmpD)] H (fun r' H'=>r' = .tup []∧H'=H.set i (arrE encDg 3 (ssort cD l))):=fun H i hi =>
  sortStable_acall encDg_len cD_cmp hC.srt.choose_spec.1 hC.srt.choose_spec.2 hC.stb.choose_spec.1 hC.stb.choose_spec.2 hC.ins.choose_spec.1 hC.ins.choose_spec.2 hC.sym.choose_spec.1 hC.sym.choose_spec.2 hC.rot.choose_spec.1 hC.rot.choose_spec.2 hC.swp.choose_spec.1 hC.swp.choose_spec.2
   (g := .d (.fn cmpD)) (fun H x y Q t hq=>by
    simp only [ValD_d]
    exact ⟨hC.kCmpD,CallD_of (cmpD_acall hC H x y) hq⟩) (fun m _=>by simp) hi (by omega)
 have hlen:=ssort_length cD_cmp l
 by_cases h0:l=[]
 · subst h0
   cases z with
   | true =>
     refine acall_fin h.choose_spec.1 h.choose_spec.2 (by simp [irPjSort]) fun hcl _ => ?_
     simp [irPjSort]
     refine CallK_of' (clone0_acall hC.clone.choose_spec.1 hC.clone.choose_spec.2) ?_
     simp
     refine CallK_of' (sortStable0_acall (sz:=3) hC.srt.choose_spec.1 hC.srt.choose_spec.2 hC.stb.choose_spec.1 hC.stb.choose_spec.2 hC.ins.choose_spec.1 hC.ins.choose_spec.2 (fun m _=>by simp)) ?_
     simp [RetK,cut_self hcl,ssort]
   | false =>
     refine ACall.freeze (k:=0) (X:=[.arr 3 []]) (by simp [ssort]) ?_
     refine acall_fink 1 h.choose_spec.1 h.choose_spec.2 (by simp [irPjSort]) fun hcl _ => ?_
     simp [irPjSort]
     refine CallK_of' (cloneM0_acall hC.clone.choose_spec.1 hC.clone.choose_spec.2) ?_
     simp
     have:=hss (H++[.arr 3 []]) H.length (by simp [arrE])
     simp only [List.length_nil] at this
     refine CallK_of' this ?_
     simp [RetK,cut_appk hcl,arrE,ssort]
 · have hrows:l.map encDg ≠ []:=by simpa using h0
   have he:l.isEmpty=false:=by cases l<;>simp_all
   rw [he,Bool.and_false]
   refine ACall.freeze (k:=1) (X:=[.arr 3 [],arrE encDg 3 (ssort cD l)]) (by simp [arrE,rowE]) ?_
   refine acall_fink 2 h.choose_spec.1 h.choose_spec.2 (by simp [irPjSort]) fun hcl _ => ?_
   simp [irPjSort]
   refine CallK_of' (cloneM_acall hC.clone.choose_spec.1 hC.clone.choose_spec.2 hrows (by simp; omega)) ?_
   have:=hss (H++[.arr 3 [],.arr 3 ((l.map encDg).map (List.map .d))]) (H.length+1) (by simp [arrE,rowE])
   simp at this
   simp
   refine CallK_of' this ?_
   simp [RetK,cut_appk hcl,arrE_clr,hlen,-Ob.clr]
   simp
end
end
section
open Go.Proofs
def mainS:Bs:=[109,97,105,110]
def noU:Un:=⟨[],[],[],N.none,⟨[],[],[]⟩,0,0⟩
theorem noU_enc:noU.enc=zU:=rfl
theorem itU_some {w:Bs}:∀ {l:List SBd} {i p:Int},itU w l i p=p∨∃ (j:Nat) (b:SBd),itU w l i p=i+j∧l[j]?=some b∧b.k=2∧b.w=w
 | [],i,p => .inl rfl
 | b :: r, i, p => by
   unfold itU
   split
   · rename_i e
     rcases itU_some (w:=w) (l:=r) (i:=i+1) (p:=i) with h | ⟨j,c,h1,h2,h3⟩
     · exact .inr ⟨0,b,by simp [h],rfl,e⟩
     · exact .inr ⟨j+1,c,by omega,by simpa using h2,h3⟩
   · rcases itU_some (w:=w) (l:=r) (i:=i+1) (p:=p) with h | ⟨j,c,h1,h2,h3⟩
     · exact .inl h
     · exact .inr ⟨j+1,c,by omega,by simpa using h2,h3⟩
def entU (S:List Un):Bool:=match unitU S mainS with
 | none=>false
 | some u => if itU mainS u.sm.bs 0 (-1) < 0 then false else match u.sm.bs[(itU mainS u.sm.bs 0 (-1)).toNat]? with
   | some b=>(modN u b).ks.isEmpty
   | none=>false
theorem GdU.fst {u:Un} (h:GdU u) {b:SBd} (hb:b ∈ u.sm.bs) (hk:b.k=2):∃ (i:Nat) (x:N) (r:List N),b.i=i∧u.tr.ks[i]?=some x∧x.ks=modN u b :: r:=by
 obtain ⟨i,x,p,r,h1,h2,h3⟩:=h.df b hb hk
 have:modN u b=p:=by
  unfold modN
  rw [h1,Int.toNat_natCast,h2]
  simp [h3]
 rw [this]
 exact ⟨i,x,r,h1,h2,h3⟩
theorem unitU_mem {S:List Un} {s:Bs} {v:Un} (hv:unitU S s=some v):v ∈ S:=by
 unfold unitU at hv
 split at hv
 · rename_i v' hv'
   split at hv
   · cases hv; exact List.mem_of_getElem? hv'
   · cases hv
 · cases hv
section
variable {P:Program}
theorem Has.pjEntry {f unit item tU tN:Nat} {S:List Un} (h:Has P f (irPjEntry unit item tU tN)) (hu:UnitOk P S unit) (hi:ItemOk P item) (hg:∀ u ∈ S,GdU u) (hl:∀ u ∈ S,u.sm.bs.length≤1099511627776) (H:Hp) :
 ACall P f [pA S] H (fun r H'=>r = .d (.bool (entU S))∧H'=H):=by
 obtain ⟨fn,hf,hcf⟩:=h
 refine acall_fin hf hcf (by simp [irPjEntry]) fun hcl _ => ?_
 have hun:=hu mainS H
 unfold entU
 cases hv:unitU S mainS with
 | none =>
   rw [hv] at hun
   have hit:=fun X=>hi noU mainS (by decide) (H++X)
   rw [noU_enc] at hit
   have e1:itU mainS noU.sm.bs 0 (-1) = -1:=rfl
   rw [e1] at hit
   simp only [Option.elim_none,Option.isSome_none,zU,mainS,List.map_cons,List.map_nil] at hun hit
   simp [irPjEntry]
   refine CallK_of' hun ?_
   simp
   refine CallK_of' (hit _) ?_
   simp
   simp [RetK,cut_app hcl]
 | some u =>
   rw [hv] at hun
   have hm:=unitU_mem hv
   have hit:=fun X=>hi u mainS (hl u hm) (H++X)
   obtain ⟨zu,ms,he⟩:=u.enc_all
   simp only [Option.elim_some,Option.isSome_some] at hun
   rw [he] at hun hit
   simp only [List.map_cons,List.map_nil] at hun hit
   have hms:mainS=[109,97,105,110]:=rfl
   simp [irPjEntry,← hms]
   refine CallK_of' hun ?_
   simp
   refine CallK_of' (hit _) ?_
   rcases itU_some (w:=mainS) (l:=u.sm.bs) (i:=0) (p := -1) with h | ⟨j,b,h1,h2,h3,h4⟩
   · simp [h]
     simp [RetK,cut_app hcl]
     exact fun h'=>absurd h' (by omega)
   · have hjl:j < u.sm.bs.length:=(List.getElem?_eq_some_iff.1 h2).1
     rw [Int.zero_add] at h1
     rw [h1]
     obtain ⟨i,x,r,g1,g2,g3⟩:=(hg u hm).fst (List.mem_of_getElem? h2) h3
     have hj0:¬ ((j:Int) < 0):=by omega
     have hrb:Zam.rowAt (u.sm.bs.map encBd) (j:Int)=some [.int .i64 b.a,.int .i64 b.k,.str b.w,.int .i64 b.i]:=by simp [Zam.rowAt,h2,encBd]
     have hr:Zam.rowAt (u.tr.ks.map N.enc) (i:Int)=some x.enc:=by simp [Zam.rowAt,g2]
     have hr0:∀ (r:List D) (l:List (List D)),Zam.rowAt (r :: l) 0=some r:=fun _ _=>rfl
     obtain ⟨zx,hx⟩:=x.enc_all
     obtain ⟨zm,hmm⟩:=(modN u b).enc_all
     rw [g3] at hx
     simp [hj0,h2,hrb,g1,hr,hr0,hx,hmm]
     have hd:decide ((modN u b).ks=[])=(modN u b).ks.isEmpty:=by cases (modN u b).ks<;>simp
     simp only [RetK,cut_app hcl,hd,h2,hj0,decide_false,Bool.not_false,Bool.true_and]
     simp
end
end
section
open Go.Proofs
def dg1 (S:List Un) (u:Un):List Dg:=if u.bad=0 then (u.sm.bad.map fun x=>⟨u.n,spU u x.1,x.2⟩)++impsU S u u.sm.bs else [⟨u.n,u.pos,u.bad⟩]
def dgsU (S:List Un):List Dg:=S.flatMap (dg1 S)++if entU S then [] else [⟨mainS,0,34⟩]
def diagsU (S:List Un):List Dg:=ssort cD (dgsU S)
def SmallU (u:Un):Prop:=u.sm.bad.length≤1073741824∧u.sm.bs.length≤1073741824∧u.tk.length≤1073741824∧u.tr.ks.length≤1073741824
theorem dg1_len {S:List Un} {u:Un} (h:SmallU u):(dg1 S u).length≤2147483648:=by
 obtain ⟨h1,h2,-,-⟩:=h
 have:=impsU_len S u u.sm.bs
 unfold dg1
 split
 · simp; omega
 · simp
theorem flat_len {S T:List Un} (h:∀ u ∈ S,SmallU u):(S.flatMap (dg1 T)).length≤S.length * 2147483648:=by
 induction S with
 | nil=>simp
 | cons u S ih =>
   have h1:=dg1_len (S:=T) (h u (by simp))
   have h2:=ih fun v hv=>h v (by simp [hv])
   simp only [List.flatMap_cons,List.length_append,List.length_cons]
   omega
theorem flat_take {S T:List Un} {j:Nat} {u:Un} (h:S[j]?=some u):(S.take (j+1)).flatMap (dg1 T)=(S.take j).flatMap (dg1 T)++dg1 T u:=by
 rw [List.take_succ,h]
 simp
theorem app_many {H X:Hp} {R:List (List D)} {n b sz e:Nat} (new:List (List D)) (hn:R.length=n) (hb:(n+new.length) * b≤140737488355328) :
 appA (H++(.tok n sz e :: X)) sz b e new (.osl true sz R H.length)=some (.osl true sz (R++new) H.length,H++(.tok (n+new.length) sz e :: X)):=by
 subst hn
 rw [appA_osl (H:=H++(.tok R.length sz e :: X)) (t:=H.length) (by simp) hb]
 simp
section
variable {P:Program}
def ImpsOk (P:Program) (S:List Un) (f:Nat):Prop:=∀ u ∈ S,∀ H,ACall P f [pA S,.agg (u.enc.map .d)] H (fun r H'=>r = .d (.sl true 3 ((impsU S u u.sm.bs).map encDg))∧H'=H)
def EntryOk (P:Program) (S:List Un) (f:Nat):Prop:=∀ H,ACall P f [pA S] H (fun r H'=>r = .d (.bool (entU S))∧H'=H)
def SortDOk (P:Program) (f:Nat):Prop:=∀ (H:Hp) (z:Bool) (l:List Dg),l.length≤1099511627776→ACall P f [.d (.sl z 3 (l.map encDg))] H (fun r H'=>r = .d (.sl (z && l.isEmpty) 3 ((ssort cD l).map encDg))∧H'=H)
theorem HasT.pjDiags {f spot imps entry sort tU tB tD:Nat} {S:List Un} (h:HasT P [3] f (irPjDiags spot imps entry sort tU tB tD)) (hs:SpotOk P spot) (hi:ImpsOk P S imps) (he:EntryOk P S entry) (hso:SortDOk P sort)
 (hS:S.length≤8) (hsm:∀ u ∈ S,SmallU u) (H:Hp) :
 ACall P f [pA S] H (fun r H'=>r = .d (.sl (dgsU S).isEmpty 3 ((diagsU S).map encDg))∧H'=H):=by
 obtain ⟨fn,hf,hcf⟩:=h
 refine acall_fin hf hcf (by simp [irPjDiags]) fun hcl _ => ?_
 simp [irPjDiags,pA]
 refine LoopK_out 0 (fun fr H'=>fr 0 = .eptr [.sl S.isEmpty 14 (S.map Un.enc)]∧fr 3 = .osl true 3 ((S.flatMap (dg1 S)).map encDg) H.length∧H'=H++[.tok (S.flatMap (dg1 S)).length 3 tD]) ?_ ?_
 · refine RangeK_of (H.length+1) S.length (fun j fr H'=>fr 0 = .eptr [.sl S.isEmpty 14 (S.map Un.enc)]∧fr 13 = .d (.sl S.isEmpty 14 (S.map Un.enc))∧fr 3 = .osl true 3 (((S.take j).flatMap (dg1 S)).map encDg) H.length ∧
    H'=H++[.tok ((S.take j).flatMap (dg1 S)).length 3 tD]) (by omega) (by decide) (by simp) (by simp) ?_ ?_ ?_
   · simp [cut_appk hcl]
   · rintro j fr H' hj fi fn ⟨f0,f13,f3,rfl⟩
     obtain ⟨u,hu⟩:∃ u,S[j]?=some u:=⟨_,List.getElem?_eq_getElem hj⟩
     have hum:=List.mem_of_getElem? hu
     have hsu:=hsm u hum
     have hd1:=dg1_len (S:=S) hsu
     obtain ⟨q1,q2,q3,q4⟩:=hsu
     have hrow:Zam.rowAt (S.map Un.enc) (j:Int)=some u.enc:=by simp [Zam.rowAt,hu]
     have htk:=flat_take (T:=S) hu
     have hlen:=flat_len (T:=S) (S:=S.take j) fun v hv=>hsm v (List.mem_of_mem_take hv)
     have hlj:(S.take j).length=j:=by simp; omega
     rw [hlj] at hlen
     have hlen8:j * 2147483648≤8 * 2147483648:=Nat.mul_le_mul_right _ (by omega)
     generalize (S.take j).flatMap (dg1 S)=R at *
     obtain ⟨zu,ms,hue⟩:=u.enc_all
     have himp:=fun X=>hi u hum (H++X)
     have hsp:=fun a X=>hs u a (by omega) (H++X)
     rw [hue] at hrow himp hsp
     simp only [List.map_cons,List.map_nil,pA] at himp hsp
     have hil:=impsU_len S u u.sm.bs
     by_cases hb:u.bad=0
     · have h1:dg1 S u=(u.sm.bad.map fun x=>⟨u.n,spU u x.1,x.2⟩)++impsU S u u.sm.bs:=by rw [dg1,if_pos hb]
       rw [h1] at htk
       obtain ⟨mk_,hmk⟩:∃ g:Int × Int→Dg,g=fun x=>⟨u.n,spU u x.1,x.2⟩:=⟨_,rfl⟩
       rw [← hmk] at htk
       rw [hb] at himp hsp
       simp [fi,f13,hrow,hb]
       generalize hbx:Ob.box tU [A.d (.str u.n),A.d (.str u.t),A.d (.sl true 4 (u.tk.map encTk)),A.d (.int .i64 u.tr.k),A.d (.int .i64 u.tr.f),A.d (.int .i64 u.tr.t),A.d (.str u.tr.w),A.d (.int .i64 u.tr.at_),A.d (.sl zu 6 (u.tr.ks.map N.enc)),A.d (.sl u.sm.bs.isEmpty 4 (u.sm.bs.map encBd)),A.d ms,A.d (.sl u.sm.bad.isEmpty 2 (u.sm.bad.map encBad)),A.d (.int .i64 0),A.d (.int .i64 u.pos)]=bx
       refine LoopK_out 2 (fun fr H2=>fr 0 = .eptr [.sl S.isEmpty 14 (S.map Un.enc)]∧fr 13 = .d (.sl S.isEmpty 14 (S.map Un.enc))∧fr 5 = .ptr (H.length+1) 0∧fr 15 = .d (.int .i64 (j:Int))∧fr 14 = .d (.int .i64 (S.length:Int))∧fr 3 = .osl true 3 ((R++u.sm.bad.map mk_).map encDg) H.length ∧
        H2=H++[.tok (R++u.sm.bad.map mk_).length 3 tD,bx]) ?_ ?_
       · refine RangeK_of (H.length+2) u.sm.bad.length (fun q fr H2=>fr 0 = .eptr [.sl S.isEmpty 14 (S.map Un.enc)]∧fr 13 = .d (.sl S.isEmpty 14 (S.map Un.enc))∧fr 5 = .ptr (H.length+1) 0∧fr 15 = .d (.int .i64 (j:Int))∧fr 14 = .d (.int .i64 (S.length:Int))∧fr 35 = .d (.sl u.sm.bad.isEmpty 2 (u.sm.bad.map encBad)) ∧
          fr 3 = .osl true 3 ((R++(u.sm.bad.take q).map mk_).map encDg) H.length∧H2=H++[.tok (R++(u.sm.bad.take q).map mk_).length 3 tD,bx]) (by omega) (by decide) (by simp) (by simp [← hbx]) ?_ ?_ ?_
         · simp [f0,f3,f13,fi,fn,cut_appk hcl,← hbx]
         · rintro q fr H2 hq gi gn ⟨f0,f13,f5,f15,f14,f35,f3,rfl⟩
           obtain ⟨x,hx⟩:∃ x,u.sm.bad[q]?=some x:=⟨_,List.getElem?_eq_getElem hq⟩
           have hrx:Zam.rowAt (u.sm.bad.map encBad) (q:Int)=some [.int .i64 x.1,.int .i64 x.2]:=by simp [Zam.rowAt,hx,encBad]
           have htq:(u.sm.bad.take (q+1)).map mk_=(u.sm.bad.take q).map mk_++[mk_ x]:=by rw [List.take_succ,hx]; simp
           have hlq:(u.sm.bad.take q).length≤1073741824:=by simp; omega
           have hmx:mk_ x=⟨u.n,spU u x.1,x.2⟩:=by rw [hmk]
           have hspx:=hsp x.1
           have htq':R++(u.sm.bad.take (q+1)).map mk_=R++(u.sm.bad.take q).map mk_++[mk_ x]:=by rw [htq,← List.append_assoc]
           generalize hRR:R++(u.sm.bad.take q).map mk_=R2 at *
           have hl2:R2.length≤8 * 2147483648+1073741824:=by rw [← hRR]; simp; omega
           have happ:=fun X=>app_many (H:=H) (X:=X) (R:=R2.map encDg) (n:=R2.length) (b:=32) (sz:=3) (e:=tD) [[.str u.n,.int .i64 (spU u x.1),.int .i64 x.2]] (by simp) (by simp; omega)
           simp only [List.length_singleton] at happ
           simp [gi,f35,hrx,f5,← hbx,hb,f3]
           refine CallD_of (hspx _) ?_
           simp [happ]
           refine NextK_of (H.length+2) (Nat.le_refl _) (by simp [gi,gn]) ?_
           rw [htq',hmx]
           simp [f0,f13,f5,f15,f14,f35,cut_appk hcl,← hbx,encDg]
         · rintro fr H2 gi gn ⟨f0,f13,f5,f15,f14,f35,f3,rfl⟩
           rw [List.take_length] at f3 ⊢
           simp [f0,f13,f5,f15,f14,f3]
       · rintro fr H2 ⟨f0,f13,f5,f15,f14,f3,rfl⟩
         have happ:=fun X=>app_many (H:=H) (X:=X) (R:=(R++u.sm.bad.map mk_).map encDg) (n:=(R++u.sm.bad.map mk_).length) (b:=32) (sz:=3) (e:=tD) ((impsU S u u.sm.bs).map encDg) (by simp) (by simp; omega)
         rw [← List.append_assoc] at htk
         generalize R++u.sm.bad.map mk_=R2 at *
         simp [f0,f5,f3,← hbx]
         refine CallK_of' (himp _) ?_
         simp [happ]
         refine NextK_of (H.length+1) (Nat.le_refl _) (by simp [f14,f15]) ?_
         simp [f0,f13,cut_appk hcl,htk]
     · have h1:dg1 S u=[⟨u.n,u.pos,u.bad⟩]:=by rw [dg1,if_neg hb]
       rw [h1] at htk
       have happ:=fun X=>app_many (H:=H) (X:=X) (R:=R.map encDg) (n:=R.length) (b:=32) (sz:=3) (e:=tD) [[.str u.n,.int .i64 u.pos,.int .i64 u.bad]] (by simp) (by simp; omega)
       simp only [List.length_singleton] at happ
       simp [fi,f13,hrow,hb,f3,happ]
       refine NextK_of (H.length+1) (Nat.le_refl _) (by simp [fi,fn]) ?_
       simp [f0,f13,cut_appk hcl,htk,encDg]
   · rintro fr H' fi fn ⟨f0,f13,f3,rfl⟩
     rw [List.take_length] at f3 ⊢
     simp [f0,f3]
 · rintro fr H' ⟨f0,f3,rfl⟩
   have hlen:=flat_len (T:=S) (S:=S) hsm
   have hlen8:S.length * 2147483648≤8 * 2147483648:=Nat.mul_le_mul_right _ (by omega)
   have hen:=fun X=>he (H++X)
   simp only [pA] at hen
   obtain ⟨D,hD⟩:∃ D,D=dgsU S:=⟨_,rfl⟩
   have hDl:D.length≤1099511627776:=by
    rw [hD]
    unfold dgsU; rw [List.length_append]; split<;>simp only [List.length_nil,List.length_singleton]<;>omega
   have hss:=fun X=>hso (H++X) true D hDl
   rw [Bool.true_and] at hss
   unfold diagsU
   have hd1:entU S=true→D=S.flatMap (dg1 S):=fun h=>by rw [hD,dgsU,h]; simp
   have hd2:entU S=false→D=S.flatMap (dg1 S)++[⟨mainS,0,34⟩]:=fun h=>by rw [hD,dgsU,h]; simp
   rw [← hD]
   generalize S.flatMap (dg1 S)=R at *
   simp [f0]
   refine CallK_of' (hen _) ?_
   cases hE:entU S with
   | true =>
     obtain rfl:=hd1 hE
     simp [f3]
     refine CallK_of' (ACall.osl1 (hss _)) ?_
     simp
     simp [RetK,cut_app hcl]
   | false =>
     have hd:=hd2 hE
     have happ:=fun X=>app_many (H:=H) (X:=X) (R:=R.map encDg) (n:=R.length) (b:=32) (sz:=3) (e:=tD) [[.str [109,97,105,110],.int .i64 0,.int .i64 34]] (by simp) (by simp; omega)
     simp only [List.length_singleton] at happ
     simp [f3,happ]
     have hm:R.map encDg++[[.str [109,97,105,110],.int .i64 0,.int .i64 34]]=D.map encDg:=by rw [hd,List.map_append]; rfl
     rw [hm]
     refine CallK_of' (ACall.osl1 (hss _)) ?_
     simp
     simp [RetK,cut_app hcl]
end
end
section
open Go.Proofs
section
variable {P:Program}
theorem Has.pjAhead {f tE:Nat} (h:Has P f (irPjAhead tE)) (x y:Dg) (H:Hp):ACall P f [.agg [.d (.str x.m),.d (.int .i64 x.a),.d (.int .i64 x.c)],.agg [.d (.str y.m),.d (.int .i64 y.a),.d (.int .i64 y.c)]] H (fun r H'=>r = .d (.bool (decide (cD x y < 0)))∧H'=H):=by
 obtain ⟨fn,hf,hcf⟩:=h
 refine acall_fin hf hcf (by simp [irPjAhead]) fun hcl _ => ?_
 unfold cD
 simp [irPjAhead]
 by_cases h1:x.m=y.m
 · have e1:cmpStr x.m y.m=0:=by rw [h1]; exact cmpStr_cmp.refl _
   rw [if_pos e1]
   by_cases h2:x.a=y.a
   · have e2:cmpInt x.a y.a=0:=by rw [h2]; exact cmpInt_cmp.refl _
     rw [if_pos e2]
     have e3:(cmpInt x.c y.c < 0) ↔ x.c < y.c:=by unfold cmpInt; split<;>(try split)<;>omega
     simp [h1,h2]
     simp [RetK,cut_app hcl,e3]
   · have e2:¬ cmpInt x.a y.a=0:=by unfold cmpInt; split<;>(try split)<;>omega
     have e3:(cmpInt x.a y.a < 0) ↔ x.a < y.a:=by unfold cmpInt; split<;>(try split)<;>omega
     rw [if_neg e2]
     simp [h1,h2]
     simp [RetK,cut_app hcl,e3]
 · have e1:¬ cmpStr x.m y.m=0:=by
    unfold cmpStr
    cases Op.bytesLess x.m y.m<;>simp [h1]
   rw [if_neg e1]
   have e3:decide (cmpStr x.m y.m < 0)=Op.bytesLess x.m y.m:=by
    rw [Bool.eq_iff_iff]; simp [cmpStr_lt]
   simp [h1]
   simp [RetK,cut_app hcl,e3]
theorem HasT.pjRsort {f ahead tE:Nat} (h:HasT P [6,3] f (irPjRsort ahead tE)) (ha:Has P ahead (irPjAhead tE)) (z:Bool) (l:List Dg) (hl:l.length≤1099511627776) (H:Hp) :
 ACall P f [.d (.sl z 3 (l.map encDg))] H (fun r H'=>r = .d (.sl true 3 ((ssort cD l).map encDg))∧H'=H):=by
 obtain ⟨fn,hf,hcf⟩:=h
 have hah:=fun x y H=>Has.pjAhead ha x y H
 refine acall_fin hf hcf (by simp [irPjRsort]) fun hcl _ => ?_
 simp [irPjRsort]
 refine LoopK_out 0 (fun fr H'=>fr 3 = .d (.sl true 3 ((ssort cD l).map encDg))∧∃ X,H'=H++X) ?_ ?_
 · refine ForK_of H.length l.length (fun i fr H'=>fr 0 = .d (.sl z 3 (l.map encDg))∧fr 3 = .d (.sl true 3 ((ssort cD (l.take i)).map encDg))∧H'=H) (by omega) (by decide) (by simp) (by simp) ?_ ?_
   · simp [cut_app hcl,ssort]
   rintro i fr H' hi f4 ⟨f0,f3,rfl⟩
   simp [f4,f0]
   refine BrK_split (fun h => ?_) (fun h => ?_)
   · have hia:i < l.length:=by simpa using h
     have hr:=rowAt_map encDg hia
     have ht:l.take (i+1)=l.take i++[l[i]]:=List.take_succ_eq_append_getElem hia
     have hsl:=ssort_length cD_cmp (l.take i)
     have hso:=(ssort_spec cD_cmp (l.take i)).1
     have hsn:∀ a b,ssort cD (l.take i)=a++b→(∀ y ∈ a,cD y l[i]≤0)→(∀ y ∈ b,cD l[i] y < 0)→ssort cD (l.take (i+1))=a++l[i] :: b:=fun a b e ha hb=>by
      rw [ht,← ssort_snoc cD_cmp (by rw [← e]; exact hso) ha hb]
      refine ssort_alk cD_cmp ?_
      refine Alk.append ?_ (Alk.refl _)
      rw [← e]
      exact ((ssort_spec cD_cmp (l.take i)).2).symm
     have hlt:(l.take i).length=i:=by simp; omega
     rw [hlt] at hsl
     generalize ssort cD (l.take i)=S at f3 hsl hso hsn
     generalize l[i]=x at hr hsn
     simp only [encDg] at hr
     simp [f3]
     refine LoopK_out 2 (fun fr H2=>∃ a:Nat,a≤S.length∧(∀ y ∈ S.drop a,cD x y < 0)∧(∀ y ∈ S.take a,cD y x≤0)∧fr 0 = .d (.sl z 3 (l.map encDg))∧fr 3 = .d (.sl true 3 (S.map encDg))∧fr 4 = .d (.int .i64 (i:Int))∧fr 5 = .d (.int .i64 (a:Int))∧H2=H') ?_ ?_
     · refine LoopM_of H'.length (fun d fr H2=>∃ a:Nat,a < d∧a≤S.length∧(∀ y ∈ S.drop a,cD x y < 0)∧fr 0 = .d (.sl z 3 (l.map encDg))∧fr 3 = .d (.sl true 3 (S.map encDg))∧fr 4 = .d (.int .i64 (i:Int))∧fr 5 = .d (.int .i64 (a:Int))∧H2=H') (S.length+1) (by simp) ⟨S.length,by omega,Nat.le_refl _,by simp,?_⟩ ?_
       · simp [f0,f3,f4,cut_self hcl,hsl]
       rintro d fr H2 ⟨a,hd,ha,hb,f0,f3,f4,f5,rfl⟩
       simp [f5]
       rcases Nat.eq_zero_or_pos a with rfl | hpos
       · simp [f5]
         exact ⟨0,by omega,by simpa using hb,by simp,by simp [f0],by simp [f3],by simp [f4],by simp [f5]⟩
       · obtain ⟨b,rfl⟩:∃ b,a=b+1:=⟨a - 1,by omega⟩
         have hbs:b < S.length:=by omega
         have hrb:=rowAt_map encDg hbs
         have hw:IntKind.i64.wrap ((b:Int)+1 - 1)=b:=by rw [wrap_i64 (by omega) (by omega)]; omega
         have hw':IntKind.i64.wrap (b:Int)=b:=wrap_i64 (by omega) (by omega)
         have hp:(0:Int) < (b:Int)+1:=by omega
         have hsp:∀ y ∈ S.take b,cD y S[b]≤0:=by
          have h1:=hso
          rw [← List.take_append_drop b S,List.drop_eq_getElem_cons hbs] at h1
          have:=(Sorted.append (c:=cD)).1 h1
          exact fun y hy=>this.2.2 y hy _ (List.mem_cons_self ..)
         have hdr:S.drop b=S[b] :: S.drop (b+1):=List.drop_eq_getElem_cons hbs
         have htk:S.take (b+1)=S.take b++[S[b]]:=List.take_succ_eq_append_getElem hbs
         generalize S[b]=y at hrb hsp hdr htk
         simp only [encDg] at hrb
         simp [f0,f3,f4,f5,hp,hw,hw',hr,hrb]
         refine CallD_of (hah x y _) ?_
         simp
         refine BrK_split (fun h2 => ?_) (fun h2 => ?_)
         · have h2:cD x y < 0:=by simpa using h2
           simp [f5,hw,hw']
           obtain ⟨d',rfl⟩:∃ d',d=d'+1:=⟨d - 1,by omega⟩
           refine NextM_of H2.length d' (Nat.le_refl _) (by simp) (by omega) ⟨b,by omega,by omega,?_,?_⟩
           · rw [hdr]
             intro v hv
             rcases List.mem_cons.1 hv with rfl | hv
             · exact h2
             · exact hb v hv
           · simp [f0,f3,f4,cut_self hcl]
         · have h2:¬ cD x y < 0:=by simpa using h2
           simp
           refine ⟨b+1,ha,hb,?_,by simp [f0],by simp [f3],by simp [f4],by simp [f5]⟩
           rw [htk]
           have hyx:=(cD_cmp.not_lt).1 h2
           intro v hv
           rcases List.mem_append.1 hv with hv | hv
           · exact cD_cmp.trans _ _ _ (hsp v hv) hyx
           · rw [List.mem_singleton.1 hv]; exact hyx
     · rintro fr H2 ⟨a,ha,hb,htk,f0,f3,f4,f5,rfl⟩
       have hS':=hsn (S.take a) (S.drop a) (List.take_append_drop a S).symm htk hb
       have s1:subL (S.map encDg) 0 (a:Int)=some ((S.take a).map encDg):=by
        simp [subL,ha,List.map_take]
       have s2:subL (S.map encDg) (a:Int) (S.length:Int)=some ((S.drop a).map encDg):=by
        have:(S.length - a)=(S.drop a).length:=by simp
        simp [subL,ha,List.map_drop]
        rw [List.take_of_length_le (by simp)]
       have la:(S.take a).length=a:=by simp; omega
       have lb:(S.drop a).length=S.length - a:=by simp
       simp [f0,f3,f4,f5,s1,s2,hr,appA]
       rw [if_pos (by omega)]
       simp [f0,f3,f4,f5,s1,s2,hr,appA]
       rw [if_pos (by omega)]
       simp [f0,f3,f4,f5,s1,s2,hr,appA]
       rw [if_pos (by omega)]
       simp
       refine NextF_of H2.length (Nat.le_refl _) hia (by simp [f4]) ?_
       rw [hS']
       refine ⟨by simp [f0],?_,cut_app hcl _⟩
       simp [encDg,List.map_take,List.map_drop]
   · have hia:l.length≤i:=by simpa using h
     rw [List.take_of_length_le hia] at f3
     simp [f3]
 · rintro fr H' ⟨f3,X,rfl⟩
   simp [RetK,f3,cut_app hcl]
end
end
section
open Go.Proofs
section
variable {P:Program}
def RsortOk (P:Program) (f:Nat):Prop:=∀ (H:Hp) (z:Bool) (l:List Dg),l.length≤1099511627776→ACall P f [.d (.sl z 3 (l.map encDg))] H (fun r H'=>r = .d (.sl true 3 ((ssort cD l).map encDg))∧H'=H)
end
end
section
open Go.Proofs
theorem unitU_find {s:Bs}:∀ {S:List Un},Sorted cU S→unitU S s=S.find? fun u=>decide (u.n=s)
 | [],_=>rfl
 | u :: r, h => by
   have hr:Sorted cU r:=((Sorted.append (c:=cU) (a:=[u]) (b:=r)).1 (by simpa using h)).2.1
   have hu:∀ v ∈ r,cU u v≤0:=fun v hv=>((Sorted.append (c:=cU) (a:=[u]) (b:=r)).1 (by simpa using h)).2.2 u (by simp) v hv
   by_cases h1:cmpStr u.n s < 0
   · have hne:¬ u.n=s:=fun e=>by
      have:=cmpStr_zero.2 e
      omega
     have hl:lbU (u :: r) s=lbU r s+1:=by
      unfold lbU
      rw [List.takeWhile_cons,if_pos (by simpa using h1),List.length_cons]
     rw [List.find?_cons_of_neg (by simpa using hne),← unitU_find hr]
     unfold unitU
     rw [hl,List.getElem?_cons_succ]
   · have hl:lbU (u :: r) s=0:=by
      unfold lbU
      rw [List.takeWhile_cons,if_neg (by simpa using h1),List.length_nil]
     unfold unitU
     rw [hl,List.getElem?_cons_zero]
     by_cases h2:u.n=s
     · rw [List.find?_cons_of_pos (by simpa using h2)]
       simp [cmpStr_zero.2 h2]
     · have h3:¬ cmpStr u.n s=0:=fun e=>h2 (cmpStr_zero.1 e)
       rw [List.find?_cons_of_neg (by simpa using h2)]
       have h4:r.find? (fun u=>decide (u.n=s))=none:=by
        rw [List.find?_eq_none]
        intro v hv e
        have e:v.n=s:=by simpa using e
        have:=hu v hv
        unfold cU at this
        rw [e] at this
        omega
       rw [h4]
       simp [h3]
section
variable {S:List Un} (hS:Sorted cU S)
include hS
theorem sorted_lt (i j:Nat) (u v:Un) (s:Bs) (hij:i≤j) (hu:S[i]?=some u) (hv:S[j]?=some v) (h:cmpStr v.n s < 0):cmpStr u.n s < 0:=by
 have h2:cU u v≤0:=sorted_get cU_cmp hS hu hv hij
 exact cmpStr_cmp.le_lt h2 h
end
end
section
open Go.Proofs
theorem scopeM_sz' (n:N):(scopeM n).sz≤4 * n.size:=by
 obtain ⟨k,f,t,w,a,z,ks⟩:=n
 have hall:allP (.mk k f t w a z ks)=defsP (topsP 0 ks [] ⟨[],[],[]⟩).1 0 ks (topsP 0 ks [] ⟨[],[],[]⟩).2:=rfl
 have h1:=(tops_grew ks 0 [] ⟨[],[],[]⟩ (FOk.nil _)).sz
 have h2:=(defs_grew (topsP 0 ks [] ⟨[],[],[]⟩).1 ks 0 (topsP 0 ks [] ⟨[],[],[]⟩).2).2
 have h3:SM.sz ⟨[],[],[]⟩=0:=rfl
 have hsl:=N.sizes_len ks
 rw [N.size_mk]
 have:(scopeM (.mk k f t w a z ks)).sz=(allP (.mk k f t w a z ks)).sz:=by
  unfold scopeM SM.sz
  simp only [ssort_length cBad_cmp]
 rw [this,hall]
 omega
theorem readU_small (m:Mod):SmallU (readU m):=by
 have hz:=parseO_size m.t
 have hks:(readU m).tr.ks.length≤16001:=by
  show (parseO m.t).2.1.ks.length≤16001
  have h1:=N.sizes_len (parseO m.t).2.1.ks
  have h2:=N.size_ks (parseO m.t).2.1
  omega
 by_cases h0:(parseO m.t).2.2.1=0
 · obtain ⟨n,j,h1,h2,h3,h4,h5,hI,hj,h6⟩:=parseO_file h0
   have hsm:(readU m).sm=scopeM n:=by
    show (if _ then _ else _)=_
    rw [if_pos h0,h2]
   have htk:(readU m).tk=(lexS m.t).1:=h1
   have hs:=scopeM_sz' n
   rw [h2] at hz
   unfold SM.sz at hs
   have h4000:(lexS m.t).1.length≤4000:=((lexS_ok m.t).2 h5).2
   refine ⟨by rw [hsm]; omega,by rw [hsm]; omega,by rw [htk]; omega,by omega⟩
 · have hsm:(readU m).sm=⟨[],[],[]⟩:=by
    show (if _ then _ else _)=_
    rw [if_neg h0]
   have htk:(readU m).tk=[]:=by
    show (parseO m.t).1=[]
    unfold parseO at h0 ⊢
    split
    · rfl
    · rename_i g1
      split
      · rfl
      · rename_i g2
        rw [if_neg g1,if_neg g2] at h0
        exact absurd rfl h0
   refine ⟨by rw [hsm]; simp,by rw [hsm]; simp,by rw [htk]; simp,by omega⟩
structure PrjOk (S:List Un):Prop where
 so:Sorted cU S
 len:S.length≤8
 gd:∀ u ∈ S,GdU u
 sm:∀ u ∈ S,SmallU u
theorem ofU_ok (l:List Mod):PrjOk (ofU (l.map readU)).1:=by
 unfold ofU
 split
 · exact ⟨List.Pairwise.nil,by simp,by simp,by simp⟩
 · rename_i h8
   split
   · obtain ⟨h1,h2⟩:=ssort_spec cU_cmp (l.map readU)
     have hl:=ssort_length cU_cmp (l.map readU)
     have hl8:(ssort cU (l.map readU)).length≤8:=by omega
     refine ⟨h1,hl8,fun u hu => ?_,fun u hu => ?_⟩
     · have:=(h2.mem cU_cmp).2 hu
       obtain ⟨m,-,rfl⟩:=List.mem_map.1 this
       exact readU_gd m
     · have:=(h2.mem cU_cmp).2 hu
       obtain ⟨m,-,rfl⟩:=List.mem_map.1 this
       exact readU_small m
   · exact ⟨List.Pairwise.nil,by simp,by simp,by simp⟩
end
end Go.Zam
