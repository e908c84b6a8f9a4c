/-
  Texts of one proof, one behind the other.
-/
import Derived.Test.YtffdeeooocookaaM6
import Derived.Test.YtffdeeooocookaaM4
import Derived.Test.YtffdeeooocookaaM3
import Derived.Sort.Row
import Derived.Sort.Grow
import Derived.Sort.EncStr
set_option linter.all false
set_option maxRecDepth 100000
set_option maxHeartbeats 4000000
namespace Go.Zam
section
def deferF (P : Program) (tok : List Nat) (fn : Func) : Option (Nat × C × C × List IOp × Nat × C) :=
 match fn.body with
 | some (.seq ca0 (.seq ca (.seq (.region _ ops false) cb))) =>
   match ops.toList.getLast? with
   | some od =>
     match guardOf ops od.guard,od.dst,od.op with
     | some none, none, .defer c =>
       match c.callee with
       | .value (.tmp s) => if c.args.size = 0 ∧ fn.results.size = 0 then some (fn.ntmps,compC P fn.ntmps tok ca0,compC P fn.ntmps tok ca,ops.toList.dropLast.map (compO P fn.ntmps tok ops),s,compC P fn.ntmps tok cb) else none
       | _ => none
     | _,_,_ => none
   | none => none
 | _ => none
theorem acall_deferF {P : Program} {f : FuncId} {fn : Func} {tok : List Nat} {args : List A} {H : Hp} {K : A → Hp → Prop} {nt s : Nat} {c0 c1 cb : C} {l : List IOp} (hf : P.funcs[f]? = some fn) (hd : deferF P tok fn = some (nt,c0,c1,l,s,cb)) (hn : args.length ≤ nt)
 (h : H.Closed → AWp P H.length c0 (OnlyN fun fr0 H0 => H.length ≤ H0.length ∧ (Hp.Closed H0 → AWp P H0.length c1 (OnlyN fun fr1 H1 => AOps P l (fun fr2 H2 => ∃ g cap,fr2 s = .fn (.func g) [] cap ∧ callOk P g = true ∧
  (Hp.Closed H2 → AWp P H2.length cb (NoRes fun H3 => ACallD P g cap H3 fun H4 => ∃ m,H.length ≤ m ∧ m ≤ H4.length ∧ K (.tup []) (Hp.cut m H4)) fr2 H2)) fr1 H1) fr0 H0)) (Fr.init args) H) : ACall P f args H K := by
 unfold deferF at hd
 split at hd
 · rename_i ca0 ca id ops cbb hb
   split at hd
   · rename_i od hod
     split at hd
     · rename_i c hg hdst hop
       split at hd
       · rename_i s' hcal
         split at hd
         · rename_i hsz
           cases hd
           have hops : ops.toList = ops.toList.dropLast ++ [od] := by
            have hne : ops.toList ≠ [] := fun e => by rw [e] at hod; cases hod
            rw [List.getLast?_eq_some_getLast hne] at hod
            cases hod
            exact (List.dropLast_concat_getLast hne).symm
           exact acall_defer2 hf hb hops hg hdst hop hcal (Array.eq_empty_of_size_eq_zero hsz.1) (Array.eq_empty_of_size_eq_zero hsz.2) hn h
         · cases hd
       · cases hd
     · cases hd
   · cases hd
 · cases hd
theorem acallD_ir {P : Program} {f : FuncId} {fn : Func} {tok : List Nat} {ifn : IFn} {args : List A} {H : Hp} {K : Hp → Prop} (hf : P.funcs[f]? = some fn) (hc : compF P tok fn = some ifn) (hr : ifn.res = []) (hn : args.length ≤ ifn.nt)
 (h : H.Closed → AWp P H.length ifn.body (NoRes K) (Fr.init args) H) : ACallD P f args H K := by
 unfold compF at hc
 split at hc
 · rename_i c rs hb hrs
   cases hc
   simp only at hr hn h
   subst hr
   have : fn.results = #[] := by
    cases hl : fn.results.toList with
    | nil => exact Array.toList_eq_nil_iff.1 hl
    | cons x r =>
      rw [hl] at hrs
      simp only [List.mapM_cons,Option.bind_eq_bind,Option.bind_eq_some_iff,Option.pure_def] at hrs
      obtain ⟨_,_,_,_,h⟩ := hrs
      cases h
   exact acallD_of hf hb this hn h
 · cases hc
@[simp ↓] theorem OnlyN_normal {K : Fr → Hp → Prop} {fr : Fr} {H : Hp} : OnlyN K .normal fr H = K fr H := propext Iff.rfl
@[simp ↓] theorem NoRes_normal {K : Hp → Prop} {fr : Fr} {H : Hp} : NoRes K .normal fr H = K H := propext Iff.rfl
@[simp ↓] theorem NoRes_ret {K : Hp → Prop} {fr : Fr} {H : Hp} : NoRes K .ret fr H = K H := propext Iff.rfl
structure SHas (P : Program) (F : SF) : Prop where
 wrong : HasT P [2000021] F.wrong (irScWrong F.ed)
 bind : Has P F.bind (irScBind F.wrong F.tn F.bd)
 res : Has P F.res irScRes
 kRes : callOk P F.res = true
 node : HasT P [6000028] F.node (irScNode F.within F.kids F.bind F.mention F.closed F.nodeC F.tp F.tn)
 nodeC : Has P F.nodeC (irScNodeC F.kids)
 kNodeC : callOk P F.nodeC = true
 kids : Has P F.kids (irScKids F.node F.tn)
 mention : Has P F.mention (irScMention F.find F.wrong F.tn F.mn)
 find : Has P F.find irScFind
 closed : Has P F.closed (irScClosed F.within F.closedC F.tp F.ts)
 closedC : HasT P [6000022,6000028] F.closedC (irScClosedC F.bind F.node F.tn)
 kClosedC : callOk P F.closedC = true
section
variable {P : Program} {F : SF} {c : SC} {S S' : SM} {now : A} {item : Int} {G : Nms} {H : Hp}
theorem sput_bad (h : SInv F c S now item G H) (l : List (Int × Int)) : sput F c ⟨S.bs,S.ms,l⟩ H = (H.set c.tv (.vec 2 F.ed l.length (l.map encBad))).set c.im (mbox F c ⟨S.bs,S.ms,l⟩) := by
 obtain ⟨a,b,d,e,f⟩ := h.nd
 unfold sput
 rw [Hp.set_self (i := c.tm) (by rw [List.getElem?_set_ne d.1.symm]; exact h.e),Hp.set_self (i := c.tb) (by rw [List.getElem?_set_ne b.2.1.symm]; exact h.b)]
theorem sput_bs (h : SInv F c S now item G H) (l : List SBd) : sput F c ⟨l,S.ms,S.bad⟩ H = (H.set c.tb (.tok l.length 4 F.bd)).set c.im (mbox F c ⟨l,S.ms,S.bad⟩) := by
 unfold sput
 rw [Hp.set_self h.v,Hp.set_self h.e]
theorem sput_ms (h : SInv F c S now item G H) (l : List Mn) : sput F c ⟨S.bs,l,S.bad⟩ H = (H.set c.tm (.tok l.length 4 F.mn)).set c.im (mbox F c ⟨S.bs,l,S.bad⟩) := by
 obtain ⟨a,b,d,e,f⟩ := h.nd
 unfold sput
 rw [Hp.set_self h.v,Hp.set_self (i := c.tb) (by rw [List.getElem?_set_ne b.1.symm]; exact h.b)]
theorem SHas.wrong' (hF : SHas P F) (h : SInv F c S now item G H) (at_ e : Int) (hb : S.sz ≤ 4398046511104) :
 ACall P F.wrong [.ptr c.ib 0,.d (.int .i64 at_),.d (.int .i64 e)] H (fun r H' => r = .tup [] ∧ H' = sput F c ⟨S.bs,S.ms,S.bad ++ [(at_,e)]⟩ H) := by
 obtain ⟨fn,hf,hcf⟩ := hF.wrong
 refine acall_fin hf hcf (by simp [irScWrong]) fun hcl _ => ?_
 have hi := h.i
 have hm := h.m
 have hv := h.v
 obtain ⟨a,-,-,d4,-⟩ := h.nd
 have hm2 : ∀ o,(H.set c.tv o)[c.im]? = some (mbox F c S) := fun o => by rw [List.getElem?_set_ne a.2.2.1.symm]; exact hm
 have hfit : (S.bad.length + 1) * 16 ≤ 140737488355328 := by unfold SM.sz at hb; omega
 have hcut := sput_cut (S' := ⟨S.bs,S.ms,S.bad ++ [(at_,e)]⟩) h hcl
 rw [sput_bad h] at hcut ⊢
 simp only [mbox] at hm hm2 hcut ⊢
 have htk : List.take S.bad.length (S.bad.map encBad) = S.bad.map encBad := List.take_of_length_le (by simp)
 simp [irScWrong,hi,hm,hm2,hv,hfit,htk]
 simp [RetK]
 simp [encBad] at hcut ⊢
 exact hcut
theorem SHas.res' (hF : SHas P F) {i j ib : Nat} {tb : TypeId} {im g now0 now1 it : A} {t1 t2 : TypeId} (hi : H[i]? = some (.box t1 [now1])) (hj : H[j]? = some (.box t2 [.ptr ib 0])) (hb : H[ib]? = some (.box tb [im,now0,g,it])) (hn : now1 = .d .nilp ∨ ∃ k,now1 = .ptr k 0) :
 ACallD P F.res [.ptr i 0,.ptr j 0] H (fun H' => H' = H.set ib (.box tb [im,now1,g,it])) := by
 obtain ⟨fn,hf,hcf⟩ := hF.res
 refine acallD_ir hf hcf rfl (by simp [irScRes]) fun hcl => ?_
 rcases hn with rfl | ⟨k,rfl⟩ <;> simp [irScRes,hi,hj,hb]
theorem SHas.bind' (hF : SHas P F) (h : SInv F c S now item G H) {m : Nat} {es : Nms} (hm : H[m]? = some (.mp (encNms es))) (hoff : c.off m ∧ m ≠ c.ib) (n : N) (kind : Int) (hb : S.sz ≤ 2199023255552) :
 ACall P F.bind [.ptr c.ib 0,.map m,n.v,.d (.int .i64 kind)] H (fun r H' => r = .tup [] ∧ H' = nput F c (bindP kind item n es S).2 m (bindP kind item n es S).1 H) := by
 obtain ⟨fn,hf,hcf⟩ := hF.bind
 refine acall_fin hf hcf (by simp [irScBind]) fun hcl _ => ?_
 obtain ⟨k,f,t,w,a,z,ks⟩ := n
 rw [N.v_mk]
 have hml := scan_len hm
 obtain ⟨p1,p2,p3,p4,p5,p6⟩ := h.lt
 obtain ⟨na,nb,nd,ne,nf⟩ := h.nd
 obtain ⟨bx,hbx⟩ : ∃ bx,bx = Ob.box F.tn [.d (.int .i64 k),.d (.int .i64 f),.d (.int .i64 t),.d (.str w),.d (.int .i64 a),.d (.sl z 6 (ks.map N.enc))] := ⟨_,rfl⟩
 have hA := get_app hm
 have hg := mpGet_nms w es
 have hok := mpOk_nms w es
 have hput := mpPut_nms w S.bs.length es
 have hfit : (S.bs.length + 1) * 40 ≤ 140737488355328 := by unfold SM.sz at hb; omega
 have key : ∀ (S1 : SM) (W : Hp),W = sput F c S1 H ++ [bx] → S1.bs = S.bs → S1.ms = S.ms → (bindP kind item (.mk k f t w a z ks) es S).2 = ⟨S1.bs ++ [⟨a,kind,w,item⟩],S1.ms,S1.bad⟩ →
  W[H.length]? = some bx ∧ W[m]? = some (.mp (encNms es)) ∧ W[c.ib]? = some (.box F.tb [.ptr c.im 0,now,.map c.g,.d (.int .i64 item)]) ∧ W[c.im]? = some (mbox F c S1) ∧ (∀ o,(W.set m o)[H.length]? = some bx) ∧ (∀ o,(W.set m o)[c.ib]? = some (.box F.tb [.ptr c.im 0,now,.map c.g,.d (.int .i64 item)])) ∧ (∀ o,(W.set m o)[c.im]? = some (mbox F c S1)) ∧
  (∀ o,(W.set m o)[c.tb]? = some (.tok S.bs.length 4 F.bd)) ∧ (∀ o o',((W.set m o).set c.tb o')[c.im]? = some (mbox F c S1)) ∧ H.length ≤ W.length ∧
  Hp.cut H.length (((W.set m (.mp (encNms (nmPut w S.bs.length es)))).set c.tb (.tok (S.bs.length + 1) 4 F.bd)).set c.im (mbox F c ⟨S1.bs ++ [⟨a,kind,w,item⟩],S1.ms,S1.bad⟩)) = nput F c (bindP kind item (.mk k f t w a z ks) es S).2 m (bindP kind item (.mk k f t w a z ks) es S).1 H := by
  rintro S1 W rfl e1 e2 e3
  have hs1 := h.put S1
  have hs2 := hs1.app [bx]
  have hl : H.length = (sput F c S1 H).length := sput_len.symm
  have g1 : (sput F c S1 H ++ [bx])[H.length]? = some bx := by rw [hl]; simp
  have hmn : m ≠ H.length := by omega
  have e4 : (bindP kind item (.mk k f t w a z ks) es S).1 = nmPut w S.bs.length es := rfl
  refine ⟨g1,get_app (by rw [sput_off hoff.1]; exact hm) _,hs2.i,hs2.m,fun o => by rw [List.getElem?_set_ne hmn]; exact g1,fun o => by rw [List.getElem?_set_ne hoff.2]; exact hs2.i,fun o => by rw [List.getElem?_set_ne hoff.1.1]; exact hs2.m,
   fun o => by rw [List.getElem?_set_ne hoff.1.2.1,← e1]; exact hs2.b,fun o o' => by rw [List.getElem?_set_ne na.1.symm,List.getElem?_set_ne hoff.1.1]; exact hs2.m,by simp [sput_len],?_⟩
  rw [e3,e4]
  have hsb := sput_bs hs1 (S1.bs ++ [⟨a,kind,w,item⟩])
  rw [sput_sput] at hsb
  unfold nput
  have hX : ((((sput F c S1 H ++ [bx]).set m (.mp (encNms (nmPut w S.bs.length es)))).set c.tb (.tok (S.bs.length + 1) 4 F.bd)).set c.im (mbox F c ⟨S1.bs ++ [⟨a,kind,w,item⟩],S1.ms,S1.bad⟩)) = (sput F c ⟨S1.bs ++ [⟨a,kind,w,item⟩],S1.ms,S1.bad⟩ H).set m (.mp (encNms (nmPut w S.bs.length es))) ++ [bx] := by
   rw [hsb,List.set_append_left _ _ (by rw [sput_len]; exact hml),List.set_append_left _ _ (by rw [List.length_set,sput_len]; exact p2),List.set_append_left _ _ (by rw [List.length_set,List.length_set,sput_len]; exact p1)]
   congr 1
   rw [List.set_comm _ _ hoff.1.2.1,List.set_comm _ _ hoff.1.1,e1]
   simp
  rw [hX,cut_appL (by rw [List.length_set,sput_len]),Hp.cut_set,sput_cut h hcl,encNms_clr]
 cases hgg : nmGet w es with
 | none =>
   have k0 := key S (H ++ [bx]) (by rw [sput_self h]) rfl rfl (by simp [bindP,SM.bind,hgg,N.at_,N.w])
   rw [hgg] at hg
   obtain ⟨q1,q2,q3,q4,q5,q6,q7,q8,q9,q10,q11⟩ := k0
   simp only [mbox] at q4 q7 q9 q11
   subst hbx
   simp [irScBind,-mpOk,-mpGet,-mpPut,q2,hg,hok]
   generalize H ++ _ = W at q1 q2 q3 q4 q5 q6 q7 q8 q9 q10 q11 ⊢
   simp [-mpOk,-mpGet,-mpPut,q1,q2,hg,hok,q3,q4,q5,q6,q7,q8,q9,hput,hfit,appA]
   simp [RetK,q10]
   simp [encBd] at q11 ⊢
   exact q11
 | some i =>
   have k0 := key ⟨S.bs,S.ms,S.bad ++ [(a,31)]⟩ _ rfl rfl rfl (by simp [bindP,SM.bind,hgg,N.at_,N.w])
   rw [hgg] at hg
   have gw := hF.wrong' (h.app [bx]) a 31 (by omega)
   rw [sput_app h] at gw
   obtain ⟨q1,q2,q3,q4,q5,q6,q7,q8,q9,q10,q11⟩ := k0
   simp only [mbox] at q4 q7 q9 q11
   have hA1 := hA [bx]
   subst hbx
   simp [irScBind,-mpOk,-mpGet,-mpPut,hA1,hg,hok]
   refine CallK_of' gw ?_
   generalize sput F c ⟨S.bs,S.ms,S.bad ++ [(a,31)]⟩ H ++ _ = W at q1 q2 q3 q4 q5 q6 q7 q8 q9 q10 q11 ⊢
   simp [-mpOk,-mpGet,-mpPut,q1,q2,hg,hok,q3,q4,q5,q6,q7,q8,q9,hput,hfit,appA]
   simp [RetK,q10]
   simp [encBd] at q11 ⊢
   exact q11
end
end
def FOk (n : Nat) (es : Nms) : Prop := ∀ w i,nmGet w es = some i → 0 ≤ i ∧ i < n
theorem FOk.nil (n : Nat) : FOk n [] := fun w i h => by cases h
theorem FOk.mono {n m : Nat} {es : Nms} (h : FOk n es) (hm : n ≤ m) : FOk m es := fun w i hi => by have := h w i hi; omega
theorem FOk.put {n : Nat} {es : Nms} (h : FOk n es) (w : Bs) : FOk (n + 1) (nmPut w n es) := fun u i hi => by
 rw [nmGet_put] at hi
 split at hi
 · cases hi; omega
 · have := h u i hi; omega
theorem findP_ok {n : Nat} {G : Nms} (hG : FOk n G) (w : Bs) : ∀ (E : List Frm) (far : Int),(∀ f ∈ E,FOk n f.es) → 0 ≤ far → ((findP G w E far).1 = -1 ∨ 0 ≤ (findP G w E far).1 ∧ (findP G w E far).1 < n) ∧ 0 ≤ (findP G w E far).2 ∧ (findP G w E far).2 ≤ far + E.length
 | [], far, _, h0 => by
   simp only [findP]
   cases hg : nmGet w G with
   | none => simp; omega
   | some i => have := hG w i hg; simp; omega
 | f :: r, far, h, h0 => by
   simp only [findP]
   cases hg : nmGet w f.es with
   | none =>
     have := findP_ok hG w r (if f.lam then far + 1 else far) (fun x hx => h x (by simp [hx])) (by split <;> omega)
     refine ⟨this.1,this.2.1,?_⟩
     have h3 := this.2.2
     simp only [List.length_cons]
     split at h3 <;> omega
   | some i => have := h f (by simp) w i hg; simp; omega
structure Grew (S S' : SM) (k : Nat) (fr' : Nms) : Prop where
 bs : S.bs.length ≤ S'.bs.length
 sz : S'.sz ≤ S.sz + 2 * k
 ok : FOk S'.bs.length fr'
theorem Grew.bind {S : SM} {fr : Nms} (h : FOk S.bs.length fr) (kind item : Int) (n : N) : Grew S (bindP kind item n fr S).2 1 (bindP kind item n fr S).1 := by
 refine ⟨by simp [bindP,SM.bind],?_,?_⟩
 · exact SM.bind_sz S kind item n _
 · have := h.put n.w
   simpa [bindP,SM.bind] using this
theorem Grew.binds {item : Int} : ∀ (l : List N) {S : SM} {fr : Nms},FOk S.bs.length fr → Grew S (bindsP item l fr S).2 l.length (bindsP item l fr S).1
 | [],S,fr,h => ⟨Nat.le_refl _,by simp [bindsP],h⟩
 | n :: r, S, fr, h => by
   have h1 := Grew.bind h 3 item n
   have h2 := Grew.binds (item := item) r h1.ok
   refine ⟨Nat.le_trans h1.bs h2.bs,?_,h2.ok⟩
   have := h1.sz; have := h2.sz
   simp only [bindsP,List.length_cons]; omega
def GrewN (n : N) : Prop := ∀ (G : Nms) (item : Int) (E : List Frm) (fr : Nms) (lam : Bool) (S : SM),FOk S.bs.length fr → Grew S (nodeP G item n E fr lam S).2 n.size (nodeP G item n E fr lam S).1
theorem grew_kids {ks : List N} (ih : ∀ p ∈ ks,GrewN p) : ∀ (G : Nms) (item : Int) (E : List Frm) (fr : Nms) (lam : Bool) (S : SM),FOk S.bs.length fr → Grew S (kidsP G item ks E fr lam S).2 (N.sizes ks) (kidsP G item ks E fr lam S).1 := by
 induction ks with
 | nil => intro G item E fr lam S h; rw [kidsP_nil]; exact ⟨Nat.le_refl _,by simp,h⟩
 | cons n r ih2 =>
   intro G item E fr lam S h
   have h1 := ih n (by simp) G item E fr lam S h
   have h2 := ih2 (fun p hp => ih p (by simp [hp])) G item E _ lam _ h1.ok
   rw [kidsP_cons,N.sizes_cons]
   refine ⟨Nat.le_trans h1.bs h2.bs,?_,h2.ok⟩
   have := h1.sz; have := h2.sz
   omega
theorem grew_closed {ks : List N} (ih : ∀ p ∈ ks,GrewN p) (G : Nms) (item : Int) (E : List Frm) (lam : Bool) (S : SM) : S.bs.length ≤ (sclosedP G item ks E lam S).bs.length ∧ (sclosedP G item ks E lam S).sz ≤ S.sz + 2 * N.sizes ks := by
 by_cases hl : ks.length = 3
 · match ks,hl with
   | [p, q, b], _ =>
     rw [sclosedP_three]
     have h1 := Grew.binds (item := item) p.ks (FOk.nil S.bs.length)
     have h2 := ih b (by simp) G item E _ lam _ h1.ok
     have := h1.sz; have := h2.sz; have := h1.bs; have := h2.bs
     have h3 := N.sizes_len p.ks
     have h4 := N.size_ks p
     simp only [N.sizes_cons,N.sizes_nil]
     omega
 · rw [sclosedP_ne _ _ hl]; omega
theorem grew (n : N) : GrewN n := by
 induction n using N.ind with
 | h k f t w a z ks ih =>
 intro G item E fr lam S h
 rw [nodeP_mk,N.size_mk]
 by_cases h6 : k = 6
 · rw [if_pos h6]
   have h1 := grew_kids ih G item (⟨fr,lam⟩ :: E) [] false S (FOk.nil _)
   have := h1.sz
   exact ⟨h1.bs,by simp only; omega,h.mono h1.bs⟩
 rw [if_neg h6]
 by_cases h7 : k = 7
 · rw [if_pos h7]
   have h1 := grew_kids ih G item E fr lam S h
   have h2 := Grew.bind h1.ok 4 item (.mk k f t w a z ks)
   have := h1.sz; have := h2.sz
   exact ⟨Nat.le_trans h1.bs h2.bs,by omega,h2.ok⟩
 rw [if_neg h7]
 by_cases h8 : k = 8
 · rw [if_pos h8]
   have h1 := grew_kids ih G item E fr lam (S.men (.mk k f t w a z ks) true (findP G w (⟨fr,lam⟩ :: E) 0)) h
   have := h1.sz
   have := SM.men_sz S (.mk k f t w a z ks) true (findP G w (⟨fr,lam⟩ :: E) 0)
   exact ⟨h1.bs,by omega,h1.ok⟩
 rw [if_neg h8]
 by_cases h9 : k = 23
 · rw [if_pos h9]
   have := SM.men_sz S (.mk k f t w a z ks) false (findP G w (⟨fr,lam⟩ :: E) 0)
   exact ⟨Nat.le_refl _,by simp only; omega,h⟩
 rw [if_neg h9]
 by_cases h10 : k = 28
 · rw [if_pos h10]
   have h1 := grew_closed ih G item (⟨fr,lam⟩ :: E) true S
   exact ⟨h1.1,by simp only; omega,h.mono h1.1⟩
 rw [if_neg h10]
 have h1 := grew_kids ih G item E fr lam S h
 have := h1.sz
 exact ⟨h1.bs,by omega,h1.ok⟩
section
section
variable {P : Program} {F : SF} {c : SC} {S S' : SM} {now : A} {item : Int} {G : Nms} {H : Hp}
theorem ChainAt.clr {l : List (Nat × Nat × Frm)} {a : A} (h : ChainAt F H a l) : a.clr H.length = a := by
 rcases h.val with ⟨rfl,-⟩ | ⟨i,m,f,r,-,rfl,hi⟩
 · simp
 · simp [hi]
def muF : A → Nat
 | .ptr i _ => i + 1
 | _ => 0
theorem SHas.find' (hF : SHas P F) (h : SInv F c S now item G H) {E : List (Nat × Nat × Frm)} (hc : ChainAt F H now E) (w : Bs) (hE : E.length ≤ 1099511627776) :
 ACall P F.find [.ptr c.ib 0,.d (.str w)] H (fun r H' => r = .tup [.d (.int .i64 (findP G w (E.map fun x => x.2.2) 0).1),.d (.int .i64 (findP G w (E.map fun x => x.2.2) 0).2)] ∧ H' = H) := by
 obtain ⟨fn,hf,hcf⟩ := hF.find
 refine acall_fin hf hcf (by simp [irScFind]) fun hcl _ => ?_
 have hi := h.i
 have hG := h.g
 have hil := (h.lt).2.2.2.2.1
 have hg := mpGet_nms w
 have hok := mpOk_nms w
 simp [irScFind,hi]
 refine LoopK_of H.length (fun fr H' => H' = H ∧ fr 0 = .ptr c.ib 0 ∧ fr 1 = .d (.str w) ∧ ∃ a E' far,fr 6 = a ∧ ChainAt F H a E' ∧ fr 5 = .d (.int .i64 far) ∧ 0 ≤ far ∧ far + E'.length ≤ 1099511627776 ∧ findP G w (E'.map fun x => x.2.2) far = findP G w (E.map fun x => x.2.2) 0) (fun fr _ => muF (fr 6)) (by simp)
  ⟨cut_self hcl,by simp [hil],by simp,now,E,0,by simpa using hc.clr,hc,by simp,Int.le_refl _,by omega,rfl⟩ ?_
 rintro fr H' ⟨rfl,f0,f1,a,E',far,f6,hch,f5,h0,hle,hfe⟩
 cases E' with
 | nil =>
   simp only [ChainAt] at hch
   subst hch
   rw [← hfe]
   simp only [List.map_nil,findP]
   cases hgg : nmGet w G with
   | none => simp [f0,f1,f5,f6,hi,hG,-mpOk,-mpGet,hok,hg,hgg,RetK,cut_self hcl]
   | some q => simp [f0,f1,f5,f6,hi,hG,-mpOk,-mpGet,hok,hg,hgg,RetK,cut_self hcl]
 | cons x r =>
   obtain ⟨i,m,ff⟩ := x
   obtain ⟨rfl,hlt,up,h1,h2,h3⟩ := hch
   have hu : up.clr H'.length = up := h3.clr
   rw [← hfe]
   simp only [List.map_cons,findP]
   simp only [List.map_cons,findP] at hfe
   cases hgg : nmGet w ff.es with
   | some q => simp [f0,f1,f5,f6,h1,h2,-mpOk,-mpGet,hok,hg,hgg,RetK,cut_self hcl]
   | none =>
     rw [hgg] at hfe
     simp only at hfe
     have hw : IntKind.i64.wrap (far + 1) = far + 1 := wrap_i64 (by omega) (by simp only [List.length_cons] at hle; omega)
     have hm : muF (up.clr H'.length) < muF (.ptr i 0) := by
      rw [hu]
      rcases h3.val with ⟨rfl,-⟩ | ⟨i',m',f',r',rfl,rfl,-⟩
      · simp [muF]
      · have := hlt (i',m',f') (by simp)
        simp [muF] at this ⊢; omega
     cases hlam : ff.lam with
     | true =>
       rw [hlam] at h1 hfe
       simp [f0,f1,f5,f6,h1,h2,-mpOk,-mpGet,hok,hg,hgg,hw]
       refine AgainK_of (by simp) ⟨cut_self hcl,by simp [f0,hil],by simp [f1],up,r,far + 1,by simpa using hu,h3,by simp,by omega,by simp only [List.length_cons] at hle; omega,?_⟩ ?_
       · rfl
       · exact hm
     | false =>
       rw [hlam] at h1 hfe
       simp [f0,f1,f5,f6,h1,h2,-mpOk,-mpGet,hok,hg,hgg]
       refine AgainK_of (by simp) ⟨cut_self hcl,by simp [f0,hil],by simp [f1],up,r,far,by simpa using hu,h3,by simp [f5],by omega,by simp only [List.length_cons] at hle; omega,?_⟩ ?_
       · rfl
       · exact hm
theorem SHas.mention' (hF : SHas P F) (h : SInv F c S now item G H) {E : List (Nat × Nat × Frm)} (hc : ChainAt F H now E) (n : N) (wr : Bool) (hE : E.length ≤ 1099511627776) (hb : S.sz ≤ 2199023255552) (hG : FOk S.bs.length G) (hO : ∀ x ∈ E,FOk S.bs.length x.2.2.es) :
 ACall P F.mention [.ptr c.ib 0,n.v,.d (.bool wr)] H (fun r H' => r = .tup [] ∧ H' = sput F c (S.men n wr (findP G n.w (E.map fun x => x.2.2) 0)) H) := by
 obtain ⟨fn,hf,hcf⟩ := hF.mention
 refine acall_fin hf hcf (by simp [irScMention]) fun hcl _ => ?_
 obtain ⟨k,f,t,w,a,z,ks⟩ := n
 rw [N.v_mk]
 obtain ⟨p1,p2,p3,p4,p5,p6⟩ := h.lt
 obtain ⟨na,nb,nd,ne,nf⟩ := h.nd
 obtain ⟨bx,hbx⟩ : ∃ bx,bx = Ob.box F.tn [.d (.int .i64 k),.d (.int .i64 f),.d (.int .i64 t),.d (.str w),.d (.int .i64 a),.d (.sl z 6 (ks.map N.enc))] := ⟨_,rfl⟩
 have hfit : (S.ms.length + 1) * 32 ≤ 140737488355328 := by unfold SM.sz at hb; omega
 have gf := hF.find' (h.app [bx]) (hc.app [bx]) w hE
 have hok := findP_ok hG w (E.map fun x => x.2.2) 0 (fun f hf => by
  obtain ⟨x,hx,rfl⟩ := List.mem_map.1 hf
  exact hO x hx) (Int.le_refl _)
 have hmen : S.men (.mk k f t w a z ks) wr (findP G w (E.map fun x => x.2.2) 0) = ⟨S.bs,S.ms ++ [⟨a,(findP G w (E.map fun x => x.2.2) 0).1,wr,(findP G w (E.map fun x => x.2.2) 0).2⟩],if (findP G w (E.map fun x => x.2.2) 0).1 < 0 then S.bad ++ [(a,30)] else if wr ∧ (S.bs.getD (findP G w (E.map fun x => x.2.2) 0).1.toNat default).k < 3 then S.bad ++ [(a,35)] else S.bad⟩ := rfl
 rw [show N.w (.mk k f t w a z ks) = w from rfl,hmen]
 generalize findP G w (E.map fun x => x.2.2) 0 = p at gf hok ⊢
 obtain ⟨to,far⟩ := p
 obtain ⟨hto,hf0,hf1⟩ := hok
 simp only at hto hf0 hf1 ⊢
 have key : ∀ (bad : List (Int × Int)) (W : Hp),W = sput F c ⟨S.bs,S.ms,bad⟩ H ++ [bx] →
  W[H.length]? = some bx ∧ W[c.ib]? = some (.box F.tb [.ptr c.im 0,now,.map c.g,.d (.int .i64 item)]) ∧ W[c.im]? = some (mbox F c ⟨S.bs,S.ms,bad⟩) ∧ W[c.tm]? = some (.tok S.ms.length 4 F.mn) ∧ (∀ o,(W.set c.tm o)[c.im]? = some (mbox F c ⟨S.bs,S.ms,bad⟩)) ∧ H.length ≤ W.length ∧
  Hp.cut H.length ((W.set c.tm (.tok (S.ms.length + 1) 4 F.mn)).set c.im (mbox F c ⟨S.bs,S.ms ++ [⟨a,to,wr,far⟩],bad⟩)) = sput F c ⟨S.bs,S.ms ++ [⟨a,to,wr,far⟩],bad⟩ H := by
  rintro bad W rfl
  have hs1 := h.put ⟨S.bs,S.ms,bad⟩
  have hs2 := hs1.app [bx]
  have hl : H.length = (sput F c ⟨S.bs,S.ms,bad⟩ H).length := sput_len.symm
  refine ⟨by rw [hl]; simp,hs2.i,hs2.m,hs2.e,fun o => by rw [List.getElem?_set_ne na.2.1.symm]; exact hs2.m,by simp [sput_len],?_⟩
  have hsb := sput_ms hs1 (S.ms ++ [⟨a,to,wr,far⟩])
  rw [sput_sput] at hsb
  have hX : ((sput F c ⟨S.bs,S.ms,bad⟩ H ++ [bx]).set c.tm (.tok (S.ms.length + 1) 4 F.mn)).set c.im (mbox F c ⟨S.bs,S.ms ++ [⟨a,to,wr,far⟩],bad⟩) = sput F c ⟨S.bs,S.ms ++ [⟨a,to,wr,far⟩],bad⟩ H ++ [bx] := by
   rw [hsb,List.set_append_left _ _ (by rw [sput_len]; exact p3),List.set_append_left _ _ (by rw [List.length_set,sput_len]; exact p1)]
   simp
  rw [hX]
  exact sput_cutX h hcl [bx]
 have hh := h.app [bx]
 have e1 := hh.i
 have e2 := hh.m
 have e3 : (H ++ [bx])[H.length]? = some bx := by simp
 have hW0 : H ++ [bx] = sput F c ⟨S.bs,S.ms,S.bad⟩ H ++ [bx] := by rw [sput_self h]
 simp only [mbox] at e2
 by_cases hneg : to < 0
 · have gw := hF.wrong' hh a 30 (by omega)
   rw [sput_app h] at gw
   obtain ⟨q1,q2,q3,q4,q5,q6,q7⟩ := key (S.bad ++ [(a,30)]) _ rfl
   simp only [mbox] at q3 q5 q7
   have hbx' := hbx
   subst hbx
   simp [irScMention]
   refine CallK_of' gf ?_
   generalize H ++ _ = W0 at gw e1 e2 e3 ⊢
   simp [hneg,e3]
   refine CallK_of' gw ?_
   generalize sput F c ⟨S.bs,S.ms,S.bad ++ [(a,30)]⟩ H ++ _ = W at q1 q2 q3 q4 q5 q6 q7 ⊢
   simp [q1,q2,q3,q4,q5,hfit,appA]
   simp [RetK,q6]
   simp [encMn,hneg] at q7 ⊢
   exact q7
 · obtain ⟨i,rfl⟩ : ∃ i : Nat,to = (i : Int) := ⟨to.toNat,by omega⟩
   have hil : i < S.bs.length := by omega
   have hr := rowAt_map encBd hil
   have hgd : S.bs.getD i default = S.bs[i] := by simp [List.getD_eq_getElem?_getD,hil]
   have hneg' : ¬ ((i : Int) < 0) := hneg
   rw [Int.toNat_natCast,hgd]
   generalize S.bs[i] = b at hr ⊢
   obtain ⟨ba,bk,bw,bi⟩ := b
   simp only [encBd] at hr
   simp only
   rw [if_neg hneg']
   by_cases hset : wr = true ∧ bk < 3
   · rw [if_pos hset]
     have gw := hF.wrong' hh a 35 (by omega)
     rw [sput_app h] at gw
     obtain ⟨q1,q2,q3,q4,q5,q6,q7⟩ := key (S.bad ++ [(a,35)]) _ rfl
     simp only [mbox] at q3 q5 q7
     obtain ⟨rfl,hk⟩ := hset
     subst hbx
     simp [irScMention]
     refine CallK_of' gf ?_
     generalize H ++ _ = W0 at gw e1 e2 e3 ⊢
     simp [hneg',e3,e1,e2,hr,hk]
     refine CallK_of' gw ?_
     generalize sput F c ⟨S.bs,S.ms,S.bad ++ [(a,35)]⟩ H ++ _ = W at q1 q2 q3 q4 q5 q6 q7 ⊢
     simp [q1,q2,q3,q4,q5,hfit,appA]
     simp [RetK,q6]
     simp [encMn] at q7 ⊢
     exact q7
   · rw [if_neg hset]
     obtain ⟨q1,q2,q3,q4,q5,q6,q7⟩ := key S.bad _ hW0
     simp only [mbox] at q3 q5 q7
     subst hbx
     simp [irScMention]
     refine CallK_of' gf ?_
     generalize H ++ _ = W at q1 q2 q3 q4 q5 q6 q7 ⊢
     cases wr with
     | false =>
       simp [hneg',q1,q2,q3,q4,q5,hfit,appA]
       simp [RetK,q6]
       simp [encMn] at q7 ⊢
       exact q7
     | true =>
       have hk : ¬ bk < 3 := fun hk => hset ⟨rfl,hk⟩
       simp [hneg',q1,q2,q3,q4,q5,hr,hk,hfit,appA]
       simp [RetK,q6]
       simp [encMn] at q7 ⊢
       exact q7
end
end
section
def scW0 (tp : TypeId) : C := .ops [⟨(some 3),none,.box tp 1 (.t 0)⟩] false
def scW1 (tfp : TypeId) : C := .ops [
    ⟨(some 7),none,.load 1 false (.t 3)⟩,
    ⟨(some 8),none,.nilCheck (.t 7)⟩,
    ⟨(some 9),none,.faddr 1 (.t 8)⟩,
    ⟨(some 10),none,.load 1 false (.t 9)⟩,
    ⟨(some 6),none,.alloc tfp [.nilp]⟩,
    ⟨none,none,.store 1 (.t 6) (.t 10)⟩] false
def scWl (res : FuncId) : List IOp := [⟨(some 11),none,.mkfn (.func res) [] [(.t 6),(.t 3)]⟩]
def scW2 (tf : TypeId) : C := .seq (.ops [
    ⟨(some 12),none,.load 1 false (.t 3)⟩,
    ⟨(some 13),none,.mkMap⟩,
    ⟨(some 14),none,.mv (.t 1)⟩,
    ⟨(some 15),none,.load 1 false (.t 6)⟩,
    ⟨(some 16),none,.build [.nilm,(.bool false),.nilp] [(0,1,(.t 13)),(1,1,(.t 14)),(2,1,(.t 15))]⟩,
    ⟨(some 17),none,.box tf 3 (.t 16)⟩,
    ⟨(some 18),none,.nilCheck (.t 12)⟩,
    ⟨(some 19),none,.faddr 1 (.t 18)⟩,
    ⟨none,none,.store 1 (.t 19) (.t 17)⟩] false)
 (.ops [
  ⟨(some 20),none,.mv (.t 2)⟩,
  ⟨(some 21),none,.callv (.t 20) []⟩] false)
def HasW (P : Program) (F : SF) : Prop := ∃ fn,P.funcs[F.within]? = some fn ∧ deferF P [] fn = some (22,scW0 F.tp,scW1 F.tfp,scWl F.res,11,scW2 F.tf)
structure OInv (F : SF) (c : SC) (S : SM) (now : A) (item : Int) (G : Nms) (E : List (Nat × Nat × Frm)) (H : Hp) : Prop where
 s : SInv F c S now item G H
 ch : ChainAt F H now E
 off : ∀ x ∈ E,(c.off x.1 ∧ x.1 ≠ c.ib ∧ x.1 ≠ c.g) ∧ (c.off x.2.1 ∧ x.2.1 ≠ c.ib ∧ x.2.1 ≠ c.g)
section
variable {P : Program} {F : SF} {c : SC} {S S' : SM} {now : A} {item : Int} {G : Nms} {H : Hp} {E : List (Nat × Nat × Frm)}
theorem NInv.o {i m : Nat} {fr : Nms} {lam : Bool} (h : NInv F c S item G i m fr lam E H) : OInv F c S (.ptr i 0) item G ((i,m,⟨fr,lam⟩) :: E) H := ⟨h.s,h.ch,h.off⟩
theorem OInv.app (h : OInv F c S now item G E H) (X : Hp) : OInv F c S now item G E (H ++ X) := ⟨h.s.app X,h.ch.app X,h.off⟩
theorem sput_appL (h : SInv F c S now item G H) {H' : Hp} (hl : H'.length = H.length) (X : Hp) : sput F c S' (H' ++ X) = sput F c S' H' ++ X := by
 obtain ⟨a,b,d,e,-⟩ := h.lt
 unfold sput
 rw [List.set_append_left _ _ (by omega),List.set_append_left _ _ (by simp; omega),List.set_append_left _ _ (by simp; omega),List.set_append_left _ _ (by simp; omega)]
def inScope (F : SF) (c : SC) (now : A) (item : Int) (lam : Bool) (H : Hp) : Hp :=
 (H.set c.ib (.box F.tb [.ptr c.im 0,.ptr (H.length + 3) 0,.map c.g,.d (.int .i64 item)])) ++ [.box F.tp [.ptr c.ib 0],.box F.tfp [now],.mp [],.box F.tf [.map (H.length + 2),.d (.bool lam),now]]
theorem inScope_get {j : Nat} {o : Ob} (hj : H[j]? = some o) (h : j ≠ c.ib) (item : Int) (lam : Bool) : (inScope F c now item lam H)[j]? = some o := by
 unfold inScope
 exact get_app (by rw [List.getElem?_set_ne (Ne.symm h)]; exact hj) _
theorem inScope_at {lam : Bool} (k : Nat) : (inScope F c now item lam H)[H.length + k]? = ([.box F.tp [.ptr c.ib 0],.box F.tfp [now],.mp [],.box F.tf [.map (H.length + 2),.d (.bool lam),now]] : Hp)[k]? := by
 unfold inScope
 rw [List.getElem?_append_right (by simp)]
 simp
theorem OInv.inner (h : OInv F c S now item G E H) (lam : Bool) : NInv F c S item G (H.length + 3) (H.length + 2) [] lam E (inScope F c now item lam H) := by
 obtain ⟨p1,p2,p3,p4,p5,p6⟩ := h.s.lt
 obtain ⟨na,nb,nd,ne,nf⟩ := h.s.nd
 have hlt := h.ch.lt
 refine ⟨⟨inScope_get h.s.m na.2.2.2.1 _ _,inScope_get h.s.b nb.2.2.1 _ _,inScope_get h.s.e nd.2.1 _ _,inScope_get h.s.v ne.1 _ _,?_,inScope_get h.s.g nf.symm _ _,h.s.nd⟩,?_,fun x hx => ?_,by omega,fun x hx => ?_⟩
 · unfold inScope
   exact get_app (by rw [List.getElem?_set_self p5]) _
 · refine ⟨rfl,fun x hx => by have := (hlt x hx).1; omega,now,inScope_at 3,inScope_at 2,h.ch.keep fun x hx => ?_⟩
   have h1 := h.off x hx
   have h2 := hlt x hx
   exact ⟨by rw [List.getElem?_eq_getElem h2.1]; exact inScope_get (List.getElem?_eq_getElem h2.1) h1.1.2.1 _ _,by rw [List.getElem?_eq_getElem h2.2]; exact inScope_get (List.getElem?_eq_getElem h2.2) h1.2.2.1 _ _⟩
 · rcases List.mem_cons.1 hx with rfl | hx
   · refine ⟨⟨⟨?_,?_,?_,?_⟩,?_,?_⟩,⟨⟨?_,?_,?_,?_⟩,?_,?_⟩⟩ <;> simp only <;> omega
   · exact h.off x hx
 · have := hlt x hx
   omega
theorem SHas.within' (hF : SHas P F) (hW : HasW P F) (h : OInv F c S now item G E H) (lam : Bool) {g : FuncId} {cap : List A} (hg : callOk P g = true) {es : Nms}
 (hdo : ACall P g cap (inScope F c now item lam H) (fun r H2 => r = .tup [] ∧ H2 = nput F c S' (H.length + 2) es (inScope F c now item lam H))) :
 ACall P F.within [.ptr c.ib 0,.d (.bool lam),.fn (.func g) [] cap] H (fun r H' => r = .tup [] ∧ H' = sput F c S' H) := by
 obtain ⟨fn,hf,hd⟩ := hW
 refine acall_deferF hf hd (by simp) fun hcl => ?_
 have hi := h.s.i
 have hA := get_app hi
 obtain ⟨p1,p2,p3,p4,p5,p6⟩ := h.s.lt
 simp only [scW0,scW1,scWl,scW2]
 simp [hA]
 refine fun _ => ?_
 have hnow : (now = .d .nilp ∧ E = []) ∨ ∃ i m f r,E = (i,m,f) :: r ∧ now = .ptr i 0 ∧ i < H.length := h.ch.val
 have hflat : now = .d .nilp ∨ ∃ k,now = .ptr k 0 := by
  rcases hnow with ⟨h1,-⟩ | ⟨i,-,-,-,-,h1,-⟩
  · exact .inl h1
  · exact .inr ⟨i,h1⟩
 have step : ∀ X : Hp,Hp.cut H.length ((nput F c S' (H.length + 2) es (inScope F c now item lam H)).set c.ib (.box F.tb [.ptr c.im 0,now,.map c.g,.d (.int .i64 item)])) = sput F c S' H := fun _ => by
  unfold nput inScope
  rw [sput_appL h.s (by simp),List.set_append_right _ _ (by rw [sput_len,List.length_set]; omega),List.set_append_left _ _ (by rw [sput_len,List.length_set]; exact p5),sput_set h.s.offI,List.set_set,Hp.set_self (by rw [sput_off h.s.offI]; exact hi)]
  exact sput_cutX h.s hcl _
 have hN := (h.inner lam).nput S' es
 have q1 : (nput F c S' (H.length + 2) es (inScope F c now item lam H))[H.length + 1]? = some (.box F.tfp [now]) := by
  unfold nput
  rw [List.getElem?_set_ne (by omega),sput_off ⟨by omega,by omega,by omega,by omega⟩]; exact inScope_at 1
 have q2 : (nput F c S' (H.length + 2) es (inScope F c now item lam H))[H.length]? = some (.box F.tp [.ptr c.ib 0]) := by
  unfold nput
  rw [List.getElem?_set_ne (by omega),sput_off ⟨by omega,by omega,by omega,by omega⟩]; exact inScope_at 0
 have q3 := hN.s.i
 have hres := hF.res' q1 q2 q3 hflat
 have hlen : H.length ≤ (nput F c S' (H.length + 2) es (inScope F c now item lam H)).length := by rw [nput_len]; simp [inScope]
 have hst := step []
 unfold inScope at hdo hres hst hlen
 have hB : ∀ X,(H ++ X).set c.ib (.box F.tb [.ptr c.im 0,.ptr (H.length + 3) 0,.map c.g,.d (.int .i64 item)]) = H.set c.ib (.box F.tb [.ptr c.im 0,.ptr (H.length + 3) 0,.map c.g,.d (.int .i64 item)]) ++ X := fun X => List.set_append_left _ _ p5
 rcases hflat with rfl | ⟨k,rfl⟩
 all_goals
  simp
  refine ⟨_,_,⟨rfl,rfl⟩,hF.kRes,fun _ => ?_⟩
  simp [hA,hB]
  refine ⟨hg,CallK_of' hdo ?_⟩
  simp
  intro κ w vs hr hl hv
  refine (hres κ w vs hr hl hv).mono ?_
  rintro e u w' ⟨h1,v,κ',H',h2,h3,h4,rfl⟩
  exact ⟨h1,v,κ',_,h2,h3,h4,H.length,Nat.le_refl _,by simpa using hlen,hst⟩
theorem sput_appO (h : OInv F c S now item G E H) (X : Hp) : sput F c S' (H ++ X) = sput F c S' H ++ X := sput_app h.s X
def NodeOk (P : Program) (F : SF) (n : N) : Prop := ∀ (c : SC) (S : SM) (item : Int) (G : Nms) (i m : Nat) (fr : Nms) (lam : Bool) (E : List (Nat × Nat × Frm)) (H : Hp),NInv F c S item G i m fr lam E H → FOk S.bs.length G → FOk S.bs.length fr → (∀ x ∈ E,FOk S.bs.length x.2.2.es) →
 S.sz + 2 * n.size ≤ 2199023255552 → E.length + n.size ≤ 1099511627775 → ACall P F.node [.ptr c.ib 0,n.v] H (fun r H' => r = .tup [] ∧ H' = nput F c (nodeP G item n (E.map fun x => x.2.2) fr lam S).2 m (nodeP G item n (E.map fun x => x.2.2) fr lam S).1 H)
theorem kidsP_snoc (G : Nms) (item : Int) (x : N) (E : List Frm) (lam : Bool) : ∀ (l : List N) (fr : Nms) (S : SM),kidsP G item (l ++ [x]) E fr lam S = nodeP G item x E (kidsP G item l E fr lam S).1 lam (kidsP G item l E fr lam S).2
 | [],fr,S => by rw [List.nil_append,kidsP_cons,kidsP_nil,kidsP_nil]
 | y :: r,fr,S => by rw [List.cons_append,kidsP_cons,kidsP_snoc G item x E lam r,kidsP_cons]
theorem bindsP_snoc (item : Int) (x : N) : ∀ (l : List N) (fr : Nms) (S : SM),bindsP item (l ++ [x]) fr S = bindP 3 item x (bindsP item l fr S).1 (bindsP item l fr S).2
 | [],fr,S => rfl
 | y :: r,fr,S => by rw [List.cons_append,bindsP,bindsP_snoc item x r]; rfl
theorem SHas.kids' (hF : SHas P F) {k f t : Int} {w : Bs} {a : Int} {z : Bool} {ks : List N} (ih : ∀ p ∈ ks,NodeOk P F p) {i m : Nat} {fr : Nms} {lam : Bool} (h : NInv F c S item G i m fr lam E H) (hG : FOk S.bs.length G) (hfr : FOk S.bs.length fr) (hE : ∀ x ∈ E,FOk S.bs.length x.2.2.es)
 (hb : S.sz + 2 * N.sizes ks ≤ 2199023255552) (hl : E.length + N.sizes ks ≤ 1099511627775) :
 ACall P F.kids [.ptr c.ib 0,N.v (.mk k f t w a z ks)] H (fun r H' => r = .tup [] ∧ H' = nput F c (kidsP G item ks (E.map fun x => x.2.2) fr lam S).2 m (kidsP G item ks (E.map fun x => x.2.2) fr lam S).1 H) := by
 obtain ⟨fn,hf,hcf⟩ := hF.kids
 refine acall_fin hf hcf (by simp [irScKids]) fun hcl _ => ?_
 rw [N.v_mk]
 have hib := h.s.lt.2.2.2.2.1
 have hsl := N.sizes_len ks
 obtain ⟨bx,hbx⟩ : ∃ bx,bx = Ob.box F.tn [.d (.int .i64 k),.d (.int .i64 f),.d (.int .i64 t),.d (.str w),.d (.int .i64 a),.d (.sl z 6 (ks.map N.enc))] := ⟨_,rfl⟩
 have hbc : bx.clr (H.length + 1) = bx := by subst hbx; simp
 have hcut1 : ∀ S' fr' X,Hp.cut (H.length + 1) (nput F c S' m fr' H ++ bx :: X) = nput F c S' m fr' H ++ [bx] := fun S' fr' X => by
  have e : nput F c S' m fr' H ++ bx :: X = (nput F c S' m fr' (H ++ [bx])) ++ X := by rw [nput_app h]; simp
  have hcl1 : Hp.Closed (H ++ [bx]) := Closed.snoc hcl fun n hn => by subst hbx; simp
  have := nput_cutX (S' := S') (fr' := fr') (h.app [bx]) hcl1 X
  rw [List.length_append,List.length_singleton] at this
  rw [e,this,nput_app h]
 have hcut0 : Hp.cut (H.length + 1) (H ++ [bx]) = H ++ [bx] := by
  have := hcut1 S fr []
  rw [nput_self h] at this
  exact this
 simp [irScKids]
 rw [← hbx]
 refine LoopK_out 0 (fun fr' H' => H' = nput F c (kidsP G item ks (E.map fun x => x.2.2) fr lam S).2 m (kidsP G item ks (E.map fun x => x.2.2) fr lam S).1 H ++ [bx]) ?_ ?_
 · refine RangeK_of (H.length + 1) ks.length (fun j fr' H' => fr' 0 = .ptr c.ib 0 ∧ fr' 7 = .d (.sl z 6 (ks.map N.enc)) ∧ H' = nput F c (kidsP G item (ks.take j) (E.map fun x => x.2.2) fr lam S).2 m (kidsP G item (ks.take j) (E.map fun x => x.2.2) fr lam S).1 H ++ [bx]) (by omega) (by decide) (by simp) (by simp) ?_ ?_ ?_
   · rw [List.take_zero,kidsP_nil,nput_self h]
     simp [hcut0]; omega
   · rintro j fr' H' hj f9 f8 ⟨f0,f7,rfl⟩
     have hr := rowAt_map N.enc hj
     have hm := List.getElem_mem hj
     have hsz : N.sizes (ks.take j) + (ks[j]).size ≤ N.sizes ks := by
      have : ks = ks.take j ++ ks[j] :: ks.drop (j + 1) := by rw [List.getElem_cons_drop]; simp
      have e : N.sizes ks = N.sizes (ks.take j) + (ks[j].size + N.sizes (ks.drop (j + 1))) := by conv => lhs; rw [this,N.sizes_app,N.sizes_cons]
      omega
     have hgr := grew_kids (fun p _ => grew p) (ks := ks.take j) G item (E.map fun x => x.2.2) fr lam S hfr
     have hn1 := h.nput (kidsP G item (ks.take j) (E.map fun x => x.2.2) fr lam S).2 (kidsP G item (ks.take j) (E.map fun x => x.2.2) fr lam S).1
     have hstep : kidsP G item (ks.take (j + 1)) (E.map fun x => x.2.2) fr lam S = nodeP G item ks[j] (E.map fun x => x.2.2) (kidsP G item (ks.take j) (E.map fun x => x.2.2) fr lam S).1 lam (kidsP G item (ks.take j) (E.map fun x => x.2.2) fr lam S).2 := by
      rw [List.take_succ_eq_append_getElem hj,kidsP_snoc]
     have ihj := ih _ hm
     generalize ks[j] = x at hr hsz ihj hstep
     obtain ⟨g1,g2,g3⟩ := hgr
     generalize kidsP G item (ks.take j) (E.map fun x => x.2.2) fr lam S = KP at g1 g2 g3 hn1 hstep ⊢
     obtain ⟨fr1,S1⟩ := KP
     simp only at g1 g2 g3 hn1 hstep ⊢
     have hlen : H.length = (nput F c S1 m fr1 H).length := nput_len.symm
     have ihc := fun X => ihj c S1 item G i m fr1 lam E _ (hn1.app (bx :: X)) (hG.mono g1) g3 (fun x hx => (hE x hx).mono g1) (by omega) (by omega)
     obtain ⟨k2,f2,t2,w2,a2,z2,ks2⟩ := x
     rw [N.enc_mk] at hr
     rw [N.v_mk] at ihc
     have hk : ∀ X Y,(nput F c S1 m fr1 H ++ bx :: X) ++ Y = nput F c S1 m fr1 H ++ bx :: (X ++ Y) := fun X Y => by simp
     have hlb : (nput F c S1 m fr1 H ++ [bx]).length = H.length + 1 := by simp [nput_len]
     simp [f9,f7,hr,f0]
     rw [show nput F c S1 m fr1 H ++ [bx,Ob.box F.tn [.d (.int .i64 k2),.d (.int .i64 f2),.d (.int .i64 t2),.d (.str w2),.d (.int .i64 a2),.d (.sl z2 6 (ks2.map N.enc))]] = nput F c S1 m fr1 H ++ bx :: [Ob.box F.tn [.d (.int .i64 k2),.d (.int .i64 f2),.d (.int .i64 t2),.d (.str w2),.d (.int .i64 a2),.d (.sl z2 6 (ks2.map N.enc))]] from rfl]
     refine CallK_of' (ihc _) ?_
     rw [nput_app hn1,nput_nput h.offM.1]
     simp
     refine NextK_of (H.length + 1) (Nat.le_refl _) (by simp [f9,f8,nput_len]) ?_
     simp [f0,f7,hstep,hcut1]; omega
   · rintro fr' H' f9 f8 ⟨f0,f7,rfl⟩
     rw [List.take_of_length_le (Nat.le_refl _)]
     simp
 · rintro fr' H' rfl
   simp
   simp [RetK,nput_len,nput_cutX h hcl]
end
end
section
section
variable {P : Program} {F : SF} {c : SC} {S S' : SM} {now : A} {item : Int} {G : Nms} {H : Hp} {E : List (Nat × Nat × Frm)}
theorem SHas.closedC' (hF : SHas P F) {p q b : N} {z : Bool} (ih : NodeOk P F b) {i m : Nat} {lam : Bool} (h : NInv F c S item G i m [] lam E H) (hG : FOk S.bs.length G) (hE : ∀ x ∈ E,FOk S.bs.length x.2.2.es)
 (hb : S.sz + 2 * N.sizes [p,q,b] ≤ 2199023255552) (hl : E.length + N.sizes [p,q,b] ≤ 1099511627775) {al ab : Nat} (h1 : H[al]? = some (.box F.ts [.d (.sl z 6 ([p,q,b].map N.enc))])) (h2 : H[ab]? = some (.box F.tp [.ptr c.ib 0])) (hoa : (c.off al ∧ al ≠ m) ∧ (c.off ab ∧ ab ≠ m)) :
 ACall P F.closedC [.ptr al 0,.ptr ab 0] H (fun r H' => r = .tup [] ∧ H' = nput F c (nodeP G item b (E.map fun x => x.2.2) (bindsP item p.ks [] S).1 lam (bindsP item p.ks [] S).2).2 m (nodeP G item b (E.map fun x => x.2.2) (bindsP item p.ks [] S).1 lam (bindsP item p.ks [] S).2).1 H) := by
 obtain ⟨fn,hf,hcf⟩ := hF.closedC
 refine acall_fin hf hcf (by simp [irScClosedC]) fun hcl _ => ?_
 have hal := scan_len h1
 have hab := scan_len h2
 have hps : p.ks.length + b.size + 1 ≤ N.sizes [p,q,b] := by
  simp only [N.sizes_cons,N.sizes_nil]
  have := N.sizes_len p.ks
  have := N.size_ks p
  omega
 have hr0 : Zam.rowAt ([p,q,b].map N.enc) 0 = some p.enc := rfl
 have hr2 : Zam.rowAt ([p,q,b].map N.enc) 2 = some b.enc := rfl
 simp only [List.map_cons,List.map_nil] at h1 hr0 hr2
 have hbe : b.v = .agg (b.enc.map .d) := rfl
 have hgr0 := Grew.binds (item := item) p.ks (FOk.nil S.bs.length)
 have hn0 := h.nput (bindsP item p.ks [] S).2 (bindsP item p.ks [] S).1
 have ihb := ih c (bindsP item p.ks [] S).2 item G i m (bindsP item p.ks [] S).1 lam E _ hn0 (hG.mono hgr0.bs) hgr0.ok (fun x hx => (hE x hx).mono hgr0.bs) (by have := hgr0.sz; omega) (by omega)
 rw [nput_nput h.offM.1] at ihb
 have hat : ∀ S' fr' X,(nput F c S' m fr' H ++ X)[al]? = some (.box F.ts [.d (.sl z 6 [p.enc,q.enc,b.enc])]) ∧ (nput F c S' m fr' H ++ X)[ab]? = some (.box F.tp [.ptr c.ib 0]) := fun S' fr' X => by
  refine ⟨get_app ?_ X,get_app ?_ X⟩
  · unfold nput; rw [List.getElem?_set_ne (Ne.symm hoa.1.2),sput_off hoa.1.1]; exact h1
  · unfold nput; rw [List.getElem?_set_ne (Ne.symm hoa.2.2),sput_off hoa.2.1]; exact h2
 have hat0 : ∀ S' fr',(nput F c S' m fr' H)[al]? = some (.box F.ts [.d (.sl z 6 [p.enc,q.enc,b.enc])]) ∧ (nput F c S' m fr' H)[ab]? = some (.box F.tp [.ptr c.ib 0]) := fun S' fr' => by
  have := hat S' fr' []
  rwa [List.append_nil] at this
 have hbs : b.enc.length = 6 := by cases b; rw [N.enc_mk]; rfl
 obtain ⟨pk,pf,pt,pw,pa,pz,pks⟩ := p
 rw [N.enc_mk] at h1 hr0 hr2
 simp only [N.enc_mk] at hat hat0
 simp only [N.ks] at hgr0 hn0 ihb hps ⊢
 generalize hres : nodeP G item b (E.map fun x => x.2.2) (bindsP item pks [] S).1 lam (bindsP item pks [] S).2 = R at ihb ⊢
 simp [irScClosedC,h1,hr0]
 refine LoopK_out 0 (fun fr' H' => fr' 0 = .ptr al 0 ∧ fr' 1 = .ptr ab 0 ∧ H' = nput F c (bindsP item pks [] S).2 m (bindsP item pks [] S).1 H) ?_ ?_
 · refine RangeK_of H.length pks.length (fun j fr' H' => fr' 0 = .ptr al 0 ∧ fr' 1 = .ptr ab 0 ∧ fr' 7 = .d (.sl pz 6 (pks.map N.enc)) ∧ H' = nput F c (bindsP item (pks.take j) [] S).2 m (bindsP item (pks.take j) [] S).1 H) (by omega) (by decide) (by simp) (by simp) ?_ ?_ ?_
   · rw [List.take_zero,bindsP,nput_self h]
     simp [cut_self hcl,hal,hab]
   · rintro j fr' H' hj f9 f8 ⟨f0,f1,f7,rfl⟩
     have hr := rowAt_map N.enc hj
     have hgr := Grew.binds (item := item) (pks.take j) (FOk.nil S.bs.length)
     have hn1 := h.nput (bindsP item (pks.take j) [] S).2 (bindsP item (pks.take j) [] S).1
     have hstep : bindsP item (pks.take (j + 1)) [] S = bindP 3 item pks[j] (bindsP item (pks.take j) [] S).1 (bindsP item (pks.take j) [] S).2 := by
      rw [List.take_succ_eq_append_getElem hj,bindsP_snoc]
     have hll : (pks.take j).length ≤ pks.length := by simp; omega
     obtain ⟨ga,gb⟩ := hat0 (bindsP item (pks.take j) [] S).2 (bindsP item (pks.take j) [] S).1
     have gA := fun X => (hat (bindsP item (pks.take j) [] S).2 (bindsP item (pks.take j) [] S).1 X).2
     generalize pks[j] = x at hr hstep
     obtain ⟨g1,g2,g3⟩ := hgr
     generalize bindsP item (pks.take j) [] S = KP at g1 g2 g3 hn1 hstep ga gb gA ⊢
     obtain ⟨fr1,S1⟩ := KP
     simp only at g1 g2 g3 hn1 hstep ga gb gA ⊢
     have gbind := fun X => hF.bind' (hn1.s.app X) (get_app hn1.mp X) ⟨h.offM.1,h.offM.2.1⟩ x 3 (by omega)
     have hi1 := fun X => (hn1.s.app X).i
     obtain ⟨c1,c2,up,c3,c4,c5⟩ := hn1.ch
     have hc3 := get_app c3
     obtain ⟨k2,f2,t2,w2,a2,z2,ks2⟩ := x
     rw [N.enc_mk] at hr
     rw [N.v_mk] at gbind
     have hlen : H.length = (nput F c S1 m fr1 H).length := nput_len.symm
     have hlast : ∀ bx : Ob,(nput F c S1 m fr1 H ++ [bx])[H.length]? = some bx := fun bx => by rw [hlen]; simp
     have hpush : ∀ bx : Ob,(nput F c S1 m fr1 H).length = H.length := fun _ => nput_len
     simp [f9,f7,hr,f0,f1,nput_len]
     generalize hX : Ob.box F.tn [.d (.int .i64 k2),.d (.int .i64 f2),.d (.int .i64 t2),.d (.str w2),.d (.int .i64 a2),.d (.sl z2 6 (ks2.map N.enc))] = bx
     have hs0 : (nput F c S1 m fr1 H ++ [Ob.box F.tn [.d (.int .i64 0),.d (.int .i64 0),.d (.int .i64 0),.d (.str []),.d (.int .i64 0),.d (.sl true 6 [])]]).set H.length bx = nput F c S1 m fr1 H ++ [bx] := by rw [hlen,set_app0]; simp
     have gb1 := gbind [bx]
     rw [nput_app hn1,nput_nput h.offM.1] at gb1
     have w1 := gA [bx]
     have w2' := hi1 [bx]
     have w3 := hc3 [bx]
     have w4 := hlast bx
     have wl : (nput F c S1 m fr1 H ++ [bx]).length = H.length + 1 := by simp [nput_len]
     generalize nput F c S1 m fr1 H ++ [bx] = W at gb1 w1 w2' w3 w4 wl ⊢
     subst hX
     simp [f1,w1,w2',w3,w4]
     refine CallE_of gb1 ?_
     simp
     refine NextK_of H.length (Nat.le_refl _) (by simp [f9,f8,nput_len]) ?_
     simp [f0,f1,f7,hal,hab,hstep,nput_cutX h hcl]
   · rintro fr' H' f9 f8 ⟨f0,f1,f7,rfl⟩
     rw [List.take_of_length_le (Nat.le_refl _)]
     simp [f0,f1]
 · rintro fr' H' ⟨f0,f1,rfl⟩
   obtain ⟨ga,gb⟩ := hat0 (bindsP item pks [] S).2 (bindsP item pks [] S).1
   generalize nput F c (bindsP item pks [] S).2 m (bindsP item pks [] S).1 H = W at ihb ga gb
   simp [f0,f1,ga,gb,hr2]
   have hbv : (A.agg (b.enc.map .d)) = b.v := rfl
   rw [← hbv] at ihb
   obtain ⟨bk,bf,bt,bw,ba,bz,bks⟩ := b
   simp only [N.enc_mk] at ihb ⊢
   simp at ihb ⊢
   refine CallE_of ihb ?_
   simp
   simp [RetK,nput_len,nput_cut h hcl]
theorem SHas.closed' (hF : SHas P F) (hW : HasW P F) {ks : List N} {z : Bool} (ih : ∀ p ∈ ks,NodeOk P F p) (h : OInv F c S now item G E H) (lam : Bool) (hG : FOk S.bs.length G) (hE : ∀ x ∈ E,FOk S.bs.length x.2.2.es)
 (hb : S.sz + 2 * N.sizes ks ≤ 2199023255552) (hl : E.length + N.sizes ks ≤ 1099511627775) :
 ACall P F.closed [.ptr c.ib 0,.d (.sl z 6 (ks.map N.enc)),.d (.bool lam)] H (fun r H' => r = .tup [] ∧ H' = sput F c (sclosedP G item ks (E.map fun x => x.2.2) lam S) H) := by
 obtain ⟨fn,hf,hcf⟩ := hF.closed
 refine acall_fin hf hcf (by simp [irScClosed]) fun hcl _ => ?_
 by_cases h3 : ks.length = 3
 · have hks : ∃ p q b,ks = [p,q,b] := by
    match ks,h3 with
    | [p,q,b],_ => exact ⟨p,q,b,rfl⟩
   obtain ⟨p,q,b,rfl⟩ := hks
   rw [sclosedP_three]
   obtain ⟨p1,p2,p3,p4,p5,p6⟩ := h.s.lt
   have hO := h.app [.box F.tp [.ptr c.ib 0],.box F.ts [.d (.sl z 6 ([p,q,b].map N.enc))]]
   have hin := hO.inner lam
   have hL : (H ++ [Ob.box F.tp [.ptr c.ib 0],.box F.ts [.d (.sl z 6 ([p,q,b].map N.enc))]] : Hp).length = H.length + 2 := by simp
   have a1 : (H ++ [Ob.box F.tp [.ptr c.ib 0],.box F.ts [.d (.sl z 6 ([p,q,b].map N.enc))]] : Hp)[H.length + 1]? = some (.box F.ts [.d (.sl z 6 ([p,q,b].map N.enc))]) := by simp
   have a2 : (H ++ [Ob.box F.tp [.ptr c.ib 0],.box F.ts [.d (.sl z 6 ([p,q,b].map N.enc))]] : Hp)[H.length]? = some (.box F.tp [.ptr c.ib 0]) := by simp
   have gd := hF.closedC' (z := z) (ih b (by simp)) hin hG hE hb hl (inScope_get a1 (by omega) _ _) (inScope_get a2 (by omega) _ _) (by rw [hL]; refine ⟨⟨⟨?_,?_,?_,?_⟩,?_⟩,⟨⟨?_,?_,?_,?_⟩,?_⟩⟩ <;> omega)
   have gw := hF.within' hW hO lam hF.kClosedC gd
   rw [sput_appO h] at gw
   simp only [List.map_cons,List.map_nil] at gw ⊢
   simp [irScClosed]
   refine CallK_of' gw ?_
   simp
   simp [RetK,sput_len,sput_cutX h.s hcl]
 · rw [sclosedP_ne _ _ h3,sput_self h.s]
   have h3' : ¬ ((ks.length : Int) = 3) := by omega
   simp [irScClosed,h3']
   simp [RetK,cut_app hcl]
theorem SHas.node' (hF : SHas P F) (hW : HasW P F) (n : N) : NodeOk P F n := by
 induction n using N.ind with
 | h k f t w a z ks ih =>
 intro c S item G i m fr lam E H h hG hfr hE hb hl
 obtain ⟨fn,hf,hcf⟩ := hF.node
 refine acall_fin hf hcf (by simp [irScNode]) fun hcl _ => ?_
 rw [N.size_mk] at hb hl
 obtain ⟨p1,p2,p3,p4,p5,p6⟩ := h.s.lt
 obtain ⟨bb,hbb⟩ : ∃ bb,bb = Ob.box F.tp [.ptr c.ib 0] := ⟨_,rfl⟩
 obtain ⟨bx,hbx⟩ : ∃ bx,bx = Ob.box F.tn [.d (.int .i64 k),.d (.int .i64 f),.d (.int .i64 t),.d (.str w),.d (.int .i64 a),.d (.sl z 6 (ks.map N.enc))] := ⟨_,rfl⟩
 have hA := h.app [bb,bx]
 have a1 : (H ++ [bb,bx] : Hp)[H.length + 1]? = some bx := by simp
 have a2 : (H ++ [bb,bx] : Hp)[H.length]? = some bb := by simp
 have hE' : ∀ x ∈ (i,m,(⟨fr,lam⟩ : Frm)) :: E,FOk S.bs.length x.2.2.es := fun x hx => by
  rcases List.mem_cons.1 hx with rfl | hx
  · exact hfr
  · exact hE x hx
 have hmap : ((i,m,(⟨fr,lam⟩ : Frm)) :: E).map (fun x => x.2.2) = ⟨fr,lam⟩ :: E.map fun x => x.2.2 := rfl
 have hfin : ∀ S' fr' X,Hp.cut H.length (nput F c S' m fr' H ++ X) = nput F c S' m fr' H := fun S' fr' X => nput_cutX h hcl X
 have hi := hA.s.i
 rw [nodeP_mk]
 by_cases h6 : k = 6
 · rw [if_pos h6]
   subst h6
   have hO := hA.o
   have hin := hO.inner false
   have gk := hF.kids' (k := 6) (f := f) (t := t) (w := w) (a := a) (z := z) ih hin hG (FOk.nil _) hE' (by omega) (by simp only [List.length_cons]; omega)
   rw [hmap] at gk
   have gd : ACall P F.nodeC [.ptr H.length 0,.ptr (H.length + 1) 0] (inScope F c (.ptr i 0) item false (H ++ [bb,bx])) (fun r H2 => r = .tup [] ∧ H2 = nput F c (kidsP G item ks (⟨fr,lam⟩ :: E.map fun x => x.2.2) [] false S).2 ((H ++ [bb,bx] : Hp).length + 2) (kidsP G item ks (⟨fr,lam⟩ :: E.map fun x => x.2.2) [] false S).1 (inScope F c (.ptr i 0) item false (H ++ [bb,bx]))) := by
    obtain ⟨fn,hf,hcf⟩ := hF.nodeC
    refine acall_fin hf hcf (by simp [irScNodeC]) fun hcl2 _ => ?_
    have b1 := inScope_get (F := F) (now := .ptr i 0) a1 (by omega : H.length + 1 ≠ c.ib) item false
    have b2 := inScope_get (F := F) (now := .ptr i 0) a2 (by omega : H.length ≠ c.ib) item false
    rw [hbx,hbb] at b1 b2
    rw [N.v_mk] at gk
    have hcut := nput_cut (S' := (kidsP G item ks (⟨fr,lam⟩ :: E.map fun x => x.2.2) [] false S).2) (fr' := (kidsP G item ks (⟨fr,lam⟩ :: E.map fun x => x.2.2) [] false S).1) hin hcl2
    generalize kidsP G item ks (⟨fr,lam⟩ :: E.map fun x => x.2.2) [] false S = R at gk hcut ⊢
    rw [hbx,hbb] at gk hcut ⊢
    generalize inScope F c (.ptr i 0) item false (H ++ [Ob.box F.tp [.ptr c.ib 0],Ob.box F.tn [.d (.int .i64 6),.d (.int .i64 f),.d (.int .i64 t),.d (.str w),.d (.int .i64 a),.d (.sl z 6 (ks.map N.enc))]]) = W at b1 b2 gk hcut ⊢
    simp [irScNodeC,b1,b2]
    simp at gk
    refine CallK_of' gk ?_
    simp at hcut ⊢
    simp [RetK,nput_len,hcut]
   have gw := hF.within' hW hO false hF.kNodeC gd
   rw [sput_appO h.o] at gw
   have hfin' := hfin (kidsP G item ks (⟨fr,lam⟩ :: E.map fun x => x.2.2) [] false S).2 fr [bb,bx]
   rw [nput_sput h] at hfin'
   rw [nput_sput h]
   generalize kidsP G item ks (⟨fr,lam⟩ :: E.map fun x => x.2.2) [] false S = R at gw hfin' ⊢
   subst hbb; subst hbx
   rw [N.v_mk]
   simp [irScNode]
   refine CallK_of' gw ?_
   simp
   simp [RetK,sput_len,hfin']
 rw [if_neg h6]
 have gk := hF.kids' (k := k) (f := f) (t := t) (w := w) (a := a) (z := z) ih hA hG hfr hE (by omega) (by omega)
 by_cases h7 : k = 7
 · rw [if_pos h7]
   subst h7
   have hgr := grew_kids (fun p _ => grew p) (ks := ks) G item (E.map fun x => x.2.2) fr lam S hfr
   have hN := hA.nput (kidsP G item ks (E.map fun x => x.2.2) fr lam S).2 (kidsP G item ks (E.map fun x => x.2.2) fr lam S).1
   have gb := hF.bind' hN.s hN.mp ⟨h.offM.1,h.offM.2.1⟩ (.mk 7 f t w a z ks) 4 (by have := hgr.sz; omega)
   rw [nput_nput h.offM.1] at gb
   have b0 : (nput F c (kidsP G item ks (E.map fun x => x.2.2) fr lam S).2 m (kidsP G item ks (E.map fun x => x.2.2) fr lam S).1 (H ++ [bb,bx]))[H.length]? = some bb := by rw [nput_app h,← nput_len (F := F) (c := c) (S := (kidsP G item ks (E.map fun x => x.2.2) fr lam S).2) (m := m) (fr := (kidsP G item ks (E.map fun x => x.2.2) fr lam S).1)]; simp
   have b1 : (nput F c (kidsP G item ks (E.map fun x => x.2.2) fr lam S).2 m (kidsP G item ks (E.map fun x => x.2.2) fr lam S).1 (H ++ [bb,bx]))[H.length + 1]? = some bx := by rw [nput_app h,← nput_len (F := F) (c := c) (S := (kidsP G item ks (E.map fun x => x.2.2) fr lam S).2) (m := m) (fr := (kidsP G item ks (E.map fun x => x.2.2) fr lam S).1)]; simp
   have b2 := hN.s.i
   obtain ⟨-,-,up,b3,-,-⟩ := hN.ch
   have hfin' := hfin (bindP 4 item (.mk 7 f t w a z ks) (kidsP G item ks (E.map fun x => x.2.2) fr lam S).1 (kidsP G item ks (E.map fun x => x.2.2) fr lam S).2).2 (bindP 4 item (.mk 7 f t w a z ks) (kidsP G item ks (E.map fun x => x.2.2) fr lam S).1 (kidsP G item ks (E.map fun x => x.2.2) fr lam S).2).1 [bb,bx]
   generalize kidsP G item ks (E.map fun x => x.2.2) fr lam S = R at gk gb b0 b1 b2 b3 hfin' ⊢
   rw [N.v_mk] at gk gb ⊢
   generalize bindP 4 item (.mk 7 f t w a z ks) R.1 R.2 = R2 at gb hfin' ⊢
   subst hbb; subst hbx
   simp [irScNode]
   refine CallK_of' gk ?_
   generalize nput F c R.2 m R.1 (H ++ _) = W at gb b0 b1 b2 b3 ⊢
   simp [b0,b1,b2,b3]
   refine CallE_of gb ?_
   rw [nput_app h]
   simp
   simp [RetK,nput_len,hfin']
 rw [if_neg h7]
 have hff : N.w (.mk k f t w a z ks) = w := rfl
 by_cases h8 : k = 8
 · rw [if_pos h8]
   subst h8
   have gm := hF.mention' hA.s hA.ch (.mk 8 f t w a z ks) true (by simp only [List.length_cons]; omega) (by omega) hG hE'
   rw [hmap,hff] at gm
   have hN := hA.put (S.men (.mk 8 f t w a z ks) true (findP G w (⟨fr,lam⟩ :: E.map fun x => x.2.2) 0))
   have hms := SM.men_sz S (.mk 8 f t w a z ks) true (findP G w (⟨fr,lam⟩ :: E.map fun x => x.2.2) 0)
   have gk2 := hF.kids' (k := 8) (f := f) (t := t) (w := w) (a := a) (z := z) ih hN hG hfr hE (by omega) (by omega)
   have b0 : (sput F c (S.men (.mk 8 f t w a z ks) true (findP G w (⟨fr,lam⟩ :: E.map fun x => x.2.2) 0)) (H ++ [bb,bx]))[H.length]? = some bb := by rw [sput_off ⟨by omega,by omega,by omega,by omega⟩]; exact a2
   have b1 : (sput F c (S.men (.mk 8 f t w a z ks) true (findP G w (⟨fr,lam⟩ :: E.map fun x => x.2.2) 0)) (H ++ [bb,bx]))[H.length + 1]? = some bx := by rw [sput_off ⟨by omega,by omega,by omega,by omega⟩]; exact a1
   generalize S.men (.mk 8 f t w a z ks) true (findP G w (⟨fr,lam⟩ :: E.map fun x => x.2.2) 0) = S1 at gm gk2 b0 b1 ⊢
   have e1 : ∀ S' fr',nput F c S' m fr' (sput F c S1 (H ++ [bb,bx])) = nput F c S' m fr' H ++ [bb,bx] := fun S' fr' => by
    rw [← nput_app h]; unfold nput; rw [sput_sput]
   rw [e1] at gk2
   have hfin' := hfin (kidsP G item ks (E.map fun x => x.2.2) fr lam S1).2 (kidsP G item ks (E.map fun x => x.2.2) fr lam S1).1 [bb,bx]
   generalize kidsP G item ks (E.map fun x => x.2.2) fr lam S1 = R at gk2 hfin' ⊢
   rw [N.v_mk] at gm gk2 ⊢
   subst hbb; subst hbx
   simp [irScNode]
   refine CallK_of' gm ?_
   generalize sput F c S1 (H ++ _) = W at gk2 b0 b1 ⊢
   simp [b0,b1]
   refine CallK_of' gk2 ?_
   simp
   simp [RetK,nput_len,hfin']
 rw [if_neg h8]
 by_cases h9 : k = 23
 · rw [if_pos h9]
   subst h9
   have gm := hF.mention' hA.s hA.ch (.mk 23 f t w a z ks) false (by simp only [List.length_cons]; omega) (by omega) hG hE'
   rw [hmap,hff,sput_app h.s] at gm
   have hfin' := hfin (S.men (.mk 23 f t w a z ks) false (findP G w (⟨fr,lam⟩ :: E.map fun x => x.2.2) 0)) fr [bb,bx]
   rw [nput_sput h] at hfin' ⊢
   generalize S.men (.mk 23 f t w a z ks) false (findP G w (⟨fr,lam⟩ :: E.map fun x => x.2.2) 0) = S1 at gm hfin' ⊢
   rw [N.v_mk] at gm ⊢
   subst hbb; subst hbx
   simp [irScNode]
   refine CallK_of' gm ?_
   simp
   simp [RetK,sput_len,hfin']
 rw [if_neg h9]
 by_cases h10 : k = 28
 · rw [if_pos h10]
   subst h10
   have gc := hF.closed' hW (z := z) ih hA.o true hG hE' (by omega) (by simp only [List.length_cons]; omega)
   rw [hmap,sput_app h.s] at gc
   have hfin' := hfin (sclosedP G item ks (⟨fr,lam⟩ :: E.map fun x => x.2.2) true S) fr [bb,bx]
   rw [nput_sput h] at hfin' ⊢
   generalize sclosedP G item ks (⟨fr,lam⟩ :: E.map fun x => x.2.2) true S = S1 at gc hfin' ⊢
   rw [N.v_mk]
   subst hbb; subst hbx
   simp [irScNode]
   refine CallK_of' gc ?_
   simp
   simp [RetK,sput_len,hfin']
 rw [if_neg h10]
 rw [nput_app h] at gk
 have hfin' := hfin (kidsP G item ks (E.map fun x => x.2.2) fr lam S).2 (kidsP G item ks (E.map fun x => x.2.2) fr lam S).1 [bb,bx]
 generalize kidsP G item ks (E.map fun x => x.2.2) fr lam S = R at gk hfin' ⊢
 rw [N.v_mk] at gk ⊢
 subst hbb; subst hbx
 simp [irScNode,h6,h7,h8,h9,h10]
 refine CallK_of' gk ?_
 simp
 simp [RetK,nput_len,hfin']
end
end
theorem HR.vecArr {κ : K} {H : Hp} {w : World} (hr : HR κ H w) {i k sz e : Nat} {rows : List (List D)} (hi : H[i]? = some (.vec sz e k rows)) (hne : rows ≠ []) :
 ∃ κs,κ.le κs ∧ HR κs (H.set i .dead ++ [.arr sz (rows.map (List.map .d))]) w ∧ (∀ v,VR κ v (.vsl i k rows.length) → VR κs v (.msl H.length 0 rows.length)) ∧ ∀ m,m ≠ i → m ≠ H.length → κs.β m = κ.β m := by
 have hil : i < H.length := (List.getElem?_eq_some_iff.1 hi).1
 rcases hr.ob i _ hi with ⟨-,-,h0⟩ | ⟨b,c,cur,hβ,-,hheap,hle0,hsz,hcells⟩
 · exact absurd h0 hne
 have hpos : 0 < rows.length := List.length_pos_iff.2 hne
 have hbx := hr.ex i b (by rw [hβ]; rfl)
 have hn : κ.β H.length = .none := hr.dom _ (Nat.le_refl _)
 let κs : K := { κ with β := upd (upd κ.β i .deadT) H.length (.arr b sz (some (e,cur.size))) }
 have hsβ : ∀ m,m ≠ i → m ≠ H.length → κs.β m = κ.β m := fun m h1 h2 => by
  show upd (upd κ.β i _) H.length _ m = _
  rw [upd_ne _ _ h2,upd_ne _ _ h1]
 have hsi : κs.β i = .deadT := by
  show upd (upd κ.β i _) H.length _ i = _
  rw [upd_ne _ _ (by omega),upd_same]
 have hsn : κs.β H.length = .arr b sz (some (e,cur.size)) := upd_same _ _ _
 have hks : κ.le κs := ⟨rfl,fun _ _ _ h => h,fun m => by
  by_cases h1 : m = i
  · subst h1; rw [hsi,hβ]; exact .inr (.inl rfl)
  · by_cases h2 : m = H.length
    · subst h2; rw [hn]; trivial
    · rw [hsβ m h1 h2]; exact Bind.le_refl _⟩
 have hblk : ∀ m b',(κs.β m).block = some b' → (m = H.length ∧ b' = b) ∨ (m ≠ H.length ∧ m ≠ i ∧ (κ.β m).block = some b') := fun m b' hm => by
  by_cases h2 : m = H.length
  · subst h2; rw [hsn] at hm; cases hm; exact .inl ⟨rfl,rfl⟩
  · by_cases h1 : m = i
    · subst h1; rw [hsi] at hm; cases hm
    · rw [hsβ m h1 h2] at hm; exact .inr ⟨h2,h1,hm⟩
 refine ⟨κs,hks,⟨hr.below,hr.st,fun m x hx => ?_,fun m hm => ?_,fun m b' hb' => ?_,fun m b' o ho => ?_,fun m q b' h1 h2 => ?_,fun m x hx => ?_⟩,fun v hv => ?_,hsβ⟩
 · by_cases h2 : m = H.length
   · subst h2
     rw [show H.length = (H.set i Ob.dead).length by simp,getElem?_app0] at hx
     cases hx
     refine ⟨b,_,hsn,fun ty n he => by cases he; exact ⟨cur,hheap,rfl⟩,fun q r hq => ?_⟩
     simp only [List.getElem?_map,Option.map_eq_some_iff] at hq
     obtain ⟨r0,hr0,rfl⟩ := hq
     refine ⟨by simpa using (hcells q r0 hr0).1,fun y a ha => ?_⟩
     simp only [List.getElem?_map,Option.map_eq_some_iff] at ha
     obtain ⟨x0,hx0,rfl⟩ := ha
     obtain ⟨u,u1,u2⟩ := (hcells q r0 hr0).2 y x0 hx0
     exact ⟨u,by rw [cell_cells hheap]; exact u1,by simp [World.frozen?,hheap],.d u2⟩
   · have hm : m < (H.set i Ob.dead).length := by
      have := (List.getElem?_eq_some_iff.1 hx).1
      simp at this ⊢; omega
     rw [List.getElem?_append_left hm] at hx
     by_cases h1 : i = m
     · subst h1
       rw [List.getElem?_set_self hil] at hx
       cases hx; trivial
     · rw [List.getElem?_set_ne h1] at hx
       exact (hr.ob m x hx).mono hks (hsβ m (Ne.symm h1) h2) fun _ _ => rfl
 · have : H.length + 1 ≤ m := by simpa using hm
   rw [hsβ m (by omega) (by omega)]; exact hr.dom m (by omega)
 · rcases hblk m b' hb' with ⟨-,rfl⟩ | ⟨-,-,h3⟩
   · exact hbx
   · exact hr.ex m b' h3
 · rcases hblk m b' (Bind.block_of_owns ho) with ⟨rfl,rfl⟩ | ⟨h1,h2,h3⟩
   · exact hr.exσ i b' o (by rw [hβ]; rfl)
   · rw [hsβ m h2 h1] at ho; exact hr.exσ m b' o ho
 · rcases hblk m b' h1 with ⟨rfl,rfl⟩ | ⟨a1,a2,a3⟩
   · rcases hblk q b' h2 with ⟨rfl,-⟩ | ⟨c1,c2,c3⟩
     · rfl
     · exact absurd (hr.exd q i b' c3 (by rw [hβ]; rfl)) c2
   · rcases hblk q b' h2 with ⟨rfl,rfl⟩ | ⟨c1,c2,c3⟩
     · exact absurd (hr.exd m i b' a3 (by rw [hβ]; rfl)) a2
     · exact hr.exd m q b' a3 c3
 · by_cases h2 : m = H.length
   · subst h2
     rw [show H.length = (H.set i Ob.dead).length by simp,getElem?_app0] at hx
     cases hx
     simp [Ob.flat,A.flat]
   · have hm : m < (H.set i Ob.dead).length := by
      have := (List.getElem?_eq_some_iff.1 hx).1
      simp at this ⊢; omega
     rw [List.getElem?_append_left hm] at hx
     by_cases h1 : i = m
     · subst h1
       rw [List.getElem?_set_self hil] at hx
       cases hx; rfl
     · rw [List.getElem?_set_ne h1] at hx
       exact hr.fl m x hx
 · cases hv with
   | vsl _ _ _ ad cap hlc hf =>
   rw [hβ] at hf
   have := (hf.2 rfl).2
   cases this
   exact .msl _ _ _ b sz 0 c (.inl ⟨_,hsn⟩) hlc (fun _ => by simp) (fun h0 => by omega)
theorem HR.recell {κ : K} {H : Hp} {w : World} (h : HR κ H w) {j : Nat} {ty : TypeId} {cs cs' : List A} (hj : H[j]? = some (.box ty cs)) (hl : cs'.length = cs.length) (hfl : cs'.all A.flat = true)
 (hv : ∀ (b q : Nat) (a' : A) (v : Value),κ.β j = .blk b → cs'[q]? = some a' → w.cell? ⟨b,q,none⟩ = some v → VR κ v a') : HR κ (H.set j (.box ty cs')) w := by
 have hjl : j < H.length := (List.getElem?_eq_some_iff.1 hj).1
 refine ⟨h.below,h.st,fun m x hx => ?_,fun m hm => h.dom m (by simpa using hm),h.ex,h.exσ,h.exd,fun m x hx => ?_⟩
 · by_cases hm : j = m
   · subst hm
     rw [List.getElem?_set_self hjl] at hx
     cases hx
     obtain ⟨b,h1,h2,h3⟩ := h.ob j _ hj
     refine ⟨b,h1,by rw [h2,hl],fun q a ha => ?_⟩
     have hq : q < cs.length := by rw [← hl]; exact (List.getElem?_eq_some_iff.1 ha).1
     obtain ⟨v,v1,v2,-⟩ := h3 q cs[q] (List.getElem?_eq_getElem hq)
     exact ⟨v,v1,v2,hv b q a v h1 ha v1⟩
   · rw [List.getElem?_set_ne hm] at hx
     exact h.ob m x hx
 · by_cases hm : j = m
   · subst hm
     rw [List.getElem?_set_self hjl] at hx
     cases hx; exact hfl
   · rw [List.getElem?_set_ne hm] at hx
     exact h.fl m x hx
theorem ACall.vecArr {P : Program} {f : FuncId} {H : Hp} {i j q k sz e : Nat} {rows : List (List D)} {ty : TypeId} {cs args : List A} {Q : A → Hp → Prop} (hi : H[i]? = some (.vec sz e k rows)) (hne : rows ≠ []) (hj : H[j]? = some (.box ty cs)) (hq : cs[q]? = some (.vsl i k rows.length))
 (h : ACall P f (.msl H.length 0 rows.length :: args) ((H.set i .dead).set j (.box ty (cs.set q (.msl H.length 0 rows.length))) ++ [.arr sz (rows.map (List.map .d))]) Q) : ACall P f (.vsl i k rows.length :: args) H Q := by
 intro κ w vs hr hl hv
 have hij : i ≠ j := fun e => by subst e; rw [hi] at hj; cases hj
 have hjl : j < H.length := (List.getElem?_eq_some_iff.1 hj).1
 obtain ⟨κs,h1,h2,h3,h4⟩ := hr.vecArr hi hne
 have hj2 : (H.set i .dead ++ [.arr sz (rows.map (List.map .d))])[j]? = some (.box ty cs) := by
  rw [List.getElem?_append_left (by simpa using hjl),List.getElem?_set_ne hij]; exact hj
 have hr2 := h2.recell (cs' := cs.set q (.msl H.length 0 rows.length)) hj2 (by simp) (by
  have := hr.fl j _ hj
  simp only [Ob.flat,List.all_eq_true] at this ⊢
  intro x hx
  rcases List.mem_or_eq_of_mem_set hx with h5 | h5
  · exact this x h5
  · subst h5; rfl) (fun b p a' v hb ha hc => by
  obtain ⟨b',b1,-,b2⟩ := hr.ob j _ hj
  have hbb : b' = b := by
   have := h4 j (Ne.symm hij) (by omega)
   rw [this,b1] at hb
   cases hb; rfl
  subst hbb
  by_cases hpq : q = p
  · subst hpq
    rw [List.getElem?_set_self (List.getElem?_eq_some_iff.1 hq).1] at ha
    cases ha
    obtain ⟨u,u1,-,u2⟩ := b2 q _ hq
    rw [hc] at u1; cases u1
    exact h3 v u2
  · rw [List.getElem?_set_ne hpq] at ha
    obtain ⟨u,u1,-,u2⟩ := b2 p _ ha
    rw [hc] at u1; cases u1
    exact u2.mono h1)
 rw [List.set_append_left _ _ (by simpa using hjl)] at hr2
 refine (h κs w vs hr2 (by simpa using hl) fun m v a hm ha => ?_).mono ?_
 · cases m with
   | zero => simp at ha; subst ha; exact h3 v (hv 0 v _ hm rfl)
   | succ m => exact (hv (m + 1) v a hm (by simpa using ha)).mono h1
 · rintro ev w' ⟨v,κ',x,H',e1,e2,e3,e4,e5⟩
   exact ⟨v,κ',x,H',e1,h1.trans e2,e3,e4,e5⟩
theorem HR.vecNil {κ : K} {H : Hp} {w : World} (hr : HR κ H w) {i sz e : Nat} (hi : H[i]? = some (.vec sz e 0 [])) {v : Value} (hv : VR κ v (.vsl i 0 0)) : VR κ v (.d (.sl true sz [])) := by
 rcases hr.ob i _ hi with ⟨hβ,-,-⟩ | ⟨b,c,cur,hβ,hk,-⟩
 · cases hv with
   | vsl _ _ _ ad cap hlc hf =>
   rw [hβ] at hf
   obtain ⟨-,-,hf⟩ := hf
   rw [hf]
   exact .d (.nilsl sz)
 · exact absurd rfl (hk rfl)
theorem ACall.vecNil {P : Program} {f : FuncId} {H : Hp} {i sz e : Nat} {args : List A} {Q : A → Hp → Prop} (hi : H[i]? = some (.vec sz e 0 [])) (h : ACall P f (.d (.sl true sz []) :: args) H Q) : ACall P f (.vsl i 0 0 :: args) H Q := by
 intro κ w vs hr hl hv
 refine h κ w vs hr (by simpa using hl) fun m v a hm ha => ?_
 cases m with
 | zero => simp at ha; subst ha; exact hr.vecNil hi (hv 0 v _ hm rfl)
 | succ m => exact hv (m + 1) v a hm (by simpa using ha)
theorem nrm_osl {sz t : Nat} {rows : List (List D)} : Nrm (.osl true sz rows t) (.d (.sl rows.isEmpty sz rows)) := fun κ v h => by
 cases h with
 | osl hd ht => exact .d (hd.isE fun _ => rfl)
theorem vr3 {κ : K} {v : Value} {x y z : A} (h : VR κ v (.agg [x,y,z])) : ∃ a b c,v = .agg #[a,b,c] ∧ VR κ a x ∧ VR κ b y ∧ VR κ c z := by
 cases h with
 | agg vs _ hl h =>
   match vs,hl with
   | [a,b,c],_ => exact ⟨a,b,c,rfl,h 0 a x rfl rfl,h 1 b y rfl rfl,h 2 c z rfl rfl⟩
theorem vr3_of {κ : K} {a b c : Value} {x y z : A} (h1 : VR κ a x) (h2 : VR κ b y) (h3 : VR κ c z) : VR κ (.agg #[a,b,c]) (.agg [x,y,z]) := by
 refine .agg [a,b,c] _ rfl fun i v u hv hu => ?_
 match i with
 | 0 => simp at hv hu; subst hv; subst hu; exact h1
 | 1 => simp at hv hu; subst hv; subst hu; exact h2
 | 2 => simp at hv hu; subst hv; subst hu; exact h3
 | i + 3 => simp at hv
theorem ACall.freeze3 {P : Program} {f : FuncId} {args : List A} {H : Hp} {k sz : Nat} {rows : List (List D)} {x y : A} {x' y' : D} (hx : Nrm x (.d x')) (hy : Nrm y (.d y'))
 (h : ACall P f args H (fun r H' => ∃ X : Hp,X[k]? = some (.arr sz (rows.map (List.map .d))) ∧ r = .agg [x,y,.msl (H.length + k) 0 rows.length] ∧ H' = H ++ X)) : ACall P f args H (fun r H' => r = .agg [.d x',.d y',.d (.sl false sz rows)] ∧ H' = H) := by
 intro κ w vs hr hl hv
 refine (h κ w vs hr hl hv).mono ?_
 rintro e w' ⟨v,κ',r,H',h1,h2,h3,h4,X,hX,rfl,rfl⟩
 obtain ⟨a,b,c,rfl,a1,a2,a3⟩ := vr3 h4
 obtain ⟨κ2,k1,k2,k3⟩ := h3.freezeArr (i := H.length + k) (sz := sz) (rows := rows) (by rw [getElem?_appk]; exact hX) a3
 rw [set_appk] at k2
 exact ⟨_,κ2.cut H.length,.agg [.d x',.d y',.d (.sl false sz rows)],Hp.cut H.length (H ++ X.set k .dead),h1,K.le_cut (h2.trans k1) hr.dom,k2.cut _ (by simp),VR.clr H.length (vr3_of ((hx _ _ a1).mono k1) ((hy _ _ a2).mono k1) k3),rfl,cut_app hr.closed _⟩
theorem ACall.freeze3n {P : Program} {f : FuncId} {args : List A} {H : Hp} {k sz e : Nat} {x y : A} {x' y' : D} (hx : Nrm x (.d x')) (hy : Nrm y (.d y'))
 (h : ACall P f args H (fun r H' => ∃ X : Hp,X[k]? = some (.vec sz e 0 []) ∧ r = .agg [x,y,.vsl (H.length + k) 0 0] ∧ H' = H ++ X)) : ACall P f args H (fun r H' => r = .agg [.d x',.d y',.d (.sl true sz [])] ∧ H' = H) := by
 intro κ w vs hr hl hv
 refine (h κ w vs hr hl hv).mono ?_
 rintro ev w' ⟨v,κ',r,H',h1,h2,h3,h4,X,hX,rfl,rfl⟩
 obtain ⟨a,b,c,rfl,a1,a2,a3⟩ := vr3 h4
 have k3 := h3.vecNil (i := H.length + k) (by rw [getElem?_appk]; exact hX) a3
 exact ⟨_,κ'.cut H.length,.agg [.d x',.d y',.d (.sl true sz [])],Hp.cut H.length (H ++ X),h1,K.le_cut h2 hr.dom,h3.cut _ (by simp),VR.clr H.length (vr3_of (hx _ _ a1) (hy _ _ a2) k3),rfl,cut_app hr.closed _⟩
section
theorem cmpInt_cmp : Cmp cmpInt where
 refl x := by simp [cmpInt]
 anti x y := by unfold cmpInt; constructor <;> intro h <;> (split at h <;> split <;> try split) <;> (try split at h) <;> (try omega) <;> simp_all <;> omega
 trans x y z h1 h2 := by
  unfold cmpInt at *
  (repeat' split at h1) <;> (repeat' split at h2) <;> (repeat' split) <;> omega
def cBad (a b : Int × Int) : Int := cmpInt a.1 b.1
theorem cBad_cmp : Cmp cBad := Cmp.on (α := Int × Int) cmpInt_cmp Prod.fst
def scopeM (n : N) : SM := ⟨(allP n).bs,(allP n).ms,ssort cBad (allP n).bad⟩
theorem topsP_snoc (x : N) : ∀ (l : List N) (i : Int) (G : Nms) (S : SM),topsP i (l ++ [x]) G S = (if x.k = 2 then bindP 1 (i + l.length) x (topsP i l G S).1 (topsP i l G S).2 else if x.k = 3 then bindP 2 (i + l.length) x (topsP i l G S).1 (topsP i l G S).2 else topsP i l G S)
 | [],i,G,S => by simp only [List.nil_append,topsP,List.length_nil,Int.natCast_zero,Int.add_zero]
 | y :: r, i, G, S => by
   have e : i + 1 + (r.length : Int) = i + ((y :: r).length : Int) := by simp; omega
   simp only [List.cons_append,topsP]
   split
   · rw [topsP_snoc x r,e]
   · split
     · rw [topsP_snoc x r,e]
     · rw [topsP_snoc x r,e]
theorem defsP_snoc (G : Nms) (x : N) : ∀ (l : List N) (i : Int) (S : SM),defsP G i (l ++ [x]) S = (if x.k = 3 then sclosedP G (i + l.length) x.ks [] false (defsP G i l S) else defsP G i l S)
 | [],i,S => by simp only [List.nil_append,defsP,List.length_nil,Int.natCast_zero,Int.add_zero]
 | y :: r, i, S => by
   have e : i + 1 + (r.length : Int) = i + ((y :: r).length : Int) := by simp; omega
   simp only [List.cons_append,defsP]
   rw [defsP_snoc G x r,e]
theorem tops_grew : ∀ (l : List N) (i : Int) (G : Nms) (S : SM),FOk S.bs.length G → Grew S (topsP i l G S).2 l.length (topsP i l G S).1
 | [],i,G,S,h => ⟨Nat.le_refl _,by simp [topsP],h⟩
 | n :: r, i, G, S, h => by
   simp only [topsP,List.length_cons]
   have step : ∀ k : Int,Grew S (topsP (i + 1) r (bindP k i n G S).1 (bindP k i n G S).2).2 (r.length + 1) (topsP (i + 1) r (bindP k i n G S).1 (bindP k i n G S).2).1 := fun k => by
    have h1 := Grew.bind h k i n
    have h2 := tops_grew r (i + 1) _ _ h1.ok
    refine ⟨Nat.le_trans h1.bs h2.bs,?_,h2.ok⟩
    have := h1.sz; have := h2.sz
    omega
   split
   · exact step 1
   · split
     · exact step 2
     · have h2 := tops_grew r (i + 1) G S h
       exact ⟨h2.bs,by have := h2.sz; omega,h2.ok⟩
theorem defs_grew (G : Nms) : ∀ (l : List N) (i : Int) (S : SM),S.bs.length ≤ (defsP G i l S).bs.length ∧ (defsP G i l S).sz ≤ S.sz + 2 * N.sizes l
 | [],i,S => by simp [defsP]
 | n :: r, i, S => by
   simp only [defsP,N.sizes_cons]
   have h1 := grew_closed (ks := n.ks) (fun p _ => grew p) G i [] false S
   have h3 := N.size_ks n
   split
   · have h2 := defs_grew G r (i + 1) (sclosedP G i n.ks [] false S)
     omega
   · have h2 := defs_grew G r (i + 1) S
     omega
def scC (L : Nat) : SC := ⟨L + 5,L + 2,L + 3,L + 4,L + 7,L + 6⟩
def scY (F : SF) (L : Nat) (bx : Ob) (S : SM) (G : Nms) (it : Int) : Hp := [bx,.box F.tm [.d (.sl true 4 []),.d (.sl true 4 []),.d (.sl true 2 [])],.tok S.bs.length 4 F.bd,.tok S.ms.length 4 F.mn,.vec 2 F.ed S.bad.length (S.bad.map encBad),mbox F (scC L) S,.mp (encNms G),.box F.tb [.ptr (L + 5) 0,.d .nilp,.map (L + 6),.d (.int .i64 it)]]
section
variable {P : Program} {F : SF} {S S' : SM} {G G' : Nms} {H : Hp} {it : Int} {bx : Ob}
theorem scY_inv (X : Hp) : SInv F (scC H.length) S (.d .nilp) it G (H ++ (scY F H.length bx S G it ++ X)) := by
 refine ⟨?_,?_,?_,?_,?_,?_,?_⟩
 · simp only [scC,scY,List.cons_append,List.nil_append,getElem?_appk]; rfl
 · simp only [scC,scY,List.cons_append,List.nil_append,getElem?_appk]; rfl
 · simp only [scC,scY,List.cons_append,List.nil_append,getElem?_appk]; rfl
 · simp only [scC,scY,List.cons_append,List.nil_append,getElem?_appk]; rfl
 · simp only [scC,scY,List.cons_append,List.nil_append,getElem?_appk]; rfl
 · simp only [scC,scY,List.cons_append,List.nil_append,getElem?_appk]; rfl
 · simp only [scC]; omega
theorem scY_nput (X : Hp) : nput F (scC H.length) S' (H.length + 6) G' (H ++ (scY F H.length bx S G it ++ X)) = H ++ (scY F H.length bx S' G' it ++ X) := by
 simp only [nput,sput,scC,scY,List.cons_append,List.nil_append,set_appk]; rfl
theorem scY_sput (X : Hp) : sput F (scC H.length) S' (H ++ (scY F H.length bx S G it ++ X)) = H ++ (scY F H.length bx S' G it ++ X) := by
 simp only [sput,scC,scY,List.cons_append,List.nil_append,set_appk]; rfl
theorem scY_cut (hcl : H.Closed) (hbx : ∀ n,bx.clr n = bx) (X : Hp) : Hp.cut (H.length + 8) (H ++ (scY F H.length bx S G it ++ X)) = H ++ scY F H.length bx S G it := by
 rw [cut_appk hcl]
 have : ((scY F H.length bx S G it ++ X).take 8) = scY F H.length bx S G it := by simp [scY]
 rw [this]
 simp only [scY,List.map_cons,List.map_nil,hbx,encNms_clr]
 rw [mbox_clr (by simp [scC]) (by simp [scC]) (by simp [scC])]
 simp
def scTail (srt cmp : FuncId) : C := .seq (.ops [
    ⟨(some 65),none,.faddr 2 (.t 3)⟩,
    ⟨(some 66),none,.load 1 false (.t 65)⟩,
    ⟨(some 67),none,.call srt [(.t 66),(.c (.fn cmp))]⟩] false)
 (.seq (.ops [
  ⟨(some 68),none,.load 3 true (.t 3)⟩,
  ⟨none,none,.store 3 (.t 2) (.t 68)⟩] false)
 (.ret))
theorem SHas.ofW (hF : SHas P F) (hW : HasW P F) {fof : FuncId} (hof : HasT P [5000003,8200003,6000034,6000043] fof (irScOf F.bind F.closed F.srt F.cmp F.tn F.tm F.tb F.bd F.mn F.ed))
 {k f t : Int} {w : Bs} {a : Int} {z : Bool} {ks : List N} (hn : N.sizes ks ≤ 68719476736) (q : Nat) (K : A → Hp → Prop)
 (hq : H.Closed → ∀ (it : Int) (fr : Fr),fr 3 = .ptr (H.length + 5) 0 → fr 2 = .ptr (H.length + 1) 0 → AWp P H.length (scTail F.srt F.cmp) (Fin [.cell 2 3 true] (H.length + q) K) fr
  (H ++ scY F H.length (.box F.tn [.d (.int .i64 k),.d (.int .i64 f),.d (.int .i64 t),.d (.str w),.d (.int .i64 a),.d (.sl z 6 (ks.map N.enc))]) (defsP (topsP 0 ks [] ⟨[],[],[]⟩).1 0 ks (topsP 0 ks [] ⟨[],[],[]⟩).2) (topsP 0 ks [] ⟨[],[],[]⟩).1 it)) :
 ACall P fof [N.v (.mk k f t w a z ks)] H K := by
 obtain ⟨fn,hf,hcf⟩ := hof
 refine acall_fink q hf hcf (by simp [irScOf]) fun hcl _ => ?_
 have hq := hq hcl
 rw [N.v_mk]
 have hsl := N.sizes_len ks
 obtain ⟨bx,hbx⟩ : ∃ bx,bx = Ob.box F.tn [.d (.int .i64 k),.d (.int .i64 f),.d (.int .i64 t),.d (.str w),.d (.int .i64 a),.d (.sl z 6 (ks.map N.enc))] := ⟨_,rfl⟩
 have hbc : ∀ n,bx.clr n = bx := fun n => by subst hbx; simp
 rw [← hbx] at hq
 simp [irScOf]
 rw [← hbx]
 have hstart : (H ++ [bx,.box F.tm [.d (.sl true 4 []),.d (.sl true 4 []),.d (.sl true 2 [])],.tok 0 4 F.bd,.tok 0 4 F.mn,.vec 2 F.ed 0 [],.box F.tm [.osl true 4 [] (H.length + 2),.osl true 4 [] (H.length + 3),.vsl (H.length + 4) 0 0],.mp [],.box F.tb [.ptr (H.length + 5) 0,.d .nilp,.map (H.length + 6),.d (.int .i64 0)]] : Hp) = H ++ scY F H.length bx ⟨[],[],[]⟩ [] 0 := rfl
 rw [hstart]
 have hbx1 : ∀ S G it X,(H ++ (scY F H.length bx S G it ++ X))[H.length]? = some bx := fun S G it X => by simp only [scY,List.cons_append,getElem?_app0]; rfl
 refine LoopK_out 0 (fun fr' H' => fr' 1 = .ptr H.length 0 ∧ fr' 2 = .ptr (H.length + 1) 0 ∧ fr' 3 = .ptr (H.length + 5) 0 ∧ fr' 4 = .ptr (H.length + 7) 0 ∧ ∃ it,H' = H ++ scY F H.length bx (topsP 0 ks [] ⟨[],[],[]⟩).2 (topsP 0 ks [] ⟨[],[],[]⟩).1 it) ?_ ?_
 · refine RangeK_of (H.length + 8) ks.length (fun j fr' H' => fr' 1 = .ptr H.length 0 ∧ fr' 2 = .ptr (H.length + 1) 0 ∧ fr' 3 = .ptr (H.length + 5) 0 ∧ fr' 4 = .ptr (H.length + 7) 0 ∧ fr' 13 = .d (.sl z 6 (ks.map N.enc)) ∧ ∃ it,H' = H ++ scY F H.length bx (topsP 0 (ks.take j) [] ⟨[],[],[]⟩).2 (topsP 0 (ks.take j) [] ⟨[],[],[]⟩).1 it) (by omega) (by decide) (by simp [scY]) (by simp) ?_ ?_ ?_
   · have hc0 := scY_cut (F := F) (S := ⟨[],[],[]⟩) (G := []) (it := 0) hcl hbc []
     rw [List.append_nil] at hc0
     rw [List.take_zero]
     refine ⟨by simp,by simp,by simp,by simp,by simp,0,?_⟩
     rw [hc0]; rfl
   · rintro j fr' H' hj f9 f8 ⟨f1,f2,f3,f4,f13,it,rfl⟩
     have hr := rowAt_map N.enc hj
     have hll : (ks.take j).length = j := by simp; omega
     have hgr := tops_grew (ks.take j) 0 [] ⟨[],[],[]⟩ (FOk.nil _)
     have hstep := topsP_snoc ks[j] (ks.take j) 0 [] ⟨[],[],[]⟩
     rw [← List.take_succ_eq_append_getElem hj,hll,Int.zero_add] at hstep
     generalize ks[j] = x at hr hstep
     obtain ⟨g1,g2,g3⟩ := hgr
     have hz : SM.sz ⟨[],[],[]⟩ = 0 := rfl
     rw [hll,hz] at g2
     generalize topsP 0 (ks.take j) [] ⟨[],[],[]⟩ = TP at g1 g2 g3 hstep ⊢
     obtain ⟨G1,S1⟩ := TP
     simp only at g1 g2 g3 hstep ⊢
     obtain ⟨k2,f2',t2,w2,a2,z2,ks2⟩ := x
     have gb := fun (X : Hp) (kind : Int) => hF.bind' (scY_inv (F := F) (bx := bx) (S := S1) (G := G1) (it := (j : Int)) (H := H) X) (m := H.length + 6) (es := G1) (by simp only [scY,List.cons_append,List.nil_append,getElem?_appk]; rfl) ⟨⟨by simp only [scC]; omega,by simp only [scC]; omega,by simp only [scC]; omega,by simp only [scC]; omega⟩,by simp only [scC]; omega⟩ (.mk k2 f2' t2 w2 a2 z2 ks2) kind (by omega)
     simp only [scY_nput] at gb
     have hcut := fun (S' : SM) (G' : Nms) X => scY_cut (F := F) (S := S') (G := G') (it := (j : Int)) hcl hbc X
     rw [N.enc_mk] at hr
     rw [N.v_mk] at gb
     have e7 : ∀ (S : SM) (G : Nms) (it : Int) X,(scY F H.length bx S G it ++ X)[7]? = some (.box F.tb [.ptr (H.length + 5) 0,.d .nilp,.map (H.length + 6),.d (.int .i64 it)]) := fun _ _ it X => rfl
     have e8 : ∀ (S : SM) (G : Nms) (it : Int) (x : Ob),(scY F H.length bx S G it ++ [x])[8]? = some x := fun _ _ it x => rfl
     have s8 : ∀ (it : Int) (x y : Ob),(scY F H.length bx S1 G1 it ++ [x]).set 8 y = scY F H.length bx S1 G1 it ++ [y] := fun it x y => rfl
     have s7 : ∀ (it : Int) X,(scY F H.length bx S1 G1 it ++ X).set 7 (.box F.tb [.ptr (H.length + 5) 0,.d .nilp,.map (H.length + 6),.d (.int .i64 (j : Int))]) = scY F H.length bx S1 G1 (j : Int) ++ X := fun it X => rfl
     have lY : ∀ S G it,(scY F H.length bx S G it).length = 8 := fun _ _ _ => rfl
     simp [f9,f13,hr,f4,lY,e7,e8,s8,s7,-getElem?_pos]
     have nxt : ∀ (S' : SM) (G' : Nms) (fr2 : Fr) (X : Hp),fr2 15 = .d (.int .i64 (j : Int)) → fr2 14 = .d (.int .i64 (ks.length : Int)) → fr2 1 = .ptr H.length 0 → fr2 2 = .ptr (H.length + 1) 0 → fr2 3 = .ptr (H.length + 5) 0 → fr2 4 = .ptr (H.length + 7) 0 → fr2 13 = .d (.sl z 6 (ks.map N.enc)) → topsP 0 (ks.take (j + 1)) [] ⟨[],[],[]⟩ = (G',S') →
      NextK (fun j fr' H' => fr' 1 = .ptr H.length 0 ∧ fr' 2 = .ptr (H.length + 1) 0 ∧ fr' 3 = .ptr (H.length + 5) 0 ∧ fr' 4 = .ptr (H.length + 7) 0 ∧ fr' 13 = .d (.sl z 6 (ks.map N.enc)) ∧ ∃ it,H' = H ++ scY F H.length bx (topsP 0 (ks.take j) [] ⟨[],[],[]⟩).2 (topsP 0 (ks.take j) [] ⟨[],[],[]⟩).1 it) .mk (H.length + 8) ks.length 15 14 44 j fr2 (H ++ (scY F H.length bx S' G' (j : Int) ++ X)) := fun S' G' fr2 X u15 u14 u1 u2 u3 u4 u13 hst => by
      refine NextK_of (H.length + 8) (Nat.le_refl _) (by simp [lY,u15,u14]) ?_
      refine ⟨by simp [u1],by simp [u2],by simp [u3],by simp [u4],by simp [u13],j,?_⟩
      rw [hcut,hst]
     by_cases h2 : k2 = 2
     · subst h2
       rw [if_pos (show (N.mk 2 f2' t2 w2 a2 z2 ks2).k = 2 from rfl)] at hstep
       have gb1 := gb [Ob.box F.tn [.d (.int .i64 2),.d (.int .i64 f2'),.d (.int .i64 t2),.d (.str w2),.d (.int .i64 a2),.d (.sl z2 6 (ks2.map N.enc))]] 1
       simp [f4,e7,e8,-getElem?_pos]
       refine CallE_of gb1 ?_
       simp
       refine nxt _ _ _ _ (by simp [f9]) (by simp [f8]) (by simp [f1]) (by simp [f2]) (by simp [f3]) (by simp [f4]) (by simp [f13]) ?_
       rw [hstep]
     · by_cases h3 : k2 = 3
       · subst h3
         rw [if_neg (show ¬ (N.mk 3 f2' t2 w2 a2 z2 ks2).k = 2 from h2),if_pos (show (N.mk 3 f2' t2 w2 a2 z2 ks2).k = 3 from rfl)] at hstep
         have gb1 := gb [Ob.box F.tn [.d (.int .i64 3),.d (.int .i64 f2'),.d (.int .i64 t2),.d (.str w2),.d (.int .i64 a2),.d (.sl z2 6 (ks2.map N.enc))]] 2
         simp [f4,e7,e8,-getElem?_pos]
         refine CallE_of gb1 ?_
         simp
         refine nxt _ _ _ _ (by simp [f9]) (by simp [f8]) (by simp [f1]) (by simp [f2]) (by simp [f3]) (by simp [f4]) (by simp [f13]) ?_
         rw [hstep]
       · rw [if_neg (show ¬ (N.mk k2 f2' t2 w2 a2 z2 ks2).k = 2 from h2),if_neg (show ¬ (N.mk k2 f2' t2 w2 a2 z2 ks2).k = 3 from h3)] at hstep
         simp [h2,h3,f4,e7,e8,-getElem?_pos]
         exact nxt _ _ _ _ (by simp [f9]) (by simp [f8]) (by simp [f1]) (by simp [f2]) (by simp [f3]) (by simp [f4]) (by simp [f13]) hstep
   · rintro fr' H' f9 f8 ⟨f1,f2,f3,f4,f13,it,rfl⟩
     rw [List.take_of_length_le (Nat.le_refl _)]
     simp [f1,f2,f3,f4]
     exact ⟨it,rfl⟩
 · rintro fr' H' ⟨f1,f2,f3,f4,it,rfl⟩
   have hgT := tops_grew ks 0 [] ⟨[],[],[]⟩ (FOk.nil _)
   generalize topsP 0 ks [] ⟨[],[],[]⟩ = TP at hq hgT ⊢
   obtain ⟨G,S0⟩ := TP
   obtain ⟨t1,t2,t3⟩ := hgT
   have hz : SM.sz ⟨[],[],[]⟩ = 0 := rfl
   rw [hz] at t2
   simp only at hq t1 t2 t3 ⊢
   have e0 : ∀ S (it : Int),(scY F H.length bx S G it)[0]? = some bx := fun _ _ => rfl
   have e0' : ∀ S (it : Int) X,(scY F H.length bx S G it ++ X)[0]? = some bx := fun _ _ _ => rfl
   have ebx : (H ++ scY F H.length bx S0 G it)[H.length]? = some bx := by rw [getElem?_app0]; rfl
   rw [hbx] at ebx
   have lY : ∀ S G it,(scY F H.length bx S G it).length = 8 := fun _ _ _ => rfl
   have e7 : ∀ (S : SM) (it : Int) X,(scY F H.length bx S G it ++ X)[7]? = some (.box F.tb [.ptr (H.length + 5) 0,.d .nilp,.map (H.length + 6),.d (.int .i64 it)]) := fun _ it X => rfl
   have e8 : ∀ (S : SM) (it : Int) (x : Ob),(scY F H.length bx S G it ++ [x])[8]? = some x := fun _ it x => rfl
   have s8 : ∀ (S : SM) (it : Int) (x y : Ob),(scY F H.length bx S G it ++ [x]).set 8 y = scY F H.length bx S G it ++ [y] := fun _ it x y => rfl
   have s7 : ∀ (S : SM) (it j : Int) X,(scY F H.length bx S G it ++ X).set 7 (.box F.tb [.ptr (H.length + 5) 0,.d .nilp,.map (H.length + 6),.d (.int .i64 j)]) = scY F H.length bx S G j ++ X := fun _ it j X => rfl
   have e00 : (scY F H.length bx S0 G it)[0]? = some (Ob.box F.tn [.d (.int .i64 k),.d (.int .i64 f),.d (.int .i64 t),.d (.str w),.d (.int .i64 a),.d (.sl z 6 (ks.map N.enc))]) := by rw [← hbx]; rfl
   simp [f1,e00,-getElem?_pos]
   refine LoopK_out 3 (fun fr' H' => fr' 2 = .ptr (H.length + 1) 0 ∧ fr' 3 = .ptr (H.length + 5) 0 ∧ ∃ it,H' = H ++ scY F H.length bx (defsP G 0 ks S0) G it) ?_ ?_
   · refine RangeK_of (H.length + 8) ks.length (fun j fr' H' => fr' 2 = .ptr (H.length + 1) 0 ∧ fr' 3 = .ptr (H.length + 5) 0 ∧ fr' 4 = .ptr (H.length + 7) 0 ∧ fr' 46 = .d (.sl z 6 (ks.map N.enc)) ∧ ∃ it,H' = H ++ scY F H.length bx (defsP G 0 (ks.take j) S0) G it) (by omega) (by decide) (by simp [scY]) (by simp) ?_ ?_ ?_
     · have hc0 := scY_cut (F := F) (S := S0) (G := G) (it := it) hcl hbc []
       rw [List.append_nil] at hc0
       rw [List.take_zero]
       refine ⟨by simp [f2],by simp [f3],by simp [f4],by simp,it,?_⟩
       rw [hc0]; rfl
     · rintro j fr' H' hj f9 f8 ⟨f2,f3,f4,f13,it,rfl⟩
       have hr := rowAt_map N.enc hj
       have hll : (ks.take j).length = j := by simp; omega
       have hgr := defs_grew G (ks.take j) 0 S0
       have hstep := defsP_snoc G ks[j] (ks.take j) 0 S0
       rw [← List.take_succ_eq_append_getElem hj,hll,Int.zero_add] at hstep
       have hsz : N.sizes (ks.take j) + (ks[j]).size ≤ N.sizes ks := by
        have : ks = ks.take j ++ ks[j] :: ks.drop (j + 1) := by rw [List.getElem_cons_drop]; simp
        have e : N.sizes ks = N.sizes (ks.take j) + (ks[j].size + N.sizes (ks.drop (j + 1))) := by conv => lhs; rw [this,N.sizes_app,N.sizes_cons]
        omega
       generalize ks[j] = x at hr hstep hsz
       generalize defsP G 0 (ks.take j) S0 = S1 at hgr hstep ⊢
       obtain ⟨k2,f2',t2',w2,a2,z2,ks2⟩ := x
       rw [N.size_mk] at hsz
       have hcut := fun (S' : SM) X => scY_cut (F := F) (S := S') (G := G) (it := (j : Int)) hcl hbc X
       have hO : ∀ X,OInv F (scC H.length) S1 (.d .nilp) j G [] (H ++ (scY F H.length bx S1 G (j : Int) ++ X)) := fun X => ⟨scY_inv X,rfl,by simp⟩
       have gc := fun X => hF.closed' hW (z := z2) (ks := ks2) (fun p _ => hF.node' hW p) (hO X) false (t3.mono hgr.1) (by simp) (by omega) (by simp; omega)
       simp only [scY_sput,List.map_nil] at gc
       rw [N.enc_mk] at hr
       have nxt : ∀ (S' : SM) (fr2 : Fr) (X : Hp),fr2 48 = .d (.int .i64 (j : Int)) → fr2 47 = .d (.int .i64 (ks.length : Int)) → fr2 2 = .ptr (H.length + 1) 0 → fr2 3 = .ptr (H.length + 5) 0 → fr2 4 = .ptr (H.length + 7) 0 → fr2 46 = .d (.sl z 6 (ks.map N.enc)) → defsP G 0 (ks.take (j + 1)) S0 = S' →
        NextK (fun j fr' H' => fr' 2 = .ptr (H.length + 1) 0 ∧ fr' 3 = .ptr (H.length + 5) 0 ∧ fr' 4 = .ptr (H.length + 7) 0 ∧ fr' 46 = .d (.sl z 6 (ks.map N.enc)) ∧ ∃ it,H' = H ++ scY F H.length bx (defsP G 0 (ks.take j) S0) G it) .mk (H.length + 8) ks.length 48 47 64 j fr2 (H ++ (scY F H.length bx S' G (j : Int) ++ X)) := fun S' fr2 X u15 u14 u2 u3 u4 u13 hst => by
        refine NextK_of (H.length + 8) (Nat.le_refl _) (by simp [lY,u15,u14]) ?_
        refine ⟨by simp [u2],by simp [u3],by simp [u4],by simp [u13],j,?_⟩
        rw [hcut,hst]
       by_cases h3 : k2 = 3
       · subst h3
         rw [if_pos (show (N.mk 3 f2' t2' w2 a2 z2 ks2).k = 3 from rfl)] at hstep
         simp [f9,f13,hr,f4,lY,e7,e8,s8,s7,-getElem?_pos]
         refine CallK_of' (gc _) ?_
         simp
         exact nxt _ _ _ (by simp [f9]) (by simp [f8]) (by simp [f2]) (by simp [f3]) (by simp [f4]) (by simp [f13]) hstep
       · rw [if_neg (show ¬ (N.mk k2 f2' t2' w2 a2 z2 ks2).k = 3 from h3)] at hstep
         simp [f9,f13,hr,f4,lY,e7,e8,s8,s7,h3,-getElem?_pos]
         exact nxt _ _ _ (by simp [f9]) (by simp [f8]) (by simp [f2]) (by simp [f3]) (by simp [f4]) (by simp [f13]) hstep
     · rintro fr' H' f9 f8 ⟨f2,f3,f4,f13,it,rfl⟩
       rw [List.take_of_length_le (Nat.le_refl _)]
       simp [f2,f3]
       exact ⟨it,rfl⟩
   · rintro fr' H' ⟨f2,f3,it,rfl⟩
     exact hq it fr' f3 f2
end
end
section
section
variable {P : Program} {F : SF} {H : Hp}
theorem SHas.of' (hF : SHas P F) (hW : HasW P F) {fof : FuncId} (hof : HasT P [5000003,8200003,6000034,6000043] fof (irScOf F.bind F.closed F.srt F.cmp F.tn F.tm F.tb F.bd F.mn F.ed))
 (hs : ∀ (H : Hp) (i : Nat) (L : List (Int × Int)),H[i]? = some (arrE encBad 2 L) → L.length ≤ 1099511627776 → ACall P F.srt [.msl i 0 L.length,.d (.fn F.cmp)] H (fun r H' => r = .tup [] ∧ H' = H.set i (arrE encBad 2 (ssort cBad L))))
 (hs0 : ∀ (H : Hp),ACall P F.srt [.d (.sl true 2 []),.d (.fn F.cmp)] H (fun r H' => r = .tup [] ∧ H' = H)) (n : N) (hn : n.size ≤ 68719476736) (H : Hp) :
 ACall P fof [n.v] H (fun r H' => r = .agg ((scopeM n).enc.map .d) ∧ H' = H) := by
 obtain ⟨k,f,t,w,a,z,ks⟩ := n
 rw [N.size_mk] at hn
 have hsl := N.sizes_len ks
 have hall : allP (.mk k f t w a z ks) = defsP (topsP 0 ks [] ⟨[],[],[]⟩).1 0 ks (topsP 0 ks [] ⟨[],[],[]⟩).2 := rfl
 have hall2 : (defsP (topsP 0 ks [] ⟨[],[],[]⟩).1 0 ks (topsP 0 ks [] ⟨[],[],[]⟩).2).sz ≤ 4 * N.sizes ks := by
  have h1 := (tops_grew ks 0 [] ⟨[],[],[]⟩ (FOk.nil _)).sz
  have h2 := (defs_grew (topsP 0 ks [] ⟨[],[],[]⟩).1 ks 0 (topsP 0 ks [] ⟨[],[],[]⟩).2).2
  have h3 : SM.sz ⟨[],[],[]⟩ = 0 := rfl
  omega
 have hw := hF.ofW hW hof (H := H) (k := k) (f := f) (t := t) (w := w) (a := a) (z := z) (ks := ks) (by omega)
 unfold scopeM
 rw [hall]
 obtain ⟨bx,hbx⟩ : ∃ bx,bx = Ob.box F.tn [.d (.int .i64 k),.d (.int .i64 f),.d (.int .i64 t),.d (.str w),.d (.int .i64 a),.d (.sl z 6 (ks.map N.enc))] := ⟨_,rfl⟩
 have hbc : ∀ n,bx.clr n = bx := fun n => by subst hbx; simp
 rw [← hbx] at hw
 generalize defsP (topsP 0 ks [] ⟨[],[],[]⟩).1 0 ks (topsP 0 ks [] ⟨[],[],[]⟩).2 = S at hw hall2 ⊢
 generalize (topsP 0 ks [] ⟨[],[],[]⟩).1 = G at hw
 have hbl : S.bad.length ≤ 1099511627776 := by unfold SM.sz at hall2; omega
 obtain ⟨bs,ms,bad⟩ := S
 simp only at hbl
 by_cases hb : bad = []
 · subst hb
   have hso : ssort cBad ([] : List (Int × Int)) = [] := rfl
   rw [hso]
   have hgoal : (SM.enc ⟨bs,ms,[]⟩).map A.d = [.d (.sl (bs.map encBd).isEmpty 4 (bs.map encBd)),.d (.sl (ms.map encMn).isEmpty 4 (ms.map encMn)),.d (.sl true 2 [])] := by
    simp [SM.enc]
   rw [hgoal]
   refine ACall.freeze3n (k := 4) (e := F.ed) (nrm_osl (t := H.length + 2)) (nrm_osl (t := H.length + 3)) ?_
   refine hw 5 _ fun hcl it fr f3 f2 => ?_
   have y5 : (scY F H.length bx ⟨bs,ms,[]⟩ G it)[5]? = some (.box F.tm [.osl true 4 (bs.map encBd) (H.length + 2),.osl true 4 (ms.map encMn) (H.length + 3),.vsl (H.length + 4) 0 0]) := rfl
   have y1 : (scY F H.length bx ⟨bs,ms,[]⟩ G it)[1]? = some (.box F.tm [.d (.sl true 4 []),.d (.sl true 4 []),.d (.sl true 2 [])]) := rfl
   have y4 : (H ++ scY F H.length bx ⟨bs,ms,[]⟩ G it)[H.length + 4]? = some (.vec 2 F.ed 0 []) := by rw [getElem?_appk]; rfl
   simp [scTail,f3,y5,-getElem?_pos]
   refine CallK_of' (ACall.vecNil y4 (hs0 _)) ?_
   simp [f3,f2,y5,y1,-getElem?_pos]
   have lY : (scY F H.length bx ⟨bs,ms,[]⟩ G it).length = 8 := rfl
   have y1' : ((scY F H.length bx ⟨bs,ms,[]⟩ G it).set 1 (.box F.tm [.osl true 4 (bs.map encBd) (H.length + 2),.osl true 4 (ms.map encMn) (H.length + 3),.vsl (H.length + 4) 0 0]))[1]? = some (.box F.tm [.osl true 4 (bs.map encBd) (H.length + 2),.osl true 4 (ms.map encMn) (H.length + 3),.vsl (H.length + 4) 0 0]) := rfl
   have hcut : ∃ X : Hp,X[4]? = some (.vec 2 F.ed 0 []) ∧ Hp.cut (H.length + 5) (H ++ (scY F H.length bx ⟨bs,ms,[]⟩ G it).set 1 (.box F.tm [.osl true 4 (bs.map encBd) (H.length + 2),.osl true 4 (ms.map encMn) (H.length + 3),.vsl (H.length + 4) 0 0])) = H ++ X := ⟨_,rfl,cut_appk hcl _ _⟩
   simp [RetK,resA,f2,y1',lY,-getElem?_pos]
   exact hcut
 · have hne : bad.map encBad ≠ [] := by simpa using hb
   have hbz : bad.length = (ssort cBad bad).length := (ssort_length cBad_cmp bad).symm
   have hbe : (ssort cBad bad).isEmpty = false := by
    cases hq : ssort cBad bad with
    | nil => rw [hq] at hbz; simp at hbz; exact absurd hbz hb
    | cons x r => rfl
   have hgoal : (SM.enc ⟨bs,ms,ssort cBad bad⟩).map A.d = [.d (.sl (bs.map encBd).isEmpty 4 (bs.map encBd)),.d (.sl (ms.map encMn).isEmpty 4 (ms.map encMn)),.d (.sl false 2 ((ssort cBad bad).map encBad))] := by
    simp [SM.enc,hbe]
   rw [hgoal]
   refine ACall.freeze3 (k := 8) (nrm_osl (t := H.length + 2)) (nrm_osl (t := H.length + 3)) ?_
   refine hw 9 _ fun hcl it fr f3 f2 => ?_
   have y5 : (scY F H.length bx ⟨bs,ms,bad⟩ G it)[5]? = some (.box F.tm [.osl true 4 (bs.map encBd) (H.length + 2),.osl true 4 (ms.map encMn) (H.length + 3),.vsl (H.length + 4) bad.length bad.length]) := rfl
   have y4 : (H ++ scY F H.length bx ⟨bs,ms,bad⟩ G it)[H.length + 4]? = some (.vec 2 F.ed bad.length (bad.map encBad)) := by rw [getElem?_appk]; rfl
   have y5' : (H ++ scY F H.length bx ⟨bs,ms,bad⟩ G it)[H.length + 5]? = some (.box F.tm [.osl true 4 (bs.map encBd) (H.length + 2),.osl true 4 (ms.map encMn) (H.length + 3),.vsl (H.length + 4) bad.length bad.length]) := by rw [getElem?_appk]; rfl
   have hl8 : (H ++ scY F H.length bx ⟨bs,ms,bad⟩ G it).length = H.length + 8 := by simp [scY]
   have gs := hs ((((H ++ scY F H.length bx ⟨bs,ms,bad⟩ G it).set (H.length + 4) .dead).set (H.length + 5) (.box F.tm [.osl true 4 (bs.map encBd) (H.length + 2),.osl true 4 (ms.map encMn) (H.length + 3),.msl (H.length + 8) 0 bad.length])) ++ [arrE encBad 2 bad]) (H.length + 8) bad
    (by rw [List.getElem?_append_right (by simp [scY]),show H.length + 8 - _ = 0 by simp [scY]]; rfl) hbl
   have gv := ACall.vecArr (P := P) (f := F.srt) (q := 2) (args := [.d (.fn F.cmp)]) (Q := fun r H' => r = .tup [] ∧ H' = ((((H ++ scY F H.length bx ⟨bs,ms,bad⟩ G it).set (H.length + 4) .dead).set (H.length + 5) (.box F.tm [.osl true 4 (bs.map encBd) (H.length + 2),.osl true 4 (ms.map encMn) (H.length + 3),.msl (H.length + 8) 0 bad.length])) ++ [arrE encBad 2 (ssort cBad bad)]))
    y4 hne y5' (by simp) (by
     rw [hl8,List.length_map,← arrE_map]
     refine gs.mono ?_
     rintro r H' ⟨rfl,rfl⟩
     refine ⟨rfl,?_⟩
     rw [List.set_append_right _ _ (by simp [scY]),show H.length + 8 - _ = 0 by simp [scY]]; rfl)
   rw [List.length_map] at gv
   simp [scTail,f3,y5,-getElem?_pos]
   refine CallK_of' gv ?_
   rw [List.set_append_right _ _ (by omega),List.set_append_right _ _ (by simp)]
   simp only [Nat.add_sub_cancel_left]
   obtain ⟨Z,hZ⟩ : ∃ Z,Z = (((scY F H.length bx ⟨bs,ms,bad⟩ G it).set 4 .dead).set 5 (.box F.tm [.osl true 4 (bs.map encBd) (H.length + 2),.osl true 4 (ms.map encMn) (H.length + 3),.msl (H.length + 8) 0 bad.length]) ++ [arrE encBad 2 (ssort cBad bad)]) := ⟨_,rfl⟩
   have z5 : Z[5]? = some (.box F.tm [.osl true 4 (bs.map encBd) (H.length + 2),.osl true 4 (ms.map encMn) (H.length + 3),.msl (H.length + 8) 0 bad.length]) := by subst hZ; rfl
   have z1 : Z[1]? = some (.box F.tm [.d (.sl true 4 []),.d (.sl true 4 []),.d (.sl true 2 [])]) := by subst hZ; rfl
   have z1' : (Z.set 1 (.box F.tm [.osl true 4 (bs.map encBd) (H.length + 2),.osl true 4 (ms.map encMn) (H.length + 3),.msl (H.length + 8) 0 bad.length]))[1]? = some (.box F.tm [.osl true 4 (bs.map encBd) (H.length + 2),.osl true 4 (ms.map encMn) (H.length + 3),.msl (H.length + 8) 0 bad.length]) := by subst hZ; rfl
   have lZ : Z.length = 9 := by subst hZ; rfl
   have hcut : ∃ X : Hp,X[8]? = some (.arr 2 (((ssort cBad bad).map encBad).map (List.map .d))) ∧ Hp.cut (H.length + 9) (H ++ Z.set 1 (.box F.tm [.osl true 4 (bs.map encBd) (H.length + 2),.osl true 4 (ms.map encMn) (H.length + 3),.msl (H.length + 8) 0 bad.length])) = H ++ X := by
    refine ⟨_,?_,cut_appk hcl _ _⟩
    subst hZ
    have : (Ob.clr (H.length + 9) (arrE encBad 2 (ssort cBad bad))) = .arr 2 (((ssort cBad bad).map encBad).map (List.map .d)) := by rw [← arrE_map]; exact arrE_clr ..
    rw [← this]; rfl
   rw [List.append_assoc,← hZ]
   simp [f3,f2,z5,z1,-getElem?_pos]
   simp [RetK,resA,f2,z1',lZ,hbz,-getElem?_pos]
   rw [hbz] at hcut
   simpa using hcut
end
end
section
structure RSF where
 (rbind rclosed rbegin rnode rmention : FuncId)
 (tn rtm rnm red rbd rmn : TypeId)
structure RSC where
 (im tb tm td : Nat)
def rbox (F : RSF) (c : RSC) (S : SM) : Ob := .box F.rtm [.osl true 4 (S.bs.map encBd) c.tb,.osl true 4 (S.ms.map encMn) c.tm,.osl true 2 (S.bad.map encBad) c.td]
structure RSInv (F : RSF) (c : RSC) (S : SM) (H : Hp) : Prop where
 m : H[c.im]? = some (rbox F c S)
 b : H[c.tb]? = some (.tok S.bs.length 4 F.rbd)
 e : H[c.tm]? = some (.tok S.ms.length 4 F.rmn)
 d : H[c.td]? = some (.tok S.bad.length 2 F.red)
 nd : (c.im ≠ c.tb ∧ c.im ≠ c.tm ∧ c.im ≠ c.td) ∧ (c.tb ≠ c.tm ∧ c.tb ≠ c.td) ∧ c.tm ≠ c.td
def rsput (F : RSF) (c : RSC) (S : SM) (H : Hp) : Hp := (((H.set c.td (.tok S.bad.length 2 F.red)).set c.tm (.tok S.ms.length 4 F.rmn)).set c.tb (.tok S.bs.length 4 F.rbd)).set c.im (rbox F c S)
section
variable {F : RSF} {c : RSC} {S S' : SM} {H : Hp}
theorem rsput_len : (rsput F c S H).length = H.length := by simp [rsput]
theorem RSInv.lt (h : RSInv F c S H) : c.im < H.length ∧ c.tb < H.length ∧ c.tm < H.length ∧ c.td < H.length := ⟨scan_len h.m,scan_len h.b,scan_len h.e,scan_len h.d⟩
theorem rsput_app (h : RSInv F c S H) (X : Hp) : rsput F c S' (H ++ X) = rsput F c S' H ++ X := by
 obtain ⟨a,b,d,e⟩ := h.lt
 unfold rsput
 rw [List.set_append_left _ _ e,List.set_append_left _ _ (by simpa using d),List.set_append_left _ _ (by simpa using b),List.set_append_left _ _ (by simpa using a)]
theorem RSInv.app (h : RSInv F c S H) (X : Hp) : RSInv F c S (H ++ X) := ⟨get_app h.m X,get_app h.b X,get_app h.e X,get_app h.d X,h.nd⟩
theorem RSInv.put (h : RSInv F c S H) (S' : SM) : RSInv F c S' (rsput F c S' H) := by
 obtain ⟨p1,p2,p3,p4⟩ := h.lt
 obtain ⟨a,b,d⟩ := h.nd
 refine ⟨?_,?_,?_,?_,h.nd⟩
 · unfold rsput; rw [List.getElem?_set_self (by simpa using p1)]
 · unfold rsput; rw [List.getElem?_set_ne a.1,List.getElem?_set_self (by simpa using p2)]
 · unfold rsput; rw [List.getElem?_set_ne a.2.1,List.getElem?_set_ne b.1,List.getElem?_set_self (by simpa using p3)]
 · unfold rsput; rw [List.getElem?_set_ne a.2.2,List.getElem?_set_ne b.2,List.getElem?_set_ne d,List.getElem?_set_self (by simpa using p4)]
theorem rsput_self (h : RSInv F c S H) : rsput F c S H = H := by
 unfold rsput
 rw [Hp.set_self h.d,Hp.set_self h.e,Hp.set_self h.b,Hp.set_self h.m]
theorem rsput_rsput (S S' : SM) : rsput F c S' (rsput F c S H) = rsput F c S' H := by
 refine List.ext_getElem? fun j => ?_
 unfold rsput
 simp only [List.getElem?_set,List.length_set]
 split
 · rfl
 · split
   · rfl
   · split
     · rfl
     · split
       · rfl
       · simp_all
theorem rbox_clr {n : Nat} (h1 : c.tb < n) (h2 : c.tm < n) (h3 : c.td < n) : (rbox F c S).clr n = rbox F c S := by simp [rbox,h1,h2,h3]
theorem rsput_cutX (h : RSInv F c S H) (hc : H.Closed) (X : Hp) : Hp.cut H.length (rsput F c S' H ++ X) = rsput F c S' H := by
 obtain ⟨p1,p2,p3,p4⟩ := h.lt
 rw [cut_appL (by rw [rsput_len])]
 unfold rsput
 rw [Hp.cut_set,Hp.cut_set,Hp.cut_set,Hp.cut_set,cut_self hc,rbox_clr p2 p3 p4]
 simp
theorem rsput_bad (h : RSInv F c S H) (l : List (Int × Int)) : rsput F c ⟨S.bs,S.ms,l⟩ H = (H.set c.td (.tok l.length 2 F.red)).set c.im (rbox F c ⟨S.bs,S.ms,l⟩) := by
 obtain ⟨a,b,d⟩ := h.nd
 unfold rsput
 rw [Hp.set_self (i := c.tm) (by rw [List.getElem?_set_ne d.symm]; exact h.e),Hp.set_self (i := c.tb) (by rw [List.getElem?_set_ne b.2.symm]; exact h.b)]
theorem rsput_bs (h : RSInv F c S H) (l : List SBd) : rsput F c ⟨l,S.ms,S.bad⟩ H = (H.set c.tb (.tok l.length 4 F.rbd)).set c.im (rbox F c ⟨l,S.ms,S.bad⟩) := by
 unfold rsput
 rw [Hp.set_self h.d,Hp.set_self h.e]
theorem rsput_ms (h : RSInv F c S H) (l : List Mn) : rsput F c ⟨S.bs,l,S.bad⟩ H = (H.set c.tm (.tok l.length 4 F.rmn)).set c.im (rbox F c ⟨S.bs,l,S.bad⟩) := by
 obtain ⟨a,b,d⟩ := h.nd
 unfold rsput
 rw [Hp.set_self h.d,Hp.set_self (i := c.tb) (by rw [List.getElem?_set_ne b.1.symm]; exact h.b)]
end
def NmOk (n : Nat) (M : List Nm) : Prop := ∀ x ∈ M,x.beg = false → 0 ≤ x.to ∧ x.to < n
theorem NmOk.mono {n m : Nat} {M : List Nm} (h : NmOk n M) (hm : n ≤ m) : NmOk m M := fun x hx hb => by have := h x hx hb; omega
theorem NmOk.new {n : Nat} {M : List Nm} (h : NmOk n M) (lam : Bool) : NmOk n (⟨0,true,lam⟩ :: M) := fun x hx hb => by
 rcases List.mem_cons.1 hx with rfl | hx
 · cases hb
 · exact h x hx hb
theorem look_far {bs : List SBd} {w : Bs} : ∀ {M : List Nm} {far i f : Int},lookR bs w M far = some (i,f) → far ≤ f ∧ f ≤ far + M.length
 | [],far,i,f,h => by cases h
 | x :: r, far, i, f, h => by
   simp only [lookR] at h
   simp only [List.length_cons]
   split at h
   · have := look_far h
     split at this <;> omega
   · split at h
     · cases h; omega
     · have := look_far h; omega
structure GrewR (S S' : SM) (k : Nat) (M M' : List Nm) : Prop where
 bs : S.bs.length ≤ S'.bs.length
 sz : S'.sz ≤ S.sz + 2 * k
 len : M'.length ≤ M.length + k
 ok : NmOk S'.bs.length M'
theorem GrewR.bind {S : SM} {M : List Nm} (h : NmOk S.bs.length M) (kind item : Int) (n : N) : GrewR S (bindR kind item n M S).2 1 M (bindR kind item n M S).1 := by
 refine ⟨by simp [bindR,SM.bind],SM.bind_sz S kind item n _,by simp [bindR],fun x hx hb => ?_⟩
 simp only [bindR,SM.bind] at hx ⊢
 rcases List.mem_cons.1 hx with rfl | hx
 · simp; omega
 · have := h x hx hb; simp; omega
theorem GrewR.binds {item : Int} : ∀ (l : List N) {S : SM} {M : List Nm},NmOk S.bs.length M → GrewR S (bindsR item l M S).2 l.length M (bindsR item l M S).1
 | [],S,M,h => ⟨Nat.le_refl _,by simp [bindsR],by simp [bindsR],h⟩
 | n :: r, S, M, h => by
   have h1 := GrewR.bind h 3 item n
   have h2 := GrewR.binds (item := item) r h1.ok
   refine ⟨Nat.le_trans h1.bs h2.bs,?_,?_,h2.ok⟩
   · have := h1.sz; have := h2.sz
     simp only [bindsR,List.length_cons]; omega
   · have := h1.len; have := h2.len
     simp only [bindsR,List.length_cons]; omega
def GrewRN (n : N) : Prop := ∀ (item : Int) (M : List Nm) (S : SM),NmOk S.bs.length M → GrewR S (nodeR item n M S).2 n.size M (nodeR item n M S).1
theorem grewR_kids {ks : List N} (ih : ∀ p ∈ ks,GrewRN p) : ∀ (item : Int) (M : List Nm) (S : SM),NmOk S.bs.length M → GrewR S (kidsR item ks M S).2 (N.sizes ks) M (kidsR item ks M S).1 := by
 induction ks with
 | nil => intro item M S h; rw [kidsR_nil]; exact ⟨Nat.le_refl _,by simp,by simp,h⟩
 | cons n r ih2 =>
   intro item M S h
   have h1 := ih n (by simp) item M S h
   have h2 := ih2 (fun p hp => ih p (by simp [hp])) item _ _ h1.ok
   rw [kidsR_cons,N.sizes_cons]
   refine ⟨Nat.le_trans h1.bs h2.bs,?_,?_,h2.ok⟩
   · have := h1.sz; have := h2.sz; omega
   · have := h1.len; have := h2.len; omega
theorem grewR_closed {ks : List N} (ih : ∀ p ∈ ks,GrewRN p) (item : Int) (M : List Nm) (lam : Bool) (S : SM) (h : NmOk S.bs.length M) : S.bs.length ≤ (sclosedR item ks M lam S).bs.length ∧ (sclosedR item ks M lam S).sz ≤ S.sz + 2 * N.sizes ks := by
 by_cases hl : ks.length = 3
 · match ks,hl with
   | [p, q, b], _ =>
     rw [sclosedR_three]
     have h1 := GrewR.binds (item := item) p.ks (h.new lam)
     have h2 := ih b (by simp) item _ _ h1.ok
     have := h1.sz; have := h2.sz; have := h1.bs; have := h2.bs
     have h3 := N.sizes_len p.ks
     have h4 := N.size_ks p
     simp only [N.sizes_cons,N.sizes_nil]
     omega
 · rw [sclosedR_ne _ hl]; omega
theorem grewR (n : N) : GrewRN n := by
 induction n using N.ind with
 | h k f t w a z ks ih =>
 intro item M S h
 rw [nodeR_mk,N.size_mk]
 by_cases h6 : k = 6
 · rw [if_pos h6]
   have h1 := grewR_kids ih item _ S (h.new false)
   have := h1.sz
   exact ⟨h1.bs,by simp only; omega,by simp only; omega,h.mono h1.bs⟩
 rw [if_neg h6]
 by_cases h7 : k = 7
 · rw [if_pos h7]
   have h1 := grewR_kids ih item M S h
   have h2 := GrewR.bind h1.ok 4 item (.mk k f t w a z ks)
   have := h1.sz; have := h2.sz; have := h1.len; have := h2.len
   exact ⟨Nat.le_trans h1.bs h2.bs,by omega,by omega,h2.ok⟩
 rw [if_neg h7]
 by_cases h8 : k = 8
 · rw [if_pos h8]
   have h1 := grewR_kids ih item M (S.men (.mk k f t w a z ks) true (findR S.bs w M)) h
   have := h1.sz; have := h1.len
   have := SM.men_sz S (.mk k f t w a z ks) true (findR S.bs w M)
   exact ⟨h1.bs,by omega,by omega,h1.ok⟩
 rw [if_neg h8]
 by_cases h9 : k = 23
 · rw [if_pos h9]
   have := SM.men_sz S (.mk k f t w a z ks) false (findR S.bs w M)
   exact ⟨Nat.le_refl _,by simp only; omega,by simp only; omega,h⟩
 rw [if_neg h9]
 by_cases h10 : k = 28
 · rw [if_pos h10]
   have h1 := grewR_closed ih item M true S h
   exact ⟨h1.1,by simp only; omega,by simp only; omega,h.mono h1.1⟩
 rw [if_neg h10]
 have h1 := grewR_kids ih item M S h
 have := h1.sz; have := h1.len
 exact ⟨h1.bs,by omega,by omega,h1.ok⟩
structure RSHas (P : Program) (F : RSF) : Prop where
 rbind : HasT P [12] F.rbind (irScRBind F.tn F.rnm F.red F.rbd)
 rclosed : Has P F.rclosed (irScRClosed F.rbegin F.rbind F.rnode)
 rbegin : HasT P [5] F.rbegin (irScRBegin F.rnm)
 rnode : Has P F.rnode (irScRNode F.rmention F.rclosed F.rbegin F.rnode F.rbind F.tn)
 rmention : Has P F.rmention (irScRMention F.tn F.rmn F.red)
def nms (M : List Nm) : A := .d (.sl true 3 (M.reverse.map encNm))
theorem nms_at {pre R : List Nm} {x : Nm} : Zam.rowAt ((pre ++ x :: R).reverse.map encNm) (R.length : Int) = some (encNm x) := by
 have : (pre ++ x :: R).reverse[R.length]? = some x := by
  rw [List.reverse_append,List.reverse_cons,List.append_assoc,List.getElem?_append_right (by simp)]
  simp
 exact rowAt_get this
section
variable {P : Program} {F : RSF} {c : RSC} {S S' : SM} {H : Hp}
theorem RSHas.begin' (hF : RSHas P F) (M : List Nm) (lam : Bool) (hb : M.length ≤ 4398046511104) (H : Hp) : ACall P F.rbegin [nms M,.d (.bool lam)] H (fun r H' => r = nms (⟨0,true,lam⟩ :: M) ∧ H' = H) := by
 obtain ⟨fn,hf,hcf⟩ := hF.rbegin
 refine acall_fin hf hcf (by simp [irScRBegin]) fun hcl _ => ?_
 have h1 : M.length * 16 ≤ 140737488355328 := by omega
 have h2 : (M.length + 1) * 16 ≤ 140737488355328 := by omega
 simp [irScRBegin,nms,appA,h1,h2]
 simp [RetK,cut_app hcl,encNm]
end
end
section
def muI : A → Nat
 | .d (.int _ k) => (k + 1).toNat
 | _ => 0
section
variable {P : Program} {F : RSF} {c : RSC} {S S' : SM} {H : Hp}
theorem RSHas.bind' (hF : RSHas P F) (h : RSInv F c S H) (M : List Nm) (hM : NmOk S.bs.length M) (n : N) (kind item : Int) (hb : S.sz ≤ 2199023255552) (hl : M.length ≤ 2199023255552) :
 ACall P F.rbind [.ptr c.im 0,nms M,n.v,.d (.int .i64 kind),.d (.int .i64 item)] H (fun r H' => r = nms (bindR kind item n M S).1 ∧ H' = rsput F c (bindR kind item n M S).2 H) := by
 obtain ⟨fn,hf,hcf⟩ := hF.rbind
 refine acall_fin hf hcf (by simp [irScRBind]) fun hcl _ => ?_
 obtain ⟨k,f,t,w,a,z,ks⟩ := n
 rw [N.v_mk]
 obtain ⟨p1,p2,p3,p4⟩ := h.lt
 obtain ⟨na,nb,nd⟩ := h.nd
 obtain ⟨bx,hbx⟩ : ∃ bx,bx = Ob.box F.tn [.d (.int .i64 k),.d (.int .i64 f),.d (.int .i64 t),.d (.str w),.d (.int .i64 a),.d (.sl z 6 (ks.map N.enc))] := ⟨_,rfl⟩
 have hbc : ∀ n,bx.clr n = bx := fun n => by subst hbx; simp
 have hcut1 : ∀ X,Hp.cut (H.length + 1) (H ++ bx :: X) = H ++ [bx] := fun X => by
  rw [cut_appk hcl]; simp [-Ob.clr,hbc]
 have hw1 : IntKind.i64.wrap ((M.length : Int) - 1) = M.length - 1 := wrap_i64 (by omega) (by omega)
 have hfit1 : (S.bad.length + 1) * 16 ≤ 140737488355328 := by unfold SM.sz at hb; omega
 have hfit2 : (S.bs.length + 1) * 40 ≤ 140737488355328 := by unfold SM.sz at hb; omega
 have hfit3 : M.length * 16 ≤ 140737488355328 := by omega
 have hfit4 : (M.length + 1) * 16 ≤ 140737488355328 := by omega
 have hm := h.m
 have hd := h.d
 have hA := fun X => (h.app X).m
 have hAd := fun X => (h.app X).d
 have hAm2 : ∀ X o,((H ++ X).set c.td o)[c.im]? = some (rbox F c S) := fun X o => by rw [List.getElem?_set_ne na.2.2.symm]; exact hA X
 simp only [rbox] at hA hAm2
 simp [irScRBind,nms,hw1,-List.map_reverse]
 rw [← hbx]
 refine LoopK_out 0 (fun fr H' => fr 0 = .ptr c.im 0 ∧ fr 1 = .d (.sl true 3 (M.reverse.map encNm)) ∧ fr 3 = .d (.int .i64 kind) ∧ fr 4 = .d (.int .i64 item) ∧ fr 7 = .ptr H.length 0 ∧ H' = rsput F c ⟨S.bs,S.ms,if dupR S.bs w M then S.bad ++ [(a,31)] else S.bad⟩ H ++ [bx]) ?_ ?_
 · refine LoopK_of (H.length + 1) (fun fr H' => fr 0 = .ptr c.im 0 ∧ fr 1 = .d (.sl true 3 (M.reverse.map encNm)) ∧ fr 3 = .d (.int .i64 kind) ∧ fr 4 = .d (.int .i64 item) ∧ fr 7 = .ptr H.length 0 ∧ H' = H ++ [bx] ∧ ∃ pre R,M = pre ++ R ∧ dupR S.bs w M = dupR S.bs w R ∧ fr 11 = .d (.int .i64 ((R.length : Int) - 1))) (fun fr _ => muI (fr 11)) (by simp) ?_ ?_
   · have := hcut1 []
     refine ⟨by simp [p1]; omega,by simp [-List.map_reverse],by simp,by simp,by simp,this,[],M,rfl,rfl,by simp⟩
   · rintro fr H' ⟨f0,f1,f3,f4,f7,rfl,pre,R,hMe,hdup,f11⟩
     have hself : rsput F c ⟨S.bs,S.ms,S.bad⟩ H = H := rsput_self h
     cases R with
     | nil =>
       simp [f0,f1,f3,f4,f7,f11,-List.map_reverse]
       rw [hdup]
       simp [dupR,hself,f0,f1,f3,f4,f7]
     | cons x R =>
       have hrow := nms_at (pre := pre) (R := R) (x := x)
       rw [← hMe] at hrow
       have e11 : (((x :: R).length : Int) - 1) = (R.length : Int) := by simp
       rw [e11] at f11
       have hge : ¬ ((R.length : Int) < 0) := by omega
       obtain ⟨xt,xb,xl⟩ := x
       simp only [encNm] at hrow
       cases xb with
       | true =>
         simp [f0,f1,f3,f4,f7,f11,hrow,-List.map_reverse]
         rw [hdup]
         simp [dupR,hself,f0,f1,f3,f4,f7]
       | false =>
         obtain ⟨o1,o2⟩ := hM ⟨xt,false,xl⟩ (by rw [hMe]; simp) rfl
         simp only at o1 o2
         obtain ⟨i,rfl⟩ : ∃ i : Nat,xt = (i : Int) := ⟨xt.toNat,by omega⟩
         have hil : i < S.bs.length := by omega
         have hr := rowAt_map encBd hil
         have hword : swordR S.bs ⟨(i : Int),false,xl⟩ = S.bs[i].w := by unfold swordR; simp [List.getD_eq_getElem?_getD,hil]
         have hdup2 : dupR S.bs w (⟨(i : Int),false,xl⟩ :: R) = if S.bs[i].w = w then true else dupR S.bs w R := by
          simp only [dupR,hword]; rfl
         rw [hdup2] at hdup
         generalize S.bs[i] = b at hr hdup
         obtain ⟨ba,bk,bw,bi⟩ := b
         simp only [encBd] at hr hdup
         have hbxr : (H ++ [bx])[H.length]? = some bx := by simp
         rw [hbx] at hbxr
         by_cases hw : bw = w
         · rw [if_pos hw] at hdup
           subst hw
           have hsb := rsput_bad h (S.bad ++ [(a,31)])
           have hfin : ((H ++ [bx]).set c.td (.tok (S.bad.length + 1) 2 F.red)).set c.im (rbox F c ⟨S.bs,S.ms,S.bad ++ [(a,31)]⟩) = rsput F c ⟨S.bs,S.ms,S.bad ++ [(a,31)]⟩ H ++ [bx] := by
            rw [hsb,List.set_append_left _ _ p4,List.set_append_left _ _ (by simpa using p1)]; simp
           simp only [rbox] at hfin
           simp [encBad] at hfin
           rw [← hbx] at hbxr
           have hA1 := hA [bx]
           have hAd1 := hAd [bx]
           have hAm1 := hAm2 [bx]
           generalize H ++ [bx] = W at hA1 hAd1 hAm1 hbxr hfin ⊢
           rw [hbx] at hbxr
           simp [f0,f1,f3,f4,f7,f11,hrow,hA1,hr,hbxr,hAd1,hAm1,hfit1,appA,-List.map_reverse]
           rw [hdup]
           simp [f0,f1,f3,f4,f7]
           rw [hfin]
         · rw [if_neg hw] at hdup
           have hw2 : IntKind.i64.wrap ((R.length : Int) - 1) = R.length - 1 := wrap_i64 (by omega) (by rw [hMe] at hl; simp at hl; omega)
           have hA1 := hA [bx]
           have hc2 := hcut1 []
           have hl2 : (H ++ [bx]).length = H.length + 1 := by simp
           rw [← hbx] at hbxr
           generalize H ++ [bx] = W at hA1 hbxr hc2 hl2 ⊢
           rw [hbx] at hbxr
           simp [f0,f1,f3,f4,f7,f11,hrow,hA1,hr,hbxr,hw,hw2,-List.map_reverse]
           refine AgainK_of (by omega) ⟨by simp [f0]; omega,by simp [f1],by simp [f3],by simp [f4],by simp [f7],hc2,pre ++ [⟨(i : Int),false,xl⟩],R,by simp [hMe],hdup,by simp⟩ ?_
           show muI (.d (.int .i64 ((R.length : Int) - 1))) < muI (.d (.int .i64 (R.length : Int)))
           simp only [muI]; omega
 · rintro fr H' ⟨f0,f1,f3,f4,f7,rfl⟩
   have hbnd : (bindR kind item (.mk k f t w a z ks) M S) = (⟨S.bs.length,false,false⟩ :: M,⟨S.bs ++ [⟨a,kind,w,item⟩],S.ms,if dupR S.bs w M then S.bad ++ [(a,31)] else S.bad⟩) := rfl
   rw [hbnd]
   generalize (if dupR S.bs w M then S.bad ++ [(a,31)] else S.bad) = bad
   have hs1 := h.put ⟨S.bs,S.ms,bad⟩
   have hs2 := hs1.app [bx]
   have q1 : (rsput F c ⟨S.bs,S.ms,bad⟩ H ++ [bx])[H.length]? = some bx := by rw [show H.length = (rsput F c ⟨S.bs,S.ms,bad⟩ H).length from rsput_len.symm]; simp
   have q2 := hs2.m
   have q3 := hs2.b
   have q4 : ∀ o,((rsput F c ⟨S.bs,S.ms,bad⟩ H ++ [bx]).set c.tb o)[c.im]? = some (rbox F c ⟨S.bs,S.ms,bad⟩) := fun o => by rw [List.getElem?_set_ne na.1.symm]; exact q2
   have hsb := rsput_bs hs1 (S.bs ++ [⟨a,kind,w,item⟩])
   rw [rsput_rsput] at hsb
   have hfin : ((rsput F c ⟨S.bs,S.ms,bad⟩ H ++ [bx]).set c.tb (.tok (S.bs.length + 1) 4 F.rbd)).set c.im (rbox F c ⟨S.bs ++ [⟨a,kind,w,item⟩],S.ms,bad⟩) = rsput F c ⟨S.bs ++ [⟨a,kind,w,item⟩],S.ms,bad⟩ H ++ [bx] := by
    rw [hsb,List.set_append_left _ _ (by rw [rsput_len]; exact p2),List.set_append_left _ _ (by rw [List.length_set,rsput_len]; exact p1)]; simp
   have q5 : (rsput F c ⟨S.bs ++ [⟨a,kind,w,item⟩],S.ms,bad⟩ H ++ [bx])[c.im]? = some (rbox F c ⟨S.bs ++ [⟨a,kind,w,item⟩],S.ms,bad⟩) := ((h.put _).app [bx]).m
   have q6 : (rsput F c ⟨S.bs ++ [⟨a,kind,w,item⟩],S.ms,bad⟩ H ++ [bx]).length = H.length + 1 := by simp [rsput_len]
   have q8 : (rsput F c ⟨S.bs,S.ms,bad⟩ H ++ [bx]).length = H.length + 1 := by simp [rsput_len]
   have q7 : ∀ X,Hp.cut H.length (rsput F c ⟨S.bs ++ [⟨a,kind,w,item⟩],S.ms,bad⟩ H ++ [bx] ++ X) = rsput F c ⟨S.bs ++ [⟨a,kind,w,item⟩],S.ms,bad⟩ H := fun X => by rw [List.append_assoc]; exact rsput_cutX h hcl _
   have hw3 : IntKind.i64.wrap ((S.bs.length : Int) + 1 - 1) = S.bs.length := by rw [wrap_i64 (by omega) (by omega)]; omega
   simp only [rbox] at q2 q4 q5 hfin
   simp [encBd] at hfin q5
   generalize rsput F c ⟨S.bs,S.ms,bad⟩ H ++ [bx] = W at q1 q2 q3 q4 q8 hfin ⊢
   rw [hbx] at q1
   generalize rsput F c ⟨S.bs ++ [⟨a,kind,w,item⟩],S.ms,bad⟩ H ++ [bx] = W2 at hfin q5 q6 q7
   have q5 := get_app q5
   have hwl : W.length = W2.length := by rw [q8,q6]
   simp [f0,f1,f3,f4,f7,q1,q2,q3,q4,hfit2,appA]
   rw [hfin]
   simp [f0,f1,q5,hwl,hfit3,hfit4,appA,hw3]
   have hw4 : IntKind.i64.wrap (S.bs.length : Int) = S.bs.length := wrap_i64 (by omega) (by omega)
   have hn1 : ¬ (H.length + 1 < H.length) := by omega
   have hn2 : H.length ≤ H.length + 1 + 1 := by omega
   simp [RetK,q6,q7,encNm,nms,hw4,hn1,hn2]
end
end
section
section
variable {P : Program} {F : RSF} {c : RSC} {S S' : SM} {H : Hp}
theorem lookR_mem' {bs : List SBd} {w : Bs} : ∀ {M : List Nm} {far i f : Int},lookR bs w M far = some (i,f) → ∃ x ∈ M,x.beg = false ∧ x.to = i ∧ swordR bs x = w
 | [],far,i,f,h => by cases h
 | x :: r, far, i, f, h => by
   simp only [lookR] at h
   split at h
   · obtain ⟨y,h1,h2⟩ := lookR_mem' h
     exact ⟨y,by simp [h1],h2⟩
   · rename_i hb
     split at h
     · rename_i hw
       cases h
       exact ⟨x,by simp,by simpa using hb,rfl,hw⟩
     · obtain ⟨y,h1,h2⟩ := lookR_mem' h
       exact ⟨y,by simp [h1],h2⟩
theorem RSHas.mention' (hF : RSHas P F) (h : RSInv F c S H) (M : List Nm) (hM : NmOk S.bs.length M) (n : N) (wr : Bool) (hb : S.sz ≤ 2199023255552) (hl : M.length ≤ 2199023255552) :
 ACall P F.rmention [.ptr c.im 0,nms M,n.v,.d (.bool wr)] H (fun r H' => r = .tup [] ∧ H' = rsput F c (S.men n wr (findR S.bs n.w M)) H) := by
 obtain ⟨fn,hf,hcf⟩ := hF.rmention
 refine acall_fin hf hcf (by simp [irScRMention]) fun hcl _ => ?_
 obtain ⟨k,f,t,w,a,z,ks⟩ := n
 rw [N.v_mk]
 obtain ⟨p1,p2,p3,p4⟩ := h.lt
 obtain ⟨na,nb,nd⟩ := h.nd
 obtain ⟨bx,hbx⟩ : ∃ bx,bx = Ob.box F.tn [.d (.int .i64 k),.d (.int .i64 f),.d (.int .i64 t),.d (.str w),.d (.int .i64 a),.d (.sl z 6 (ks.map N.enc))] := ⟨_,rfl⟩
 have hbc : ∀ n,bx.clr n = bx := fun n => by subst hbx; simp
 obtain ⟨mb,hmb⟩ : ∃ mb : Int → Int → Ob,mb = fun to far => Ob.box F.rmn [.d (.int .i64 a),.d (.int .i64 to),.d (.bool wr),.d (.int .i64 far)] := ⟨_,rfl⟩
 have hmc : ∀ n i j,(mb i j).clr n = mb i j := fun n i j => by subst hmb; simp
 have hcut2 : ∀ i j,Hp.cut (H.length + 2) (H ++ [bx,mb i j]) = H ++ [bx,mb i j] := fun i j => by
  rw [cut_appk hcl]; simp [-Ob.clr,hbc,hmc]
 have hw1 : IntKind.i64.wrap ((M.length : Int) - 1) = M.length - 1 := wrap_i64 (by omega) (by omega)
 have hfit1 : (S.bad.length + 1) * 16 ≤ 140737488355328 := by unfold SM.sz at hb; omega
 have hfit2 : (S.ms.length + 1) * 32 ≤ 140737488355328 := by unfold SM.sz at hb; omega
 have hA := fun X => (h.app X).m
 have hAd := fun X => (h.app X).d
 simp only [rbox] at hA
 simp [irScRMention,nms,hw1,-List.map_reverse]
 rw [← hbx,show Ob.box F.rmn [.d (.int .i64 a),.d (.int .i64 (-1)),.d (.bool wr),.d (.int .i64 0)] = mb (-1) 0 by rw [hmb]]
 refine LoopK_out 0 (fun fr H' => fr 0 = .ptr c.im 0 ∧ fr 3 = .d (.bool wr) ∧ fr 6 = .ptr H.length 0 ∧ fr 8 = .ptr (H.length + 1) 0 ∧ ∃ to far,fr 9 = .d (.int .i64 far) ∧ H' = H ++ [bx,mb to 0] ∧ ((lookR S.bs w M 0 = none ∧ to = -1) ∨ lookR S.bs w M 0 = some (to,far))) ?_ ?_
 · refine LoopK_of (H.length + 2) (fun fr H' => fr 0 = .ptr c.im 0 ∧ fr 1 = .d (.sl true 3 (M.reverse.map encNm)) ∧ fr 3 = .d (.bool wr) ∧ fr 6 = .ptr H.length 0 ∧ fr 8 = .ptr (H.length + 1) 0 ∧ H' = H ++ [bx,mb (-1) 0] ∧ ∃ pre R far,M = pre ++ R ∧ lookR S.bs w M 0 = lookR S.bs w R far ∧ fr 9 = .d (.int .i64 far) ∧ 0 ≤ far ∧ far + R.length ≤ M.length ∧ fr 10 = .d (.int .i64 ((R.length : Int) - 1))) (fun fr _ => muI (fr 10)) (by simp) ?_ ?_
   · exact ⟨by simp [p1]; omega,by simp [-List.map_reverse],by simp,by simp,by simp,hcut2 _ _,[],M,0,rfl,rfl,by simp,Int.le_refl _,by omega,by simp⟩
   · rintro fr H' ⟨f0,f1,f3,f6,f8,rfl,pre,R,far,hMe,hlook,f9,hf0,hf1,f10⟩
     cases R with
     | nil =>
       simp [f0,f1,f3,f6,f8,f9,f10,-List.map_reverse]
       exact ⟨-1,rfl,.inl ⟨by rw [hlook]; rfl,rfl⟩⟩
     | cons x R =>
       have hrow := nms_at (pre := pre) (R := R) (x := x)
       rw [← hMe] at hrow
       have e10 : (((x :: R).length : Int) - 1) = (R.length : Int) := by simp
       rw [e10] at f10
       simp only [List.length_cons] at hf1
       have hMl : M.length ≤ 2199023255552 := hl
       have hge : ¬ ((R.length : Int) < 0) := by omega
       have hw2 : IntKind.i64.wrap ((R.length : Int) - 1) = R.length - 1 := wrap_i64 (by omega) (by omega)
       have hw3 : IntKind.i64.wrap (far + 1) = far + 1 := wrap_i64 (by omega) (by omega)
       obtain ⟨xt,xb,xl⟩ := x
       simp only [encNm] at hrow
       have hA1 := hA [bx,mb (-1) 0]
       have hbr : (H ++ [bx,mb (-1) 0])[H.length]? = some bx := by simp
       have hmr : (H ++ [bx,mb (-1) 0])[H.length + 1]? = some (mb (-1) 0) := by simp
       have hms : ∀ to,(H ++ [bx,mb (-1) 0]).set (H.length + 1) (mb to 0) = H ++ [bx,mb to 0] := fun to => by simp
       have hc2 := hcut2 (-1) 0
       have hl2 : (H ++ [bx,mb (-1) 0]).length = H.length + 2 := by simp
       cases xb with
       | true =>
         simp only [lookR,if_true] at hlook
         have again : ∀ (fr2 : Fr) (far2 : Int),fr2 0 = .ptr c.im 0 → fr2 1 = .d (.sl true 3 (M.reverse.map encNm)) → fr2 3 = .d (.bool wr) → fr2 6 = .ptr H.length 0 → fr2 8 = .ptr (H.length + 1) 0 → fr2 9 = .d (.int .i64 far2) → fr2 10 = .d (.int .i64 ((R.length : Int) - 1)) → lookR S.bs w M 0 = lookR S.bs w R far2 → 0 ≤ far2 → far2 + R.length ≤ M.length →
          AgainK (fun fr H' => fr 0 = .ptr c.im 0 ∧ fr 1 = .d (.sl true 3 (M.reverse.map encNm)) ∧ fr 3 = .d (.bool wr) ∧ fr 6 = .ptr H.length 0 ∧ fr 8 = .ptr (H.length + 1) 0 ∧ H' = H ++ [bx,mb (-1) 0] ∧ ∃ pre R far,M = pre ++ R ∧ lookR S.bs w M 0 = lookR S.bs w R far ∧ fr 9 = .d (.int .i64 far) ∧ 0 ≤ far ∧ far + R.length ≤ M.length ∧ fr 10 = .d (.int .i64 ((R.length : Int) - 1))) (fun fr _ => muI (fr 10)) .mk (H.length + 2) (muI (.d (.int .i64 (R.length : Int)))) fr2 (H ++ [bx,mb (-1) 0]) := fun fr2 far2 u0 u1 u3 u6 u8 u9 u10 ul u5 u7 => by
          refine AgainK_of (by simp) ⟨by simp [u0,p1]; omega,by simp [u1,-List.map_reverse],by simp [u3],by simp [u6],by simp [u8],hc2,pre ++ [⟨xt,true,xl⟩],R,far2,by simp [hMe],ul,by simp [u9],u5,u7,by simp [u10]⟩ ?_
          show muI (A.clr _ (fr2 10)) < _
          rw [u10]
          simp only [muI,clr_d]; omega
         cases xl with
         | true =>
           simp only [if_true] at hlook
           simp [f0,f1,f3,f6,f8,f9,f10,hrow,hw2,hw3,-List.map_reverse]
           exact again _ (far + 1) (by simp [f0]) (by simp [f1,-List.map_reverse]) (by simp [f3]) (by simp [f6]) (by simp [f8]) (by simp) (by simp) hlook (by omega) (by omega)
         | false =>
           simp only [Bool.false_eq_true,if_false] at hlook
           simp [f0,f1,f3,f6,f8,f9,f10,hrow,hw2,-List.map_reverse]
           exact again _ far (by simp [f0]) (by simp [f1,-List.map_reverse]) (by simp [f3]) (by simp [f6]) (by simp [f8]) (by simp [f9]) (by simp) hlook (by omega) (by omega)
       | false =>
         obtain ⟨o1,o2⟩ := hM ⟨xt,false,xl⟩ (by rw [hMe]; simp) rfl
         simp only at o1 o2
         obtain ⟨i,rfl⟩ : ∃ i : Nat,xt = (i : Int) := ⟨xt.toNat,by omega⟩
         have hil : i < S.bs.length := by omega
         have hr := rowAt_map encBd hil
         have hword : swordR S.bs ⟨(i : Int),false,xl⟩ = S.bs[i].w := by unfold swordR; simp [List.getD_eq_getElem?_getD,hil]
         have hlook2 : lookR S.bs w (⟨(i : Int),false,xl⟩ :: R) far = if S.bs[i].w = w then some ((i : Int),far) else lookR S.bs w R far := by
          simp only [lookR,hword]; rfl
         rw [hlook2] at hlook
         generalize S.bs[i] = b at hr hlook
         obtain ⟨ba,bk,bw,bi⟩ := b
         simp only [encBd] at hr hlook
         by_cases hw : bw = w
         · rw [if_pos hw] at hlook
           subst hw
           have hms1 := hms (i : Int)
           generalize H ++ [bx,mb (-1) 0] = W at hA1 hbr hmr hc2 hl2 hms1 ⊢
           rw [hbx] at hbr; rw [hmb] at hmr
           have hms2 := hms1
           simp only [hmb] at hms1
           simp [f0,f1,f3,f6,f8,f9,f10,hrow,hA1,hr,hbr,hmr,hms1,-List.map_reverse]
           exact ⟨(i : Int),by rw [hmb],.inr hlook⟩
         · rw [if_neg hw] at hlook
           generalize hWW : H ++ [bx,mb (-1) 0] = W at hA1 hbr hc2 hl2 ⊢
           rw [hbx] at hbr
           simp [f0,f1,f3,f6,f8,f9,f10,hrow,hA1,hr,hbr,hw,hw2,-List.map_reverse]
           refine AgainK_of (by omega) ⟨by simp [f0,p1]; omega,by simp [f1,-List.map_reverse],by simp [f3],by simp [f6],by simp [f8],hc2,pre ++ [⟨(i : Int),false,xl⟩],R,far,by simp [hMe],hlook,by simp [f9],hf0,by omega,by simp⟩ ?_
           show muI (.d (.int .i64 ((R.length : Int) - 1))) < muI (.d (.int .i64 (R.length : Int)))
           simp only [muI]; omega
 · rintro fr H' ⟨f0,f3,f6,f8,to,far,f9,rfl,hlk⟩
   have hmen : S.men (.mk k f t w a z ks) wr (findR S.bs w M) = ⟨S.bs,S.ms ++ [⟨a,(findR S.bs w M).1,wr,(findR S.bs w M).2⟩],if (findR S.bs w M).1 < 0 then S.bad ++ [(a,30)] else if wr ∧ (S.bs.getD (findR S.bs w M).1.toNat default).k < 3 then S.bad ++ [(a,35)] else S.bad⟩ := rfl
   rw [show N.w (.mk k f t w a z ks) = w from rfl,hmen]
   have key : ∀ (bad : List (Int × Int)) (far2 : Int),∀ W,W = rsput F c ⟨S.bs,S.ms,bad⟩ H ++ [bx,mb to far2] →
    W[H.length + 1]? = some (mb to far2) ∧ W[c.im]? = some (rbox F c ⟨S.bs,S.ms,bad⟩) ∧ W[c.tm]? = some (.tok S.ms.length 4 F.rmn) ∧ (∀ o,(W.set c.tm o)[c.im]? = some (rbox F c ⟨S.bs,S.ms,bad⟩)) ∧ W.length = H.length + 2 ∧
    Hp.cut H.length ((W.set c.tm (.tok (S.ms.length + 1) 4 F.rmn)).set c.im (rbox F c ⟨S.bs,S.ms ++ [⟨a,to,wr,far2⟩],bad⟩)) = rsput F c ⟨S.bs,S.ms ++ [⟨a,to,wr,far2⟩],bad⟩ H := by
    rintro bad far2 W rfl
    have hs1 := h.put ⟨S.bs,S.ms,bad⟩
    have hs2 := hs1.app [bx,mb to far2]
    have hlen : H.length = (rsput F c ⟨S.bs,S.ms,bad⟩ H).length := rsput_len.symm
    refine ⟨by rw [hlen]; simp,hs2.m,hs2.e,fun o => by rw [List.getElem?_set_ne na.2.1.symm]; exact hs2.m,by simp [rsput_len],?_⟩
    have hsb := rsput_ms hs1 (S.ms ++ [⟨a,to,wr,far2⟩])
    rw [rsput_rsput] at hsb
    have hX : ((rsput F c ⟨S.bs,S.ms,bad⟩ H ++ [bx,mb to far2]).set c.tm (.tok (S.ms.length + 1) 4 F.rmn)).set c.im (rbox F c ⟨S.bs,S.ms ++ [⟨a,to,wr,far2⟩],bad⟩) = rsput F c ⟨S.bs,S.ms ++ [⟨a,to,wr,far2⟩],bad⟩ H ++ [bx,mb to far2] := by
     rw [hsb,List.set_append_left _ _ (by rw [rsput_len]; exact p3),List.set_append_left _ _ (by rw [List.length_set,rsput_len]; exact p1)]; simp
    rw [hX]
    exact rsput_cutX h hcl _
   have told : ∀ (code : Int),(((H ++ [bx,mb to 0]).set c.td (.tok (S.bad.length + 1) 2 F.red)).set c.im (rbox F c ⟨S.bs,S.ms,S.bad ++ [(a,code)]⟩)) = rsput F c ⟨S.bs,S.ms,S.bad ++ [(a,code)]⟩ H ++ [bx,mb to 0] := fun code => by
    have hsb := rsput_bad h (S.bad ++ [(a,code)])
    rw [hsb,List.set_append_left _ _ p4,List.set_append_left _ _ (by simpa using p1)]; simp
   have hA1 := hA [bx,mb to 0]
   have hAd1 := hAd [bx,mb to 0]
   have hAm1 : ∀ o,((H ++ [bx,mb to 0]).set c.td o)[c.im]? = some (rbox F c S) := fun o => by rw [List.getElem?_set_ne na.2.2.symm]; exact (h.app _).m
   have hbr : (H ++ [bx,mb to 0])[H.length]? = some bx := by simp
   have hmr : (H ++ [bx,mb to 0])[H.length + 1]? = some (mb to 0) := by simp
   have hself : H ++ [bx,mb to 0] = rsput F c ⟨S.bs,S.ms,S.bad⟩ H ++ [bx,mb to 0] := by rw [rsput_self h]
   simp only [rbox] at hAm1
   rcases hlk with ⟨hn,rfl⟩ | hsome
   ·
    have hf : findR S.bs w M = (-1,0) := by unfold findR; rw [hn]
    rw [hf]
    obtain ⟨q1,q2,q3,q4,q5,q6⟩ := key (S.bad ++ [(a,30)]) 0 _ rfl
    have ht := told 30
    simp only [rbox] at q2 q4 q6 ht
    simp [encBad] at ht
    generalize H ++ [bx,mb (-1) 0] = W0 at hA1 hAd1 hAm1 hbr hmr ht ⊢
    rw [hbx] at hbr; rw [hmb] at hmr
    simp [f0,f3,f6,f8,hmr,hbr,hA1,hAd1,hAm1,hfit1,appA]
    rw [ht]
    generalize rsput F c ⟨S.bs,S.ms,S.bad ++ [(a,30)]⟩ H ++ [bx,mb (-1) 0] = W at q1 q2 q3 q4 q5 q6 ⊢
    rw [hmb] at q1
    simp [f0,f8,q1,q2,q3,q4,hfit2,appA]
    simp [RetK,q5]
    simp [encMn] at q6 ⊢
    exact q6
   · obtain ⟨x,hx,hxb,rfl,-⟩ := lookR_mem' hsome
     obtain ⟨o1,o2⟩ := hM x hx hxb
     have hff := look_far hsome
     have hf : findR S.bs w M = if (S.bs.getD x.to.toNat default).k < 3 then (x.to,0) else (x.to,far) := by unfold findR; rw [hsome]
     rw [hf]
     generalize x.to = xt at *
     obtain ⟨i,rfl⟩ : ∃ i : Nat,xt = (i : Int) := ⟨xt.toNat,by omega⟩
     have hil : i < S.bs.length := by omega
     have hr := rowAt_map encBd hil
     have hgd : S.bs.getD ((i : Int)).toNat default = S.bs[i] := by simp [List.getD_eq_getElem?_getD,hil]
     have hneg : ¬ ((i : Int) < 0) := by omega
     rw [hgd]
     generalize S.bs[i] = b at hr hgd ⊢
     obtain ⟨ba,bk,bw,bi⟩ := b
     simp only [encBd] at hr
     simp only at hgd ⊢
     by_cases hk : bk < 3
     · rw [if_pos hk]
       simp only
       rw [if_neg hneg,hgd]
       simp only
       have hk' : ¬ 3 ≤ bk := by omega
       cases wr with
       | true =>
         rw [if_pos ⟨rfl,hk⟩]
         obtain ⟨q1,q2,q3,q4,q5,q6⟩ := key (S.bad ++ [(a,35)]) 0 _ rfl
         have ht := told 35
         simp only [rbox] at q2 q4 q6 ht
         simp [encBad] at ht
         generalize H ++ [bx,mb (i : Int) 0] = W0 at hA1 hAd1 hAm1 hbr hmr ht ⊢
         rw [hbx] at hbr; rw [hmb] at hmr
         simp [f0,f3,f6,f8,hmr,hbr,hneg,hA1,hAd1,hAm1,hr,hk',hfit1,appA]
         rw [ht]
         generalize rsput F c ⟨S.bs,S.ms,S.bad ++ [(a,35)]⟩ H ++ [bx,mb (i : Int) 0] = W at q1 q2 q3 q4 q5 q6 ⊢
         rw [hmb] at q1
         simp [f0,f8,q1,q2,q3,q4,hfit2,appA]
         simp [RetK,q5]
         simp [encMn] at q6 ⊢
         exact q6
       | false =>
         rw [if_neg (by simp)]
         obtain ⟨q1,q2,q3,q4,q5,q6⟩ := key S.bad 0 _ hself
         simp only [rbox] at q2 q4 q6
         generalize H ++ [bx,mb (i : Int) 0] = W0 at hA1 hbr hmr q1 q2 q3 q4 q5 q6 ⊢
         rw [hmb] at hmr q1
         simp [f0,f3,f6,f8,hmr,hneg,hA1,hr,hk',q1,q2,q3,q4,hfit2,appA]
         simp [RetK,q5]
         simp [encMn] at q6 ⊢
         exact q6
     · rw [if_neg hk]
       simp only
       rw [if_neg hneg,hgd]
       simp only
       rw [if_neg (fun hh => hk hh.2)]
       have hk' : 3 ≤ bk := by omega
       have hself2 : H ++ [bx,mb (i : Int) far] = rsput F c ⟨S.bs,S.ms,S.bad⟩ H ++ [bx,mb (i : Int) far] := by rw [rsput_self h]
       obtain ⟨q1,q2,q3,q4,q5,q6⟩ := key S.bad far _ hself2
       have hst : (H ++ [bx,mb (i : Int) 0]).set (H.length + 1) (mb (i : Int) far) = H ++ [bx,mb (i : Int) far] := by simp
       simp only [rbox] at q2 q4 q6
       generalize H ++ [bx,mb (i : Int) far] = W at hst q1 q2 q3 q4 q5 q6
       generalize H ++ [bx,mb (i : Int) 0] = W0 at hA1 hbr hmr hst ⊢
       rw [hmb] at hmr q1 hst
       simp at hst
       simp [f0,f3,f6,f8,f9,hmr,hneg,hA1,hr,hk',hst,q1,q2,q3,q4,hfit2,appA]
       simp [RetK,q5]
       simp [encMn] at q6 ⊢
       exact q6
end
end
section
theorem bindsR_snoc (item : Int) (x : N) : ∀ (l : List N) (M : List Nm) (S : SM),bindsR item (l ++ [x]) M S = bindR 3 item x (bindsR item l M S).1 (bindsR item l M S).2
 | [],M,S => rfl
 | y :: r,M,S => by rw [List.cons_append,bindsR,bindsR_snoc item x r]; rfl
theorem kidsR_snoc (item : Int) (x : N) : ∀ (l : List N) (M : List Nm) (S : SM),kidsR item (l ++ [x]) M S = nodeR item x (kidsR item l M S).1 (kidsR item l M S).2
 | [],M,S => by rw [List.nil_append,kidsR_cons,kidsR_nil,kidsR_nil]
 | y :: r,M,S => by rw [List.cons_append,kidsR_cons,kidsR_snoc item x r,kidsR_cons]
theorem nms_clr (M : List Nm) (n : Nat) : (nms M).clr n = nms M := by simp [nms]
section
variable {P : Program} {F : RSF} {c : RSC} {S S' : SM} {H : Hp}
theorem rsput_cut (h : RSInv F c S H) (hc : H.Closed) : Hp.cut H.length (rsput F c S' H) = rsput F c S' H := by
 have := rsput_cutX (S' := S') h hc []
 rwa [List.append_nil] at this
def RNodeOk (P : Program) (F : RSF) (n : N) : Prop := ∀ (c : RSC) (S : SM) (item : Int) (M : List Nm) (H : Hp),RSInv F c S H → NmOk S.bs.length M → S.sz + 2 * n.size ≤ 1099511627776 → M.length + n.size ≤ 1099511627776 →
 ACall P F.rnode [.ptr c.im 0,nms M,n.v,.d (.int .i64 item)] H (fun r H' => r = nms (nodeR item n M S).1 ∧ H' = rsput F c (nodeR item n M S).2 H)
theorem RSHas.closed' (hF : RSHas P F) {ks : List N} {z : Bool} (ih : ∀ p ∈ ks,RNodeOk P F p) (h : RSInv F c S H) (item : Int) (M : List Nm) (hM : NmOk S.bs.length M) (lam : Bool) (hb : S.sz + 2 * N.sizes ks ≤ 1099511627776) (hl : M.length + N.sizes ks ≤ 1099511627776) :
 ACall P F.rclosed [.ptr c.im 0,nms M,.d (.sl z 6 (ks.map N.enc)),.d (.int .i64 item),.d (.bool lam)] H (fun r H' => r = .tup [] ∧ H' = rsput F c (sclosedR item ks M lam S) H) := by
 obtain ⟨fn,hf,hcf⟩ := hF.rclosed
 refine acall_fin hf hcf (by simp [irScRClosed]) fun hcl _ => ?_
 by_cases h3 : ks.length = 3
 case neg =>
  rw [sclosedR_ne _ h3,rsput_self h]
  have h3' : ¬ ((ks.length : Int) = 3) := by omega
  simp [irScRClosed,h3']
  simp [RetK,cut_self hcl]
 have hks : ∃ p q b,ks = [p,q,b] := by
  match ks,h3 with
  | [p,q,b],_ => exact ⟨p,q,b,rfl⟩
 obtain ⟨p,q,b,rfl⟩ := hks
 have gbeg := hF.begin' M lam (by omega) H
 rw [sclosedR_three]
 have hps : p.ks.length + b.size + 1 ≤ N.sizes [p,q,b] := by
  simp only [N.sizes_cons,N.sizes_nil]
  have := N.sizes_len p.ks
  have := N.size_ks p
  omega
 have hM1 := hM.new lam
 have hpl := h.lt.1
 have hgr0 := GrewR.binds (item := item) p.ks hM1
 have ihb := fun H2 => ih b (by simp) c (bindsR item p.ks (⟨0,true,lam⟩ :: M) S).2 item (bindsR item p.ks (⟨0,true,lam⟩ :: M) S).1 (rsput F c (bindsR item p.ks (⟨0,true,lam⟩ :: M) S).2 H2)
 have ihb := fun H2 hh => ihb H2 hh hgr0.ok (by have := hgr0.sz; omega) (by have := hgr0.len; simp only [List.length_cons] at this; omega)
 have ihb := ihb H (h.put _)
 rw [rsput_rsput] at ihb
 have hr0 : Zam.rowAt ([p,q,b].map N.enc) 0 = some p.enc := rfl
 have hr2 : Zam.rowAt ([p,q,b].map N.enc) 2 = some b.enc := rfl
 simp only [List.map_cons,List.map_nil] at hr0 hr2 ⊢
 obtain ⟨pk,pf,pt,pw,pa,pz,pks⟩ := p
 rw [N.enc_mk] at hr0 hr2 ⊢
 simp only [N.ks] at ihb hps hgr0 ⊢
 generalize hM0 : (⟨0,true,lam⟩ : Nm) :: M = M0 at gbeg hM1 ihb hgr0 ⊢
 have hM0l : M0.length = M.length + 1 := by rw [← hM0]; rfl
 generalize nodeR item b (bindsR item pks M0 S).1 (bindsR item pks M0 S).2 = R at ihb ⊢
 simp [irScRClosed]
 refine CallK_of' gbeg ?_
 simp
 refine LoopK_out 0 (fun fr H' => fr 0 = .ptr c.im 0 ∧ fr 2 = .d (.sl z 6 [[.int .i64 pk,.int .i64 pf,.int .i64 pt,.str pw,.int .i64 pa,.sl pz 6 (pks.map N.enc)],q.enc,b.enc]) ∧ fr 3 = .d (.int .i64 item) ∧ fr 10 = nms (bindsR item pks M0 S).1 ∧ H' = rsput F c (bindsR item pks M0 S).2 H) ?_ ?_
 · refine ForK_of H.length pks.length (fun j fr H' => fr 0 = .ptr c.im 0 ∧ fr 2 = .d (.sl z 6 [[.int .i64 pk,.int .i64 pf,.int .i64 pt,.str pw,.int .i64 pa,.sl pz 6 (pks.map N.enc)],q.enc,b.enc]) ∧ fr 3 = .d (.int .i64 item) ∧ fr 10 = nms (bindsR item (pks.take j) M0 S).1 ∧ H' = rsput F c (bindsR item (pks.take j) M0 S).2 H) (by omega) (by decide) (by simp) (by simp) ?_ ?_
   · rw [List.take_zero,bindsR,rsput_self h]
     exact ⟨by simp [hpl],by simp,by simp,nms_clr _ _,cut_self hcl⟩
   · rintro j fr H' hj f11 ⟨f0,f2,f3,f10,rfl⟩
     simp [f11,f2,hr0]
     refine BrK_split (fun hd => ?_) (fun hd => ?_)
     · have hlt : j < pks.length := by simp at hd; omega
       have hr := rowAt_map N.enc hlt
       have hgr := GrewR.binds (item := item) (pks.take j) hM1
       have hll : (pks.take j).length = j := by simp; omega
       have hstep : bindsR item (pks.take (j + 1)) M0 S = bindR 3 item pks[j] (bindsR item (pks.take j) M0 S).1 (bindsR item (pks.take j) M0 S).2 := by
        rw [List.take_succ_eq_append_getElem hlt,bindsR_snoc]
       generalize pks[j] = x at hr hstep
       obtain ⟨g1,g2,g3,g4⟩ := hgr
       rw [hll] at g2 g3
       generalize bindsR item (pks.take j) M0 S = KP at g1 g2 g3 g4 hstep f10 ⊢
       obtain ⟨M1,S1⟩ := KP
       simp only at g1 g2 g3 g4 hstep f10 ⊢
       have gb := hF.bind' (h.put S1) M1 g4 x 3 item (by omega) (by omega)
       rw [rsput_rsput] at gb
       obtain ⟨k2,f2',t2,w2,a2,z2,ks2⟩ := x
       rw [N.enc_mk] at hr
       rw [N.v_mk] at gb
       simp [f0,f2,f3,f10,f11,hr0,hr]
       refine CallK_of' gb ?_
       simp
       refine NextF_of H.length (Nat.le_refl _) hlt (by simp [rsput_len,f11]) ?_
       refine ⟨by simp [f0,hpl],by simp [f2],by simp [f3],?_,?_⟩
       · rw [hstep]; exact nms_clr _ _
       · rw [hstep]; exact rsput_cut h hcl
     · have hjj : j = pks.length := by simp at hd; omega
       subst hjj
       rw [List.take_of_length_le (Nat.le_refl _)] at f10 ⊢
       simp [f0,f2,f3,f10]
 · rintro fr H' ⟨f0,f2,f3,f10,rfl⟩
   have hbv : (A.agg (b.enc.map .d)) = b.v := rfl
   rw [← hbv] at ihb
   have hbs : b.enc.length = 6 := by cases b; rw [N.enc_mk]; rfl
   obtain ⟨bk,bf,bt,bw,ba,bz,bks⟩ := b
   simp only [N.enc_mk] at ihb hr2 f2 ⊢
   simp [f0,f2,f3,f10,hr2]
   simp at ihb
   refine CallK_of' ihb ?_
   simp
   simp [RetK,rsput_len,rsput_cut h hcl]
def scRLoop (rnode : FuncId) : C := .seq (.seq (.ops [
 ⟨(some 41),none,.mv (.t 10)⟩,
 ⟨(some 42),none,.faddr 5 (.t 6)⟩,
 ⟨(some 43),none,.load 1 false (.t 42)⟩,
 ⟨(some 44),none,.lenL (.t 43)⟩,
 ⟨(some 45),none,.bin .lss (.t 41) (.t 44)⟩] false)
 (.cond (.t 45) (.skip)
 (.exit 1)))
 (.seq (.blk 2 (.ops [
  ⟨(some 48),none,.mv (.t 0)⟩,
  ⟨(some 49),none,.mv (.t 9)⟩,
  ⟨(some 50),none,.faddr 5 (.t 6)⟩,
  ⟨(some 51),none,.load 1 false (.t 50)⟩,
  ⟨(some 52),none,.mv (.t 10)⟩,
  ⟨(some 53),none,.iaddr 6 (.t 51) (.t 52)⟩,
  ⟨(some 54),none,.load 6 true (.t 53)⟩,
  ⟨(some 55),none,.mv (.t 3)⟩,
  ⟨(some 56),none,.call rnode [(.t 48),(.t 49),(.t 54),(.t 55)]⟩,
  ⟨(some 9),none,.mv (.t 56)⟩] false))
 (.ops [
  ⟨(some 46),none,.mv (.t 10)⟩,
  ⟨(some 47),none,.bin .add (.t 46) (.c (.int .i64 1))⟩,
  ⟨(some 10),none,.mv (.t 47)⟩] false))
theorem RSHas.node' (hF : RSHas P F) (n : N) : RNodeOk P F n := by
 induction n using N.ind with
 | h k f t w a z ks ih =>
 intro c S item M H h hM hb hl
 obtain ⟨fn,hf,hcf⟩ := hF.rnode
 refine acall_fin hf hcf (by simp [irScRNode]) fun hcl _ => ?_
 rw [N.size_mk] at hb hl
 rw [N.v_mk]
 have hsl := N.sizes_len ks
 obtain ⟨p1,p2,p3,p4⟩ := h.lt
 obtain ⟨bx,hbx⟩ : ∃ bx,bx = Ob.box F.tn [.d (.int .i64 k),.d (.int .i64 f),.d (.int .i64 t),.d (.str w),.d (.int .i64 a),.d (.sl z 6 (ks.map N.enc))] := ⟨_,rfl⟩
 have hbc : ∀ n,bx.clr n = bx := fun n => by subst hbx; simp
 have hbc1 : ∀ (S' : SM) (X : Hp),Hp.cut (H.length + 1) (rsput F c S' H ++ bx :: X) = rsput F c S' H ++ [bx] := fun S' X => by
  have hcl1 : Hp.Closed (H ++ [bx]) := Closed.snoc hcl fun n hn => hbc n
  have := rsput_cutX (S' := S') (h.app [bx]) hcl1 X
  rw [rsput_app h] at this
  simpa using this
 have hfin : ∀ S' X,Hp.cut H.length (rsput F c S' H ++ X) = rsput F c S' H := fun S' X => rsput_cutX h hcl X
 have hbr : ∀ (S' : SM) (X : Hp),(rsput F c S' H ++ bx :: X)[H.length]? = some bx := fun S' X => by rw [show H.length = (rsput F c S' H).length from rsput_len.symm]; simp
 have hself : H ++ [bx] = rsput F c S H ++ [bx] := by rw [rsput_self h]
 have loop : ∀ (M0 : List Nm) (S0 : SM) (Q : Ex → Fr → Hp → Prop) (fr : Fr) (tg : Tag (Q,scRLoop F.rnode)),NmOk S0.bs.length M0 → S0.sz + 2 * N.sizes ks ≤ 1099511627776 → M0.length + N.sizes ks ≤ 1099511627776 → fr 0 = .ptr c.im 0 → fr 1 = nms M → fr 3 = .d (.int .i64 item) → fr 6 = .ptr H.length 0 → fr 9 = nms M0 → fr 10 = .d (.int .i64 0) →
  (∀ fr2 : Fr,fr2 0 = .ptr c.im 0 → fr2 1 = nms M → fr2 3 = .d (.int .i64 item) → fr2 6 = .ptr H.length 0 → fr2 9 = nms (kidsR item ks M0 S0).1 → Q (.exit 1) fr2 (rsput F c (kidsR item ks M0 S0).2 H ++ [bx])) →
  LoopK Q (scRLoop F.rnode) tg P H.length fr (rsput F c S0 H ++ [bx]) := by
  intro M0 S0 Q fr tg hM0 hb0 hl0 u0 u1 u3 u6 u9 u10 hQ
  unfold scRLoop at tg ⊢
  refine LoopK_out 1 (fun fr H' => fr 0 = .ptr c.im 0 ∧ fr 1 = nms M ∧ fr 3 = .d (.int .i64 item) ∧ fr 6 = .ptr H.length 0 ∧ fr 9 = nms (kidsR item ks M0 S0).1 ∧ H' = rsput F c (kidsR item ks M0 S0).2 H ++ [bx]) ?_ ?_
  · refine ForK_of (H.length + 1) ks.length (fun j fr H' => fr 0 = .ptr c.im 0 ∧ fr 1 = nms M ∧ fr 3 = .d (.int .i64 item) ∧ fr 6 = .ptr H.length 0 ∧ fr 9 = nms (kidsR item (ks.take j) M0 S0).1 ∧ H' = rsput F c (kidsR item (ks.take j) M0 S0).2 H ++ [bx]) (by omega) (by decide) (by simp [rsput_len]) (by simp [u10]) ?_ ?_
    · rw [List.take_zero,kidsR_nil]
      refine ⟨by simp [u0]; omega,by simp [u1,nms_clr,-A.clr],by simp [u3],by simp [u6],by simp [u9,nms_clr,-A.clr],hbc1 S0 []⟩
    · rintro j fr H' hj f10 ⟨f0,f1,f3,f6,f9,rfl⟩
      have hgr := fun (l : List N) (hlk : ∀ p ∈ l,p ∈ ks) => grewR_kids (fun p _ => grewR p) (ks := l) item M0 S0 hM0
      have hgj := hgr (ks.take j) fun p hp => List.mem_of_mem_take hp
      have hstep : ∀ (hlt : j < ks.length),kidsR item (ks.take (j + 1)) M0 S0 = nodeR item ks[j] (kidsR item (ks.take j) M0 S0).1 (kidsR item (ks.take j) M0 S0).2 := fun hlt => by
       rw [List.take_succ_eq_append_getElem hlt,kidsR_snoc]
      have hsz : ∀ (hlt : j < ks.length),N.sizes (ks.take j) + (ks[j]).size ≤ N.sizes ks := fun hlt => by
       have : ks = ks.take j ++ ks[j] :: ks.drop (j + 1) := by rw [List.getElem_cons_drop]; simp
       have e : N.sizes ks = N.sizes (ks.take j) + (ks[j].size + N.sizes (ks.drop (j + 1))) := by conv => lhs; rw [this,N.sizes_app,N.sizes_cons]
       omega
      have hend : j = ks.length → kidsR item (ks.take j) M0 S0 = kidsR item ks M0 S0 := fun e => by rw [e,List.take_of_length_le (Nat.le_refl _)]
      generalize kidsR item (ks.take j) M0 S0 = KP at hgj hstep hend f9 ⊢
      obtain ⟨M1,S1⟩ := KP
      obtain ⟨g1,g2,g3,g4⟩ := hgj
      simp only at g1 g2 g3 g4 hstep f9 ⊢
      have hs1 := (h.put S1).app [bx]
      have ihj := fun (hlt : j < ks.length) => ih ks[j] (List.getElem_mem hlt) c S1 item M1 _ hs1 g4 (by have := hsz hlt; omega) (by have := hsz hlt; omega)
      have e1 : ∀ S',rsput F c S' (rsput F c S1 H ++ [bx]) = rsput F c S' H ++ [bx] := fun S' => by rw [rsput_app (h.put S1),rsput_rsput]
      have hb0' := hbr S1 []
      have hlen : (rsput F c S1 H ++ [bx]).length = H.length + 1 := by simp [rsput_len]
      have hc1 := fun S' => hbc1 S' []
      generalize hW : rsput F c S1 H ++ [bx] = W at ihj hb0' hlen e1 ⊢
      rw [hbx] at hb0'
      simp [f10,f6,hb0']
      refine BrK_split (fun hd => ?_) (fun hd => ?_)
      · have hlt : j < ks.length := by simp at hd; omega
        have hr := rowAt_map N.enc hlt
        have gn := ihj hlt
        have hst := hstep hlt
        generalize ks[j] = x at hr gn hst
        obtain ⟨k2,f2',t2,w2,a2,z2,ks2⟩ := x
        rw [N.enc_mk] at hr
        rw [N.v_mk] at gn
        simp [f0,f3,f6,f9,f10,hb0',hr]
        refine CallK_of' gn ?_
        rw [e1]
        simp
        refine NextF_of (H.length + 1) (Nat.le_refl _) hlt (by simp [rsput_len,f10]) ?_
        refine ⟨by simp [f0]; omega,by simp [f1,nms_clr,-A.clr],by simp [f3],by simp [f6],?_,?_⟩
        · rw [hst]; simp [nms_clr,-A.clr]
        · rw [hst]; exact hc1 _
      · have hjj : j = ks.length := by simp at hd; omega
        have he := hend hjj
        simp
        refine ⟨f0,f1,f3,f6,?_,?_⟩
        · rw [← he]; exact f9
        · rw [← he]; exact hW.symm
  · rintro fr H' ⟨f0,f1,f3,f6,f9,rfl⟩
    exact hQ fr f0 f1 f3 f6 f9
 have hbr0 := hbr S []
 rw [← hself] at hbr0
 have hbx0 := hbx
 have hrn : ∀ S' : SM,rsput F c S' (H ++ [bx]) = rsput F c S' H ++ [bx] := fun S' => rsput_app h [bx]
 have hwf : N.w (.mk k f t w a z ks) = w := rfl
 rw [nodeR_mk]
 by_cases h23 : k = 23
 · subst h23
   rw [if_neg (by decide),if_neg (by decide),if_neg (by decide),if_pos rfl]
   have gm := hF.mention' (h.app [bx]) M hM (.mk 23 f t w a z ks) false (by omega) (by omega)
   rw [hrn,hwf] at gm
   generalize S.men (.mk 23 f t w a z ks) false (findR S.bs w M) = S1 at gm ⊢
   rw [N.v_mk] at gm
   subst hbx
   simp [irScRNode]
   refine CallK_of' gm ?_
   simp
   simp [RetK,rsput_len,hfin,nms_clr,-A.clr]
 by_cases h28 : k = 28
 · subst h28
   rw [if_neg (by decide),if_neg (by decide),if_neg (by decide),if_neg (by decide),if_pos rfl]
   have gc := hF.closed' (z := z) ih (h.app [bx]) item M hM true (by omega) (by omega)
   rw [hrn] at gc
   generalize sclosedR item ks M true S = S1 at gc ⊢
   subst hbx
   simp [irScRNode]
   refine CallK_of' gc ?_
   simp
   simp [RetK,rsput_len,hfin,nms_clr,-A.clr]
 rw [if_neg h23,if_neg h28]
 by_cases h6 : k = 6
 · rw [if_pos h6]
   subst h6
   have gbeg := hF.begin' M false (by omega) (H ++ [bx])
   have lp := loop (⟨0,true,false⟩ :: M) S
   have hq0 := hbr (kidsR item ks (⟨0,true,false⟩ :: M) S).2 []
   have hcutf := hfin (kidsR item ks (⟨0,true,false⟩ :: M) S).2 [bx]
   have hlen : (rsput F c (kidsR item ks (⟨0,true,false⟩ :: M) S).2 H ++ [bx]).length = H.length + 1 := by simp [rsput_len]
   simp [irScRNode]
   rw [← hbx]
   refine CallK_of' gbeg ?_
   generalize hW : H ++ [bx] = W at hbr0 ⊢
   rw [hbx] at hbr0
   simp [hbr0]
   rw [← hW,hself]
   refine lp _ _ _ (hM.new false) (by omega) (by simp only [List.length_cons]; omega) (by simp) (by simp) (by simp) (by simp) (by simp) (by simp) fun fr2 u0 u1 u3 u6 u9 => ?_
   generalize rsput F c (kidsR item ks (⟨0,true,false⟩ :: M) S).2 H ++ [bx] = W2 at hq0 hcutf hlen ⊢
   rw [hbx] at hq0
   simp [u0,u1,u6,hq0]
   simp [RetK,hlen,hcutf,nms_clr,-A.clr]
 rw [if_neg h6]
 by_cases h7 : k = 7
 · rw [if_pos h7]
   subst h7
   have hgr := grewR_kids (fun p _ => grewR p) (ks := ks) item M S hM
   have gb := hF.bind' ((h.put (kidsR item ks M S).2).app [bx]) (kidsR item ks M S).1 hgr.ok (.mk 7 f t w a z ks) 4 item (by have := hgr.sz; omega) (by have := hgr.len; omega)
   rw [rsput_app (h.put _),rsput_rsput] at gb
   have lp := loop M S
   have hq0 := hbr (kidsR item ks M S).2 []
   generalize hR2 : bindR 4 item (.mk 7 f t w a z ks) (kidsR item ks M S).1 (kidsR item ks M S).2 = R2 at gb ⊢
   have hcutf := hfin R2.2 [bx]
   have hlen : (rsput F c R2.2 H ++ [bx]).length = H.length + 1 := by simp [rsput_len]
   rw [N.v_mk] at gb
   simp [irScRNode]
   rw [← hbx,hself]
   refine lp _ _ _ hM (by omega) (by omega) (by simp) (by simp) (by simp) (by simp) (by simp) (by simp) fun fr2 u0 u1 u3 u6 u9 => ?_
   generalize rsput F c (kidsR item ks M S).2 H ++ [bx] = W2 at hq0 gb ⊢
   rw [hbx] at hq0
   simp [u0,u1,u3,u6,u9,hq0]
   refine CallK_of' gb ?_
   generalize rsput F c R2.2 H ++ [bx] = W3 at hcutf hlen ⊢
   simp
   simp [RetK,hlen,hcutf,nms_clr,-A.clr]
 rw [if_neg h7]
 by_cases h8 : k = 8
 · rw [if_pos h8]
   subst h8
   have gm := hF.mention' (h.app [bx]) M hM (.mk 8 f t w a z ks) true (by omega) (by omega)
   rw [hrn,hwf] at gm
   have hms := SM.men_sz S (.mk 8 f t w a z ks) true (findR S.bs w M)
   have hM1 : NmOk (S.men (.mk 8 f t w a z ks) true (findR S.bs w M)).bs.length M := hM
   generalize S.men (.mk 8 f t w a z ks) true (findR S.bs w M) = S1 at gm hms hM1 ⊢
   rw [N.v_mk] at gm
   have lp := loop M S1
   have hq1 := hbr S1 []
   have hq0 := hbr (kidsR item ks M S1).2 []
   have hcutf := hfin (kidsR item ks M S1).2 [bx]
   have hlen : (rsput F c (kidsR item ks M S1).2 H ++ [bx]).length = H.length + 1 := by simp [rsput_len]
   simp [irScRNode]
   rw [← hbx]
   refine CallK_of' gm ?_
   generalize hW : rsput F c S1 H ++ [bx] = W at hq1 ⊢
   rw [hbx] at hq1
   simp [hq1]
   rw [← hW]
   refine lp _ _ _ hM1 (by omega) (by omega) (by simp) (by simp) (by simp) (by simp) (by simp) (by simp) fun fr2 u0 u1 u3 u6 u9 => ?_
   generalize rsput F c (kidsR item ks M S1).2 H ++ [bx] = W2 at hq0 hcutf hlen ⊢
   rw [hbx] at hq0
   simp [u0,u1,u6,u9,hq0]
   simp [RetK,hlen,hcutf,nms_clr,-A.clr]
 rw [if_neg h8]
 have lp := loop M S
 have hq0 := hbr (kidsR item ks M S).2 []
 have hcutf := hfin (kidsR item ks M S).2 [bx]
 have hlen : (rsput F c (kidsR item ks M S).2 H ++ [bx]).length = H.length + 1 := by simp [rsput_len]
 simp [irScRNode,h23,h28,h8,h6]
 rw [← hbx,hself]
 refine lp _ _ _ hM (by omega) (by omega) (by simp) (by simp) (by simp) (by simp) (by simp) (by simp) fun fr2 u0 u1 u3 u6 u9 => ?_
 generalize rsput F c (kidsR item ks M S).2 H ++ [bx] = W2 at hq0 hcutf hlen ⊢
 rw [hbx] at hq0
 simp [u0,u1,u6,u9,hq0,h7,h6]
 simp [RetK,hlen,hcutf,nms_clr,-A.clr]
end
end
section
theorem topsR_snoc (x : N) : ∀ (l : List N) (i : Int) (M : List Nm) (S : SM),topsR i (l ++ [x]) M S = (if x.k = 2 then bindR 1 (i + l.length) x (topsR i l M S).1 (topsR i l M S).2 else if x.k = 3 then bindR 2 (i + l.length) x (topsR i l M S).1 (topsR i l M S).2 else topsR i l M S)
 | [],i,M,S => by simp only [List.nil_append,topsR,List.length_nil,Int.natCast_zero,Int.add_zero]
 | y :: r, i, M, S => by
   have e : i + 1 + (r.length : Int) = i + ((y :: r).length : Int) := by simp; omega
   simp only [List.cons_append,topsR]
   split
   · rw [topsR_snoc x r,e]
   · split
     · rw [topsR_snoc x r,e]
     · rw [topsR_snoc x r,e]
theorem defsR_snoc (M : List Nm) (x : N) : ∀ (l : List N) (i : Int) (S : SM),defsR M i (l ++ [x]) S = (if x.k = 3 then sclosedR (i + l.length) x.ks M false (defsR M i l S) else defsR M i l S)
 | [],i,S => by simp only [List.nil_append,defsR,List.length_nil,Int.natCast_zero,Int.add_zero]
 | y :: r, i, S => by
   have e : i + 1 + (r.length : Int) = i + ((y :: r).length : Int) := by simp; omega
   simp only [List.cons_append,defsR]
   rw [defsR_snoc M x r,e]
theorem topsR_grew : ∀ (l : List N) (i : Int) (M : List Nm) (S : SM),NmOk S.bs.length M → GrewR S (topsR i l M S).2 l.length M (topsR i l M S).1
 | [],i,M,S,h => ⟨Nat.le_refl _,by simp [topsR],by simp [topsR],h⟩
 | n :: r, i, M, S, h => by
   simp only [topsR,List.length_cons]
   have step : ∀ k : Int,GrewR S (topsR (i + 1) r (bindR k i n M S).1 (bindR k i n M S).2).2 (r.length + 1) M (topsR (i + 1) r (bindR k i n M S).1 (bindR k i n M S).2).1 := fun k => by
    have h1 := GrewR.bind h k i n
    have h2 := topsR_grew r (i + 1) _ _ h1.ok
    refine ⟨Nat.le_trans h1.bs h2.bs,?_,?_,h2.ok⟩
    · have := h1.sz; have := h2.sz; omega
    · have := h1.len; have := h2.len; omega
   split
   · exact step 1
   · split
     · exact step 2
     · have h2 := topsR_grew r (i + 1) M S h
       exact ⟨h2.bs,by have := h2.sz; omega,by have := h2.len; omega,h2.ok⟩
theorem defsR_grew (M : List Nm) : ∀ (l : List N) (i : Int) (S : SM),NmOk S.bs.length M → S.bs.length ≤ (defsR M i l S).bs.length ∧ (defsR M i l S).sz ≤ S.sz + 2 * N.sizes l
 | [],i,S,h => by simp [defsR]
 | n :: r, i, S, h => by
   simp only [defsR,N.sizes_cons]
   have h1 := grewR_closed (ks := n.ks) (fun p _ => grewR p) i M false S h
   have h3 := N.size_ks n
   split
   · have h2 := defsR_grew M r (i + 1) (sclosedR i n.ks M false S) (h.mono h1.1)
     omega
   · have h2 := defsR_grew M r (i + 1) S h
     omega
def rC (L : Nat) : RSC := ⟨L + 5,L + 2,L + 3,L + 4⟩
def rY (F : RSF) (L : Nat) (bx : Ob) (S : SM) : Hp := [bx,.box F.rtm [.d (.sl true 4 []),.d (.sl true 4 []),.d (.sl true 2 [])],.tok S.bs.length 4 F.rbd,.tok S.ms.length 4 F.rmn,.tok S.bad.length 2 F.red,rbox F (rC L) S]
def SM.encR (S : SM) : List D := [.sl true 4 (S.bs.map encBd),.sl true 4 (S.ms.map encMn),.sl true 2 (S.bad.map encBad)]
theorem cBad_le {x y : Int × Int} : cBad x y ≤ 0 ↔ x.1 ≤ y.1 := by unfold cBad cmpInt; split <;> (try split) <;> omega
theorem cBad_lt {x y : Int × Int} : cBad x y < 0 ↔ x.1 < y.1 := by unfold cBad cmpInt; split <;> (try split) <;> omega
section
variable {P : Program} {F : RSF} {S S' : SM} {H : Hp} {bx : Ob}
theorem rY_inv (X : Hp) : RSInv F (rC H.length) S (H ++ (rY F H.length bx S ++ X)) := by
 refine ⟨?_,?_,?_,?_,?_⟩
 · simp only [rC,rY,List.cons_append,List.nil_append,getElem?_appk]; rfl
 · simp only [rC,rY,List.cons_append,List.nil_append,getElem?_appk]; rfl
 · simp only [rC,rY,List.cons_append,List.nil_append,getElem?_appk]; rfl
 · simp only [rC,rY,List.cons_append,List.nil_append,getElem?_appk]; rfl
 · simp only [rC]; omega
theorem rY_inv0 : RSInv F (rC H.length) S (H ++ rY F H.length bx S) := by have := rY_inv (F := F) (S := S) (H := H) (bx := bx) []; rwa [List.append_nil] at this
theorem rY_put (X : Hp) : rsput F (rC H.length) S' (H ++ (rY F H.length bx S ++ X)) = H ++ (rY F H.length bx S' ++ X) := by
 simp only [rsput,rC,rY,List.cons_append,List.nil_append,set_appk]; rfl
theorem rY_put0 : rsput F (rC H.length) S' (H ++ rY F H.length bx S) = H ++ rY F H.length bx S' := by have := rY_put (F := F) (S := S) (S' := S') (H := H) (bx := bx) []; rwa [List.append_nil,List.append_nil] at this
theorem rY_cut (hcl : H.Closed) (hbx : ∀ n,bx.clr n = bx) (X : Hp) : Hp.cut (H.length + 6) (H ++ (rY F H.length bx S ++ X)) = H ++ rY F H.length bx S := by
 rw [cut_appk hcl]
 have : ((rY F H.length bx S ++ X).take 6) = rY F H.length bx S := by simp [rY]
 rw [this]
 simp only [rY,List.map_cons,List.map_nil,hbx]
 rw [rbox_clr (by simp [rC]) (by simp [rC]) (by simp [rC])]
 simp
def rTail (red : TypeId) : C := (.seq (.ops [
    ⟨(some 7),none,.mv (.c (.sl true 2 []))⟩] false)
 (.seq (.seq (.ops [
  ⟨(some 8),none,.mv (.c (.int .i64 0))⟩] false)
  (.blk 4 (.loop (.seq (.seq (.ops [
   ⟨(some 76),none,.mv (.t 8)⟩,
   ⟨(some 77),none,.mv (.t 3)⟩,
   ⟨(some 78),none,.nilCheck (.t 77)⟩,
   ⟨(some 79),none,.faddr 2 (.t 78)⟩,
   ⟨(some 80),none,.load 1 false (.t 79)⟩,
   ⟨(some 81),none,.lenL (.t 80)⟩,
   ⟨(some 82),none,.bin .lss (.t 76) (.t 81)⟩] false)
   (.cond (.t 82) (.skip)
   (.exit 4)))
   (.seq (.blk 5 (.seq (.ops [
    ⟨(some 85),none,.mv (.t 7)⟩,
    ⟨(some 86),none,.lenL (.t 85)⟩,
    ⟨(some 9),none,.mv (.t 86)⟩] false)
    (.seq (.blk 6 (.loop (.seq (.seq (.ops [
          ⟨(some 87),none,.mv (.t 9)⟩,
          ⟨(some 88),none,.bin .gtr (.t 87) (.c (.int .i64 0))⟩,
          ⟨(some 89),none,.mv (.t 88)⟩,
          ⟨(some 90),(some (89,true)),.mv (.t 7)⟩,
          ⟨(some 91),(some (89,true)),.mv (.t 9)⟩,
          ⟨(some 92),(some (89,true)),.bin .sub (.t 91) (.c (.int .i64 1))⟩,
          ⟨(some 93),(some (89,true)),.iaddr 2 (.t 90) (.t 92)⟩,
          ⟨(some 94),(some (89,true)),.faddr 0 (.t 93)⟩,
          ⟨(some 95),(some (89,true)),.load 1 false (.t 94)⟩,
          ⟨(some 96),(some (89,true)),.mv (.t 3)⟩,
          ⟨(some 97),(some (89,true)),.nilCheck (.t 96)⟩,
          ⟨(some 98),(some (89,true)),.faddr 2 (.t 97)⟩,
          ⟨(some 99),(some (89,true)),.load 1 false (.t 98)⟩,
          ⟨(some 100),(some (89,true)),.mv (.t 8)⟩,
          ⟨(some 101),(some (89,true)),.iaddr 2 (.t 99) (.t 100)⟩,
          ⟨(some 102),(some (89,true)),.faddr 0 (.t 101)⟩,
          ⟨(some 103),(some (89,true)),.load 1 false (.t 102)⟩,
          ⟨(some 104),(some (89,true)),.bin .gtr (.t 95) (.t 103)⟩,
          ⟨(some 105),none,.pick (.t 89) (.t 104) (.c (.bool false))⟩] true)
     (.cond (.t 105) (.skip)
     (.exit 6)))
     (.blk 7 (.ops [
      ⟨(some 106),none,.mv (.t 9)⟩,
      ⟨(some 107),none,.bin .sub (.t 106) (.c (.int .i64 1))⟩,
      ⟨(some 9),none,.mv (.t 107)⟩] false)))))
    (.seq (.ops [
     ⟨(some 10),none,.nilT 2 red⟩] false)
    (.seq (.ops [
     ⟨(some 108),none,.mv (.t 10)⟩,
     ⟨(some 109),none,.mv (.t 7)⟩,
     ⟨(some 110),none,.mv (.t 9)⟩,
     ⟨(some 111),none,.slice 2 (.t 109) none (some (.t 110)) none⟩,
     ⟨(some 112),none,.app 2 16 red (.t 108) (.t 111)⟩,
     ⟨(some 10),none,.mv (.t 112)⟩] false)
    (.seq (.ops [
     ⟨(some 113),none,.mv (.t 10)⟩,
     ⟨(some 114),none,.mv (.t 3)⟩,
     ⟨(some 115),none,.nilCheck (.t 114)⟩,
     ⟨(some 116),none,.faddr 2 (.t 115)⟩,
     ⟨(some 117),none,.load 1 false (.t 116)⟩,
     ⟨(some 118),none,.mv (.t 8)⟩,
     ⟨(some 119),none,.iaddr 2 (.t 117) (.t 118)⟩,
     ⟨(some 120),none,.load 2 true (.t 119)⟩,
     ⟨(some 121),none,.bslice 2 [(.t 120)]⟩,
     ⟨(some 122),none,.app 2 16 red (.t 113) (.t 121)⟩,
     ⟨(some 10),none,.mv (.t 122)⟩] false)
    (.ops [
     ⟨(some 123),none,.mv (.t 10)⟩,
     ⟨(some 124),none,.mv (.t 7)⟩,
     ⟨(some 125),none,.mv (.t 9)⟩,
     ⟨(some 126),none,.slice 2 (.t 124) (some (.t 125)) none none⟩,
     ⟨(some 127),none,.app 2 16 red (.t 123) (.t 126)⟩,
     ⟨(some 7),none,.mv (.t 127)⟩] false)))))))
   (.ops [
    ⟨(some 83),none,.mv (.t 8)⟩,
    ⟨(some 84),none,.bin .add (.t 83) (.c (.int .i64 1))⟩,
    ⟨(some 8),none,.mv (.t 84)⟩] false))))))
 (.seq (.ops [
  ⟨(some 128),none,.mv (.t 3)⟩,
  ⟨(some 129),none,.mv (.t 7)⟩,
  ⟨(some 130),none,.nilCheck (.t 128)⟩,
  ⟨(some 131),none,.faddr 2 (.t 130)⟩,
  ⟨none,none,.store 1 (.t 131) (.t 129)⟩] false)
 (.seq (.ops [
  ⟨(some 132),none,.mv (.t 3)⟩,
  ⟨(some 133),none,.nilCheck (.t 132)⟩,
  ⟨(some 134),none,.load 3 true (.t 133)⟩,
  ⟨none,none,.store 3 (.t 2) (.t 134)⟩] false)
 (.ret)))))
theorem rTail' (hcl : H.Closed) (hbx : ∀ n,bx.clr n = bx) (hS : S.sz ≤ 1099511627776) (fr : Fr) (f2 : fr 2 = .ptr (H.length + 1) 0) (f3 : fr 3 = .ptr (H.length + 5) 0) :
 AWp P H.length (rTail F.red) (Fin [.cell 2 3 true] H.length fun r H' => r = .agg ((SM.encR ⟨S.bs,S.ms,ssort cBad S.bad⟩).map .d) ∧ H' = H) fr (H ++ rY F H.length bx S) := by
 obtain ⟨bs,ms,bad⟩ := S
 have hbl : bad.length ≤ 1099511627776 := by unfold SM.sz at hS; simp only at hS; omega
 have y5 : ∀ X,(rY F H.length bx ⟨bs,ms,bad⟩ ++ X)[5]? = some (.box F.rtm [.osl true 4 (bs.map encBd) (H.length + 2),.osl true 4 (ms.map encMn) (H.length + 3),.osl true 2 (bad.map encBad) (H.length + 4)]) := fun _ => rfl
 have y5' : (rY F H.length bx ⟨bs,ms,bad⟩)[5]? = some (.box F.rtm [.osl true 4 (bs.map encBd) (H.length + 2),.osl true 4 (ms.map encMn) (H.length + 3),.osl true 2 (bad.map encBad) (H.length + 4)]) := rfl
 have lY : (rY F H.length bx ⟨bs,ms,bad⟩).length = 6 := rfl
 have hc := rY_cut (F := F) (S := ⟨bs,ms,bad⟩) hcl hbx
 have y1' : ∀ B,((rY F H.length bx ⟨bs,ms,bad⟩).set 5 B)[1]? = some (.box F.rtm [.d (.sl true 4 []),.d (.sl true 4 []),.d (.sl true 2 [])]) := fun _ => rfl
 have y1 : (rY F H.length bx ⟨bs,ms,bad⟩)[1]? = some (.box F.rtm [.d (.sl true 4 []),.d (.sl true 4 []),.d (.sl true 2 [])]) := rfl
 have y6 : ∀ x,(rY F H.length bx ⟨bs,ms,bad⟩ ++ [x])[6]? = some x := fun _ => rfl
 have s6 : ∀ x y,(rY F H.length bx ⟨bs,ms,bad⟩ ++ [x]).set 6 y = rY F H.length bx ⟨bs,ms,bad⟩ ++ [y] := fun _ _ => rfl
 have hc0 : Hp.cut (H.length + 6) (H ++ rY F H.length bx ⟨bs,ms,bad⟩) = H ++ rY F H.length bx ⟨bs,ms,bad⟩ := by have := hc []; rwa [List.append_nil] at this
 unfold rTail
 simp
 refine LoopK_out 4 (fun fr H' => fr 2 = .ptr (H.length + 1) 0 ∧ fr 3 = .ptr (H.length + 5) 0 ∧ fr 7 = .d (.sl true 2 ((ssort cBad bad).map encBad)) ∧ H' = H ++ rY F H.length bx ⟨bs,ms,bad⟩) ?_ ?_
 · refine ForK_of (H.length + 6) bad.length (fun j fr H' => fr 2 = .ptr (H.length + 1) 0 ∧ fr 3 = .ptr (H.length + 5) 0 ∧ fr 7 = .d (.sl true 2 ((ssort cBad (bad.take j)).map encBad)) ∧ H' = H ++ rY F H.length bx ⟨bs,ms,bad⟩) (by omega) (by decide) (by simp [lY]) (by simp) ?_ ?_
   · rw [List.take_zero]
     exact ⟨by simp [f2],by simp [f3],by simp [ssort],hc0⟩
   · rintro j fr H' hj f8 ⟨f2,f3,f7,rfl⟩
     simp [f8,f3,y5',-getElem?_pos]
     refine BrK_split (fun hd => ?_) (fun hd => ?_)
     · have hlt : j < bad.length := by simp at hd; omega
       have hr := rowAt_map encBad hlt
       have hsl : (ssort cBad (bad.take j)).length = j := by rw [ssort_length cBad_cmp]; simp; omega
       have hsorted := (ssort_spec cBad_cmp (bad.take j)).1
       have hsp : ssort cBad (bad.take (j + 1)) = ssort cBad (ssort cBad (bad.take j) ++ [bad[j]]) := by
        rw [List.take_succ_eq_append_getElem hlt]
        exact (ssort_alk cBad_cmp ((ssort_spec cBad_cmp (bad.take j)).2.append (Alk.refl _))).symm
       generalize hxx : bad[j] = x at hr hsp
       generalize ssort cBad (bad.take j) = L at hsl hsorted hsp f7 ⊢
       obtain ⟨xa,xe⟩ := x
       simp only [encBad] at hr
       have hr0 : ∀ X,(rY F H.length bx ⟨bs,ms,bad⟩ ++ X)[5]? = _ := y5
       simp [f7,f8,f3,hsl]
       refine LoopK_out 6 (fun fr H' => fr 2 = .ptr (H.length + 1) 0 ∧ fr 3 = .ptr (H.length + 5) 0 ∧ fr 7 = .d (.sl true 2 (L.map encBad)) ∧ fr 8 = .d (.int .i64 (j : Int)) ∧ H' = H ++ rY F H.length bx ⟨bs,ms,bad⟩ ∧ ∃ q : Nat,q ≤ L.length ∧ fr 9 = .d (.int .i64 (q : Int)) ∧ (∀ y ∈ L.take q,y.1 ≤ xa) ∧ ∀ y ∈ L.drop q,xa < y.1) ?_ ?_
       · refine LoopK_of (H.length + 6) (fun fr H' => fr 2 = .ptr (H.length + 1) 0 ∧ fr 3 = .ptr (H.length + 5) 0 ∧ fr 7 = .d (.sl true 2 (L.map encBad)) ∧ fr 8 = .d (.int .i64 (j : Int)) ∧ H' = H ++ rY F H.length bx ⟨bs,ms,bad⟩ ∧ ∃ q : Nat,q ≤ L.length ∧ fr 9 = .d (.int .i64 (q : Int)) ∧ ∀ y ∈ L.drop q,xa < y.1) (fun fr _ => muI (fr 9)) (by simp [lY]) ?_ ?_
         · exact ⟨by simp [f2],by simp [f3],by simp [f7],by simp [f8],hc0,j,by omega,by simp,by rw [List.drop_of_length_le (by omega)]; simp⟩
         · rintro fr H' ⟨f2,f3,f7,f8,rfl,q,hq,f9,hdr⟩
           cases q with
           | zero =>
             simp [f9,f7,f8,f3,f2]
             exact ⟨0,by omega,rfl,by simp,by simpa using hdr⟩
           | succ q =>
             have hql : q < L.length := by omega
             have hrq := rowAt_map encBad hql
             have hwq : IntKind.i64.wrap (((q : Int) + 1) - 1) = q := by rw [wrap_i64 (by omega) (by omega)]; omega
             have hwq3 : IntKind.i64.wrap (q : Int) = q := by rw [wrap_i64 (by omega) (by omega)]
             have hwq2 : (((q + 1 : Nat) : Int)) = (q : Int) + 1 := by omega
             rw [hwq2] at f9
             have hpos : (0 : Int) < (q : Int) + 1 := by omega
             have hdrop : L.drop q = L[q] :: L.drop (q + 1) := (List.drop_eq_getElem_cons hql)
             have htake : L.take (q + 1) = L.take q ++ [L[q]] := List.take_succ_eq_append_getElem hql
             have hsq : ∀ y ∈ L.take q,y.1 ≤ (L[q]).1 := fun y hy => by
              have h1 : Sorted cBad (L.take q ++ L.drop q) := by rw [List.take_append_drop]; exact hsorted
              have h2 := (Sorted.append (c := cBad)).1 h1
              exact cBad_le.1 (h2.2.2 y hy L[q] (by rw [hdrop]; exact List.mem_cons_self))
             generalize L[q] = y at hrq hdrop htake hsq
             obtain ⟨ya,ye⟩ := y
             simp only [encBad] at hrq
             by_cases hc1 : xa < ya
             · simp [f9,f7,f8,f3,y5',hr,hrq,hwq,hwq3,hpos,hc1,-getElem?_pos]
               refine AgainK_of (by simp [lY]) ⟨by simp [f2],by simp [f3],by simp [f7],by simp [f8],hc0,q,by omega,by simp,?_⟩ ?_
               · rw [hdrop]
                 intro y hy
                 rcases List.mem_cons.1 hy with rfl | hy
                 · exact hc1
                 · exact hdr y hy
               · show muI (.d (.int .i64 (q : Int))) < muI (.d (.int .i64 ((q : Int) + 1)))
                 simp only [muI]; omega
             · simp [f9,f7,f8,f3,f2,y5',hr,hrq,hwq,hwq3,hpos,hc1,-getElem?_pos]
               refine ⟨q + 1,by omega,by simp,?_,fun a b h => hdr (a,b) h⟩
               rw [htake]
               intro a b hy
               rcases List.mem_append.1 hy with hy | hy
               · have := hsq (a,b) hy; simp only at this ⊢; omega
               · simp at hy; omega
       · rintro fr H' ⟨f2,f3,f7,f8,rfl,q,hq,f9,hta,hdr⟩
         have hres : ssort cBad (bad.take (j + 1)) = L.take q ++ (xa,xe) :: L.drop q := by
          rw [hsp]
          have := ssort_snoc cBad_cmp (a := L.take q) (b := L.drop q) (x := (xa,xe)) (by rw [List.take_append_drop]; exact hsorted) (fun y hy => cBad_le.2 (hta y hy)) (fun y hy => cBad_lt.2 (hdr y hy))
          rw [List.take_append_drop] at this
          exact this
         have hq0 : (0 : Int) ≤ (q : Int) := by omega
         have hqL : (q : Int) ≤ (L.length : Int) := by omega
         have hfit1 : q * 16 ≤ 140737488355328 := by omega
         have hfit2 : (q + 1) * 16 ≤ 140737488355328 := by omega
         have hfit3 : (q + 1 + (L.length - q)) * 16 ≤ 140737488355328 := by omega
         have hmin : min q L.length = q := by omega
         have s1 : subL (L.map encBad) 0 (q : Int) = some ((L.take q).map encBad) := by rw [subL_ok (by simp; omega)]; simp [List.map_take]
         have s2 : subL (L.map encBad) (q : Int) (L.length : Int) = some ((L.drop q).map encBad) := by
          rw [subL_ok (by simp; omega)]
          have : (List.map encBad L).length - q = L.length - q := by simp
          simp [List.map_drop]
          rw [List.take_of_length_le (by simp)]
         have hlt' : (L.take q).length = q := by simp; omega
         have hld : (L.drop q).length = L.length - q := by simp
         simp [-List.map_take,-List.map_drop,s1,s2,f7,f8,f9,f3,appA,hq,hmin,hfit1,hfit2,hfit3,y5,y6,s6,hr,lY,-getElem?_pos]
         refine NextF_of (H.length + 6) (Nat.le_refl _) hlt (by simp [lY,f8]) ?_
         rw [hres,hc]
         exact ⟨by simp [f2],by simp [f3],by simp [encBad,-List.map_take,-List.map_drop],rfl⟩
     · have hjj : j = bad.length := by simp at hd; omega
       rw [hjj,List.take_of_length_le (Nat.le_refl _)] at f7
       simp [f2,f3,f7]
 · rintro fr H' ⟨f2,f3,f7,rfl⟩
   simp [f2,f3,f7,y5',y1,y1',lY,-getElem?_pos]
   simp only [RetK]
   refine ⟨by simp,?_,cut_app hcl _⟩
   simp [SM.encR]
theorem RSHas.of' (hF : RSHas P F) {fof : FuncId} (hof : HasT P [10,11] fof (irScROf F.rbind F.rclosed F.tn F.rtm F.red F.rbd F.rmn)) (n : N) (hn : n.size ≤ 68719476736) (H : Hp) :
 ACall P fof [n.v] H (fun r H' => r = .agg ((SM.encR ⟨(allR n).bs,(allR n).ms,ssort cBad (allR n).bad⟩).map .d) ∧ H' = H) := by
 obtain ⟨fn,hf,hcf⟩ := hof
 refine acall_fin hf hcf (by simp [irScROf]) fun hcl _ => ?_
 obtain ⟨k,f,t,w,a,z,ks⟩ := n
 rw [N.size_mk] at hn
 rw [N.v_mk]
 have hsl := N.sizes_len ks
 have hz : SM.sz ⟨[],[],[]⟩ = 0 := rfl
 have hnm : NmOk (SM.mk [] [] []).bs.length [] := fun x hx => absurd hx (by simp)
 have hall : allR (.mk k f t w a z ks) = defsR (topsR 0 ks [] ⟨[],[],[]⟩).1 0 ks (topsR 0 ks [] ⟨[],[],[]⟩).2 := rfl
 rw [hall]
 obtain ⟨bx,hbx⟩ : ∃ bx,bx = Ob.box F.tn [.d (.int .i64 k),.d (.int .i64 f),.d (.int .i64 t),.d (.str w),.d (.int .i64 a),.d (.sl z 6 (ks.map N.enc))] := ⟨_,rfl⟩
 have hbc : ∀ n,bx.clr n = bx := fun n => by subst hbx; simp
 have tail := fun (S : SM) hS fr f2 f3 => rTail' (P := P) (F := F) (S := S) hcl hbc hS fr f2 f3
 unfold rTail at tail
 simp [irScROf]
 rw [← hbx]
 have hstart : (H ++ [bx,.box F.rtm [.d (.sl true 4 []),.d (.sl true 4 []),.d (.sl true 2 [])],.tok 0 4 F.rbd,.tok 0 4 F.rmn,.tok 0 2 F.red,.box F.rtm [.osl true 4 [] (H.length + 2),.osl true 4 [] (H.length + 3),.osl true 2 [] (H.length + 4)]] : Hp) = H ++ rY F H.length bx ⟨[],[],[]⟩ := rfl
 rw [hstart]
 have hcut := fun (S' : SM) X => rY_cut (F := F) (S := S') hcl hbc X
 have hc0 : ∀ S' : SM,Hp.cut (H.length + 6) (H ++ rY F H.length bx S') = H ++ rY F H.length bx S' := fun S' => by have := hcut S' []; rwa [List.append_nil] at this
 have e0 : ∀ S',(rY F H.length bx S')[0]? = some (Ob.box F.tn [.d (.int .i64 k),.d (.int .i64 f),.d (.int .i64 t),.d (.str w),.d (.int .i64 a),.d (.sl z 6 (ks.map N.enc))]) := fun S' => by rw [← hbx]; rfl
 have lY : ∀ S',(rY F H.length bx S').length = 6 := fun _ => rfl
 refine LoopK_out 0 (fun fr H' => fr 1 = .ptr H.length 0 ∧ fr 2 = .ptr (H.length + 1) 0 ∧ fr 3 = .ptr (H.length + 5) 0 ∧ fr 4 = nms (topsR 0 ks [] ⟨[],[],[]⟩).1 ∧ H' = H ++ rY F H.length bx (topsR 0 ks [] ⟨[],[],[]⟩).2) ?_ ?_
 · refine ForK_of (H.length + 6) ks.length (fun j fr H' => fr 1 = .ptr H.length 0 ∧ fr 2 = .ptr (H.length + 1) 0 ∧ fr 3 = .ptr (H.length + 5) 0 ∧ fr 4 = nms (topsR 0 (ks.take j) [] ⟨[],[],[]⟩).1 ∧ H' = H ++ rY F H.length bx (topsR 0 (ks.take j) [] ⟨[],[],[]⟩).2) (by omega) (by decide) (by simp [lY]) (by simp) ?_ ?_
   · rw [List.take_zero]
     exact ⟨by simp,by simp,by simp,by simp [nms,topsR],hc0 _⟩
   · rintro j fr H' hj f5 ⟨f1,f2,f3,f4,rfl⟩
     have hgr := topsR_grew (ks.take j) 0 [] ⟨[],[],[]⟩ hnm
     have hll : (ks.take j).length = j := by simp; omega
     have hstep : ∀ (hlt : j < ks.length),topsR 0 (ks.take (j + 1)) [] ⟨[],[],[]⟩ = _ := fun hlt => by
      rw [List.take_succ_eq_append_getElem hlt,topsR_snoc,hll,Int.zero_add]
     have hend : j = ks.length → topsR 0 (ks.take j) [] ⟨[],[],[]⟩ = topsR 0 ks [] ⟨[],[],[]⟩ := fun e => by rw [e,List.take_of_length_le (Nat.le_refl _)]
     obtain ⟨-,g2,g3,g4⟩ := hgr
     rw [hll,hz] at g2
     rw [hll] at g3
     simp only [List.length_nil] at g3
     generalize topsR 0 (ks.take j) [] ⟨[],[],[]⟩ = TP at g2 g3 g4 hstep hend f4 ⊢
     obtain ⟨M1,S1⟩ := TP
     simp only at g2 g3 g4 hstep f4 ⊢
     have gb := fun (x : N) (kind : Int) => hF.bind' (rY_inv0 (F := F) (S := S1) (bx := bx) (H := H)) M1 g4 x kind (j : Int) (by omega) (by omega)
     simp only [rY_put0] at gb
     simp [f5,f1,e0,-getElem?_pos]
     refine BrK_split (fun hd => ?_) (fun hd => ?_)
     · have hlt : j < ks.length := by simp at hd; omega
       have hr := rowAt_map N.enc hlt
       have hst := hstep hlt
       generalize ks[j] = x at hr hst
       obtain ⟨k2,f2',t2,w2,a2,z2,ks2⟩ := x
       rw [N.enc_mk] at hr
       have nxt : ∀ (S' : SM) (M' : List Nm) (fr2 : Fr),fr2 1 = .ptr H.length 0 → fr2 2 = .ptr (H.length + 1) 0 → fr2 3 = .ptr (H.length + 5) 0 → fr2 5 = .d (.int .i64 (j : Int)) → fr2 4 = nms M' → topsR 0 (ks.take (j + 1)) [] ⟨[],[],[]⟩ = (M',S') →
        NextF (fun j fr H' => fr 1 = .ptr H.length 0 ∧ fr 2 = .ptr (H.length + 1) 0 ∧ fr 3 = .ptr (H.length + 5) 0 ∧ fr 4 = nms (topsR 0 (ks.take j) [] ⟨[],[],[]⟩).1 ∧ H' = H ++ rY F H.length bx (topsR 0 (ks.take j) [] ⟨[],[],[]⟩).2) .mk (H.length + 6) ks.length 5 18 19 j fr2 (H ++ rY F H.length bx S') := fun S' M' fr2 u1 u2 u3 u5 u4 hs => by
        refine NextF_of (H.length + 6) (Nat.le_refl _) hlt (by simp [lY,u5]) ?_
        refine ⟨by simp [u1],by simp [u2],by simp [u3],?_,?_⟩
        · rw [hs]; simp [u4,nms_clr,-A.clr]
        · rw [hs]; exact hc0 _
       by_cases h2 : k2 = 2
       · subst h2
         rw [if_pos (show (N.mk 2 f2' t2 w2 a2 z2 ks2).k = 2 from rfl)] at hst
         have gb1 := gb (.mk 2 f2' t2 w2 a2 z2 ks2) 1
         rw [N.v_mk] at gb1
         simp [f5,f1,f3,f4,e0,hr,-getElem?_pos]
         refine CallK_of' gb1 ?_
         simp [f5,f1,f3,f4,e0,hr,-getElem?_pos]
         exact nxt _ _ _ (by simp [f1]) (by simp [f2]) (by simp [f3]) (by simp [f5]) (by simp [bindR]) hst
       · by_cases h3 : k2 = 3
         · subst h3
           rw [if_neg (show ¬ (N.mk 3 f2' t2 w2 a2 z2 ks2).k = 2 from h2),if_pos (show (N.mk 3 f2' t2 w2 a2 z2 ks2).k = 3 from rfl)] at hst
           have gb1 := gb (.mk 3 f2' t2 w2 a2 z2 ks2) 2
           rw [N.v_mk] at gb1
           simp [f5,f1,f3,f4,e0,hr,-getElem?_pos]
           refine CallK_of' gb1 ?_
           simp [f5,f1,f3,f4,e0,hr,-getElem?_pos]
           exact nxt _ _ _ (by simp [f1]) (by simp [f2]) (by simp [f3]) (by simp [f5]) (by simp [bindR]) hst
         · rw [if_neg (show ¬ (N.mk k2 f2' t2 w2 a2 z2 ks2).k = 2 from h2),if_neg (show ¬ (N.mk k2 f2' t2 w2 a2 z2 ks2).k = 3 from h3)] at hst
           simp [f5,f1,f3,f4,e0,hr,h2,h3,-getElem?_pos]
           exact nxt _ _ _ (by simp [f1]) (by simp [f2]) (by simp [f3]) (by simp [f5]) (by simp [f4]) hst
     · have hjj : j = ks.length := by simp at hd; omega
       have he := hend hjj
       simp
       refine ⟨f1,f2,f3,?_,?_⟩
       · rw [← he]; exact f4
       · rw [← he]
 · rintro fr H' ⟨f1,f2,f3,f4,rfl⟩
   have hgT := topsR_grew ks 0 [] ⟨[],[],[]⟩ hnm
   obtain ⟨-,t2,t3,t4⟩ := hgT
   rw [hz] at t2
   simp only [List.length_nil] at t3
   generalize topsR 0 ks [] ⟨[],[],[]⟩ = TP at t2 t3 t4 f4 ⊢
   obtain ⟨G,S0⟩ := TP
   simp only at t2 t3 t4 f4 ⊢
   simp [f1]
   refine LoopK_out 2 (fun fr H' => fr 2 = .ptr (H.length + 1) 0 ∧ fr 3 = .ptr (H.length + 5) 0 ∧ H' = H ++ rY F H.length bx (defsR G 0 ks S0)) ?_ ?_
   · refine ForK_of (H.length + 6) ks.length (fun j fr H' => fr 1 = .ptr H.length 0 ∧ fr 2 = .ptr (H.length + 1) 0 ∧ fr 3 = .ptr (H.length + 5) 0 ∧ fr 4 = nms G ∧ H' = H ++ rY F H.length bx (defsR G 0 (ks.take j) S0)) (by omega) (by decide) (by simp [lY]) (by simp) ?_ ?_
     · rw [List.take_zero]
       exact ⟨by simp [f1],by simp [f2],by simp [f3],by simp [f4,nms_clr,-A.clr],hc0 _⟩
     · rintro j fr H' hj f6 ⟨f1,f2,f3,f4,rfl⟩
       have hgr := defsR_grew G (ks.take j) 0 S0 t4
       have hll : (ks.take j).length = j := by simp; omega
       have hstep : ∀ (hlt : j < ks.length),defsR G 0 (ks.take (j + 1)) S0 = _ := fun hlt => by
        rw [List.take_succ_eq_append_getElem hlt,defsR_snoc,hll,Int.zero_add]
       have hsz : ∀ (hlt : j < ks.length),N.sizes (ks.take j) + (ks[j]).size ≤ N.sizes ks := fun hlt => by
        have : ks = ks.take j ++ ks[j] :: ks.drop (j + 1) := by rw [List.getElem_cons_drop]; simp
        have e : N.sizes ks = N.sizes (ks.take j) + (ks[j].size + N.sizes (ks.drop (j + 1))) := by conv => lhs; rw [this,N.sizes_app,N.sizes_cons]
        omega
       have hend : j = ks.length → defsR G 0 (ks.take j) S0 = defsR G 0 ks S0 := fun e => by rw [e,List.take_of_length_le (Nat.le_refl _)]
       obtain ⟨g1,g2⟩ := hgr
       generalize defsR G 0 (ks.take j) S0 = S1 at g1 g2 hstep hend ⊢
       simp [f6,f1,e0,-getElem?_pos]
       refine BrK_split (fun hd => ?_) (fun hd => ?_)
       · have hlt : j < ks.length := by simp at hd; omega
         have hr := rowAt_map N.enc hlt
         have hst := hstep hlt
         have hz1 := hsz hlt
         generalize ks[j] = x at hr hst hz1
         obtain ⟨k2,f2',t2',w2,a2,z2,ks2⟩ := x
         rw [N.enc_mk] at hr
         rw [N.size_mk] at hz1
         have gc := hF.closed' (ks := ks2) (z := z2) (fun p _ => hF.node' p) (rY_inv0 (F := F) (S := S1) (bx := bx) (H := H)) (j : Int) G (t4.mono g1) false (by omega) (by omega)
         simp only [rY_put0] at gc
         have nxt : ∀ (S' : SM) (fr2 : Fr),fr2 1 = .ptr H.length 0 → fr2 2 = .ptr (H.length + 1) 0 → fr2 3 = .ptr (H.length + 5) 0 → fr2 6 = .d (.int .i64 (j : Int)) → fr2 4 = nms G → defsR G 0 (ks.take (j + 1)) S0 = S' →
          NextF (fun j fr H' => fr 1 = .ptr H.length 0 ∧ fr 2 = .ptr (H.length + 1) 0 ∧ fr 3 = .ptr (H.length + 5) 0 ∧ fr 4 = nms G ∧ H' = H ++ rY F H.length bx (defsR G 0 (ks.take j) S0)) .mk (H.length + 6) ks.length 6 57 58 j fr2 (H ++ rY F H.length bx S') := fun S' fr2 u1 u2 u3 u6 u4 hs => by
          refine NextF_of (H.length + 6) (Nat.le_refl _) hlt (by simp [lY,u6]) ?_
          refine ⟨by simp [u1],by simp [u2],by simp [u3],by simp [u4,nms_clr,-A.clr],?_⟩
          rw [hs]; exact hc0 _
         by_cases h3 : k2 = 3
         · subst h3
           rw [if_pos (show (N.mk 3 f2' t2' w2 a2 z2 ks2).k = 3 from rfl)] at hst
           simp [f6,f1,f3,f4,e0,hr,-getElem?_pos]
           refine CallK_of' gc ?_
           simp
           exact nxt _ _ (by simp [f1]) (by simp [f2]) (by simp [f3]) (by simp [f6]) (by simp [f4]) hst
         · rw [if_neg (show ¬ (N.mk k2 f2' t2' w2 a2 z2 ks2).k = 3 from h3)] at hst
           simp [f6,f1,f3,f4,e0,hr,h3,-getElem?_pos]
           exact nxt _ _ (by simp [f1]) (by simp [f2]) (by simp [f3]) (by simp [f6]) (by simp [f4]) hst
       · have hjj : j = ks.length := by simp at hd; omega
         have he := hend hjj
         simp
         refine ⟨f2,f3,?_⟩
         rw [← he]
   · rintro fr H' ⟨f2,f3,rfl⟩
     have hgD := (defsR_grew G ks 0 S0 t4).2
     generalize defsR G 0 ks S0 = S at hgD ⊢
     have ht := tail S (by omega) fr f2 f3
     simpa using ht
end
end
section
section
variable {P : Program}
end
end
theorem HR.vecArr2 {κ : K} {H : Hp} {w : World} (hr : HR κ H w) {i k sz e : Nat} {rows : List (List D)} (hi : H[i]? = some (.vec sz e k rows)) (hne : rows ≠ []) :
 ∃ κs,κ.le κs ∧ HR κs (H.set i .dead ++ [.arr sz (rows.map (List.map .d))]) w ∧ (∀ v,VR κ v (.vsl i k rows.length) → VR κs v (.msl H.length 0 rows.length)) ∧ (∀ m,m ≠ i → m ≠ H.length → κs.β m = κ.β m) ∧ ∃ b c n,κ.β i = .vec b c rows.length k sz ∧ κs.β H.length = .arr b sz (some (e,n)) ∧ (k = 0 → rows ≠ []) ∧ rows.length ≤ c ∧ c * sz ≤ n := by
 have hil : i < H.length := (List.getElem?_eq_some_iff.1 hi).1
 rcases hr.ob i _ hi with ⟨-,-,h0⟩ | ⟨b,c,cur,hβ,hk0,hheap,hle0,hsz,hcells⟩
 · exact absurd h0 hne
 have hpos : 0 < rows.length := List.length_pos_iff.2 hne
 have hbx := hr.ex i b (by rw [hβ]; rfl)
 have hn : κ.β H.length = .none := hr.dom _ (Nat.le_refl _)
 let κs : K := { κ with β := upd (upd κ.β i .deadT) H.length (.arr b sz (some (e,cur.size))) }
 have hsβ : ∀ m,m ≠ i → m ≠ H.length → κs.β m = κ.β m := fun m h1 h2 => by
  show upd (upd κ.β i _) H.length _ m = _
  rw [upd_ne _ _ h2,upd_ne _ _ h1]
 have hsi : κs.β i = .deadT := by
  show upd (upd κ.β i _) H.length _ i = _
  rw [upd_ne _ _ (by omega),upd_same]
 have hsn : κs.β H.length = .arr b sz (some (e,cur.size)) := upd_same _ _ _
 have hks : κ.le κs := ⟨rfl,fun _ _ _ h => h,fun m => by
  by_cases h1 : m = i
  · subst h1; rw [hsi,hβ]; exact .inr (.inl rfl)
  · by_cases h2 : m = H.length
    · subst h2; rw [hn]; trivial
    · rw [hsβ m h1 h2]; exact Bind.le_refl _⟩
 have hblk : ∀ m b',(κs.β m).block = some b' → (m = H.length ∧ b' = b) ∨ (m ≠ H.length ∧ m ≠ i ∧ (κ.β m).block = some b') := fun m b' hm => by
  by_cases h2 : m = H.length
  · subst h2; rw [hsn] at hm; cases hm; exact .inl ⟨rfl,rfl⟩
  · by_cases h1 : m = i
    · subst h1; rw [hsi] at hm; cases hm
    · rw [hsβ m h1 h2] at hm; exact .inr ⟨h2,h1,hm⟩
 refine ⟨κs,hks,⟨hr.below,hr.st,fun m x hx => ?_,fun m hm => ?_,fun m b' hb' => ?_,fun m b' o ho => ?_,fun m q b' h1 h2 => ?_,fun m x hx => ?_⟩,fun v hv => ?_,hsβ,b,c,cur.size,hβ,hsn,hk0,hle0,hsz⟩
 · by_cases h2 : m = H.length
   · subst h2
     rw [show H.length = (H.set i Ob.dead).length by simp,getElem?_app0] at hx
     cases hx
     refine ⟨b,_,hsn,fun ty n he => by cases he; exact ⟨cur,hheap,rfl⟩,fun q r hq => ?_⟩
     simp only [List.getElem?_map,Option.map_eq_some_iff] at hq
     obtain ⟨r0,hr0,rfl⟩ := hq
     refine ⟨by simpa using (hcells q r0 hr0).1,fun y a ha => ?_⟩
     simp only [List.getElem?_map,Option.map_eq_some_iff] at ha
     obtain ⟨x0,hx0,rfl⟩ := ha
     obtain ⟨u,u1,u2⟩ := (hcells q r0 hr0).2 y x0 hx0
     exact ⟨u,by rw [cell_cells hheap]; exact u1,by simp [World.frozen?,hheap],.d u2⟩
   · have hm : m < (H.set i Ob.dead).length := by
      have := (List.getElem?_eq_some_iff.1 hx).1
      simp at this ⊢; omega
     rw [List.getElem?_append_left hm] at hx
     by_cases h1 : i = m
     · subst h1
       rw [List.getElem?_set_self hil] at hx
       cases hx; trivial
     · rw [List.getElem?_set_ne h1] at hx
       exact (hr.ob m x hx).mono hks (hsβ m (Ne.symm h1) h2) fun _ _ => rfl
 · have : H.length + 1 ≤ m := by simpa using hm
   rw [hsβ m (by omega) (by omega)]; exact hr.dom m (by omega)
 · rcases hblk m b' hb' with ⟨-,rfl⟩ | ⟨-,-,h3⟩
   · exact hbx
   · exact hr.ex m b' h3
 · rcases hblk m b' (Bind.block_of_owns ho) with ⟨rfl,rfl⟩ | ⟨h1,h2,h3⟩
   · exact hr.exσ i b' o (by rw [hβ]; rfl)
   · rw [hsβ m h2 h1] at ho; exact hr.exσ m b' o ho
 · rcases hblk m b' h1 with ⟨rfl,rfl⟩ | ⟨a1,a2,a3⟩
   · rcases hblk q b' h2 with ⟨rfl,-⟩ | ⟨c1,c2,c3⟩
     · rfl
     · exact absurd (hr.exd q i b' c3 (by rw [hβ]; rfl)) c2
   · rcases hblk q b' h2 with ⟨rfl,rfl⟩ | ⟨c1,c2,c3⟩
     · exact absurd (hr.exd m i b' a3 (by rw [hβ]; rfl)) a2
     · exact hr.exd m q b' a3 c3
 · by_cases h2 : m = H.length
   · subst h2
     rw [show H.length = (H.set i Ob.dead).length by simp,getElem?_app0] at hx
     cases hx
     simp [Ob.flat,A.flat]
   · have hm : m < (H.set i Ob.dead).length := by
      have := (List.getElem?_eq_some_iff.1 hx).1
      simp at this ⊢; omega
     rw [List.getElem?_append_left hm] at hx
     by_cases h1 : i = m
     · subst h1
       rw [List.getElem?_set_self hil] at hx
       cases hx; rfl
     · rw [List.getElem?_set_ne h1] at hx
       exact hr.fl m x hx
 · cases hv with
   | vsl _ _ _ ad cap hlc hf =>
   rw [hβ] at hf
   have := (hf.2 rfl).2
   cases this
   exact .msl _ _ _ b sz 0 c (.inl ⟨_,hsn⟩) hlc (fun _ => by simp) (fun h0 => by omega)
theorem ACall.vecCall {P : Program} {f : FuncId} {H1 : Hp} {k sz e : Nat} {rows rows' : List (List D)} {args : List A} (hcl : H1.Closed) (hne : rows ≠ []) (hl : rows'.length = rows.length)
 (h : ACall P f (.msl (H1.length + 1) 0 rows.length :: args) (H1 ++ [.dead,.arr sz (rows.map (List.map .d))]) (fun r H' => r = .tup [] ∧ H' = H1 ++ [.dead,.arr sz (rows'.map (List.map .d))])) :
 ACall P f (.vsl H1.length k rows.length :: args) (H1 ++ [.vec sz e k rows]) (fun r H' => r = .tup [] ∧ H' = H1 ++ [.vec sz e k rows']) := by
 intro κ w vs hr hlen hv
 have hi : (H1 ++ [Ob.vec sz e k rows])[H1.length]? = some (.vec sz e k rows) := by simp
 obtain ⟨κs,h1,h2,h3,h4,b,c,n,p1,p2,p3,p4,p5⟩ := hr.vecArr2 hi hne
 have hH : (H1 ++ [Ob.vec sz e k rows]).set H1.length .dead ++ [.arr sz (rows.map (List.map .d))] = H1 ++ [.dead,.arr sz (rows.map (List.map .d))] := by
  rw [List.set_append_right _ _ (Nat.le_refl _)]; simp
 have hL : (H1 ++ [Ob.vec sz e k rows]).length = H1.length + 1 := by simp
 rw [hH] at h2
 rw [hL] at h3 h4 p2
 refine (h κs w vs h2 (by simpa using hlen) fun m v a hm ha => ?_).mono ?_
 · cases m with
   | zero => simp at ha; subst ha; exact h3 v (hv 0 v _ hm rfl)
   | succ m => exact (hv (m + 1) v a hm (by simpa using ha)).mono h1
 · rintro ev w' ⟨v,κ',r,H',q1,q2,q3,q4,rfl,rfl⟩
   have a1 : (H1 ++ [Ob.dead,.arr sz (rows'.map (List.map A.d))])[H1.length + 1]? = some (.arr sz (rows'.map (List.map .d))) := by
    rw [getElem?_appk]; rfl
   obtain ⟨b',s',b1,b2,b3⟩ := q3.ob _ _ a1
   have hle := q2.β (H1.length + 1)
   rw [p2,b1] at hle
   have hbs : b' = b ∧ s' = some (e,n) := by
    simp only [Bind.le] at hle
    rcases hle with hle | hle <;> cases hle
    exact ⟨rfl,rfl⟩
   obtain ⟨rfl,rfl⟩ := hbs
   obtain ⟨cur,c1,c2⟩ := b2 e n rfl
   have hcut := q3.cut H1.length (by simp)
   have hHc : Hp.cut H1.length (H1 ++ [Ob.dead,.arr sz (rows'.map (List.map A.d))]) = H1 := cut_app hcl _
   rw [hHc] at hcut
   let κc : K := κ'.cut H1.length
   let κ2 : K := { κc with β := upd κc.β H1.length (.vec b' c rows'.length k sz) }
   have hcn : κc.β H1.length = .none := hcut.dom _ (Nat.le_refl _)
   have hle2 : κc.le κ2 := K.le_upd hcn _
   have hκ2 : κ.le κ2 := by
    refine ⟨q2.w0.trans h1.w0,fun b o v hb => q2.σ _ _ _ (h1.σ _ _ _ hb),fun m => ?_⟩
    by_cases hm : m = H1.length
    · subst hm
      show (κ.β H1.length).le (upd κc.β H1.length _ H1.length)
      rw [upd_same,p1,hl]; exact Bind.le_refl _
    · show (κ.β m).le (upd κc.β H1.length _ m)
      rw [upd_ne _ _ hm]
      by_cases hlt : m < H1.length
      · have := Bind.le_trans (h1.β m) (q2.β m)
        show (κ.β m).le (if m < H1.length then κ'.β m else .none)
        rw [if_pos hlt]; exact this
      · have hn := hr.dom m (by simp; omega)
        rw [hn]; trivial
   have hcne : ∀ m,(κc.β m).block ≠ some b' := fun m hm => by
    by_cases hlt : m < H1.length
    · have e1 : κc.β m = κ'.β m := if_pos hlt
      rw [e1] at hm
      have := q3.exd m (H1.length + 1) b' hm (by rw [b1]; rfl)
      omega
    · have e1 : κc.β m = .none := if_neg hlt
      rw [e1] at hm; cases hm
   refine ⟨v,κ2,.tup [],_,q1,hκ2,⟨hcut.below,hcut.st,fun m x hx => ?_,fun m hm => ?_,fun m b hb => ?_,fun m b o ho => ?_,fun m q b hm hq => ?_,fun m x hx => ?_⟩,?_,rfl,rfl⟩
   · by_cases hlt : m < H1.length
     · rw [List.getElem?_append_left hlt] at hx
       exact (hcut.ob m x hx).mono hle2 (upd_ne _ _ (by omega)) fun _ _ => rfl
     · have : m = H1.length := by
        have := (List.getElem?_eq_some_iff.1 hx).1
        simp at this; omega
       subst this
       simp at hx
       subst hx
       refine .inr ⟨b',c,cur,upd_same _ _ _,fun h0 h00 => p3 h0 (by
        have : rows'.length = 0 := by rw [h00]; rfl
        exact List.eq_nil_of_length_eq_zero (by omega)),c1,by omega,by omega,fun j r hj => ?_⟩
       have hj' : (rows'.map (List.map A.d))[j]? = some (r.map A.d) := by rw [List.getElem?_map,hj]; rfl
       obtain ⟨d1,d2⟩ := b3 j _ hj'
       refine ⟨by simpa using d1,fun q x hx => ?_⟩
       obtain ⟨u,u1,-,u2⟩ := d2 q (.d x) (by rw [List.getElem?_map,hx]; rfl)
       rw [cell_cells c1] at u1
       cases u2 with
       | d u2 => exact ⟨u,u1,u2⟩
   · have h0 : H1.length + 1 ≤ m := by simpa using hm
     show upd κc.β H1.length _ m = _
     rw [upd_ne _ _ (by omega)]; exact hcut.dom m (by omega)
   · by_cases hm : m = H1.length
     · subst hm
       have : some b' = some b := by rw [← hb]; show _ = (upd κc.β H1.length _ H1.length).block; rw [upd_same]; rfl
       cases this
       exact q3.ex (H1.length + 1) b' (by rw [b1]; rfl)
     · have hb' : (κc.β m).block = some b := by rw [← hb]; show _ = (upd κc.β H1.length _ m).block; rw [upd_ne _ _ hm]
       exact hcut.ex m b hb'
   · by_cases hm : m = H1.length
     · subst hm
       have ho' : (Bind.vec b' c rows'.length k sz).owns b o := by
        have := ho
        change (upd κc.β H1.length _ H1.length).owns b o at this
        rwa [upd_same] at this
       have hbb := Bind.block_of_owns ho'
       cases hbb
       exact q3.exσ (H1.length + 1) b' o (by rw [b1]; rfl)
     · have ho' : (κc.β m).owns b o := by
        have := ho
        change (upd κc.β H1.length _ m).owns b o at this
        rwa [upd_ne _ _ hm] at this
       exact hcut.exσ m b o ho'
   · have hβ : ∀ m,m ≠ H1.length → κ2.β m = κc.β m := fun m hm => upd_ne _ _ hm
     have hβ0 : κ2.β H1.length = .vec b' c rows'.length k sz := upd_same _ _ _
     by_cases hm1 : m = H1.length <;> by_cases hq1 : q = H1.length
     · omega
     · subst hm1
       rw [hβ0] at hm; cases hm
       rw [hβ q hq1] at hq
       exact absurd hq (hcne q)
     · subst hq1
       rw [hβ0] at hq; cases hq
       rw [hβ m hm1] at hm
       exact absurd hm (hcne m)
     · rw [hβ m hm1] at hm; rw [hβ q hq1] at hq
       exact hcut.exd m q b hm hq
   · by_cases hlt : m < H1.length
     · rw [List.getElem?_append_left hlt] at hx; exact hcut.fl m x hx
     · have : m = H1.length := by
        have := (List.getElem?_eq_some_iff.1 hx).1
        simp at this; omega
       subst this
       simp at hx
       subst hx; rfl
   · cases q4 with
     | tup us _ hl0 h0 => exact .tup us _ hl0 fun m u a hu ha => by simp at ha
theorem ACall.freezeVec {P : Program} {f : FuncId} {args : List A} {H : Hp} {j k sz e : Nat} {rows : List (List D)} (hne : rows ≠ [])
 (h : ACall P f args H (fun r H' => ∃ X : Hp,X[j]? = some (.vec sz e k rows) ∧ r = .vsl (H.length + j) k rows.length ∧ H' = H ++ X)) : ACall P f args H (fun r H' => r = .d (.sl false sz rows) ∧ H' = H) := by
 intro κ w vs hr hl hv
 refine (h κ w vs hr hl hv).mono ?_
 rintro ev w' ⟨v,κ',r,H',h1,h2,h3,h4,X,hX,rfl,rfl⟩
 obtain ⟨κs,k1,k2,k3,-⟩ := h3.vecArr2 (i := H.length + j) (by rw [getElem?_appk]; exact hX) hne
 have a3 := k3 v h4
 obtain ⟨κ2,g1,g2,g3⟩ := k2.freezeArr (i := (H ++ X).length) (sz := sz) (rows := rows) (by simp) a3
 have hHX : ∃ Y,((H ++ X).set (H.length + j) Ob.dead ++ [Ob.arr sz (rows.map (List.map A.d))]).set (H ++ X).length Ob.dead = H ++ Y := by
  rw [set_appk,List.append_assoc,List.length_append,set_appk]; exact ⟨_,rfl⟩
 obtain ⟨Y,hY⟩ := hHX
 rw [hY] at g2
 exact ⟨v,κ2.cut H.length,.d (.sl false sz rows),Hp.cut H.length (H ++ Y),h1,K.le_cut (h2.trans (k1.trans g1)) hr.dom,g2.cut _ (by simp),g3.clr H.length,rfl,cut_app hr.closed _⟩
section
open Go.RowKit (Below)
open Go.Proofs Go.Sort
theorem below_ahead (w : World) (n : Nat) : Below w.heap.size w (Go.Sort.ahead w n) := ⟨rfl,rfl,rfl,Nat.le_refl _,fun _ _ => rfl⟩
theorem below_grow (w : World) (os : Array Obj) : Below w.heap.size w (grow w os) :=
 ⟨rfl,rfl,rfl,by simp [grow],fun k hk => by simp [grow,Array.getElem?_append_left hk]⟩
end
section
open Go.RowKit (Below)
open Go.Proofs Go.Sort
def intRows (L : List Int) : List (List A) := L.map fun x => [.d (.int .i64 x)]
theorem intRows_set (L : List Int) (k : Nat) (x : Int) : intRows (L.set k x) = (intRows L).set k [.d (.int .i64 x)] := by
 rw [intRows,List.map_set]; rfl
theorem HR.putInts {κ : K} {H : Hp} {w : World} (h : HR κ H w) {i b : Nat} {s : Option (TypeId × Nat)} {L0 d : List Int} (hi : H[i]? = some (.arr 1 (intRows L0))) (hβ : κ.β i = .arr b 1 s) (hd : d.length = L0.length)
 (h0 : Holds (Value.int .i64) w b 0 L0.toArray) : ∀ k : Nat,k ≤ L0.length → HR κ (H.set i (.arr 1 (intRows (d.take k ++ L0.drop k)))) (putRow (Value.int .i64) w b 0 (d.take k ++ L0.drop k).toArray)
 | 0, _ => by
   have hH : H.set i (.arr 1 (intRows L0)) = H := by
    refine List.ext_getElem? fun j => ?_
    by_cases hj : i = j
    · subst hj; rw [List.getElem?_set_self (List.getElem?_eq_some_iff.1 hi).1,hi]
    · rw [List.getElem?_set_ne hj]
   rw [List.take_zero,List.drop_zero,List.nil_append,hH,putRow_self _ _ _ _ _ h0]
   exact h
 | k + 1, hk => by
   have ih := HR.putInts h hi hβ hd h0 k (by omega)
   have hil : i < H.length := (List.getElem?_eq_some_iff.1 hi).1
   have hx : d.take (k + 1) ++ L0.drop (k + 1) = (d.take k ++ L0.drop k).set k (d[k]'(by omega)) := by
    have e1 : L0.drop k = L0[k]'(by omega) :: L0.drop (k + 1) := List.drop_eq_getElem_cons (by omega)
    have e2 : d.take (k + 1) = d.take k ++ [d[k]'(by omega)] := List.take_succ_eq_append_getElem (by omega)
    have hm : k - (d.take k).length = 0 := by simp; omega
    rw [e2,List.set_append_right _ _ (by simp; omega),hm,e1,List.set_cons_zero,List.append_assoc]
    rfl
   have hlen : (d.take k ++ L0.drop k).length = L0.length := by simp; omega
   generalize d.take k ++ L0.drop k = X at ih hx hlen
   rw [hx]
   have hXk : X[k]? = some (X[k]'(by omega)) := List.getElem?_eq_getElem (by omega)
   have hrow : (intRows X)[k]? = some [.d (.int .i64 (X[k]'(by omega)))] := by rw [intRows,List.getElem?_map,hXk]; rfl
   have := ih.setArr (i := i) (k := k) (j := 0) (by rw [List.getElem?_set_self hil]) hβ hrow (by simp) (v := (Value.int .i64) (d[k]'(by omega))) (a := .d (.int .i64 (d[k]'(by omega)))) rfl (.d (DR.int _ _))
   rw [List.set_set] at this
   have e3 := putRow_set (Value.int .i64) w b 0 X.toArray k (d[k]'(by omega)) (by simp; omega)
   rw [Nat.zero_add] at e3
   rw [Nat.mul_one,Nat.add_zero,e3] at this
   rw [intRows_set]
   simpa using this
def SortInt (P : Program) (f : FuncId) : Prop := ∀ (blk off cap : Nat) (ss : List Int) (w : World),Holds (Value.int .i64) w blk off ss.toArray → blk < w.heap.size → ss.length < 4611686018427387904 →
 Calls P f #[.slice (some ⟨blk,off,none⟩) ss.length cap] w fun e w' => e = .returned (.tuple #[]) ∧ ∃ n os,w' = grow (putRow (Value.int .i64) (Go.Sort.ahead w n) blk off (ss.mergeSort fun x y => decide (x ≤ y)).toArray) os
theorem sortInt_acall {P : Program} {f : FuncId} (hS : SortInt P f) {L : List Int} (hne : L ≠ []) (hl : L.length < 4611686018427387904) {H : Hp} {i : Nat} (hi : H[i]? = some (.arr 1 (intRows L))) :
 ACall P f [.msl i 0 L.length] H (fun r H' => r = .tup [] ∧ H' = H.set i (.arr 1 (intRows (L.mergeSort fun x y => decide (x ≤ y))))) := by
 intro κ w vs hr hvl hv
 match vs,hvl with
 | [v],_ =>
 have hv0 := hv 0 v _ rfl rfl
 have hpos : 0 < L.length := List.length_pos_iff.2 hne
 cases hv0 with
 | msl _ _ _ b sz o cap hb hcl ho hz =>
 obtain ⟨b',s',hβ',hsh,hc⟩ := hr.ob i _ hi
 obtain ⟨rfl,rfl⟩ : b = b' ∧ sz = 1 := by
  rcases hb with ⟨s,hb⟩ | hb
  · rw [hβ'] at hb; cases hb; exact ⟨rfl,rfl⟩
  · rw [hβ'] at hb; cases hb
 have ho' : o = 0 := by have := ho hpos; omega
 subst ho'
 have hH0 : ∀ n,Holds (Value.int .i64) (Go.Sort.ahead w n) b 0 L.toArray := fun n j hj => by
  have hj' : j < L.length := by simpa using hj
  have hrow : (intRows L)[j]? = some [.d (.int .i64 L[j])] := by rw [intRows,List.getElem?_map,List.getElem?_eq_getElem hj']; rfl
  obtain ⟨-,h2⟩ := hc j _ hrow
  obtain ⟨u,u1,u2,u3⟩ := h2 0 _ rfl
  have := u3.d_inv.int_inv
  subst this
  rw [Nat.mul_one,Nat.add_zero] at u1 u2
  rw [Nat.zero_add]
  refine ⟨?_,u2⟩
  rw [cell?_ahead,u1]
  simp [getElem!_pos,hj']
 have hblk := (hr.ex i b (by rw [hβ']; rfl)).2
 refine (hS b 0 cap L w (hH0 0) hblk hl).mono ?_
 rintro e w' ⟨rfl,n,os,rfl⟩
 have h1 : HR κ H (Go.Sort.ahead w n) := hr.later (below_ahead w n)
 have hml : (L.mergeSort fun x y => decide (x ≤ y)).length = L.length := List.length_mergeSort L
 have h2 := h1.putInts hi hβ' hml (hH0 n) L.length (Nat.le_refl _)
 rw [List.take_of_length_le (by omega),List.drop_of_length_le (Nat.le_refl _),List.append_nil] at h2
 have h3 := h2.later (below_grow _ os)
 exact ⟨_,κ,.tup [],_,rfl,K.le_refl κ,h3,.tup [] [] rfl (by simp),rfl,rfl⟩
end
section
def idxP {α : Type} (p : α → Bool) (l : List α) : Int := if l.any p then (l.findIdx p : Nat) else -1
theorem idxP_at {α : Type} {p : α → Bool} {l : List α} {j : Nat} (hj : j < l.length) (h0 : ∀ y ∈ l.take j,p y = false) (h1 : p l[j] = true) : idxP p l = (j : Int) := by
 unfold idxP
 have h2 : l.any p = true := List.any_eq_true.2 ⟨_,List.getElem_mem hj,h1⟩
 rw [if_pos h2]
 have : l.findIdx p = j := by
  rw [List.findIdx_eq hj]
  refine ⟨h1,fun k hk => ?_⟩
  have := h0 l[k] (by
   have : l[k] = (l.take j)[k]'(by simp; omega) := by simp
   rw [this]; exact List.getElem_mem _)
  simpa using this
 rw [this]
theorem idxP_no {α : Type} {p : α → Bool} {l : List α} (h0 : ∀ y ∈ l,p y = false) : idxP p l = -1 := by
 unfold idxP
 rw [if_neg]
 intro h
 obtain ⟨x,hx,h1⟩ := List.any_eq_true.1 h
 rw [h0 x hx] at h1; cases h1
theorem idxP_pos {α : Type} {p : α → Bool} {l : List α} : decide (0 ≤ idxP p l) = l.any p := by
 unfold idxP
 split
 · rename_i h; rw [h]; simp
 · rename_i h; simp at h ⊢; exact h
section
variable {P : Program} {tn tm bd mn ed tint : Nat}
theorem Has.scCmp {f cmpI : FuncId} (hf : Has P f (irScCmp cmpI ed)) (hc : ∀ (a b : Int) (H : Hp),ACall P cmpI [.d (.int .i64 a),.d (.int .i64 b)] H (fun r H' => r = .d (.int .i64 (cmpInt a b)) ∧ H' = H)) (x y : Int × Int) (H : Hp) :
 ACall P f [.agg (rowE encBad x),.agg (rowE encBad y)] H (fun r H' => r = .d (.int .i64 (cBad x y)) ∧ H' = H) := by
 obtain ⟨fn,hff,hcf⟩ := hf
 refine acall_fin hff hcf (by simp [irScCmp]) fun hcl _ => ?_
 obtain ⟨a1,c1⟩ := x
 obtain ⟨a2,c2⟩ := y
 simp [irScCmp,rowE,encBad]
 refine CallK_of' (hc _ _ _) ?_
 simp [RetK,resA,cut_app hcl,cBad]
theorem Has.scIdxF {f : FuncId} (hf : Has P f irScIdxF) {g : A} {H : Hp} {ms : List Mn} {z : Bool} {p : Mn → Bool} (hl : ms.length ≤ 1099511627776) (hg : ∀ m,H.length ≤ m → g.clr m = g)
 (hp : ∀ (x : Mn) (Q : A → Hp → Prop) (t : Tag Q),Q (.d (.bool (p x))) H → ValK Q t P [.agg (rowE encMn x)] H g) : ACall P f [.d (.sl z 4 (ms.map encMn)),g] H (fun r H' => r = .d (.int .i64 (idxP p ms)) ∧ H' = H) := by
 obtain ⟨fn,hff,hcf⟩ := hf
 refine acall_fin hff hcf (by simp [irScIdxF]) fun hcl _ => ?_
 simp [irScIdxF]
 refine LoopK_out 0 (fun fr H' => (∀ y ∈ ms,p y = false) ∧ H' = H) ?_ ?_
 · refine RangeK_of H.length ms.length (fun j fr H' => fr 0 = .d (.sl z 4 (ms.map encMn)) ∧ fr 1 = g ∧ (∀ y ∈ ms.take j,p y = false) ∧ H' = H) (by omega) (by decide) (by simp) (by simp) ?_ ?_ ?_
   · exact ⟨by simp,by simp [hg,-A.clr],by simp,cut_self hcl⟩
   · rintro j fr H' hj f8 f7 ⟨f0,f1,h0,rfl⟩
     have hr := rowAt_map encMn hj
     have hat := fun h1 => idxP_at (p := p) hj h0 h1
     have hnx : ms.take (j + 1) = ms.take j ++ [ms[j]] := List.take_succ_eq_append_getElem hj
     generalize ms[j] = x at hr hat hnx
     have gp := hp x
     obtain ⟨xa,xt,xw,xf⟩ := x
     simp only [rowE,encMn,List.map_cons,List.map_nil] at gp hr
     simp [f8,f0,f1,hr]
     refine gp _ _ ?_
     simp
     refine BrK_split (fun hd => ?_) (fun hd => ?_)
     · have h1 : p ⟨xa,xt,xw,xf⟩ = true := by simpa using hd
       simp [f8,RetK,resA,cut_self hcl,hat h1]
     · have h1 : p ⟨xa,xt,xw,xf⟩ = false := by simpa using hd
       simp
       refine NextK_of H'.length (Nat.le_refl _) (by simp [f8,f7]) ?_
       refine ⟨by simp [f0],by simp [f1,hg,-A.clr],?_,cut_self hcl⟩
       rw [hnx]
       intro y hy
       rcases List.mem_append.1 hy with hy | hy
       · exact h0 y hy
       · rw [List.mem_singleton.1 hy]; exact h1
   · rintro fr H' f8 f7 ⟨f0,f1,h0,rfl⟩
     rw [List.take_of_length_le (Nat.le_refl _)] at h0
     simp
     exact h0
 · rintro fr H' ⟨h0,rfl⟩
   simp [RetK,resA,cut_self hcl,idxP_no h0]
theorem Has.scContF {f idx : FuncId} (hf : Has P f (irScContF idx)) (hi : Has P idx irScIdxF) {g : A} {H : Hp} {ms : List Mn} {z : Bool} {p : Mn → Bool} (hl : ms.length ≤ 1099511627776) (hg : ∀ m,H.length ≤ m → g.clr m = g)
 (hp : ∀ (x : Mn) (Q : A → Hp → Prop) (t : Tag Q),Q (.d (.bool (p x))) H → ValK Q t P [.agg (rowE encMn x)] H g) : ACall P f [.d (.sl z 4 (ms.map encMn)),g] H (fun r H' => r = .d (.bool (ms.any p)) ∧ H' = H) := by
 have gi := hi.scIdxF (z := z) hl hg hp
 obtain ⟨fn,hff,hcf⟩ := hf
 refine acall_fin hff hcf (by simp [irScContF]) fun hcl _ => ?_
 simp [irScContF]
 refine CallK_of' gi ?_
 have := idxP_pos (p := p) (l := ms)
 simp [RetK,resA,cut_self hcl,this]
def wrQ (i : Int) (x : Mn) : Bool := decide (x.t = i) && x.wr
theorem Has.scWrittenC {f : FuncId} (hf : Has P f (irScWrittenC mn)) (x : Mn) (i : Int) {H : Hp} {j : Nat} (hj : H[j]? = some (.box tint [.d (.int .i64 i)])) :
 ACall P f [.agg (rowE encMn x),.ptr j 0] H (fun r H' => r = .d (.bool (wrQ i x)) ∧ H' = H) := by
 have hjl := scan_len hj
 obtain ⟨fn,hff,hcf⟩ := hf
 refine acall_fin hff hcf (by simp [irScWrittenC]) fun hcl _ => ?_
 obtain ⟨xa,xt,xw,xf⟩ := x
 have hj2 : ∀ X,(H ++ X)[j]? = some (.box tint [.d (.int .i64 i)]) := fun X => get_app hj X
 simp [irScWrittenC,rowE,encMn,hj2,List.getElem?_cons_zero,-getElem?_pos]
 by_cases h : xt = i
 · subst h
   simp [hj2,List.getElem?_cons_zero,RetK,resA,cut_app hcl,wrQ,-getElem?_pos]
 · simp [h,hj2,List.getElem?_cons_zero,RetK,resA,cut_app hcl,wrQ,-getElem?_pos]
theorem Has.scWritten {f cf wc idx : FuncId} (hf : Has P f (irScWritten cf wc tm tint)) (hc : Has P cf (irScContF idx)) (hi : Has P idx irScIdxF) (hw : Has P wc (irScWrittenC mn)) (hok : callOk P wc = true) {bs bad : D} {z : Bool} {ms : List Mn} (hl : ms.length ≤ 1099511627776) (i : Int) (H : Hp) :
 ACall P f [.agg [.d bs,.d (.sl z 4 (ms.map encMn)),.d bad],.d (.int .i64 i)] H (fun r H' => r = .d (.bool (ms.any (wrQ i))) ∧ H' = H) := by
 obtain ⟨fn,hff,hcf⟩ := hf
 refine acall_fin hff hcf (by simp [irScWritten]) fun hcl _ => ?_
 simp [irScWritten,List.getElem?_cons_zero,-getElem?_pos]
 refine CallK_of' (hc.scContF hi (p := wrQ i) hl (fun m hm => by
  have h2 : H.length + 1 < m := by simp at hm; omega
  simp [h2,A.lo]) (fun x Q t hQ => ?_)) ?_
 · simp only [ValK]
   refine ⟨hok,(hw.scWrittenC (tint := tint) x i (j := H.length + 1) (by simp)).mono ?_⟩
   rintro r H' ⟨rfl,rfl⟩
   exact hQ
 · simp [RetK,resA,cut_app hcl]
end
end
section
section
variable {L : List Tk}
end
end
section
def bAt (bs : List SBd) (i : Int) : SBd := bs.getD i.toNat default
section
variable {TL : List Tk} {lo it : Int}
end
end
end Go.Zam
namespace Go.Zam
namespace N
end N
section
variable {L L' : List Tk}
end
section
variable {TL L' : List Tk} {q : Nat} {name : Bs} {F : SM} {lo it : Int}
end
end Go.Zam
namespace Go.Zam
section
def usesL (S : SM) (i : Nat) : List Int := (bAt S.bs i).a :: (S.ms.filter fun m => decide (m.t = (i : Int))).map Mn.a
section
variable {TL : List Tk} {n : N} {e : Int} {S : SM}
end
section
variable {L : List Tk} {n : N} {e : Int} {S : SM} {us : List Int} {name : Bs} {q : Nat}
end
end
def irScUsesV (srtI tm mn tint : Nat) : IFn := { nt := 44, res := [.t 4], body := ( .seq (.ops [ ⟨some 2,none,.box tm 3 (.t 0)⟩, ⟨some 4,none,.mv (.c (.sl true 1 []))⟩] false) (.seq (.seq (.ops [ ⟨some 8,none,.mv (.t 1)⟩, ⟨some 9,none,.bin .lss (.t 8) (.c (.int .i64 0))⟩, ⟨some 10,none,.mv (.t 9)⟩, ⟨some 11, some (10, false),.mv (.t 1)⟩, ⟨some 12, some (10, false),.faddr 0 (.t 2)⟩, ⟨some 13, some (10, false),.load 1 false (.t 12)⟩, ⟨some 14, some (10, false),.lenL (.t 13)⟩, ⟨some 15, some (10, false),.bin .geq (.t 11) (.t 14)⟩, ⟨some 16,none,.pick (.t 10) (.c (.bool true)) (.t 15)⟩] false) (.cond (.t 16) (.seq (.ops [ ⟨some 4,none,.mv (.c (.sl true 1 []))⟩] false) (.ret)) (.skip))) (.seq (.ops [ ⟨some 17,none,.faddr 0 (.t 2)⟩, ⟨some 18,none,.load 1 false (.t 17)⟩, ⟨some 19,none,.mv (.t 1)⟩, ⟨some 20,none,.iaddr 4 (.t 18) (.t 19)⟩, ⟨some 21,none,.faddr 0 (.t 20)⟩, ⟨some 22,none,.load 1 false (.t 21)⟩, ⟨some 23,none,.bsliceV 1 tint [(.t 22)]⟩, ⟨some 5,none,.mv (.t 23)⟩] false) (.seq (.seq (.ops [ ⟨some 24,none,.faddr 1 (.t 2)⟩, ⟨some 25,none,.load 1 false (.t 24)⟩, ⟨some 26,none,.lenL (.t 25)⟩, ⟨some 27,none,.mv (.c (.int .i64 0))⟩] false) (.blk 0 (.loop (.seq (.ops [ ⟨some 28,none,.bin .lss (.t 27) (.t 26)⟩] false) (.seq (.cond (.t 28) (.skip) (.exit 0)) (.seq (.blk 1 (.seq (.ops [ ⟨some 29,none,.iaddr 4 (.t 25) (.t 27)⟩, ⟨some 30,none,.load 4 true (.t 29)⟩, ⟨some 7,none,.alloc mn [(.int .i64 0),(.int .i64 0),(.bool false),(.int .i64 0)]⟩, ⟨none,none,.store 4 (.t 7) (.t 30)⟩] false) (.seq (.ops [ ⟨some 31,none,.faddr 1 (.t 7)⟩, ⟨some 32,none,.load 1 false (.t 31)⟩, ⟨some 33,none,.mv (.t 1)⟩, ⟨some 34,none,.bin .eql (.t 32) (.t 33)⟩] false) (.cond (.t 34) (.ops [ ⟨some 35,none,.mv (.t 5)⟩, ⟨some 36,none,.faddr 0 (.t 7)⟩, ⟨some 37,none,.load 1 false (.t 36)⟩, ⟨some 38,none,.bslice 1 [(.t 37)]⟩, ⟨some 39,none,.appV 1 8 tint (.t 35) (.t 38)⟩, ⟨some 5,none,.mv (.t 39)⟩] false) (.skip))))) (.ops [ ⟨some 40,none,.bin .add (.t 27) (.c (.int .i64 1))⟩, ⟨some 27,none,.mv (.t 40)⟩] false))))))) (.seq (.ops [ ⟨some 41,none,.mv (.t 5)⟩, ⟨some 42,none,.call srtI [(.t 41)]⟩] false) (.seq (.ops [ ⟨some 43,none,.mv (.t 5)⟩, ⟨some 4,none,.mv (.t 43)⟩] false) (.ret))))))) }
section
def encI (t : Int) : List D := [.int .i64 t]
def isort (L : List Int) : List Int := L.mergeSort fun x y => decide (x ≤ y)
theorem isort_len (L : List Int) : (isort L).length = L.length := List.length_mergeSort L
theorem intRows_enc (L : List Int) : intRows L = (L.map encI).map (List.map .d) := by simp [intRows,encI]
section
variable {P : Program} {tn tm bd mn ed tint : Nat}
theorem Has.scUses {f srt : FuncId} (hf : HasT P [2000039,9000023] f (irScUsesV srt tm mn tint)) (hS : SortInt P srt) {S : SM} {z1 z2 : Bool} {bad : D} (hl : S.ms.length ≤ 1099511627776) (i : Nat) (hi : i < S.bs.length) (H : Hp) :
 ACall P f [.agg [.d (.sl z1 4 (S.bs.map encBd)),.d (.sl z2 4 (S.ms.map encMn)),.d bad],.d (.int .i64 (i : Int))] H (fun r H' => r = .d (.sl false 1 ((isort (usesL S i)).map encI)) ∧ H' = H) := by
 have hne : (isort (usesL S i)).map encI ≠ [] := by
  intro h
  have h1 := congrArg List.length h
  rw [List.length_map,isort_len] at h1
  simp [usesL] at h1
 have hle : (usesL S i).length ≤ S.ms.length + 1 := by
  unfold usesL
  have := List.length_filter_le (fun m : Mn => decide (m.t = (i : Int))) S.ms
  simp only [List.length_cons,List.length_map]; omega
 refine ACall.freezeVec (j := 1) (k := (usesL S i).length) (e := tint) hne ?_
 obtain ⟨fn,hff,hcf⟩ := hf
 refine acall_fink 2 hff hcf (by simp [irScUsesV]) fun hcl _ => ?_
 obtain ⟨bs,ms,bd'⟩ := S
 simp only at hl hi hle
 obtain ⟨bx,hbx⟩ : ∃ bx,bx = Ob.box tm [.d (.sl z1 4 (bs.map encBd)),.d (.sl z2 4 (ms.map encMn)),.d bad] := ⟨_,rfl⟩
 have hbc : ∀ n,bx.clr n = bx := fun n => by subst hbx; simp
 have hi0 : ¬ (i : Int) < 0 := by omega
 have hi1 : ¬ (bs.length : Int) ≤ (i : Int) := by omega
 have hr := rowAt_map encBd hi
 have hbi : bAt bs (i : Int) = bs[i] := by unfold bAt; rw [Int.toNat_natCast,List.getD_eq_getElem?_getD,List.getElem?_eq_getElem hi]; rfl
 have hU : usesL ⟨bs,ms,bd'⟩ i = bs[i].a :: (ms.filter fun m => decide (m.t = (i : Int))).map Mn.a := by unfold usesL; simp only; rw [hbi]
 generalize bs[i] = b at hr hU
 obtain ⟨ba,bk,bw,bi⟩ := b
 simp only [encBd] at hr
 simp only at hU
 let U : Nat → List Int := fun j => ba :: ((ms.take j).filter fun m => decide (m.t = (i : Int))).map Mn.a
 have hU0 : U 0 = [ba] := rfl
 have hUn : U ms.length = usesL ⟨bs,ms,bd'⟩ i := by rw [hU]; show _ :: _ = _; rw [List.take_of_length_le (Nat.le_refl _)]
 have hUl : ∀ j,(U j).length ≤ ms.length + 1 := fun j => by
  have h1 := List.length_filter_le (fun m : Mn => decide (m.t = (i : Int))) (ms.take j)
  have h2 : (ms.take j).length ≤ ms.length := by simp; omega
  show (_ :: List.map _ _).length ≤ _
  simp only [List.length_cons,List.length_map]; omega
 let HY : Nat → Hp := fun j => [bx,.vec 1 tint (U j).length ((U j).map encI)]
 have hc : ∀ j X,Hp.cut (H.length + 2) (H ++ (HY j ++ X)) = H ++ HY j := fun j X => by
  rw [cut_appk hcl]
  have hv : ∀ n s e k r,(Ob.vec s e k r).clr n = Ob.vec s e k r := fun _ _ _ _ _ => rfl
  simp [HY,hbc,hv,-Ob.clr]
 have hc0 : ∀ j,Hp.cut (H.length + 2) (H ++ HY j) = H ++ HY j := fun j => by have := hc j []; rwa [List.append_nil] at this
 have e0 : ∀ j X,(HY j ++ X)[0]? = some (Ob.box tm [.d (.sl z1 4 (bs.map encBd)),.d (.sl z2 4 (ms.map encMn)),.d bad]) := fun j X => by rw [← hbx]; rfl
 have e1 : ∀ j X,(HY j ++ X)[1]? = some (.vec 1 tint (U j).length ((U j).map encI)) := fun j X => rfl
 have e2 : ∀ j x X,(HY j ++ x :: X)[2]? = some x := fun j x X => rfl
 have s2 : ∀ j x y X,(HY j ++ x :: X).set 2 y = HY j ++ y :: X := fun j x y X => rfl
 have lY : ∀ j,(HY j).length = 2 := fun j => rfl
 have hst : H ++ [bx,Ob.vec 1 tint 1 [[D.int .i64 ba]]] = H ++ HY 0 := rfl
 simp [irScUsesV,hi0,hi1,hr,List.getElem?_cons_zero,-getElem?_pos]
 rw [← hbx,hst]
 refine LoopK_out 0 (fun fr H' => fr 5 = .vsl (H.length + 1) (U ms.length).length (U ms.length).length ∧ H' = H ++ HY ms.length) ?_ ?_
 · refine RangeK_of (H.length + 2) ms.length (fun j fr H' => fr 1 = .d (.int .i64 (i : Int)) ∧ fr 5 = .vsl (H.length + 1) (U j).length (U j).length ∧ fr 25 = .d (.sl z2 4 (ms.map encMn)) ∧ H' = H ++ HY j) (by omega) (by decide) (by simp [lY]) (by simp) ?_ ?_ ?_
   · exact ⟨by simp,by simp [hU0],by simp,hc0 0⟩
   · rintro j fr H' hj f27 f26 ⟨f1,f5,f25,rfl⟩
     have hr2 := rowAt_map encMn hj
     have hstep : U (j + 1) = if ms[j].t = (i : Int) then U j ++ [ms[j].a] else U j := by
      show _ :: _ = _
      rw [List.take_succ_eq_append_getElem hj,List.filter_append,List.map_append]
      by_cases h : ms[j].t = (i : Int)
      · rw [if_pos h]; simp [h,U]
      · rw [if_neg h]; simp [h,U]
     generalize ms[j] = x at hr2 hstep
     obtain ⟨xa,xt,xw,xf⟩ := x
     simp only [encMn] at hr2
     simp only at hstep
     have hfit : ((U j).length + 1) * 8 ≤ 140737488355328 := by have := hUl j; omega
     have htk : List.take (U j).length ((U j).map encI) = (U j).map encI := List.take_of_length_le (by simp)
     have hlm : ((U j).map encI).length = (U j).length := List.length_map _
     have e1' := e1 j
     have e2' := e2 j
     have s2' := s2 j
     have lY' := lY j
     by_cases h : xt = (i : Int)
     · rw [if_pos h] at hstep
       have hs1 : ∀ X,(HY j ++ X).set 1 (.vec 1 tint ((U j).length + 1) ((U j).map encI ++ [[D.int .i64 xa]])) = HY (j + 1) ++ X := fun X => by
        show [bx,_] ++ X = [bx,_] ++ X
        rw [hstep]; simp [encI]
       have hlU : (U (j + 1)).length = (U j).length + 1 := by rw [hstep]; simp
       have hcj := hc (j + 1)
       have lY2 := lY (j + 1)
       generalize hY2 : HY (j + 1) = Y2 at hs1 hcj lY2 ⊢
       generalize HY j = Y at e1' e2' s2' lY' hs1 ⊢
       simp [f27,f25,f1,f5,hr2,h,e2',s2',lY',appVA,e1',hfit,htk,hlm,hs1,-getElem?_pos]
       refine NextK_of (H.length + 2) (Nat.le_refl _) (by simp [lY2,f27,f26]) ?_
       exact ⟨by simp [f1],by simp [hlU],by simp [f25],(hcj _).trans (by rw [hY2])⟩
     · rw [if_neg h] at hstep
       have hlU : (U (j + 1)).length = (U j).length := by rw [hstep]
       have hYY : HY (j + 1) = HY j := by show [bx,_] = [bx,_]; rw [hstep]
       have hcj := hc j
       rw [← hYY] at e1' e2' s2' lY' hcj
       rw [← hYY]
       generalize hY2 : HY (j + 1) = Y at e1' e2' s2' lY' hcj ⊢
       simp [f27,f25,f1,hr2,h,e2',s2',lY',-getElem?_pos]
       refine NextK_of (H.length + 2) (Nat.le_refl _) (by simp [lY',f27,f26]) ?_
       exact ⟨by simp [f1],by simp [f5,hlU],by simp [f25],(hcj _).trans (by rw [hY2])⟩
   · rintro fr H' f27 f26 ⟨f1,f5,f25,rfl⟩
     simp
     exact f5
 · rintro fr H' ⟨f5,rfl⟩
   rw [hUn] at f5
   have hHY : H ++ HY ms.length = (H ++ [bx]) ++ [.vec 1 tint (usesL ⟨bs,ms,bd'⟩ i).length ((usesL ⟨bs,ms,bd'⟩ i).map encI)] := by
    show H ++ [bx,_] = _
    rw [hUn]; simp
   rw [hHY]
   generalize usesL ⟨bs,ms,bd'⟩ i = L at f5 hne hle ⊢
   have hLne : L ≠ [] := fun h => hne (by subst h; simp [isort])
   have hcl1 : Hp.Closed (H ++ [bx]) := Closed.snoc hcl fun n _ => hbc n
   have hsrt := sortInt_acall hS (L := L) hLne (by omega) (H := (H ++ [bx]) ++ [.dead,.arr 1 ((L.map encI).map (List.map .d))]) (i := (H ++ [bx]).length + 1) (by rw [getElem?_appk,intRows_enc]; rfl)
   have hv := ACall.vecCall (P := P) (f := srt) (k := L.length) (e := tint) (args := []) (rows := L.map encI) (rows' := (isort L).map encI) hcl1 (by simpa using hLne) (by simp [isort_len]) (by
    rw [List.length_map]
    refine hsrt.mono ?_
    rintro r H' ⟨rfl,rfl⟩
    refine ⟨rfl,?_⟩
    rw [set_appk,← isort,intRows_enc]; rfl)
   rw [List.length_map,show (H ++ [bx]).length = H.length + 1 by simp] at hv
   simp [f5,-List.append_assoc]
   refine CallK_of' hv ?_
   simp [f5,RetK,resA,-List.append_assoc]
   refine ⟨[bx,.vec 1 tint L.length ((isort L).map encI)],rfl,(isort_len L).symm,?_⟩
   have hv : ∀ n s e k r,(Ob.vec s e k r).clr n = Ob.vec s e k r := fun _ _ _ _ _ => rfl
   rw [List.append_assoc,cut_appk hcl]
   simp [hbc,hv,-Ob.clr]
end
end
end Go.Zam
