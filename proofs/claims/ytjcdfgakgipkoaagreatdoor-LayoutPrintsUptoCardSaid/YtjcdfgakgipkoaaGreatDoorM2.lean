/-
  Texts of one proof, one behind the other.
-/
import Derived.Test.YtjcdfgakgipkoaaGreatDoorM1
import Derived.Laws.BytesString
import Derived.Laws.MakeOwn
import Derived.Laws.StructEq
import Derived.MapKept
import Derived.Deep.LoopGhost
set_option linter.all false
set_option maxRecDepth 100000
set_option maxHeartbeats 4000000
namespace Go.Zam
section
open Go.RowKit (Below)
theorem setL_get {α:Type}:∀ (r:List α) (l:List α) (i k:Nat),i+r.length≤l.length→(setL l i r)[k]?=if i≤k∧k < i+r.length then r[k - i]? else l[k]?
 | [],l,i,k,_=>by simp only [setL,List.length_nil,Nat.add_zero]; rw [if_neg (by omega)]
 | x :: r, l, i, k, h => by
   simp only [List.length_cons] at h
   rw [setL,setL_get r (l.set i x) (i+1) k (by simp; omega)]
   by_cases h1:i+1≤k∧k < i+1+r.length
   · rw [if_pos h1,if_pos (by simp; omega)]
     have:k - i=(k - (i+1))+1:=by omega
     rw [this]; simp
   · rw [if_neg h1]
     by_cases h2:k=i
     · subst h2
       rw [if_pos (by simp),List.getElem?_set_self (by omega)]; simp
     · rw [if_neg (by simp; omega),List.getElem?_set_ne (by omega)]
theorem fill_fold (off:Nat):∀ (vs:List Value) (k:Nat) (cells:Array Value),((vs.zipIdx k).foldl (fun cs (p:Value × Nat)=>cs.setIfInBounds (off+p.2) p.1) cells).toList=setL cells.toList (off+k) vs
 | [],_,_=>rfl
 | v :: r, k, cells => by
   rw [List.zipIdx_cons,List.foldl_cons,fill_fold off r (k+1)]
   simp [setL,Nat.add_assoc]
theorem fill_step (off:Nat) (v:Value) (cells:Array Value):(v.cells.zipIdx.foldl (fun cs (p:Value × Nat)=>cs.setIfInBounds (off+p.2) p.1) cells).toList=setL cells.toList off v.cells.toList:=by
 have:=fill_fold off v.cells.toList 0 cells
 rw [Nat.add_zero] at this
 rw [← this]
 congr 1
 rw [← Array.foldl_toList]
 simp [Array.toList_zipIdx]
section
variable {P:Program} {κ:K} {nt:NT} {fr:Fr} {H H':Hp} {a:Act} {w:World} {x:A} {tok:List Nat}
theorem fill_sound (place:Nat→Option (Nat × Nat)):∀ (ps:List (Nat × Value)) (qs:List (Nat × Nat × A)) (cells:Array Value) (cs r:List A),ps.length=qs.length →
 (∀ (i:Nat) (p:Nat × Value) (q:Nat × Nat × A),ps[i]?=some p→qs[i]?=some q→place p.1=some (q.1,q.2.1)∧VR κ p.2 q.2.2) →
 cells.size=cs.length→(∀ (i:Nat) (v:Value) (b:A),cells.toList[i]?=some v→cs[i]?=some b→VR κ v b)→fillA qs cs=some r →
 ∃ out:Array Value,Instr.fill place cells ps=some out∧out.size=r.length∧∀ (i:Nat) (v:Value) (b:A),out.toList[i]?=some v→r[i]?=some b→VR κ v b:=by
 intro ps
 induction ps with
 | nil =>
   intro qs cells cs r hl _ hsz hv hf
   cases qs with
   | nil=>simp only [fillA,Option.some.injEq] at hf; subst hf; exact ⟨cells,rfl,hsz,hv⟩
   | cons q qs=>simp at hl
 | cons p ps ih =>
   intro qs cells cs r hl hp hsz hv hf
   cases qs with
   | nil=>simp at hl
   | cons q qs =>
     obtain ⟨off,n,b⟩:=q
     obtain ⟨i,v⟩:=p
     simp only [fillA] at hf
     split at hf
     · rename_i hc
       obtain ⟨hpl,hvr⟩:=hp 0 (i,v) (off,n,b) rfl rfl
       obtain ⟨hlc,hcv⟩:=A.cells_of hvr hc.2.1
       simp only at hpl hlc
       have hvs:v.cells.size=n:=by rw [← hc.1,← hlc]; simp
       have hfs:=fill_step off v cells
       have hsz2:(v.cells.zipIdx.foldl (fun cs (p:Value × Nat)=>cs.setIfInBounds (off+p.2) p.1) cells).size=(setL cs off b.cells).length:=by
        rw [← Array.length_toList,hfs,setL_length,setL_length]; simpa using hsz
       obtain ⟨out,h1,h2,h3⟩:=ih qs _ (setL cs off b.cells) r (by simpa using hl) (fun k p q hp' hq'=>hp (k+1) p q (by simpa using hp') (by simpa using hq')) hsz2 (fun k u c hu hc'=>by
        rw [hfs,setL_get _ _ _ _ (by simp; omega)] at hu
        rw [setL_get _ _ _ _ (by omega)] at hc'
        have hbl:v.cells.toList.length=b.cells.length:=hlc
        rw [hbl] at hu
        split at hu
        · rename_i hk
          rw [if_pos hk] at hc'
          exact hcv _ u c hu hc'
        · rename_i hk
          rw [if_neg hk] at hc'
          exact hv k u c hu hc') hf
       refine ⟨out,?_,h2,h3⟩
       simp only [Instr.fill,hpl]
       rw [if_neg (by simp; omega)]
       exact h1
     · cases hf
theorem mapM_places {P:Program} {w:World}:∀ (l:List Field),(∀ f ∈ l,(P.info? f.type).isSome=true)→(l.mapM (fun f=>(do pure (f.offset,← sizeOf f.type):Sem (Nat × Nat)))).run P w = .ok (l.map fun f=>(f.offset,((P.info? f.type).map (·.size)).getD 0)) w
 | [],_=>by simp
 | f :: r, h => by
   have ih:=mapM_places (P:=P) (w:=w) r (fun g hg=>h g (by simp [hg]))
   obtain ⟨i,hi⟩:=Option.isSome_iff_exists.1 (h f (by simp))
   simp only [List.mapM_cons,Sem.run_bind,sizeOf,typeInfo,run_program,Result.andThen_ok,hi,Sem.run_pure,List.map_cons,Option.map_some,Option.getD_some]
   simp only [sizeOf,typeInfo] at ih
   rw [ih]
   rfl
theorem zeroOf_spec {t:TypeId} {z:List D} (h:zeroOf P t=some z):∃ i v,P.info? t=some i∧i.zero=some v∧v.cells.size=z.length∧∀ (σ:St) (j:Nat) (u:Value) (b:D),v.cells.toList[j]?=some u→z[j]?=some b→DR σ u b:=by
 unfold zeroOf at h
 split at h
 · rename_i i z' hi hzd
   split at h
   · rename_i v hv
     split at h
     · rename_i hok
       cases h
       simp only [Bool.and_eq_true,beq_iff_eq,List.all_eq_true] at hok
       obtain ⟨hl,hall⟩:=hok
       refine ⟨i,v,hi,hv,by simpa using hl,fun σ j u b hu hb=>vOk_sound (hall (u,b) ?_)⟩
       refine List.mem_of_getElem? (i:=j) ?_
       rw [List.getElem?_zip_eq_some]; exact ⟨hu,hb⟩
     · cases h
   · cases h
 · cases h
theorem tok_sound:∀ (l:List (Nat × Nat × TypeId)) {κ:K} {H:Hp} {w:World} {vs:List Value} {cs:List A},HR κ H w→VR κ (.agg vs.toArray) (.agg cs) →
 ∃ κ',κ.le κ'∧HR κ' (tokA H l cs).2 w∧VR κ' (.agg vs.toArray) (.agg (tokA H l cs).1)
 | [],κ,H,w,vs,cs,hr,hv=>⟨κ,K.le_refl _,hr,hv⟩
 | (j, sz, e) :: r, κ, H, w, vs, cs, hr, hv => by
   simp only [tokA]
   split
   · rename_i s hj
     split
     · rename_i hs
       subst hs
       obtain ⟨κ1,k1,k2,k3⟩:=hr.pushNil s e
       have hv1:=hv.mono k1
       have:VR κ1 (.agg vs.toArray) (.agg (cs.set j (.osl true s [] H.length))):=by
        cases hv1 with
        | agg vs' xs hl h =>
        refine .agg _ _ (by simpa using hl) fun i v a hi ha => ?_
        by_cases hij:j=i
        · subst hij
          have hjl:=(List.getElem?_eq_some_iff.1 hj).1
          rw [List.getElem?_set_self hjl] at ha
          cases ha
          have h2:=h j v _ hi hj
          have:v = .slice none 0 0:=by
           rcases h2.d_inv.sl_inv with ⟨e1,-⟩ | ⟨_,_,_,e1,-⟩ | ⟨b,o,cap,f,e1,hz,-⟩
           · exact e1
           · cases e1
           · exact absurd rfl (hz rfl)
          subst this
          exact k3
        · rw [List.getElem?_set_ne hij] at ha
          exact h i v a hi ha
       obtain ⟨κ2,m1,m2,m3⟩:=tok_sound r k2 this
       exact ⟨κ2,k1.trans m1,m2,m3⟩
     · split
       · rename_i hs
         obtain ⟨κ1,k1,k2,k3⟩:=hr.pushNilV s e
         have hv1:=hv.mono k1
         have:VR κ1 (.agg vs.toArray) (.agg (cs.set j (.vsl H.length 0 0))):=by
          cases hv1 with
          | agg vs' xs hl h =>
          refine .agg _ _ (by simpa using hl) fun i v a hi ha => ?_
          by_cases hij:j=i
          · subst hij
            have hjl:=(List.getElem?_eq_some_iff.1 hj).1
            rw [List.getElem?_set_self hjl] at ha
            cases ha
            have h2:=h j v _ hi hj
            have:v = .slice none 0 0:=by
             rcases h2.d_inv.sl_inv with ⟨e1,-⟩ | ⟨_,_,_,e1,-⟩ | ⟨b,o,cap,f,e1,hz,-⟩
             · exact e1
             · cases e1
             · exact absurd rfl (hz rfl)
            subst this
            exact k3
          · rw [List.getElem?_set_ne hij] at ha
            exact h i v a hi ha
         obtain ⟨κ2,m1,m2,m3⟩:=tok_sound r k2 this
         exact ⟨κ2,k1.trans m1,m2,m3⟩
       · exact tok_sound r hr hv
   · exact tok_sound r hr hv
theorem tok_flat:∀ (l:List (Nat × Nat × TypeId)) (H:Hp) (cs:List A),cs.all A.flat=true→(tokA H l cs).1.all A.flat=true
 | [],_,_,h=>h
 | (j, sz, e) :: r, H, cs, h => by
   simp only [tokA]
   split
   · split
     · refine tok_flat r _ _ (List.all_eq_true.2 fun y hy => ?_)
       rcases List.mem_or_eq_of_mem_set hy with h1 | h1
       · exact List.all_eq_true.1 h y h1
       · subst h1; rfl
     · split
       · refine tok_flat r _ _ (List.all_eq_true.2 fun y hy => ?_)
         rcases List.mem_or_eq_of_mem_set hy with h1 | h1
         · exact List.all_eq_true.1 h y h1
         · subst h1; rfl
       · exact tok_flat r _ _ h
   · exact tok_flat r _ _ h
theorem does_allocU {t:TypeId} {cs:List D} {ts:List (Nat × Nat × TypeId)} (hs:SR κ nt fr H a w) (hz:zeroOf P t=some cs) (h:stepI fr H (.allocU t cs ts)=some (x,H')) :
 Does P (do pure (.value (← Instr.alloc t true (.tuple #[])))) w κ H' x:=by
 simp only [stepI,Option.some.injEq,Prod.mk.injEq] at h
 obtain ⟨rfl,rfl⟩:=h
 obtain ⟨i,v,hi,hv,hl,hall⟩:=zeroOf_spec hz
 have hv0:VR κ (.agg v.cells.toList.toArray) (.agg (cs.map .d)) := .agg _ _ (by simpa using hl) fun j u b hu hb=>by
  simp only [List.getElem?_map,Option.map_eq_some_iff] at hb
  obtain ⟨d,hd,rfl⟩:=hb
  exact .d (hall κ.σ j u d (by simpa using hu) hd)
 obtain ⟨κ1,p1,p2,p3⟩:=tok_sound ts hs.hr hv0
 have hcell:v.cells.toList.length=(tokA H ts (cs.map .d)).1.length∧∀ (j:Nat) (u:Value) (b:A),v.cells.toList[j]?=some u→(tokA H ts (cs.map .d)).1[j]?=some b→VR κ1 u b:=by
  cases p3 with
  | agg vs xs hl h=>exact ⟨by simpa using hl,fun j u b hu hb=>h j u b (by simpa using hu) hb⟩
 obtain ⟨κ',h1,h2,h3⟩:=p2.pushBox v.cells.toList (tokA H ts (cs.map .d)).1 t hcell.1 (tok_flat _ _ _ (by simp [A.flat])) hcell.2
 refine ⟨_,_,κ',.inl ?_,p1.trans h1,h2,h3⟩
 refine run_val _ _ _ ?_
 simp [Instr.alloc,zeroValue,typeInfo,hi,hv,newVar,newRow]
theorem Does.tokd {m:Sem Next} {κ:K} {H:Hp} {w:World} {cs:List A} (h:Does P m w κ H (.agg cs)) (l:List (Nat × Nat × TypeId)):Does P m w κ (tokA H l cs).2 (.agg (tokA H l cs).1):=by
 obtain ⟨u,w',κ',h1,h2,h3,h4⟩:=h
 obtain ⟨vs,rfl⟩:∃ vs:List Value,u = .agg vs.toArray:=by
  cases h4 with
  | agg vs _ _ _=>exact ⟨vs,rfl⟩
 obtain ⟨κ2,m1,m2,m3⟩:=tok_sound l h3 h4
 exact ⟨_,w',κ2,h1,h2.trans m1,m2,m3⟩
theorem does_build {t:TypeId} {fs:Array Field} {z:List D} {parts:Array (Nat × Operand)} {ps:List (Nat × Nat × Arg)} (hs:SR κ nt fr H a w) (ht:P.underlying t=some (.struct fs)) (hz:zeroOf P t=some z)
 (hps:parts.toList.mapM (fun (x:Nat × Operand)=>do
  let fd ← fs[x.1]?
  let i ← P.info? fd.type
  let y ← cArg P fd.type x.2
  pure (fd.offset,i.size,y))=some ps) (hfs:(fs.all fun f=>(P.info? f.type).isSome)=true) (h:stepI fr H (.build z ps)=some (x,H')) :
 Does P (do pure (.value (← Instr.build t (parts.map fun (i,x)=>(i,a.eval x))))) w κ H' x:=by
 simp only [stepI,Option.map_eq_some_iff] at h
 obtain ⟨cs,hcs,h⟩:=h
 simp only [Prod.mk.injEq] at h
 obtain ⟨rfl,rfl⟩:=h
 obtain ⟨ti,zv,h1,h2,h3,h4⟩:=zeroOf_spec hz
 have hall:∀ f ∈ fs.toList,(P.info? f.type).isSome=true:=fun f hf=>Array.all_eq_true_iff_forall_mem.1 hfs f (by simpa using hf)
 have hpl:=mapM_places (P:=P) (w:=w) fs.toList hall
 have hpl':(fs.mapM (fun f=>(do pure (f.offset,← sizeOf f.type):Sem (Nat × Nat)))).run P w = .ok ((fs.toList.map fun f=>(f.offset,((P.info? f.type).map (·.size)).getD 0)).toArray) w:=by
  rw [Array.mapM_eq_mapM_toList]
  simp only [Sem.run_map,hpl,Result.andThen_ok]
 have key:∀ (l:List (Nat × Operand)) (ps:List (Nat × Nat × Arg)),l.mapM (fun (x:Nat × Operand)=>do
  let fd ← fs[x.1]?
  let i ← P.info? fd.type
  let y ← cArg P fd.type x.2
  pure (fd.offset,i.size,y))=some ps→l.length=ps.length∧∀ (i:Nat) (p:Nat × Value) (q:Nat × Nat × A),(l.map fun x=>(x.1,a.eval x.2))[i]?=some p→(ps.map fun x=>(x.1,x.2.1,x.2.2.ev fr))[i]?=some q →
   (((fs.toList.map fun f=>(f.offset,((P.info? f.type).map (·.size)).getD 0)).toArray)[p.1]?=some (q.1,q.2.1))∧VR κ p.2 q.2.2:=by
  intro l
  induction l with
  | nil=>intro ps h; simp at h; subst h; simp
  | cons y r ih =>
    intro ps h
    simp only [List.mapM_cons,Option.bind_eq_bind,Option.bind_eq_some_iff,Option.pure_def,Option.some.injEq] at h
    obtain ⟨q,⟨fd,hfd,i,hi,y',hy',rfl⟩,qs,hqs,rfl⟩:=h
    obtain ⟨i1,i2⟩:=ih qs hqs
    refine ⟨by simp [i1],fun k p q hp hq => ?_⟩
    cases k with
    | zero =>
      simp at hp hq
      subst hp; subst hq
      refine ⟨?_,cArg_sound hy' hs⟩
      simp [hfd,hi]
    | succ k=>exact i2 k p q (by simpa using hp) (by simpa using hq)
 obtain ⟨k1,k2⟩:=key _ _ hps
 obtain ⟨out,f1,f2,f3⟩:=fill_sound (κ := κ) (fun i=>((fs.toList.map fun f=>(f.offset,((P.info? f.type).map (·.size)).getD 0)).toArray)[i]?) (parts.toList.map fun x=>(x.1,a.eval x.2)) _ zv.cells (z.map .d) cs
  (by simpa using k1) k2 (by simpa using h3) (fun i v b hv hb=>by
   simp only [List.getElem?_map,Option.map_eq_some_iff] at hb
   obtain ⟨d,hd,rfl⟩:=hb
   exact .d (h4 _ i v d hv hd)) hcs
 refine .same (u := .agg out) (run_val _ _ _ ?_) hs.hr ?_
 · have e1:(parts.map fun (x:Nat × Operand)=>(x.1,a.eval x.2)).toList=parts.toList.map fun x=>(x.1,a.eval x.2):=by simp
   simp only [Instr.build,zeroValue,typeInfo,Sem.run_bind,run_program,Result.andThen_ok,h1,Sem.run_pure,h2,run_underlying ht]
   simp only [hpl',Result.andThen_ok]
   have e2:(Array.map (fun (x:Nat × Operand)=>match x with | (i,y)=>(i,a.eval y)) parts).toList=parts.toList.map fun x=>(x.1,a.eval x.2):=by simp
   rw [e2]
   rw [f1]
   rfl
 · have:out=out.toList.toArray:=by simp
   rw [this]
   exact .agg _ _ (by simpa using f2) f3
theorem does_buildA {t e:TypeId} {n:Nat} {ei:TypeInfo} {z:List D} {parts:Array (Nat × Operand)} {ps:List (Nat × Nat × Arg)} (hs:SR κ nt fr H a w) (ht:P.underlying t=some (.array n e)) (he:P.info? e=some ei) (hz:zeroOf P t=some z)
 (hps:parts.toList.mapM (fun (x:Nat × Operand)=>do
  let y ← cArg P e x.2
  pure (x.1 * ei.size,ei.size,y))=some ps) (h:stepI fr H (.build z ps)=some (x,H')) :
 Does P (do pure (.value (← Instr.build t (parts.map fun (i,x)=>(i,a.eval x))))) w κ H' x:=by
 simp only [stepI,Option.map_eq_some_iff] at h
 obtain ⟨cs,hcs,h⟩:=h
 simp only [Prod.mk.injEq] at h
 obtain ⟨rfl,rfl⟩:=h
 obtain ⟨ti,zv,h1,h2,h3,h4⟩:=zeroOf_spec hz
 have key:∀ (l:List (Nat × Operand)) (ps:List (Nat × Nat × Arg)),l.mapM (fun (x:Nat × Operand)=>do
  let y ← cArg P e x.2
  pure (x.1 * ei.size,ei.size,y))=some ps→l.length=ps.length∧∀ (i:Nat) (p:Nat × Value) (q:Nat × Nat × A),(l.map fun x=>(x.1,a.eval x.2))[i]?=some p→(ps.map fun x=>(x.1,x.2.1,x.2.2.ev fr))[i]?=some q →
   ((some (p.1 * ei.size,ei.size):Option (Nat × Nat))=some (q.1,q.2.1))∧VR κ p.2 q.2.2:=by
  intro l
  induction l with
  | nil=>intro ps h; simp at h; subst h; simp
  | cons y r ih =>
    intro ps h
    simp only [List.mapM_cons,Option.bind_eq_bind,Option.bind_eq_some_iff,Option.pure_def,Option.some.injEq] at h
    obtain ⟨q,⟨y',hy',rfl⟩,qs,hqs,rfl⟩:=h
    obtain ⟨i1,i2⟩:=ih qs hqs
    refine ⟨by simp [i1],fun k p q hp hq => ?_⟩
    cases k with
    | zero =>
      simp at hp hq
      subst hp; subst hq
      exact ⟨rfl,cArg_sound hy' hs⟩
    | succ k=>exact i2 k p q (by simpa using hp) (by simpa using hq)
 obtain ⟨k1,k2⟩:=key _ _ hps
 obtain ⟨out,f1,f2,f3⟩:=fill_sound (κ := κ) (fun i=>some (i * ei.size,ei.size)) (parts.toList.map fun x=>(x.1,a.eval x.2)) _ zv.cells (z.map .d) cs
  (by simpa using k1) k2 (by simpa using h3) (fun i v b hv hb=>by
   simp only [List.getElem?_map,Option.map_eq_some_iff] at hb
   obtain ⟨d,hd,rfl⟩:=hb
   exact .d (h4 _ i v d hv hd)) hcs
 refine .same (u := .agg out) (run_val _ _ _ ?_) hs.hr ?_
 · have e1:(parts.map fun (x:Nat × Operand)=>(x.1,a.eval x.2)).toList=parts.toList.map fun x=>(x.1,a.eval x.2):=by simp
   simp only [Instr.build,zeroValue,sizeOf,typeInfo,Sem.run_bind,run_program,Result.andThen_ok,h1,he,Sem.run_pure,h2,run_underlying ht]
   have e2:(Array.map (fun (x:Nat × Operand)=>match x with | (i,y)=>(i,a.eval y)) parts).toList=parts.toList.map fun x=>(x.1,a.eval x.2):=by simp
   rw [e2]
   rw [f1]
   rfl
 · have:out=out.toList.toArray:=by simp
   rw [this]
   exact .agg _ _ (by simpa using f2) f3
theorem DR.cells {σ:St} {z:Bool} {sz:Nat} {rows:List (List D)} {v:Value} (h:DR σ v (.sl z sz rows)) {w:World} (hw:∀ b o u,σ b o=some u→w.cell? ⟨b,o,none⟩=some u) :
 ∃ (ad : Option Addr) (cap : Nat) (vs : List Value), v = .slice ad rows.length cap ∧ rows.length ≤ cap ∧ (ad = none → rows = [] ∧ cap = 0 ∧ z = true) ∧ vs.length = rows.length * sz ∧
   (∀ q,ad=some q→(rows ≠ []→q.spot=none)∧∀ (j:Nat) (u:Value),vs[j]?=some u→w.cell? (q.add j)=some u) ∧
   (∀ (k j:Nat) (r:List D) (x:D),rows[k]?=some r→r[j]?=some x→∃ u,vs[k * sz+j]?=some u∧DR σ u x)∧(∀ u ∈ vs,u.oneCell'=true)∧(∀ (k:Nat) (r:List D),rows[k]?=some r→r.length=sz):=by
 rcases h.sl_inv with ⟨rfl,rfl,rfl⟩ | ⟨ad,cap,rfl,rfl,rfl⟩ | ⟨b,o,cap,f,rfl,hz,hcap,hrow,hc,hd⟩
 · exact ⟨none,0,[],rfl,Nat.le_refl _,fun _=>⟨rfl,rfl,rfl⟩,by simp,fun q hq=>by (cases hq),by simp,by simp,by simp⟩
 · exact ⟨some ad,cap,[],rfl,Nat.zero_le _,fun h=>by (cases h),by simp,fun q _=>⟨fun h=>absurd rfl h,by simp⟩,by simp,by simp,by simp⟩
 · by_cases hsz:sz=0
   · subst hsz
     refine ⟨_,cap,[],rfl,hcap,fun h=>by (cases h),by simp,fun q hq=>by cases hq; exact ⟨fun _=>rfl,by simp⟩,fun k j r x hr hx => ?_,by simp,hrow⟩
     have:=hrow k r hr
     have:r=[]:=List.eq_nil_of_length_eq_zero this
     subst this
     simp at hx
   · have hat:∀ i,i < rows.length * sz→∃ r x,rows[i / sz]?=some r∧r[i % sz]?=some x:=fun i hi=>by
      have hk:i / sz < rows.length:=Nat.div_lt_of_lt_mul (by rw [Nat.mul_comm]; exact hi)
      have hr:rows[i / sz]?=some rows[i / sz]:=List.getElem?_eq_getElem hk
      have hl:=hrow _ _ hr
      have hj:i % sz < rows[i / sz].length:=by rw [hl]; exact Nat.mod_lt _ (by omega)
      exact ⟨_,_,hr,List.getElem?_eq_getElem hj⟩
     refine ⟨_,cap,(List.range (rows.length * sz)).map fun i=>f (i / sz) (i % sz),rfl,hcap,fun h=>by (cases h),by simp,fun q hq => ?_,fun k j r x hr hx => ?_,fun u hu => ?_,hrow⟩
     · cases hq
       refine ⟨fun _=>rfl,fun i u hu => ?_⟩
       simp only [List.getElem?_map,Option.map_eq_some_iff] at hu
       obtain ⟨i',hi',rfl⟩:=hu
       obtain ⟨hlt,rfl⟩:i < rows.length * sz∧i=i':=by
        have h1:=List.getElem?_eq_some_iff.1 hi'
        obtain ⟨h1,h2⟩:=h1
        simp at h1 h2
        exact ⟨h1,h2⟩
       obtain ⟨r,x,hr,hx⟩:=hat i hlt
       have:=hc _ _ r x hr hx
       rw [add_mk]
       refine hw _ _ _ ?_
       rw [← this,Nat.add_assoc]
       congr 2
       have:=Nat.div_add_mod i sz
       rw [Nat.mul_comm] at this
       omega
     · have hk:k < rows.length:=(List.getElem?_eq_some_iff.1 hr).1
       have hj:j < sz:=by rw [← hrow k r hr]; exact (List.getElem?_eq_some_iff.1 hx).1
       have hlt:k * sz+j < rows.length * sz:=by
        have:(k+1) * sz≤rows.length * sz:=Nat.mul_le_mul_right _ hk
        rw [Nat.add_mul] at this; omega
       refine ⟨f k j,?_,hd k j r x hr hx⟩
       rw [List.getElem?_map,List.getElem?_range hlt]
       simp only [Option.map_some,Option.some.injEq]
       have d1:(k * sz+j) / sz=k:=by rw [Nat.mul_comm,Nat.mul_add_div (by omega),Nat.div_eq_of_lt hj]; omega
       have d2:(k * sz+j) % sz=j:=by rw [Nat.mul_comm,Nat.mul_add_mod]; exact Nat.mod_eq_of_lt hj
       rw [d1,d2]
     · obtain ⟨i,hi,rfl⟩:=List.mem_map.1 hu
       obtain ⟨r,x,hr,hx⟩:=hat i (by simpa using hi)
       have:=hd _ _ r x hr hx
       exact (VR.d (κ:=⟨w,σ,fun _ => .none⟩) this).oneCell rfl
end
end
section
open Go.RowKit (Below)
section
variable {P:Program} {κ:K} {nt:NT} {fr:Fr} {H H':Hp} {a:Act} {w:World} {x:A} {tok:List Nat}
theorem sliceElem_spec {t e:TypeId} {ti:TypeInfo} (h1:sliceElem P t=some (e,ti)):P.underlying t=some (.slice e)∧P.info? e=some ti:=by
 unfold sliceElem at h1
 split at h1
 · rename_i e' he
   simp only [Option.map_eq_some_iff,Prod.mk.injEq] at h1
   obtain ⟨i,hi,rfl,rfl⟩:=h1
   exact ⟨he,hi⟩
 · cases h1
theorem rowOf_some {sz:Nat} {b:A} {r:List D} (h:rowOf sz b=some r):b.cells.length=sz∧b.cells.all A.flat=true∧r.length=sz∧∀ (j:Nat) (c:A) (d:D),b.cells[j]?=some c→r[j]?=some d→c.toD=some d:=by
 unfold rowOf at h
 split at h
 · rename_i hc
   have key:∀ (l:List A) (r:List D),l.mapM A.toD=some r→r.length=l.length∧∀ (j:Nat) (c:A) (d:D),l[j]?=some c→r[j]?=some d→c.toD=some d:=by
    intro l
    induction l with
    | nil=>intro r h; simp at h; subst h; simp
    | cons y l ih =>
      intro r h
      simp only [List.mapM_cons,Option.bind_eq_bind,Option.bind_eq_some_iff,Option.pure_def,Option.some.injEq] at h
      obtain ⟨d0,hd0,r',hr',rfl⟩:=h
      obtain ⟨i1,i2⟩:=ih r' hr'
      refine ⟨by simp [i1],fun j c d hc hd => ?_⟩
      cases j with
      | zero=>simp at hc hd; subst hc; subst hd; exact hd0
      | succ j=>exact i2 j c d (by simpa using hc) (by simpa using hd)
   obtain ⟨k1,k2⟩:=key _ _ h
   exact ⟨hc.1,hc.2,by rw [k1,hc.1],k2⟩
 · cases h
theorem fill_rows {sz:Nat}:∀ (ps:List (Nat × Value)) (rows:List (List D)) (n:Nat) (cells:Array Value),ps.length=rows.length→cells.size=(n+rows.length) * sz →
 (∀ (i:Nat) (p:Nat × Value),ps[i]?=some p→p.1=n+i) →
 (∀ (i:Nat) (p:Nat × Value) (r:List D),ps[i]?=some p→rows[i]?=some r→p.2.cells.size=sz∧r.length=sz∧∀ (j:Nat) (u:Value) (d:D),p.2.cells.toList[j]?=some u→r[j]?=some d→DR κ.σ u d) →
 ∃ out : Array Value, Instr.fill (fun i => some (i * sz, sz)) cells ps = some out ∧ out.size = cells.size ∧ (∀ i, i < n * sz → out.toList[i]? = cells.toList[i]?) ∧
   ∀ (k j:Nat) (r:List D) (d:D),rows[k]?=some r→r[j]?=some d→∃ u,out.toList[(n+k) * sz+j]?=some u∧DR κ.σ u d:=by
 intro ps
 induction ps with
 | nil =>
   intro rows n cells hl _ _ _
   have:rows=[]:=List.eq_nil_of_length_eq_zero (by simpa using hl.symm)
   subst this
   exact ⟨cells,rfl,rfl,fun _ _=>rfl,by simp⟩
 | cons p ps ih =>
   intro rows n cells hl hsz hnum hp
   cases rows with
   | nil=>simp at hl
   | cons r rows =>
     obtain ⟨i,v⟩:=p
     have hi:i=n:=by simpa using hnum 0 (i,v) rfl
     subst hi
     obtain ⟨c1,c2,c3⟩:=hp 0 (i,v) r rfl rfl
     simp only at c1 c3
     have hfit:i * sz+sz≤cells.size:=by
      rw [hsz,List.length_cons,Nat.add_mul,Nat.add_mul]; omega
     have hfs:=fill_step (i * sz) v cells
     have hsz2:(v.cells.zipIdx.foldl (fun cs (p:Value × Nat)=>cs.setIfInBounds (i * sz+p.2) p.1) cells).size=cells.size:=by
      rw [← Array.length_toList,hfs,setL_length]; simp
     obtain ⟨out,h1,h2,h3,h4⟩:=ih rows (i+1) _ (by simpa using hl) (by rw [hsz2,hsz,List.length_cons]; congr 1; omega)
      (fun k p hk=>by have:=hnum (k+1) p (by simpa using hk); omega) (fun k p r hk hr=>hp (k+1) p r (by simpa using hk) (by simpa using hr))
     refine ⟨out,?_,h2.trans hsz2,fun k hk => ?_,fun k j r' d hr' hd => ?_⟩
     · simp only [Instr.fill]
       rw [if_neg (by simp; omega)]
       exact h1
     · rw [h3 k (by rw [Nat.add_mul]; omega),hfs,setL_get _ _ _ _ (by simp; omega),if_neg (by omega)]
     · cases k with
       | zero =>
         simp at hr'
         subst hr'
         have hj:j < sz:=by rw [← c2]; exact (List.getElem?_eq_some_iff.1 hd).1
         have hjv:j < v.cells.toList.length:=by simpa [c1] using hj
         refine ⟨v.cells.toList[j],?_,c3 j _ d (List.getElem?_eq_getElem hjv) hd⟩
         rw [Nat.add_zero,h3 _ (by rw [Nat.add_mul]; omega),hfs,setL_get _ _ _ _ (by simp; omega),if_pos (by simp; omega)]
         rw [show i * sz+j - i * sz=j by omega]
         exact List.getElem?_eq_getElem hjv
       | succ k =>
         have:=h4 k j r' d (by simpa using hr') hd
         rwa [show i+1+k=i+(k+1) by omega] at this
theorem partsInOrder_spec:∀ (n:Nat) (l:List (Nat × Operand)),partsInOrder n l=true→∀ (i:Nat) (p:Nat × Operand),l[i]?=some p→p.1=n+i
 | _,[],_,i,p,h=>by simp at h
 | n, (m, y) :: r, hp, i, p, h => by
   simp only [partsInOrder,Bool.and_eq_true,beq_iff_eq] at hp
   cases i with
   | zero=>simp at h; subst h; simpa using hp.1
   | succ i=>have:=partsInOrder_spec (n+1) r hp.2 i p (by simpa using h); omega
theorem bslice_made {t e:TypeId} {ti:TypeInfo} {n:Nat} {parts:Array (Nat × Operand)} {ps:List Arg} {rows:List (List D)} (hs:SR κ nt fr H a w) (h1:sliceElem P t=some (e,ti)) (hp:partsInOrder 0 parts.toList=true) (hn:parts.size=n)
 (hlim:n * ti.size≤2 ^ 24) (hz:(zeroOf P e).map (·.length)=some ti.size) (hpos:0 < ti.size) (hps:parts.toList.mapM (fun (x:Nat × Operand)=>cArg P e x.2)=some ps)
 (hr:ps.mapM (fun x=>rowOf ti.size (x.ev fr))=some rows) :
 rows.length=n∧(∀ (k:Nat) (r:List D),rows[k]?=some r→r.length=ti.size)∧∃ c:Array Value,c.size=n * ti.size∧(Instr.buildSlice t n (parts.map fun (i,x)=>(i,a.eval x))).run P w = .ok (.slice (some ⟨w.heap.size,0,none⟩) n n) (w.alloc (.cells c e)) ∧
  ∀ (k j:Nat) (r:List D) (d:D),rows[k]?=some r→r[j]?=some d→∃ u,c[k * ti.size+j]?=some u∧DR κ.σ u d:=by
 obtain ⟨ht,hi⟩:=sliceElem_spec h1
 have keyA:∀ (l:List (Nat × Operand)) (ps:List Arg) (rows:List (List D)),l.mapM (fun (x:Nat × Operand)=>cArg P e x.2)=some ps→ps.mapM (fun x=>rowOf ti.size (x.ev fr))=some rows →
  l.length=rows.length∧(∀ (k:Nat) (r:List D),rows[k]?=some r→r.length=ti.size)∧∀ (i:Nat) (p:Nat × Value) (r:List D),(l.map fun x=>(x.1,a.eval x.2))[i]?=some p→rows[i]?=some r →
   p.2.cells.size=ti.size∧r.length=ti.size∧∀ (j:Nat) (u:Value) (d:D),p.2.cells.toList[j]?=some u→r[j]?=some d→DR κ.σ u d:=by
  intro l
  induction l with
  | nil=>intro ps rows h h'; simp at h; subst h; simp at h'; subst h'; simp
  | cons y l ih =>
    intro ps rows h h'
    simp only [List.mapM_cons,Option.bind_eq_bind,Option.bind_eq_some_iff,Option.pure_def,Option.some.injEq] at h
    obtain ⟨y',hy',ps',hps',rfl⟩:=h
    simp only [List.mapM_cons,Option.bind_eq_bind,Option.bind_eq_some_iff,Option.pure_def,Option.some.injEq] at h'
    obtain ⟨r0,hr0,rows',hrows',rfl⟩:=h'
    obtain ⟨i1,i2,i3⟩:=ih ps' rows' hps' hrows'
    obtain ⟨q1,q2,q3,q4⟩:=rowOf_some hr0
    refine ⟨by simp [i1],fun k r hk => ?_,fun i p r hp hr => ?_⟩
    · cases k with
      | zero=>simp at hk; subst hk; exact q3
      | succ k=>exact i2 k r (by simpa using hk)
    · cases i with
      | zero =>
        simp at hp hr
        subst hp; subst hr
        have hv:=cArg_sound hy' hs
        obtain ⟨s1,s2⟩:=A.cells_of hv q2
        refine ⟨by rw [← q1,← s1]; simp,q3,fun j u d hu hd => ?_⟩
        have hj:j < (y'.ev fr).cells.length:=by rw [q1,← q3]; exact (List.getElem?_eq_some_iff.1 hd).1
        exact toD_sound (s2 j u _ hu (List.getElem?_eq_getElem hj)) (q4 j _ d (List.getElem?_eq_getElem hj) hd)
      | succ i=>exact i3 i p r (by simpa using hp) (by simpa using hr)
 obtain ⟨k1,k2,k3⟩:=keyA _ _ _ hps hr
 have hlen:rows.length=n:=by rw [← k1,← hn]; simp
 obtain ⟨zl,hzl⟩:∃ zl,zeroOf P e=some zl:=by cases hzz:zeroOf P e with
  | none=>rw [hzz] at hz; cases hz
  | some zl=>exact ⟨zl,rfl⟩
 obtain ⟨ti',zv,z1,z2,z3,-⟩:=zeroOf_spec hzl
 have:ti'=ti:=by rw [hi] at z1; cases z1; rfl
 subst this
 have hzlen:zv.cells.size=ti'.size:=by rw [z3]; rw [hzl] at hz; simpa using hz
 have hnum:∀ (i:Nat) (p:Nat × Value),(parts.toList.map fun x=>(x.1,a.eval x.2))[i]?=some p→p.1=0+i:=fun i p hpi=>by
  simp only [List.getElem?_map,Option.map_eq_some_iff] at hpi
  obtain ⟨q,hq,rfl⟩:=hpi
  exact partsInOrder_spec 0 _ hp i q hq
 have hbuild:∀ (zz:Array Value),∃ c:Array Value,c.size=n * ti'.size∧Instr.fill (fun i=>some (i * ti'.size,ti'.size)) ((Array.range (n * ti'.size)).map (zz[· % zz.size]!)) (parts.toList.map fun x=>(x.1,a.eval x.2))=some c ∧
  ∀ (k j:Nat) (r:List D) (d:D),rows[k]?=some r→r[j]?=some d→∃ u,c[k * ti'.size+j]?=some u∧DR κ.σ u d:=fun zz=>by
  obtain ⟨out,f1,f2,f3,f4⟩:=fill_rows (κ := κ) (sz:=ti'.size) (parts.toList.map fun x=>(x.1,a.eval x.2)) rows 0 ((Array.range (n * ti'.size)).map (zz[· % zz.size]!)) (by simpa using k1) (by simp [hlen]) hnum k3
  refine ⟨out,by rw [f2]; simp,f1,fun k j r d hk hd => ?_⟩
  obtain ⟨u,hu,hdr⟩:=f4 k j r d hk hd
  exact ⟨u,by simpa using hu,hdr⟩
 refine ⟨hlen,k2,?_⟩
 have e2:(Array.map (fun (x:Nat × Operand)=>match x with | (i,y)=>(i,a.eval y)) parts).toList=parts.toList.map fun x=>(x.1,a.eval x.2):=by simp
 by_cases hn0:n * ti'.size=0
 · obtain ⟨c,hcs,hcf,hcv⟩:=hbuild #[]
   refine ⟨c,hcs,?_,hcv⟩
   simp only [Instr.buildSlice,Sem.run_bind,run_underlying ht,Result.andThen_ok,sizeOf,typeInfo,run_program,hi,Sem.run_pure]
   rw [if_neg (by omega),if_pos hn0]
   simp only [Sem.run_bind,Sem.run_pure,Result.andThen_ok]
   rw [e2,hcf]
   rfl
 · obtain ⟨c,hcs,hcf,hcv⟩:=hbuild zv.cells
   refine ⟨c,hcs,?_,hcv⟩
   simp only [Instr.buildSlice,Sem.run_bind,run_underlying ht,Result.andThen_ok,sizeOf,typeInfo,run_program,hi,Sem.run_pure]
   rw [if_neg (by omega),if_neg hn0]
   simp only [zeroValue,typeInfo,Sem.run_bind,run_program,Result.andThen_ok,hi,Sem.run_pure,z2]
   rw [e2,hcf]
   rfl
theorem does_bslice {t e:TypeId} {ti:TypeInfo} {n:Nat} {parts:Array (Nat × Operand)} {ps:List Arg} (hs:SR κ nt fr H a w) (h1:sliceElem P t=some (e,ti)) (hp:partsInOrder 0 parts.toList=true) (hn:parts.size=n)
 (hlim:n * ti.size≤2 ^ 24) (hz:(zeroOf P e).map (·.length)=some ti.size) (hpos:0 < ti.size) (hps:parts.toList.mapM (fun (x:Nat × Operand)=>cArg P e x.2)=some ps)
 (h:stepI fr H (.bslice ti.size ps)=some (x,H')) :
 Does P (do pure (.value (← Instr.buildSlice t n (parts.map fun (i,x)=>(i,a.eval x))))) w κ H' x:=by
 simp only [stepI,Option.map_eq_some_iff] at h
 obtain ⟨rows,hr,h⟩:=h
 simp only [Prod.mk.injEq] at h
 obtain ⟨rfl,rfl⟩:=h
 obtain ⟨k1,k2,c,k3,k4,k5⟩:=bslice_made hs h1 hp hn hlim hz hpos hps hr
 subst k1
 obtain ⟨p1,p2⟩:=hs.hr.pushRow c (rows.length * ti.size) e
 refine ⟨_,_,_,.inl (run_val _ _ _ k4),p1,p2,.d ?_⟩
 have:=DR.new (τ:=addSt κ.σ w.heap.size c (rows.length * ti.size)) false rows w.heap.size ti.size rows.length c (by simp) (by omega) k2 (fun o ho=>by simp [addSt,ho]) (fun k j r d hk hd=>by
  obtain ⟨u,hu,hdr⟩:=k5 k j r d hk hd
  exact ⟨u,hu,hdr.mono p1.σ⟩)
 exact this
theorem does_bsliceT {t e:TypeId} {ti:TypeInfo} {n:Nat} {parts:Array (Nat × Operand)} {ps:List Arg} (hs:SR κ nt fr H a w) (h1:sliceElem P t=some (e,ti)) (hp:partsInOrder 0 parts.toList=true) (hn:parts.size=n)
 (hlim:n * ti.size≤2 ^ 24) (hz:(zeroOf P e).map (·.length)=some ti.size) (hpos:0 < ti.size) (hps:parts.toList.mapM (fun (x:Nat × Operand)=>cArg P e x.2)=some ps)
 (h:stepI fr H (.bsliceT ti.size e ps)=some (x,H')) :
 Does P (do pure (.value (← Instr.buildSlice t n (parts.map fun (i,x)=>(i,a.eval x))))) w κ H' x:=by
 simp only [stepI,Option.map_eq_some_iff] at h
 obtain ⟨rows,hr,h⟩:=h
 simp only [Prod.mk.injEq] at h
 obtain ⟨rfl,rfl⟩:=h
 obtain ⟨k1,k2,c,k3,k4,k5⟩:=bslice_made hs h1 hp hn hlim hz hpos hps hr
 subst k1
 obtain ⟨p1,p2⟩:=hs.hr.pushRow c (rows.length * ti.size) e
 have hw:(w.alloc (.cells c e)).heap[w.heap.size]?=some (.cells c e):=by show (w.heap.push _)[w.heap.size]?=_; simp
 let κ1:K := { κ with σ:=addSt κ.σ w.heap.size c (rows.length * ti.size) }
 let κ2:K := { κ1 with β:=upd κ1.β H.length (.reg w.heap.size (rows.length * ti.size) (rows.length * ti.size) rows.length ti.size) }
 have hn' : κ1.β H.length = .none:=p2.dom _ (Nat.le_refl _)
 have hle : κ1.le κ2:=K.le_upd hn' _
 have hbx:∀ i b,(κ1.β i).block=some b→b < w.heap.size:=fun i b hb=>(hs.hr.ex i b hb).2
 refine ⟨_,_,κ2,.inl (run_val _ _ _ k4),K.le_trans p1 hle,⟨p2.below,p2.st,fun i z hz => ?_,fun i hi => ?_,fun i b hb => ?_,fun i b o ho => ?_,fun i j b hi hj => ?_,fun i z hz => ?_⟩,.osl ?_ ?_⟩
 · by_cases hi:i < H.length
   · rw [List.getElem?_append_left hi] at hz
     exact (p2.ob i z hz).mono hle (upd_ne _ _ (by omega)) fun b _=>rfl
   · have:i=H.length:=by
      have:=(List.getElem?_eq_some_iff.1 hz).1
      simp at this; omega
     subst this
     simp at hz
     subst hz
     exact .inr ⟨w.heap.size,_,_,c,0,0,upd_same _ _ _,hw,by omega,.inl ⟨rfl,rfl⟩⟩
 · have h1:H.length+1≤i:=by simpa using hi
   show upd κ1.β H.length _ i=_
   rw [upd_ne _ _ (by omega)]; exact p2.dom i (by omega)
 · by_cases hi:i=H.length
   · subst hi
     have:some w.heap.size=some b:=by rw [← hb]; show _=(upd κ1.β H.length _ H.length).block; rw [upd_same]; rfl
     cases this
     exact ⟨hs.hr.below.size,by simp⟩
   · have hb':(κ1.β i).block=some b:=by rw [← hb]; show _=(upd κ1.β H.length _ i).block; rw [upd_ne _ _ hi]
     exact p2.ex i b hb'
 · by_cases hi:i=H.length
   · subst hi
     have ho':(Bind.reg w.heap.size (rows.length * ti.size) (rows.length * ti.size) rows.length ti.size).owns b o:=by
      have:=ho
      change (upd κ1.β H.length _ H.length).owns b o at this
      rwa [upd_same] at this
     obtain ⟨rfl,ho2⟩:=ho'
     show addSt κ.σ w.heap.size c (rows.length * ti.size) w.heap.size o=none
     simp only [addSt,if_true]; rw [if_neg (by omega)]
   · have ho':(κ1.β i).owns b o:=by
      have:=ho
      change (upd κ1.β H.length _ i).owns b o at this
      rwa [upd_ne _ _ hi] at this
     exact p2.exσ i b o ho'
 · have hnew:∀ k,k ≠ H.length→(κ2.β k).block=some b→b < w.heap.size:=fun k hk hb=>by
    change (upd κ1.β H.length _ k).block=some b at hb
    rw [upd_ne _ _ hk] at hb
    exact hbx k b hb
   have hat:(κ2.β H.length).block=some w.heap.size:=by show (upd κ1.β H.length _ H.length).block=_; rw [upd_same]; rfl
   by_cases h1:i=H.length<;>by_cases h2:j=H.length
   · omega
   · subst h1; rw [hat] at hi; cases hi; have:=hnew j h2 hj; omega
   · subst h2; rw [hat] at hj; cases hj; have:=hnew i h1 hi; omega
   · change (upd κ1.β H.length _ i).block=some b at hi
     change (upd κ1.β H.length _ j).block=some b at hj
     rw [upd_ne _ _ h1] at hi
     rw [upd_ne _ _ h2] at hj
     exact p2.exd i j b hi hj
 · by_cases hi:i < H.length
   · rw [List.getElem?_append_left hi] at hz; exact p2.fl i z hz
   · have:i=H.length:=by
      have:=(List.getElem?_eq_some_iff.1 hz).1
      simp at this; omega
     subst this
     simp at hz
     subst hz
     rfl
 · have:=DR.new (τ:=addSt κ.σ w.heap.size c (rows.length * ti.size)) false rows w.heap.size ti.size rows.length c (by simp) (by omega) k2 (fun o ho=>by simp [addSt,ho]) (fun k j r d hk hd=>by
    obtain ⟨u,hu,hdr⟩:=k5 k j r d hk hd
    exact ⟨u,hu,hdr.mono p1.σ⟩)
   exact this
 · show tokFit (upd κ1.β H.length _ H.length) _ _
   rw [upd_same]
   exact ⟨Nat.le_refl _,fun _=>⟨0,rows.length,rfl,Nat.le_refl _,by simp,by simp,rfl⟩⟩
theorem does_bsliceV {t e:TypeId} {ti:TypeInfo} {n:Nat} {parts:Array (Nat × Operand)} {ps:List Arg} (hs:SR κ nt fr H a w) (h1:sliceElem P t=some (e,ti)) (hp:partsInOrder 0 parts.toList=true) (hn:parts.size=n)
 (hlim:n * ti.size≤2 ^ 24) (hz:(zeroOf P e).map (·.length)=some ti.size) (hpos:0 < ti.size) (hps:parts.toList.mapM (fun (x:Nat × Operand)=>cArg P e x.2)=some ps)
 (h:stepI fr H (.bsliceV ti.size e ps)=some (x,H')) :
 Does P (do pure (.value (← Instr.buildSlice t n (parts.map fun (i,x)=>(i,a.eval x))))) w κ H' x:=by
 simp only [stepI,Option.map_eq_some_iff] at h
 obtain ⟨rows,hr,h⟩:=h
 simp only [Prod.mk.injEq] at h
 obtain ⟨rfl,rfl⟩:=h
 obtain ⟨k1,k2,c,k3,k4,k5⟩:=bslice_made hs h1 hp hn hlim hz hpos hps hr
 subst k1
 have:=hs.hr.push (.cells c e) (.vec w.heap.size rows.length rows.length 1 ti.size 0) (.vec ti.size e 1 rows) rfl rfl (by
  refine .inr ⟨w.heap.size,rows.length,c,upd_same _ _ _,fun h0=>absurd h0 (by decide),?_,Nat.le_refl _,by rw [k3]; exact Nat.le_refl _,fun j r hj=>⟨k2 j r hj,fun q x hx => ?_⟩⟩
  · show (w.heap.push _)[w.heap.size]?=_; simp
  · exact k5 j q r x hj hx)
 exact ⟨_,_,_,.inl (run_val _ _ _ k4),this.1,this.2,.vsl _ _ _ _ _ (Nat.le_refl _) (by
  show vecFit (upd κ.β H.length _ H.length) _ _ _
  rw [upd_same]
  exact ⟨Nat.le_refl _,fun _=>⟨Nat.le_refl _,rfl⟩⟩)⟩
theorem does_bsliceM {t e:TypeId} {ti:TypeInfo} {n:Nat} {parts:Array (Nat × Operand)} {ps:List Arg} (hs:SR κ nt fr H a w) (h1:sliceElem P t=some (e,ti)) (hp:partsInOrder 0 parts.toList=true) (hn:parts.size=n)
 (hlim:n * ti.size≤2 ^ 24) (hz:(zeroOf P e).map (·.length)=some ti.size) (hpos:0 < ti.size) (hps:parts.toList.mapM (fun (x:Nat × Operand)=>cArg P e x.2)=some ps)
 (h:stepI fr H (.bsliceM ti.size ps)=some (x,H')) :
 Does P (do pure (.value (← Instr.buildSlice t n (parts.map fun (i,x)=>(i,a.eval x))))) w κ H' x:=by
 simp only [stepI,Option.map_eq_some_iff] at h
 obtain ⟨rows,hr,h⟩:=h
 simp only [Prod.mk.injEq] at h
 obtain ⟨rfl,rfl⟩:=h
 obtain ⟨k1,k2,c,k3,k4,k5⟩:=bslice_made hs h1 hp hn hlim hz hpos hps hr
 subst k1
 obtain ⟨κ',p1,p2,p3⟩:=hs.hr.pushArr c ti.size (rows.map (List.map .d)) e
  (fun k q hq=>by
   simp only [List.getElem?_map,Option.map_eq_some_iff] at hq
   obtain ⟨q',h1,rfl⟩:=hq
   simpa using k2 k q' h1)
  (by simp [A.flat,List.all_eq_true])
  (fun k j q y hq hy=>by
   simp only [List.getElem?_map,Option.map_eq_some_iff] at hq
   obtain ⟨q',h1,rfl⟩:=hq
   simp only [List.getElem?_map,Option.map_eq_some_iff] at hy
   obtain ⟨d,h2,rfl⟩:=hy
   obtain ⟨u',u1,u2⟩:=k5 k j q' d h1 h2
   exact ⟨u',u1,.d u2⟩) rows.length (by simp) (by simp)
 exact ⟨_,_,κ',.inl (run_val _ _ _ k4),p1,p2,by simpa using p3⟩
theorem does_mkSl {t e:TypeId} {ti:TypeInfo} {z:List D} {l c:Operand} {l' c':Arg} (hs:SR κ nt fr H a w) (h1:sliceElem P t=some (e,ti)) (hz:zeroOf P e=some z) (hzl:z.length=ti.size) (hpos:0 < ti.size) (hby:0 < ti.bytes)
 (hl:cArg P 0 l=some l') (hc:cArg P 0 c=some c') (h:stepI fr H (.mkSl ti.size ti.bytes z l' c')=some (x,H')) :
 Does P (do pure (.value (← Instr.makeSlice t (a.eval l) (a.eval c)))) w κ H' x:=by
 obtain ⟨ht,hi⟩:=sliceElem_spec h1
 simp only [stepI] at h
 split at h
 · rename_i k n k' m e1 e2
   split at h
   · rename_i hcond
     obtain ⟨rfl,h0,hfit⟩:=hcond
     cases h
     have v1:=cArg_sound hl hs
     have v2:=cArg_sound hc hs
     rw [e1] at v1; rw [e2] at v2
     obtain ⟨ti',zv,z1,z2,z3,z4⟩:=zeroOf_spec hz
     have:ti'=ti:=by rw [hi] at z1; cases z1; rfl
     subst this
     have hzs:zv.cells.size=ti'.size:=by rw [z3,hzl]
     have hle:n≤n * (ti'.bytes:Int):=by
      obtain ⟨m,hm⟩:∃ m,ti'.bytes=m+1:=⟨ti'.bytes - 1,by omega⟩
      have:=Int.mul_nonneg h0 (Int.natCast_nonneg m)
      rw [hm,Int.natCast_add,Int.mul_add]
      omega
     have hrun:=run_make (P:=P) w t e ti' zv ht hi z2 k k' n n h0 (Int.le_refl _) (by rw [Int.mul_comm]; omega) (by omega)
     obtain ⟨κ',p1,p2,p3⟩:=hs.hr.pushArr (madeCells zv.cells (n.toNat * ti'.size)) ti'.size (List.replicate n.toNat (z.map .d)) e
      (fun k q hq=>by
       simp only [List.getElem?_replicate] at hq
       split at hq
       · cases hq; simpa using hzl
       · cases hq)
      (by simp [A.flat,List.all_eq_true])
      (fun k j q y hq hy=>by
       simp only [List.getElem?_replicate] at hq
       split at hq
       · rename_i hk
         cases hq
         simp only [List.getElem?_map,Option.map_eq_some_iff] at hy
         obtain ⟨d,h2,rfl⟩:=hy
         have hj:j < ti'.size:=by rw [← hzl]; exact (List.getElem?_eq_some_iff.1 h2).1
         have hlt:k * ti'.size+j < n.toNat * ti'.size:=by
          have:(k+1) * ti'.size≤n.toNat * ti'.size:=Nat.mul_le_mul_right _ (by omega)
          rw [Nat.add_mul] at this; omega
         have hmod:(k * ti'.size+j) % zv.cells.size=j:=by rw [hzs,Nat.mul_comm,Nat.mul_add_mod,Nat.mod_eq_of_lt hj]
         have hjc:zv.cells.toList[j]?=some (zv.cells[j]!):=by
          rw [Array.getElem?_toList]
          simp [hzs,hj]
         refine ⟨zv.cells[j]!,?_,.d (z4 _ j _ d hjc h2)⟩
         simp only [madeCells,Array.getElem?_map]
         rw [Array.getElem?_range,if_pos hlt]
         simp only [Option.map_some,hmod]
       · cases hq) n.toNat (by simp) (by simp)
     refine ⟨_,_,κ',.inl (run_val _ _ _ ?_),p1,p2,by simpa using p3⟩
     rw [v1.int_inv,v2.int_inv]; exact hrun
   · cases h
 · cases h
theorem eqD_sound {l a b:D} {r:Bool} {u v:Value} {σ:St} (h:eqD l a b=some r) (hu:DR σ u a) (hv:DR σ v b) {t:TypeId} (ht:primD P t=some l) (d:Nat) (w:World):(Op.equalIn (d+1) t u v).run P w = .ok r w:=by
 have hs:∀ s:ByteArray,s.toList=s.data.toList:=fun s=>by rw [ByteArray.toList_eq]
 unfold eqD at h
 split at h
 · cases h
   unfold primD at ht
   split at ht
   · rename_i e
     cases hu; cases hv
     exact run_equalIn_bool w d t _ _ e
   · cases ht
   · cases ht
   · cases ht
 · split at h
   · rename_i hk
     subst hk
     cases h
     unfold primD at ht
     split at ht
     · cases ht
     · rename_i e
       cases hu; cases hv
       exact run_equalIn_int w d t _ _ _ _ e
     · cases ht
     · cases ht
   · cases h
 · cases h
   unfold primD at ht
   split at ht
   · cases ht
   · cases ht
   · rename_i e
     cases hu; cases hv
     rw [run_equalIn_string w d t _ _ e,hs,hs]
     congr 1
     rw [Bool.eq_iff_iff]; simp
   · cases ht
 · cases h
theorem run_part_prim {t:TypeId} {l:D} (ht:primD P t=some l) {cs:Array Value} {off:Nat} {v:Value} (hv:cs[off]?=some v) (w:World):(part t cs off).run P w = .ok v w:=by
 unfold primD at ht
 split at ht
 · rename_i e; simp [part,isAgg,run_underlying e,hv]
 · rename_i e; simp [part,isAgg,run_underlying e,hv]
 · rename_i e; simp [part,isAgg,run_underlying e,hv]
 · cases ht
theorem eqFields_run {κ:K} (d:Nat) (w:World) (vs us:Array Value):∀ (fs:List Field) (k:Nat) (ls:List D) (ars bs:List A) (b:Bool),flatFs P k fs=some ls→eqDs ls ars bs=some b →
 (∀ (j:Nat) (a:A),ars[j]?=some a→∃ v,vs[k+j]?=some v∧VR κ v a)→(∀ (j:Nat) (a:A),bs[j]?=some a→∃ v,us[k+j]?=some v∧VR κ v a)→(Op.eqFields (d+1) vs us fs).run P w = .ok b w
 | [], k, ls, ars, bs, b, hf, he, _, _ => by
   simp only [flatFs,Option.some.injEq] at hf
   subst hf
   unfold eqDs at he
   split at he
   · cases he; rfl
   · contradiction
   · cases he
 | f :: fs, k, ls, ars, bs, b, hf, he, hv, hu => by
   simp only [flatFs] at hf
   split at hf
   · rename_i hc
     simp only [Bool.and_eq_true,beq_iff_eq,bne_iff_ne,ne_eq] at hc
     obtain ⟨hoff,hname⟩:=hc
     split at hf
     · rename_i l ls' h1 h2
       cases hf
       unfold eqDs at he
       split at he
       · contradiction
       · rename_i l0 ls0 a r a' s h3
         cases h3
         split at he
         · rename_i h t h4 h5
           cases he
           obtain ⟨v,v1,v2⟩:=hv 0 _ rfl
           obtain ⟨u,u1,u2⟩:=hu 0 _ rfl
           rw [Nat.add_zero] at v1 u1
           have ih:=eqFields_run d w vs us fs (k+1) ls' r s t h2 h5 (fun j a hj=>by
            have:=hv (j+1) a (by simpa using hj)
            rwa [show k+(j+1)=k+1+j by omega] at this) (fun j a hj=>by
            have:=hu (j+1) a (by simpa using hj)
            rwa [show k+(j+1)=k+1+j by omega] at this)
           simp only [Op.eqFields,hname,not_false_eq_true,ne_eq,if_true,Sem.run_bind]
           rw [hoff,run_part_prim h1 v1]
           simp only [Result.andThen_ok]
           rw [run_part_prim h1 u1]
           simp only [Result.andThen_ok]
           rw [eqD_sound h4 v2.d_inv u2.d_inv h1]
           simp only [Result.andThen_ok]
           cases h with
           | true=>simpa using ih
           | false=>simp
         · cases he
       · cases he
     · cases hf
   · cases hf
theorem eqDs_app:∀ {l m:List D} {a b:List A} {r:Bool},eqDs (l++m) a b=some r→∃ s t,eqDs l (a.take l.length) (b.take l.length)=some s∧eqDs m (a.drop l.length) (b.drop l.length)=some t∧r=(s && t)
 | [],m,a,b,r,h=>⟨true,r,by simp [eqDs],by simpa using h,by simp⟩
 | x :: l, m, a, b, r, h => by
   rw [List.cons_append] at h
   unfold eqDs at h
   split at h
   · contradiction
   · rename_i h3
     cases h3
     split at h
     · rename_i h4 h5
       cases h
       obtain ⟨s,t,p,q,rfl⟩:=eqDs_app h5
       refine ⟨_ && s,t,?_,by simpa using q,by rw [Bool.and_assoc]⟩
       simp only [List.length_cons,List.take_succ_cons]
       unfold eqDs
       rw [h4,p]
     · cases h
   · cases h
theorem run_part_str {t:TypeId} {gs:Array Field} {i:TypeInfo} (ht:P.underlying t=some (.struct gs)) (hi:P.info? t=some i) (cs:Array Value) (off:Nat) (w:World) :
 (part t cs off).run P w = .ok (.agg (cs.extract off (off+i.size))) w:=by
 simp [part,isAgg,run_underlying ht,sizeOf,typeInfo,hi]
theorem eqFields2_run {κ:K} (d:Nat) (w:World) (vs us:Array Value):∀ (fs:List Field) (k:Nat) (ls:List D) (ars bs:List A) (b:Bool),flatFs2 P k fs=some ls→eqDs ls ars bs=some b →
 (∀ (j:Nat) (a:A),ars[j]?=some a→∃ v,vs[k+j]?=some v∧VR κ v a)→(∀ (j:Nat) (a:A),bs[j]?=some a→∃ v,us[k+j]?=some v∧VR κ v a)→(Op.eqFields (d+2) vs us fs).run P w = .ok b w
 | [], k, ls, ars, bs, b, hf, he, _, _ => by
   simp only [flatFs2,Option.some.injEq] at hf
   subst hf
   unfold eqDs at he
   split at he
   · cases he; rfl
   · contradiction
   · cases he
 | f :: fs, k, ls, ars, bs, b, hf, he, hv, hu => by
   simp only [flatFs2] at hf
   split at hf
   · rename_i hc
     simp only [Bool.and_eq_true,beq_iff_eq,bne_iff_ne,ne_eq] at hc
     obtain ⟨hoff,hname⟩:=hc
     split at hf
     · rename_i l h1
       obtain ⟨ls',h2,rfl⟩:=Option.map_eq_some_iff.1 hf
       unfold eqDs at he
       split at he
       · contradiction
       · rename_i l0 ls0 a r a' s h3
         cases h3
         split at he
         · rename_i h t h4 h5
           cases he
           obtain ⟨v,v1,v2⟩:=hv 0 _ rfl
           obtain ⟨u,u1,u2⟩:=hu 0 _ rfl
           rw [Nat.add_zero] at v1 u1
           have ih:=eqFields2_run d w vs us fs (k+1) ls' r s t h2 h5 (fun j a hj=>by
            have:=hv (j+1) a (by simpa using hj)
            rwa [show k+(j+1)=k+1+j by omega] at this) (fun j a hj=>by
            have:=hu (j+1) a (by simpa using hj)
            rwa [show k+(j+1)=k+1+j by omega] at this)
           simp only [Op.eqFields,hname,not_false_eq_true,ne_eq,if_true,Sem.run_bind]
           rw [hoff,run_part_prim h1 v1]
           simp only [Result.andThen_ok]
           rw [run_part_prim h1 u1]
           simp only [Result.andThen_ok]
           rw [eqD_sound h4 v2.d_inv u2.d_inv h1]
           simp only [Result.andThen_ok]
           cases h with
           | true=>simpa using ih
           | false=>simp
         · cases he
       · cases he
     · split at hf
       · rename_i gs i ht hi
         split at hf
         · rename_i l hp hl
           split at hf
           · rename_i hsz
             rw [beq_iff_eq] at hsz
             obtain ⟨ls',h2,rfl⟩:=Option.map_eq_some_iff.1 hf
             obtain ⟨s,t,h4,h5,rfl⟩:=eqDs_app he
             have ih:=eqFields2_run d w vs us fs (k+l.length) ls' _ _ t h2 h5 (fun j a hj=>by
              have:=hv (l.length+j) a (by simpa using hj)
              rwa [← Nat.add_assoc] at this) (fun j a hj=>by
              have:=hu (l.length+j) a (by simpa using hj)
              rwa [← Nat.add_assoc] at this)
             have hfo:P.fieldsOf f.type=gs:=by simp [Program.fieldsOf,ht]
             have hin:(Op.equalIn (d+2) f.type (.agg (vs.extract k (k+i.size))) (.agg (us.extract k (k+i.size)))).run P w = .ok s w:=by
              rw [run_equalIn_agg w (d+1) f.type _ _ (by rw [hfo]; exact ht) hp,hfo]
              refine eqFields_run (κ := κ) d w _ _ gs.toList 0 l _ _ s hl h4 (fun j a hj => ?_) (fun j a hj => ?_)
              · have hlt:j < l.length:=by
                 have:=(List.getElem?_eq_some_iff.1 hj).1
                 rw [List.length_take] at this; omega
                rw [List.getElem?_take_of_lt hlt] at hj
                obtain ⟨v,v1,v2⟩:=hv j a hj
                refine ⟨v,?_,v2⟩
                have hb:=(Array.getElem?_eq_some_iff.1 v1).1
                rw [Nat.zero_add,Array.getElem?_extract,if_pos (by omega)]
                exact v1
              · have hlt:j < l.length:=by
                 have:=(List.getElem?_eq_some_iff.1 hj).1
                 rw [List.length_take] at this; omega
                rw [List.getElem?_take_of_lt hlt] at hj
                obtain ⟨v,v1,v2⟩:=hu j a hj
                refine ⟨v,?_,v2⟩
                have hb:=(Array.getElem?_eq_some_iff.1 v1).1
                rw [Nat.zero_add,Array.getElem?_extract,if_pos (by omega)]
                exact v1
             simp only [Op.eqFields,hname,not_false_eq_true,ne_eq,if_true,Sem.run_bind]
             rw [hoff,run_part_str ht hi]
             simp only [Result.andThen_ok]
             rw [run_part_str ht hi]
             simp only [Result.andThen_ok]
             rw [hin]
             simp only [Result.andThen_ok]
             cases s with
             | true=>simpa using ih
             | false=>simp
           · cases hf
         · cases hf
       · cases hf
   · cases hf
theorem does_eqA {op:BinOp} {neg:Bool} (hop:op=if neg then .neq else .eql) {t:TypeId} {y z:Operand} {y' z':Arg} {fs:Array Field} {l:List D} (hs:SR κ nt fr H a w) (ht:P.underlying t=some (.struct fs)) (hl:flatFs2 P 0 fs.toList=some l) (hp:P.stoodInHeld t=false) (hm:P.eqGuardType P.depth t=false)
 (hy:cArg P t y=some y') (hz:cArg P t z=some z') (h:stepI fr H (.eqA neg l y' z')=some (x,H')) :
 Does P (do pure (.value (← (do eqGuard op t y z (a.eval y) (a.eval z); binOp op t (a.eval y) (a.eval z))))) w κ H' x:=by
 simp only [stepI] at h
 split at h
 · rename_i cs ds e1 e2
   simp only [Option.map_eq_some_iff] at h
   obtain ⟨b,hb,h⟩:=h
   simp only [Prod.mk.injEq] at h
   obtain ⟨rfl,rfl⟩:=h
   have h1:=cArg_sound hy hs
   have h2:=cArg_sound hz hs
   rw [e1] at h1; rw [e2] at h2
   generalize hev1:a.eval y=v1 at h1
   generalize hev2:a.eval z=v2 at h2
   cases h1 with
   | agg vs _ hvl hv =>
   cases h2 with
   | agg us _ hul hu =>
   have hfo:P.fieldsOf t=fs:=by simp [Program.fieldsOf,ht]
   have heq:(Op.equalIn 10000 t (.agg vs.toArray) (.agg us.toArray)).run P w = .ok b w:=by
    rw [run_equalIn_agg w 9999 t _ _ (by rw [hfo]; exact ht) hp,hfo]
    refine eqFields2_run (κ := κ) 9997 w _ _ fs.toList 0 l cs ds b hl hb (fun j a hj => ?_) (fun j a hj => ?_)
    · have:j < vs.length:=by rw [hvl]; exact (List.getElem?_eq_some_iff.1 hj).1
      exact ⟨vs[j],by simp [this],hv j _ a (List.getElem?_eq_getElem this) hj⟩
    · have:j < us.length:=by rw [hul]; exact (List.getElem?_eq_some_iff.1 hj).1
      exact ⟨us[j],by simp [this],hu j _ a (List.getElem?_eq_getElem this) hj⟩
   refine .same (run_val _ _ _ ?_) hs.hr (.d (.bool _))
   simp only [Sem.run_bind,run_eqGuard_agg w op t y z _ _ hm,Result.andThen_ok]
   subst hop
   cases neg with
   | true =>
     simp only [if_true]
     rw [run_neq_struct,heq]
     simp
   | false =>
     simp only [Bool.false_eq_true,if_false]
     rw [run_eql_struct,heq]
     simp
 · cases h
theorem run_append_in (t u e ty:TypeId) (i:TypeInfo) (ht:P.underlying t=some (.slice e)) (hu:∃ d,P.underlying u=some d∧∀ k,d ≠ .int k) (hi:P.info? e=some i)
 (base:Option Addr) (sLen sCap n:Nat) (x:Value) (news:List Value) (hlen:(Builtin.lenOf x).run P w = .ok n w) (hfc:(Builtin.firstCells i.size n x).run P w = .ok news.toArray w) (hroom:sLen+n≤sCap) (w':World)
 (hst:∀ ad,base=some ad→(storeCells (ad.add (sLen * i.size)) news).run P w = .ok () w') (hno:base=none→w'=w) :
 (Builtin.append_ #[t,u] ty #[.slice base sLen sCap,x]).run P w = .ok (.slice base (sLen+n) sCap) w':=by
 obtain ⟨d,hd,_⟩:=hu
 cases base with
 | none =>
   have:=hno rfl
   subst this
   simp [Builtin.append_,run_underlying ht,run_underlying hd,sizeOf,typeInfo,hi,hlen,hroom,hfc]
 | some ad =>
   have:=hst ad rfl
   simp [Builtin.append_,run_underlying ht,run_underlying hd,sizeOf,typeInfo,hi,hlen,hroom,hfc,this]
theorem run_append_new (t u e ty:TypeId) (i:TypeInfo) (z:Value) (ht:P.underlying t=some (.slice e)) (hu:∃ d,P.underlying u=some d∧∀ k,d ≠ .int k) (hi:P.info? e=some i) (hzv:i.zero=some z)
 (base:Option Addr) (sLen sCap n:Nat) (x:Value) (olds news:List Value) (hlen:(Builtin.lenOf x).run P w = .ok n w) (hfc:(Builtin.firstCells i.size n x).run P w.drew = .ok news.toArray w.drew)
 (hfo:(Builtin.firstCells i.size sLen (.slice base sLen sCap)).run P w.drew = .ok olds.toArray w.drew) (hroom:sCap < sLen+n) (hby:0 < i.bytes) (hfit:(sLen+n) * i.bytes≤140737488355328) :
 (Builtin.append_ #[t,u] ty #[.slice base sLen sCap,x]).run P w =
  .ok (.slice (some ⟨w.heap.size,0,none⟩) (sLen+n) (grownCap w (sLen+n) sCap e)) (w.drew.alloc (.cells (olds.toArray++news.toArray++Builtin.zeroCells z.cells (grownCap w (sLen+n) sCap e - (sLen+n))) e)):=by
 obtain ⟨d,hd,_⟩:=hu
 have hn:¬ (sLen+n≤sCap):=by omega
 have h63:¬ (9223372036854775807 < ((sLen:Int)+(n:Int))):=by
  have:sLen+n≤(sLen+n) * i.bytes:=Nat.le_mul_of_pos_right _ hby
  omega
 have h48:¬ (281474976710656 < Builtin.nextslicecap (sLen+n) sCap * i.bytes):=by
  have:=growslice_fits hroom hfit
  omega
 simp [Builtin.append_,run_underlying ht,run_underlying hd,sizeOf,typeInfo,zeroValue,hi,hzv,hlen,hn,h63,h48,Question.forced,hfc,hfo,newRow,grownCap]
 congr 2
 apply Array.ext'
 simp [List.append_assoc]
theorem app_core {t u e ty:TypeId} {ti:TypeInfo} {z0:Value} (hr:HR κ H w) (ht:P.underlying t=some (.slice e)) (hu:∃ d,P.underlying u=some d∧∀ k,d ≠ .int k) (hi:P.info? e=some ti) (hz0:ti.zero=some z0) (hzs:z0.cells.size=ti.size) (hby:0 < ti.bytes)
 {v xv:Value} {xa:A} (hv:VR κ v xa) (new:List (List D)) (news:List Value) (hlen:(Builtin.lenOf xv).run P w = .ok new.length w) (hfc:∀ w1:World,(∀ b o,w1.cell? ⟨b,o,none⟩=w.cell? ⟨b,o,none⟩)→(Builtin.firstCells ti.size new.length xv).run P w1 = .ok news.toArray w1)
 (hnl:news.length=new.length * ti.size) (hrow:∀ (k:Nat) (r:List D),new[k]?=some r→r.length=ti.size)
 (hnv:∀ (k j:Nat) (r:List D) (d:D),new[k]?=some r→r[j]?=some d→∃ q,news[k * ti.size+j]?=some q∧DR κ.σ q d) (h1c:∀ q ∈ news,q.oneCell'=true)
 (h:appA H ti.size ti.bytes e new xa=some (x,H')) :
 ∃ q w' κ',(Builtin.append_ #[t,u] ty #[v,xv]).run P w = .ok q w' ∧ κ.le κ'∧HR κ' H' w'∧VR κ' q x:=by
 unfold appA at h
 split at h
 · rename_i z s rows tk
   split at h
   · rename_i n s' e' hH
     split at h
     · rename_i hc
       obtain ⟨rfl,rfl,rfl,rfl,hfit⟩:=hc
       cases h
       have hv0:=hv
       cases hv with
       | osl hd hf =>
       obtain ⟨ad,cap,olds,rfl,hcap,hnil,hol,hoc,hov,ho1,hrows⟩:=hd.cells (fun b o q hq=>hr.st b o q hq)
       by_cases hnew:new=[]
       · subst hnew
         have hn0:news=[]:=List.eq_nil_of_length_eq_zero (by simpa using hnl)
         subst hn0
         refine ⟨.slice ad (rows.length+0) cap,w,κ,run_append_in t u e' ty ti ht hu hi ad rows.length cap 0 xv [] hlen (hfc w fun _ _=>rfl) (by simpa using hcap) w (fun _ _=>rfl) (fun _=>rfl),K.le_refl κ,?_,?_⟩
         · have:H.set tk (.tok (rows.length+([]:List (List D)).length) ti.size e')=H:=by
            simp only [List.length_nil,Nat.add_zero]
            refine List.ext_getElem? fun j => ?_
            by_cases hj:tk=j
            · subst hj; rw [List.getElem?_set_self (List.getElem?_eq_some_iff.1 hH).1,hH]
            · rw [List.getElem?_set_ne hj]
           rw [this]; exact hr
         · simpa using hv0
       · have hpos:0 < new.length:=List.length_pos_iff.2 hnew
         by_cases hroom:rows.length+new.length≤cap
         · cases ad with
           | none=>obtain ⟨-,h0,-⟩:=hnil rfl; omega
           | some q =>
             obtain ⟨qb,qo,qs⟩:=q
             have hq1:qs=none:=by
              have ho:=hr.ob tk _ hH
              rcases ho with ⟨h1,-⟩ | ⟨b,e,c,cur,lo,hi,h1,-⟩
              · rw [h1] at hf; obtain ⟨-,hq⟩:=hf; cases hq
              · rw [h1] at hf; obtain ⟨-,hq⟩:=hf; obtain ⟨o,cap',he,-⟩:=hq rfl; cases he; rfl
             subst hq1
             obtain ⟨c1,c2,κ',c3,c4,c5⟩:=hr.appendIn hH hv0 new hnew news hrow hnl hnv rfl hroom
             refine ⟨_,_,κ',run_append_in t u e' ty ti ht hu hi (some ⟨qb,qo,none⟩) rows.length cap new.length xv news hlen (hfc w fun _ _=>rfl) hroom (w.setCells qb (qo+rows.length * ti.size) news) (fun ad he => ?_) (fun h0=>by cases h0),c3,c4,c5⟩
             cases he
             rw [add_mk]
             have:=run_storeCells_cells (P:=P) qb (qo+rows.length * ti.size) news 0 w (by simpa using c1) (by simpa using c2) h1c
             simpa using this
         · have hge:=grownCap_ge w (rows.length+new.length) cap e'
           have hfo:(Builtin.firstCells ti.size rows.length (.slice ad rows.length cap)).run P w.drew = .ok olds.toArray w.drew:=by
            cases ad with
            | none =>
              obtain ⟨h0,-,-⟩:=hnil rfl
              have:olds=[]:=List.eq_nil_of_length_eq_zero (by rw [hol,h0]; simp)
              rw [this]; rfl
            | some q =>
              exact run_firstCells_some w.drew ti.size rows.length q rows.length cap olds hol (by simpa using (hoc q rfl).2)
           have hrun:=run_append_new t u e' ty ti z0 ht hu hi hz0 ad rows.length cap new.length xv olds news hlen (hfc w.drew fun _ _=>rfl) hfo (by omega) hby hfit
           have hr':=hr.drew
           obtain ⟨κ',k1,k2,k3⟩:=hr'.regrow hH (olds.toArray++news.toArray++Builtin.zeroCells z0.cells (grownCap w (rows.length+new.length) cap e' - (rows.length+new.length))) (rows++new) (grownCap w (rows.length+new.length) cap e') z
            (by simp; omega) (by simpa using hge) (by
             rw [Array.size_append,Array.size_append,List.size_toArray,List.size_toArray,size_zeroCells,hzs,hol,hnl,← Nat.add_mul,← Nat.add_mul]
             congr 1; omega)
            (fun k r hk=>by
             by_cases hkl:k < rows.length
             · rw [List.getElem?_append_left hkl] at hk; exact hrows k r hk
             · rw [List.getElem?_append_right (by omega)] at hk; exact hrow _ r hk)
            (fun k j r d hk hd'=>by
             have hcell:∀ m,m < olds.length+news.length→(olds.toArray++news.toArray++Builtin.zeroCells z0.cells (grownCap w (rows.length+new.length) cap e' - (rows.length+new.length)))[m]?=(olds++news)[m]?:=fun m hm=>by
              rw [Array.getElem?_append_left (by simpa using hm)]
              simp
             by_cases hkl:k < rows.length
             · rw [List.getElem?_append_left hkl] at hk
               obtain ⟨q,q1,q2⟩:=hov k j r d hk hd'
               have hlt:=(List.getElem?_eq_some_iff.1 q1).1
               exact ⟨q,by rw [hcell _ (by omega),List.getElem?_append_left hlt]; exact q1,q2⟩
             · rw [List.getElem?_append_right (by omega)] at hk
               obtain ⟨q,q1,q2⟩:=hnv (k - rows.length) j r d hk hd'
               have hlt:=(List.getElem?_eq_some_iff.1 q1).1
               have hidx:k * ti.size+j=olds.length+((k - rows.length) * ti.size+j):=by
                rw [hol]
                have:k * ti.size=rows.length * ti.size+(k - rows.length) * ti.size:=by rw [← Nat.add_mul]; congr 1; omega
                omega
               refine ⟨q,?_,q2⟩
               rw [hidx,hcell _ (by omega),List.getElem?_append_right (by omega)]
               rw [show olds.length+((k - rows.length) * ti.size+j) - olds.length=(k - rows.length) * ti.size+j by omega]
               exact q1)
           refine ⟨_,_,κ',hrun,k1,?_,?_⟩
           · simpa using k2
           · simpa using k3
     · cases h
   · cases h
 · rename_i s
   split at h
   · rename_i hc
     obtain ⟨rfl,hfit⟩:=hc
     cases h
     have hval:v = .slice none 0 0:=by
      rcases hv.d_inv.sl_inv with ⟨e1,-⟩ | ⟨_,_,_,e1,-⟩ | ⟨b,o,cap,f,e1,hz,-⟩
      · exact e1
      · cases e1
      · exact absurd rfl (hz rfl)
     subst hval
     by_cases hnew:new=[]
     · subst hnew
       have hn0:news=[]:=List.eq_nil_of_length_eq_zero (by simpa using hnl)
       subst hn0
       exact ⟨_,w,κ,run_append_in t u e ty ti ht hu hi none 0 0 0 xv [] hlen (hfc w fun _ _=>rfl) (Nat.le_refl _) w (fun _ _=>rfl) (fun _=>rfl),K.le_refl κ,hr,.d (.nilsl _)⟩
     · have hpos:0 < new.length:=List.length_pos_iff.2 hnew
       have hge:=grownCap_ge w (0+new.length) 0 e
       have hrun:=run_append_new t u e ty ti z0 ht hu hi hz0 none 0 0 new.length xv [] news hlen (hfc w.drew fun _ _=>rfl) rfl (by omega) hby (by simpa using hfit)
       obtain ⟨p1,p2⟩:=hr.drew.pushRow (#[]++news.toArray++Builtin.zeroCells z0.cells (grownCap w (0+new.length) 0 e - (0+new.length))) (new.length * ti.size) e
       refine ⟨_,_,_,hrun,p1,p2,.d ?_⟩
       have hge':new.length≤grownCap w (0+new.length) 0 e:=by omega
       have:=DR.new (τ:=addSt κ.σ w.drew.heap.size (#[]++news.toArray++Builtin.zeroCells z0.cells (grownCap w (0+new.length) 0 e - (0+new.length))) (new.length * ti.size)) true new w.heap.size ti.size (grownCap w (0+new.length) 0 e)
        (#[]++news.toArray++Builtin.zeroCells z0.cells (grownCap w (0+new.length) 0 e - (0+new.length))) (fun _=>hnew) hge' hrow (fun o ho=>by simp [addSt,ho]) (fun k j r d hk hd'=>by
         obtain ⟨q,q1,q2⟩:=hnv k j r d hk hd'
         have hlt:=(List.getElem?_eq_some_iff.1 q1).1
         refine ⟨q,?_,q2.mono p1.σ⟩
         rw [Array.getElem?_append_left (by simpa using hlt)]
         simpa using q1)
       rw [Nat.zero_add] at this ⊢
       exact this
   · cases h
 · rename_i i
   split at h
   · rename_i s hH
     split at h
     · rename_i hc
       obtain ⟨rfl,hfit⟩:=hc
       have hv0:=hv
       cases hv with
       | msl _ _ _ b sz o cap hb hl ho hz =>
       obtain rfl:=hz rfl
       split at h
       · cases h
         have hn0:news=[]:=List.eq_nil_of_length_eq_zero (by simpa using hnl)
         subst hn0
         exact ⟨_,w,κ,run_append_in t u e ty ti ht hu hi (some ⟨b,o,none⟩) 0 0 0 xv [] hlen (hfc w fun _ _=>rfl) (Nat.le_refl _) w (fun _ _=>rfl) (fun _=>rfl),K.le_refl κ,hr,hv0⟩
       · rename_i r rs
         cases h
         have hge:=grownCap_ge w (0+(r :: rs).length) 0 e
         have hrun:=run_append_new t u e ty ti z0 ht hu hi hz0 (some ⟨b,o,none⟩) 0 0 (r :: rs).length xv [] news hlen (hfc w.drew fun _ _=>rfl) (run_firstCells_some w.drew ti.size 0 ⟨b,o,none⟩ 0 0 [] (by simp) (by simp)) (by simp) hby (by simpa using hfit)
         obtain ⟨κ',p1,p2,p3⟩:=hr.drew.pushArr (#[]++news.toArray++Builtin.zeroCells z0.cells (grownCap w (0+(r :: rs).length) 0 e - (0+(r :: rs).length))) ti.size ((r :: rs).map (List.map .d)) e
          (fun k q hq=>by
           simp only [List.getElem?_map,Option.map_eq_some_iff] at hq
           obtain ⟨q',h1,rfl⟩:=hq
           simpa using hrow k q' h1)
          (by simp [A.flat,List.all_eq_true])
          (fun k j q y hq hy=>by
           simp only [List.getElem?_map,Option.map_eq_some_iff] at hq
           obtain ⟨q',h1,rfl⟩:=hq
           simp only [List.getElem?_map,Option.map_eq_some_iff] at hy
           obtain ⟨d,h2,rfl⟩:=hy
           obtain ⟨u',u1,u2⟩:=hnv k j q' d h1 h2
           have hlt:=(List.getElem?_eq_some_iff.1 u1).1
           refine ⟨u',?_,.d u2⟩
           rw [Array.getElem?_append_left (by simpa using hlt)]
           simpa using u1) (grownCap w (0+(r :: rs).length) 0 e) (by simpa using hge) (fun h0=>by simp at h0)
         refine ⟨_,_,κ',hrun,p1,p2,?_⟩
         simpa using p3
     · cases h
   · cases h
 · cases h
theorem does_app {t u e ty:TypeId} {ti:TypeInfo} {z0:Value} {y z:Operand} {y' z':Arg} {xs:Array Operand} {ts:Array TypeId} {eu:TypeId} (hs:SR κ nt fr H a w) (hts:ts.toList=[t,u]) (hxs:xs.toList=[y,z]) (h1:sliceElem P t=some (e,ti)) (hu:P.underlying u=some (.slice eu))
 (hz0:ti.zero=some z0) (hzs:z0.cells.size=ti.size) (hby:0 < ti.bytes) (hy:cArg P t y=some y') (hz:cArg P t z=some z') (h:stepI fr H (.app ti.size ti.bytes e y' z')=some (x,H')) :
 Does P (do pure (.value (← Builtin.append_ ts ty (xs.map a.eval)))) w κ H' x:=by
 have e1:ts = #[t,u]:=by cases ts; simp at hts; subst hts; rfl
 have e2:xs = #[y,z]:=by cases xs; simp at hxs; subst hxs; rfl
 subst e1; subst e2
 obtain ⟨ht,hi⟩:=sliceElem_spec h1
 simp only [stepI] at h
 split at h
 · rename_i new hnew
   have hv:=cArg_sound hy hs
   have hx:=cArg_sound hz hs
   have hd:∃ zz,DR κ.σ (a.eval z) (.sl zz ti.size new):=by
    unfold slOf at hnew
    split at hnew
    · rename_i zz s rows e3
      split at hnew
      · rename_i hsz; cases hnew; subst hsz; rw [e3] at hx; exact ⟨zz,hx.d_inv⟩
      · cases hnew
    · rename_i zz s rows tk e3
      split at hnew
      · rename_i hsz
        cases hnew; subst hsz; rw [e3] at hx
        generalize a.eval z=v at hx
        cases hx with | osl hd _=>exact ⟨zz,hd⟩
      · cases hnew
    · cases hnew
   obtain ⟨zz,hd⟩:=hd
   obtain ⟨ad,cap,news,e3,hcap,hnil,hnl,hnc,hnv,hn1,hrow⟩:=hd.cells (fun b o q hq=>hs.hr.st b o q hq)
   obtain ⟨q,w',κ',c1,c2,c3,c4⟩:=app_core (ty:=ty) hs.hr ht ⟨_,hu,fun k=>by simp⟩ hi hz0 hzs hby hv (xv:=a.eval z) new news (by rw [e3]; rfl) (fun w1 hw1=>by
    rw [e3]
    cases ad with
    | none =>
      obtain ⟨h0,-,-⟩:=hnil rfl
      have:news=[]:=List.eq_nil_of_length_eq_zero (by rw [hnl,h0]; simp)
      rw [this]; rfl
    | some q =>
      obtain ⟨qb,qo,qs⟩:=q
      obtain ⟨hq1,hq2⟩:=hnc _ rfl
      by_cases hnw:new=[]
      · subst hnw
        have hn0:news=[]:=List.eq_nil_of_length_eq_zero (by simpa using hnl)
        subst hn0
        exact run_firstCells_some w1 ti.size 0 ⟨qb,qo,qs⟩ 0 cap [] (by simp) (by simp)
      have hq1:=hq1 hnw
      simp only at hq1
      subst hq1
      exact run_firstCells_some w1 ti.size new.length ⟨qb,qo,none⟩ new.length cap news hnl (fun j v hv=>by
       have:=hq2 j v hv
       rw [add_mk] at this ⊢
       rw [hw1]; exact this)) hnl hrow hnv hn1 h
   exact ⟨q,w',κ',.inl (run_val _ _ _ (by simpa using c1)),c2,c3,c4⟩
 · cases h
theorem does_appS {t u e ty:TypeId} {ti:TypeInfo} {z0:Value} {y z:Operand} {y' z':Arg} {xs:Array Operand} {ts:Array TypeId} (hs:SR κ nt fr H a w) (hts:ts.toList=[t,u]) (hxs:xs.toList=[y,z]) (h1:sliceElem P t=some (e,ti)) (hu:P.underlying u=some .string)
 (hz0:ti.zero=some z0) (hzs:z0.cells.size=ti.size) (hsz:ti.size=1) (hby:ti.bytes=1) (hy:cArg P t y=some y') (hz:cArg P u z=some z') (h:stepI fr H (.appS e y' z')=some (x,H')) :
 Does P (do pure (.value (← Builtin.append_ ts ty (xs.map a.eval)))) w κ H' x:=by
 have e1:ts = #[t,u]:=by cases ts; simp at hts; subst hts; rfl
 have e2:xs = #[y,z]:=by cases xs; simp at hxs; subst hxs; rfl
 subst e1; subst e2
 obtain ⟨ht,hi⟩:=sliceElem_spec h1
 simp only [stepI] at h
 split at h
 · rename_i s e3
   have hv:=cArg_sound hy hs
   have hx:=cArg_sound hz hs
   rw [e3] at hx
   obtain ⟨sv,e4,rfl⟩:=hx.str_inv
   have hl:(byteRows sv.data.toList).length=sv.size:=by simp [byteRows]
   have h':appA H ti.size ti.bytes e (byteRows sv.data.toList) (y'.ev fr)=some (x,H'):=by rw [hsz,hby]; exact h
   obtain ⟨q,w',κ',c1,c2,c3,c4⟩:=app_core (ty:=ty) hs.hr ht ⟨_,hu,fun k=>by simp⟩ hi hz0 hzs (by omega) hv (xv:=a.eval z) (byteRows sv.data.toList) (sv.data.toList.map fun b=>Value.int .u8 b.toNat) (by rw [e4,hl]; rfl) (fun w1 hw1=>by
    rw [e4,hl]
    simp only [Builtin.firstCells,Sem.run_pure]
    congr 1
    apply Array.ext'
    simp) (by simp [byteRows,hsz]) (fun k r hk=>by
     simp only [byteRows,List.getElem?_map,Option.map_eq_some_iff] at hk
     obtain ⟨b,-,rfl⟩:=hk
     simp [hsz]) (fun k j r d hk hd=>by
     simp only [byteRows,List.getElem?_map,Option.map_eq_some_iff] at hk
     obtain ⟨b,hb,rfl⟩:=hk
     cases j with
     | zero=>simp at hd; subst hd; exact ⟨.int .u8 b.toNat,by rw [hsz,List.getElem?_map]; simp [hb],.int _ _⟩
     | succ j=>simp at hd) (fun q hq=>by
     obtain ⟨b,-,rfl⟩:=List.mem_map.1 hq
     rfl) h'
   exact ⟨q,w',κ',.inl (run_val _ _ _ (by simpa using c1)),c2,c3,c4⟩
 · cases h
theorem setCells_size:∀ (vs:List Value) (b o:Nat) (w:World),(w.setCells b o vs).heap.size=w.heap.size
 | [],_,_,_=>rfl
 | x :: r,b,o,w=>by rw [World.setCells,setCells_size r]; simp
theorem setCells_below {B:Nat} {w0:World}:∀ (vs:List Value) (b o:Nat) (w:World),B≤b→Below B w0 w→Below B w0 (w.setCells b o vs)
 | [],_,_,_,_,h=>h
 | x :: r,b,o,w,hb,h=>by rw [World.setCells]; exact setCells_below r b (o+1) _ hb (h.setCell (p:=⟨b,o,none⟩) hb x)
theorem setCells_block {ty:TypeId} {fz:Nat × Nat}:∀ (vs:List Value) (b o:Nat) (w:World),(∀ k,k ≠ b→(w.setCells b o vs).heap[k]?=w.heap[k]?)∧∀ cur,w.heap[b]?=some (.cells cur ty fz)→∃ cur',(w.setCells b o vs).heap[b]?=some (.cells cur' ty fz)∧cur'.size=cur.size
 | [],b,o,w=>⟨fun _ _=>rfl,fun cur hc=>⟨cur,hc,rfl⟩⟩
 | x :: r, b, o, w => by
   obtain ⟨i1,i2⟩:=setCells_block (ty:=ty) (fz:=fz) r b (o+1) (w.setCell ⟨b,o,none⟩ x)
   refine ⟨fun k hk=>by rw [World.setCells,i1 k hk]; exact Below.heap_setCell w _ x k hk,fun cur hc => ?_⟩
   obtain ⟨cur',h1,h2⟩:=i2 (cur.setIfInBounds o x) (by simp [World.setCell,Array.getElem?_modify,hc])
   exact ⟨cur',h1,by simpa using h2⟩
theorem cell_cells {w:World} {b:Nat} {cur:Array Value} {ty:TypeId} {fz:Nat × Nat} (h:w.heap[b]?=some (.cells cur ty fz)) (o:Nat):w.cell? ⟨b,o,none⟩=cur[o]?:=by simp [World.cell?,h]
theorem appV_old {t u e ty:TypeId} {ti:TypeInfo} {z0:Value} (hr:HR κ H w) (ht:P.underlying t=some (.slice e)) (hu:∃ d,P.underlying u=some d∧∀ k,d ≠ .int k) (hi:P.info? e=some ti) (hz0:ti.zero=some z0) (hzs:z0.cells.size=ti.size) (hby:0 < ti.bytes)
 {xv:Value} (r:List D) (new:List (List D)) (news:List Value) (hlen:(Builtin.lenOf xv).run P w = .ok (new.length+1) w) (hfc:∀ w1:World,(∀ b o,w1.cell? ⟨b,o,none⟩=w.cell? ⟨b,o,none⟩)→(Builtin.firstCells ti.size (new.length+1) xv).run P w1 = .ok news.toArray w1)
 (hnl:news.length=(new.length+1) * ti.size) (hrow:∀ (k:Nat) (q:List D),(r :: new)[k]?=some q→q.length=ti.size)
 (hnv:∀ (k j:Nat) (q:List D) (d:D),(r :: new)[k]?=some q→q[j]?=some d→∃ y,news[k * ti.size+j]?=some y∧DR κ.σ y d) (h1c:∀ q ∈ news,q.oneCell'=true)
 {i k' b c0 l p0 p c:Nat} {cur:Array Value} {R:List (List D)} {Y:Ob} (hil:i < H.length) (hβ : κ.β i = .vec b c0 l k' ti.size p0) (hheap:w.heap[b]?=some (.cells cur e (0,0))) (hle:R.length≤c) (hsz:p+c * ti.size≤cur.size)
 (hcells:∀ (j:Nat) (q:List D),R[j]?=some q→q.length=ti.size∧∀ (m:Nat) (x:D),q[m]?=some x→∃ v,cur[p+(j * ti.size+m)]?=some v∧DR κ.σ v x)
 (hfit:(R.length+(new.length+1)) * ti.bytes≤140737488355328) (hY:Y = .vco ti.size e (k'+1) (R++r :: new)∨(p=0∧Y = .vec ti.size e (k'+1) (R++r :: new))) :
 ∃ q w' κ',(Builtin.append_ #[t,u] ty #[.slice (some ⟨b,p,none⟩) R.length c,xv]).run P w = .ok q w' ∧ κ.le κ'∧HR κ' (H.set i Y) w'∧VR κ' q (.vsl i (k'+1) (R.length+(new.length+1))):=by
 have hkl2:∀ b' c' o',Bind.le (.vec b c0 l k' ti.size p0) (.vec b' c' (R.length+(new.length+1)) (k'+1) ti.size o'):=fun b' c' o' => .inr (.inr ⟨_,_,_,_,_,rfl,by omega⟩)
 have hbx:=hr.ex i b (by rw [hβ]; rfl)
 have hown:∀ b' o,(κ.β i).block=some b'→(κ.β i).owns b' o:=fun b' o hb'=>by
  rw [hβ] at hb' ⊢; cases hb'; exact rfl
 have hYf:Y.flat=true:=by rcases hY with rfl | ⟨-,rfl⟩<;>rfl
 have hOR:∀ (w':World) (b2 c2:Nat) (cur2:Array Value) (p2:Nat),(p2=p∨p2=0)→w'.heap[b2]?=some (.cells cur2 e (0,0))→R.length+(new.length+1)≤c2→p2+c2 * ti.size≤cur2.size →
  (∀ (j:Nat) (q:List D),(R++r :: new)[j]?=some q→q.length=ti.size∧∀ (m:Nat) (x:D),q[m]?=some x→∃ v,cur2[p2+(j * ti.size+m)]?=some v∧DR κ.σ v x) →
  OR { κ with β:=upd κ.β i (.vec b2 c2 (R.length+(new.length+1)) (k'+1) ti.size p2) } w' i Y:=fun w' b2 c2 cur2 p2 hp h1 h2 h3 h4=>by
  rcases hY with rfl | ⟨hp0,rfl⟩
  · exact ⟨b2,c2,cur2,p2,by show upd κ.β i _ i=_; rw [upd_same]; simp,h1,by simpa using h2,h3,h4⟩
  · obtain rfl:p2=0:=by omega
    simp only [Nat.zero_add] at h3 h4
    exact .inr ⟨b2,c2,cur2,by show upd κ.β i _ i=_; rw [upd_same]; simp,fun _=>by simp,h1,by simpa using h2,h3,h4⟩
 by_cases hroom:R.length+(new.length+1)≤c
 ·
  have hin:p+R.length * ti.size+news.length≤cur.size:=by
   rw [hnl]
   have:R.length * ti.size+(new.length+1) * ti.size≤c * ti.size:=by rw [← Nat.add_mul]; exact Nat.mul_le_mul_right _ hroom
   omega
  have hcell:∀ j,j < news.length→(w.cell? ⟨b,p+R.length * ti.size+j,none⟩).isSome=true:=fun j hj=>by
   rw [cell_cells hheap]; simp; omega
  have hfz:∀ j,j < news.length→w.frozen? ⟨b,p+R.length * ti.size+j,none⟩=false:=fun j hj=>by simp [World.frozen?,hheap]
  have hrun:=run_append_in t u e ty ti ht hu hi (some ⟨b,p,none⟩) R.length c (new.length+1) xv news hlen (hfc w fun _ _=>rfl) hroom (w.setCells b (p+R.length * ti.size) news) (fun ad he=>by
   cases he
   rw [add_mk]
   have:=run_storeCells_cells (P:=P) b (p+R.length * ti.size) news 0 w (by simpa using hcell) (by simpa using hfz) h1c
   simpa using this) (fun h0=>by cases h0)
  obtain ⟨cur',hh1,hh2⟩:=(setCells_block (ty:=e) (fz:=(0,0)) news b (p+R.length * ti.size) w).2 cur hheap
  have hrep:=hr.replace i (.vec b c (R.length+(new.length+1)) (k'+1) ti.size p) Y (w':=w.setCells b (p+R.length * ti.size) news) hil (by rw [hβ]; exact hkl2 _ _ _) hYf
   (by rw [setCells_size]; exact Nat.le_refl _) (setCells_below news b _ w hbx.1 hr.below) (fun k hk hne=>(setCells_block (ty:=e) (fz:=(0,0)) news b (p+R.length * ti.size) w).1 k (fun e=>hne (by rw [hβ,e]; rfl))) hown (fun b' hb' => .inl (by rw [hβ]; exact hb')) (by
   refine hOR _ b c cur' p (.inl rfl) hh1 hroom (by rw [hh2]; exact hsz) fun j q hj => ?_
   by_cases hjl:j < R.length
   · rw [List.getElem?_append_left hjl] at hj
     refine ⟨(hcells j q hj).1,fun m x hx => ?_⟩
     obtain ⟨y,y1,y2⟩:=(hcells j q hj).2 m x hx
     refine ⟨y,?_,y2⟩
     have hm:m < ti.size:=by rw [← (hcells j q hj).1]; exact (List.getElem?_eq_some_iff.1 hx).1
     have hlt:j * ti.size+m < R.length * ti.size:=by
      have:(j+1) * ti.size≤R.length * ti.size:=Nat.mul_le_mul_right _ hjl
      rw [Nat.add_mul] at this; omega
     rw [← cell_cells hh1,World.cell?_setCells_out b news _ w ⟨b,_,none⟩ (fun _ _ => .inl (by show p+_ < _; omega)),cell_cells hheap]; exact y1
   · rw [List.getElem?_append_right (by omega)] at hj
     refine ⟨hrow _ q hj,fun m x hx => ?_⟩
     obtain ⟨y,y1,y2⟩:=hnv _ m q x hj hx
     refine ⟨y,?_,y2⟩
     have hlt:=(List.getElem?_eq_some_iff.1 y1).1
     have hidx:p+(j * ti.size+m)=p+R.length * ti.size+((j - R.length) * ti.size+m):=by
      have:j * ti.size=R.length * ti.size+(j - R.length) * ti.size:=by rw [← Nat.add_mul]; congr 1; omega
      omega
     rw [← cell_cells hh1,hidx,World.cell?_setCells_in b news _ w hcell _ hlt,← y1]
     exact (List.getElem?_eq_getElem hlt).symm)
  refine ⟨_,_,_,hrun,hrep.1,hrep.2,.vsl _ _ _ _ _ (by omega) ?_⟩
  show vecFit (upd κ.β i _ i) _ _ _
  rw [upd_same]
  exact ⟨Nat.le_refl _,fun _=>⟨Nat.le_refl _,rfl⟩⟩
 ·
  have hge:=grownCap_ge w (R.length+(new.length+1)) c e
  have hRc:R.length * ti.size≤c * ti.size:=Nat.mul_le_mul_right _ hle
  have hol:((cur.toList.drop p).take (R.length * ti.size)).length=R.length * ti.size:=by
   simp; omega
  have hog:∀ m,m < R.length * ti.size→((cur.toList.drop p).take (R.length * ti.size))[m]?=cur[p+m]?:=fun m hm=>by
   rw [List.getElem?_take_of_lt hm,List.getElem?_drop,Array.getElem?_toList]
  generalize ((cur.toList.drop p).take (R.length * ti.size))=olds at hol hog
  have hrun:=run_append_new t u e ty ti z0 ht hu hi hz0 (some ⟨b,p,none⟩) R.length c (new.length+1) xv olds news hlen (hfc w.drew fun _ _=>rfl)
   (run_firstCells_some w.drew ti.size R.length ⟨b,p,none⟩ R.length c _ hol (fun j v hv=>by
    have hj:j < R.length * ti.size:=by rw [← hol]; exact (List.getElem?_eq_some_iff.1 hv).1
    rw [hog j hj] at hv
    rw [add_mk]
    show w.cell? _=_
    rw [cell_cells hheap]; exact hv)) (by omega) hby hfit
  generalize hN:olds.toArray++news.toArray++Builtin.zeroCells z0.cells (grownCap w (R.length+(new.length+1)) c e - (R.length+(new.length+1)))=N at hrun
  have hNs:(grownCap w (R.length+(new.length+1)) c e) * ti.size≤N.size:=by
   rw [← hN,Array.size_append,Array.size_append,List.size_toArray,List.size_toArray,size_zeroCells,hzs,hol,hnl,← Nat.add_mul,← Nat.add_mul]
   exact Nat.mul_le_mul_right _ (by omega)
  have hNg:∀ m,m < R.length * ti.size+news.length→N[m]?=(olds++news)[m]?:=fun m hm=>by
   rw [← hN,Array.getElem?_append_left (by simp [hol]; rw [hol] at *; omega)]
   simp
  have hrep:=hr.drew.replace i (.vec w.heap.size (grownCap w (R.length+(new.length+1)) c e) (R.length+(new.length+1)) (k'+1) ti.size 0) Y (w':=w.drew.alloc (.cells N e)) hil (by rw [hβ]; exact hkl2 _ _ _) hYf
   (by show w.heap.size≤(w.heap.push _).size; simp) (hr.drew.below.alloc hr.drew.below.size _) (fun k hk _=>Below.heap_alloc w.drew _ k hk) hown (fun b' hb' => .inr (by
    cases hb'
    exact ⟨rfl,by show w.heap.size < (w.heap.push _).size; simp⟩)) (by
   refine hOR _ w.heap.size (grownCap w (R.length+(new.length+1)) c e) N 0 (.inr rfl) (by show (w.heap.push _)[w.heap.size]?=_; simp) hge (by rw [Nat.zero_add]; exact hNs) fun j q hj => ?_
   by_cases hjl:j < R.length
   · rw [List.getElem?_append_left hjl] at hj
     refine ⟨(hcells j q hj).1,fun m x hx => ?_⟩
     obtain ⟨y,y1,y2⟩:=(hcells j q hj).2 m x hx
     refine ⟨y,?_,y2⟩
     have hm:m < ti.size:=by rw [← (hcells j q hj).1]; exact (List.getElem?_eq_some_iff.1 hx).1
     have hlt:j * ti.size+m < R.length * ti.size:=by
      have:(j+1) * ti.size≤R.length * ti.size:=Nat.mul_le_mul_right _ hjl
      rw [Nat.add_mul] at this; omega
     rw [Nat.zero_add,hNg _ (by omega),List.getElem?_append_left (by rw [hol]; exact hlt),hog _ hlt]; exact y1
   · rw [List.getElem?_append_right (by omega)] at hj
     refine ⟨hrow _ q hj,fun m x hx => ?_⟩
     obtain ⟨y,y1,y2⟩:=hnv _ m q x hj hx
     refine ⟨y,?_,y2⟩
     have hlt:=(List.getElem?_eq_some_iff.1 y1).1
     have hidx:j * ti.size+m=R.length * ti.size+((j - R.length) * ti.size+m):=by
      have:j * ti.size=R.length * ti.size+(j - R.length) * ti.size:=by rw [← Nat.add_mul]; congr 1; omega
      omega
     rw [Nat.zero_add,hidx,hNg _ (by omega),List.getElem?_append_right (by omega),hol,Nat.add_sub_cancel_left]; exact y1)
  refine ⟨_,_,_,hrun,hrep.1,hrep.2,.vsl _ _ _ _ _ (by omega) ?_⟩
  show vecFit (upd κ.β i _ i) _ _ _
  rw [upd_same]
  exact ⟨Nat.le_refl _,fun _=>⟨Nat.le_refl _,rfl⟩⟩
theorem appV_core {t u e ty:TypeId} {ti:TypeInfo} {z0:Value} {x':A} (hr:HR κ H w) (ht:P.underlying t=some (.slice e)) (hu:∃ d,P.underlying u=some d∧∀ k,d ≠ .int k) (hi:P.info? e=some ti) (hz0:ti.zero=some z0) (hzs:z0.cells.size=ti.size) (hby:0 < ti.bytes)
 {v xv:Value} {xa:A} (hv:VR κ v xa) (r:List D) (new:List (List D)) (news:List Value) (hlen:(Builtin.lenOf xv).run P w = .ok (new.length+1) w) (hfc:∀ w1:World,(∀ b o,w1.cell? ⟨b,o,none⟩=w.cell? ⟨b,o,none⟩)→(Builtin.firstCells ti.size (new.length+1) xv).run P w1 = .ok news.toArray w1)
 (hnl:news.length=(new.length+1) * ti.size) (hrow:∀ (k:Nat) (q:List D),(r :: new)[k]?=some q→q.length=ti.size)
 (hnv:∀ (k j:Nat) (q:List D) (d:D),(r :: new)[k]?=some q→q[j]?=some d→∃ y,news[k * ti.size+j]?=some y∧DR κ.σ y d) (h1c:∀ q ∈ news,q.oneCell'=true)
 (h:appVA H ti.size ti.bytes e r new xa=some (x',H')) :
 ∃ q w' κ',(Builtin.append_ #[t,u] ty #[v,xv]).run P w = .ok q w' ∧ κ.le κ'∧HR κ' H' w'∧VR κ' q x':=by
 unfold appVA at h
 split at h
 · rename_i s
   split at h
   · rename_i hc
     obtain ⟨rfl,hfit⟩:=hc
     cases h
     have hval:v = .slice none 0 0:=by
      rcases hv.d_inv.sl_inv with ⟨e1,-⟩ | ⟨_,_,_,e1,-⟩ | ⟨b,o,cap,f,e1,hz,-⟩
      · exact e1
      · cases e1
      · exact absurd rfl (hz rfl)
     subst hval
     have hge:=grownCap_ge w (0+(new.length+1)) 0 e
     have hrun:=run_append_new t u e ty ti z0 ht hu hi hz0 none 0 0 (new.length+1) xv [] news hlen (hfc w.drew fun _ _=>rfl) rfl (by omega) hby (by simpa using hfit)
     generalize hN : #[]++news.toArray++Builtin.zeroCells z0.cells (grownCap w (0+(new.length+1)) 0 e - (0+(new.length+1)))=N at hrun
     have hNs:(grownCap w (0+(new.length+1)) 0 e) * ti.size≤N.size:=by
      have h1:(#[]++news.toArray++Builtin.zeroCells z0.cells (grownCap w (0+(new.length+1)) 0 e - (0+(new.length+1)))).size=((new.length+1)+(grownCap w (0+(new.length+1)) 0 e - (0+(new.length+1)))) * ti.size:=by
       simp only [Array.size_append,List.size_toArray,size_zeroCells,hzs,hnl,Nat.add_mul,Nat.zero_add,List.length_nil]
      rw [← hN,h1]
      exact Nat.mul_le_mul_right _ (by omega)
     have hNg:∀ m,m < news.length→N[m]?=news[m]?:=fun m hm=>by
      rw [← hN,Array.getElem?_append_left (by simpa using hm)]
      simp
     have hpush:=hr.drew.push (.cells N e) (.vec w.heap.size (grownCap w (0+(new.length+1)) 0 e) (new.length+1) 0 ti.size 0) (.vec ti.size e 0 (r :: new)) rfl rfl (by
      refine .inr ⟨w.heap.size,grownCap w (0+(new.length+1)) 0 e,N,upd_same _ _ _,fun _=>by simp,by show (w.heap.push _)[w.heap.size]?=_; simp,by simp only [List.length_cons]; omega,hNs,fun j q hj=>⟨hrow j q hj,fun k x hk => ?_⟩⟩
      obtain ⟨y,y1,y2⟩:=hnv j k q x hj hk
      have hlt:=(List.getElem?_eq_some_iff.1 y1).1
      exact ⟨y,by rw [hNg _ hlt]; exact y1,y2⟩)
     refine ⟨_,_,_,hrun,hpush.1,hpush.2,?_⟩
     rw [Nat.zero_add]
     refine .vsl _ _ _ _ _ (by simpa using hge) ?_
     show vecFit (upd κ.β H.length _ H.length) _ _ _
     rw [upd_same]
     exact ⟨Nat.le_refl _,fun _=>⟨Nat.le_refl _,rfl⟩⟩
   · cases h
 · rename_i i k len
   split at h
   · rename_i s e' k' rows hH
     split at h
     · rename_i hc
       obtain ⟨rfl,rfl,rfl,hlr,hfit⟩:=hc
       cases h
       have hil:i < H.length:=(List.getElem?_eq_some_iff.1 hH).1
       rcases hr.ob i _ hH with ⟨hβ,rfl,rfl⟩ | ⟨b,c,cur,hβ,-,hheap,hle0,hsz,hcells0⟩
       ·
        obtain rfl:len=0:=by simpa using hlr
        cases hv with
        | vsl _ _ _ ad cap hlc hf =>
        rw [hβ] at hf
        obtain ⟨-,-,hf2⟩:=hf
        cases hf2
        have hge:=grownCap_ge w (0+(new.length+1)) 0 e'
        have hrun:=run_append_new t u e' ty ti z0 ht hu hi hz0 none 0 0 (new.length+1) xv [] news hlen (hfc w.drew fun _ _=>rfl) rfl (by omega) hby (by simpa using hfit)
        generalize hN : #[]++news.toArray++Builtin.zeroCells z0.cells (grownCap w (0+(new.length+1)) 0 e' - (0+(new.length+1)))=N at hrun
        have hNs:(grownCap w (0+(new.length+1)) 0 e') * ti.size≤N.size:=by
         have h1:(#[]++news.toArray++Builtin.zeroCells z0.cells (grownCap w (0+(new.length+1)) 0 e' - (0+(new.length+1)))).size=((new.length+1)+(grownCap w (0+(new.length+1)) 0 e' - (0+(new.length+1)))) * ti.size:=by
          simp only [Array.size_append,List.size_toArray,size_zeroCells,hzs,hnl,Nat.add_mul,Nat.zero_add,List.length_nil]
         rw [← hN,h1]
         exact Nat.mul_le_mul_right _ (by omega)
        have hNg:∀ m,m < news.length→N[m]?=news[m]?:=fun m hm=>by
         rw [← hN,Array.getElem?_append_left (by simpa using hm)]
         simp
        have hkl2:∀ b' c',Bind.le .nilV (.vec b' c' (new.length+1) (0+1) ti.size 0):=fun b' c' => .inr (.inr ⟨_,_,_,_,_,_,rfl,by omega⟩)
        have hrep:=hr.drew.replace i (.vec w.heap.size (grownCap w (0+(new.length+1)) 0 e') (new.length+1) (0+1) ti.size 0) (.vec ti.size e' (0+1) (r :: new)) (w':=w.drew.alloc (.cells N e')) hil (by rw [hβ]; exact hkl2 _ _) rfl
         (by show w.heap.size≤(w.heap.push _).size; simp) (hr.drew.below.alloc hr.drew.below.size _) (fun k hk _=>Below.heap_alloc w.drew _ k hk) (fun b' o hb'=>by rw [hβ] at hb'; cases hb') (fun b' hb' => .inr (by
          cases hb'
          exact ⟨rfl,by show w.heap.size < (w.heap.push _).size; simp⟩)) (by
         refine .inr ⟨w.heap.size,grownCap w (0+(new.length+1)) 0 e',N,by show upd κ.β i _ i=_; rw [upd_same]; simp,fun _=>by simp,by show (w.heap.push _)[w.heap.size]?=_; simp,by simp only [List.length_cons]; omega,hNs,fun j q hj=>⟨hrow j q hj,fun k x hk => ?_⟩⟩
         obtain ⟨y,y1,y2⟩:=hnv j k q x hj hk
         have hlt:=(List.getElem?_eq_some_iff.1 y1).1
         exact ⟨y,by rw [hNg _ hlt]; exact y1,y2⟩)
        refine ⟨_,_,_,hrun,hrep.1,hrep.2,?_⟩
        rw [Nat.zero_add]
        refine .vsl _ _ _ _ _ (by simpa using hge) ?_
        show vecFit (upd κ.β i _ i) _ _ _
        rw [upd_same]
        exact ⟨by omega,fun _=>⟨by omega,rfl⟩⟩
       cases hv with
       | vsl _ _ _ ad cap hlc hf =>
       rw [hβ] at hf
       have hf2:=(hf.2 rfl).2
       cases hf2
       have hRl:(rows.take len).length=len:=by simp; omega
       have hcells:∀ (j:Nat) (q:List D),(rows.take len)[j]?=some q→q.length=ti.size∧∀ (m:Nat) (x:D),q[m]?=some x→∃ v,cur[0+(j * ti.size+m)]?=some v∧DR κ.σ v x:=fun j q hj=>by
        rw [List.getElem?_take] at hj
        split at hj
        · simp only [Nat.zero_add]; exact hcells0 j q hj
        · cases hj
       have hle:len≤c:=by omega
       generalize rows.take len=R at hcells hRl
       subst hRl
       exact appV_old hr ht hu hi hz0 hzs hby r new news hlen hfc hnl hrow hnv h1c hil hβ hheap hle (by rw [Nat.zero_add]; exact hsz) hcells hfit (.inr ⟨rfl,rfl⟩)
     · cases h
   · rename_i s e' k' rows hH
     split at h
     · rename_i hc
       obtain ⟨rfl,rfl,rfl,hlr,hfit⟩:=hc
       cases h
       have hil:i < H.length:=(List.getElem?_eq_some_iff.1 hH).1
       obtain ⟨b,c,cur,o,hβ,hheap,hle0,hsz,hcells0⟩:=hr.ob i _ hH
       cases hv with
       | vsl _ _ _ ad cap hlc hf =>
       rw [hβ] at hf
       have hf2:=(hf.2 rfl).2
       cases hf2
       have hRl:(rows.take len).length=len:=by simp; omega
       have hcells:∀ (j:Nat) (q:List D),(rows.take len)[j]?=some q→q.length=ti.size∧∀ (m:Nat) (x:D),q[m]?=some x→∃ v,cur[o+(j * ti.size+m)]?=some v∧DR κ.σ v x:=fun j q hj=>by
        rw [List.getElem?_take] at hj
        split at hj
        · exact hcells0 j q hj
        · cases hj
       have hle:len≤c:=by omega
       generalize rows.take len=R at hcells hRl
       subst hRl
       exact appV_old hr ht hu hi hz0 hzs hby r new news hlen hfc hnl hrow hnv h1c hil hβ hheap hle hsz hcells hfit (.inl rfl)
     · cases h
   · cases h
 · rename_i i k off len
   cases hv with
   | vso _ _ _ _ ad cap hlc hf =>
   have key:∀ (b c:Nat) (cur:Array Value) (o:Nat) (e':TypeId) (rows:List (List D)),i < H.length → κ.β i = .vec b c rows.length k ti.size o→w.heap[b]?=some (.cells cur e' (0,0))→rows.length≤c→o+c * ti.size≤cur.size →
    (∀ (j:Nat) (r:List D),rows[j]?=some r→r.length=ti.size∧∀ (q:Nat) (x:D),r[q]?=some x→∃ v,cur[o+(j * ti.size+q)]?=some v∧DR κ.σ v x)→e'=e→0 < len→off+len≤rows.length→(len+(new.length+1)) * ti.bytes≤140737488355328 →
    ∃ q w' κ',(Builtin.append_ #[t,u] ty #[.slice ad len cap,xv]).run P w = .ok q w' ∧ κ.le κ'∧HR κ' (H.set i (.vco ti.size e (k+1) ((rows.drop off).take len++r :: new))) w'∧VR κ' q (.vsl i (k+1) (len+(new.length+1))):=by
    rintro b c cur o e' rows hil hβ hheap hle0 hsz hcells0 rfl hpos hlr hfit
    rw [hβ] at hf
    obtain ⟨-,a',hf2,hf3⟩:=hf.2 rfl
    have hf3:=hf3.resolve_left (by omega)
    cases hf2
    subst hf3
    have hRl:((rows.drop off).take len).length=len:=by simp; omega
    have hcells:∀ (j:Nat) (q:List D),((rows.drop off).take len)[j]?=some q→q.length=ti.size∧∀ (m:Nat) (x:D),q[m]?=some x→∃ v,cur[(o+off * ti.size)+(j * ti.size+m)]?=some v∧DR κ.σ v x:=fun j q hj=>by
     rw [List.getElem?_take] at hj
     split at hj
     · rw [List.getElem?_drop] at hj
       refine ⟨(hcells0 _ q hj).1,fun m x hx => ?_⟩
       obtain ⟨v,v1,v2⟩:=(hcells0 _ q hj).2 m x hx
       refine ⟨v,?_,v2⟩
       rw [← v1,Nat.add_mul]; congr 1; omega
     · cases hj
    have hle:len≤c - off:=by omega
    have hsz':(o+off * ti.size)+(c - off) * ti.size≤cur.size:=by
     have:off * ti.size+(c - off) * ti.size=c * ti.size:=by rw [← Nat.add_mul]; congr 1; omega
     omega
    generalize (rows.drop off).take len=R at hcells hRl
    subst hRl
    exact appV_old hr ht hu hi hz0 hzs hby r new news hlen hfc hnl hrow hnv h1c hil hβ hheap hle hsz' hcells hfit (.inl rfl)
   split at h
   · rename_i s e' k' rows hH
     split at h
     · rename_i hc
       obtain ⟨rfl,rfl,rfl,hpos,hlr,hfit⟩:=hc
       cases h
       rcases hr.ob i _ hH with ⟨hβ,rfl,rfl⟩ | ⟨b,c,cur,hβ,-,hheap,hle0,hsz,hcells0⟩
       · simp at hlr; omega
       · exact key b c cur 0 _ rows (List.getElem?_eq_some_iff.1 hH).1 hβ hheap hle0 (by rw [Nat.zero_add]; exact hsz) (by simpa only [Nat.zero_add] using hcells0) rfl hpos hlr hfit
     · cases h
   · rename_i s e' k' rows hH
     split at h
     · rename_i hc
       obtain ⟨rfl,rfl,rfl,hpos,hlr,hfit⟩:=hc
       cases h
       obtain ⟨b,c,cur,o,hβ,hheap,hle0,hsz,hcells0⟩:=hr.ob i _ hH
       exact key b c cur o _ rows (List.getElem?_eq_some_iff.1 hH).1 hβ hheap hle0 hsz hcells0 rfl hpos hlr hfit
     · cases h
   · cases h
 · cases h
theorem rowsV_sound (hr:HR κ H w) {sz:Nat} {v:Value} {y:A} (hv:VR κ v y) {rows:List (List D)} (h:rowsV H sz y=some rows) (hne:rows ≠ []) :
 ∃ (b p cap : Nat) (vs : List Value), v = .slice (some ⟨b, p, none⟩) rows.length cap ∧ vs.length = rows.length * sz ∧ (∀ (j : Nat) (u : Value), vs[j]? = some u → w.cell? ⟨b, p + j, none⟩ = some u) ∧
   (∀ (k j:Nat) (r:List D) (x:D),rows[k]?=some r→r[j]?=some x→∃ u,vs[k * sz+j]?=some u∧DR κ.σ u x)∧(∀ u ∈ vs,u.oneCell'=true)∧(∀ (k:Nat) (r:List D),rows[k]?=some r→r.length=sz):=by
 have fin:∀ (b p c:Nat) (cur:Array Value) (e:TypeId),w.heap[b]?=some (.cells cur e (0,0))→p+rows.length * sz≤cur.size →
  (∀ (j:Nat) (r:List D),rows[j]?=some r→r.length=sz∧∀ (q:Nat) (x:D),r[q]?=some x→∃ v,cur[p+(j * sz+q)]?=some v∧DR κ.σ v x)→v = .slice (some ⟨b,p,none⟩) rows.length c →
  ∃ (b p cap:Nat) (vs:List Value),v = .slice (some ⟨b,p,none⟩) rows.length cap∧vs.length=rows.length * sz∧(∀ (j:Nat) (u:Value),vs[j]?=some u→w.cell? ⟨b,p+j,none⟩=some u) ∧
  (∀ (k j:Nat) (r:List D) (x:D),rows[k]?=some r→r[j]?=some x→∃ u,vs[k * sz+j]?=some u∧DR κ.σ u x)∧(∀ u ∈ vs,u.oneCell'=true)∧(∀ (k:Nat) (r:List D),rows[k]?=some r→r.length=sz):=by
  intro b p c cur e hheap hsz hc hval
  have hl:((cur.toList.drop p).take (rows.length * sz)).length=rows.length * sz:=by simp; omega
  have hg:∀ m,m < rows.length * sz→((cur.toList.drop p).take (rows.length * sz))[m]?=cur[p+m]?:=fun m hm=>by
   rw [List.getElem?_take_of_lt hm,List.getElem?_drop,Array.getElem?_toList]
  generalize ((cur.toList.drop p).take (rows.length * sz))=vs at hl hg
  refine ⟨b,p,c,vs,hval,hl,fun j u hu => ?_,fun k j r x hk hx => ?_,fun u hu => ?_,fun k r hk=>(hc k r hk).1⟩
  · have hj:j < rows.length * sz:=by rw [← hl]; exact (List.getElem?_eq_some_iff.1 hu).1
    rw [cell_cells hheap,← hg j hj]; exact hu
  · obtain ⟨u,h1,h2⟩:=(hc k r hk).2 j x hx
    have hj:j < sz:=by rw [← (hc k r hk).1]; exact (List.getElem?_eq_some_iff.1 hx).1
    have hkl:=(List.getElem?_eq_some_iff.1 hk).1
    have hlt:k * sz+j < rows.length * sz:=by
     have:(k+1) * sz≤rows.length * sz:=Nat.mul_le_mul_right _ hkl
     rw [Nat.add_mul] at this; omega
    exact ⟨u,by rw [hg _ hlt]; exact h1,h2⟩
  · obtain ⟨m,hm,rfl⟩:=List.getElem_of_mem hu
    rw [hl] at hm
    have hs0:0 < sz:=Nat.pos_of_ne_zero fun e=>by subst e; simp at hm
    have hk:m / sz < rows.length:=by rw [Nat.div_lt_iff_lt_mul hs0]; exact hm
    have hrl:=(hc _ _ (List.getElem?_eq_getElem hk)).1
    have hj:m % sz < rows[m / sz].length:=by rw [hrl]; exact Nat.mod_lt _ hs0
    obtain ⟨u,h1,h2⟩:=(hc _ _ (List.getElem?_eq_getElem hk)).2 _ _ (List.getElem?_eq_getElem hj)
    have he:m / sz * sz+m % sz=m:=by rw [Nat.mul_comm]; exact Nat.div_add_mod m sz
    rw [he,← hg m hm] at h1
    have:vs[m]'(by omega)=u:=by
     have:=List.getElem?_eq_getElem (l:=vs) (i:=m) (by omega)
     rw [this] at h1; exact Option.some.inj h1
    rw [this]; exact (VR.d (κ := κ) h2).oneCell rfl
 have fin2:∀ (b o c off len:Nat) (all:List (List D)) (cur:Array Value) (e:TypeId),w.heap[b]?=some (.cells cur e (0,0))→all.length≤c→o+c * sz≤cur.size→off+len≤all.length→rows=(all.drop off).take len →
  (∀ (j:Nat) (r:List D),all[j]?=some r→r.length=sz∧∀ (q:Nat) (x:D),r[q]?=some x→∃ v,cur[o+(j * sz+q)]?=some v∧DR κ.σ v x)→(∀ n,n=rows.length→v = .slice (some ⟨b,o+off * sz,none⟩) n (c - off)) →
  ∃ (b p cap:Nat) (vs:List Value),v = .slice (some ⟨b,p,none⟩) rows.length cap∧vs.length=rows.length * sz∧(∀ (j:Nat) (u:Value),vs[j]?=some u→w.cell? ⟨b,p+j,none⟩=some u) ∧
  (∀ (k j:Nat) (r:List D) (x:D),rows[k]?=some r→r[j]?=some x→∃ u,vs[k * sz+j]?=some u∧DR κ.σ u x)∧(∀ u ∈ vs,u.oneCell'=true)∧(∀ (k:Nat) (r:List D),rows[k]?=some r→r.length=sz):=by
  intro b o c off len all cur e hheap hac hsz hol hrows hc hval
  have hrl:rows.length=len:=by rw [hrows]; simp; omega
  refine fin b (o+off * sz) (c - off) cur e hheap ?_ (fun j r hj => ?_) (hval _ rfl)
  · have h1:off * sz+len * sz≤c * sz:=by rw [← Nat.add_mul]; exact Nat.mul_le_mul_right _ (by omega)
    rw [hrl]; omega
  · rw [hrows,List.getElem?_take] at hj
    split at hj
    · rw [List.getElem?_drop] at hj
      refine ⟨(hc _ r hj).1,fun q x hx => ?_⟩
      obtain ⟨v,v1,v2⟩:=(hc _ r hj).2 q x hx
      exact ⟨v,by rw [← v1,Nat.add_mul]; congr 1; omega,v2⟩
    · cases hj
 unfold rowsV at h
 split at h
 · rename_i i k len
   cases hv with
   | vsl _ _ _ ad cap hlc hf =>
   split at h
   · rename_i s e k' all hH
     split at h
     · rename_i hq
       obtain ⟨rfl,rfl,hlen⟩:=hq
       cases h
       rcases hr.ob i _ hH with ⟨hβ,rfl,rfl⟩ | ⟨b,c,cur,hβ,-,hheap,hle0,hsz,hc⟩
       · simp at hne
       · rw [hβ] at hf
         have hf2:=(hf.2 rfl).2
         cases hf2
         exact fin2 b 0 _ 0 len all cur e hheap hle0 (by rw [Nat.zero_add]; exact hsz) (by omega) (by simp) (by simpa only [Nat.zero_add] using hc) fun n hn=>by
          have:n=len:=by rw [hn]; simp; omega
          subst this; simp
     · cases h
   · rename_i s e k' all hH
     split at h
     · rename_i hq
       obtain ⟨rfl,rfl,hlen⟩:=hq
       cases h
       obtain ⟨b,c,cur,o,hβ,hheap,hle0,hsz,hc⟩:=hr.ob i _ hH
       rw [hβ] at hf
       have hf2:=(hf.2 rfl).2
       cases hf2
       exact fin2 b o _ 0 len all cur e hheap hle0 hsz (by omega) (by simp) hc fun n hn=>by
        have:n=len:=by rw [hn]; simp; omega
        subst this; simp
     · cases h
   · cases h
 · rename_i i k off len
   cases hv with
   | vso _ _ _ _ ad cap hlc hf =>
   split at h
   · rename_i s e k' all hH
     split at h
     · rename_i hq
       obtain ⟨rfl,rfl,hlen⟩:=hq
       cases h
       rcases hr.ob i _ hH with ⟨hβ,rfl,rfl⟩ | ⟨b,c,cur,hβ,-,hheap,hle0,hsz,hc⟩
       · simp at hne
       · rw [hβ] at hf
         obtain ⟨-,a',hf2,hf3⟩:=hf.2 rfl
         have hl0:len ≠ 0:=fun h0=>hne (by rw [h0]; simp)
         have hf3:=hf3.resolve_left hl0
         cases hf2
         subst hf3
         exact fin2 b 0 c off len all cur e hheap hle0 (by rw [Nat.zero_add]; exact hsz) hlen rfl (by simpa only [Nat.zero_add] using hc) fun n hn=>by
          have:n=len:=by rw [hn]; simp; omega
          subst this; rfl
     · cases h
   · rename_i s e k' all hH
     split at h
     · rename_i hq
       obtain ⟨rfl,rfl,hlen⟩:=hq
       cases h
       obtain ⟨b,c,cur,o,hβ,hheap,hle0,hsz,hc⟩:=hr.ob i _ hH
       rw [hβ] at hf
       obtain ⟨-,a',hf2,hf3⟩:=hf.2 rfl
       have hl0:len ≠ 0:=fun h0=>hne (by rw [h0]; simp)
       have hf3:=hf3.resolve_left hl0
       cases hf2
       subst hf3
       exact fin2 b o c off len all cur e hheap hle0 hsz hlen rfl hc fun n hn=>by
        have:n=len:=by rw [hn]; simp; omega
        subst this; rfl
     · cases h
   · cases h
 · cases h
theorem does_appVV {t u e ty:TypeId} {ti:TypeInfo} {z0:Value} {y z:Operand} {y' z':Arg} {xs:Array Operand} {ts:Array TypeId} {eu:TypeId} (hs:SR κ nt fr H a w) (hts:ts.toList=[t,u]) (hxs:xs.toList=[y,z]) (h1:sliceElem P t=some (e,ti)) (hu:P.underlying u=some (.slice eu))
 (hz0:ti.zero=some z0) (hzs:z0.cells.size=ti.size) (hby:0 < ti.bytes) (hy:cArg P t y=some y') (hz:cArg P t z=some z') (h:stepI fr H (.appVV ti.size ti.bytes e y' z')=some (x,H')) :
 Does P (do pure (.value (← Builtin.append_ ts ty (xs.map a.eval)))) w κ H' x:=by
 have e1:ts = #[t,u]:=by cases ts; simp at hts; subst hts; rfl
 have e2:xs = #[y,z]:=by cases xs; simp at hxs; subst hxs; rfl
 subst e1; subst e2
 obtain ⟨ht,hi⟩:=sliceElem_spec h1
 simp only [stepI] at h
 split at h
 · rename_i r new hnew
   have hv:=cArg_sound hy hs
   have hx:=cArg_sound hz hs
   obtain ⟨b,p,cap,news,e3,hnl,hnc,hnv,hn1,hrow⟩:=rowsV_sound hs.hr hx hnew (by simp)
   obtain ⟨q,w',κ',c1,c2,c3,c4⟩:=appV_core (ty:=ty) hs.hr ht ⟨_,hu,fun k=>by simp⟩ hi hz0 hzs hby hv (xv:=a.eval z) r new news (by rw [e3]; rfl) (fun w1 hw1=>by
    rw [e3]
    exact run_firstCells_some w1 ti.size (new.length+1) ⟨b,p,none⟩ (new.length+1) cap news hnl (fun j v hv=>by
     rw [add_mk,hw1]; exact hnc j v hv)) hnl hrow hnv hn1 h
   exact ⟨q,w',κ',.inl (run_val _ _ _ (by simpa using c1)),c2,c3,c4⟩
 · cases h
theorem does_appV {t u e ty:TypeId} {ti:TypeInfo} {z0:Value} {y z:Operand} {y' z':Arg} {xs:Array Operand} {ts:Array TypeId} {eu:TypeId} (hs:SR κ nt fr H a w) (hts:ts.toList=[t,u]) (hxs:xs.toList=[y,z]) (h1:sliceElem P t=some (e,ti)) (hu:P.underlying u=some (.slice eu))
 (hz0:ti.zero=some z0) (hzs:z0.cells.size=ti.size) (hby:0 < ti.bytes) (hy:cArg P t y=some y') (hz:cArg P t z=some z') (h:stepI fr H (.appV ti.size ti.bytes e y' z')=some (x,H')) :
 Does P (do pure (.value (← Builtin.append_ ts ty (xs.map a.eval)))) w κ H' x:=by
 have e1:ts = #[t,u]:=by cases ts; simp at hts; subst hts; rfl
 have e2:xs = #[y,z]:=by cases xs; simp at hxs; subst hxs; rfl
 subst e1; subst e2
 obtain ⟨ht,hi⟩:=sliceElem_spec h1
 simp only [stepI] at h
 split at h
 · rename_i r new hnew
   have hv:=cArg_sound hy hs
   have hx:=cArg_sound hz hs
   have hd:∃ zz,DR κ.σ (a.eval z) (.sl zz ti.size (r :: new)):=by
    unfold slOf at hnew
    split at hnew
    · rename_i zz s rows e3
      split at hnew
      · rename_i hsz; cases hnew; subst hsz; rw [e3] at hx; exact ⟨zz,hx.d_inv⟩
      · cases hnew
    · rename_i zz s rows tk e3
      split at hnew
      · rename_i hsz
        cases hnew; subst hsz; rw [e3] at hx
        generalize a.eval z=v at hx
        cases hx with | osl hd _=>exact ⟨zz,hd⟩
      · cases hnew
    · cases hnew
   obtain ⟨zz,hd⟩:=hd
   obtain ⟨ad,cap,news,e3,hcap,hnil,hnl,hnc,hnv,hn1,hrow⟩:=hd.cells (fun b o q hq=>hs.hr.st b o q hq)
   obtain ⟨q,w',κ',c1,c2,c3,c4⟩:=appV_core (ty:=ty) hs.hr ht ⟨_,hu,fun k=>by simp⟩ hi hz0 hzs hby hv (xv:=a.eval z) r new news (by rw [e3]; rfl) (fun w1 hw1=>by
    rw [e3]
    cases ad with
    | none=>obtain ⟨h0,-,-⟩:=hnil rfl; cases h0
    | some q =>
      obtain ⟨qb,qo,qs⟩:=q
      obtain ⟨hq1,hq2⟩:=hnc _ rfl
      have hq1:=hq1 (by simp)
      simp only at hq1
      subst hq1
      exact run_firstCells_some w1 ti.size (new.length+1) ⟨qb,qo,none⟩ (new.length+1) cap news hnl (fun j v hv=>by
       have:=hq2 j v hv
       rw [add_mk] at this ⊢
       rw [hw1]; exact this)) hnl hrow hnv hn1 h
   exact ⟨q,w',κ',.inl (run_val _ _ _ (by simpa using c1)),c2,c3,c4⟩
 · cases h
theorem does_cutV {t e:TypeId} {ti:TypeInfo} {y hi:Operand} {y' hi':Arg} (hs:SR κ nt fr H a w) (ht:P.underlying t=some (.slice e)) (hti:P.info? e=some ti) (hy:cArg P t y=some y') (hh:cArg P 0 hi=some hi')
 (h:stepI fr H (.cutV ti.size y' hi')=some (x,H')) :
 Does P (do pure (.value (← Instr.sliceAt t (a.eval y) none (some (a.eval hi)) none))) w κ H' x:=by
 have hv:=cArg_sound hy hs
 have hn:=cArg_sound hh hs
 simp only [stepI,Option.map_eq_some_iff] at h
 obtain ⟨u,h,h2⟩:=h
 simp only [Prod.mk.injEq] at h2
 obtain ⟨rfl,rfl⟩:=h2
 unfold cutVA at h
 split at h
 · rename_i i k len kk n e1 e2
   split at h
   · rename_i hc
     obtain ⟨h0,hle⟩:=hc
     cases h
     rw [e1] at hv; rw [e2] at hn
     generalize hev:a.eval y=v at hv
     cases hv with
     | vsl _ _ _ ad cap hlc hf =>
     have hfit:vecFit (κ.β i) (.slice (if cap=0 then ad else ad.map (·.add 0)) n.toNat cap) k n.toNat:=by
      generalize κ.β i=B at hf
      cases B with
      | vec b c l k' sz o =>
        refine ⟨hf.1,fun e => ?_⟩
        obtain ⟨h1,h2⟩:=hf.2 e
        cases h2
        refine ⟨by omega,?_⟩
        split<;>simp [add_mk]
      | deadT=>trivial
      | nilV =>
        obtain ⟨h1,h2,h3⟩:=hf
        cases h3
        exact ⟨h1,by omega,by simp; omega⟩
      | _=>exact hf.elim
     have hb:=run_bounds (P:=P) (w:=w) true len cap none (some (.int kk n)) none 0 n.toNat cap (.inl ⟨rfl,rfl⟩) (.inr ⟨kk,by rw [Int.toNat_of_nonneg h0]⟩) (.inl ⟨rfl,rfl⟩) (by omega) (by omega) (Nat.le_refl _)
     refine .same (u := .slice (if cap=0 then ad else ad.map (·.add 0)) n.toNat cap) (run_val _ _ _ ?_) hs.hr (.vsl _ _ _ _ _ (by omega) hfit)
     rw [hn.int_inv]
     simp [Instr.sliceAt,run_underlying ht,Instr.slice,hb,sizeOf,typeInfo,hti]
   · cases h
 · rename_i i k off len kk n e1 e2
   split at h
   · rename_i hc
     obtain ⟨h0,hle⟩:=hc
     cases h
     rw [e1] at hv; rw [e2] at hn
     generalize hev:a.eval y=v at hv
     cases hv with
     | vso _ _ _ _ ad cap hlc hf =>
     have hfit:vsoFit (κ.β i) (.slice (if cap=0 then ad else ad.map (·.add 0)) n.toNat cap) k off n.toNat:=by
      generalize κ.β i=B at hf
      cases B with
      | vec b c l k' sz o =>
        refine ⟨hf.1,fun e => ?_⟩
        obtain ⟨h1,a',h2,h3⟩:=hf.2 e
        cases h2
        refine ⟨by omega,a',?_,?_⟩
        · split<;>simp [add_mk]
        · rcases h3 with h3 | h3
          · exact .inl (by omega)
          · exact .inr h3
      | deadT=>trivial
      | nilV =>
        obtain ⟨h1,h2,h3,h4⟩:=hf
        cases h4
        exact ⟨h1,h2,by omega,by simp; omega⟩
      | _=>exact hf.elim
     have hb:=run_bounds (P:=P) (w:=w) true len cap none (some (.int kk n)) none 0 n.toNat cap (.inl ⟨rfl,rfl⟩) (.inr ⟨kk,by rw [Int.toNat_of_nonneg h0]⟩) (.inl ⟨rfl,rfl⟩) (by omega) (by omega) (Nat.le_refl _)
     refine .same (u := .slice (if cap=0 then ad else ad.map (·.add 0)) n.toNat cap) (run_val _ _ _ ?_) hs.hr (.vso _ _ _ _ _ _ (by omega) hfit)
     rw [hn.int_inv]
     simp [Instr.sliceAt,run_underlying ht,Instr.slice,hb,sizeOf,typeInfo,hti]
   · cases h
 · cases h
theorem vecSz_bind (hr:HR κ H w) {i sz:Nat} (h:vecSz H[i]? sz=true) : κ.β i = .nilV∨∃ b c l k o,κ.β i = .vec b c l k sz o:=by
 unfold vecSz at h
 split at h
 · rename_i s e k rows hH
   have hs:s=sz:=by simpa using h
   subst hs
   rcases hr.ob i _ hH with ⟨h1,-⟩ | ⟨b,c,cur,h1,-⟩
   · exact .inl h1
   · exact .inr ⟨_,_,_,_,_,h1⟩
 · rename_i s e k rows hH
   have hs:s=sz:=by simpa using h
   subst hs
   obtain ⟨b,c,cur,o,h1,-⟩:=hr.ob i _ hH
   exact .inr ⟨_,_,_,_,_,h1⟩
 · cases h
theorem does_cutL {t e:TypeId} {ti:TypeInfo} {y lo:Operand} {y' lo':Arg} (hs:SR κ nt fr H a w) (ht:P.underlying t=some (.slice e)) (hti:P.info? e=some ti) (hy:cArg P t y=some y') (hh:cArg P 0 lo=some lo')
 (h:stepI fr H (.cutL ti.size y' lo')=some (x,H')) :
 Does P (do pure (.value (← Instr.sliceAt t (a.eval y) (some (a.eval lo)) none none))) w κ H' x:=by
 have hv:=cArg_sound hy hs
 have hn:=cArg_sound hh hs
 simp only [stepI,Option.map_eq_some_iff] at h
 obtain ⟨u,h,h2⟩:=h
 simp only [Prod.mk.injEq] at h2
 obtain ⟨rfl,rfl⟩:=h2
 unfold cutLA at h
 split at h
 · rename_i i k len kk n e1 e2
   split at h
   · rename_i hc
     obtain ⟨hz,h0,hle⟩:=hc
     cases h
     rw [e1] at hv; rw [e2] at hn
     generalize hev:a.eval y=v at hv
     cases hv with
     | vsl _ _ _ ad cap hlc hf =>
     have hfit:vsoFit (κ.β i) (.slice (if cap=n.toNat then ad else ad.map (·.add (n.toNat * ti.size))) (len - n.toNat) (cap - n.toNat)) k n.toNat (len - n.toNat):=by
      rcases vecSz_bind hs.hr hz with hB | ⟨b,c,l,k',o,hB⟩
      · rw [hB] at hf ⊢
        obtain ⟨h1,h2,h3⟩:=hf
        cases h3
        exact ⟨h1,by omega,by omega,by simp⟩
      · rw [hB] at hf ⊢
        refine ⟨hf.1,fun e => ?_⟩
        obtain ⟨h1,h2⟩:=hf.2 e
        cases h2
        refine ⟨by omega,if cap=n.toNat then o else o+n.toNat * ti.size,?_,?_⟩
        · split<;>simp [add_mk]
        · split
          · exact .inl (by omega)
          · exact .inr rfl
     have hb:=run_bounds (P:=P) (w:=w) true len cap (some (.int kk n)) none none n.toNat len cap (.inr ⟨kk,by rw [Int.toNat_of_nonneg h0]⟩) (.inl ⟨rfl,rfl,rfl⟩) (.inl ⟨rfl,rfl⟩) (by omega) (by omega) (Nat.le_refl _)
     refine .same (u := .slice (if cap=n.toNat then ad else ad.map (·.add (n.toNat * ti.size))) (len - n.toNat) (cap - n.toNat)) (run_val _ _ _ ?_) hs.hr (.vso _ _ _ _ _ _ (by omega) hfit)
     rw [hn.int_inv]
     simp [Instr.sliceAt,run_underlying ht,Instr.slice,hb,sizeOf,typeInfo,hti]
   · cases h
 · rename_i i k off len kk n e1 e2
   split at h
   · rename_i hc
     obtain ⟨hz,h0,hle⟩:=hc
     cases h
     rw [e1] at hv; rw [e2] at hn
     generalize hev:a.eval y=v at hv
     cases hv with
     | vso _ _ _ _ ad cap hlc hf =>
     have hfit:vsoFit (κ.β i) (.slice (if cap=n.toNat then ad else ad.map (·.add (n.toNat * ti.size))) (len - n.toNat) (cap - n.toNat)) k (off+n.toNat) (len - n.toNat):=by
      rcases vecSz_bind hs.hr hz with hB | ⟨b,c,l,k',o,hB⟩
      · rw [hB] at hf ⊢
        obtain ⟨h1,h2,h3,h4⟩:=hf
        cases h4
        exact ⟨h1,by omega,by omega,by simp⟩
      · rw [hB] at hf ⊢
        refine ⟨hf.1,fun e => ?_⟩
        obtain ⟨h1,a',h2,h3⟩:=hf.2 e
        cases h2
        refine ⟨by omega,if c - off=n.toNat then a' else a'+n.toNat * ti.size,?_,?_⟩
        · split<;>simp [add_mk,Nat.sub_sub]
        · split
          · exact .inl (by omega)
          · rcases h3 with h3 | h3
            · exact .inl (by omega)
            · exact .inr (by rw [h3,Nat.add_mul]; omega)
     have hb:=run_bounds (P:=P) (w:=w) true len cap (some (.int kk n)) none none n.toNat len cap (.inr ⟨kk,by rw [Int.toNat_of_nonneg h0]⟩) (.inl ⟨rfl,rfl,rfl⟩) (.inl ⟨rfl,rfl⟩) (by omega) (by omega) (Nat.le_refl _)
     refine .same (u := .slice (if cap=n.toNat then ad else ad.map (·.add (n.toNat * ti.size))) (len - n.toNat) (cap - n.toNat)) (run_val _ _ _ ?_) hs.hr (.vso _ _ _ _ _ _ (by omega) hfit)
     rw [hn.int_inv]
     simp [Instr.sliceAt,run_underlying ht,Instr.slice,hb,sizeOf,typeInfo,hti]
   · cases h
 · cases h
theorem pushes (ns:List Int):∀ s:ByteArray,(ns.foldl (fun r n=>r.push (UInt8.ofNat n.toNat)) s).data.toList=s.data.toList++ns.map fun n=>UInt8.ofNat n.toNat:=by
 induction ns with
 | nil=>intro s; simp
 | cons n ns ih =>
   intro s
   simp only [List.foldl_cons,ih,List.map_cons]
   have:(s.push (UInt8.ofNat n.toNat)).data.toList=s.data.toList++[UInt8.ofNat n.toNat]:=by
    show (s.data.push _).toList=_
    simp
   rw [this,List.append_assoc]; rfl
theorem byteRows_spec:∀ (rows:List (List D)) (l:List UInt8),rows.mapM byteRow=some l→∃ ns:List Int,rows=ns.map (fun n=>[.int .u8 n])∧l=ns.map fun n=>UInt8.ofNat n.toNat
 | [],l,h=>by simp at h; subst h; exact ⟨[],rfl,rfl⟩
 | r :: rows, l, h => by
   simp only [List.mapM_cons,Option.bind_eq_bind,Option.bind_eq_some_iff,Option.pure_def,Option.some.injEq] at h
   obtain ⟨b,hb,l',hl,rfl⟩:=h
   obtain ⟨ns,rfl,rfl⟩:=byteRows_spec rows l' hl
   unfold byteRow at hb
   split at hb
   · rename_i n
     cases hb
     exact ⟨n :: ns,rfl,rfl⟩
   · cases hb
theorem does_cvtBS {s t e:TypeId} {y:Operand} {y':Arg} (hs:SR κ nt fr H a w) (h1:P.underlying s=some (.slice e)) (he:P.underlying e=some (.int .u8)) (h2:P.underlying t=some .string) (hy:cArg P s y=some y') (h:stepI fr H (.cvtBS y')=some (x,H')) :
 Does P (do pure (.value (← convert s t (a.eval y)))) w κ H' x:=by
 simp only [stepI] at h
 split at h
 · rename_i rows hrows
   simp only [Option.map_eq_some_iff,Prod.mk.injEq] at h
   obtain ⟨l,hl,rfl,rfl⟩:=h
   obtain ⟨ns,rfl,rfl⟩:=byteRows_spec _ _ hl
   have hx:=cArg_sound hy hs
   have hd:∃ zz,DR κ.σ (a.eval y) (.sl zz 1 (ns.map (fun n=>[.int .u8 n]))):=by
    unfold slOf at hrows
    split at hrows
    · rename_i zz q rows e3
      split at hrows
      · rename_i hsz; cases hrows; subst hsz; rw [e3] at hx; exact ⟨zz,hx.d_inv⟩
      · cases hrows
    · rename_i zz q rows tk e3
      split at hrows
      · rename_i hsz
        cases hrows; subst hsz; rw [e3] at hx
        generalize a.eval y=v at hx
        cases hx with | osl hd _=>exact ⟨zz,hd⟩
      · cases hrows
    · cases hrows
   obtain ⟨zz,hd⟩:=hd
   obtain ⟨ad,cap,vs,e3,hcap,hnil,hnl,hnc,hnv,hn1,hrow⟩:=hd.cells (fun b o q hq=>hs.hr.st b o q hq)
   simp only [List.length_map,Nat.mul_one] at e3 hnl
   have hvs:vs=ns.map (Value.int .u8):=by
    refine List.ext_getElem? fun k => ?_
    by_cases hk:k < ns.length
    · obtain ⟨u,u1,u2⟩:=hnv k 0 [.int .u8 ns[k]] (.int .u8 ns[k]) (by simp [hk]) rfl
      rw [Nat.mul_one,Nat.add_zero] at u1
      rw [u1]
      cases u2
      simp [hk]
    · rw [List.getElem?_eq_none (by omega),List.getElem?_eq_none (by simp; omega)]
   subst hvs
   have hstr:=pushes ns ByteArray.empty
   refine .same (u := .string (ns.foldl (fun r n=>r.push (UInt8.ofNat n.toNat)) ByteArray.empty)) (run_val _ _ _ ?_) hs.hr (.d ?_)
   · rw [e3,run_convert_bytes_string w s t e ad ns.length cap h1 he h2]
     cases ad with
     | none =>
       have:ns=[]:=by
        have:=(hnil rfl).1
        simpa using this
       subst this
       rfl
     | some q =>
       have:=run_loadCells_list (P:=P) w q (ns.map (Value.int .u8)) (hnc q rfl).2
       rw [List.length_map] at this
       exact run_bytesToString w q ns.length cap ns this
   · have:(ns.map fun n=>UInt8.ofNat n.toNat)=(ns.foldl (fun r n=>r.push (UInt8.ofNat n.toNat)) ByteArray.empty).data.toList:=by rw [hstr]; rfl
     rw [this]
     exact .str _
 · cases h
open Go.MapKept
theorem does_mkMap {t:TypeId} (hs:SR κ nt fr H a w) (h:stepI fr H .mkMap=some (x,H')):Does P (do pure (.value (← Instr.makeMap t none))) w κ H' x:=by
 simp only [stepI,Option.some.injEq,Prod.mk.injEq] at h
 obtain ⟨rfl,rfl⟩:=h
 have hp:=hs.hr.push (.map #[] 0) (.map w.heap.size) (.mp []) rfl rfl ⟨w.heap.size,#[],0,upd_same _ _ _,by show (w.heap.push _)[w.heap.size]?=_; simp,rfl,fun j x hx=>by simp at hx⟩
 exact ⟨_,_,_,.inl (run_val _ _ _ rfl),hp.1,hp.2,.map _ _ (upd_same _ _ _)⟩
theorem keyOf_isKey {kt:TypeId} {d:TypeDesc} {key k:D} {v:Value} {σ:St} (hd:P.underlying kt=some d) (hp:primD P kt=some key) (hk:keyOf key k=true) (hv:DR σ v k):IsKey d v:=by
 unfold primD at hp
 rw [hd] at hp
 cases d<;>simp only [Option.some.injEq,reduceCtorEq] at hp<;>subst hp<;>cases hv<;>simp_all [keyOf,IsKey]
theorem ba_eq (s s':ByteArray):s=s' ↔ s.data.toList=s'.data.toList:=by
 obtain ⟨⟨s⟩⟩:=s
 obtain ⟨⟨s'⟩⟩:=s'
 simp
theorem sameK_iff {key k k':D} {u v:Value} {σ:St} (hk:keyOf key k=true) (hk':keyOf key k'=true) (hu:DR σ u k) (hv:DR σ v k'):u=v ↔ sameK k k'=true:=by
 cases hu<;>first | (cases key<;>simp [keyOf] at hk; done) | skip
 all_goals cases hv<;>first | (cases key<;>simp [keyOf] at hk hk'; done) | skip
 · simp [sameK]
 · cases key<;>simp [keyOf] at hk hk'
   subst hk; subst hk'
   simp [sameK]
 · simp [sameK,ba_eq]
theorem findNow_mp {d:TypeDesc} {key k:D} {u:Value} (hu:DR κ.σ u k) (hkk:keyOf key k=true) (hiu:IsKey d u) (val:A):∀ (l:List MapEntry) (m:List (D × A)) (i:Nat),l.length=m.length→(∀ e ∈ m,keyOf key e.1=true)→(∀ x ∈ l,IsKey d x.key) →
 (∀ (j:Nat) (x:D × A),m[j]?=some x→∃ e,l[j]?=some e∧DR κ.σ e.key x.1∧VR κ e.val x.2) →
 (mpGet k m=none∧Instr.findNow d u l i=some none∧mpPut k val m=m++[(k,val)]) ∨
 ∃ j e a',mpGet k m=some a'∧Instr.findNow d u l i=some (some (i+j,e.val))∧l[j]?=some e∧e.key=u∧VR κ e.val a'∧mpPut k val m=m.set j (k,val)
 | [], m, i, hl, _, _, _ => by
   have:m=[]:=List.eq_nil_of_length_eq_zero hl.symm
   subst this
   exact .inl ⟨rfl,rfl,rfl⟩
 | e :: l,[],i,hl,_,_,_=>by simp at hl
 | e :: l, x :: m, i, hl, hm, hi, hr => by
   obtain ⟨e',h1,h2,h3⟩:=hr 0 x rfl
   simp only [List.getElem?_cons_zero,Option.some.injEq] at h1
   subst h1
   obtain ⟨r,hr1,hr2⟩:=sameNow_of_keys hiu (hi e (by simp))
   have hiff:=sameK_iff (hkk) (hm x (by simp)) hu h2
   cases hsk:sameK k x.1 with
   | true =>
     have hue:=hiff.2 hsk
     have:r=true:=hr2.2 hue
     subst this
     exact .inr ⟨0,e,x.2,by simp [mpGet,hsk],by simp [Instr.findNow,hr1],rfl,hue.symm,h3,by simp [mpPut,hsk]⟩
   | false =>
     have hr0:r=false:=by
      cases r with
      | false=>rfl
      | true=>have:=hiff.1 (hr2.1 rfl); rw [hsk] at this; cases this
     subst hr0
     rcases findNow_mp hu hkk hiu val l m (i+1) (by simpa using hl) (fun e he=>hm e (by simp [he])) (fun y hy=>hi y (by simp [hy])) (fun j y hy=>by
      have:=hr (j+1) y (by simpa using hy)
      simpa using this) with ⟨q1,q2,q3⟩ | ⟨j,e2,a',q1,q2,q3,q4,q5,q6⟩
     · exact .inl ⟨by simp [mpGet,hsk,q1],by simp [Instr.findNow,hr1,q2],by simp [mpPut,hsk,q3]⟩
     · exact .inr ⟨j+1,e2,a',by simp [mpGet,hsk,q1],by simp [Instr.findNow,hr1,q2]; omega,by simpa using q3,q4,q5,by simp [mpPut,hsk,q6]⟩
theorem zA_sound {et:TypeId} {z:List D} (hz:zeroOf P et=some z) (w:World):∃ v,(zeroValue et).run P w = .ok v w∧VR κ v (zA (zAgg P et) z):=by
 obtain ⟨ti,zv,z1,z2,z3,z4⟩:=zeroOf_spec hz
 refine ⟨zv,by simp [zeroValue,typeInfo,z1,z2],?_⟩
 unfold zA zAgg
 rw [z1]
 simp only [Option.bind_some,z2]
 cases zv with
 | agg cs =>
   simp only [if_true]
   have:=VR.agg (κ := κ) cs.toList (z.map .d) (by simpa [Value.cells] using z3) (fun i v a hv ha=>by
    simp only [List.getElem?_map,Option.map_eq_some_iff] at ha
    obtain ⟨d,hd,rfl⟩:=ha
    exact .d (z4 _ i v d (by simpa [Value.cells] using hv) hd))
   simpa using this
 | _ =>
   simp only [Bool.false_eq_true,if_false]
   cases z with
   | nil=>simp [Value.cells] at z3
   | cons d r=>exact .d (z4 _ 0 _ d (by simp [Value.cells]) rfl)
theorem does_lkp {t kt et:TypeId} {key:D} {z:List D} {ok:Bool} {y k:Operand} {y' k':Arg} (hs:SR κ nt fr H a w) (ht:P.underlying t=some (.map kt et)) (hk:primD P kt=some key) (hz:zeroOf P et=some z) (hy:cArg P t y=some y') (hkk:cArg P kt k=some k')
 (h:stepI fr H (.lkp ok key (zAgg P et) z y' k')=some (x,H')) :
 Does P (do pure (.value (← Instr.lookup t (a.eval y) (a.eval k) ok))) w κ H' x:=by
 have hv:=cArg_sound hy hs
 have hkv:=cArg_sound hkk hs
 obtain ⟨d,hd⟩:∃ d,P.underlying kt=some d:=by
  cases e:P.underlying kt with
  | none=>simp [primD,e] at hk
  | some d=>exact ⟨d,rfl⟩
 obtain ⟨zv,hzv,hzr⟩:=zA_sound (κ := κ) hz w
 have fin0:∀ (es:Array MapEntry),((a.eval y = .map none∧es = #[])∨∃ r clock,a.eval y = .map (some r)∧w.heap[r]?=some (.map es clock))→∀ kd,DR κ.σ (a.eval k) kd→keyOf key kd=true→Instr.findNow d (a.eval k) es.toList 0=some none→∀ xx,xx=(if ok then A.tup [zA (zAgg P et) z,.d (.bool false)] else zA (zAgg P et) z) →
  Does P (do pure (.value (← Instr.lookup t (a.eval y) (a.eval k) ok))) w κ H xx:=by
  rintro es hes kd hdr hko hfn xx rfl
  have hik:=keyOf_isKey hd hk hko hdr
  refine .same (u:=if ok then .tuple #[zv,.bool false] else zv) (run_val _ _ _ ?_) hs.hr ?_
  · rcases hes with ⟨e1,rfl⟩ | ⟨r,clock,e1,e2⟩
    · rw [e1]
      simp [Instr.lookup,run_underlying ht,run_checkKey hd hik,run_findKey hd hfn,hzv]
    · rw [e1]
      simp [Instr.lookup,run_underlying ht,MapKept.run_getObj_map e2,run_checkKey hd hik,run_findKey hd hfn,hzv]
  · cases ok with
    | false=>simpa using hzr
    | true =>
      simp only [if_true]
      exact .tup [zv,.bool false] _ rfl (fun i v a hv ha=>by
       match i with
       | 0=>simp at hv ha; subst hv; subst ha; exact hzr
       | 1=>simp at hv ha; subst hv; subst ha; exact .d (.bool _)
       | i+2=>simp at hv)
 simp only [stepI] at h
 split at h
 · rename_i kd i e1 e2
   rw [e2] at hv; rw [e1] at hkv
   split at h
   · rename_i l hH
     split at h
     · rename_i hok
       simp only [mpOk,Bool.and_eq_true,List.all_eq_true] at hok
       obtain ⟨hko,hall⟩:=hok
       obtain ⟨b,es,clock,hβ,hheap,hlen,hes⟩:=hs.hr.ob i _ hH
       generalize hev:a.eval y=vy at hv
       cases hv with
       | map _ b' hb =>
       obtain rfl:b'=b:=by rw [hb] at hβ; cases hβ; rfl
       have hik:=keyOf_isKey hd hk hko hkv.d_inv
       have hrel:∀ (j:Nat) (x:D × A),l[j]?=some x→∃ e,es.toList[j]?=some e∧DR κ.σ e.key x.1∧VR κ e.val x.2:=fun j x hx=>by
        obtain ⟨e,h1,h2,h3⟩:=hes j x hx
        exact ⟨e,by simpa using h1,h2,h3⟩
       have hisk:∀ e ∈ es.toList,IsKey d e.key:=fun e he=>by
        obtain ⟨j,hj,rfl⟩:=List.getElem_of_mem he
        have hj':j < l.length:=by rw [← hlen]; simpa using hj
        obtain ⟨e',h1,h2,-⟩:=hrel j l[j] (List.getElem?_eq_getElem hj')
        rw [List.getElem?_eq_getElem hj] at h1
        cases h1
        exact keyOf_isKey hd hk (hall _ (List.getElem_mem hj')) h2
       rcases findNow_mp hkv.d_inv hko hik (.undef) es.toList l 0 (by simpa using hlen) (fun e he=>hall e he) hisk hrel with ⟨q1,q2,-⟩ | ⟨j,e,a',q1,q2,q3,q4,q5,-⟩
       · rw [q1] at h
         cases h
         rw [← hev]
         exact fin0 es (.inr ⟨b',clock,hev,hheap⟩) kd hkv.d_inv hko q2 _ rfl
       · rw [q1] at h
         cases h
         rw [← hev]
         refine .same (u:=if ok then .tuple #[e.val,.bool true] else e.val) (run_val _ _ _ ?_) hs.hr ?_
         · rw [hev]
           simp [Instr.lookup,run_underlying ht,MapKept.run_getObj_map hheap,run_checkKey hd hik,run_findKey hd q2]
         · cases ok with
           | false=>simpa using q5
           | true =>
             simp only [if_true]
             exact .tup [e.val,.bool true] _ rfl (fun i v a hv ha=>by
              match i with
              | 0=>simp at hv ha; subst hv; subst ha; exact q5
              | 1=>simp at hv ha; subst hv; subst ha; exact .d (.bool _)
              | i+2=>simp at hv)
     · cases h
   · cases h
 · rename_i kd e1 e2
   rw [e2] at hv; rw [e1] at hkv
   split at h
   · rename_i hko
     cases h
     have hev:a.eval y = .map none:=by
      generalize a.eval y=vy at hv
      cases hv with | d h=>cases h; rfl
     exact fin0 #[] (.inl ⟨hev,rfl⟩) kd hkv.d_inv hko rfl _ rfl
   · cases h
 · cases h
theorem mpUpd_core {t kt et:TypeId} {key kd:D} {i:Nat} {l:List (D × A)} {vm vk vv:Value} {va:A} (hr:HR κ H w) (ht:P.underlying t=some (.map kt et)) (hk:primD P kt=some key) (hm:VR κ vm (.map i)) (hkv:DR κ.σ vk kd) (hvv:VR κ vv va) (hH:H[i]?=some (.mp l))
 (hok:mpOk key kd l=true) (hf:va.flat=true):∃ w',(Instr.mapUpdate t vm vk vv).run P w = .ok () w'∧HR κ (H.set i (.mp (mpPut kd va l))) w':=by
 obtain ⟨d,hd⟩:∃ d,P.underlying kt=some d:=by
  cases e:P.underlying kt with
  | none=>simp [primD,e] at hk
  | some d=>exact ⟨d,rfl⟩
 simp only [mpOk,Bool.and_eq_true,List.all_eq_true] at hok
 obtain ⟨hko,hall⟩:=hok
 have hil:i < H.length:=(List.getElem?_eq_some_iff.1 hH).1
 obtain ⟨b,es,clock,hβ,hheap,hlen,hes⟩:=hr.ob i _ hH
 cases hm with
 | map _ b' hb =>
 obtain rfl:b'=b:=by rw [hb] at hβ; cases hβ; rfl
 have hik:=keyOf_isKey hd hk hko hkv
 have hrel:∀ (j:Nat) (x:D × A),l[j]?=some x→∃ e,es.toList[j]?=some e∧DR κ.σ e.key x.1∧VR κ e.val x.2:=fun j x hx=>by
  obtain ⟨e,h1,h2,h3⟩:=hes j x hx
  exact ⟨e,by simpa using h1,h2,h3⟩
 have hisk:∀ e ∈ es.toList,IsKey d e.key:=fun e he=>by
  obtain ⟨j,hj,rfl⟩:=List.getElem_of_mem he
  have hj':j < l.length:=by rw [← hlen]; simpa using hj
  obtain ⟨e',h1,h2,-⟩:=hrel j l[j] (List.getElem?_eq_getElem hj')
  rw [List.getElem?_eq_getElem hj] at h1
  cases h1
  exact keyOf_isKey hd hk (hall _ (List.getElem_mem hj')) h2
 have hfl:=hr.fl i _ hH
 have put:∀ (es':Array MapEntry) (c':Nat),es'.size=(mpPut kd va l).length→(∀ (j:Nat) (x:D × A),(mpPut kd va l)[j]?=some x→∃ e,es'[j]?=some e∧DR κ.σ e.key x.1∧VR κ e.val x.2)→(mpPut kd va l).all (fun e=>e.2.flat)=true →
  HR κ (H.set i (.mp (mpPut kd va l))) { w with heap:=w.heap.setIfInBounds b' (.map es' c') }:=fun es' c' hl hrl hff=>by
  have hlt:b' < w.heap.size:=(Array.getElem?_eq_some_iff.1 hheap).1
  have hne:∀ k,k ≠ b'→(w.heap.setIfInBounds b' (.map es' c'))[k]?=w.heap[k]?:=(heap_set hheap).2
  have hbx:=hr.ex i b' (by rw [hb]; rfl)
  have hrep:=hr.replace i (κ.β i) (.mp (mpPut kd va l)) (w' := { w with heap:=w.heap.setIfInBounds b' (.map es' c') }) hil (Bind.le_refl _) hff (by simp) ⟨hr.below.os,hr.below.tape,hr.below.output,by simpa using hr.below.size,fun k hk=>(hne k (by omega)).trans (hr.below.block k hk)⟩
   (fun k _ hk=>hne k (fun e=>hk (by rw [hb,e]; rfl))) (fun b2 o hb2=>by rw [hb] at hb2 ⊢; cases hb2; exact rfl) (fun b2 hb2 => .inl hb2) ⟨b',es',c',by show upd κ.β i _ i=_; rw [upd_same]; exact hb,(heap_set hheap).1,hl,fun j x hx=>by
    have hsame:(upd κ.β i (κ.β i)) = κ.β:=by
     funext j; by_cases hj:j=i
     · subst hj; rw [upd_same]
     · rw [upd_ne _ _ hj]
    rw [hsame]; exact hrl j x hx⟩
  have hsame:(upd κ.β i (κ.β i)) = κ.β:=by
   funext j; by_cases hj:j=i
   · subst hj; rw [upd_same]
   · rw [upd_ne _ _ hj]
  rw [hsame] at hrep
  exact hrep.2
 rcases findNow_mp hkv hko hik va es.toList l 0 (by simpa using hlen) (fun e he=>hall e he) hisk hrel with ⟨q1,q2,q3⟩ | ⟨j,e,a',q1,q2,q3,q4,q5,q6⟩
 · refine ⟨_,by simp [Instr.mapUpdate,run_underlying ht,MapKept.run_getObj_map hheap,run_checkKey hd hik,run_findKey hd q2,run_setObj_map _ hheap,Result.andThen]; rfl,put _ _ (by rw [q3]; simp [hlen]) (fun j x hx => ?_) ?_⟩
   · rw [q3] at hx
     by_cases hj:j < l.length
     · rw [List.getElem?_append_left hj] at hx
       obtain ⟨e,h1,h2⟩:=hes j x hx
       exact ⟨e,by rw [Array.getElem?_push_lt (by omega)]; rw [← h1]; exact (Array.getElem?_eq_getElem (by omega)).symm,h2⟩
     · rw [List.getElem?_append_right (by omega)] at hx
       have hj0:j - l.length=0:=by
        have:=(List.getElem?_eq_some_iff.1 hx).1
        simp at this; omega
       rw [hj0] at hx
       simp at hx
       subst hx
       have:j=es.size:=by omega
       subst this
       exact ⟨_,Array.getElem?_push_size,hkv,hvv⟩
   · rw [q3]
     simp only [Ob.flat] at hfl
     simp [List.all_append,hf]
     simpa using hfl
 · have hj:es[j]?=some e:=by simpa using q3
   refine ⟨_,by simp [Instr.mapUpdate,run_underlying ht,MapKept.run_getObj_map hheap,run_checkKey hd hik,run_findKey hd q2,hj,q4,run_keyThatStays hik,run_setObj_map _ hheap,Result.andThen]; rfl,put _ _ (by rw [q6]; simp [hlen]) (fun m x hx => ?_) ?_⟩
   · rw [q6] at hx
     by_cases hmj:j=m
     · subst hmj
       have hjl:j < l.length:=by rw [← hlen]; exact (Array.getElem?_eq_some_iff.1 hj).1
       rw [List.getElem?_set_self hjl] at hx
       cases hx
       refine ⟨{ e with key:=vk,val:=vv },?_,hkv,hvv⟩
       simp [Array.getElem?_modify,hj]
     · rw [List.getElem?_set_ne hmj] at hx
       obtain ⟨e',h1,h2⟩:=hes m x hx
       exact ⟨e',by simp [Array.getElem?_modify,hmj,h1],h2⟩
   · rw [q6]
     simp only [Ob.flat,List.all_eq_true] at hfl ⊢
     intro y hy
     rcases List.mem_or_eq_of_mem_set hy with h1 | h1
     · exact hfl y h1
     · subst h1; exact hf
theorem does_mpUpd {t kt et:TypeId} {key:D} {y k v:Operand} {y' k' v':Arg} (hs:SR κ nt fr H a w) (ht:P.underlying t=some (.map kt et)) (hk:primD P kt=some key) (hy:cArg P t y=some y') (hkk:cArg P kt k=some k') (hvv:cArg P et v=some v')
 (h:stepI fr H (.mpUpd key y' k' v')=some (x,H')) :
 Does P (do Instr.mapUpdate t (a.eval y) (a.eval k) (a.eval v); pure .skip) w κ H' x:=by
 have hv:=cArg_sound hy hs
 have hkv:=cArg_sound hkk hs
 have hvr:=cArg_sound hvv hs
 simp only [stepI] at h
 split at h
 · rename_i i kd e1 e2
   rw [e1] at hv; rw [e2] at hkv
   split at h
   · rename_i l hH
     split at h
     · rename_i hok
       cases h
       obtain ⟨w',h1,h2⟩:=mpUpd_core hs.hr ht hk hv hkv.d_inv hvr hH hok.1 hok.2
       exact ⟨undef,w',κ,.inr ⟨by simp only [Sem.run_bind,h1,Result.andThen_ok,Sem.run_pure],rfl⟩,K.le_refl κ,h2,.tup [] [] rfl (by simp)⟩
     · cases h
   · cases h
 · cases h
end
end
section
open Go.RowKit (Below)
theorem step_sound {P:Program} {κ:K} {nt:NT} {fr:Fr} {H H':Hp} {a:Act} {w:World} {x:A} {tok:List Nat} {o:Oper} {i:I} (hc:compI P tok o=some i) (hs:SR κ nt fr H a w) (h:stepI fr H i=some (x,H')) :
 Does P (execOp a.eval o) w κ H' x:=by
 obtain ⟨dst,op,ty,pos,aft,g⟩:=o
 cases op with
 | move y=>exact does_move hs hc h
 | assign y=>exact does_move (pos:=pos) (aft:=aft) (g:=g) (dst:=dst) hs hc h
 | pick c y z =>
   simp only [compI,Option.bind_eq_bind,Option.bind_eq_some_iff,Option.pure_def,Option.some.injEq] at hc
   obtain ⟨c',h1,y',h2,z',h3,rfl⟩:=hc
   exact does_pick hs h1 h2 h3 h
 | alloc t =>
   simp only [compI] at hc
   split at hc
   · split at hc
     · rename_i _ h1
       cases hc
       exact does_allocU hs h1 h
     · cases hc
   · split at hc
     · split at hc
       · rename_i _ h1
         split at hc
         · rename_i hj
           cases hc
           exact does_allocT hs h1 hj h
         · cases hc
       · cases hc
     · simp only [Option.map_eq_some_iff] at hc
       obtain ⟨cs,h1,rfl⟩:=hc
       exact does_alloc hs h1 h
 | box t y =>
   simp only [compI] at hc
   split at hc
   · simp only [Option.map_eq_some_iff] at hc
     obtain ⟨y',h1,rfl⟩:=hc
     exact does_box hs h1 h
   · cases hc
 | load t p =>
   simp only [compI] at hc
   split at hc
   · rename_i d i' hd hi
     split at hc
     · cases hagg:isAggD d with
       | true =>
         rw [hagg] at hc
         simp only [if_true,Option.map_eq_some_iff] at hc
         obtain ⟨p',hp,rfl⟩:=hc
         exact does_loadV hs hd hi hp (by rw [hagg]; exact h)
       | false =>
         rw [hagg] at hc
         simp only [Bool.false_eq_true,if_false,Option.map_eq_some_iff] at hc
         obtain ⟨p',hp,rfl⟩:=hc
         exact does_loadV hs hd hi hp (by rw [hagg]; exact h)
     · cases hagg:isAggD d with
       | true =>
         rw [hagg] at hc
         simp only [if_true,Option.map_eq_some_iff] at hc
         obtain ⟨p',hp,rfl⟩:=hc
         exact does_load hs hd hi hp (by rw [hagg]; exact h)
       | false =>
         rw [hagg] at hc
         simp only [Bool.false_eq_true,if_false,Option.map_eq_some_iff] at hc
         obtain ⟨p',hp,rfl⟩:=hc
         exact does_load hs hd hi hp (by rw [hagg]; exact h)
   · cases hc
 | store t p v =>
   simp only [compI] at hc
   split at hc
   · rename_i i' hi
     simp only [Option.bind_eq_bind,Option.bind_eq_some_iff,Option.pure_def,Option.some.injEq] at hc
     obtain ⟨p',hp,v',hv,rfl⟩:=hc
     exact does_store hs hi hp hv h
   · cases hc
 | nilCheck y =>
   simp only [compI,Option.map_eq_some_iff] at hc
   obtain ⟨y',hy,rfl⟩:=hc
   exact does_nilCheck hs rfl hy h
 | binOp op t y z yt =>
   simp only [compI] at hc
   split at hc
   · simp only [Option.bind_eq_bind,Option.bind_eq_some_iff,Option.pure_def,Option.some.injEq] at hc
     obtain ⟨y',hy,z',hz,rfl⟩:=hc
     exact does_bin hs hy hz h
   · simp only [Option.bind_eq_bind,Option.bind_eq_some_iff,Option.pure_def,Option.some.injEq] at hc
     obtain ⟨y',hy,z',hz,rfl⟩:=hc
     exact does_bin hs hy hz h
   · rename_i ht
     split at hc
     · simp only [Option.bind_eq_bind,Option.bind_eq_some_iff,Option.pure_def,Option.some.injEq] at hc
       obtain ⟨y',hy,z',hz,rfl⟩:=hc
       exact does_beq (neg:=false) rfl hs ht hy hz h
     · simp only [Option.bind_eq_bind,Option.bind_eq_some_iff,Option.pure_def,Option.some.injEq] at hc
       obtain ⟨y',hy,z',hz,rfl⟩:=hc
       exact does_beq (neg:=true) rfl hs ht hy hz h
     · cases hc
   · rename_i e ht
     split at hc
     · simp only [Option.map_eq_some_iff] at hc
       obtain ⟨y',hy,rfl⟩:=hc
       exact does_isNilS (neg:=false) rfl hs ht hy h
     · simp only [Option.map_eq_some_iff] at hc
       obtain ⟨y',hy,rfl⟩:=hc
       exact does_isNilS (neg:=true) rfl hs ht hy h
     · cases hc
   · rename_i e ht
     split at hc
     · simp only [Option.map_eq_some_iff] at hc
       obtain ⟨y',hy,rfl⟩:=hc
       exact does_isNilP (neg:=false) rfl hs ht hy h
     · simp only [Option.map_eq_some_iff] at hc
       obtain ⟨y',hy,rfl⟩:=hc
       exact does_isNilP (neg:=true) rfl hs ht hy h
     · cases hc
   · rename_i fs ht
     split at hc
     · rename_i l hl hp hm
       split at hc
       · simp only [Option.bind_eq_bind,Option.bind_eq_some_iff,Option.pure_def,Option.some.injEq] at hc
         obtain ⟨y',hy,z',hz,rfl⟩:=hc
         exact does_eqA (neg:=false) rfl hs ht hl hp hm hy hz h
       · simp only [Option.bind_eq_bind,Option.bind_eq_some_iff,Option.pure_def,Option.some.injEq] at hc
         obtain ⟨y',hy,z',hz,rfl⟩:=hc
         exact does_eqA (neg:=true) rfl hs ht hl hp hm hy hz h
       · cases hc
     · cases hc
   · cases hc
 | unOp op t y =>
   simp only [compI,Option.map_eq_some_iff] at hc
   obtain ⟨y',hy,rfl⟩:=hc
   exact does_un hs hy h
 | convert s t y =>
   simp only [compI] at hc
   split at hc
   · rename_i k0 k h1 h2
     simp only [Option.map_eq_some_iff] at hc
     obtain ⟨y',hy,rfl⟩:=hc
     exact does_cvt hs h1 h2 hy h
   · rename_i h1 h2
     simp only [Option.map_eq_some_iff] at hc
     obtain ⟨y',hy,rfl⟩:=hc
     exact does_cvtS hs h1 h2 hy h
   · rename_i e h1 h2
     split at hc
     · rename_i he
       simp only [Option.map_eq_some_iff] at hc
       obtain ⟨y',hy,rfl⟩:=hc
       exact does_cvtBS hs h1 he h2 hy h
     · cases hc
   · cases hc
 | makeFunc fn f1 f2 =>
   simp only [compI,Option.bind_eq_bind,Option.bind_eq_some_iff,Option.pure_def,Option.some.injEq] at hc
   obtain ⟨y1,h1,y2,h2,rfl⟩:=hc
   exact does_mkfn hs h1 h2 h
 | fieldAddr s y f =>
   simp only [compI] at hc
   split at hc
   · rename_i fs hfs
     split at hc
     · rename_i fd hfd
       split at hc
       · rename_i i' hi
         split at hc
         · cases hc
         · rename_i hsz
           simp only [Option.map_eq_some_iff] at hc
           obtain ⟨y',hy,rfl⟩:=hc
           exact does_faddr hs hfs hfd hi hsz hy h
       · cases hc
     · cases hc
   · cases hc
 | field s y f =>
   simp only [compI] at hc
   split at hc
   · rename_i fs hfs
     split at hc
     · rename_i fd hfd
       split at hc
       · rename_i d i' hd hi
         cases hagg:isAggD d with
         | true =>
           rw [hagg] at hc
           simp only [if_true,Option.map_eq_some_iff] at hc
           obtain ⟨p',hp,rfl⟩:=hc
           exact does_fld hs hfs hfd hd hi hp (by rw [hagg]; exact h)
         | false =>
           rw [hagg] at hc
           simp only [Bool.false_eq_true,if_false,Option.map_eq_some_iff] at hc
           obtain ⟨p',hp,rfl⟩:=hc
           exact does_fld hs hfs hfd hd hi hp (by rw [hagg]; exact h)
       · cases hc
     · cases hc
   · cases hc
 | indexAddr t y z =>
   simp only [compI] at hc
   split at hc
   · rename_i e ti h1
     split at hc
     · simp only [Option.bind_eq_bind,Option.bind_eq_some_iff,Option.pure_def,Option.some.injEq] at hc
       obtain ⟨y',hy,z',hz,rfl⟩:=hc
       exact does_iaddrV hs h1 hy hz h
     · simp only [Option.bind_eq_bind,Option.bind_eq_some_iff,Option.pure_def,Option.some.injEq] at hc
       obtain ⟨y',hy,z',hz,rfl⟩:=hc
       exact does_iaddr hs h1 hy hz h
   · cases hc
 | index t y z =>
   simp only [compI] at hc
   split at hc
   · rename_i ht
     simp only [Option.bind_eq_bind,Option.bind_eq_some_iff,Option.pure_def,Option.some.injEq] at hc
     obtain ⟨y',hy,z',hz,rfl⟩:=hc
     exact does_sidx hs ht hy hz h
   · rename_i n e ht
     split at hc
     · rename_i d ti hd hti
       split at hc
       · rename_i hb
         simp only [Bool.and_eq_true,Bool.not_eq_true',beq_iff_eq] at hb
         simp only [Option.bind_eq_bind,Option.bind_eq_some_iff,Option.pure_def,Option.some.injEq] at hc
         obtain ⟨y',hy,z',hz,rfl⟩:=hc
         exact does_aidx hs ht hd hti hb.1 hb.2 hy hz h
       · cases hc
     · cases hc
   · cases hc
 | slice t y lo hi mx =>
   simp only [compI] at hc
   split at hc
   · rename_i ht
     simp only [Option.bind_eq_bind,Option.bind_eq_some_iff,Option.pure_def,Option.some.injEq] at hc
     obtain ⟨y',hy,lo',h1,hi',h2,rfl⟩:=hc
     exact does_sslice hs ht hy h1 h2 h
   · rename_i e ht
     split at hc
     · rename_i ti hti
       split at hc
       · split at hc
         · rename_i hi2
           simp only [Option.bind_eq_bind,Option.bind_eq_some_iff,Option.pure_def,Option.some.injEq] at hc
           obtain ⟨y',hy,hi',h2,rfl⟩:=hc
           exact does_cutV hs ht hti hy h2 h
         · rename_i l2
           simp only [Option.bind_eq_bind,Option.bind_eq_some_iff,Option.pure_def,Option.some.injEq] at hc
           obtain ⟨y',hy,lo',h2,rfl⟩:=hc
           exact does_cutL hs ht hti hy h2 h
         · cases hc
       · simp only [Option.bind_eq_bind,Option.bind_eq_some_iff,Option.pure_def,Option.some.injEq] at hc
         obtain ⟨y',hy,lo',h1,hi',h2,mx',h3,rfl⟩:=hc
         exact does_slice hs ht hti hy h1 h2 h3 h
     · cases hc
   · cases hc
 | build t parts =>
   simp only [compI] at hc
   split at hc
   · rename_i fs z hfs hz
     simp only [Option.bind_eq_bind,Option.bind_eq_some_iff,Option.pure_def] at hc
     obtain ⟨ps,hps,hc⟩:=hc
     split at hc
     · rename_i hall
       split at hc
       · simp only [Option.some.injEq] at hc
         subst hc
         simp only [stepI,Option.map_eq_some_iff,Prod.mk.injEq] at h
         obtain ⟨cs,hcs,rfl,rfl⟩:=h
         exact (does_build (x := .agg cs) hs hfs hz hps hall (by simp only [stepI,hcs,Option.map_some])).tokd _
       · simp only [Option.some.injEq] at hc
         subst hc
         exact does_build hs hfs hz hps hall h
     · cases hc
   · rename_i n e z hfs hz
     split at hc
     · rename_i ei hei
       simp only [Option.bind_eq_bind,Option.bind_eq_some_iff,Option.pure_def,Option.some.injEq] at hc
       obtain ⟨ps,hps,rfl⟩:=hc
       exact does_buildA hs hfs hei hz hps h
     · cases hc
   · cases hc
 | buildSlice t n parts =>
   simp only [compI] at hc
   split at hc
   · rename_i e ti h1
     split at hc
     · rename_i hb
       simp only [Bool.and_eq_true,beq_iff_eq,decide_eq_true_eq] at hb
       obtain ⟨⟨⟨⟨b1,b2⟩,b3⟩,b4⟩,b5⟩:=hb
       simp only [Option.bind_eq_bind,Option.bind_eq_some_iff,Option.pure_def] at hc
       obtain ⟨ps,hps,hc⟩:=hc
       split at hc
       · simp only [Option.some.injEq] at hc
         subst hc
         exact does_bsliceT hs h1 b1 b2 b3 b4 b5 hps h
       · split at hc
         · simp only [Option.some.injEq] at hc
           subst hc
           exact does_bsliceM hs h1 b1 b2 b3 b4 b5 hps h
         · split at hc
           · simp only [Option.some.injEq] at hc
             subst hc
             exact does_bsliceV hs h1 b1 b2 b3 b4 b5 hps h
           · simp only [Option.some.injEq] at hc
             subst hc
             exact does_bslice hs h1 b1 b2 b3 b4 b5 hps h
     · cases hc
   · cases hc
 | makeMap t r =>
   cases r with
   | none =>
     simp only [compI,Option.some.injEq] at hc
     subst hc
     exact does_mkMap hs h
   | some r=>simp [compI] at hc
 | lookup t y k ok =>
   simp only [compI] at hc
   split at hc
   · rename_i kt et ht
     split at hc
     · rename_i kd z hk hz
       simp only [Option.bind_eq_bind,Option.bind_eq_some_iff,Option.pure_def,Option.some.injEq] at hc
       obtain ⟨y',hy,k',hkk,rfl⟩:=hc
       exact does_lkp hs ht hk hz hy hkk h
     · cases hc
   · cases hc
 | mapUpdate t y k v =>
   simp only [compI] at hc
   split at hc
   · rename_i kt et ht
     split at hc
     · rename_i kd hk
       simp only [Option.bind_eq_bind,Option.bind_eq_some_iff,Option.pure_def,Option.some.injEq] at hc
       obtain ⟨y',hy,k',hkk,v',hvv,rfl⟩:=hc
       exact does_mpUpd hs ht hk hy hkk hvv h
     · cases hc
   · cases hc
 | makeSlice t l c =>
   simp only [compI] at hc
   split at hc
   · rename_i e ti h1
     split at hc
     · rename_i z hz
       split at hc
       · rename_i hb
         simp only [Bool.and_eq_true,beq_iff_eq,decide_eq_true_eq] at hb
         obtain ⟨⟨⟨b1,b2⟩,b3⟩,b4⟩:=hb
         simp only [Option.bind_eq_bind,Option.bind_eq_some_iff,Option.pure_def,Option.some.injEq] at hc
         obtain ⟨l',hl,c',hc',rfl⟩:=hc
         exact does_mkSl hs h1 hz b1 b3 b4 hl hc' h
       · cases hc
     · cases hc
   · cases hc
 | extract y n =>
   simp only [compI,Option.map_eq_some_iff] at hc
   obtain ⟨y',hy,rfl⟩:=hc
   exact does_ext hs hy h
 | call c =>
   obtain ⟨callee,xs,ts⟩:=c
   simp only [compI] at hc
   cases callee with
   | builtin b =>
     have hres:∀ (s:Sem Value),(∀ cs,builtin b ts ty cs (xs.map a.eval)=(do pure (.value (← s)))) →
      Does P (do pure (.value (← s))) w κ H' x→Does P (execOp a.eval { dst:=dst,op := .call { callee := .builtin b,args:=xs,argTypes:=ts },type:=ty,pos:=pos,after:=aft,guard:=g }) w κ H' x:=by
      rintro s hb ⟨u,w',κ',hr,rest⟩
      refine ⟨u,w',κ',?_,rest⟩
      have:(execOp a.eval { dst:=dst,op := .call { callee := .builtin b,args:=xs,argTypes:=ts },type:=ty,pos:=pos,after:=aft,guard:=g }).run P w=(do pure (Next.value (← s)):Sem Next).run P w:=by
       simp only [execOp,resolve,Sem.run_bind,Sem.run_pure,Result.andThen_ok,invoke]
       rw [hb]; simp
      rw [this]; exact hr
     cases b with
     | len =>
       simp only at hc
       split at hc
       · rename_i t y h0 hx
         split at hc
         · rename_i ht
           simp only [Option.map_eq_some_iff] at hc
           obtain ⟨y',hy,rfl⟩:=hc
           exact hres _ (fun _=>rfl) (does_lenS hs ht h0 hx hy h)
         · rename_i e ht
           simp only [Option.map_eq_some_iff] at hc
           obtain ⟨y',hy,rfl⟩:=hc
           exact hres _ (fun _=>rfl) (does_lenL hs ht h0 hx hy h)
         · cases hc
       · cases hc
     | max =>
       simp only at hc
       split at hc
       · rename_i y z hx
         simp only [Option.bind_eq_bind,Option.bind_eq_some_iff,Option.pure_def,Option.some.injEq] at hc
         obtain ⟨y',hy,z',hz,rfl⟩:=hc
         exact hres (Builtin.max_ ts ty (xs.map a.eval)) (fun _=>rfl) (does_mm (ts:=ts) (ty:=ty) (isMax:=true) hs hx hy hz h)
       · cases hc
     | min =>
       simp only at hc
       split at hc
       · rename_i y z hx
         simp only [Option.bind_eq_bind,Option.bind_eq_some_iff,Option.pure_def,Option.some.injEq] at hc
         obtain ⟨y',hy,z',hz,rfl⟩:=hc
         exact hres (Builtin.min_ ts ty (xs.map a.eval)) (fun _=>rfl) (does_mm (ts:=ts) (ty:=ty) (isMax:=false) hs hx hy hz h)
       · cases hc
     | append =>
       simp only at hc
       split at hc
       · rename_i t u y z hts hxs
         split at hc
         · rename_i e ti h1
           split at hc
           · cases hc
           · rename_i hb
             simp only [Bool.or_eq_true,decide_eq_true_eq,bne_iff_ne,ne_eq,not_or,Decidable.not_not] at hb
             obtain ⟨⟨b1,b2⟩,b3⟩:=hb
             obtain ⟨z0,hz0,hzs⟩:∃ z0,ti.zero=some z0∧z0.cells.size=ti.size:=by
              cases hzz:ti.zero with
              | none=>rw [hzz] at b3; simp at b3
              | some z0=>rw [hzz] at b3; exact ⟨z0,rfl,by simpa using b3⟩
             split at hc
             · rename_i eu hu
               split at hc
               · split at hc
                 · simp only [Option.bind_eq_bind,Option.bind_eq_some_iff,Option.pure_def,Option.some.injEq] at hc
                   obtain ⟨y',hy,z',hz,rfl⟩:=hc
                   exact hres _ (fun _=>rfl) (does_appVV hs hts hxs h1 hu hz0 hzs (by omega) hy hz h)
                 · simp only [Option.bind_eq_bind,Option.bind_eq_some_iff,Option.pure_def,Option.some.injEq] at hc
                   obtain ⟨y',hy,z',hz,rfl⟩:=hc
                   exact hres _ (fun _=>rfl) (does_appV hs hts hxs h1 hu hz0 hzs (by omega) hy hz h)
               · simp only [Option.bind_eq_bind,Option.bind_eq_some_iff,Option.pure_def,Option.some.injEq] at hc
                 obtain ⟨y',hy,z',hz,rfl⟩:=hc
                 exact hres _ (fun _=>rfl) (does_app hs hts hxs h1 hu hz0 hzs (by omega) hy hz h)
             · rename_i hu
               split at hc
               · rename_i hb1
                 simp only [Bool.and_eq_true,beq_iff_eq] at hb1
                 simp only [Option.bind_eq_bind,Option.bind_eq_some_iff,Option.pure_def,Option.some.injEq] at hc
                 obtain ⟨y',hy,z',hz,rfl⟩:=hc
                 exact hres _ (fun _=>rfl) (does_appS hs hts hxs h1 hu hz0 hzs hb1.1 hb1.2 hy hz h)
               · cases hc
             · cases hc
         · cases hc
       · cases hc
     | _=>cases hc
   | value f =>
     cases f with
     | func f =>
       simp only at hc
       split at hc
       · split at hc
         all_goals
          simp only [Option.map_eq_some_iff] at hc
          obtain ⟨ys,-,rfl⟩:=hc
          cases h
       · cases hc
     | _ =>
       simp only [Option.bind_eq_bind,Option.bind_eq_some_iff,Option.pure_def,Option.some.injEq] at hc
       obtain ⟨y,-,ys,-,rfl⟩:=hc
       cases h
   | invoke r m=>cases hc
 | _=>cases hc
end
section
open Go.RowKit (Below)
inductive C where
 | skip
 | ops (l:List IOp) (draw:Bool)
 | both (a b:C)
 | seq (a b:C)
 | cond (c:Arg) (a b:C)
 | blk (id:Nat) (c:C)
 | loop (c:C)
 | exit (id:Nat)
 | ret
 | bad
 | any (l:List IOp) (w:List (List Nat))
 deriving Inhabited
def guardOf (ops:Array Oper):Option (Nat × Bool)→Option (Option (Nat × Bool))
 | none=>some none
 | some (j,want)=>((ops[j]?).bind (·.dst)).map fun s=>some (s,want)
def badOp:IOp := { dst:=none,g:=none,i := .callv (.c .nilf) [] }
def compO (P:Program) (nt:Nat) (tok:List Nat) (ops:Array Oper) (o:Oper):IOp :=
 match guardOf ops o.guard,compI P tok o with
 | some g,some i=>if (o.dst.map fun d=>decide (d < nt)).getD true then { dst:=o.dst,g:=g,i:=i } else badOp
 | _,_=>badOp
def Arg.slots:Arg→List Nat
 | .t s=>[s]
 | .c _=>[]
def optSlots:Option Arg→List Nat
 | some x=>x.slots
 | none=>[]
def I.slots:I→List Nat
 | .mv x | .box _ _ x | .load _ _ x | .nilCheck x | .isNilS _ x | .isNilP _ x | .un _ x | .cvt _ x | .cvtS x | .cvtBS x | .faddr _ x | .fld _ _ _ x | .ext x _ | .lenS x | .lenL x=>x.slots
 | .nilT _ _ | .nilW _ _ | .alloc _ _ | .allocT .. | .allocU ..=>[]
 | .pick a b c=>a.slots++b.slots++c.slots
 | .store _ x y | .bin _ x y | .beq _ x y | .eqA _ _ x y | .iaddr _ x y | .sidx x y | .aidx _ x y | .mm _ x y | .app _ _ _ x y | .appS _ x y=>x.slots++y.slots
 | .sslice x l h=>x.slots++optSlots l++optSlots h
 | .slice _ x l h m=>x.slots++optSlots l++optSlots h++optSlots m
 | .build _ ps | .buildT _ _ ps=>ps.flatMap fun x=>x.2.2.slots
 | .bslice _ ps | .bsliceT _ _ ps | .bsliceV _ _ ps | .bsliceM _ ps=>ps.flatMap Arg.slots
 | .mkSl _ _ _ x y | .appV _ _ _ x y | .appVV _ _ _ x y | .cutV _ x y | .cutL _ x y | .iaddrV _ x y | .lkp _ _ _ _ x y=>x.slots++y.slots
 | .loadV _ _ x=>x.slots
 | .mkMap=>[]
 | .mpUpd _ x k v=>x.slots++k.slots++v.slots
 | .mkfn _ a b=>a.flatMap Arg.slots++b.flatMap Arg.slots
 | .call _ l | .callE _ l=>l.flatMap Arg.slots
 | .callv f l=>f.slots++l.flatMap Arg.slots
def IOp.reads (o:IOp):List Nat:=o.i.slots++(match o.g with | some (s,_)=>[s] | none=>[])
def I.cls:I→Nat
 | .load .. | .iaddr .. | .lkp .. | .iaddrV .. | .loadV .. | .cutL ..=>1
 | .nilT .. | .nilW .. | .mkMap | .alloc .. | .allocT .. | .allocU .. | .box .. | .bsliceT .. | .bsliceV .. | .buildT .. | .bsliceM .. | .mkSl .. | .app .. | .appV .. | .appS ..=>2
 | .call .. | .callv ..=>3
 | .store .. | .mpUpd .. | .callE .. | .appVV ..=>4
 | _=>0
def I.vread:I→Bool
 | .iaddrV .. | .loadV .. | .cutL ..=>true
 | _=>false
def I.vapp:I→Bool
 | .appV ..=>true
 | _=>false
def clash (a b:Nat):Bool :=
 (a == 4 && b != 0) || (b == 4 && a != 0) || (a == 2 && (b == 2 || b == 3)) || (b == 2 && a == 3)
def tied (a b:IOp):Bool :=
 clash a.i.cls b.i.cls || (match a.dst with | some d=>b.reads.contains d || b.dst == some d | none=>false) || (match b.dst with | some d=>a.reads.contains d | none=>false)
def drawOk (l:List IOp) (ops:Array Oper) (bf:Array Nat):Bool :=
 !((l.any fun o=>o.i.vread) && (l.any fun o=>o.i.vapp)) &&
 (List.range ops.size).all fun j =>
  ((ops.getD j default).after.all fun e => !Region.binds .any e || decide (e.on < j)) &&
  (List.range j).all fun i => !tied (l.getD i badOp) (l.getD j badOp) || (bf.getD j 0).testBit i
def waits (o:Oper) (i:Nat):Bool:=o.after.any fun e=>Region.binds .any e && e.on == i
def slotTied (a b:IOp):Bool :=
 (match a.dst with | some d=>b.reads.contains d || b.dst == some d | none=>false) || (match b.dst with | some d=>a.reads.contains d | none=>false)
def firstOk (l:List IOp) (ops:Array Oper) (listed:Array Bool) (i:Nat):Bool :=
 (l.getD i badOp).i.cls == 0 && (l.getD i badOp).g.isNone && (List.range ops.size).all fun j=>j == i || listed.getD j false || waits (ops.getD j default) i || !slotTied (l.getD i badOp) (l.getD j badOp)
def alts:List C→C
 | [] => .skip
 | [c]=>c
 | c :: r => .both c (alts r)
def orders (l:List IOp) (ops:Array Oper):Nat→Nat→Array Bool→C
 | 0,_,listed=>if (Region.ready .any ops listed).isEmpty then .skip else .bad
 | n + 1, b, listed =>
   let r:=Region.ready .any ops listed
   if r.isEmpty then .skip else
   match r.find? (firstOk l ops listed) with
   | some i => .seq (.ops [l.getD i badOp] false) (orders l ops n b (listed.setIfInBounds i true))
   | none=>if b < r.length then .bad else alts (r.map fun i => .seq (.ops [l.getD i badOp] false) (orders l ops n (b / r.length) (listed.setIfInBounds i true)))
def waitsL (ops:Array Oper):List (List Nat):=ops.toList.map fun o=>(o.after.toList.filter (Region.binds .any)).map (·.on)
def readyL (w:List (List Nat)) (S:List Bool):List Nat:=(List.range w.length).filter fun i => !S.getD i true && (w.getD i []).all fun j=>S.getD j false
def compC (P:Program) (nt:Nat) (tok:List Nat):Code→C
 | .skip => .skip
 | .region _ ops false => .ops (ops.toList.map (compO P nt tok ops)) false
 | .region id ops true => if drawOk (ops.toList.map (compO P nt tok ops)) ops (Region.before ops) && P.follows .mixedOrders && !tok.contains 4000000 then .ops (ops.toList.map (compO P nt tok ops)) true
   else if P.follows .mixedOrders && tok.contains (10000000+id) then .any (ops.toList.map (compO P nt tok ops)) (waitsL ops)
   else if P.follows .mixedOrders then orders (ops.toList.map (compO P nt tok ops)) ops ops.size 120 (Array.replicate ops.size false) else .bad
 | .seq a b => .seq (compC P nt tok a) (compC P nt tok b)
 | .cond c a b => match cArg P 0 c with
   | some c' => .cond c' (compC P nt tok a) (compC P nt tok b)
   | none => .bad
 | .block id c => .blk id (compC P nt tok c)
 | .loop c => .loop (compC P nt tok c)
 | .exit id => .exit id
 | .ret => .ret
 | _ => .bad
def ACall (P:Program) (f:FuncId) (args:List A) (H:Hp) (Q:A→Hp→Prop):Prop :=
 ∀ (κ : K) (w : World) (vs : List Value), HR κ H w → vs.length = args.length → (∀ (i : Nat) (v : Value) (a : A), vs[i]? = some v → args[i]? = some a → VR κ v a) →
   Calls P f vs.toArray w fun e w'=>∃ v κ' x H',e = .returned v ∧ κ.le κ'∧HR κ' H' w'∧VR κ' v x∧Q x H'
theorem ACall.mono {P:Program} {f:FuncId} {args:List A} {H:Hp} {Q Q':A→Hp→Prop} (h:ACall P f args H Q) (hq:∀ x H',Q x H'→Q' x H'):ACall P f args H Q' :=
 fun κ w vs hr hl hv=>(h κ w vs hr hl hv).mono fun _ _ ⟨v,κ',x,H',h1,h2,h3,h4,h5⟩=>⟨v,κ',x,H',h1,h2,h3,h4,hq x H' h5⟩
def runI (P:Program) (fr:Fr) (H:Hp) (i:I) (K:A→Hp→Prop):Prop :=
 match i with
 | .call f args | .callE f args=>ACall P f (args.map (Arg.ev fr)) H K
 | .callv f args => match f.ev fr with
   | .d (.fn g)=>callOk P g=true∧ACall P g (args.map (Arg.ev fr)) H K
   | .fn (.func g) first cap=>callOk P g=true∧ACall P g (first++args.map (Arg.ev fr)++cap) H K
   | _=>False
 | i => match stepI fr H i with
   | some (v,H')=>K v H'
   | none=>False
def AGd (x:A) (fr:Fr) (b:Bool) (T F:Fr→Prop):Prop :=
 match x with
 | .d (.bool c)=>if c=b then T fr else F fr
 | .tup []=>F fr
 | _=>False
def AOps (P:Program):List IOp→(Fr→Hp→Prop)→Fr→Hp→Prop
 | [],K,fr,H=>K fr H
 | o :: r, K, fr, H =>
   match o.g with
   | none=>runI P fr H o.i fun v H'=>AOps P r K (fr.put o.dst v) H'
   | some (s,b)=>AGd (fr s) fr b (fun fr=>runI P fr H o.i fun v H'=>AOps P r K (fr.put o.dst v) H') (fun fr=>AOps P r K (fr.put o.dst (.tup [])) H)
def runD (P:Program) (fr:Fr) (H:Hp) (i:I) (K:A→Hp→Prop):Prop :=
 match i with
 | .call f args=>∃ v,ACall P f (args.map (Arg.ev fr)) H (fun v' H'=>v'=v∧H'=H)∧K v H
 | .callE f args=>∃ v H1,ACall P f (args.map (Arg.ev fr)) H (fun v' H'=>v'=v∧H'=H1)∧K v H1
 | .callv f args => match f.ev fr with
   | .d (.fn g)=>callOk P g=true∧∃ v,ACall P g (args.map (Arg.ev fr)) H (fun v' H'=>v'=v∧H'=H)∧K v H
   | .fn (.func g) first cap=>callOk P g=true∧∃ v,ACall P g (first++args.map (Arg.ev fr)++cap) H (fun v' H'=>v'=v∧H'=H)∧K v H
   | _=>False
 | i => match stepI fr H i with
   | some (v,H')=>K v H'
   | none=>False
def ADraw (P:Program):List IOp→(Fr→Hp→Prop)→Fr→Hp→Prop
 | [],K,fr,H=>K fr H
 | o :: r, K, fr, H =>
   match o.g with
   | none=>runD P fr H o.i fun v H'=>ADraw P r K (fr.put o.dst v) H'
   | some (s,b)=>AGd (fr s) fr b (fun fr=>runD P fr H o.i fun v H'=>ADraw P r K (fr.put o.dst v) H') (fun fr=>ADraw P r K (fr.put o.dst (.tup [])) H)
inductive Ex where
 | normal
 | exit (id:Nat)
 | ret
def Ex.then (K:Fr→Hp→Prop) (Q:Ex→Fr→Hp→Prop):Ex→Fr→Hp→Prop
 | .normal,fr,H=>K fr H
 | e,fr,H=>Q e fr H
def Ex.blk (id:Nat) (Q:Ex→Fr→Hp→Prop):Ex→Fr→Hp→Prop
 | .exit i,fr,H=>if i=id then Q .normal fr H else Q (.exit i) fr H
 | e,fr,H=>Q e fr H
def ABr (x:A) (T F:Prop):Prop :=
 match x with
 | .d (.bool c)=>if c=true then T else F
 | _=>False
def Again (m:Nat) (J:Fr→Hp→Prop) (μ:Fr→Hp→Nat) (n:Nat) (fr:Fr) (H:Hp):Prop :=
 ∃ k,m≤k∧k≤H.length∧J (fr.clr k) (Hp.cut k H) ∧ μ (fr.clr k) (Hp.cut k H) < n
def AWp (P:Program) (n0:Nat):C→(Ex→Fr→Hp→Prop)→Fr→Hp→Prop
 | .skip,Q,fr,H=>Q .normal fr H
 | .ops l false,Q,fr,H=>AOps P l (Q .normal) fr H
 | .ops l true,Q,fr,H=>ADraw P l (Q .normal) fr H
 | .both a b,Q,fr,H=>AWp P n0 a Q fr H∧AWp P n0 b Q fr H
 | .seq a b,Q,fr,H=>AWp P n0 a (Ex.then (AWp P n0 b Q) Q) fr H
 | .cond c a b,Q,fr,H=>ABr (c.ev fr) (AWp P n0 a Q fr H) (AWp P n0 b Q fr H)
 | .blk id c,Q,fr,H=>AWp P n0 c (Ex.blk id Q) fr H
 | .loop c,Q,fr,H=>∃ (m:Nat) (J:Fr→Hp→Prop) (μ:Fr→Hp→Nat),n0≤m∧m≤H.length∧J (fr.clr m) (Hp.cut m H) ∧
  ∀ fr H,J fr H→AWp P n0 c (Ex.then (Again m J μ (μ fr H)) Q) fr H
 | .exit id,Q,fr,H=>Q (.exit id) fr H
 | .ret,Q,fr,H=>Q .ret fr H
 | .bad,_,_,_=>False
 | .any l w,Q,fr,H=>∃ Inv:List Bool→Fr→Hp→Prop,Inv (List.replicate w.length false) fr H ∧
  ∀ (S:List Bool) (fr:Fr) (H:Hp),S.length=w.length→Inv S fr H→(readyL w S=[]→Q .normal fr H)∧∀ i ∈ readyL w S,AOps P [l.getD i badOp] (Inv (S.set i true)) fr H
def ExR:Exit→Ex→Prop
 | .normal,.normal=>True
 | .exit i,.exit j=>i=j
 | .ret,.ret=>True
 | _,_=>False
def Post (κ0:K) (nt:NT) (Q:Ex→Fr→Hp→Prop):Exit→Act→World→Prop :=
 fun e a w=>∃ κ fr H e',ExR e e' ∧ κ0.le κ∧SR κ nt fr H a w∧Q e' fr H
theorem stepI_runI {P:Program} {fr:Fr} {H:Hp} {i:I} {K:A→Hp→Prop} (h:runI P fr H i K):(∃ f l,i = .call f l∨i = .callE f l)∨(∃ f l,i = .callv f l)∨∃ v H',stepI fr H i=some (v,H')∧K v H':=by
 cases i with
 | call f l=>exact .inl ⟨f,l,.inl rfl⟩
 | callE f l=>exact .inl ⟨f,l,.inr rfl⟩
 | callv f l=>exact .inr (.inl ⟨f,l,rfl⟩)
 | _ =>
   refine .inr (.inr ?_)
   simp only [runI] at h
   split at h
   · rename_i v H' e; exact ⟨v,H',e,h⟩
   · exact h.elim
theorem callFunc_ok {P:Program} {f:FuncId} (h:callOk P f=true) (args:Array Value) (w:World):(callFunc f args).run P w = .ok (.enter f args) w:=by
 unfold callOk at h
 split at h
 · rename_i fn hf
   simp only [Bool.and_eq_true,Bool.not_eq_true'] at h
   obtain ⟨h1,h2⟩:=h
   have h1':fn.body.isNone=false:=by cases hb:fn.body<;>simp_all
   simp only [callFunc,Sem.run_bind,run_program,Result.andThen_ok,hf,h2,h1',Bool.false_eq_true,if_false,Sem.run_pure]
 · cases h
theorem cArgs_sound {P:Program} {ts:Array TypeId} {xs:Array Operand} {ys:List Arg} (h:cArgs P ts xs=some ys) {κ:K} {nt:NT} {fr:Fr} {H:Hp} {a:Act} {w:World} (hs:SR κ nt fr H a w) :
 (xs.map a.eval).toList.length=ys.length∧∀ (i:Nat) (v:Value) (b:A),(xs.map a.eval).toList[i]?=some v→(ys.map (Arg.ev fr))[i]?=some b→VR κ v b:=by
 unfold cArgs at h
 split at h
 · rename_i hsz
   obtain ⟨h1,h2⟩:=args_sound hs _ _ h
   have hl:(xs.toList.zip ts.toList).length=xs.size:=by simp; omega
   have hm:(xs.toList.zip ts.toList).map (fun x=>a.eval x.1)=(xs.map a.eval).toList:=by
    rw [Array.toList_map,← List.map_fst_zip (l₁:=xs.toList) (l₂:=ts.toList) (by simp; omega),List.map_map]
    simp only [Function.comp_def]
    rw [List.map_fst_zip (by simp; omega)]
   rw [hm] at h2
   exact ⟨by rw [← h1,hl]; simp,h2⟩
 · cases h
theorem compI_call {P:Program} {tok:List Nat} {o:Oper} {f:FuncId} {l:List Arg} (hc:compI P tok o=some (.call f l)∨compI P tok o=some (.callE f l)) :
 ∃ xs ts,o.op = .call { callee := .value (.func f),args:=xs,argTypes:=ts }∧callOk P f=true∧cArgs P ts xs=some l:=by
 obtain ⟨dst,op,ty,pos,aft,g⟩:=o
 cases op with
 | call c =>
   obtain ⟨callee,xs,ts⟩:=c
   simp only [compI] at hc
   cases callee with
   | builtin b =>
     cases b<;>simp only at hc<;>(try (repeat' split at hc))<;>simp [Option.bind_eq_some_iff] at hc
   | value x =>
     cases x with
     | func f' =>
       simp only at hc
       split at hc
       · rename_i hok
         have:∃ ys,cArgs P ts xs=some ys∧f'=f∧ys=l:=by
          split at hc
          · simpa [Option.map_eq_some_iff] using hc
          · simpa [Option.map_eq_some_iff] using hc
         obtain ⟨ys,hys,rfl,rfl⟩:=this
         exact ⟨xs,ts,rfl,hok,hys⟩
       · simp at hc
     | _=>simp [Option.bind_eq_some_iff] at hc
   | invoke r m=>simp at hc
 | _=>simp only [compI] at hc<;>(try (repeat' split at hc))<;>simp [Option.bind_eq_some_iff] at hc
theorem compI_callv {P:Program} {tok:List Nat} {o:Oper} {f:Arg} {l:List Arg} (hc:compI P tok o=some (.callv f l)) :
 ∃ x xs ts,o.op = .call { callee := .value x,args:=xs,argTypes:=ts }∧cArg P 0 x=some f∧cArgs P ts xs=some l:=by
 obtain ⟨dst,op,ty,pos,aft,g⟩:=o
 cases op with
 | call c =>
   obtain ⟨callee,xs,ts⟩:=c
   simp only [compI] at hc
   cases callee with
   | builtin b =>
     cases b<;>simp only at hc<;>(try (repeat' split at hc))<;>simp [Option.bind_eq_some_iff] at hc
   | value x =>
     cases x with
     | func f' =>
       simp only at hc
       split at hc
       · split at hc<;>simp at hc
       · cases hc
     | _ =>
       simp only [Option.bind_eq_bind,Option.bind_eq_some_iff,Option.pure_def,Option.some.injEq,I.callv.injEq] at hc
       obtain ⟨y,hy,ys,hys,rfl,rfl⟩:=hc
       exact ⟨_,xs,ts,rfl,hy,hys⟩
   | invoke r m=>cases hc
 | _=>simp only [compI] at hc<;>(try (repeat' split at hc))<;>simp [Option.bind_eq_some_iff] at hc
theorem get_append3 {α:Type} (a b c:List α) (i:Nat):(a++b++c)[i]?=if i < a.length then a[i]? else if i < a.length+b.length then b[i - a.length]? else c[i - a.length - b.length]?:=by
 by_cases h1:i < a.length
 · rw [if_pos h1,List.append_assoc,List.getElem?_append_left h1]
 · rw [if_neg h1]
   by_cases h2:i < a.length+b.length
   · rw [if_pos h2,List.append_assoc,List.getElem?_append_right (by omega),List.getElem?_append_left (by omega)]
   · rw [if_neg h2,List.getElem?_append_right (by simp; omega)]
     congr 1
     simp; omega
theorem map_arr (f:Operand→Value) (xs:Array Operand):xs.map f=(xs.toList.map f).toArray:=by rw [← List.map_toArray,Array.toArray_toList]
def EntersR (P:Program) (fr:Fr) (i:I) (R:FuncId→List A→Prop):Prop :=
 match i with
 | .call f args | .callE f args=>R f (args.map (Arg.ev fr))
 | .callv f args => match f.ev fr with
   | .d (.fn g)=>callOk P g=true∧R g (args.map (Arg.ev fr))
   | .fn (.func g) first cap=>callOk P g=true∧R g (first++args.map (Arg.ev fr)++cap)
   | _=>False
 | _=>False
theorem enters_sound {P:Program} {κ:K} {nt:NT} {fr:Fr} {H:Hp} {a:Act} {w:World} {tok:List Nat} {o:Oper} {i:I} {R:FuncId→List A→Prop}
 (hc:compI P tok o=some i) (hs:SR κ nt fr H a w) (h:EntersR P fr i R) :
 ∃ (f:FuncId) (vs:List Value) (ars:List A),(execOp a.eval o).run P w = .ok (.enter f vs.toArray) w∧vs.length=ars.length∧(∀ (i:Nat) (v:Value) (b:A),vs[i]?=some v→ars[i]?=some b→VR κ v b)∧R f ars:=by
 cases i with
 | call f l =>
   obtain ⟨xs,ts,hop,hok,hargs⟩:=compI_call (.inl hc)
   obtain ⟨dst,op,ty,pos,aft,g⟩:=o
   simp only at hop
   subst hop
   obtain ⟨h1,h2⟩:=cArgs_sound hargs hs
   refine ⟨f,(xs.map a.eval).toList,_,?_,by rw [h1]; simp,h2,h⟩
   simp only [execOp,resolve,Act.eval,Deferred.ofValue,Sem.run_bind,Sem.run_pure,Result.andThen_ok,invoke]
   rw [callFunc_ok hok]
   simp [map_arr]
 | callE f l =>
   obtain ⟨xs,ts,hop,hok,hargs⟩:=compI_call (.inr hc)
   obtain ⟨dst,op,ty,pos,aft,g⟩:=o
   simp only at hop
   subst hop
   obtain ⟨h1,h2⟩:=cArgs_sound hargs hs
   refine ⟨f,(xs.map a.eval).toList,_,?_,by rw [h1]; simp,h2,h⟩
   simp only [execOp,resolve,Act.eval,Deferred.ofValue,Sem.run_bind,Sem.run_pure,Result.andThen_ok,invoke]
   rw [callFunc_ok hok]
   simp [map_arr]
 | callv f l =>
   obtain ⟨x,xs,ts,hop,hx,hargs⟩:=compI_callv hc
   obtain ⟨dst,op,ty,pos,aft,g⟩:=o
   simp only at hop
   subst hop
   obtain ⟨h1,h2⟩:=cArgs_sound hargs hs
   have hv:=cArg_sound hx hs
   simp only [EntersR] at h
   split at h
   · rename_i g e
     rw [e] at hv
     refine ⟨g,(xs.map a.eval).toList,_,?_,by rw [h1]; simp,h2,h.2⟩
     simp only [execOp,resolve,hv.fn_inv,Deferred.ofValue,Sem.run_bind,Sem.run_pure,Result.andThen_ok,invoke]
     rw [callFunc_ok h.1]
     simp [map_arr]
   · rename_i g first cap e
     rw [e] at hv
     generalize hev:a.eval x=v at hv
     cases hv with
     | fn _ vs1 vs2 _ _ hl1 hl2 p1 p2 =>
       refine ⟨g,vs1++(xs.map a.eval).toList++vs2,_,?_,by simp only [List.length_append,hl1,hl2,h1,List.length_map],fun i u b hu hb => ?_,h.2⟩
       · simp only [execOp,resolve,hev,Deferred.ofValue,Sem.run_bind,Sem.run_pure,Result.andThen_ok,invoke]
         rw [callFunc_ok h.1]
         simp
       · rw [get_append3] at hu hb
         rw [List.length_map,← h1,← hl1] at hb
         split at hu
         · rename_i hi; rw [if_pos hi] at hb; exact p1 i u b hu hb
         · rename_i hi
           rw [if_neg hi] at hb
           split at hu
           · rename_i hi2; rw [if_pos hi2] at hb; exact h2 _ u b hu hb
           · rename_i hi2; rw [if_neg hi2] at hb; exact p2 _ u b hu hb
   · exact h.elim
 | _=>exact h.elim
theorem op_sound {P:Program} {κ0 κ:K} {nt:NT} {fr:Fr} {H:Hp} {a:Act} {w:World} {tok:List Nat} {o:Oper} {i:I} {K:A→Hp→Prop} {next:Act→World→Prop} {Q:Exit→Act→World→Prop}
 (hc:compI P tok o=some i) (hd:∀ x,o.dst=some x→x < nt) (h0 : κ0.le κ) (hs:SR κ nt fr H a w) (h:runI P fr H i K)
 (hn:∀ κ' v H' u w',κ0.le κ'→SR κ' nt (fr.put o.dst v) H' (a.put o.dst u) w'→K v H'→next (a.put o.dst u) w'):o.wp P a w next Q:=by
 unfold Oper.wp
 have call:EntersR P fr i (fun f ars=>ACall P f ars H K)→o.upon P a next Q ((execOp a.eval o).run P w):=by
  intro he
  obtain ⟨f,vs,ars,hrun,hl,hv,hcall⟩:=enters_sound hc hs he
  rw [hrun,Oper.upon_enter]
  refine (hcall κ w vs hs.hr hl hv).mono ?_
  rintro e w' ⟨v,κ',x,H',rfl,h1,h2,h3,h4⟩
  exact hn κ' x H' v w' (h0.trans h1) (hs.put h1 h2 hd h3) h4
 rcases stepI_runI h with ⟨f,l,rfl | rfl⟩ | ⟨f,l,rfl⟩ | ⟨v,H',hst,hk⟩
 · exact call h
 · exact call h
 · exact call h
 · obtain ⟨u,w',κ',hr,h1,h2,h3⟩:=step_sound hc hs hst
   rcases hr with hr | ⟨hr,rfl⟩
   · rw [hr,Oper.upon_value]; exact hn κ' v H' u w' (h0.trans h1) (hs.put h1 h2 hd h3) hk
   · rw [hr,Oper.upon_skip]; exact hn κ' v H' undef w' (h0.trans h1) (hs.put h1 h2 hd h3) hk
theorem compO_spec {P:Program} {nt:Nat} {tok:List Nat} {ops:Array Oper} {o:Oper}:compO P nt tok ops o=badOp ∨
 ∃ g i,guardOf ops o.guard=some g∧compI P tok o=some i∧(∀ x,o.dst=some x→x < nt)∧compO P nt tok ops o = { dst:=o.dst,g:=g,i:=i }:=by
 unfold compO
 split
 · rename_i g i hg hi
   split
   · rename_i hd
     exact .inr ⟨g,i,hg,hi,fun x hx=>by rw [hx] at hd; simpa using hd,rfl⟩
   · exact .inl rfl
 · exact .inl rfl
def tmpIs (t:Array Value) (s:Nat) (b:Bool):Bool:=match t[s]? with | some (.bool c)=>c == b | _=>false
theorem wanted_some {ops:Array Oper} {o:Oper} {s:Nat} {b:Bool} (hg:guardOf ops o.guard=some (some (s,b))) (tmps:Array Value) :
 Region.wanted o (yielded ops tmps)=tmpIs tmps s b:=by
 unfold tmpIs
 unfold guardOf at hg
 split at hg
 · cases hg
 · rename_i j want e
   simp only [Option.map_eq_some_iff,Option.some.injEq,Prod.mk.injEq] at hg
   obtain ⟨s',hs',rfl,rfl⟩:=hg
   simp only [Region.wanted,e,yielded,hs',Option.bind_some]
   cases ht:tmps[s']? with
   | none=>rfl
   | some v=>cases v<;>rfl
theorem wanted_none {ops:Array Oper} {o:Oper} (hg:guardOf ops o.guard=some none) (y:Nat→Option Bool):Region.wanted o y=true:=by
 unfold guardOf at hg
 split at hg
 · rename_i e; simp [Region.wanted,e]
 · simp only [Option.map_eq_some_iff] at hg
   obtain ⟨_,_,h⟩:=hg
   cases h
theorem guard_sound {κ:K} {nt:NT} {fr:Fr} {H:Hp} {a:Act} {w:World} (hs:SR κ nt fr H a w) {s:Nat} {b:Bool} {T F:Fr→Prop} (h:AGd (fr s) fr b T F) :
 (tmpIs a.tmps s b=true∧T fr)∨(tmpIs a.tmps s b=false∧F fr):=by
 unfold tmpIs
 have hv:=hs.vr s
 unfold AGd at h
 split at h
 · rename_i c e
   rw [e] at hv
   have hget:a.tmps[s]?=some (.bool c):=by
    have:=hv.bool_inv
    rw [Array.getD_eq_getD_getElem?] at this
    cases ht:a.tmps[s]? with
    | none=>rw [ht] at this; cases this
    | some v=>rw [ht] at this; simpa using this
   rw [hget]
   split at h
   · rename_i hcb; exact .inl ⟨by simpa using hcb,h⟩
   · rename_i hcb; exact .inr ⟨by simpa using hcb,h⟩
 · rename_i e
   rw [e] at hv
   refine .inr ⟨?_,h⟩
   generalize hx:a.tmps.getD s undef=v at hv
   cases hv with
   | tup vs _ hl _ =>
     have:vs=[]:=List.eq_nil_of_length_eq_zero (by simpa using hl)
     subst this
     rw [Array.getD_eq_getD_getElem?] at hx
     cases ht:a.tmps[s]? with
     | none=>rfl
     | some u=>rw [ht] at hx; simp at hx; subst hx; rfl
 · exact h.elim
theorem ops_sound {P:Program} {κ0:K} {nt:NT} {tok:List Nat} {ops:Array Oper} {K:Fr→Hp→Prop} {Q:Exit→Act→World→Prop} (hK:∀ κ fr H a w,κ0.le κ→SR κ nt fr H a w→K fr H→Q .normal a w) :
 ∀ (l:List Oper) (κ:Zam.K) (fr:Fr) (H:Hp) (a:Act) (w:World),κ0.le κ→SR κ nt fr H a w→AOps P (l.map (compO P nt tok ops)) K fr H→wpList P ops Q l a w:=by
 intro l
 induction l with
 | nil=>intro κ fr H a w h0 hs h; exact hK κ fr H a w h0 hs h
 | cons o l ih =>
   intro κ fr H a w h0 hs h
   simp only [List.map_cons,AOps] at h
   rcases compO_spec (P:=P) (nt:=nt) (tok:=tok) (ops:=ops) (o:=o) with hb | ⟨g,i,hg,hi,hd,hcomp⟩
   · rw [hb] at h; simp [badOp,runI,Arg.ev] at h
   · rw [hcomp] at h
     simp only at h
     have step:∀ fr,SR κ nt fr H a w→runI P fr H i (fun v H'=>AOps P (l.map (compO P nt tok ops)) K (fr.put o.dst v) H')→o.wp P a w (wpList P ops Q l) Q:=fun fr hs h =>
      op_sound hi hd h0 hs h (fun κ' v H' u w' h0' hs' hk=>ih κ' _ _ _ _ h0' hs' hk)
     cases g with
     | none =>
       simp only at h
       unfold wpList
       rw [if_pos (wanted_none hg _)]
       exact .inl (step fr hs h)
     | some sb =>
       obtain ⟨s,b⟩:=sb
       simp only at h
       unfold wpList
       rw [wanted_some hg]
       rcases guard_sound hs h with ⟨h1,h2⟩ | ⟨h1,h2⟩
       · rw [h1]; simp only [if_true]; exact .inl (step fr hs h2)
       · rw [h1]
         simp only [Bool.false_eq_true,if_false]
         exact ih κ _ _ _ _ h0 (hs.put (Zam.K.le_refl κ) hs.hr hd (.tup [] [] rfl (by simp))) h2
end
section
open Go.RowKit (Below)
def StepD (P:Program) (fr:Fr) (H:Hp) (i:I) (v:A) (H':Hp):Prop :=
 (EntersR P fr i (fun f ars=>ACall P f ars H (fun v' H''=>v'=v∧H''=H'))∧(i.cls=4∨H'=H))∨(i.cls ≠ 3∧stepI fr H i=some (v,H'))
def StepG (P:Program) (fr:Fr) (H:Hp) (o:IOp) (v:A) (H':Hp):Prop :=
 match o.g with
 | none=>StepD P fr H o.i v H'
 | some (s,b)=>(fr s = .d (.bool b)∧StepD P fr H o.i v H')∨((fr s = .d (.bool (!b))∨fr s = .tup [])∧v = .tup []∧H'=H)
theorem runD_step {P:Program} {fr:Fr} {H:Hp} {i:I} {K:A→Hp→Prop} (h:runD P fr H i K):∃ v H',StepD P fr H i v H'∧K v H':=by
 cases i with
 | call f l=>obtain ⟨v,h1,h2⟩:=h; exact ⟨v,H,.inl ⟨h1,.inr rfl⟩,h2⟩
 | callE f l=>obtain ⟨v,H1,h1,h2⟩:=h; exact ⟨v,H1,.inl ⟨h1,.inl rfl⟩,h2⟩
 | callv f l =>
   simp only [runD] at h
   split at h
   · rename_i g e
     obtain ⟨h0,v,h1,h2⟩:=h
     exact ⟨v,H,.inl ⟨by simp only [EntersR,e]; exact ⟨h0,h1⟩,.inr rfl⟩,h2⟩
   · rename_i g first cap e
     obtain ⟨h0,v,h1,h2⟩:=h
     exact ⟨v,H,.inl ⟨by simp only [EntersR,e]; exact ⟨h0,h1⟩,.inr rfl⟩,h2⟩
   · exact h.elim
 | _ =>
   simp only [runD] at h
   split at h
   · rename_i v H' e; exact ⟨v,H',.inr ⟨by simp [I.cls],e⟩,h⟩
   · exact h.elim
theorem draw_run {P:Program} {K:Fr→Hp→Prop}:∀ (l:List IOp) (fr:Fr) (H:Hp),ADraw P l K fr H →
 ∃ (frs:Nat→Fr) (Hs:Nat→Hp) (vs:Nat→A),frs 0=fr∧Hs 0=H∧(∀ (k:Nat) (o:IOp),l[k]?=some o→StepG P (frs k) (Hs k) o (vs k) (Hs (k+1))∧frs (k+1)=(frs k).put o.dst (vs k))∧K (frs l.length) (Hs l.length)
 | [],fr,H,h=>⟨fun _=>fr,fun _=>H,fun _ => .undef,rfl,rfl,by simp,h⟩
 | o :: r, fr, H, h => by
   have key:∃ v H',StepG P fr H o v H'∧ADraw P r K (fr.put o.dst v) H':=by
    simp only [ADraw] at h
    unfold StepG
    cases hg:o.g with
    | none =>
      rw [hg] at h
      exact runD_step h
    | some sb =>
      obtain ⟨s,b⟩:=sb
      rw [hg] at h
      simp only at h ⊢
      unfold AGd at h
      split at h
      · rename_i c e
        split at h
        · rename_i hc
          subst hc
          obtain ⟨v,H',h1,h2⟩:=runD_step h
          exact ⟨v,H',.inl ⟨e,h1⟩,h2⟩
        · rename_i hc
          refine ⟨.tup [],H,.inr ⟨.inl ?_,rfl,rfl⟩,h⟩
          rw [e]; cases b<;>cases c<;>simp_all
      · rename_i e; exact ⟨.tup [],H,.inr ⟨.inr e,rfl,rfl⟩,h⟩
      · exact h.elim
   obtain ⟨v,H',h1,h2⟩:=key
   obtain ⟨frs,Hs,vs,r1,r2,r3,r4⟩:=draw_run r _ _ h2
   refine ⟨fun k=>match k with | 0=>fr | k+1=>frs k,fun k=>match k with | 0=>H | k+1=>Hs k,fun k=>match k with | 0=>v | k+1=>vs k,rfl,rfl,fun k q hq => ?_,r4⟩
   cases k with
   | zero=>simp at hq; subst hq; simp only [r1,r2]; exact ⟨h1,trivial⟩
   | succ k=>exact r3 k q (by simpa using hq)
theorem enters_cls {P:Program} {fr:Fr} {i:I} {R:FuncId→List A→Prop} (h:EntersR P fr i R):i.cls=3∨i.cls=4:=by
 cases i<;>first | exact .inl rfl | exact .inr rfl | exact h.elim
theorem ev_congr {fr fr':Fr} {x:Arg} (h:∀ s ∈ x.slots,fr' s=fr s):x.ev fr'=x.ev fr:=by
 cases x with
 | t s=>exact h s (by simp [Arg.slots])
 | c d=>rfl
theorem map_ev_congr {fr fr':Fr} {l:List Arg} (h:∀ s ∈ l.flatMap Arg.slots,fr' s=fr s):l.map (Arg.ev fr')=l.map (Arg.ev fr) :=
 List.map_congr_left fun x hx=>ev_congr fun s hs=>h s (List.mem_flatMap.2 ⟨x,hx,hs⟩)
theorem bound_congr {fr fr':Fr} {d:Nat} {x:Option Arg} (h:∀ s ∈ optSlots x,fr' s=fr s):boundOf fr' d x=boundOf fr d x:=by
 cases x with
 | none=>rfl
 | some x=>simp only [boundOf]; rw [ev_congr (fr:=fr) (fr':=fr') (x:=x) h]
theorem stepI_congr {fr fr':Fr} {H:Hp} {i:I} (h:∀ s ∈ i.slots,fr' s=fr s):stepI fr' H i=stepI fr H i:=by
 cases i with
 | nilT=>rfl
 | nilW=>rfl
 | alloc=>rfl
 | allocT=>rfl
 | allocU=>rfl
 | mkMap=>rfl
 | call=>rfl
 | callE=>rfl
 | callv=>rfl
 | build z ps =>
   simp only [stepI]
   congr 2
   refine List.map_congr_left fun x hx => ?_
   rw [ev_congr (fr:=fr) (fr':=fr') (x:=x.2.2) fun s hs=>h s (List.mem_flatMap.2 ⟨x,hx,hs⟩)]
 | buildT ts z ps =>
   simp only [stepI]
   congr 2
   refine List.map_congr_left fun x hx => ?_
   rw [ev_congr (fr:=fr) (fr':=fr') (x:=x.2.2) fun s hs=>h s (List.mem_flatMap.2 ⟨x,hx,hs⟩)]
 | bslice sz ps =>
   simp only [stepI]
   congr 1
   have:∀ l:List Arg,(∀ s ∈ l.flatMap Arg.slots,fr' s=fr s)→l.mapM (fun x=>rowOf sz (x.ev fr'))=l.mapM (fun x=>rowOf sz (x.ev fr)):=by
    intro l
    induction l with
    | nil=>intro _; rfl
    | cons x l ih =>
      intro hl
      simp only [List.mapM_cons]
      rw [ev_congr (fr:=fr) (fr':=fr') (x:=x) fun s hs=>hl s (by simp [hs]),ih fun s hs=>hl s (by simp only [List.flatMap_cons,List.mem_append]; exact .inr hs)]
   exact this ps h
 | bsliceT sz e ps =>
   simp only [stepI]
   congr 1
   have:∀ l:List Arg,(∀ s ∈ l.flatMap Arg.slots,fr' s=fr s)→l.mapM (fun x=>rowOf sz (x.ev fr'))=l.mapM (fun x=>rowOf sz (x.ev fr)):=by
    intro l
    induction l with
    | nil=>intro _; rfl
    | cons x l ih =>
      intro hl
      simp only [List.mapM_cons]
      rw [ev_congr (fr:=fr) (fr':=fr') (x:=x) fun s hs=>hl s (by simp [hs]),ih fun s hs=>hl s (by simp only [List.flatMap_cons,List.mem_append]; exact .inr hs)]
   exact this ps h
 | bsliceV sz e ps =>
   simp only [stepI]
   congr 1
   have:∀ l:List Arg,(∀ s ∈ l.flatMap Arg.slots,fr' s=fr s)→l.mapM (fun x=>rowOf sz (x.ev fr'))=l.mapM (fun x=>rowOf sz (x.ev fr)):=by
    intro l
    induction l with
    | nil=>intro _; rfl
    | cons x l ih =>
      intro hl
      simp only [List.mapM_cons]
      rw [ev_congr (fr:=fr) (fr':=fr') (x:=x) fun s hs=>hl s (by simp [hs]),ih fun s hs=>hl s (by simp only [List.flatMap_cons,List.mem_append]; exact .inr hs)]
   exact this ps h
 | bsliceM sz ps =>
   simp only [stepI]
   congr 1
   have:∀ l:List Arg,(∀ s ∈ l.flatMap Arg.slots,fr' s=fr s)→l.mapM (fun x=>rowOf sz (x.ev fr'))=l.mapM (fun x=>rowOf sz (x.ev fr)):=by
    intro l
    induction l with
    | nil=>intro _; rfl
    | cons x l ih =>
      intro hl
      simp only [List.mapM_cons]
      rw [ev_congr (fr:=fr) (fr':=fr') (x:=x) fun s hs=>hl s (by simp [hs]),ih fun s hs=>hl s (by simp only [List.flatMap_cons,List.mem_append]; exact .inr hs)]
   exact this ps h
 | mkSl sz by' z x y =>
   simp only [I.slots,List.mem_append] at h
   simp only [stepI]; rw [ev_congr (x:=x) fun s hs=>h s (.inl hs),ev_congr (x:=y) fun s hs=>h s (.inr hs)]
 | box ty n x =>
   have h:∀ s ∈ x.slots,fr' s=fr s:=h
   simp only [stepI]; rw [ev_congr h]
 | mkfn f a b =>
   simp only [stepI]
   rw [map_ev_congr (l:=a) fun s hs=>h s (by simp only [I.slots,List.mem_append]; exact .inl hs),map_ev_congr (l:=b) fun s hs=>h s (by simp only [I.slots,List.mem_append]; exact .inr hs)]
 | pick c x y =>
   simp only [I.slots,List.mem_append] at h
   simp only [stepI]
   rw [ev_congr (x:=c) fun s hs=>h s (.inl (.inl hs)),ev_congr (x:=x) fun s hs=>h s (.inl (.inr hs)),ev_congr (x:=y) fun s hs=>h s (.inr hs)]
 | sslice x lo hi =>
   simp only [I.slots,List.mem_append] at h
   simp only [stepI]
   rw [ev_congr (x:=x) fun s hs=>h s (.inl (.inl hs))]
   split
   · rw [bound_congr (x:=lo) fun s hs=>h s (.inl (.inr hs)),bound_congr (x:=hi) fun s hs=>h s (.inr hs)]
   · rfl
 | slice sz x lo hi mx =>
   simp only [I.slots,List.mem_append] at h
   simp only [stepI]
   rw [ev_congr (x:=x) fun s hs=>h s (.inl (.inl (.inl hs)))]
   split
   · rw [bound_congr (x:=lo) fun s hs=>h s (.inl (.inl (.inr hs))),bound_congr (x:=hi) fun s hs=>h s (.inl (.inr hs))]
     cases mx with
     | none=>cases boundOf fr 0 lo<;>cases boundOf fr _ hi<;>rfl
     | some m =>
       have:=bound_congr (d:=0) (x:=some m) fun s hs=>h s (.inr hs)
       cases boundOf fr 0 lo<;>cases boundOf fr _ hi<;>simp only [this]
   · rfl
 | store n x y =>
   simp only [I.slots,List.mem_append] at h
   simp only [stepI]; rw [ev_congr (x:=x) fun s hs=>h s (.inl hs),ev_congr (x:=y) fun s hs=>h s (.inr hs)]
 | bin op x y =>
   simp only [I.slots,List.mem_append] at h
   simp only [stepI]; rw [ev_congr (x:=x) fun s hs=>h s (.inl hs),ev_congr (x:=y) fun s hs=>h s (.inr hs)]
 | appV sz by' e x y =>
   simp only [I.slots,List.mem_append] at h
   simp only [stepI]; rw [ev_congr (x:=x) fun s hs=>h s (.inl hs),ev_congr (x:=y) fun s hs=>h s (.inr hs)]
 | iaddrV sz x y =>
   simp only [I.slots,List.mem_append] at h
   simp only [stepI]; rw [ev_congr (x:=x) fun s hs=>h s (.inl hs),ev_congr (x:=y) fun s hs=>h s (.inr hs)]
 | loadV n g x=>simp only [stepI]; rw [ev_congr (x:=x) h]
 | appVV sz by' e x y =>
   simp only [I.slots,List.mem_append] at h
   simp only [stepI]; rw [ev_congr (x:=x) fun s hs=>h s (.inl hs),ev_congr (x:=y) fun s hs=>h s (.inr hs)]
 | cutL sz x y =>
   simp only [I.slots,List.mem_append] at h
   simp only [stepI]; rw [ev_congr (x:=x) fun s hs=>h s (.inl hs),ev_congr (x:=y) fun s hs=>h s (.inr hs)]
 | cutV sz x y =>
   simp only [I.slots,List.mem_append] at h
   simp only [stepI]; rw [ev_congr (x:=x) fun s hs=>h s (.inl hs),ev_congr (x:=y) fun s hs=>h s (.inr hs)]
 | lkp ok key ag z x y =>
   simp only [I.slots,List.mem_append] at h
   simp only [stepI]; rw [ev_congr (x:=x) fun s hs=>h s (.inl hs),ev_congr (x:=y) fun s hs=>h s (.inr hs)]
 | mpUpd key x k v =>
   simp only [I.slots,List.mem_append] at h
   simp only [stepI]; rw [ev_congr (x:=x) fun s hs=>h s (.inl (.inl hs)),ev_congr (x:=k) fun s hs=>h s (.inl (.inr hs)),ev_congr (x:=v) fun s hs=>h s (.inr hs)]
 | eqA op l x y =>
   simp only [I.slots,List.mem_append] at h
   simp only [stepI]; rw [ev_congr (x:=x) fun s hs=>h s (.inl hs),ev_congr (x:=y) fun s hs=>h s (.inr hs)]
 | beq op x y =>
   simp only [I.slots,List.mem_append] at h
   simp only [stepI]; rw [ev_congr (x:=x) fun s hs=>h s (.inl hs),ev_congr (x:=y) fun s hs=>h s (.inr hs)]
 | iaddr n x y =>
   simp only [I.slots,List.mem_append] at h
   simp only [stepI]; rw [ev_congr (x:=x) fun s hs=>h s (.inl hs),ev_congr (x:=y) fun s hs=>h s (.inr hs)]
 | aidx n x y =>
   simp only [I.slots,List.mem_append] at h
   simp only [stepI]; rw [ev_congr (x:=x) fun s hs=>h s (.inl hs),ev_congr (x:=y) fun s hs=>h s (.inr hs)]
 | sidx x y =>
   simp only [I.slots,List.mem_append] at h
   simp only [stepI]; rw [ev_congr (x:=x) fun s hs=>h s (.inl hs),ev_congr (x:=y) fun s hs=>h s (.inr hs)]
 | mm b x y =>
   simp only [I.slots,List.mem_append] at h
   simp only [stepI]; rw [ev_congr (x:=x) fun s hs=>h s (.inl hs),ev_congr (x:=y) fun s hs=>h s (.inr hs)]
 | app n m e x y =>
   simp only [I.slots,List.mem_append] at h
   simp only [stepI]; rw [ev_congr (x:=x) fun s hs=>h s (.inl hs),ev_congr (x:=y) fun s hs=>h s (.inr hs)]
 | appS e x y =>
   simp only [I.slots,List.mem_append] at h
   simp only [stepI]; rw [ev_congr (x:=x) fun s hs=>h s (.inl hs),ev_congr (x:=y) fun s hs=>h s (.inr hs)]
 | mv x=>simp only [stepI]; rw [ev_congr (x:=x) h]
 | load n g x=>simp only [stepI]; rw [ev_congr (x:=x) h]
 | nilCheck x=>simp only [stepI]; rw [ev_congr (x:=x) h]
 | isNilS n x=>simp only [stepI]; rw [ev_congr (x:=x) h]
 | isNilP n x=>simp only [stepI]; rw [ev_congr (x:=x) h]
 | un op x=>simp only [stepI]; rw [ev_congr (x:=x) h]
 | cvt k x=>simp only [stepI]; rw [ev_congr (x:=x) h]
 | cvtS x=>simp only [stepI]; rw [ev_congr (x:=x) h]
 | cvtBS x=>simp only [stepI]; rw [ev_congr (x:=x) h]
 | faddr n x=>simp only [stepI]; rw [ev_congr (x:=x) h]
 | fld o n g x=>simp only [stepI]; rw [ev_congr (x:=x) h]
 | ext x n=>simp only [stepI]; rw [ev_congr (x:=x) h]
 | lenS x=>simp only [stepI]; rw [ev_congr (x:=x) h]
 | lenL x=>simp only [stepI]; rw [ev_congr (x:=x) h]
theorem enters_congr {P:Program} {fr fr':Fr} {i:I} {R:FuncId→List A→Prop} (h:∀ s ∈ i.slots,fr' s=fr s):EntersR P fr' i R ↔ EntersR P fr i R:=by
 cases i with
 | call f l=>simp only [EntersR]; rw [map_ev_congr h]
 | callE f l=>simp only [EntersR]; rw [map_ev_congr h]
 | callv f l =>
   simp only [I.slots,List.mem_append] at h
   simp only [EntersR]
   rw [ev_congr (x:=f) fun s hs=>h s (.inl hs),map_ev_congr (l:=l) fun s hs=>h s (.inr hs)]
 | _=>exact Iff.rfl
theorem stepI_pure {fr:Fr} {H:Hp} {i:I} (hc:i.cls=0):stepI fr H i=(stepI fr [] i).map fun p=>(p.1,H):=by
 cases i<;>first | (simp only [I.cls] at hc; exact absurd hc (by decide)) | skip
 all_goals
  simp only [stepI]
  (repeat' split)<;>simp_all [Option.map_map,Function.comp_def]
theorem stepI_cls0 {fr:Fr} {H H':Hp} {i:I} {v:A} (hc:i.cls=0) (h:stepI fr H i=some (v,H')):H'=H∧∀ H2,stepI fr H2 i=some (v,H2):=by
 rw [stepI_pure hc] at h
 simp only [Option.map_eq_some_iff,Prod.mk.injEq] at h
 obtain ⟨p,hp,rfl,rfl⟩:=h
 exact ⟨rfl,fun H2=>by rw [stepI_pure hc,hp]; rfl⟩
def Ob.fix (v:Bool):Ob→Bool
 | .tok ..=>false
 | .vec ..=>v
 | .vco ..=>v
 | _=>true
def Alike (v:Bool) (n:Nat) (H H2:Hp):Prop:=∀ j,j < n→∀ o:Ob,o.fix v=true→(H[j]?=some o ↔ H2[j]?=some o)
def A.at?:A→Option Nat
 | .ptr i _ | .aptr i _ _ | .msl i _ _ | .vsl i _ _ | .vso i _ _ _ | .vptr i _ _ _ | .map i=>some i
 | _=>none
theorem ldA_alike {vv:Bool} {H H2:Hp} {n m:Nat} {p:A} {cs:List A} (h:ldA H n p=some cs) (hp:∀ j,p.at?=some j→j < m) (ha:Alike vv m H H2):ldA H2 n p=some cs:=by
 unfold ldA at h
 split at h
 · rename_i i off
   split at h
   · rename_i c e
     simp only [ldA,(ha i (hp i rfl) _ rfl).1 e]; exact h
   · cases h
 · rename_i i k off
   split at h
   · rename_i sz rows e
     simp only [ldA,(ha i (hp i rfl) _ rfl).1 e]; exact h
   · cases h
 · exact h
 · cases h
theorem iaddrA_alike {vv:Bool} {H H2:Hp} {sz m:Nat} {p q u:A} (h:iaddrA H sz p q=some u) (hp:∀ j,p.at?=some j→j < m) (ha:Alike vv m H H2):iaddrA H2 sz p q=some u:=by
 unfold iaddrA at h
 split at h
 · exact h
 · exact h
 · rename_i i off len k n
   split at h
   · rename_i s rows e
     simp only [iaddrA,(ha i (hp i rfl) _ rfl).1 e]; exact h
   · cases h
 · cases h
theorem stepI_cls1 {fr:Fr} {H H':Hp} {i:I} {v:A} (hc:i.cls=1) {vv:Bool} (hvv:i.vread=true→vv=true) (h:stepI fr H i=some (v,H')) :
 H'=H∧∀ (H2:Hp) (m:Nat),(∀ s ∈ i.slots,∀ j,(fr s).at?=some j→j < m)→Alike vv m H H2→stepI fr H2 i=some (v,H2):=by
 have evat:∀ (x:Arg) (m:Nat),(∀ s ∈ x.slots,∀ j,(fr s).at?=some j→j < m)→∀ j,(x.ev fr).at?=some j→j < m:=by
  intro x m hx j hj
  cases x with
  | t s=>exact hx s (by simp [Arg.slots]) j hj
  | c d=>cases d<;>cases hj
 cases i<;>first | (simp only [I.cls] at hc; exact absurd hc (by decide)) | skip
 case load n g x =>
  simp only [stepI,Option.map_eq_some_iff,Prod.mk.injEq] at h
  obtain ⟨cs,h1,h2,h3⟩:=h
  refine ⟨h3.symm,fun H2 m hs ha => ?_⟩
  simp only [stepI,ldA_alike h1 (evat x m hs) ha,Option.map_some,Option.some.injEq,Prod.mk.injEq]
  exact ⟨h2,trivial⟩
 case iaddr n x y =>
  simp only [stepI,Option.map_eq_some_iff,Prod.mk.injEq] at h
  obtain ⟨u,h1,h2,h3⟩:=h
  refine ⟨h3.symm,fun H2 m hs ha => ?_⟩
  have:=iaddrA_alike h1 (evat x m fun s hx=>hs s (by simp only [I.slots,List.mem_append]; exact .inl hx)) ha
  simp only [stepI,this,Option.map_some,Option.some.injEq,Prod.mk.injEq]
  exact ⟨h2,trivial⟩
 case iaddrV n x y =>
  obtain rfl:vv=true:=hvv rfl
  simp only [stepI,Option.map_eq_some_iff,Prod.mk.injEq] at h
  obtain ⟨u,h1,h2,h3⟩:=h
  refine ⟨h3.symm,fun H2 m hs ha => ?_⟩
  have hat:=evat x m fun s hx=>hs s (by simp only [I.slots,List.mem_append]; exact .inl hx)
  have:iaddrV H2 n (x.ev fr) (y.ev fr)=some u:=by
   generalize x.ev fr=p at h1 hat ⊢
   generalize y.ev fr=q at h1 ⊢
   unfold iaddrV at h1
   split at h1
   · split at h1
     · rename_i e
       simp only [iaddrV,(ha _ (hat _ rfl) _ rfl).1 e]; exact h1
     · rename_i e
       simp only [iaddrV,(ha _ (hat _ rfl) _ rfl).1 e]; exact h1
     · cases h1
   · split at h1
     · rename_i e
       simp only [iaddrV,(ha _ (hat _ rfl) _ rfl).1 e]; exact h1
     · rename_i e
       simp only [iaddrV,(ha _ (hat _ rfl) _ rfl).1 e]; exact h1
     · cases h1
   · cases h1
  simp only [stepI,this,Option.map_some,Option.some.injEq,Prod.mk.injEq]
  exact ⟨h2,trivial⟩
 case loadV n g x =>
  obtain rfl:vv=true:=hvv rfl
  simp only [stepI,Option.map_eq_some_iff,Prod.mk.injEq] at h
  obtain ⟨cs,h1,h2,h3⟩:=h
  refine ⟨h3.symm,fun H2 m hs ha => ?_⟩
  have hat:=evat x m hs
  have:ldV H2 n (x.ev fr)=some cs:=by
   generalize x.ev fr=p at h1 hat ⊢
   unfold ldV at h1
   split at h1
   · split at h1
     · rename_i e
       simp only [ldV,(ha _ (hat _ rfl) _ rfl).1 e]; exact h1
     · rename_i e
       simp only [ldV,(ha _ (hat _ rfl) _ rfl).1 e]; exact h1
     · cases h1
   · cases h1
  simp only [stepI,this,Option.map_some,Option.some.injEq,Prod.mk.injEq]
  exact ⟨h2,trivial⟩
 case cutL n x y =>
  obtain rfl:vv=true:=hvv rfl
  simp only [stepI,Option.map_eq_some_iff,Prod.mk.injEq] at h
  obtain ⟨u,h1,h2,h3⟩:=h
  refine ⟨h3.symm,fun H2 m hs ha => ?_⟩
  have hat:=evat x m fun s hx=>hs s (by simp only [I.slots,List.mem_append]; exact .inl hx)
  have:cutLA H2 n (x.ev fr) (y.ev fr)=some u:=by
   have hz:∀ i,i < m→vecSz H[i]? n=true→vecSz H2[i]? n=true:=fun i hi hz=>by
    unfold vecSz at hz
    split at hz
    · rename_i e; rw [(ha _ hi _ rfl).1 e]; exact hz
    · rename_i e; rw [(ha _ hi _ rfl).1 e]; exact hz
    · cases hz
   generalize x.ev fr=p at h1 hat ⊢
   generalize y.ev fr=q at h1 ⊢
   unfold cutLA at h1
   split at h1
   · split at h1
     · rename_i hc
       simp only [cutLA]; rw [if_pos ⟨hz _ (hat _ rfl) hc.1,hc.2⟩]; exact h1
     · cases h1
   · split at h1
     · rename_i hc
       simp only [cutLA]; rw [if_pos ⟨hz _ (hat _ rfl) hc.1,hc.2⟩]; exact h1
     · cases h1
   · cases h1
  simp only [stepI,this,Option.map_some,Option.some.injEq,Prod.mk.injEq]
  exact ⟨h2,trivial⟩
 case lkp ok key ag z x y =>
  have hat:=fun m (hs:∀ s ∈ (I.lkp ok key ag z x y).slots,∀ j,(fr s).at?=some j→j < m)=>evat x m fun s hx=>hs s (by simp only [I.slots,List.mem_append]; exact .inl hx)
  simp only [stepI] at h
  split at h
  · rename_i kd i e1 e2
    split at h
    · rename_i l hH
      split at h
      · rename_i hok
        split at h<;>(cases h; refine ⟨rfl,fun H2 m hs ha => ?_⟩; have:=(ha i (hat m hs i (by rw [e2]; rfl)) _ rfl).1 hH; simp only [stepI,e1,e2,this,hok,if_true]; simp only [*])
      · cases h
    · cases h
  · rename_i kd e1 e2
    split at h
    · rename_i hok
      cases h
      exact ⟨rfl,fun H2 m hs ha=>by simp only [stepI,e1,e2,hok,if_true]⟩
    · cases h
  · cases h
theorem Alike.refl (v:Bool) (n:Nat) (H:Hp):Alike v n H H:=fun _ _ _ _=>Iff.rfl
theorem Alike.symm {v:Bool} {n:Nat} {H H2:Hp} (h:Alike v n H H2):Alike v n H2 H:=fun j hj o ho=>(h j hj o ho).symm
theorem Alike.trans {v:Bool} {n:Nat} {H H2 H3:Hp} (h:Alike v n H H2) (k:Alike v n H2 H3):Alike v n H H3:=fun j hj o ho=>(h j hj o ho).trans (k j hj o ho)
theorem Alike.mono {v:Bool} {n m:Nat} {H H2:Hp} (h:Alike v n H H2) (hm:m≤n):Alike v m H H2:=fun j hj=>h j (by omega)
theorem push_alike {vv:Bool} (H:Hp) (y:Ob):H.length≤(H++[y]).length∧Alike vv H.length H (H++[y]) :=
 ⟨by simp,fun j hj _ _=>by rw [List.getElem?_append_left hj]⟩
theorem appA_alike {vv:Bool} {H H':Hp} {sz by':Nat} {e:TypeId} {new:List (List D)} {p v:A} (h:appA H sz by' e new p=some (v,H')):H.length≤H'.length∧Alike vv H.length H H':=by
 unfold appA at h
 split at h
 · rename_i z s rows t
   split at h
   · rename_i n s' e' hH
     split at h
     · cases h
       refine ⟨by simp,fun j hj o ho => ?_⟩
       by_cases hjt:t=j
       · subst hjt
         rw [hH,List.getElem?_set_self hj]
         exact ⟨fun h=>(by cases h; cases ho),fun h=>(by cases h; cases ho)⟩
       · rw [List.getElem?_set_ne hjt]
     · cases h
   · cases h
 · split at h
   · cases h; exact ⟨Nat.le_refl _,.refl _ _ _⟩
   · cases h
 · split at h
   · split at h
     · split at h
       · cases h; exact ⟨Nat.le_refl _,.refl _ _ _⟩
       · cases h; exact push_alike _ _
     · cases h
   · cases h
 · cases h
theorem tokA_alike {vv:Bool}:∀ (l:List (Nat × Nat × TypeId)) (H:Hp) (cs:List A),H.length≤(tokA H l cs).2.length∧Alike vv H.length H (tokA H l cs).2
 | [],H,cs=>⟨Nat.le_refl _,.refl _ _ _⟩
 | (j, sz, e) :: r, H, cs => by
   simp only [tokA]
   split
   · split
     · obtain ⟨h1,h2⟩:=tokA_alike (vv:=vv) r (H++[.tok 0 sz e]) (cs.set j (.osl true sz [] H.length))
       simp only [List.length_append,List.length_singleton] at h1 h2
       exact ⟨by omega,(push_alike H _).2.trans (h2.mono (by omega))⟩
     · split
       · rename_i s _ _ _
         obtain ⟨h1,h2⟩:=tokA_alike (vv:=vv) r (H++[.vec s e 0 []]) (cs.set j (.vsl H.length 0 0))
         simp only [List.length_append,List.length_singleton] at h1 h2
         exact ⟨by omega,(push_alike H _).2.trans (h2.mono (by omega))⟩
       · exact tokA_alike r H cs
   · exact tokA_alike r H cs
theorem stepI_cls2 {fr:Fr} {H H':Hp} {i:I} {v:A} (hc:i.cls=2) {vv:Bool} (hvv:i.vapp=true→vv=false) (h:stepI fr H i=some (v,H')):H.length≤H'.length∧Alike vv H.length H H':=by
 cases i<;>first | (simp only [I.cls] at hc; exact absurd hc (by decide)) | skip
 case nilT=>simp only [stepI,Option.some.injEq,Prod.mk.injEq] at h; rw [← h.2]; exact push_alike _ _
 case nilW=>simp only [stepI,Option.some.injEq,Prod.mk.injEq] at h; rw [← h.2]; exact push_alike _ _
 case alloc=>simp only [stepI,Option.some.injEq,Prod.mk.injEq] at h; rw [← h.2]; exact push_alike _ _
 case mkMap=>simp only [stepI,Option.some.injEq,Prod.mk.injEq] at h; rw [← h.2]; exact push_alike _ _
 case allocU ty cs ts =>
  simp only [stepI,Option.some.injEq,Prod.mk.injEq] at h; rw [← h.2]
  obtain ⟨h1,h2⟩:=tokA_alike (vv:=vv) ts H (cs.map .d)
  exact ⟨by simp; omega,fun j hj x y=>by rw [List.getElem?_append_left (by omega)]; exact h2 j hj x y⟩
 case allocT =>
  simp only [stepI,Option.some.injEq,Prod.mk.injEq] at h; rw [← h.2]
  exact ⟨by simp,fun j hj _ _=>by rw [List.getElem?_append_left hj]⟩
 case box =>
  simp only [stepI] at h
  split at h
  · simp only [Option.some.injEq,Prod.mk.injEq] at h; rw [← h.2]; exact push_alike _ _
  · cases h
 case buildT ts z ps =>
  simp only [stepI,Option.map_eq_some_iff,Prod.mk.injEq] at h
  obtain ⟨cs,-,-,h3⟩:=h
  rw [← h3]; exact tokA_alike _ _ _
 case bsliceT =>
  simp only [stepI,Option.map_eq_some_iff,Prod.mk.injEq] at h
  obtain ⟨rows,-,-,h3⟩:=h
  rw [← h3]; exact push_alike _ _
 case bsliceV =>
  simp only [stepI,Option.map_eq_some_iff,Prod.mk.injEq] at h
  obtain ⟨rows,-,-,h3⟩:=h
  rw [← h3]; exact push_alike _ _
 case bsliceM =>
  simp only [stepI,Option.map_eq_some_iff,Prod.mk.injEq] at h
  obtain ⟨rows,-,-,h3⟩:=h
  rw [← h3]; exact push_alike _ _
 case mkSl =>
  simp only [stepI] at h
  split at h
  · split at h
    · simp only [Option.some.injEq,Prod.mk.injEq] at h; rw [← h.2]; exact push_alike _ _
    · cases h
  · cases h
 case app =>
  simp only [stepI] at h
  split at h
  · exact appA_alike h
  · cases h
 case appS =>
  simp only [stepI] at h
  split at h
  · exact appA_alike h
  · cases h
 case appV =>
  obtain rfl:vv=false:=hvv rfl
  simp only [stepI] at h
  split at h
  · unfold appVA at h
    split at h
    · split at h
      · cases h; exact push_alike _ _
      · cases h
    · rename_i i k len hk
      split at h
      · rename_i hH
        split at h
        · cases h
          refine ⟨by simp,fun j hj o ho => ?_⟩
          by_cases hji:i=j
          · subst hji
            rw [hH,List.getElem?_set_self hj]
            exact ⟨fun h=>(by cases h; cases ho),fun h=>(by cases h; cases ho)⟩
          · rw [List.getElem?_set_ne hji]
        · cases h
      · rename_i hH
        split at h
        · cases h
          refine ⟨by simp,fun j hj o ho => ?_⟩
          by_cases hji:i=j
          · subst hji
            rw [hH,List.getElem?_set_self hj]
            exact ⟨fun h=>(by cases h; cases ho),fun h=>(by cases h; cases ho)⟩
          · rw [List.getElem?_set_ne hji]
        · cases h
      · cases h
    · rename_i i k off len hk
      split at h
      · rename_i hH
        split at h
        · cases h
          refine ⟨by simp,fun j hj o ho => ?_⟩
          by_cases hji:i=j
          · subst hji
            rw [hH,List.getElem?_set_self hj]
            exact ⟨fun h=>(by cases h; cases ho),fun h=>(by cases h; cases ho)⟩
          · rw [List.getElem?_set_ne hji]
        · cases h
      · rename_i hH
        split at h
        · cases h
          refine ⟨by simp,fun j hj o ho => ?_⟩
          by_cases hji:i=j
          · subst hji
            rw [hH,List.getElem?_set_self hj]
            exact ⟨fun h=>(by cases h; cases ho),fun h=>(by cases h; cases ho)⟩
          · rw [List.getElem?_set_ne hji]
        · cases h
      · cases h
    · cases h
  · cases h
theorem cls_le (i:I):i.cls=0∨i.cls=1∨i.cls=2∨i.cls=3∨i.cls=4:=by cases i<;>simp [I.cls]
end
end Go.Zam
