/-
  Texts of one proof, one behind the other.
-/
import Derived.Test.YtjcdfgakgipkoaaGreatDoorM2
import Derived.Tactics
import Derived.Test.YtjcdfgakgipkoaaGreatDoorProg
import Derived.DataReads
import Derived.ChangeArms
import Derived.ChangeSame
import Derived.Carry
import Derived.OpenShut
import Derived.Lib.LaidTab
import Derived.Shelf.Strings.Builder1
set_option linter.all false
set_option maxRecDepth 100000
set_option maxHeartbeats 4000000
namespace Go.Zam
section
open Go.RowKit (Below)
def inB (acc:Array Nat) (es:Array Edge):Nat:=es.foldl (fun s e=>if Region.binds .any e then s ||| 2 ^ e.on ||| acc.getD e.on 0 else s) 0
theorem inB_spec (acc:Array Nat) (es:Array Edge) (k:Nat) (h:(inB acc es).testBit k=true):∃ e ∈ es,Region.binds .any e=true∧(e.on=k∨(acc.getD e.on 0).testBit k=true):=by
 have key:∀ (l:List Edge) (s:Nat),(l.foldl (fun s e=>if Region.binds .any e then s ||| 2 ^ e.on ||| acc.getD e.on 0 else s) s).testBit k=true →
  s.testBit k=true∨∃ e ∈ l,Region.binds .any e=true∧(e.on=k∨(acc.getD e.on 0).testBit k=true):=by
  intro l
  induction l with
  | nil=>intro s h; exact .inl h
  | cons e l ih =>
    intro s h
    rw [List.foldl_cons] at h
    rcases ih _ h with h1 | ⟨e',he',h2⟩
    · split at h1
      · rename_i hb
        simp only [Nat.testBit_or,Bool.or_eq_true,Nat.testBit_two_pow,decide_eq_true_eq] at h1
        rcases h1 with (h1 | h1) | h1
        · exact .inl h1
        · exact .inr ⟨e,by simp,hb,.inl h1⟩
        · exact .inr ⟨e,by simp,hb,.inr h1⟩
      · exact .inl h1
    · exact .inr ⟨e',by simp [he'],h2⟩
 unfold inB at h
 rw [← Array.foldl_toList] at h
 rcases key _ _ h with h1 | ⟨e,he,h2⟩
 · simp at h1
 · exact ⟨e,by simpa using he,h2⟩
theorem before_go:∀ (l:List Oper) (acc:Array Nat),(∀ i,i < acc.size→(l.foldl (fun acc o=>acc.push (inB acc o.after)) acc).getD i 0=acc.getD i 0) ∧
 ∀ (j : Nat) (o : Oper), l[j]? = some o → ∃ accj : Array Nat, (∀ i, accj.getD i 0 = (l.foldl (fun acc o => acc.push (inB acc o.after)) acc).getD i 0 ∨ accj.getD i 0 = 0) ∧
   (l.foldl (fun acc o=>acc.push (inB acc o.after)) acc).getD (acc.size+j) 0=inB accj o.after:=by
 intro l
 induction l with
 | nil=>intro acc; exact ⟨fun _ _=>rfl,by simp⟩
 | cons o l ih =>
   intro acc
   obtain ⟨h1,h2⟩:=ih (acc.push (inB acc o.after))
   simp only [List.foldl_cons]
   have hpush:∀ i,i < acc.size→(acc.push (inB acc o.after)).getD i 0=acc.getD i 0:=fun i hi=>by simp [Array.getElem?_push,Nat.ne_of_lt hi]
   refine ⟨fun i hi=>by rw [h1 i (by simp; omega),hpush i hi],fun j q hq => ?_⟩
   cases j with
   | zero =>
     simp at hq
     subst hq
     refine ⟨acc,fun i => ?_,?_⟩
     · by_cases hi:i < acc.size
       · left; rw [h1 i (by simp; omega),hpush i hi]
       · right; simp [Array.getElem?_eq_none (Nat.le_of_not_lt hi)]
     · rw [Nat.add_zero,h1 acc.size (by simp)]; simp
   | succ j =>
     obtain ⟨accj,a1,a2⟩:=h2 j q (by simpa using hq)
     refine ⟨accj,a1,?_⟩
     rw [← a2]; simp only [Array.size_push]; congr 1; omega
theorem before_spec {ops:Array Oper} {j k:Nat} {o:Oper} (ho:ops[j]?=some o) (h:((Region.before ops).getD j 0).testBit k=true) :
 ∃ e ∈ o.after,Region.binds .any e=true∧(e.on=k∨((Region.before ops).getD e.on 0).testBit k=true):=by
 have hb:Region.before ops=ops.toList.foldl (fun acc o=>acc.push (inB acc o.after)) #[]:=by
  unfold Region.before
  rw [← Array.foldl_toList]
  rfl
 obtain ⟨accj,h1,h2⟩:=(before_go ops.toList #[]).2 j o (by simpa using ho)
 simp only [List.size_toArray,List.length_nil,Nat.zero_add] at h2
 rw [hb,h2] at h
 obtain ⟨e,he,h3,h4⟩:=inB_spec _ _ _ h
 refine ⟨e,he,h3,h4.imp id fun h5 => ?_⟩
 rcases h1 e.on with h6 | h6
 · rw [hb,← h6]; exact h5
 · rw [h6] at h5; simp at h5
theorem stepI_cls1' {fr:Fr} {H H':Hp} {i:I} {v:A} (hc:i.cls=1) {vv:Bool} (hvv:i.vread=true→vv=true) (h:stepI fr H i=some (v,H')):∀ (H2:Hp),Alike vv H.length H H2→stepI fr H2 i=some (v,H2):=by
 have lt:∀ {j:Nat} {x:Ob},H[j]?=some x→j < H.length:=fun h=>(List.getElem?_eq_some_iff.1 h).1
 cases i<;>first | (simp only [I.cls] at hc; exact absurd hc (by decide)) | skip
 case load n g x =>
  simp only [stepI,Option.map_eq_some_iff,Prod.mk.injEq] at h
  obtain ⟨cs,h1,h2,h3⟩:=h
  intro H2 ha
  have:ldA H2 n (x.ev fr)=some cs:=by
   generalize x.ev fr=p at h1
   unfold ldA at h1
   split at h1
   · split at h1
     · rename_i e
       simp only [ldA,(ha _ (lt e) _ rfl).1 e]; exact h1
     · cases h1
   · split at h1
     · rename_i e
       simp only [ldA,(ha _ (lt e) _ rfl).1 e]; exact h1
     · cases h1
   · exact h1
   · cases h1
  simp only [stepI,this,Option.map_some,Option.some.injEq,Prod.mk.injEq]
  exact ⟨h2,trivial⟩
 case iaddr n x y =>
  simp only [stepI,Option.map_eq_some_iff,Prod.mk.injEq] at h
  obtain ⟨u,h1,h2,h3⟩:=h
  intro H2 ha
  have:iaddrA H2 n (x.ev fr) (y.ev fr)=some u:=by
   generalize x.ev fr=p at h1
   generalize y.ev fr=q at h1
   unfold iaddrA at h1
   split at h1
   · exact h1
   · exact h1
   · split at h1
     · rename_i e
       simp only [iaddrA,(ha _ (lt e) _ rfl).1 e]; exact h1
     · cases h1
   · cases h1
  simp only [stepI,this,Option.map_some,Option.some.injEq,Prod.mk.injEq]
  exact ⟨h2,trivial⟩
 case iaddrV n x y =>
  obtain rfl:vv=true:=hvv rfl
  simp only [stepI,Option.map_eq_some_iff,Prod.mk.injEq] at h
  obtain ⟨u,h1,h2,h3⟩:=h
  intro H2 ha
  have:iaddrV H2 n (x.ev fr) (y.ev fr)=some u:=by
   generalize x.ev fr=p at h1 ⊢
   generalize y.ev fr=q at h1 ⊢
   unfold iaddrV at h1
   split at h1
   · split at h1
     · rename_i e
       simp only [iaddrV,(ha _ (lt e) _ rfl).1 e]; exact h1
     · rename_i e
       simp only [iaddrV,(ha _ (lt e) _ rfl).1 e]; exact h1
     · cases h1
   · split at h1
     · rename_i e
       simp only [iaddrV,(ha _ (lt e) _ rfl).1 e]; exact h1
     · rename_i e
       simp only [iaddrV,(ha _ (lt e) _ rfl).1 e]; exact h1
     · cases h1
   · cases h1
  simp only [stepI,this,Option.map_some,Option.some.injEq,Prod.mk.injEq]
  exact ⟨h2,trivial⟩
 case loadV n g x =>
  obtain rfl:vv=true:=hvv rfl
  simp only [stepI,Option.map_eq_some_iff,Prod.mk.injEq] at h
  obtain ⟨cs,h1,h2,h3⟩:=h
  intro H2 ha
  have:ldV H2 n (x.ev fr)=some cs:=by
   generalize x.ev fr=p at h1 ⊢
   unfold ldV at h1
   split at h1
   · split at h1
     · rename_i e
       simp only [ldV,(ha _ (lt e) _ rfl).1 e]; exact h1
     · rename_i e
       simp only [ldV,(ha _ (lt e) _ rfl).1 e]; exact h1
     · cases h1
   · cases h1
  simp only [stepI,this,Option.map_some,Option.some.injEq,Prod.mk.injEq]
  exact ⟨h2,trivial⟩
 case cutL n x y =>
  obtain rfl:vv=true:=hvv rfl
  simp only [stepI,Option.map_eq_some_iff,Prod.mk.injEq] at h
  obtain ⟨u,h1,h2,h3⟩:=h
  intro H2 ha
  have:cutLA H2 n (x.ev fr) (y.ev fr)=some u:=by
   have hz:∀ i,vecSz H[i]? n=true→vecSz H2[i]? n=true:=fun i hz=>by
    unfold vecSz at hz
    split at hz
    · rename_i e; rw [(ha _ (lt e) _ rfl).1 e]; exact hz
    · rename_i e; rw [(ha _ (lt e) _ rfl).1 e]; exact hz
    · cases hz
   generalize x.ev fr=p at h1 ⊢
   generalize y.ev fr=q at h1 ⊢
   unfold cutLA at h1
   split at h1
   · split at h1
     · rename_i hc
       simp only [cutLA]; rw [if_pos ⟨hz _ hc.1,hc.2⟩]; exact h1
     · cases h1
   · split at h1
     · rename_i hc
       simp only [cutLA]; rw [if_pos ⟨hz _ hc.1,hc.2⟩]; exact h1
     · cases h1
   · cases h1
  simp only [stepI,this,Option.map_some,Option.some.injEq,Prod.mk.injEq]
  exact ⟨h2,trivial⟩
 case lkp ok key ag z x y =>
  intro H2 ha
  simp only [stepI] at h
  split at h
  · rename_i kd i e1 e2
    split at h
    · rename_i l hH
      split at h
      · rename_i hok
        split at h<;>(cases h; have:=(ha _ (lt hH) _ rfl).1 hH; simp only [stepI,e1,e2,this,hok,if_true]; simp only [*])
      · cases h
    · cases h
  · rename_i kd e1 e2
    split at h
    · rename_i hok
      cases h
      simp only [stepI,e1,e2,hok,if_true]
    · cases h
  · cases h
section run
variable {P:Program} {l:List IOp} {frs:Nat→Fr} {Hs:Nat→Hp} {vs:Nat→A}
def frOf (l:List IOp) (vs:Nat→A) (fr:Fr) (S:Nat→Bool):Nat→Fr
 | 0=>fr
 | k+1=>if S k then (frOf l vs fr S k).put (l.getD k badOp).dst (vs k) else frOf l vs fr S k
def isEff (l:List IOp) (k:Nat):Bool:=(l.getD k badOp).i.cls == 2 || (l.getD k badOp).i.cls == 4
def hiOf (l:List IOp) (S:Nat→Bool):Nat→Nat
 | 0=>0
 | k+1=>if S k && isEff l k then k+1 else hiOf l S k
theorem hiOf_le (S:Nat→Bool):∀ n,hiOf l S n≤n
 | 0=>Nat.le_refl _
 | k+1=>by unfold hiOf; split; exact Nat.le_refl _; exact Nat.le_succ_of_le (hiOf_le S k)
theorem hiOf_ge (S:Nat→Bool):∀ (n k:Nat),k < n→S k=true→isEff l k=true→k+1≤hiOf l S n
 | 0,k,h,_,_=>by omega
 | n + 1, k, h, h1, h2 => by
   unfold hiOf
   by_cases hkn:k=n
   · subst hkn; rw [if_pos (by simp [h1,h2])]; exact Nat.le_refl _
   · split
     · omega
     · exact hiOf_ge S n k (by omega) h1 h2
theorem hiOf_in (S:Nat→Bool):∀ n,hiOf l S n=0∨∃ k,k < n∧hiOf l S n=k+1∧S k=true∧isEff l k=true
 | 0 => .inl rfl
 | n + 1 => by
   unfold hiOf
   split
   · rename_i h; simp only [Bool.and_eq_true] at h; exact .inr ⟨n,by omega,rfl,h.1,h.2⟩
   · rcases hiOf_in S n with h | ⟨k,h1,h2,h3⟩
     · exact .inl h
     · exact .inr ⟨k,by omega,h2,h3⟩
theorem put_ne {fr:Fr} {d:Option Nat} {v:A} {s:Nat} (h:d ≠ some s):(fr.put d v) s=fr s:=by
 cases d with
 | none=>rfl
 | some d=>simp only [Fr.put,Fr.set]; rw [if_neg (fun e=>h (by rw [e]))]
theorem put_eq {fr:Fr} {v:A} {s:Nat}:(fr.put (some s) v) s=v:=by simp [Fr.put,Fr.set]
theorem getD_of {k:Nat} {o:IOp} (h:l[k]?=some o):l.getD k badOp=o:=by simp [List.getD,h]
def Runs (P:Program) (l:List IOp) (frs:Nat→Fr) (Hs:Nat→Hp) (vs:Nat→A):Prop :=
 ∀ (k:Nat) (o:IOp),l[k]?=some o→StepG P (frs k) (Hs k) o (vs k) (Hs (k+1))∧frs (k+1)=(frs k).put o.dst (vs k)
theorem Runs.stepD {hr:Runs P l frs Hs vs} {k:Nat} {o:IOp} (ho:l[k]?=some o):StepD P (frs k) (Hs k) o.i (vs k) (Hs (k+1))∨Hs (k+1)=Hs k:=by
 have h:=(hr k o ho).1
 unfold StepG at h
 split at h
 · exact .inl h
 · rcases h with ⟨-,h⟩ | ⟨-,-,h⟩
   · exact .inl h
   · exact .inr h
theorem Runs.quiet (hr:Runs P l frs Hs vs) {k:Nat} (hk:k < l.length) (he:isEff l k=false):Hs (k+1)=Hs k:=by
 have ho:=List.getElem?_eq_getElem hk
 unfold isEff at he
 rw [getD_of ho] at he
 simp only [Bool.or_eq_false_iff,beq_eq_false_iff_ne] at he
 rcases hr.stepD ho with h | h
 · rcases h with ⟨-,h | h⟩ | ⟨hc,h⟩
   · exact absurd h he.2
   · exact h
   · rcases cls_le (l[k]).i with h0 | h0 | h0 | h0 | h0
     · exact (stepI_cls0 h0 h).1
     · exact (stepI_cls1 h0 (vv:=true) (fun _=>rfl) h).1
     · exact absurd h0 he.1
     · exact absurd h0 hc
     · exact absurd h0 he.2
 · exact h
theorem Runs.same (hr:Runs P l frs Hs vs) {a:Nat}:∀ (d:Nat),a+d≤l.length→(∀ k,a≤k→k < a+d→isEff l k=false)→Hs (a+d)=Hs a
 | 0,_,_=>rfl
 | d + 1, h, he => by
   rw [← Nat.add_assoc,hr.quiet (by omega) (he (a+d) (by omega) (by omega))]
   exact hr.same d (by omega) fun k h1 h2=>he k h1 (by omega)
theorem Runs.alike (hr:Runs P l frs Hs vs) {vv:Bool} (hva:vv=true→∀ k,(l.getD k badOp).i.vapp=false) {a:Nat}:∀ (d:Nat),a+d≤l.length→(∀ k,a≤k→k < a+d→(l.getD k badOp).i.cls ≠ 4)→(Hs a).length≤(Hs (a+d)).length∧Alike vv (Hs a).length (Hs a) (Hs (a+d))
 | 0,_,_=>⟨Nat.le_refl _,.refl _ _ _⟩
 | d + 1, h, he => by
   obtain ⟨h1,h2⟩:=hr.alike hva d (by omega) fun k h1 h2=>he k h1 (by omega)
   rw [← Nat.add_assoc]
   have hk:a+d < l.length:=by omega
   have ho:=List.getElem?_eq_getElem hk
   have hc4:=he (a+d) (by omega) (by omega)
   have step:(Hs (a+d)).length≤(Hs (a+d+1)).length∧Alike vv (Hs (a+d)).length (Hs (a+d)) (Hs (a+d+1)):=by
    by_cases hE:isEff l (a+d)=true
    · rw [getD_of ho] at hc4
      unfold isEff at hE
      rw [getD_of ho] at hE
      simp only [Bool.or_eq_true,beq_iff_eq] at hE
      have hc2:=hE.resolve_right hc4
      rcases hr.stepD ho with hs | hs
      · rcases hs with ⟨-,hs | hs⟩ | ⟨-,hs⟩
        · rw [hc2] at hs; cases hs
        · rw [hs]; exact ⟨Nat.le_refl _,.refl _ _ _⟩
        · exact stepI_cls2 hc2 (fun hv=>by
           cases vv with
           | false=>rfl
           | true=>have:=hva rfl (a+d); rw [getD_of ho,hv] at this; cases this) hs
      · rw [hs]; exact ⟨Nat.le_refl _,.refl _ _ _⟩
    · rw [hr.quiet hk (by simpa using hE)]; exact ⟨Nat.le_refl _,.refl _ _ _⟩
   exact ⟨Nat.le_trans h1 step.1,h2.trans (step.2.mono h1)⟩
end run
theorem VR.at_lt {κ:K} {n:Nat} (hd:∀ i,n≤i → κ.β i = .none) {v:Value} {a:A} (h:VR κ v a) {j:Nat} (hj:a.at?=some j):j < n:=by
 have hlt:∀ i,κ.β i ≠ .none→i < n:=fun i hi=>Nat.lt_of_not_le fun hle=>hi (hd i hle)
 cases h with
 | msl i off len b sz o cap hb h1 h2 h3=>simp only [A.at?,Option.some.injEq] at hj; subst hj; exact hlt _ (by rcases hb with ⟨_,hb⟩ | hb<;>rw [hb]<;>simp)
 | ptr i off b hb=>simp only [A.at?,Option.some.injEq] at hj; subst hj; exact hlt _ (by rw [hb]; simp)
 | vsl i k len ad cap _ hf=>simp only [A.at?,Option.some.injEq] at hj; subst hj; exact hlt _ (by intro h0; rw [h0] at hf; exact hf)
 | vso i k off len ad cap _ hf=>simp only [A.at?,Option.some.injEq] at hj; subst hj; exact hlt _ (by intro h0; rw [h0] at hf; exact hf)
 | vptr i k idx off b o hf=>simp only [A.at?,Option.some.injEq] at hj; subst hj; exact hlt _ (by intro h0; rw [h0] at hf; exact hf)
 | map i b hb=>simp only [A.at?,Option.some.injEq] at hj; subst hj; exact hlt _ (by rw [hb]; simp)
 | aptr i idx off b sz hb=>simp only [A.at?,Option.some.injEq] at hj; subst hj; exact hlt _ (by rcases hb with ⟨_,hb⟩ | hb<;>rw [hb]<;>simp)
 | _=>simp [A.at?] at hj
theorem getD_replicate (n k:Nat):(Array.replicate n false).getD k false=false:=by
 rw [Array.getD_eq_getD_getElem?]
 by_cases h:k < n
 · simp [h]
 · simp [h]
theorem getD_setB (listed:Array Bool) (i k:Nat) (hi:i < listed.size):(listed.setIfInBounds i true).getD k false=(listed.getD k false || k == i):=by
 rw [Array.getD_eq_getD_getElem?,Array.getD_eq_getD_getElem?]
 by_cases h:i=k
 · subst h; simp [hi]
 · rw [Array.getElem?_setIfInBounds_ne h]
   have:(k == i)=false:=by simpa using fun e=>h e.symm
   simp [this]
section main
variable {P:Program} {κ0:K} {nt:NT} {tok:List Nat} {ops:Array Oper} {l:List IOp} {frs:Nat→Fr} {Hs:Nat→Hp} {vs:Nat→A} {S:Nat→Bool}
structure Ctx (ops:Array Oper) (l:List IOp) (S:Nat→Bool):Prop where
 len:l.length=ops.size
 tied:∀ i j,i < j→j < ops.size→Go.Zam.tied (l.getD i badOp) (l.getD j badOp)=true→((Region.before ops).getD j 0).testBit i=true
 va:(l.any fun o=>o.i.vread)=true→∀ k,(l.getD k badOp).i.vapp=false
 cl:∀ j,j < ops.size→S j=true→∀ k,((Region.before ops).getD j 0).testBit k=true→S k=true
theorem tied_read {a b:IOp} {s:Nat} (h:a.dst=some s) (h2:s ∈ b.reads):tied a b=true:=by
 simp [tied,h,h2]
theorem tied_read' {a b:IOp} {s:Nat} (h:b.dst=some s) (h2:s ∈ a.reads):tied a b=true:=by
 simp [tied,h,h2]
theorem tied_dst {a b:IOp} {s:Nat} (h:a.dst=some s) (h2:b.dst=some s):tied a b=true:=by
 simp [tied,h,h2]
theorem tied_clash {a b:IOp} (h:clash a.i.cls b.i.cls=true):tied a b=true:=by
 simp [tied,h]
theorem Ctx.slot (c:Ctx ops l S) (hr:Runs P l frs Hs vs) {i:Nat} (hi:i < ops.size) (hiS:S i=false) (hb:∀ k,((Region.before ops).getD i 0).testBit k=true→S k=true) {s:Nat} (hs:s ∈ (l.getD i badOp).reads) :
 ∀ m,m≤ops.size→frOf l vs (frs 0) S m s=frs (min m i) s:=by
 intro m
 induction m with
 | zero=>intro _; simp [frOf]
 | succ m ih =>
   intro hm
   have ih':=ih (by omega)
   have ho:=List.getElem?_eq_getElem (l:=l) (i:=m) (by rw [c.len]; omega)
   have hstep:=(hr m _ ho).2
   by_cases hmi:m < i
   · rw [Nat.min_eq_left (by omega),hstep]
     rw [Nat.min_eq_left (by omega)] at ih'
     by_cases hd:(l[m]'(by rw [c.len]; omega)).dst=some s
     · have hS:=hb m (c.tied m i hmi hi (tied_read (by rw [getD_of ho]; exact hd) hs))
       unfold frOf
       rw [if_pos hS,getD_of ho,hd,put_eq,put_eq]
     · rw [put_ne hd]
       unfold frOf
       split
       · rw [getD_of ho,put_ne hd]; exact ih'
       · exact ih'
   · rw [Nat.min_eq_right (by omega)]
     rw [Nat.min_eq_right (by omega)] at ih'
     unfold frOf
     split
     · rename_i hS
       rw [getD_of ho]
       by_cases hd:(l[m]'(by rw [c.len]; omega)).dst=some s
       · exfalso
         have hne:m ≠ i:=fun e=>by subst e; rw [hiS] at hS; cases hS
         have:=c.cl m (by omega) hS i (c.tied i m (by omega) (by omega) (tied_read' (by rw [getD_of ho]; exact hd) hs))
         rw [hiS] at this; cases this
       · rw [put_ne hd]; exact ih'
     · exact ih'
theorem Ctx.next (c:Ctx ops l S) {i:Nat} (hi:i < ops.size) (hiS:S i=false) (fr:Fr) :
 frOf l vs fr (fun k=>S k || k == i) ops.size=(frOf l vs fr S ops.size).put (l.getD i badOp).dst (vs i):=by
 funext s
 have lo:∀ m,m≤i→frOf l vs fr (fun k=>S k || k == i) m s=frOf l vs fr S m s:=by
  intro m
  induction m with
  | zero=>intro _; rfl
  | succ m ih =>
    intro hm
    unfold frOf
    have : (S m || m == i) = S m := by have : (m == i) = false := by simp; omega
                                       rw [this,Bool.or_false]
    simp only [this]
    split
    · by_cases hd:(l.getD m badOp).dst=some s
      · rw [hd,put_eq,put_eq]
      · rw [put_ne hd,put_ne hd]; exact ih (by omega)
    · exact ih (by omega)
 by_cases hd:(l.getD i badOp).dst=some s
 · rw [hd,put_eq]
   have hi':∀ m,i < m→m≤ops.size→frOf l vs fr (fun k=>S k || k == i) m s=vs i:=by
    intro m
    induction m with
    | zero=>intro h; omega
    | succ m ih =>
      intro h1 h2
      unfold frOf
      by_cases hmi:m=i
      · subst hmi; rw [if_pos (by simp),hd,put_eq]
      · have : (S m || m == i) = S m := by have : (m == i) = false := by simpa using hmi
                                           rw [this,Bool.or_false]
        simp only [this]
        split
        · rename_i hS
          have hdm:(l.getD m badOp).dst ≠ some s:=fun e=>by
           have:=c.cl m (by omega) hS i (c.tied i m (by omega) (by omega) (tied_dst hd e))
           rw [hiS] at this; cases this
          rw [put_ne hdm]; exact ih (by omega) (by omega)
        · exact ih (by omega) (by omega)
   exact hi' _ hi (Nat.le_refl _)
 · rw [put_ne hd]
   have:∀ m,frOf l vs fr (fun k=>S k || k == i) m s=frOf l vs fr S m s:=by
    intro m
    induction m with
    | zero=>rfl
    | succ m ih =>
      unfold frOf
      by_cases hmi:m=i
      · subst hmi
        rw [if_pos (by simp),if_neg (by rw [hiS]; simp),put_ne hd]; exact ih
      · have : (S m || m == i) = S m := by have : (m == i) = false := by simpa using hmi
                                           rw [this,Bool.or_false]
        simp only [this]
        split
        · by_cases hdm:(l.getD m badOp).dst=some s
          · rw [hdm,put_eq,put_eq]
          · rw [put_ne hdm,put_ne hdm]; exact ih
        · exact ih
   exact this _
theorem Ctx.hi_quiet {i:Nat} (he:isEff l i=false):∀ n,hiOf l (fun k=>S k || k == i) n=hiOf l S n
 | 0=>rfl
 | n + 1 => by
   unfold hiOf
   rw [Ctx.hi_quiet he n]
   by_cases hni:n=i
   · subst hni; simp [he]
   · have:(n == i)=false:=by simpa using hni
     simp only [this,Bool.or_false]
theorem Ctx.exact (c:Ctx ops l S) (hr:Runs P l frs Hs vs) {i:Nat} (hi:i < ops.size) (hiS:S i=false) (hb:∀ k,((Region.before ops).getD i 0).testBit k=true→S k=true)
 (hc:∀ q,(q=2∨q=4)→clash q (l.getD i badOp).i.cls=true∧clash (l.getD i badOp).i.cls q=true):hiOf l S ops.size≤i∧Hs (hiOf l S ops.size)=Hs i:=by
 have heff:∀ k,isEff l k=true→(l.getD k badOp).i.cls=2∨(l.getD k badOp).i.cls=4:=fun k hk=>by
  unfold isEff at hk; simpa using hk
 have hle:hiOf l S ops.size≤i:=by
  rcases hiOf_in (l:=l) S ops.size with h | ⟨k,h1,h2,h3,h4⟩
  · omega
  · rw [h2]
    refine Nat.lt_of_not_le fun hle => ?_
    have hne:i ≠ k:=fun e=>by subst e; rw [hiS] at h3; cases h3
    have:=c.cl k h1 h3 i (c.tied i k (by omega) h1 (tied_clash (hc _ (heff k h4)).2))
    rw [hiS] at this; cases this
 refine ⟨hle,?_⟩
 have:=hr.same (a:=hiOf l S ops.size) (i - hiOf l S ops.size) (by rw [c.len]; omega) (fun k h1 h2=>by
  cases he:isEff l k with
  | false=>rfl
  | true =>
    have hki:k < i:=by omega
    have hS:=hb k (c.tied k i hki hi (tied_clash (hc _ (heff k he)).1))
    have:=hiOf_ge (l:=l) S ops.size k (by omega) hS he
    omega)
 rw [← this]; congr 1; omega
theorem Ctx.eff (c:Ctx ops l S) {i:Nat} (hi:i < ops.size) (hiS:S i=false) (he:isEff l i=true):hiOf l (fun k=>S k || k == i) ops.size=i+1:=by
 have h1:=hiOf_ge (l:=l) (fun k=>S k || k == i) ops.size i hi (by simp) he
 rcases hiOf_in (l:=l) (fun k=>S k || k == i) ops.size with h | ⟨k,k1,k2,k3,k4⟩
 · omega
 · by_cases hk:k=i
   · rw [k2,hk]
   · exfalso
     have hS : S k = true := by have : (k == i) = false := by simpa using hk
                                rwa [this,Bool.or_false] at k3
     have heff:∀ k,isEff l k=true→(l.getD k badOp).i.cls=2∨(l.getD k badOp).i.cls=4:=fun k hk=>by
      unfold isEff at hk; simpa using hk
     have hcl:clash (l.getD i badOp).i.cls (l.getD k badOp).i.cls=true:=by
      rcases heff i he with e1 | e1<;>rcases heff k k4 with e2 | e2<;>rw [e1,e2]<;>rfl
     have:=c.cl k k1 hS i (c.tied i k (by omega) k1 (tied_clash hcl))
     rw [hiS] at this; cases this
theorem Ctx.load (c:Ctx ops l S) (hr:Runs P l frs Hs vs) {i:Nat} (hi:i < ops.size) (hiS:S i=false) (hb:∀ k,((Region.before ops).getD i 0).testBit k=true→S k=true) (h1:(l.getD i badOp).i.cls=1)
 {fr:Fr} {v:A} {H':Hp} (hst:stepI fr (Hs i) (l.getD i badOp).i=some (v,H')) (hat:∀ s ∈ (l.getD i badOp).i.slots,∀ j,(fr s).at?=some j→j < (Hs (hiOf l S ops.size)).length) :
 stepI fr (Hs (hiOf l S ops.size)) (l.getD i badOp).i=some (v,Hs (hiOf l S ops.size)):=by
 have hvr:(l.getD i badOp).i.vread=true→(l.any fun o=>o.i.vread)=true:=fun h=>by
  have hil:i < l.length:=by rw [c.len]; exact hi
  rw [getD_of (List.getElem?_eq_getElem hil)] at h
  exact List.any_eq_true.2 ⟨_,List.getElem_mem hil,h⟩
 by_cases hle:hiOf l S ops.size≤i
 · have:=hr.alike c.va (a:=hiOf l S ops.size) (i - hiOf l S ops.size) (by rw [c.len]; omega) (fun k k1 k2 hk4=>by
    have hS:=hb k (c.tied k i (by omega) hi (tied_clash (by rw [hk4,h1]; rfl)))
    have:=hiOf_ge (l:=l) S ops.size k (by omega) hS (by unfold isEff; rw [hk4]; rfl)
    omega)
   rw [show hiOf l S ops.size+(i - hiOf l S ops.size)=i by omega] at this
   exact (stepI_cls1 h1 hvr hst).2 _ _ hat this.2.symm
 · rcases hiOf_in (l:=l) S ops.size with h | ⟨k,k1,k2,k3,k4⟩
   · omega
   · have:=hr.alike c.va (a:=i) (hiOf l S ops.size - i) (by rw [c.len]; have:=hiOf_le (l:=l) S ops.size; omega) (fun q q1 q2 hq4=>by
      have hqi:q ≠ i:=fun e=>by subst e; rw [h1] at hq4; cases hq4
      have hqS:S q=true:=by
       by_cases hqk:q=k
       · subst hqk; exact k3
       · refine c.cl k k1 k3 q (c.tied q k (by omega) k1 (tied_clash ?_))
         have:(l.getD k badOp).i.cls=2∨(l.getD k badOp).i.cls=4:=by unfold isEff at k4; simpa using k4
         rcases this with e | e<;>rw [hq4,e]<;>rfl
      have:=c.cl q (by omega) hqS i (c.tied i q (by omega) (by omega) (tied_clash (by rw [h1,hq4]; rfl)))
      rw [hiS] at this; cases this)
     rw [show i+(hiOf l S ops.size - i)=hiOf l S ops.size by omega] at this
     exact stepI_cls1' h1 hvr hst _ this.2
end main
theorem slots_reads {o:IOp} {s:Nat} (h:s ∈ o.i.slots):s ∈ o.reads:=by simp [IOp.reads,h]
theorem draw_sound {P:Program} {κ0:K} {nt:NT} {tok:List Nat} {ops:Array Oper} {K:Fr→Hp→Prop} {Q:Exit→Act→World→Prop} (hK:∀ κ fr H a w,κ0.le κ→SR κ nt fr H a w→K fr H→Q .normal a w)
 (hok:drawOk (ops.toList.map (compO P nt tok ops)) ops (Region.before ops)=true) {κ1:Zam.K} {fr:Fr} {H:Hp} {a:Act} {w:World} (h01 : κ0.le κ1) (hs1:SR κ1 nt fr H a w) (h:ADraw P (ops.toList.map (compO P nt tok ops)) K fr H) :
 wpAny P .any ops Q ops.size (Array.replicate ops.size false) a w:=by
 obtain ⟨frs,Hs,vs,r0,r1,hr,hfin⟩:=draw_run _ _ _ h
 generalize hl:ops.toList.map (compO P nt tok ops)=l at *
 have hlen:l.length=ops.size:=by rw [← hl]; simp
 rw [hlen] at hfin
 have hget:∀ (k:Nat) (o:Oper),ops[k]?=some o→l.getD k badOp=compO P nt tok ops o∧l[k]?=some (compO P nt tok ops o):=fun k o ho=>by
  have:l[k]?=some (compO P nt tok ops o):=by rw [← hl,List.getElem?_map]; simp [ho]
  exact ⟨getD_of this,this⟩
 subst r0
 subst r1
 have hR:Runs P l frs Hs vs:=hr
 unfold drawOk at hok
 simp only [List.all_eq_true,List.mem_range,Bool.and_eq_true,Bool.or_eq_true,Bool.not_eq_true',Array.all_eq_true_iff_forall_mem,decide_eq_true_eq] at hok
 obtain ⟨hok0,hok⟩:=hok
 have hvva:(l.any fun o=>o.i.vread)=true→∀ k,(l.getD k badOp).i.vapp=false:=fun h k=>by
  rw [Bool.and_eq_false_iff] at hok0
  rcases hok0 with h0 | h0
  · rw [h] at h0; cases h0
  · by_cases hk:k < l.length
    · rw [getD_of (List.getElem?_eq_getElem hk)]
      have:=List.any_eq_false.1 h0 _ (List.getElem_mem hk)
      simpa using this
    · simp [List.getD,List.getElem?_eq_none (Nat.le_of_not_lt hk),badOp,I.vapp]
 have htied:∀ i j,i < j→j < ops.size→tied (l.getD i badOp) (l.getD j badOp)=true→((Region.before ops).getD j 0).testBit i=true:=fun i j hij hj ht =>
  ((hok j hj).2 i hij).resolve_left (by rw [ht]; simp)
 have hedge:∀ j o,ops[j]?=some o→∀ e ∈ o.after,Region.binds .any e=true→e.on < j:=fun j o ho e he hb=>by
  have hj:j < ops.size:=(Array.getElem?_eq_some_iff.1 ho).1
  have:=(hok j hj).1 e (by simpa [ho] using he)
  exact this.resolve_left (by rw [hb]; simp)
 have done:∀ (listed:Array Bool) (κ:Zam.K) (a:Act) (w:World),(∀ k,k < ops.size→listed.getD k false=true) → κ0.le κ →
  SR κ nt (frOf l vs (frs 0) (fun k=>listed.getD k false) ops.size) (Hs (hiOf l (fun k=>listed.getD k false) ops.size)) a w→Q .normal a w:=by
  intro listed κ a w hall h0 hs
  have e1:∀ m,m≤ops.size→frOf l vs (frs 0) (fun k=>listed.getD k false) m=frs m:=fun m=>by
   induction m with
   | zero=>intro _; rfl
   | succ m ih =>
     intro hm
     have ho:=List.getElem?_eq_getElem (l:=l) (i:=m) (by omega)
     unfold frOf
     rw [if_pos (hall m (by omega)),ih (by omega),(hR m _ ho).2,getD_of ho]
  have e2:Hs (hiOf l (fun k=>listed.getD k false) ops.size)=Hs ops.size:=by
   have hle:=hiOf_le (l:=l) (fun k=>listed.getD k false) ops.size
   have:=hR.same (a:=hiOf l (fun k=>listed.getD k false) ops.size) (ops.size - hiOf l (fun k=>listed.getD k false) ops.size) (by omega) (fun k h1 h2=>by
    cases he:isEff l k with
    | false=>rfl
    | true=>have:=hiOf_ge (l:=l) (fun k=>listed.getD k false) ops.size k (by omega) (hall k (by omega)) he; omega)
   rw [← this]; congr 1; omega
  rw [e1 _ (Nat.le_refl _),e2] at hs
  exact hK κ _ _ a w h0 hs hfin
 have main:∀ (fuel:Nat) (listed:Array Bool) (κ:Zam.K) (a:Act) (w:World),listed.size=ops.size→(∀ j,j < ops.size→listed.getD j false=true→∀ k,((Region.before ops).getD j 0).testBit k=true→listed.getD k false=true) →
  κ0.le κ→SR κ nt (frOf l vs (frs 0) (fun k=>listed.getD k false) ops.size) (Hs (hiOf l (fun k=>listed.getD k false) ops.size)) a w→((List.range ops.size).filter fun k => !listed.getD k false).length≤fuel →
  wpAny P .any ops Q fuel listed a w:=by
  intro fuel
  induction fuel with
  | zero =>
    intro listed κ a w hsz hcl h0 hs hcnt
    have hall:∀ k,k < ops.size→listed.getD k false=true:=fun k hk=>by
     cases hk':listed.getD k false with
     | true=>rfl
     | false =>
       have:k ∈ (List.range ops.size).filter fun k => !listed.getD k false:=by simp only [List.mem_filter,List.mem_range]; exact ⟨hk,by rw [hk']; rfl⟩
       have:=List.length_pos_of_mem this
       omega
    refine ⟨?_,?_⟩
    · refine List.eq_nil_iff_forall_not_mem.2 fun i hi => ?_
      obtain ⟨h1,o,ho,-⟩:=mem_ready.1 hi
      have:=hall i (Array.getElem?_eq_some_iff.1 ho).1
      have hi':i < listed.size:=by rw [hsz]; exact (Array.getElem?_eq_some_iff.1 ho).1
      simp [hi'] at h1 this
      rw [h1] at this; cases this
    · exact done listed κ a w hall h0 hs
  | succ fuel ih =>
    intro listed κ a w hsz hcl h0 hs hcnt
    refine ⟨fun hnil => ?_,fun i hi => ?_⟩
    ·
     refine done listed κ a w (fun k hk => ?_) h0 hs
     induction k using Nat.strongRecOn with
     | _ k ihk =>
       cases hk':listed.getD k false with
       | true=>rfl
       | false =>
         exfalso
         have ho:ops[k]?=some ops[k]:=Array.getElem?_eq_getElem hk
         have:k ∈ Region.ready .any ops listed:=mem_ready.2 ⟨by
          have:k < listed.size:=by omega
          simp [this] at hk' ⊢; exact hk',ops[k],ho,fun e he hb=>ihk e.on (hedge k _ ho e he hb) (by have:=hedge k _ ho e he hb; omega)⟩
         rw [hnil] at this; cases this
    · obtain ⟨h1,o,ho,hbefore⟩:=mem_ready.1 hi
      have hi':i < ops.size:=(Array.getElem?_eq_some_iff.1 ho).1
      have hil:i < listed.size:=by omega
      have hiS:listed.getD i false=false:=by simp [hil] at h1 ⊢; exact h1
      have hb:∀ k,((Region.before ops).getD i 0).testBit k=true→listed.getD k false=true:=fun k hk=>by
       obtain ⟨e,he,hbe,hor⟩:=before_spec ho hk
       have hon:=hbefore e he hbe
       rcases hor with rfl | hor
       · exact hon
       · exact hcl e.on (by have:=hedge i o ho e he hbe; omega) hon k hor
      have c:Ctx ops l (fun k=>listed.getD k false):=⟨hlen,htied,hvva,hcl⟩
      obtain ⟨hgd,hg?⟩:=hget i o ho
      have hslot:∀ s ∈ (l.getD i badOp).reads,frOf l vs (frs 0) (fun k=>listed.getD k false) ops.size s=frs i s:=fun s hs=>by
       have:=c.slot hR hi' hiS hb hs ops.size (Nat.le_refl _)
       rwa [Nat.min_eq_right (by omega)] at this
      have follow:∀ κ' a' w',κ0.le κ'→SR κ' nt ((frOf l vs (frs 0) (fun k=>listed.getD k false) ops.size).put (l.getD i badOp).dst (vs i)) (Hs (hiOf l (fun k=>listed.getD k false || k == i) ops.size)) a' w' →
       wpAny P .any ops Q fuel (listed.setIfInBounds i true) a' w':=fun κ' a' w' h0' hs'=>by
       have hfun:(fun k=>(listed.setIfInBounds i true).getD k false)=fun k=>listed.getD k false || k == i:=funext fun k=>getD_setB listed i k hil
       refine ih _ κ' a' w' (by simpa using hsz) (fun j hj hjS k hk => ?_) h0' ?_ ?_
       · rw [getD_setB listed i _ hil] at hjS ⊢
         simp only [Bool.or_eq_true,beq_iff_eq] at hjS ⊢
         rcases hjS with hjS | rfl
         · exact .inl (hcl j hj hjS k hk)
         · exact .inl (hb k hk)
       · rw [hfun,c.next hi' hiS]; exact hs'
       · have hlt:((List.range ops.size).filter fun k => !(listed.setIfInBounds i true).getD k false).length < ((List.range ops.size).filter fun k => !listed.getD k false).length:=by
          have hsub:(List.range ops.size).filter (fun k => !(listed.setIfInBounds i true).getD k false)=((List.range ops.size).filter fun k => !listed.getD k false).filter fun k => !(k == i):=by
           rw [List.filter_filter]
           refine List.filter_congr fun k _ => ?_
           rw [getD_setB listed i k hil]
           cases listed.getD k false<;>cases (k == i)<;>rfl
          rw [hsub]
          refine List.length_filter_lt_length_iff_exists.2 ⟨i,?_,by simp⟩
          simp only [List.mem_filter,List.mem_range]
          exact ⟨hi',by rw [hiS]; rfl⟩
         omega
      obtain ⟨hstep,-⟩:=hR i _ hg?
      have hbad:compO P nt tok ops o ≠ badOp:=fun e=>by
       rw [e] at hstep
       simp only [StepG,badOp,StepD,EntersR,Arg.ev,I.cls] at hstep
       rcases hstep with ⟨h,-⟩ | ⟨h,-⟩
       · exact h
       · exact h rfl
      obtain ⟨g,ii,hgu,hci,hdst,hcomp⟩:=(compO_spec (P:=P) (nt:=nt) (tok:=tok) (ops:=ops) (o:=o)).resolve_left hbad
      rw [hcomp] at hstep hgd
      have hread:∀ s,s ∈ (l.getD i badOp).i.slots→frOf l vs (frs 0) (fun k=>listed.getD k false) ops.size s=frs i s:=fun s hs=>hslot s (slots_reads hs)
      rw [hgd] at hread
      simp only at hread
      have doit:StepD P (frs i) (Hs i) ii (vs i) (Hs (i+1))→o.wp P a w (wpAny P .any ops Q fuel (listed.setIfInBounds i true)) Q:=by
       intro hsd
       rcases hsd with ⟨hent,hH⟩ | ⟨hcls,hst⟩
       ·
        rcases enters_cls hent with h3 | h3
        case inr =>
         obtain ⟨-,hHi⟩:=c.exact hR hi' hiS hb (by rw [hgd]; simp only [h3]; rintro q (rfl | rfl)<;>exact ⟨rfl,rfl⟩)
         have hent':=(enters_congr hread).2 hent
         obtain ⟨f,us,ars,hrun,hl',hv,hcall⟩:=enters_sound hci hs hent'
         unfold Oper.wp
         rw [hrun,Oper.upon_enter]
         rw [← hHi] at hcall
         refine (hcall κ w us hs.hr hl' hv).mono ?_
         rintro e w' ⟨v,κ',x,H',rfl,k1,k2,k3,rfl,rfl⟩
         refine follow κ' _ w' (h0.trans k1) ?_
         rw [c.eff hi' hiS (by unfold isEff; rw [hgd]; simp only [h3]; rfl),hgd]
         exact hs.put k1 k2 hdst k3
        obtain rfl_:Hs (i+1)=Hs i:=hH.resolve_left (by rw [h3]; decide)
        rw [rfl_] at hent
        obtain ⟨-,hHi⟩:=c.exact hR hi' hiS hb (by rw [hgd]; simp only [h3]; rintro q (rfl | rfl)<;>exact ⟨rfl,rfl⟩)
        have hent':=(enters_congr hread).2 hent
        obtain ⟨f,us,ars,hrun,hl',hv,hcall⟩:=enters_sound hci hs hent'
        unfold Oper.wp
        rw [hrun,Oper.upon_enter]
        rw [← hHi] at hcall
        refine (hcall κ w us hs.hr hl' hv).mono ?_
        rintro e w' ⟨v,κ',x,H',rfl,k1,k2,k3,rfl,rfl⟩
        refine follow κ' _ w' (h0.trans k1) ?_
        rw [Ctx.hi_quiet (by unfold isEff; rw [hgd]; simp only [h3]; rfl),hgd]
        exact hs.put k1 k2 hdst k3
       · have hnext:stepI (frOf l vs (frs 0) (fun k=>listed.getD k false) ops.size) (Hs (hiOf l (fun k=>listed.getD k false) ops.size)) ii=some (vs i,Hs (hiOf l (fun k=>listed.getD k false || k == i) ops.size)):=by
          have hcong:stepI (frOf l vs (frs 0) (fun k=>listed.getD k false) ops.size) (Hs i) ii=some (vs i,Hs (i+1)):=by rw [stepI_congr hread]; exact hst
          rcases cls_le ii with h4 | h4 | h4 | h4 | h4
          · rw [Ctx.hi_quiet (by unfold isEff; rw [hgd]; simp only [h4]; rfl)]
            exact (stepI_cls0 h4 hcong).2 _
          · rw [Ctx.hi_quiet (by unfold isEff; rw [hgd]; simp only [h4]; rfl)]
            have:=c.load hR hi' hiS hb (by rw [hgd]; exact h4) (fr:=frOf l vs (frs 0) (fun k=>listed.getD k false) ops.size) (v:=vs i) (H':=Hs (i+1)) (by rw [hgd]; exact hcong) (fun s _ j hj=>(hs.vr s).at_lt hs.hr.dom hj)
            rw [hgd] at this
            exact this
          · obtain ⟨-,hHi⟩:=c.exact hR hi' hiS hb (by rw [hgd]; simp only [h4]; rintro q (rfl | rfl)<;>exact ⟨rfl,rfl⟩)
            rw [hHi,c.eff hi' hiS (by unfold isEff; rw [hgd]; simp only [h4]; rfl)]
            exact hcong
          · exact absurd h4 hcls
          · obtain ⟨-,hHi⟩:=c.exact hR hi' hiS hb (by rw [hgd]; simp only [h4]; rintro q (rfl | rfl)<;>exact ⟨rfl,rfl⟩)
            rw [hHi,c.eff hi' hiS (by unfold isEff; rw [hgd]; simp only [h4]; rfl)]
            exact hcong
         obtain ⟨u,w',κ',hrun,k1,k2,k3⟩:=step_sound hci hs hnext
         have hfin':=follow κ' (a.put o.dst u) w' (h0.trans k1) (by rw [hgd]; exact hs.put k1 k2 hdst k3)
         unfold Oper.wp
         rcases hrun with hrun | ⟨hrun,rfl⟩
         · rw [hrun,Oper.upon_value]; exact hfin'
         · rw [hrun,Oper.upon_skip]; exact hfin'
      unfold wpOp
      simp only [ho]
      cases g with
      | none =>
        rw [if_pos (wanted_none hgu _)]
        exact .inl (doit hstep)
      | some sb =>
        obtain ⟨s,b⟩:=sb
        have hsl:=hslot s (by rw [hgd]; simp [IOp.reads])
        rw [wanted_some hgu]
        have hgs:∀ T F:Prop,(frs i s = .d (.bool b)→T)→((frs i s = .d (.bool (!b))∨frs i s = .tup [])→F)→(frs i s = .d (.bool b)∨(frs i s = .d (.bool (!b))∨frs i s = .tup [])) →
         (tmpIs a.tmps s b=true∧T)∨(tmpIs a.tmps s b=false∧F):=fun T F hT hF hor=>by
         have:=guard_sound hs (s:=s) (b:=b) (T:=fun _=>T) (F:=fun _=>F) (by
          rw [hsl]
          rcases hor with e | e | e
          · rw [e]; simp only [AGd,if_true]; exact hT e
          · rw [e]; simp only [AGd]; rw [if_neg (by cases b<;>simp)]; exact hF (.inl e)
          · rw [e]; exact hF (.inr e))
         exact this
        rcases hstep with ⟨e,hsd⟩ | ⟨e,hv,hH⟩
        · rcases hgs True False (fun _=>trivial) (fun hh=>by rw [e] at hh; rcases hh with hh | hh; (cases b<;>cases hh); cases hh) (.inl e) with ⟨h5,-⟩ | ⟨-,h5⟩
          · rw [h5]; simp only [if_true]; exact .inl (doit hsd)
          · exact h5.elim
        · rcases hgs False True (fun hh=>by rcases e with e | e; (rw [e] at hh; cases b<;>cases hh); (rw [e] at hh; cases hh)) (fun _=>trivial) (.inr e) with ⟨-,h5⟩ | ⟨h5,-⟩
          · exact h5.elim
          · rw [h5]
            simp only [Bool.false_eq_true,if_false]
            refine follow κ _ w h0 ?_
            have hHn:Hs (hiOf l (fun k=>listed.getD k false || k == i) ops.size)=Hs (hiOf l (fun k=>listed.getD k false) ops.size):=by
             by_cases he:isEff l i=true
             · have h24:(l.getD i badOp).i.cls=2∨(l.getD i badOp).i.cls=4:=by unfold isEff at he; simpa using he
               obtain ⟨-,hHi⟩:=c.exact hR hi' hiS hb (by rcases h24 with e | e<;>rw [e]<;>rintro q (rfl | rfl)<;>exact ⟨rfl,rfl⟩)
               rw [hHi,c.eff hi' hiS he,hH]
             · rw [Ctx.hi_quiet (by simpa using he)]
            rw [hHn,hgd,hv]
            exact hs.put (Zam.K.le_refl κ) hs.hr hdst (.tup [] [] rfl (by simp))
 refine main ops.size _ κ1 a w (by simp) ?_ h01 ?_ ?_
 · intro j _ hj; rw [getD_replicate] at hj; cases hj
 · have e1:∀ n,frOf l vs (frs 0) (fun k=>(Array.replicate ops.size false).getD k false) n=frs 0:=fun n=>by
    induction n with
    | zero=>rfl
    | succ n ih=>unfold frOf; rw [if_neg (by rw [getD_replicate]; simp)]; exact ih
   have e2:∀ n,hiOf l (fun k=>(Array.replicate ops.size false).getD k false) n=0:=fun n=>by
    induction n with
    | zero=>rfl
    | succ n ih=>unfold hiOf; rw [if_neg (by rw [getD_replicate]; simp)]; exact ih
   rw [e1,e2]; exact hs1
 · exact Nat.le_trans (List.length_filter_le _ _) (by simp)
end
section
open Go.RowKit (Below)
theorem runI_congr {P:Program} {fr fr':Fr} {H:Hp} {i:I} {K:A→Hp→Prop} (h:∀ s ∈ i.slots,fr' s=fr s):runI P fr' H i K=runI P fr H i K:=by
 cases i with
 | call f l=>simp only [runI]; rw [map_ev_congr h]
 | callE f l=>simp only [runI]; rw [map_ev_congr h]
 | callv f l =>
   simp only [I.slots,List.mem_append] at h
   simp only [runI]
   rw [ev_congr (x:=f) fun s hs=>h s (.inl hs),map_ev_congr (l:=l) fun s hs=>h s (.inr hs)]
 | _=>simp only [runI]; rw [stepI_congr h]
theorem runI_mono {P:Program} {fr:Fr} {H:Hp} {i:I} {K K':A→Hp→Prop} (h:runI P fr H i K) (hk:∀ v H',K v H'→K' v H'):runI P fr H i K':=by
 cases i with
 | call f l=>exact ACall.mono h hk
 | callE f l=>exact ACall.mono h hk
 | callv f l =>
   simp only [runI] at h ⊢
   split at h
   · exact ⟨h.1,h.2.mono hk⟩
   · exact ⟨h.1,h.2.mono hk⟩
   · exact h.elim
 | _ =>
   simp only [runI] at h ⊢
   split at h
   · exact hk _ _ h
   · exact h.elim
theorem AOps1_mono {P:Program} {fr fr':Fr} {H:Hp} {o:IOp} {K K':Fr→Hp→Prop} (hf:∀ s ∈ o.reads,fr' s=fr s) (h:AOps P [o] K fr H) (hk:∀ v H',K (fr.put o.dst v) H'→K' (fr'.put o.dst v) H'):AOps P [o] K' fr' H:=by
 have hs:∀ s ∈ o.i.slots,fr' s=fr s:=fun s hs=>hf s (slots_reads hs)
 simp only [AOps] at h ⊢
 cases hg:o.g with
 | none =>
   rw [hg] at h
   simp only at h ⊢
   rw [runI_congr hs]
   exact runI_mono h fun v H'=>hk v H'
 | some sb =>
   obtain ⟨s,b⟩:=sb
   rw [hg] at h
   simp only [AGd] at h ⊢
   rw [hf s (by simp [IOp.reads,hg])]
   split at h
   · split at h
     · rename_i e; rw [if_pos e,runI_congr hs]; exact runI_mono h fun v H'=>hk v H'
     · rename_i e; rw [if_neg e]; exact hk _ _ h
   · exact hk _ _ h
   · exact h.elim
def AAny (P:Program) (ops:Array Oper) (l:List IOp) (K:Fr→Hp→Prop):Nat→Array Bool→Fr→Hp→Prop
 | 0,listed,fr,H=>Region.ready .any ops listed=[]∧K fr H
 | n+1,listed,fr,H=>(Region.ready .any ops listed=[]→K fr H)∧∀ i ∈ Region.ready .any ops listed,AOps P [l.getD i badOp] (AAny P ops l K n (listed.setIfInBounds i true)) fr H
theorem op1_sound {P:Program} {κ0:K} {nt:NT} {tok:List Nat} {ops:Array Oper} {K:Fr→Hp→Prop} {next:Act→World→Prop} {Q:Exit→Act→World→Prop} (hn:∀ κ fr H a w,κ0.le κ→SR κ nt fr H a w→K fr H→next a w)
 {i:Nat} {o:Oper} (ho:ops[i]?=some o) {κ:Zam.K} {fr:Fr} {H:Hp} {a:Act} {w:World} (h0 : κ0.le κ) (hs:SR κ nt fr H a w) (h:AOps P [compO P nt tok ops o] K fr H):wpOp P ops Q i next a w:=by
 simp only [AOps] at h
 rcases compO_spec (P:=P) (nt:=nt) (tok:=tok) (ops:=ops) (o:=o) with hb | ⟨g,ii,hg,hi,hd,hcomp⟩
 · rw [hb] at h; simp [badOp,runI,Arg.ev] at h
 · rw [hcomp] at h
   simp only at h
   have step:∀ fr,SR κ nt fr H a w→runI P fr H ii (fun v H'=>K (fr.put o.dst v) H')→o.wp P a w next Q:=fun fr hs h =>
    op_sound hi hd h0 hs h (fun κ' v H' u w' h0' hs' hk=>hn κ' _ _ _ _ h0' hs' hk)
   unfold wpOp
   rw [ho]
   simp only
   cases g with
   | none =>
     simp only at h
     rw [if_pos (wanted_none hg _)]
     exact .inl (step fr hs h)
   | some sb =>
     obtain ⟨s,b⟩:=sb
     simp only at h
     rw [wanted_some hg]
     rcases guard_sound hs h with ⟨h1,h2⟩ | ⟨h1,h2⟩
     · rw [h1]; simp only [if_true]; exact .inl (step fr hs h2)
     · rw [h1]
       simp only [Bool.false_eq_true,if_false]
       exact hn κ _ _ _ _ h0 (hs.put (Zam.K.le_refl κ) hs.hr hd (.tup [] [] rfl (by simp))) h2
theorem any_sound {P:Program} {κ0:K} {nt:NT} {tok:List Nat} {ops:Array Oper} {K:Fr→Hp→Prop} {Q:Exit→Act→World→Prop} (hK:∀ κ fr H a w,κ0.le κ→SR κ nt fr H a w→K fr H→Q .normal a w) :
 ∀ (n:Nat) (listed:Array Bool) (κ:Zam.K) (fr:Fr) (H:Hp) (a:Act) (w:World),κ0.le κ→SR κ nt fr H a w→AAny P ops (ops.toList.map (compO P nt tok ops)) K n listed fr H→wpAny P .any ops Q n listed a w:=by
 intro n
 induction n with
 | zero=>intro listed κ fr H a w h0 hs h; exact ⟨h.1,hK κ fr H a w h0 hs h.2⟩
 | succ n ih =>
   intro listed κ fr H a w h0 hs h
   refine ⟨fun e=>hK κ fr H a w h0 hs (h.1 e),fun i hi => ?_⟩
   obtain ⟨-,o,ho,-⟩:=mem_ready.1 hi
   have h1:=h.2 i hi
   have:(ops.toList.map (compO P nt tok ops)).getD i badOp=compO P nt tok ops o:=by
    have:(ops.toList.map (compO P nt tok ops))[i]?=some (compO P nt tok ops o):=by rw [List.getElem?_map]; simp [ho]
    exact getD_of this
   rw [this] at h1
   exact op1_sound (fun κ fr H a w h0 hs h=>ih _ κ fr H a w h0 hs h) ho h0 hs h1
theorem put_comm' {fr:Fr} {d d':Option Nat} {v v':A} (h:∀ x,d=some x→d' ≠ some x):(fr.put d v).put d' v'=(fr.put d' v').put d v:=by
 cases d with
 | none=>rfl
 | some x =>
   cases d' with
   | none=>rfl
   | some y =>
     have hxy:x ≠ y:=fun e=>h x rfl (by rw [e])
     funext s
     simp only [Fr.put,Fr.set]
     by_cases h1:s=x<;>by_cases h2:s=y<;>simp_all
theorem put_away {fr:Fr} {d:Option Nat} {v:A} {s:Nat} (h:d ≠ some s):(fr.put d v) s=fr s:=by
 cases d with
 | none=>rfl
 | some x=>simp only [Fr.put,Fr.set]; rw [if_neg]; intro e; exact h (by rw [e])
theorem slotTied_no {a b:IOp} (h:slotTied a b=false):(∀ d,a.dst=some d→d ∉ b.reads∧b.dst ≠ some d)∧∀ d,b.dst=some d→d ∉ a.reads:=by
 unfold slotTied at h
 rw [Bool.or_eq_false_iff] at h
 refine ⟨fun d hd => ?_,fun d hd => ?_⟩
 · have:=h.1; rw [hd] at this; simpa using this
 · have:=h.2; rw [hd] at this; simpa using this
theorem AOps1_pure {P:Program} {fr:Fr} {H:Hp} {o:IOp} {K:Fr→Hp→Prop} (hc:o.i.cls=0) (hg:o.g=none) (h:AOps P [o] K fr H):∃ v,(∀ H2,stepI fr H2 o.i=some (v,H2))∧K (fr.put o.dst v) H:=by
 simp only [AOps] at h
 rw [hg] at h
 simp only at h
 rcases stepI_runI h with ⟨f,l,e | e⟩ | ⟨f,l,e⟩ | ⟨v,H',hst,hk⟩
 · rw [e] at hc; cases hc
 · rw [e] at hc; cases hc
 · rw [e] at hc; cases hc
 · obtain ⟨h1,h2⟩:=stepI_cls0 hc hst
   subst h1
   exact ⟨v,h2,hk⟩
theorem AOps1_of {P:Program} {fr:Fr} {H:Hp} {o:IOp} {K:Fr→Hp→Prop} (hc:o.i.cls=0) (hg:o.g=none) {v:A} (h:stepI fr H o.i=some (v,H)) (hk:K (fr.put o.dst v) H):AOps P [o] K fr H:=by
 simp only [AOps]
 rw [hg]
 simp only
 generalize o.i=i at hc h
 cases i<;>first | (simp only [I.cls] at hc; exact absurd hc (by decide)) | (simp only [runI,h]; exact hk)
theorem set_comm {listed:Array Bool} {i j:Nat}:(listed.setIfInBounds i true).setIfInBounds j true=(listed.setIfInBounds j true).setIfInBounds i true:=by
 by_cases h:i=j
 · subst h; rfl
 · apply Array.ext'
   simp only [Array.toList_setIfInBounds]
   exact List.set_comm _ _ h
theorem any_first {P:Program} {ops:Array Oper} {l:List IOp} {K:Fr→Hp→Prop} {i:Nat}:∀ (n:Nat) (listed:Array Bool) (fr:Fr) (H:Hp),i ∈ Region.ready .any ops listed→firstOk l ops listed i=true →
 AOps P [l.getD i badOp] (AAny P ops l K n (listed.setIfInBounds i true)) fr H→AAny P ops l K (n+1) listed fr H:=by
 intro n
 induction n with
 | zero =>
   intro listed fr H hi hf h
   refine ⟨fun e=>by (rw [e] at hi; cases hi),fun j hj => ?_⟩
   by_cases hij:j=i
   · subst hij; exact h
   · exfalso
     unfold firstOk at hf
     simp only [Bool.and_eq_true,beq_iff_eq,Option.isNone_iff_eq_none] at hf
     obtain ⟨v,-,hk⟩:=AOps1_pure hf.1.1 hf.1.2 h
     have:=hk.1
     have hj':j ∈ Region.ready .any ops (listed.setIfInBounds i true):=by
      obtain ⟨h1,o,ho,h2⟩:=mem_ready.1 hj
      refine mem_ready.2 ⟨by rw [getD_set_ne _ (fun e=>hij e.symm)]; exact h1,o,ho,fun e he hb => ?_⟩
      by_cases hei:i=e.on
      · rw [← hei]
        obtain ⟨h3,_,ho',_⟩:=mem_ready.1 hi
        by_cases hlt:i < listed.size
        · simp [hlt]
        · simp [hlt] at h3
      · rw [getD_set_ne _ hei]; exact h2 e he hb
     rw [this] at hj'; cases hj'
 | succ n ih =>
   intro listed fr H hi hf h
   refine ⟨fun e=>by (rw [e] at hi; cases hi),fun j hj => ?_⟩
   by_cases hij:j=i
   · subst hij; exact h
   · have hf0:=hf
     unfold firstOk at hf
     simp only [Bool.and_eq_true,beq_iff_eq,Option.isNone_iff_eq_none] at hf
     obtain ⟨⟨hc,hg⟩,hall⟩:=hf
     obtain ⟨v,hst,hk⟩:=AOps1_pure hc hg h
     obtain ⟨hi1,oi,hoi,hi2⟩:=mem_ready.1 hi
     obtain ⟨hj1,oj,hoj,hj2⟩:=mem_ready.1 hj
     have hisz:i < listed.size:=by
      by_cases hlt:i < listed.size
      · exact hlt
      · simp [hlt] at hi1
     have hjsz:j < listed.size:=by
      by_cases hlt:j < listed.size
      · exact hlt
      · simp [hlt] at hj1
     have hjr:j ∈ Region.ready .any ops (listed.setIfInBounds i true):=by
      refine mem_ready.2 ⟨by rw [getD_set_ne _ (fun e=>hij e.symm)]; exact hj1,oj,hoj,fun e he hb => ?_⟩
      by_cases hei:i=e.on
      · rw [← hei]; simp [hisz]
      · rw [getD_set_ne _ hei]; exact hj2 e he hb
     have hir:i ∈ Region.ready .any ops (listed.setIfInBounds j true):=by
      refine mem_ready.2 ⟨by rw [getD_set_ne _ hij]; exact hi1,oi,hoi,fun e he hb => ?_⟩
      by_cases hei:j=e.on
      · rw [← hei]; simp [hjsz]
      · rw [getD_set_ne _ hei]; exact hi2 e he hb
     have hfj:firstOk l ops (listed.setIfInBounds j true) i=true:=by
      unfold firstOk
      simp only [Bool.and_eq_true,beq_iff_eq,Option.isNone_iff_eq_none]
      refine ⟨⟨hc,hg⟩,?_⟩
      rw [List.all_eq_true] at hall ⊢
      intro k hk'
      have:=hall k hk'
      simp only [Bool.or_eq_true] at this ⊢
      rcases this with (((h1 | h1) | h1) | h1)
      · exact .inl (.inl (.inl h1))
      · refine .inl (.inl (.inr ?_))
        rw [getD_setB listed j k hjsz]; simp [h1]
      · exact .inl (.inr h1)
      · exact .inr h1
     have hnt:slotTied (l.getD i badOp) (l.getD j badOp)=false:=by
      rw [List.all_eq_true] at hall
      have hjo:j < ops.size:=(Array.getElem?_eq_some_iff.1 hoj).1
      have:=hall j (List.mem_range.2 hjo)
      simp only [Bool.or_eq_true,beq_iff_eq,Bool.not_eq_true'] at this
      rcases this with (((h1 | h1) | h1) | h1)
      · exact absurd h1 hij
      · have h3:listed.getD j true=true:=by
         simp [hjsz] at h1 ⊢; exact h1
        rw [h3] at hj1; cases hj1
      · exfalso
        have hjd:ops.getD j default=oj:=by simp [hoj]
        rw [hjd] at h1
        unfold waits at h1
        rw [Array.any_eq_true'] at h1
        obtain ⟨e,he,h4⟩:=h1
        simp only [Bool.and_eq_true,beq_iff_eq] at h4
        have:=hj2 e he h4.1
        rw [h4.2] at this
        simp [hisz] at this hi1
        rw [hi1] at this; cases this
      · exact h1
     obtain ⟨t1,t2⟩:=slotTied_no hnt
     have hj':=hk.2 j hjr
     refine AOps1_mono (fr:=fr.put (l.getD i badOp).dst v) (fun s hs => ?_) hj' fun vj Hj hkj => ?_
     · rw [put_away]
       intro e; exact (t1 s e).1 hs
     · refine ih _ _ _ hir hfj (AOps1_of hc hg (v:=v) ?_ ?_)
       · rw [stepI_congr (fr:=fr)]
         · exact hst Hj
         · intro s hs
           rw [put_away]
           intro e; exact t2 s e (slots_reads hs)
       · rw [put_comm' (fun x hx e=>(t1 x e).2 hx),set_comm]
         exact hkj
theorem AWp_alts {P:Program} {n0:Nat} {Q:Ex→Fr→Hp→Prop} {fr:Fr} {H:Hp}:∀ (cs:List C),AWp P n0 (alts cs) Q fr H→∀ c ∈ cs,AWp P n0 c Q fr H
 | [],_,c,hc=>by cases hc
 | [c],h,c',hc=>by simp at hc; subst hc; exact h
 | c :: c2 :: r, h, c', hc => by
   simp only [alts,AWp] at h
   rcases List.mem_cons.1 hc with rfl | hc
   · exact h.1
   · exact AWp_alts (c2 :: r) h.2 c' hc
theorem orders_any {P:Program} {n0:Nat} {Q:Ex→Fr→Hp→Prop} {ops:Array Oper} {l:List IOp}:∀ (n b:Nat) (listed:Array Bool) (fr:Fr) (H:Hp),AWp P n0 (orders l ops n b listed) Q fr H→AAny P ops l (Q .normal) n listed fr H:=by
 intro n
 induction n with
 | zero =>
   intro b listed fr H h
   unfold orders at h
   split at h
   · rename_i e; exact ⟨List.isEmpty_iff.1 e,h⟩
   · exact h.elim
 | succ n ih =>
   intro b listed fr H h
   unfold orders at h
   simp only at h
   split at h
   · rename_i e
     have e':=List.isEmpty_iff.1 e
     exact ⟨fun _=>h,fun i hi=>by rw [e'] at hi; cases hi⟩
   · split at h
     · rename_i i hi
       refine any_first n listed fr H (List.mem_of_find?_eq_some hi) (by simpa using List.find?_some hi) ?_
       simp only [AWp] at h
       exact AOps1_mono (fun _ _=>rfl) h fun v H' hk=>ih _ _ _ _ hk
     · split at h
       · exact h.elim
       · refine ⟨fun e=>absurd (List.isEmpty_iff.2 e) (by assumption),fun i hi => ?_⟩
         have:=AWp_alts _ h _ (List.mem_map.2 ⟨i,hi,rfl⟩)
         simp only [AWp] at this
         exact AOps1_mono (fun _ _=>rfl) this fun v H' hk=>ih _ _ _ _ hk
theorem readyL_iff {ops:Array Oper} {listed:Array Bool} {i:Nat}:i ∈ readyL (waitsL ops) listed.toList ↔ i ∈ Region.ready .any ops listed:=by
 unfold readyL waitsL Region.ready
 simp only [List.mem_filter,List.mem_range,List.length_map,Array.length_toList]
 refine and_congr_right fun hi => ?_
 have e:ops[i]?=some ops[i]:=Array.getElem?_eq_getElem hi
 have g:∀ (j:Nat) (b:Bool),listed.toList.getD j b=listed.getD j b:=fun j b=>by simp [List.getD,Array.getD_eq_getD_getElem?]
 have h1:(ops.toList.map fun o=>(o.after.toList.filter (Region.binds .any)).map (·.on)).getD i []=((ops[i]).after.toList.filter (Region.binds .any)).map (·.on):=by
  simp [List.getD,hi]
 rw [h1,e]
 simp only [Option.map_some,Option.getD_some,Bool.and_eq_true,List.all_eq_true,List.mem_map,List.mem_filter,Array.all_eq_true',Bool.or_eq_true,Bool.not_eq_true',g]
 refine and_congr_right fun _=>⟨fun h ed he => ?_,?_⟩
 · cases hb:Region.binds .any ed with
   | false=>exact .inl rfl
   | true=>exact .inr (h _ ⟨ed,⟨by simpa using he,hb⟩,rfl⟩)
 · rintro h _ ⟨ed,⟨he,hb⟩,rfl⟩
   rcases h ed (by simpa using he) with h | h
   · rw [hb] at h; cases h
   · exact h
theorem any_inv {P:Program} {ops:Array Oper} {l:List IOp} {K:Fr→Hp→Prop} {Inv:List Bool→Fr→Hp→Prop}
 (hi:∀ (S:List Bool) (fr:Fr) (H:Hp),S.length=ops.size→Inv S fr H→(readyL (waitsL ops) S=[]→K fr H)∧∀ i ∈ readyL (waitsL ops) S,AOps P [l.getD i badOp] (Inv (S.set i true)) fr H) :
 ∀ (n:Nat) (listed:Array Bool) (fr:Fr) (H:Hp),listed.size=ops.size→listed.toList.count false≤n→Inv listed.toList fr H→AAny P ops l K n listed fr H:=by
 have nil:∀ (listed:Array Bool),Region.ready .any ops listed=[]→readyL (waitsL ops) listed.toList=[]:=fun listed h=>by
  refine List.eq_nil_iff_forall_not_mem.2 fun i hi => ?_
  have:=readyL_iff.1 hi
  rw [h] at this; cases this
 intro n
 induction n with
 | zero =>
   intro listed fr H hs hc h
   have he:Region.ready .any ops listed=[]:=by
    refine List.eq_nil_iff_forall_not_mem.2 fun i hi => ?_
    obtain ⟨h1,o,ho,-⟩:=mem_ready.1 hi
    have hil:i < listed.size:=by rw [hs]; exact (Array.getElem?_eq_some_iff.1 ho).1
    have h2:listed.toList.count false=0:=Nat.le_zero.1 hc
    rw [List.count_eq_zero] at h2
    refine h2 ?_
    have h3:listed.toList[i]'(by simpa using hil)=false:=by
     simpa [Array.getD_eq_getD_getElem?,hil] using h1
    rw [← h3]; exact List.getElem_mem _
   exact ⟨he,(hi _ fr H (by simpa using hs) h).1 (nil _ he)⟩
 | succ n ih =>
   intro listed fr H hs hc h
   obtain ⟨h1,h2⟩:=hi _ fr H (by simpa using hs) h
   refine ⟨fun e=>h1 (nil _ e),fun i hi => ?_⟩
   refine AOps1_mono (fun _ _=>rfl) (h2 i (readyL_iff.2 hi)) fun v H' hk=>ih _ _ _ (by simpa using hs) ?_ (by simpa using hk)
   obtain ⟨hf,o,ho,-⟩:=mem_ready.1 hi
   have hil:i < listed.size:=by rw [hs]; exact (Array.getElem?_eq_some_iff.1 ho).1
   have h3:listed.toList[i]'(by simpa using hil)=false:=by
    simpa [Array.getD_eq_getD_getElem?,hil] using hf
   have h4:(listed.setIfInBounds i true).toList.count false=listed.toList.count false - 1:=by
    rw [Array.toList_setIfInBounds,List.count_set (h:=by simpa using hil),h3]; rfl
   have h5:0 < listed.toList.count false:=List.count_pos_iff.2 (by rw [← h3]; exact List.getElem_mem _)
   omega
theorem awp_sound {P:Program} {κ0:K} {nt:NT} {n0:Nat} {tok:List Nat} (hd0:∀ i,n0≤i → κ0.β i = .none):∀ (code:Code) (Q:Ex→Fr→Hp→Prop) (κ:K) (fr:Fr) (H:Hp) (a:Act) (w:World),κ0.le κ→SR κ nt fr H a w →
 AWp P n0 (compC P nt tok code) Q fr H→code.wp P (Post κ0 nt Q) a w:=by
 intro code
 induction code with
 | skip=>intro Q κ fr H a w h0 hs h; exact wp_skip ⟨κ,fr,H,.normal,trivial,h0,hs,h⟩
 | region id ops draw =>
   intro Q κ fr H a w h0 hs h
   have hK:∀ κ fr H a w,κ0.le κ→SR κ nt fr H a w→Q .normal fr H→Post κ0 nt Q .normal a w:=fun κ fr H a w h0 hs h=>⟨κ,fr,H,.normal,trivial,h0,hs,h⟩
   cases draw with
   | false =>
     simp only [compC,AWp] at h
     exact wp_region_list (ops_sound hK _ κ fr H a w h0 hs h)
   | true =>
     simp only [compC] at h
     split at h
     · rename_i hok
       simp only [Bool.and_eq_true] at hok
       simp only [AWp] at h
       exact wp_region_any hok.1.2 (draw_sound hK hok.1.1 (w:=w.drew) h0 ⟨hs.size,hs.defers,hs.hr.drew,hs.vr⟩ h)
     · split at h
       · rename_i hmix
         simp only [Bool.and_eq_true] at hmix
         simp only [AWp] at h
         obtain ⟨Inv,h1,h2⟩:=h
         have hw:(waitsL ops).length=ops.size:=by simp [waitsL]
         rw [hw] at h1 h2
         exact wp_region_any hmix.1 (any_sound hK _ _ κ fr H a w.drew h0 ⟨hs.size,hs.defers,hs.hr.drew,hs.vr⟩ (any_inv h2 _ _ _ _ (by simp) (by simp) (by simpa using h1)))
       split at h
       · rename_i hmix
         exact wp_region_any hmix (any_sound hK _ _ κ fr H a w.drew h0 ⟨hs.size,hs.defers,hs.hr.drew,hs.vr⟩ (orders_any _ _ _ _ _ h))
       · simp [AWp] at h
 | seq x y ihx ihy =>
   intro Q κ fr H a w h0 hs h
   simp only [compC,AWp] at h
   refine wp_seq (wp_mono (ihx _ κ fr H a w h0 hs h) ?_)
   rintro e a' w' ⟨κ',fr',H',e',he,h0',hs',hq⟩
   cases e<;>cases e'<;>simp only [ExR] at he
   · exact ihy _ κ' fr' H' a' w' h0' hs' hq
   · exact ⟨κ',fr',H',.exit _,he,h0',hs',hq⟩
   · exact ⟨κ',fr',H',.ret,trivial,h0',hs',hq⟩
 | cond c x y ihx ihy =>
   intro Q κ fr H a w h0 hs h
   simp only [compC] at h
   split at h
   · rename_i c' hc
     simp only [AWp,ABr] at h
     split at h
     · rename_i t e
       have hv:=cArg_sound hc hs
       rw [e] at hv
       refine wp_cond hv.bool_inv ?_
       cases t with
       | true=>simp only [if_true] at h ⊢; exact ihx Q κ fr H a w h0 hs h
       | false=>simp only [Bool.false_eq_true,if_false] at h ⊢; exact ihy Q κ fr H a w h0 hs h
     · exact h.elim
   · exact h.elim
 | block id c ih =>
   intro Q κ fr H a w h0 hs h
   simp only [compC,AWp] at h
   refine wp_block (wp_mono (ih _ κ fr H a w h0 hs h) ?_)
   rintro e a' w' ⟨κ',fr',H',e',he,h0',hs',hq⟩
   cases e<;>cases e'<;>simp only [ExR] at he
   · exact ⟨κ',fr',H',.normal,trivial,h0',hs',hq⟩
   · rename_i i j
     subst he
     simp only [Ex.blk] at hq
     simp only [Exit.inBlock]
     split at hq
     · rename_i e; rw [if_pos e]; exact ⟨κ',fr',H',.normal,trivial,h0',hs',hq⟩
     · rename_i e; rw [if_neg e]; exact ⟨κ',fr',H',.exit _,rfl,h0',hs',hq⟩
   · exact ⟨κ',fr',H',.ret,trivial,h0',hs',hq⟩
 | loop c ih =>
   intro Q κ fr H a w h0 hs h
   simp only [compC,AWp] at h
   obtain ⟨m,J,μ,hm1,hm2,hJ,hround⟩:=h
   have hcut:∀ k,m≤k→∀ κ:K,κ0.le κ → κ0.le (κ.cut k):=fun k hk κ h=>K.le_cut h fun i hi=>hd0 i (by omega)
   refine wp_loop_ghost (fun n a w=>∃ κ fr H,κ0.le κ∧SR κ nt fr H a w∧J fr H ∧ μ fr H=n) _ ⟨κ.cut m,_,_,hcut m (Nat.le_refl _) κ h0,hs.cut m hm2,hJ,rfl⟩ ?_
   rintro n a w ⟨κ,fr,H,h0,hs,hJ,rfl⟩
   refine wp_mono (ih _ κ fr H a w h0 hs (hround fr H hJ)) ?_
   rintro e a' w' ⟨κ',fr',H',e',he,h0',hs',hq⟩
   cases e<;>cases e'<;>simp only [ExR] at he
   · obtain ⟨k,hk,q1,q2,q3⟩:=hq
     exact ⟨_,q3,κ'.cut k,_,_,hcut k hk κ' h0',hs'.cut k q1,q2,rfl⟩
   · exact ⟨κ',fr',H',.exit _,he,h0',hs',hq⟩
   · exact ⟨κ',fr',H',.ret,trivial,h0',hs',hq⟩
 | exit id=>intro Q κ fr H a w h0 hs h; exact wp_exit ⟨κ,fr,H,.exit id,rfl,h0,hs,h⟩
 | ret=>intro Q κ fr H a w h0 hs h; exact wp_ret ⟨κ,fr,H,.ret,trivial,h0,hs,h⟩
 | _=>intro Q κ fr H a w h0 hs h; exact h.elim
inductive Res where
 | t (s:Nat)
 | cell (s n:Nat) (agg:Bool)
structure IFn where
 nt:Nat
 res:List Res
 body:C
def compRes (P:Program):ResultVar→Option Res
 | .tmp t=>some (.t t)
 | .cell a t => match P.underlying t, P.info? t with
   | some d,some i=>if isAggD d then some (.cell a i.size true) else some (.cell a 1 false)
   | _,_=>none
def compF (P:Program) (tok:List Nat) (fn:Func):Option IFn :=
 match fn.body,fn.results.toList.mapM (compRes P) with
 | some c,some rs=>some { nt:=fn.ntmps,res:=rs,body:=compC P fn.ntmps tok c }
 | _,_=>none
def resA1 (fr:Fr) (H:Hp):Res→Option A
 | .t s=>some (fr s)
 | .cell s n agg=>(ldA H n (fr s)).map fun cs=>if agg then .agg cs else cs.headD .undef
def resA (fr:Fr) (H:Hp) (rs:List Res):Option A :=
 (rs.mapM (resA1 fr H)).map fun
  | [x]=>x
  | xs => .tup xs
def Fr.init (args:List A):Fr:=fun s=>(args[s]?).getD (.tup [])
def Ret (res:List Res) (n0:Nat) (K:A→Hp→Prop):Ex→Fr→Hp→Prop
 | .exit _,_,_=>False
 | _,fr,H=>∃ x m,resA fr H res=some x∧n0≤m∧m≤H.length∧K (x.clr m) (Hp.cut m H)
def resSem (tmps:Array Value):ResultVar→Sem Value
 | .tmp t=>pure (tmps.getD t undef)
 | .cell b t=>do loadVar t (← asAddr (tmps.getD b undef))
theorem run_results {P:Program} {κ:K} {nt:NT} {fr:Fr} {H:Hp} {a:Act} {w:World} (hs:SR κ nt fr H a w):∀ (l:List ResultVar) (rs:List Res) (xs:List A),l.mapM (compRes P)=some rs→rs.mapM (resA1 fr H)=some xs →
 ∃ vs:List Value,(l.mapM (resSem a.tmps)).run P w = .ok vs w∧vs.length=xs.length∧∀ (i:Nat) (v:Value) (x:A),vs[i]?=some v→xs[i]?=some x→VR κ v x:=by
 intro l
 induction l with
 | nil=>intro rs xs h h'; simp at h; subst h; simp at h'; subst h'; exact ⟨[],by simp,rfl,by simp⟩
 | cons r l ih =>
   intro rs xs h h'
   simp only [List.mapM_cons,Option.bind_eq_bind,Option.bind_eq_some_iff,Option.pure_def,Option.some.injEq] at h
   obtain ⟨r',hr',rs',hrs',rfl⟩:=h
   simp only [List.mapM_cons,Option.bind_eq_bind,Option.bind_eq_some_iff,Option.pure_def,Option.some.injEq] at h'
   obtain ⟨x,hx,xs',hxs',rfl⟩:=h'
   obtain ⟨vs,h1,h2,h3⟩:=ih rs' xs' hrs' hxs'
   have one:∃ v,(resSem a.tmps r).run P w = .ok v w∧VR κ v x:=by
    cases r with
    | tmp t =>
      simp only [compRes,Option.some.injEq] at hr'
      subst hr'
      simp only [resA1,Option.some.injEq] at hx
      subst hx
      exact ⟨_,rfl,hs.vr t⟩
    | cell b t =>
      simp only [compRes] at hr'
      split at hr'
      · rename_i d i hd hi
        cases hagg:isAggD d with
        | true =>
          rw [hagg] at hr'
          simp only [if_true,Option.some.injEq] at hr'
          subst hr'
          simp only [resA1,Option.map_eq_some_iff,if_true] at hx
          obtain ⟨cs,hcs,rfl⟩:=hx
          obtain ⟨ad,us,e1,e2,e3,e4,e5⟩:=ld_sound hs.hr hcs (hs.vr b)
          refine ⟨.agg us.toArray,?_,.agg us cs (by omega) e5⟩
          simp only [resSem,e1]
          have hld:=run_loadCells_list (P:=P) w ad us e4
          rw [e2] at hld
          simp [asAddr,loadVar,run_isAgg hd,hagg,sizeOf,typeInfo,hi,hld]
        | false =>
          rw [hagg] at hr'
          simp only [Bool.false_eq_true,if_false,Option.some.injEq] at hr'
          subst hr'
          simp only [resA1,Option.map_eq_some_iff,Bool.false_eq_true,if_false] at hx
          obtain ⟨cs,hcs,rfl⟩:=hx
          obtain ⟨ad,us,e1,e2,e3,e4,e5⟩:=ld_sound hs.hr hcs (hs.vr b)
          match us,e2,cs,e3 with
          | [u], _, [c], _ =>
            refine ⟨u,?_,e5 0 u c rfl rfl⟩
            simp only [resSem,e1]
            have h40:=e4 0 u rfl
            have hadd:ad.add 0=ad:=by simp [Addr.add]
            rw [hadd] at h40
            simp [asAddr,loadVar,run_isAgg hd,hagg,h40]
      · cases hr'
   obtain ⟨v,hv1,hv2⟩:=one
   refine ⟨v :: vs,?_,by simp [h2],fun i u y hu hy => ?_⟩
   · simp only [List.mapM_cons,Sem.run_bind,hv1,Result.andThen_ok,h1,Sem.run_pure]
   · cases i with
     | zero=>simp at hu hy; subst hu; subst hy; exact hv2
     | succ i=>exact h3 i u y (by simpa using hu) (by simpa using hy)
theorem acall_of {P:Program} {f:FuncId} {fn:Func} {tok:List Nat} {ifn:IFn} {args:List A} {H:Hp} {K:A→Hp→Prop} (hf:P.funcs[f]?=some fn) (hc:compF P tok fn=some ifn) (hn:args.length≤ifn.nt)
 (h:H.Closed→(∀ a ∈ args,a.flat0=true→a.lo H.length=true)→AWp P H.length ifn.body (Ret ifn.res H.length K) (Fr.init args) H):ACall P f args H K:=by
 intro κ w vs hr hl hv
 unfold compF at hc
 split at hc
 · rename_i c rs hb hrs
   cases hc
   refine calls_of_wp hf hb ?_
   have hvs:∀ i v,vs[i]?=some v→∃ a,args[i]?=some a∧VR κ v a:=fun i v hi=>by
    have:i < args.length:=by rw [← hl]; exact (List.getElem?_eq_some_iff.1 hi).1
    exact ⟨args[i],List.getElem?_eq_getElem this,hv i v _ hi (List.getElem?_eq_getElem this)⟩
   have hlo:∀ a ∈ args,a.flat0=true→a.lo H.length=true:=fun a ha hf=>by
    obtain ⟨i,hi,rfl⟩:=List.getElem_of_mem ha
    exact (hv i (vs[i]'(by omega)) _ (List.getElem?_eq_getElem _) (List.getElem?_eq_getElem hi)).lo_of hr.dom hf
   have hs:SR κ ⟨fn.ntmps,[]⟩ (Fr.init args) H { tmps:=vs.toArray++Array.replicate (fn.ntmps - vs.toArray.size) undef,defers:=[] } w:=by
    refine ⟨by simp only [Array.size_append,List.size_toArray,Array.size_replicate]; simp only at hn; omega,rfl,hr,fun s => ?_⟩
    simp only [Fr.init]
    by_cases hlt:s < args.length
    · have hlt':s < vs.length:=by omega
      rw [Array.getD_eq_getD_getElem?,Array.getElem?_append_left (by simpa using hlt')]
      simp only [List.getElem?_toArray,List.getElem?_eq_getElem hlt',List.getElem?_eq_getElem hlt,Option.getD_some]
      exact hv s _ _ (List.getElem?_eq_getElem hlt') (List.getElem?_eq_getElem hlt)
    · rw [List.getElem?_eq_none (by omega),Array.getD_eq_getD_getElem?,Array.getElem?_append_right (by simpa using (by omega:vs.length≤s))]
      have:((Array.replicate (fn.ntmps - vs.toArray.size) undef)[s - vs.toArray.size]?).getD undef=undef:=by
       by_cases h2:s - vs.toArray.size < fn.ntmps - vs.toArray.size
       · rw [Array.getElem?_replicate,if_pos h2]; rfl
       · rw [Array.getElem?_replicate,if_neg h2]; rfl
      rw [this]
      exact .tup [] [] rfl (by simp)
   refine wp_mono (awp_sound hr.dom c _ κ _ H _ w (Zam.K.le_refl κ) hs (h hr.closed hlo)) ?_
   rintro e a' w' ⟨κ',fr',H',e',he,h0',hs',hq⟩
   have fin:(∃ x m,resA fr' H' rs=some x∧H.length≤m∧m≤H'.length∧K (x.clr m) (Hp.cut m H'))→a'.defers=[]∧∃ v,(results fn a'.tmps).run P w' = .ok v w' ∧
    ∃ v1 κ1 x1 H1,Ending.returned v = .returned v1 ∧ κ.le κ1∧HR κ1 H1 w'∧VR κ1 v1 x1∧K x1 H1:=by
    rintro ⟨x,m,hx,hm1,hm2,hk⟩
    refine ⟨hs'.defers,?_⟩
    simp only [resA,Option.map_eq_some_iff] at hx
    obtain ⟨xs,hxs,hx⟩:=hx
    obtain ⟨us,h1,h2,h3⟩:=run_results hs' _ _ _ hrs hxs
    have hrun:(fn.results.mapM (resSem a'.tmps)).run P w' = .ok us.toArray w':=by
     rw [Array.mapM_eq_mapM_toList]
     simp only [Sem.run_map,h1,Result.andThen_ok]
    have hres:(results fn a'.tmps).run P w' = .ok (if h:us.toArray.size=1 then us.toArray[0] else .tuple us.toArray) w':=by
     have e0:results fn a'.tmps=(do let vs ← fn.results.mapM (resSem a'.tmps); pure (if h:vs.size=1 then vs[0] else .tuple vs)):=rfl
     rw [e0]
     simp only [Sem.run_bind]
     rw [hrun]
     rfl
    refine ⟨_,hres,_,κ'.cut m,x.clr m,Hp.cut m H',rfl,Zam.K.le_cut h0' fun i hi=>hr.dom i (by omega),hs'.hr.cut m hm2,?_,hk⟩
    refine VR.clr m ?_
    clear hxs h1 hrun hres
    match xs,us,h2,hx,h3 with
    | [y],[u],_,hx,h3=>subst hx; exact h3 0 u y rfl rfl
    | [],[],_,hx,_=>subst hx; exact .tup [] [] rfl (by simp)
    | y1 :: y2 :: ys, u1 :: u2 :: us', hl2, hx, h3 =>
      subst hx
      rw [dif_neg (by simp)]
      exact .tup _ _ hl2 h3
   cases e<;>cases e'<;>simp only [ExR] at he
   · exact fin hq
   · exact hq.elim
   · exact fin hq
 · cases hc
end
end Go.Zam
namespace Go.Zam.Ix
section
open Go.Proofs
structure Hold {α:Type} (a : α):Prop where
def Hold.p {f:(Nat→UInt8)→(Nat→Int)→(Nat→Int)→IFn} (_:Hold f):IFn:=f (fun n => @OfNat.ofNat UInt8 n UInt8.instOfNat) (fun n => @OfNat.ofNat Int n instOfNat) fun n => -@OfNat.ofNat Int n instOfNat
@[simp ↓] theorem Hold.p_eq {f:(Nat→UInt8)→(Nat→Int)→(Nat→Int)→IFn} (h:Hold f):h.p=f (fun n => @OfNat.ofNat UInt8 n UInt8.instOfNat) (fun n => @OfNat.ofNat Int n instOfNat) fun n => -@OfNat.ofNat Int n instOfNat:=rfl
def sX (n:Nat):List (Nat × Nat)→Nat
 | []=>n
 | (a,b) :: r=>match a.beq n with | true=>b | false=>sX n r
inductive R where
 | n
 | o (i:Nat) (r:R)
 | b (x y:R)
def R.c (l:List IOp):R→C
 | .n => .skip
 | .o i r => .seq (.ops [l.getD i badOp] false) (r.c l)
 | .b x y => .both (x.c l) (y.c l)
def sR (n:Nat):List (Nat × R)→Option R
 | []=>none
 | (a,b) :: r=>match a.beq n with | true=>some b | false=>sR n r
structure W where
 u:Nat→UInt8
 p:Nat→Int
 q:Nat→Int
 F:List (Nat × Nat)
 T:List (Nat × Nat)
 R:List (Nat × R)
section
variable (w:W)
mutual
def sD:D→D
 | .int k n=>match n with | .ofNat m => .int k (w.p m) | .negSucc m => .int k (w.q (m+1))
 | .str s => .str (s.map fun b=>w.u b.toNat)
 | .sl z n l => .sl z n (sDll l)
 | .fn f => .fn (sX f w.F)
 | x=>x
def sDl:List D→List D
 | []=>[]
 | a :: l=>sD a :: sDl l
def sDll:List (List D)→List (List D)
 | []=>[]
 | a :: l=>sDl a :: sDll l
end
def sA:Arg→Arg
 | .t n => .t n
 | .c x => .c (sD w x)
def sT (l:List (Nat × Nat × Nat)):List (Nat × Nat × Nat):=l.map fun x=>(x.1,x.2.1,sX x.2.2 w.T)
def sP (l:List (Nat × Nat × Arg)):List (Nat × Nat × Arg):=l.map fun x=>(x.1,x.2.1,sA w x.2.2)
def sFn:Fn→Fn
 | .func f => .func (sX f w.F)
 | x=>x
def sI:I→I
 | .mv x => .mv (sA w x)
 | .nilT n e => .nilT n (sX e w.T)
 | .nilW n e => .nilW n (sX e w.T)
 | .pick c a b => .pick (sA w c) (sA w a) (sA w b)
 | .alloc t cs => .alloc (sX t w.T) (sDl w cs)
 | .allocT t cs j n e => .allocT (sX t w.T) (sDl w cs) j n (sX e w.T)
 | .allocU t cs ts => .allocU (sX t w.T) (sDl w cs) (sT w ts)
 | .box t n x => .box (sX t w.T) n (sA w x)
 | .store n x v => .store n x (sA w v)
 | .bin o x y => .bin o (sA w x) (sA w y)
 | .beq b x y => .beq b (sA w x) (sA w y)
 | .sidx x y => .sidx (sA w x) (sA w y)
 | .iaddr n x y => .iaddr n x (sA w y)
 | .aidx n x y => .aidx n x (sA w y)
 | .iaddrV n x y => .iaddrV n x (sA w y)
 | .sslice x y z => .sslice (sA w x) (y.map (sA w)) (z.map (sA w))
 | .slice n x y z v => .slice n x (y.map (sA w)) (z.map (sA w)) (v.map (sA w))
 | .build z l => .build (sDl w z) (sP w l)
 | .buildT t z l => .buildT (sT w t) (sDl w z) (sP w l)
 | .bslice n l => .bslice n (l.map (sA w))
 | .bsliceT n e l => .bsliceT n (sX e w.T) (l.map (sA w))
 | .bsliceV n e l => .bsliceV n (sX e w.T) (l.map (sA w))
 | .bsliceM n l => .bsliceM n (l.map (sA w))
 | .app n m e x y => .app n m (sX e w.T) x (sA w y)
 | .appV n m e x y => .appV n m (sX e w.T) x (sA w y)
 | .appS e x y => .appS (sX e w.T) x (sA w y)
 | .cutV n x y => .cutV n x (sA w y)
 | .eqA b l x y => .eqA b (sDl w l) (sA w x) (sA w y)
 | .lkp b k g z x y => .lkp b (sD w k) g (sDl w z) x (sA w y)
 | .mpUpd k x y v => .mpUpd (sD w k) x (sA w y) (sA w v)
 | .mkSl n m z x y => .mkSl n m (sDl w z) (sA w x) (sA w y)
 | .lenS x => .lenS (sA w x)
 | .cvt k x => .cvt k (sA w x)
 | .cvtS x => .cvtS (sA w x)
 | .cvtBS x => .cvtBS (sA w x)
 | .mm b x y => .mm b (sA w x) (sA w y)
 | .un o x => .un o (sA w x)
 | .mkfn f a b => .mkfn (sFn w f) (a.map (sA w)) (b.map (sA w))
 | .call f l => .call (sX f w.F) (l.map (sA w))
 | .callE f l => .callE (sX f w.F) (l.map (sA w))
 | .callv x l => .callv (sA w x) (l.map (sA w))
 | x=>x
def sO (l:List IOp):List IOp:=l.map fun o=>⟨o.dst,o.g,sI w o.i⟩
def gB (P:Program) (tok:List Nat) (o:Oper):Option I :=
 match o.op with
 | .build t l =>
   match P.underlying t,zeroOf P t with
   | some (.struct fs), some z => (l.toList.mapM fun (x : Nat × Operand) => (fs[x.1]?).bind fun fd => (P.info? fd.type).bind fun i => (cArg P fd.type x.2).map fun y => (fd.offset, i.size, y)).map fun ps =>
     if (o.dst.map tok.contains).getD false then .buildT ((slFields P fs.toList).filter fun x => !(ps.any fun p=>p.1 == x.1)) z ps else .build z ps
   | _,_=>none
 | .binOp op t x y _ =>
   match P.underlying t with
   | some (.struct fs)=>(flatFs2 P 0 fs.toList).bind fun l=>(cArg P t x).bind fun x=>(cArg P t y).map fun y => .eqA (match op with | .neq=>true | _=>false) l x y
   | _=>compI P tok o
 | _=>compI P tok o
def gO (P:Program) (tok:List Nat) (ops:Array Oper) (o:Oper):IOp :=
 match guardOf ops o.guard,gB P tok o with
 | some g,some i=>⟨o.dst,g,i⟩
 | _,_=>badOp
def gC (P:Program) (tok:List Nat):Code→C
 | .skip => .skip
 | .region i ops d => match sR i w.R with
   | some r=>r.c (sO w (ops.toList.map (gO P tok ops)))
   | none => .ops (sO w (ops.toList.map (gO P tok ops))) d
 | .seq a b => .seq (gC P tok a) (gC P tok b)
 | .cond c a b => match cArg P 0 c with
   | some c' => .cond (sA w c') (gC P tok a) (gC P tok b)
   | none => .bad
 | .block i a => .blk i (gC P tok a)
 | .loop a => .loop (gC P tok a)
 | .exit i => .exit i
 | .ret => .ret
 | _ => .bad
end
def gF (P:Program) (R:List (Nat × R)) (k:List Nat) (f:Func) (F T:List (Nat × Nat)) (u:Nat→UInt8) (p q:Nat→Int):IFn :=
 match f.body,f.results.toList.mapM (compRes P) with
 | some c,some rs=>⟨f.ntmps,rs,gC ⟨u,p,q,F,T,R⟩ P k c⟩
 | _,_=>⟨0,[],.bad⟩
theorem J (k:List Nat) (f:Func) (F T:List (Nat × Nat)) (R:List (Nat × R):=[]):Hold (gF Tryz.prog R k f F T):=⟨⟩
end
end Go.Zam.Ix
namespace Go.Zam
section
universe u
inductive Tag {α:Sort u} (x : α):Type where
 | mk
def OptK (K:A→Hp→Prop) (_:Tag K) (o:Option (A × Hp)):Prop :=
 match o with
 | some (v,H)=>K v H
 | none=>False
def GdK (T F:Fr→Prop) (_:Tag T) (_:Tag F) (fr:Fr) (b:Bool) (_:Nat) (x:A):Prop:=AGd x fr b T F
def BrK (T F:Prop) (_:Tag T) (_:Tag F) (x:A):Prop:=ABr x T F
def CallK (Q:A→Hp→Prop) (_:Tag Q) (P:Program) (f:FuncId) (l:List A) (H:Hp):Prop:=ACall P f l H Q
def CallD (Q:A→Hp→Prop) (_:Tag Q) (P:Program) (f:FuncId) (l:List A) (H:Hp):Prop:=∃ v,ACall P f l H (fun v' H'=>v'=v∧H'=H)∧Q v H
def CallE (Q:A→Hp→Prop) (_:Tag Q) (P:Program) (f:FuncId) (l:List A) (H:Hp):Prop:=∃ v H1,ACall P f l H (fun v' H'=>v'=v∧H'=H1)∧Q v H1
def ValK (Q:A→Hp→Prop) (_:Tag Q) (P:Program) (l:List A) (H:Hp) (f:A):Prop :=
 match f with
 | .d (.fn g)=>callOk P g=true∧ACall P g l H Q
 | .fn (.func g) first cap=>callOk P g=true∧ACall P g (first++l++cap) H Q
 | _=>False
def ValD (Q:A→Hp→Prop) (_:Tag Q) (P:Program) (l:List A) (H:Hp) (f:A):Prop :=
 match f with
 | .d (.fn g)=>callOk P g=true∧∃ v,ACall P g l H (fun v' H'=>v'=v∧H'=H)∧Q v H
 | .fn (.func g) first cap=>callOk P g=true∧∃ v,ACall P g (first++l++cap) H (fun v' H'=>v'=v∧H'=H)∧Q v H
 | _=>False
def AnyK (Q:Ex→Fr→Hp→Prop) (l:List IOp) (w:List (List Nat)) (_:Tag (Q,l,w)) (P:Program) (n0:Nat) (fr:Fr) (H:Hp):Prop:=AWp P n0 (.any l w) Q fr H
def LoopK (Q:Ex→Fr→Hp→Prop) (c:C) (_:Tag (Q,c)) (P:Program) (n0:Nat) (fr:Fr) (H:Hp):Prop:=AWp P n0 (.loop c) Q fr H
def AgainK (J:Fr→Hp→Prop) (μ:Fr→Hp→Nat) (_:Tag (J,μ)) (m n:Nat) (fr:Fr) (H:Hp):Prop:=Again m J μ n fr H
def RetK (K:A→Hp→Prop) (_:Tag K) (n0:Nat) (o:Option A) (H:Hp):Prop :=
 match o with
 | some x=>n0≤H.length∧K (x.clr n0) (Hp.cut n0 H)
 | none=>False
@[congr] theorem OptK_congr {o o':Option (A × Hp)} {K:A→Hp→Prop} {t:Tag K} (h:o=o'):OptK K t o=OptK K t o':=by rw [h]
@[congr] theorem GdK_congr {T F:Fr→Prop} {t:Tag T} {u:Tag F} {fr fr':Fr} {b:Bool} {s:Nat} {x x':A} (h:x=x') (h2:fr=fr'):GdK T F t u fr b s x=GdK T F t u fr' b s x':=by rw [h,h2]
@[congr] theorem BrK_congr {T F:Prop} {t:Tag T} {u:Tag F} {x x':A} (h:x=x'):BrK T F t u x=BrK T F t u x':=by rw [h]
@[congr] theorem CallK_congr {Q:A→Hp→Prop} {t:Tag Q} {P:Program} {f:FuncId} {l l':List A} {H H':Hp} (h:l=l') (h2:H=H'):CallK Q t P f l H=CallK Q t P f l' H':=by rw [h,h2]
@[congr] theorem CallD_congr {Q:A→Hp→Prop} {t:Tag Q} {P:Program} {f:FuncId} {l l':List A} {H H':Hp} (h:l=l') (h2:H=H'):CallD Q t P f l H=CallD Q t P f l' H':=by rw [h,h2]
@[congr] theorem CallE_congr {Q:A→Hp→Prop} {t:Tag Q} {P:Program} {f:FuncId} {l l':List A} {H H':Hp} (h:l=l') (h2:H=H'):CallE Q t P f l H=CallE Q t P f l' H':=by rw [h,h2]
@[congr] theorem ValK_congr {Q:A→Hp→Prop} {t:Tag Q} {P:Program} {f f':A} {l l':List A} {H H':Hp} (h:l=l') (h2:H=H') (h3:f=f'):ValK Q t P l H f=ValK Q t P l' H' f':=by rw [h,h2,h3]
@[congr] theorem ValD_congr {Q:A→Hp→Prop} {t:Tag Q} {P:Program} {f f':A} {l l':List A} {H H':Hp} (h:l=l') (h2:H=H') (h3:f=f'):ValD Q t P l H f=ValD Q t P l' H' f':=by rw [h,h2,h3]
@[congr] theorem LoopK_congr {Q:Ex→Fr→Hp→Prop} {c:C} {t:Tag (Q,c)} {P:Program} {n0:Nat} {fr fr':Fr} {H H':Hp} (h:fr=fr') (h2:H=H'):LoopK Q c t P n0 fr H=LoopK Q c t P n0 fr' H':=by rw [h,h2]
@[congr] theorem AnyK_congr {Q:Ex→Fr→Hp→Prop} {l:List IOp} {w:List (List Nat)} {t:Tag (Q,l,w)} {P:Program} {n0:Nat} {fr fr':Fr} {H H':Hp} (h:fr=fr') (h2:H=H'):AnyK Q l w t P n0 fr H=AnyK Q l w t P n0 fr' H':=by rw [h,h2]
@[congr] theorem AgainK_congr {J:Fr→Hp→Prop} {μ:Fr→Hp→Nat} {t:Tag (J,μ)} {m n:Nat} {fr fr':Fr} {H H':Hp} (h:fr=fr') (h2:H=H'):AgainK J μ t m n fr H=AgainK J μ t m n fr' H':=by rw [h,h2]
@[congr] theorem RetK_congr {K:A→Hp→Prop} {t:Tag K} {n0:Nat} {o o':Option A} {H H':Hp} (h:o=o') (h2:H=H'):RetK K t n0 o H=RetK K t n0 o' H':=by rw [h,h2]
section
variable {P:Program} {n0:Nat} {Q:Ex→Fr→Hp→Prop} {fr:Fr} {H:Hp}
@[simp] theorem OptK_some {K:A→Hp→Prop} {t:Tag K} (v:A) (H:Hp):OptK K t (some (v,H))=K v H:=propext Iff.rfl
@[simp ↓] theorem AWp_skip:AWp P n0 .skip Q fr H=Q .normal fr H:=propext Iff.rfl
@[simp ↓] theorem AWp_ops (l:List IOp):AWp P n0 (.ops l false) Q fr H=AOps P l (Q .normal) fr H:=propext Iff.rfl
@[simp ↓] theorem AWp_draw (l:List IOp):AWp P n0 (.ops l true) Q fr H=ADraw P l (Q .normal) fr H:=propext Iff.rfl
@[simp ↓] theorem AWp_both (a b:C):AWp P n0 (.both a b) Q fr H=(AWp P n0 a Q fr H∧AWp P n0 b Q fr H):=propext Iff.rfl
@[simp ↓] theorem AWp_seq (a b:C):AWp P n0 (.seq a b) Q fr H=AWp P n0 a (Ex.then (AWp P n0 b Q) Q) fr H:=propext Iff.rfl
@[simp ↓] theorem AWp_cond (c:Arg) (a b:C):AWp P n0 (.cond c a b) Q fr H=BrK (AWp P n0 a Q fr H) (AWp P n0 b Q fr H) .mk .mk (c.ev fr):=propext Iff.rfl
@[simp ↓] theorem AWp_blk (i:Nat) (c:C):AWp P n0 (.blk i c) Q fr H=AWp P n0 c (Ex.blk i Q) fr H:=propext Iff.rfl
@[simp ↓] theorem AWp_exit (i:Nat):AWp P n0 (.exit i) Q fr H=Q (.exit i) fr H:=propext Iff.rfl
@[simp ↓] theorem AWp_ret:AWp P n0 .ret Q fr H=Q .ret fr H:=propext Iff.rfl
@[simp ↓] theorem AWp_loop_eq (c:C):AWp P n0 (.loop c) Q fr H=LoopK Q c .mk P n0 fr H:=propext Iff.rfl
@[simp ↓] theorem AWp_any_eq (l:List IOp) (w:List (List Nat)):AWp P n0 (.any l w) Q fr H=AnyK Q l w .mk P n0 fr H:=propext Iff.rfl
@[simp ↓] theorem then_normal {K:Fr→Hp→Prop}:Ex.then K Q .normal fr H=K fr H:=propext Iff.rfl
@[simp ↓] theorem then_exit {K:Fr→Hp→Prop} (i:Nat):Ex.then K Q (.exit i) fr H=Q (.exit i) fr H:=propext Iff.rfl
@[simp ↓] theorem then_ret {K:Fr→Hp→Prop}:Ex.then K Q .ret fr H=Q .ret fr H:=propext Iff.rfl
@[simp ↓] theorem blk_normal (i:Nat):Ex.blk i Q .normal fr H=Q .normal fr H:=propext Iff.rfl
@[simp ↓] theorem blk_ret (i:Nat):Ex.blk i Q .ret fr H=Q .ret fr H:=propext Iff.rfl
@[simp ↓] theorem blk_exit (i j:Nat):Ex.blk i Q (.exit j) fr H=if j=i then Q .normal fr H else Q (.exit j) fr H:=propext Iff.rfl
@[simp ↓] theorem Again_eq (m:Nat) (J:Fr→Hp→Prop) (μ:Fr→Hp→Nat) (n:Nat):Again m J μ n fr H=AgainK J μ .mk m n fr H:=propext Iff.rfl
@[simp ↓] theorem AOps_nil {K:Fr→Hp→Prop}:AOps P [] K fr H=K fr H:=propext Iff.rfl
@[simp ↓] theorem ADraw_nil {K:Fr→Hp→Prop}:ADraw P [] K fr H=K fr H:=propext Iff.rfl
@[simp ↓] theorem AOps_guard {K:Fr→Hp→Prop} (d:Option Nat) (s:Nat) (b:Bool) (i:I) (r:List IOp):AOps P (⟨d,some (s,b),i⟩ :: r) K fr H =
 GdK (fun fr=>AOps P (⟨d,none,i⟩ :: r) K fr H) (fun fr=>AOps P r K (fr.put d (.tup [])) H) .mk .mk fr b s (fr s):=propext Iff.rfl
@[simp ↓] theorem ADraw_guard {K:Fr→Hp→Prop} (d:Option Nat) (s:Nat) (b:Bool) (i:I) (r:List IOp):ADraw P (⟨d,some (s,b),i⟩ :: r) K fr H =
 GdK (fun fr=>ADraw P (⟨d,none,i⟩ :: r) K fr H) (fun fr=>ADraw P r K (fr.put d (.tup [])) H) .mk .mk fr b s (fr s):=propext Iff.rfl
@[simp ↓] theorem AOps_call {K:Fr→Hp→Prop} (d:Option Nat) (f:FuncId) (l:List Arg) (r:List IOp):AOps P (⟨d,none,.call f l⟩ :: r) K fr H =
 CallK (fun v H'=>AOps P r K (fr.put d v) H') .mk P f (l.map (Arg.ev fr)) H:=propext Iff.rfl
@[simp ↓] theorem ADraw_call {K:Fr→Hp→Prop} (d:Option Nat) (f:FuncId) (l:List Arg) (r:List IOp):ADraw P (⟨d,none,.call f l⟩ :: r) K fr H =
 CallD (fun v H'=>ADraw P r K (fr.put d v) H') .mk P f (l.map (Arg.ev fr)) H:=propext Iff.rfl
@[simp ↓] theorem AOps_callE {K:Fr→Hp→Prop} (d:Option Nat) (f:FuncId) (l:List Arg) (r:List IOp):AOps P (⟨d,none,.callE f l⟩ :: r) K fr H =
 CallK (fun v H'=>AOps P r K (fr.put d v) H') .mk P f (l.map (Arg.ev fr)) H:=propext Iff.rfl
@[simp ↓] theorem ADraw_callE {K:Fr→Hp→Prop} (d:Option Nat) (f:FuncId) (l:List Arg) (r:List IOp):ADraw P (⟨d,none,.callE f l⟩ :: r) K fr H =
 CallE (fun v H'=>ADraw P r K (fr.put d v) H') .mk P f (l.map (Arg.ev fr)) H:=propext Iff.rfl
@[simp ↓] theorem AOps_callv {K : Fr → Hp → Prop} (d : Option Nat) (f : Arg) (l : List Arg) (r : List IOp) : AOps P (⟨d, none, .callv f l⟩ :: r) K fr H =
 ValK (fun v H'=>AOps P r K (fr.put d v) H') .mk P (l.map (Arg.ev fr)) H (f.ev fr):=by
  simp only [AOps,runI,ValK]; rfl
@[simp ↓] theorem ADraw_callv {K : Fr → Hp → Prop} (d : Option Nat) (f : Arg) (l : List Arg) (r : List IOp) : ADraw P (⟨d, none, .callv f l⟩ :: r) K fr H =
 ValD (fun v H'=>ADraw P r K (fr.put d v) H') .mk P (l.map (Arg.ev fr)) H (f.ev fr):=by
  simp only [ADraw,runD,ValD]; rfl
@[simp ↓] theorem AOps_mv {K:Fr→Hp→Prop} (d:Option Nat) (x:Arg) (r:List IOp):AOps P (⟨d,none,.mv x⟩ :: r) K fr H =
 OptK (fun v H'=>AOps P r K (fr.put d v) H') .mk (stepI fr H (.mv x)):=propext Iff.rfl
@[simp ↓] theorem AOps_nilT {K:Fr→Hp→Prop} (d:Option Nat) (n e:Nat) (r:List IOp):AOps P (⟨d,none,.nilT n e⟩ :: r) K fr H =
 OptK (fun v H'=>AOps P r K (fr.put d v) H') .mk (stepI fr H (.nilT n e)):=propext Iff.rfl
@[simp ↓] theorem AOps_nilW {K:Fr→Hp→Prop} (d:Option Nat) (n e:Nat) (r:List IOp):AOps P (⟨d,none,.nilW n e⟩ :: r) K fr H =
 OptK (fun v H'=>AOps P r K (fr.put d v) H') .mk (stepI fr H (.nilW n e)):=propext Iff.rfl
@[simp ↓] theorem AOps_pick {K:Fr→Hp→Prop} (d:Option Nat) (a b c:Arg) (r:List IOp):AOps P (⟨d,none,.pick a b c⟩ :: r) K fr H =
 OptK (fun v H'=>AOps P r K (fr.put d v) H') .mk (stepI fr H (.pick a b c)):=propext Iff.rfl
@[simp ↓] theorem AOps_alloc {K:Fr→Hp→Prop} (d:Option Nat) (ty:TypeId) (cs:List D) (r:List IOp):AOps P (⟨d,none,.alloc ty cs⟩ :: r) K fr H =
 OptK (fun v H'=>AOps P r K (fr.put d v) H') .mk (stepI fr H (.alloc ty cs)):=propext Iff.rfl
@[simp ↓] theorem AOps_box {K:Fr→Hp→Prop} (d:Option Nat) (ty n:Nat) (x:Arg) (r:List IOp):AOps P (⟨d,none,.box ty n x⟩ :: r) K fr H =
 OptK (fun v H'=>AOps P r K (fr.put d v) H') .mk (stepI fr H (.box ty n x)):=propext Iff.rfl
@[simp ↓] theorem AOps_allocU {K:Fr→Hp→Prop} (d:Option Nat) (ty:TypeId) (cs:List D) (ts:List (Nat × Nat × TypeId)) (r:List IOp):AOps P (⟨d,none,.allocU ty cs ts⟩ :: r) K fr H =
 OptK (fun v H'=>AOps P r K (fr.put d v) H') .mk (stepI fr H (.allocU ty cs ts)):=propext Iff.rfl
@[simp ↓] theorem AOps_allocT {K:Fr→Hp→Prop} (d:Option Nat) (ty:TypeId) (cs:List D) (j sz e:Nat) (r:List IOp):AOps P (⟨d,none,.allocT ty cs j sz e⟩ :: r) K fr H =
 OptK (fun v H'=>AOps P r K (fr.put d v) H') .mk (stepI fr H (.allocT ty cs j sz e)):=propext Iff.rfl
@[simp ↓] theorem AOps_load {K:Fr→Hp→Prop} (d:Option Nat) (n:Nat) (g:Bool) (p:Arg) (r:List IOp):AOps P (⟨d,none,.load n g p⟩ :: r) K fr H =
 OptK (fun v H'=>AOps P r K (fr.put d v) H') .mk (stepI fr H (.load n g p)):=propext Iff.rfl
@[simp ↓] theorem AOps_store {K:Fr→Hp→Prop} (d:Option Nat) (n:Nat) (p v:Arg) (r:List IOp):AOps P (⟨d,none,.store n p v⟩ :: r) K fr H =
 OptK (fun v H'=>AOps P r K (fr.put d v) H') .mk (stepI fr H (.store n p v)):=propext Iff.rfl
@[simp ↓] theorem AOps_nilCheck {K:Fr→Hp→Prop} (d:Option Nat) (x:Arg) (r:List IOp):AOps P (⟨d,none,.nilCheck x⟩ :: r) K fr H =
 OptK (fun v H'=>AOps P r K (fr.put d v) H') .mk (stepI fr H (.nilCheck x)):=propext Iff.rfl
@[simp ↓] theorem AOps_bin {K:Fr→Hp→Prop} (d:Option Nat) (op:BinOp) (x y:Arg) (r:List IOp):AOps P (⟨d,none,.bin op x y⟩ :: r) K fr H =
 OptK (fun v H'=>AOps P r K (fr.put d v) H') .mk (stepI fr H (.bin op x y)):=propext Iff.rfl
@[simp ↓] theorem AOps_beq {K:Fr→Hp→Prop} (d:Option Nat) (b:Bool) (x y:Arg) (r:List IOp):AOps P (⟨d,none,.beq b x y⟩ :: r) K fr H =
 OptK (fun v H'=>AOps P r K (fr.put d v) H') .mk (stepI fr H (.beq b x y)):=propext Iff.rfl
@[simp ↓] theorem AOps_isNilS {K:Fr→Hp→Prop} (d:Option Nat) (b:Bool) (x:Arg) (r:List IOp):AOps P (⟨d,none,.isNilS b x⟩ :: r) K fr H =
 OptK (fun v H'=>AOps P r K (fr.put d v) H') .mk (stepI fr H (.isNilS b x)):=propext Iff.rfl
@[simp ↓] theorem AOps_isNilP {K:Fr→Hp→Prop} (d:Option Nat) (b:Bool) (x:Arg) (r:List IOp):AOps P (⟨d,none,.isNilP b x⟩ :: r) K fr H =
 OptK (fun v H'=>AOps P r K (fr.put d v) H') .mk (stepI fr H (.isNilP b x)):=propext Iff.rfl
@[simp ↓] theorem AOps_un {K:Fr→Hp→Prop} (d:Option Nat) (op:UnOp) (x:Arg) (r:List IOp):AOps P (⟨d,none,.un op x⟩ :: r) K fr H =
 OptK (fun v H'=>AOps P r K (fr.put d v) H') .mk (stepI fr H (.un op x)):=propext Iff.rfl
@[simp ↓] theorem AOps_cvt {K:Fr→Hp→Prop} (d:Option Nat) (k:IntKind) (x:Arg) (r:List IOp):AOps P (⟨d,none,.cvt k x⟩ :: r) K fr H =
 OptK (fun v H'=>AOps P r K (fr.put d v) H') .mk (stepI fr H (.cvt k x)):=propext Iff.rfl
@[simp ↓] theorem AOps_cvtBS {K:Fr→Hp→Prop} (d:Option Nat) (x:Arg) (r:List IOp):AOps P (⟨d,none,.cvtBS x⟩ :: r) K fr H =
 OptK (fun v H'=>AOps P r K (fr.put d v) H') .mk (stepI fr H (.cvtBS x)):=propext Iff.rfl
@[simp ↓] theorem AOps_cvtS {K:Fr→Hp→Prop} (d:Option Nat) (x:Arg) (r:List IOp):AOps P (⟨d,none,.cvtS x⟩ :: r) K fr H =
 OptK (fun v H'=>AOps P r K (fr.put d v) H') .mk (stepI fr H (.cvtS x)):=propext Iff.rfl
@[simp ↓] theorem AOps_faddr {K:Fr→Hp→Prop} (d:Option Nat) (n:Nat) (x:Arg) (r:List IOp):AOps P (⟨d,none,.faddr n x⟩ :: r) K fr H =
 OptK (fun v H'=>AOps P r K (fr.put d v) H') .mk (stepI fr H (.faddr n x)):=propext Iff.rfl
@[simp ↓] theorem AOps_fld {K:Fr→Hp→Prop} (d:Option Nat) (o n:Nat) (g:Bool) (x:Arg) (r:List IOp):AOps P (⟨d,none,.fld o n g x⟩ :: r) K fr H =
 OptK (fun v H'=>AOps P r K (fr.put d v) H') .mk (stepI fr H (.fld o n g x)):=propext Iff.rfl
@[simp ↓] theorem AOps_iaddr {K:Fr→Hp→Prop} (d:Option Nat) (n:Nat) (x y:Arg) (r:List IOp):AOps P (⟨d,none,.iaddr n x y⟩ :: r) K fr H =
 OptK (fun v H'=>AOps P r K (fr.put d v) H') .mk (stepI fr H (.iaddr n x y)):=propext Iff.rfl
@[simp ↓] theorem AOps_sidx {K:Fr→Hp→Prop} (d:Option Nat) (x y:Arg) (r:List IOp):AOps P (⟨d,none,.sidx x y⟩ :: r) K fr H =
 OptK (fun v H'=>AOps P r K (fr.put d v) H') .mk (stepI fr H (.sidx x y)):=propext Iff.rfl
@[simp ↓] theorem AOps_aidx {K:Fr→Hp→Prop} (d:Option Nat) (n:Nat) (x y:Arg) (r:List IOp):AOps P (⟨d,none,.aidx n x y⟩ :: r) K fr H =
 OptK (fun v H'=>AOps P r K (fr.put d v) H') .mk (stepI fr H (.aidx n x y)):=propext Iff.rfl
@[simp ↓] theorem AOps_sslice {K:Fr→Hp→Prop} (d:Option Nat) (x:Arg) (l h:Option Arg) (r:List IOp):AOps P (⟨d,none,.sslice x l h⟩ :: r) K fr H =
 OptK (fun v H'=>AOps P r K (fr.put d v) H') .mk (stepI fr H (.sslice x l h)):=propext Iff.rfl
@[simp ↓] theorem AOps_slice {K:Fr→Hp→Prop} (d:Option Nat) (n:Nat) (x:Arg) (l h m:Option Arg) (r:List IOp):AOps P (⟨d,none,.slice n x l h m⟩ :: r) K fr H =
 OptK (fun v H'=>AOps P r K (fr.put d v) H') .mk (stepI fr H (.slice n x l h m)):=propext Iff.rfl
@[simp ↓] theorem AOps_build {K:Fr→Hp→Prop} (d:Option Nat) (z:List D) (ps:List (Nat × Nat × Arg)) (r:List IOp):AOps P (⟨d,none,.build z ps⟩ :: r) K fr H =
 OptK (fun v H'=>AOps P r K (fr.put d v) H') .mk (stepI fr H (.build z ps)):=propext Iff.rfl
@[simp ↓] theorem AOps_buildT {K:Fr→Hp→Prop} (d:Option Nat) (ts:List (Nat × Nat × TypeId)) (z:List D) (ps:List (Nat × Nat × Arg)) (r:List IOp):AOps P (⟨d,none,.buildT ts z ps⟩ :: r) K fr H =
 OptK (fun v H'=>AOps P r K (fr.put d v) H') .mk (stepI fr H (.buildT ts z ps)):=propext Iff.rfl
@[simp ↓] theorem AOps_bslice {K:Fr→Hp→Prop} (d:Option Nat) (n:Nat) (ps:List Arg) (r:List IOp):AOps P (⟨d,none,.bslice n ps⟩ :: r) K fr H =
 OptK (fun v H'=>AOps P r K (fr.put d v) H') .mk (stepI fr H (.bslice n ps)):=propext Iff.rfl
@[simp ↓] theorem AOps_bsliceT {K:Fr→Hp→Prop} (d:Option Nat) (n e:Nat) (ps:List Arg) (r:List IOp):AOps P (⟨d,none,.bsliceT n e ps⟩ :: r) K fr H =
 OptK (fun v H'=>AOps P r K (fr.put d v) H') .mk (stepI fr H (.bsliceT n e ps)):=propext Iff.rfl
@[simp ↓] theorem AOps_bsliceV {K:Fr→Hp→Prop} (d:Option Nat) (n e:Nat) (ps:List Arg) (r:List IOp):AOps P (⟨d,none,.bsliceV n e ps⟩ :: r) K fr H =
 OptK (fun v H'=>AOps P r K (fr.put d v) H') .mk (stepI fr H (.bsliceV n e ps)):=propext Iff.rfl
@[simp ↓] theorem AOps_bsliceM {K:Fr→Hp→Prop} (d:Option Nat) (n:Nat) (ps:List Arg) (r:List IOp):AOps P (⟨d,none,.bsliceM n ps⟩ :: r) K fr H =
 OptK (fun v H'=>AOps P r K (fr.put d v) H') .mk (stepI fr H (.bsliceM n ps)):=propext Iff.rfl
@[simp ↓] theorem AOps_mkSl {K:Fr→Hp→Prop} (d:Option Nat) (n m:Nat) (z:List D) (x y:Arg) (r:List IOp):AOps P (⟨d,none,.mkSl n m z x y⟩ :: r) K fr H =
 OptK (fun v H'=>AOps P r K (fr.put d v) H') .mk (stepI fr H (.mkSl n m z x y)):=propext Iff.rfl
@[simp ↓] theorem AOps_eqA {K:Fr→Hp→Prop} (d:Option Nat) (b:Bool) (l:List D) (x y:Arg) (r:List IOp):AOps P (⟨d,none,.eqA b l x y⟩ :: r) K fr H =
 OptK (fun v H'=>AOps P r K (fr.put d v) H') .mk (stepI fr H (.eqA b l x y)):=propext Iff.rfl
@[simp ↓] theorem AOps_appV {K:Fr→Hp→Prop} (d:Option Nat) (n m e:Nat) (x y:Arg) (r:List IOp):AOps P (⟨d,none,.appV n m e x y⟩ :: r) K fr H =
 OptK (fun v H'=>AOps P r K (fr.put d v) H') .mk (stepI fr H (.appV n m e x y)):=propext Iff.rfl
@[simp ↓] theorem AOps_appVV {K:Fr→Hp→Prop} (d:Option Nat) (n m e:Nat) (x y:Arg) (r:List IOp):AOps P (⟨d,none,.appVV n m e x y⟩ :: r) K fr H =
 OptK (fun v H'=>AOps P r K (fr.put d v) H') .mk (stepI fr H (.appVV n m e x y)):=propext Iff.rfl
@[simp ↓] theorem AOps_cutV {K:Fr→Hp→Prop} (d:Option Nat) (n:Nat) (x y:Arg) (r:List IOp):AOps P (⟨d,none,.cutV n x y⟩ :: r) K fr H =
 OptK (fun v H'=>AOps P r K (fr.put d v) H') .mk (stepI fr H (.cutV n x y)):=propext Iff.rfl
@[simp ↓] theorem AOps_cutL {K:Fr→Hp→Prop} (d:Option Nat) (n:Nat) (x y:Arg) (r:List IOp):AOps P (⟨d,none,.cutL n x y⟩ :: r) K fr H =
 OptK (fun v H'=>AOps P r K (fr.put d v) H') .mk (stepI fr H (.cutL n x y)):=propext Iff.rfl
@[simp ↓] theorem AOps_mkMap {K:Fr→Hp→Prop} (d:Option Nat)  (r:List IOp):AOps P (⟨d,none,.mkMap ⟩ :: r) K fr H =
 OptK (fun v H'=>AOps P r K (fr.put d v) H') .mk (stepI fr H (.mkMap )):=propext Iff.rfl
@[simp ↓] theorem AOps_lkp {K:Fr→Hp→Prop} (d:Option Nat) (b:Bool) (k0:D) (g:Bool) (z:List D) (x y:Arg) (r:List IOp):AOps P (⟨d,none,.lkp b k0 g z x y⟩ :: r) K fr H =
 OptK (fun v H'=>AOps P r K (fr.put d v) H') .mk (stepI fr H (.lkp b k0 g z x y)):=propext Iff.rfl
@[simp ↓] theorem AOps_mpUpd {K:Fr→Hp→Prop} (d:Option Nat) (k0:D) (x y v0:Arg) (r:List IOp):AOps P (⟨d,none,.mpUpd k0 x y v0⟩ :: r) K fr H =
 OptK (fun v H'=>AOps P r K (fr.put d v) H') .mk (stepI fr H (.mpUpd k0 x y v0)):=propext Iff.rfl
@[simp ↓] theorem AOps_iaddrV {K:Fr→Hp→Prop} (d:Option Nat) (n:Nat) (x y:Arg) (r:List IOp):AOps P (⟨d,none,.iaddrV n x y⟩ :: r) K fr H =
 OptK (fun v H'=>AOps P r K (fr.put d v) H') .mk (stepI fr H (.iaddrV n x y)):=propext Iff.rfl
@[simp ↓] theorem AOps_loadV {K:Fr→Hp→Prop} (d:Option Nat) (n:Nat) (g:Bool) (x:Arg) (r:List IOp):AOps P (⟨d,none,.loadV n g x⟩ :: r) K fr H =
 OptK (fun v H'=>AOps P r K (fr.put d v) H') .mk (stepI fr H (.loadV n g x)):=propext Iff.rfl
@[simp ↓] theorem AOps_ext {K:Fr→Hp→Prop} (d:Option Nat) (x:Arg) (n:Nat) (r:List IOp):AOps P (⟨d,none,.ext x n⟩ :: r) K fr H =
 OptK (fun v H'=>AOps P r K (fr.put d v) H') .mk (stepI fr H (.ext x n)):=propext Iff.rfl
@[simp ↓] theorem AOps_lenS {K:Fr→Hp→Prop} (d:Option Nat) (x:Arg) (r:List IOp):AOps P (⟨d,none,.lenS x⟩ :: r) K fr H =
 OptK (fun v H'=>AOps P r K (fr.put d v) H') .mk (stepI fr H (.lenS x)):=propext Iff.rfl
@[simp ↓] theorem AOps_lenL {K:Fr→Hp→Prop} (d:Option Nat) (x:Arg) (r:List IOp):AOps P (⟨d,none,.lenL x⟩ :: r) K fr H =
 OptK (fun v H'=>AOps P r K (fr.put d v) H') .mk (stepI fr H (.lenL x)):=propext Iff.rfl
@[simp ↓] theorem AOps_mm {K:Fr→Hp→Prop} (d:Option Nat) (b:Bool) (x y:Arg) (r:List IOp):AOps P (⟨d,none,.mm b x y⟩ :: r) K fr H =
 OptK (fun v H'=>AOps P r K (fr.put d v) H') .mk (stepI fr H (.mm b x y)):=propext Iff.rfl
@[simp ↓] theorem AOps_app {K:Fr→Hp→Prop} (d:Option Nat) (n m e:Nat) (x y:Arg) (r:List IOp):AOps P (⟨d,none,.app n m e x y⟩ :: r) K fr H =
 OptK (fun v H'=>AOps P r K (fr.put d v) H') .mk (stepI fr H (.app n m e x y)):=propext Iff.rfl
@[simp ↓] theorem AOps_appS {K:Fr→Hp→Prop} (d:Option Nat) (e:Nat) (x y:Arg) (r:List IOp):AOps P (⟨d,none,.appS e x y⟩ :: r) K fr H =
 OptK (fun v H'=>AOps P r K (fr.put d v) H') .mk (stepI fr H (.appS e x y)):=propext Iff.rfl
@[simp ↓] theorem AOps_mkfn {K:Fr→Hp→Prop} (d:Option Nat) (f:Fn) (a b:List Arg) (r:List IOp):AOps P (⟨d,none,.mkfn f a b⟩ :: r) K fr H =
 OptK (fun v H'=>AOps P r K (fr.put d v) H') .mk (stepI fr H (.mkfn f a b)):=propext Iff.rfl
@[simp ↓] theorem ADraw_mv {K:Fr→Hp→Prop} (d:Option Nat) (x:Arg) (r:List IOp):ADraw P (⟨d,none,.mv x⟩ :: r) K fr H =
 OptK (fun v H'=>ADraw P r K (fr.put d v) H') .mk (stepI fr H (.mv x)):=propext Iff.rfl
@[simp ↓] theorem ADraw_nilT {K:Fr→Hp→Prop} (d:Option Nat) (n e:Nat) (r:List IOp):ADraw P (⟨d,none,.nilT n e⟩ :: r) K fr H =
 OptK (fun v H'=>ADraw P r K (fr.put d v) H') .mk (stepI fr H (.nilT n e)):=propext Iff.rfl
@[simp ↓] theorem ADraw_nilW {K:Fr→Hp→Prop} (d:Option Nat) (n e:Nat) (r:List IOp):ADraw P (⟨d,none,.nilW n e⟩ :: r) K fr H =
 OptK (fun v H'=>ADraw P r K (fr.put d v) H') .mk (stepI fr H (.nilW n e)):=propext Iff.rfl
@[simp ↓] theorem ADraw_pick {K:Fr→Hp→Prop} (d:Option Nat) (a b c:Arg) (r:List IOp):ADraw P (⟨d,none,.pick a b c⟩ :: r) K fr H =
 OptK (fun v H'=>ADraw P r K (fr.put d v) H') .mk (stepI fr H (.pick a b c)):=propext Iff.rfl
@[simp ↓] theorem ADraw_alloc {K:Fr→Hp→Prop} (d:Option Nat) (ty:TypeId) (cs:List D) (r:List IOp):ADraw P (⟨d,none,.alloc ty cs⟩ :: r) K fr H =
 OptK (fun v H'=>ADraw P r K (fr.put d v) H') .mk (stepI fr H (.alloc ty cs)):=propext Iff.rfl
@[simp ↓] theorem ADraw_box {K:Fr→Hp→Prop} (d:Option Nat) (ty n:Nat) (x:Arg) (r:List IOp):ADraw P (⟨d,none,.box ty n x⟩ :: r) K fr H =
 OptK (fun v H'=>ADraw P r K (fr.put d v) H') .mk (stepI fr H (.box ty n x)):=propext Iff.rfl
@[simp ↓] theorem ADraw_allocU {K:Fr→Hp→Prop} (d:Option Nat) (ty:TypeId) (cs:List D) (ts:List (Nat × Nat × TypeId)) (r:List IOp):ADraw P (⟨d,none,.allocU ty cs ts⟩ :: r) K fr H =
 OptK (fun v H'=>ADraw P r K (fr.put d v) H') .mk (stepI fr H (.allocU ty cs ts)):=propext Iff.rfl
@[simp ↓] theorem ADraw_allocT {K:Fr→Hp→Prop} (d:Option Nat) (ty:TypeId) (cs:List D) (j sz e:Nat) (r:List IOp):ADraw P (⟨d,none,.allocT ty cs j sz e⟩ :: r) K fr H =
 OptK (fun v H'=>ADraw P r K (fr.put d v) H') .mk (stepI fr H (.allocT ty cs j sz e)):=propext Iff.rfl
@[simp ↓] theorem ADraw_load {K:Fr→Hp→Prop} (d:Option Nat) (n:Nat) (g:Bool) (p:Arg) (r:List IOp):ADraw P (⟨d,none,.load n g p⟩ :: r) K fr H =
 OptK (fun v H'=>ADraw P r K (fr.put d v) H') .mk (stepI fr H (.load n g p)):=propext Iff.rfl
@[simp ↓] theorem ADraw_store {K:Fr→Hp→Prop} (d:Option Nat) (n:Nat) (p v:Arg) (r:List IOp):ADraw P (⟨d,none,.store n p v⟩ :: r) K fr H =
 OptK (fun v H'=>ADraw P r K (fr.put d v) H') .mk (stepI fr H (.store n p v)):=propext Iff.rfl
@[simp ↓] theorem ADraw_nilCheck {K:Fr→Hp→Prop} (d:Option Nat) (x:Arg) (r:List IOp):ADraw P (⟨d,none,.nilCheck x⟩ :: r) K fr H =
 OptK (fun v H'=>ADraw P r K (fr.put d v) H') .mk (stepI fr H (.nilCheck x)):=propext Iff.rfl
@[simp ↓] theorem ADraw_bin {K:Fr→Hp→Prop} (d:Option Nat) (op:BinOp) (x y:Arg) (r:List IOp):ADraw P (⟨d,none,.bin op x y⟩ :: r) K fr H =
 OptK (fun v H'=>ADraw P r K (fr.put d v) H') .mk (stepI fr H (.bin op x y)):=propext Iff.rfl
@[simp ↓] theorem ADraw_beq {K:Fr→Hp→Prop} (d:Option Nat) (b:Bool) (x y:Arg) (r:List IOp):ADraw P (⟨d,none,.beq b x y⟩ :: r) K fr H =
 OptK (fun v H'=>ADraw P r K (fr.put d v) H') .mk (stepI fr H (.beq b x y)):=propext Iff.rfl
@[simp ↓] theorem ADraw_isNilS {K:Fr→Hp→Prop} (d:Option Nat) (b:Bool) (x:Arg) (r:List IOp):ADraw P (⟨d,none,.isNilS b x⟩ :: r) K fr H =
 OptK (fun v H'=>ADraw P r K (fr.put d v) H') .mk (stepI fr H (.isNilS b x)):=propext Iff.rfl
@[simp ↓] theorem ADraw_isNilP {K:Fr→Hp→Prop} (d:Option Nat) (b:Bool) (x:Arg) (r:List IOp):ADraw P (⟨d,none,.isNilP b x⟩ :: r) K fr H =
 OptK (fun v H'=>ADraw P r K (fr.put d v) H') .mk (stepI fr H (.isNilP b x)):=propext Iff.rfl
@[simp ↓] theorem ADraw_un {K:Fr→Hp→Prop} (d:Option Nat) (op:UnOp) (x:Arg) (r:List IOp):ADraw P (⟨d,none,.un op x⟩ :: r) K fr H =
 OptK (fun v H'=>ADraw P r K (fr.put d v) H') .mk (stepI fr H (.un op x)):=propext Iff.rfl
@[simp ↓] theorem ADraw_cvt {K:Fr→Hp→Prop} (d:Option Nat) (k:IntKind) (x:Arg) (r:List IOp):ADraw P (⟨d,none,.cvt k x⟩ :: r) K fr H =
 OptK (fun v H'=>ADraw P r K (fr.put d v) H') .mk (stepI fr H (.cvt k x)):=propext Iff.rfl
@[simp ↓] theorem ADraw_cvtBS {K:Fr→Hp→Prop} (d:Option Nat) (x:Arg) (r:List IOp):ADraw P (⟨d,none,.cvtBS x⟩ :: r) K fr H =
 OptK (fun v H'=>ADraw P r K (fr.put d v) H') .mk (stepI fr H (.cvtBS x)):=propext Iff.rfl
@[simp ↓] theorem ADraw_cvtS {K:Fr→Hp→Prop} (d:Option Nat) (x:Arg) (r:List IOp):ADraw P (⟨d,none,.cvtS x⟩ :: r) K fr H =
 OptK (fun v H'=>ADraw P r K (fr.put d v) H') .mk (stepI fr H (.cvtS x)):=propext Iff.rfl
@[simp ↓] theorem ADraw_faddr {K:Fr→Hp→Prop} (d:Option Nat) (n:Nat) (x:Arg) (r:List IOp):ADraw P (⟨d,none,.faddr n x⟩ :: r) K fr H =
 OptK (fun v H'=>ADraw P r K (fr.put d v) H') .mk (stepI fr H (.faddr n x)):=propext Iff.rfl
@[simp ↓] theorem ADraw_fld {K:Fr→Hp→Prop} (d:Option Nat) (o n:Nat) (g:Bool) (x:Arg) (r:List IOp):ADraw P (⟨d,none,.fld o n g x⟩ :: r) K fr H =
 OptK (fun v H'=>ADraw P r K (fr.put d v) H') .mk (stepI fr H (.fld o n g x)):=propext Iff.rfl
@[simp ↓] theorem ADraw_iaddr {K:Fr→Hp→Prop} (d:Option Nat) (n:Nat) (x y:Arg) (r:List IOp):ADraw P (⟨d,none,.iaddr n x y⟩ :: r) K fr H =
 OptK (fun v H'=>ADraw P r K (fr.put d v) H') .mk (stepI fr H (.iaddr n x y)):=propext Iff.rfl
@[simp ↓] theorem ADraw_sidx {K:Fr→Hp→Prop} (d:Option Nat) (x y:Arg) (r:List IOp):ADraw P (⟨d,none,.sidx x y⟩ :: r) K fr H =
 OptK (fun v H'=>ADraw P r K (fr.put d v) H') .mk (stepI fr H (.sidx x y)):=propext Iff.rfl
@[simp ↓] theorem ADraw_aidx {K:Fr→Hp→Prop} (d:Option Nat) (n:Nat) (x y:Arg) (r:List IOp):ADraw P (⟨d,none,.aidx n x y⟩ :: r) K fr H =
 OptK (fun v H'=>ADraw P r K (fr.put d v) H') .mk (stepI fr H (.aidx n x y)):=propext Iff.rfl
@[simp ↓] theorem ADraw_sslice {K:Fr→Hp→Prop} (d:Option Nat) (x:Arg) (l h:Option Arg) (r:List IOp):ADraw P (⟨d,none,.sslice x l h⟩ :: r) K fr H =
 OptK (fun v H'=>ADraw P r K (fr.put d v) H') .mk (stepI fr H (.sslice x l h)):=propext Iff.rfl
@[simp ↓] theorem ADraw_slice {K:Fr→Hp→Prop} (d:Option Nat) (n:Nat) (x:Arg) (l h m:Option Arg) (r:List IOp):ADraw P (⟨d,none,.slice n x l h m⟩ :: r) K fr H =
 OptK (fun v H'=>ADraw P r K (fr.put d v) H') .mk (stepI fr H (.slice n x l h m)):=propext Iff.rfl
@[simp ↓] theorem ADraw_build {K:Fr→Hp→Prop} (d:Option Nat) (z:List D) (ps:List (Nat × Nat × Arg)) (r:List IOp):ADraw P (⟨d,none,.build z ps⟩ :: r) K fr H =
 OptK (fun v H'=>ADraw P r K (fr.put d v) H') .mk (stepI fr H (.build z ps)):=propext Iff.rfl
@[simp ↓] theorem ADraw_buildT {K:Fr→Hp→Prop} (d:Option Nat) (ts:List (Nat × Nat × TypeId)) (z:List D) (ps:List (Nat × Nat × Arg)) (r:List IOp):ADraw P (⟨d,none,.buildT ts z ps⟩ :: r) K fr H =
 OptK (fun v H'=>ADraw P r K (fr.put d v) H') .mk (stepI fr H (.buildT ts z ps)):=propext Iff.rfl
@[simp ↓] theorem ADraw_bslice {K:Fr→Hp→Prop} (d:Option Nat) (n:Nat) (ps:List Arg) (r:List IOp):ADraw P (⟨d,none,.bslice n ps⟩ :: r) K fr H =
 OptK (fun v H'=>ADraw P r K (fr.put d v) H') .mk (stepI fr H (.bslice n ps)):=propext Iff.rfl
@[simp ↓] theorem ADraw_bsliceT {K:Fr→Hp→Prop} (d:Option Nat) (n e:Nat) (ps:List Arg) (r:List IOp):ADraw P (⟨d,none,.bsliceT n e ps⟩ :: r) K fr H =
 OptK (fun v H'=>ADraw P r K (fr.put d v) H') .mk (stepI fr H (.bsliceT n e ps)):=propext Iff.rfl
@[simp ↓] theorem ADraw_bsliceV {K:Fr→Hp→Prop} (d:Option Nat) (n e:Nat) (ps:List Arg) (r:List IOp):ADraw P (⟨d,none,.bsliceV n e ps⟩ :: r) K fr H =
 OptK (fun v H'=>ADraw P r K (fr.put d v) H') .mk (stepI fr H (.bsliceV n e ps)):=propext Iff.rfl
@[simp ↓] theorem ADraw_bsliceM {K:Fr→Hp→Prop} (d:Option Nat) (n:Nat) (ps:List Arg) (r:List IOp):ADraw P (⟨d,none,.bsliceM n ps⟩ :: r) K fr H =
 OptK (fun v H'=>ADraw P r K (fr.put d v) H') .mk (stepI fr H (.bsliceM n ps)):=propext Iff.rfl
@[simp ↓] theorem ADraw_mkSl {K:Fr→Hp→Prop} (d:Option Nat) (n m:Nat) (z:List D) (x y:Arg) (r:List IOp):ADraw P (⟨d,none,.mkSl n m z x y⟩ :: r) K fr H =
 OptK (fun v H'=>ADraw P r K (fr.put d v) H') .mk (stepI fr H (.mkSl n m z x y)):=propext Iff.rfl
@[simp ↓] theorem ADraw_eqA {K:Fr→Hp→Prop} (d:Option Nat) (b:Bool) (l:List D) (x y:Arg) (r:List IOp):ADraw P (⟨d,none,.eqA b l x y⟩ :: r) K fr H =
 OptK (fun v H'=>ADraw P r K (fr.put d v) H') .mk (stepI fr H (.eqA b l x y)):=propext Iff.rfl
@[simp ↓] theorem ADraw_appV {K:Fr→Hp→Prop} (d:Option Nat) (n m e:Nat) (x y:Arg) (r:List IOp):ADraw P (⟨d,none,.appV n m e x y⟩ :: r) K fr H =
 OptK (fun v H'=>ADraw P r K (fr.put d v) H') .mk (stepI fr H (.appV n m e x y)):=propext Iff.rfl
@[simp ↓] theorem ADraw_appVV {K:Fr→Hp→Prop} (d:Option Nat) (n m e:Nat) (x y:Arg) (r:List IOp):ADraw P (⟨d,none,.appVV n m e x y⟩ :: r) K fr H =
 OptK (fun v H'=>ADraw P r K (fr.put d v) H') .mk (stepI fr H (.appVV n m e x y)):=propext Iff.rfl
@[simp ↓] theorem ADraw_cutV {K:Fr→Hp→Prop} (d:Option Nat) (n:Nat) (x y:Arg) (r:List IOp):ADraw P (⟨d,none,.cutV n x y⟩ :: r) K fr H =
 OptK (fun v H'=>ADraw P r K (fr.put d v) H') .mk (stepI fr H (.cutV n x y)):=propext Iff.rfl
@[simp ↓] theorem ADraw_cutL {K:Fr→Hp→Prop} (d:Option Nat) (n:Nat) (x y:Arg) (r:List IOp):ADraw P (⟨d,none,.cutL n x y⟩ :: r) K fr H =
 OptK (fun v H'=>ADraw P r K (fr.put d v) H') .mk (stepI fr H (.cutL n x y)):=propext Iff.rfl
@[simp ↓] theorem ADraw_mkMap {K:Fr→Hp→Prop} (d:Option Nat)  (r:List IOp):ADraw P (⟨d,none,.mkMap ⟩ :: r) K fr H =
 OptK (fun v H'=>ADraw P r K (fr.put d v) H') .mk (stepI fr H (.mkMap )):=propext Iff.rfl
@[simp ↓] theorem ADraw_lkp {K:Fr→Hp→Prop} (d:Option Nat) (b:Bool) (k0:D) (g:Bool) (z:List D) (x y:Arg) (r:List IOp):ADraw P (⟨d,none,.lkp b k0 g z x y⟩ :: r) K fr H =
 OptK (fun v H'=>ADraw P r K (fr.put d v) H') .mk (stepI fr H (.lkp b k0 g z x y)):=propext Iff.rfl
@[simp ↓] theorem ADraw_mpUpd {K:Fr→Hp→Prop} (d:Option Nat) (k0:D) (x y v0:Arg) (r:List IOp):ADraw P (⟨d,none,.mpUpd k0 x y v0⟩ :: r) K fr H =
 OptK (fun v H'=>ADraw P r K (fr.put d v) H') .mk (stepI fr H (.mpUpd k0 x y v0)):=propext Iff.rfl
@[simp ↓] theorem ADraw_iaddrV {K:Fr→Hp→Prop} (d:Option Nat) (n:Nat) (x y:Arg) (r:List IOp):ADraw P (⟨d,none,.iaddrV n x y⟩ :: r) K fr H =
 OptK (fun v H'=>ADraw P r K (fr.put d v) H') .mk (stepI fr H (.iaddrV n x y)):=propext Iff.rfl
@[simp ↓] theorem ADraw_loadV {K:Fr→Hp→Prop} (d:Option Nat) (n:Nat) (g:Bool) (x:Arg) (r:List IOp):ADraw P (⟨d,none,.loadV n g x⟩ :: r) K fr H =
 OptK (fun v H'=>ADraw P r K (fr.put d v) H') .mk (stepI fr H (.loadV n g x)):=propext Iff.rfl
@[simp ↓] theorem ADraw_ext {K:Fr→Hp→Prop} (d:Option Nat) (x:Arg) (n:Nat) (r:List IOp):ADraw P (⟨d,none,.ext x n⟩ :: r) K fr H =
 OptK (fun v H'=>ADraw P r K (fr.put d v) H') .mk (stepI fr H (.ext x n)):=propext Iff.rfl
@[simp ↓] theorem ADraw_lenS {K:Fr→Hp→Prop} (d:Option Nat) (x:Arg) (r:List IOp):ADraw P (⟨d,none,.lenS x⟩ :: r) K fr H =
 OptK (fun v H'=>ADraw P r K (fr.put d v) H') .mk (stepI fr H (.lenS x)):=propext Iff.rfl
@[simp ↓] theorem ADraw_lenL {K:Fr→Hp→Prop} (d:Option Nat) (x:Arg) (r:List IOp):ADraw P (⟨d,none,.lenL x⟩ :: r) K fr H =
 OptK (fun v H'=>ADraw P r K (fr.put d v) H') .mk (stepI fr H (.lenL x)):=propext Iff.rfl
@[simp ↓] theorem ADraw_mm {K:Fr→Hp→Prop} (d:Option Nat) (b:Bool) (x y:Arg) (r:List IOp):ADraw P (⟨d,none,.mm b x y⟩ :: r) K fr H =
 OptK (fun v H'=>ADraw P r K (fr.put d v) H') .mk (stepI fr H (.mm b x y)):=propext Iff.rfl
@[simp ↓] theorem ADraw_app {K:Fr→Hp→Prop} (d:Option Nat) (n m e:Nat) (x y:Arg) (r:List IOp):ADraw P (⟨d,none,.app n m e x y⟩ :: r) K fr H =
 OptK (fun v H'=>ADraw P r K (fr.put d v) H') .mk (stepI fr H (.app n m e x y)):=propext Iff.rfl
@[simp ↓] theorem ADraw_appS {K:Fr→Hp→Prop} (d:Option Nat) (e:Nat) (x y:Arg) (r:List IOp):ADraw P (⟨d,none,.appS e x y⟩ :: r) K fr H =
 OptK (fun v H'=>ADraw P r K (fr.put d v) H') .mk (stepI fr H (.appS e x y)):=propext Iff.rfl
@[simp ↓] theorem ADraw_mkfn {K:Fr→Hp→Prop} (d:Option Nat) (f:Fn) (a b:List Arg) (r:List IOp):ADraw P (⟨d,none,.mkfn f a b⟩ :: r) K fr H =
 OptK (fun v H'=>ADraw P r K (fr.put d v) H') .mk (stepI fr H (.mkfn f a b)):=propext Iff.rfl
@[simp] theorem GdK_yes {b:Bool} {T F:Fr→Prop} {t:Tag T} {u:Tag F} {s:Nat}:GdK T F t u fr b s (.d (.bool b))=T fr:=by simp [GdK,AGd]
@[simp] theorem GdK_no1 {T F:Fr→Prop} {t:Tag T} {u:Tag F} {s:Nat}:GdK T F t u fr true s (.d (.bool false))=F fr:=by simp [GdK,AGd]
@[simp] theorem GdK_no2 {T F:Fr→Prop} {t:Tag T} {u:Tag F} {s:Nat}:GdK T F t u fr false s (.d (.bool true))=F fr:=by simp [GdK,AGd]
@[simp] theorem GdK_tup {b:Bool} {T F:Fr→Prop} {t:Tag T} {u:Tag F} {s:Nat}:GdK T F t u fr b s (.tup [])=F fr:=by simp [GdK,AGd]
@[simp] theorem BrK_true {T F:Prop} {t:Tag T} {u:Tag F}:BrK T F t u (.d (.bool true))=T:=by simp [BrK,ABr]
@[simp] theorem BrK_false {T F:Prop} {t:Tag T} {u:Tag F}:BrK T F t u (.d (.bool false))=F:=by simp [BrK,ABr]
@[simp] theorem ValK_d {Q:A→Hp→Prop} {t:Tag Q} {l:List A} {f:FuncId}:ValK Q t P l H (.d (.fn f))=(callOk P f=true∧CallK Q .mk P f l H):=propext Iff.rfl
@[simp] theorem ValK_fn {Q:A→Hp→Prop} {t:Tag Q} {l a c:List A} {f:FuncId}:ValK Q t P l H (.fn (.func f) a c)=(callOk P f=true∧CallK Q .mk P f (a++l++c) H):=propext Iff.rfl
@[simp] theorem ValD_d {Q:A→Hp→Prop} {t:Tag Q} {l:List A} {f:FuncId}:ValD Q t P l H (.d (.fn f))=(callOk P f=true∧CallD Q .mk P f l H):=propext Iff.rfl
@[simp] theorem ValD_fn {Q:A→Hp→Prop} {t:Tag Q} {l a c:List A} {f:FuncId}:ValD Q t P l H (.fn (.func f) a c)=(callOk P f=true∧CallD Q .mk P f (a++l++c) H):=propext Iff.rfl
theorem Fr.set_self (fr:Fr) (s:Nat):fr.set s (fr s)=fr:=by
 funext t; simp only [Fr.set]; split
 · rename_i h; rw [h]
 · rfl
theorem GdK_split {c b:Bool} {T F:Fr→Prop} {t:Tag T} {u:Tag F} {s:Nat} (hs:fr s = .d (.bool c)) (hT:c=b→T (fr.set s (.d (.bool b)))) (hF:c=(!b)→F (fr.set s (.d (.bool (!b))))):GdK T F t u fr b s (.d (.bool c)):=by
 simp only [GdK,AGd]
 split
 · rename_i h; subst h; have:=hT rfl; rwa [← hs,Fr.set_self] at this
 · rename_i h
   have hc:c = !b:=by cases c<;>cases b<;>simp_all
   have:=hF hc
   rw [← hc,← hs,Fr.set_self] at this; exact this
theorem BrK_split {c:Bool} {T F:Prop} {t:Tag T} {u:Tag F} (hT:c=true→T) (hF:c=false→F):BrK T F t u (.d (.bool c)):=by
 simp only [BrK,ABr]
 cases c with
 | true=>simp only [if_true]; exact hT rfl
 | false=>simp only [Bool.false_eq_true,if_false]; exact hF rfl
theorem CallK_of {Q R:A→Hp→Prop} {t:Tag Q} {f:FuncId} {l:List A} (h:ACall P f l H R) (hq:∀ x H',R x H'→Q x H'):CallK Q t P f l H:=h.mono hq
theorem CallD_of {Q:A→Hp→Prop} {t:Tag Q} {f:FuncId} {l:List A} {v:A} (h:ACall P f l H (fun x H'=>x=v∧H'=H)) (hq:Q v H):CallD Q t P f l H:=⟨v,h,hq⟩
theorem CallE_of {Q:A→Hp→Prop} {t:Tag Q} {f:FuncId} {l:List A} {v:A} {H1:Hp} (h:ACall P f l H (fun x H'=>x=v∧H'=H1)) (hq:Q v H1):CallE Q t P f l H:=⟨v,H1,h,hq⟩
theorem CallK_of' {Q:A→Hp→Prop} {t:Tag Q} {f:FuncId} {l:List A} {v:A} {H1:Hp} (h:ACall P f l H (fun x H'=>x=v∧H'=H1)) (hq:Q v H1):CallK Q t P f l H:=h.mono fun _ _ ⟨hx,hh⟩=>by rw [hx,hh]; exact hq
theorem LoopK_of {c:C} {t:Tag (Q,c)} (m:Nat) (J:Fr→Hp→Prop) (μ:Fr→Hp→Nat) (h1:n0≤m∧m≤H.length) (h2:J (fr.clr m) (Hp.cut m H))
 (h3:∀ fr H,J fr H→AWp P n0 c (Ex.then (Again m J μ (μ fr H)) Q) fr H):LoopK Q c t P n0 fr H:=⟨m,J,μ,h1.1,h1.2,h2,h3⟩
theorem AgainK_ofk {J:Fr→Hp→Prop} {μ:Fr→Hp→Nat} {t:Tag (J,μ)} {m n:Nat} (k:Nat) (hk:m≤k) (h1:k≤H.length) (h2:J (fr.clr k) (Hp.cut k H)) (h3 : μ (fr.clr k) (Hp.cut k H) < n):AgainK J μ t m n fr H:=⟨k,hk,h1,h2,h3⟩
theorem Ret_of {rs:List Res} {K:A→Hp→Prop} (e:Ex) (he:(match e with | .exit _=>False | _=>True)) (h:RetK K .mk n0 (resA fr H rs) H):Ret rs n0 K e fr H:=by
 unfold RetK at h
 split at h
 · rename_i x hx
   cases e with
   | exit i=>exact he.elim
   | normal=>exact ⟨x,n0,hx,Nat.le_refl _,h.1,h.2⟩
   | ret=>exact ⟨x,n0,hx,Nat.le_refl _,h.1,h.2⟩
 · exact h.elim
end
def Fin (rs:List Res) (n0:Nat) (K:A→Hp→Prop):Ex→Fr→Hp→Prop
 | .exit _,_,_=>False
 | _,fr,H=>RetK K .mk n0 (resA fr H rs) H
@[simp ↓] theorem Fin_ret {rs:List Res} {n0:Nat} {K:A→Hp→Prop} {fr:Fr} {H:Hp}:Fin rs n0 K .ret fr H=RetK K .mk n0 (resA fr H rs) H:=propext Iff.rfl
@[simp ↓] theorem Fin_normal {rs:List Res} {n0:Nat} {K:A→Hp→Prop} {fr:Fr} {H:Hp}:Fin rs n0 K .normal fr H=RetK K .mk n0 (resA fr H rs) H:=propext Iff.rfl
theorem runI.mono {P:Program} {fr:Fr} {H:Hp} {i:I} {K K':A→Hp→Prop} (h:runI P fr H i K) (hk:∀ v H',K v H'→K' v H'):runI P fr H i K':=by
 cases i with
 | call f l=>exact ACall.mono h hk
 | callE f l=>exact ACall.mono h hk
 | callv f l =>
   simp only [runI] at h ⊢
   split at h
   · exact ⟨h.1,h.2.mono hk⟩
   · exact ⟨h.1,h.2.mono hk⟩
   · exact h.elim
 | _ =>
   simp only [runI] at h ⊢
   split at h
   · exact hk _ _ h
   · exact h.elim
theorem runD.mono {P:Program} {fr:Fr} {H:Hp} {i:I} {K K':A→Hp→Prop} (h:runD P fr H i K) (hk:∀ v H',K v H'→K' v H'):runD P fr H i K':=by
 cases i with
 | call f l=>obtain ⟨v,h1,h2⟩:=h; exact ⟨v,h1,hk _ _ h2⟩
 | callE f l=>obtain ⟨v,H1,h1,h2⟩:=h; exact ⟨v,H1,h1,hk _ _ h2⟩
 | callv f l =>
   simp only [runD] at h ⊢
   split at h
   · obtain ⟨h0,v,h1,h2⟩:=h; exact ⟨h0,v,h1,hk _ _ h2⟩
   · obtain ⟨h0,v,h1,h2⟩:=h; exact ⟨h0,v,h1,hk _ _ h2⟩
   · exact h.elim
 | _ =>
   simp only [runD] at h ⊢
   split at h
   · exact hk _ _ h
   · exact h.elim
theorem AGd.mono {x:A} {fr:Fr} {b:Bool} {T F T' F':Fr→Prop} (h:AGd x fr b T F) (ht:T fr→T' fr) (hf:F fr→F' fr):AGd x fr b T' F':=by
 unfold AGd at h ⊢
 split at h
 · split at h
   · rename_i e; simp only [e,if_true]; exact ht h
   · rename_i e; simp only [e,if_false]; exact hf h
 · exact hf h
 · exact h.elim
theorem AOps.mono {P:Program} {K K':Fr→Hp→Prop} (hk:∀ fr H,K fr H→K' fr H):∀ (l:List IOp) (fr:Fr) (H:Hp),AOps P l K fr H→AOps P l K' fr H
 | [],fr,H,h=>hk _ _ h
 | ⟨d,none,i⟩ :: r,fr,H,h=>runI.mono (h:runI P fr H i _) fun _ _ h=>AOps.mono hk r _ _ h
 | ⟨d,some (s,b),i⟩ :: r,fr,H,h=>by
  simp only [AOps] at h ⊢; exact AGd.mono h (fun h=>runI.mono h fun _ _ h=>AOps.mono hk r _ _ h) (fun h=>AOps.mono hk r _ _ h)
theorem ADraw.mono {P:Program} {K K':Fr→Hp→Prop} (hk:∀ fr H,K fr H→K' fr H):∀ (l:List IOp) (fr:Fr) (H:Hp),ADraw P l K fr H→ADraw P l K' fr H
 | [],fr,H,h=>hk _ _ h
 | ⟨d,none,i⟩ :: r,fr,H,h=>runD.mono (h:runD P fr H i _) fun _ _ h=>ADraw.mono hk r _ _ h
 | ⟨d,some (s,b),i⟩ :: r,fr,H,h=>by
  simp only [ADraw] at h ⊢; exact AGd.mono h (fun h=>runD.mono h fun _ _ h=>ADraw.mono hk r _ _ h) (fun h=>ADraw.mono hk r _ _ h)
theorem AWp.mono {P:Program} {n0:Nat}:∀ (c:C) {Q Q':Ex→Fr→Hp→Prop} (_:∀ e fr H,Q e fr H→Q' e fr H) (fr:Fr) (H:Hp),AWp P n0 c Q fr H→AWp P n0 c Q' fr H
 | .skip,_,_,hq,fr,H,h=>hq _ _ _ h
 | .ops l false,_,_,hq,fr,H,h=>AOps.mono (hq _) l fr H h
 | .ops l true,_,_,hq,fr,H,h=>ADraw.mono (hq _) l fr H h
 | .both a b,_,_,hq,fr,H,h=>⟨AWp.mono a hq fr H h.1,AWp.mono b hq fr H h.2⟩
 | .seq a b,Q,Q',hq,fr,H,h=>AWp.mono a (fun e fr H h=>by
  cases e with
  | normal=>exact AWp.mono b hq fr H h
  | exit i=>exact hq _ _ _ h
  | ret=>exact hq _ _ _ h) fr H h
 | .cond c a b,Q,Q',hq,fr,H,h=>by
  simp only [AWp,ABr] at h ⊢
  split at h
  · split at h
    · rename_i e; simp only [e,if_true]; exact AWp.mono a hq fr H h
    · rename_i e; simp only [e]; exact AWp.mono b hq fr H h
  · exact h.elim
 | .blk i c,Q,Q',hq,fr,H,h=>AWp.mono c (fun e fr H h=>by
  cases e with
  | normal=>exact hq _ _ _ h
  | exit j =>
    simp only [Ex.blk] at h ⊢
    split at h
    · rename_i e; simp only [e,if_true]; exact hq _ _ _ h
    · rename_i e; simp only [e,if_false]; exact hq _ _ _ h
  | ret=>exact hq _ _ _ h) fr H h
 | .loop c,Q,Q',hq,fr,H,⟨m,J,μ,h1,h2,h3,h4⟩=>⟨m,J,μ,h1,h2,h3,fun fr H hj=>AWp.mono c (fun e fr H h=>by
  cases e with
  | normal=>exact h
  | exit j=>exact hq _ _ _ h
  | ret=>exact hq _ _ _ h) fr H (h4 fr H hj)⟩
 | .exit i,_,_,hq,fr,H,h=>hq _ _ _ h
 | .ret,_,_,hq,fr,H,h=>hq _ _ _ h
 | .bad,_,_,_,_,_,h=>h.elim
 | .any _ _,_,_,hq,_,_,⟨Inv,h1,h2⟩=>⟨Inv,h1,fun S fr H hs hi=>⟨fun e=>hq _ _ _ ((h2 S fr H hs hi).1 e),(h2 S fr H hs hi).2⟩⟩
theorem acall_fin {P:Program} {f:FuncId} {fn:Func} {tok:List Nat} {ifn:IFn} {args:List A} {H:Hp} {K:A→Hp→Prop} (hf:P.funcs[f]?=some fn) (hc:compF P tok fn=some ifn) (hn:args.length≤ifn.nt)
 (h:H.Closed→(∀ a ∈ args,a.flat0=true→a.lo H.length=true)→AWp P H.length ifn.body (Fin ifn.res H.length K) (Fr.init args) H):ACall P f args H K :=
 acall_of hf hc hn fun h1 h2=>AWp.mono _ (fun e fr H h=>Ret_of e (by cases e<;>first | trivial | exact h.elim) (by cases e<;>first | exact h | exact h.elim)) _ _ (h h1 h2)
@[simp] theorem Fr.put_some (fr:Fr) (d:Nat) (v:A):fr.put (some d) v=fr.set d v:=rfl
@[simp] theorem Fr.put_none (fr:Fr) (v:A):fr.put none v=fr:=rfl
@[simp ↓] theorem Fr.set_app (fr:Fr) (d:Nat) (v:A) (s:Nat):Fr.set fr d v s=if s=d then v else fr s:=rfl
@[simp ↓] theorem Fr.put_app (fr:Fr) (d:Nat) (v:A) (s:Nat):Fr.put fr (some d) v s=if s=d then v else fr s:=rfl
@[simp ↓] theorem Fr.clr_app (fr:Fr) (m s:Nat):Fr.clr m fr s=(fr s).clr m:=rfl
@[simp] theorem Fr.init_nil (s:Nat):Fr.init [] s = .tup []:=rfl
@[simp] theorem Fr.init_zero (a:A) (l:List A):Fr.init (a :: l) 0=a:=rfl
@[simp] theorem Fr.init_succ (a:A) (l:List A) (s:Nat):Fr.init (a :: l) (s+1)=Fr.init l s:=rfl
@[simp ↓] theorem ev_t (fr:Fr) (s:Nat):Arg.ev fr (.t s)=fr s:=rfl
@[simp ↓] theorem ev_c (fr:Fr) (d:D):Arg.ev fr (.c d) = .d d:=rfl
theorem getElem?_app0 {α:Type} (H l:List α):(H++l)[H.length]?=l[0]?:=by
 rw [List.getElem?_append_right (Nat.le_refl _),Nat.sub_self]
theorem getElem?_appk {α:Type} (H l:List α) (k:Nat):(H++l)[H.length+k]?=l[k]?:=by
 rw [List.getElem?_append_right (Nat.le_add_right _ _),Nat.add_sub_cancel_left]
theorem set_app0 {α:Type} (H l:List α) (x : α):(H++l).set H.length x=H++l.set 0 x:=by
 rw [List.set_append_right _ _ (Nat.le_refl _),Nat.sub_self]
theorem set_appk {α:Type} (H l:List α) (k:Nat) (x : α):(H++l).set (H.length+k) x=H++l.set k x:=by
 rw [List.set_append_right _ _ (Nat.le_add_right _ _),Nat.add_sub_cancel_left]
theorem cut_self {H:Hp} (h:H.Closed):Hp.cut H.length H=H:=by
 rw [Hp.cut,List.take_length,h _ (Nat.le_refl _)]
theorem cut_app {H:Hp} (h:H.Closed) (l:Hp):Hp.cut H.length (H++l)=H:=by
 rw [Hp.cut,List.take_left',h _ (Nat.le_refl _)]; rfl
theorem cut_appk {H:Hp} (h:H.Closed) (k:Nat) (l:Hp):Hp.cut (H.length+k) (H++l)=H++(l.take k).map (Ob.clr (H.length+k)):=by
 rw [Hp.cut,List.take_length_add_append,List.map_append,h _ (Nat.le_add_right _ _)]
theorem rowAt_mid {α:Type} (f : α→List D) (pre r:List α) (e : α):Zam.rowAt ((pre++e :: r).map f) pre.length=some (f e):=by
 simp [Zam.rowAt]
attribute [simp] tokA byteRow appVA ldV iaddrV vecSz cutLA cutVA rowsV mpGet mpPut mpOk keyOf sameK zA stepI binA intOp strOp beqA isNilS isNilP unA A.cells cutL setL ldA stA nilCheckA faddrA iaddrA boundOf sliceA lenA mmA A.toD fillA rowOf slOf A.clr A.clr1 A.clr0 A.flat A.flat0 resA resA1 Ob.clr
attribute [simp] getElem?_app0 getElem?_appk set_app0 set_appk rowAt_mid
theorem wrap_i64 {n:Int} (h1 : -9223372036854775808≤n) (h2:n≤9223372036854775807):IntKind.i64.wrap n=n:=by
 simp only [IntKind.wrap,IntKind.bits,IntKind.signed,Bool.true_and,ge_iff_le,decide_eq_true_eq]
 split<;>omega
end
section
def lays (P:Program):List Field→Nat→Nat→Bool
 | [],off,tot=>off == tot
 | f :: r,off,tot=>f.offset == off && lays P r (off+P.cellsOf f.type) tot
def plainT (P:Program) (ts:List TypeId):Bool:=ts.all fun t =>
 match P.underlying t with
 | some .bool | some (.int _) | some .string=>true
 | some (.slice e)=>ts.contains e && decide (0 < P.cellsOf e)
 | some (.struct fs)=>fs.toList.all (fun f=>ts.contains f.type) && lays P fs.toList 0 (P.cellsOf t)
 | _=>false
def TypedFs (T:TypeId→List D→Prop):List Field→List D→Prop
 | [],ds=>ds=[]
 | f :: r,ds=>∃ a b,ds=a++b∧T f.type a∧TypedFs T r b
def Typed (P:Program):Nat→TypeId→List D→Prop
 | 0,_,_=>False
 | n + 1, t, ds =>
   match P.underlying t with
   | some .bool=>∃ b,ds=[.bool b]
   | some (.int k)=>∃ x,ds=[.int k x]∧(Lit.int k x).wf=true
   | some .string=>∃ s,ds=[.str s]
   | some (.slice e)=>∃ z rows,ds=[.sl z (P.cellsOf e) rows]∧∀ r ∈ rows,Typed P n e r
   | some (.struct fs)=>TypedFs (Typed P n) fs.toList ds
   | _=>False
mutual
def D.bulk:D→Nat
 | .str s=>s.length+1
 | .sl _ _ rows=>D.bulkR rows+1
 | _=>1
def D.bulkR:List (List D)→Nat
 | []=>0
 | r :: rs=>D.bulkC r+D.bulkR rs
def D.bulkC:List D→Nat
 | []=>0
 | d :: ds=>D.bulk d+D.bulkC ds
end
theorem D.bulkC_append (a b:List D):D.bulkC (a++b)=D.bulkC a+D.bulkC b:=by
 induction a with
 | nil=>simp [D.bulkC]
 | cons x r ih=>simp only [List.cons_append,D.bulkC,ih]; omega
structure IsBulk {X:Type} (f:DataW X→Nat) (fs:List (DataW X)→Nat):Prop where
 str:∀ b,b.length+1≤f (.lit (.string b))
 bool:∀ b,1≤f (.lit (.bool b))
 int:∀ k n,1≤f (.lit (.int k n))
 nil:1≤f .nil
 slice:∀ e s,fs e+1≤f (.slice e s)
 agg:∀ p,fs p≤f (.agg p)
 cons:∀ d r,f d+fs r≤fs (d :: r)
def wst (w:World):St:=fun b o=>w.cell? ⟨b,o,none⟩
section
variable {X:Type} {enc:TypeId × Value→X} {P:Program} {w:World} {base:Nat} {spare:Nat→Bool} {held:Bool}
theorem fields_read {ts:List TypeId} {f:DataW X→Nat} {fs:List (DataW X)→Nat} (B:IsBulk f fs) {n:Nat}
 (ih:∀ (t:TypeId) (cs:List Value) (x:DataW X × List MemPlace),DataW.trod enc P w base spare held n t cs=some x→t ∈ ts →
  ∃ ds:List D,ds.length=cs.length∧Typed P n t ds∧D.bulkC ds≤f x.1∧∀ (i:Nat) (v:Value) (d:D),cs[i]?=some v→ds[i]?=some d→DR (wst w) v d) (cs:List Value) :
 ∀ (l : List Field) (off : Nat) (xs : List (DataW X × List MemPlace)), lays P l off cs.length = true → (∀ g ∈ l, g.type ∈ ts) → xs.length = l.length →
   (∀ (i:Nat) (g:Field),l[i]?=some g→DataW.trod enc P w base spare held n g.type ((cs.drop g.offset).take (P.cellsOf g.type))=xs[i]?)→off≤cs.length →
   ∃ ds:List D,ds.length+off=cs.length∧TypedFs (Typed P n) l ds∧D.bulkC ds≤fs (xs.map (·.1))∧∀ (i:Nat) (v:Value) (d:D),cs[off+i]?=some v→ds[i]?=some d→DR (wst w) v d
 | [], off, xs, hl, _, hx, _, _ => by
   simp only [lays,beq_iff_eq] at hl
   refine ⟨[],by simp [hl],rfl,by simp [D.bulkC],by simp⟩
 | g :: r, off, xs, hl, hm, hx, hr, hoff => by
   simp only [lays,Bool.and_eq_true,beq_iff_eq] at hl
   obtain ⟨h1,h2⟩:=hl
   cases xs with
   | nil=>simp at hx
   | cons x xs =>
   have h0:=hr 0 g rfl
   simp only [List.getElem?_cons_zero] at h0
   obtain ⟨a,ha1,ha2,ha3,ha4⟩:=ih _ _ _ h0 (hm g (by simp))
   have hle:off+P.cellsOf g.type≤cs.length:=by
    have:∀ (l:List Field) (o tot:Nat),lays P l o tot=true→o≤tot:=by
     intro l
     induction l with
     | nil=>intro o tot h; simp [lays] at h; omega
     | cons y l ih=>intro o tot h; simp [lays] at h; have:=ih _ _ h.2; omega
    exact this _ _ _ h2
   have hal:a.length=P.cellsOf g.type:=by rw [ha1,h1]; simp; omega
   obtain ⟨b,hb1,hb2,hb3,hb4⟩:=fields_read B ih cs r (off+P.cellsOf g.type) xs h2 (fun g' hg=>hm g' (by simp [hg])) (by simpa using hx) (fun i g' hi=>by have:=hr (i+1) g' (by simpa using hi); simpa using this) hle
   refine ⟨a++b,by simp; omega,⟨a,b,rfl,ha2,hb2⟩,?_,fun i v d hv hd => ?_⟩
   · rw [D.bulkC_append]
     have:=B.cons x.1 (xs.map (·.1))
     simp only [List.map_cons]
     omega
   · by_cases hi:i < a.length
     · rw [List.getElem?_append_left hi] at hd
       refine ha4 i v d ?_ hd
       rw [h1,List.getElem?_take,List.getElem?_drop,if_pos (by omega)]
       exact hv
     · rw [List.getElem?_append_right (by omega)] at hd
       refine hb4 (i - a.length) v d ?_ hd
       rw [show off+P.cellsOf g.type+(i - a.length)=off+i by omega]
       exact hv
theorem rows_read {f:DataW X→Nat} {fs:List (DataW X)→Nat} (B:IsBulk f fs):∀ (rows:List (List D)) (l:List (DataW X)),rows.length=l.length→(∀ (i:Nat) (r:List D) (d:DataW X),rows[i]?=some r→l[i]?=some d→D.bulkC r≤f d)→D.bulkR rows≤fs l
 | [],l,_,_=>by simp [D.bulkR]
 | r :: rows,[],h,_=>by simp at h
 | r :: rows, d :: l, h, hi => by
   have h1:=hi 0 r d rfl rfl
   have h2:=rows_read B rows l (by simpa using h) (fun i r' d' hr hd=>hi (i+1) r' d' (by simpa using hr) (by simpa using hd))
   have h3:=B.cons d l
   simp only [D.bulkR]
   omega
theorem trod_read {ts:List TypeId} (hp:plainT P ts=true) {f:DataW X→Nat} {fs:List (DataW X)→Nat} (B:IsBulk f fs):∀ (n:Nat) (t:TypeId) (cs:List Value) (x:DataW X × List MemPlace),
 DataW.trod enc P w base spare held n t cs=some x→t ∈ ts →
  ∃ ds:List D,ds.length=cs.length∧Typed P n t ds∧D.bulkC ds≤f x.1∧∀ (i:Nat) (v:Value) (d:D),cs[i]?=some v→ds[i]?=some d→DR (wst w) v d
 | 0,t,cs,x,h,_=>by simp [DataW.trod] at h
 | n + 1, t, cs, x, h, ht => by
   have hpt:=List.all_eq_true.1 hp t ht
   have one:∀ (v:Value) (d:D),DR (wst w) v d→∀ (i:Nat) (v':Value) (d':D),[v][i]?=some v'→[d][i]?=some d'→DR (wst w) v' d':=fun v d hd i v' d' h1 h2=>by
    cases i with
    | zero=>simp at h1 h2; subst h1; subst h2; exact hd
    | succ i=>simp at h1
   split at hpt
   · rename_i hu
     obtain ⟨b,rfl,rfl⟩:=DataW.trod_bool hu h
     exact ⟨[.bool b],rfl,by simp [Typed,hu],by have:=B.bool b; simpa [D.bulkC,D.bulk] using this,one _ _ (.bool b)⟩
   · rename_i k hu
     obtain ⟨m,rfl,rfl,hw⟩:=DataW.trod_int hu h
     exact ⟨[.int k m],rfl,by simp [Typed,hu,hw],by have:=B.int k m; simpa [D.bulkC,D.bulk] using this,one _ _ (.int k m)⟩
   · rename_i hu
     obtain ⟨s,rfl,rfl,hw⟩:=DataW.trod_string hu h
     exact ⟨[.str s.data.toList],rfl,by simp [Typed,hu],by have:=B.str s.data.toList; simpa [D.bulkC,D.bulk] using this,one _ _ (.str s)⟩
   · rename_i e hu
     simp only [Bool.and_eq_true,List.contains_iff_mem,decide_eq_true_eq] at hpt
     obtain ⟨he,hpos⟩:=hpt
     rcases DataW.trod_slice hu h with ⟨rfl,rfl⟩ | ⟨a,len,cap,elems,rest,n',hn,rfl,rfl,hb,hlc,hcm,hel,hread,-,-⟩
     · exact ⟨[.sl true (P.cellsOf e) []],rfl,by simp [Typed,hu],by have:=B.nil; simpa [D.bulkC,D.bulk,D.bulkR] using this,one _ _ (.nilsl _)⟩
     · cases hn
       have each:∀ i,i < len→∃ (r:List D) (cs':List Value) (y:DataW X × List MemPlace),elems[i]?=some y∧w.cells? base (a.add (i * P.cellsOf e)) (P.cellsOf e)=some cs'∧r.length=cs'.length∧Typed P n e r∧D.bulkC r≤f y.1 ∧
        ∀ (j:Nat) (v:Value) (d:D),cs'[j]?=some v→r[j]?=some d→DR (wst w) v d:=fun i hi=>by
        have h1:=hread i hi
        have h2:elems[i]?=some (elems[i]'(by omega)):=List.getElem?_eq_getElem (by omega)
        rw [h2] at h1
        obtain ⟨cs',h3,h4⟩:=Option.bind_eq_some_iff.1 h1
        obtain ⟨r,r1,r2,r3,r4⟩:=trod_read hp B n e cs' _ h4 he
        exact ⟨r,cs',_,h2,h3,r1,r2,r3,r4⟩
       have each':∀ i:Nat,∃ (r:List D),i < len→∃ (cs':List Value) (y:DataW X × List MemPlace),elems[i]?=some y∧w.cells? base (a.add (i * P.cellsOf e)) (P.cellsOf e)=some cs'∧r.length=cs'.length∧Typed P n e r∧D.bulkC r≤f y.1 ∧
        ∀ (j:Nat) (v:Value) (d:D),cs'[j]?=some v→r[j]?=some d→DR (wst w) v d:=fun i=>by
        by_cases hi:i < len
        · obtain ⟨r,h⟩:=each i hi; exact ⟨r,fun _=>h⟩
        · exact ⟨[],fun h=>absurd h hi⟩
       obtain ⟨R,hR⟩:=Classical.axiomOfChoice each'
       have hrows:∀ (i:Nat) (r:List D),((List.range len).map R)[i]?=some r→i < len∧r=R i:=fun i r hr=>by
        simp only [List.getElem?_map,Option.map_eq_some_iff] at hr
        obtain ⟨k,hk,rfl⟩:=hr
        obtain ⟨hk1,hk2⟩:=List.getElem?_eq_some_iff.1 hk
        simp at hk1 hk2
        subst hk2
        exact ⟨hk1,rfl⟩
       refine ⟨[.sl (decide (len ≠ 0)) (P.cellsOf e) ((List.range len).map R)],rfl,?_,?_,?_⟩
       · simp only [Typed,hu]
         refine ⟨_,_,rfl,fun r hr => ?_⟩
         obtain ⟨i,hi,rfl⟩:=List.mem_map.1 hr
         obtain ⟨cs',y,-,-,-,h5,-⟩:=hR i (by simpa using hi)
         exact h5
       · have h1:=rows_read B ((List.range len).map R) (elems.map (·.1)) (by simp [hel]) (fun i r d hr hd=>by
          obtain ⟨hi,rfl⟩:=hrows i r hr
          obtain ⟨cs',y,h3,-,-,-,h6,-⟩:=hR i hi
          simp only [List.getElem?_map,h3,Option.map_some,Option.some.injEq] at hd
          subst hd; exact h6)
         have h2:=B.slice (elems.map (·.1)) (rest.map (·.1))
         simp only [D.bulkC,D.bulk]
         omega
       · refine one _ _ ?_
         cases len with
         | zero=>exact .emp _ _ _
         | succ m =>
           have hcell:∀ (i j:Nat) (r:List D) (d:D),((List.range (m+1)).map R)[i]?=some r→r[j]?=some d→r.length=P.cellsOf e∧∃ v,w.cell? ((a.add (i * P.cellsOf e)).add j)=some v∧DR (wst w) v d:=fun i j r d hr hd=>by
            obtain ⟨hi,rfl⟩:=hrows i r hr
            obtain ⟨cs',y,-,h3,h4,-,-,h7⟩:=hR i hi
            obtain ⟨-,hcl,hat⟩:=World.cells?_some h3
            have hj:j < (R i).length:=(List.getElem?_eq_some_iff.1 hd).1
            have hv:cs'[j]?=some (cs'[j]'(by omega)):=List.getElem?_eq_getElem (by omega)
            exact ⟨by omega,_,(hat j (by omega)).trans hv,h7 j _ d hv hd⟩
           obtain ⟨b,o,s⟩:=a
           have hs:s=none:=by
            obtain ⟨cs',y,-,h3,h4,-⟩:=hR 0 (by omega)
            obtain ⟨-,hcl,hat⟩:=World.cells?_some h3
            have hv:cs'[0]?=some (cs'[0]'(by omega)):=List.getElem?_eq_getElem (by omega)
            have:=(hat 0 hpos).trans hv
            rw [show ((⟨b,o,s⟩:Addr).add (0 * P.cellsOf e)).add 0=⟨b,o,s⟩ by simp [Addr.add]] at this
            unfold World.cell? at this
            split at this
            · split at this
              · cases this
              · rename_i hns
                cases s with
                | none=>rfl
                | some q=>exact absurd rfl hns
            · cases this
           subst hs
           have hval:∀ (i j:Nat),∃ v:Value,∀ (r:List D) (d:D),((List.range (m+1)).map R)[i]?=some r→r[j]?=some d→wst w b (o+i * P.cellsOf e+j)=some v∧DR (wst w) v d:=fun i j=>by
            by_cases hx:∃ (r:List D) (d:D),((List.range (m+1)).map R)[i]?=some r∧r[j]?=some d
            · obtain ⟨r,d,hr,hd⟩:=hx
              obtain ⟨-,v,hv1,hv2⟩:=hcell i j r d hr hd
              refine ⟨v,fun r' d' hr' hd' => ?_⟩
              rw [hr] at hr'; cases hr'
              rw [hd] at hd'; cases hd'
              rw [add_mk,add_mk] at hv1
              exact ⟨hv1,hv2⟩
            · exact ⟨.tuple #[],fun r d hr hd=>absurd ⟨r,d,hr,hd⟩ hx⟩
           obtain ⟨F,hF⟩:=Classical.axiomOfChoice fun i=>Classical.axiomOfChoice (hval i)
           have:=DR.sl (σ:=wst w) (decide (m+1 ≠ 0)) (P.cellsOf e) ((List.range (m+1)).map R) b o cap F (fun _ hh=>by simp at hh) (by simpa using hlc) (fun i r hr=>by
            obtain ⟨hi,rfl⟩:=hrows i r hr
            obtain ⟨cs',y,-,h3,h4,-⟩:=hR i hi
            obtain ⟨-,hcl,-⟩:=World.cells?_some h3
            omega) (fun i j r d hr hd=>(hF i j r d hr hd).1) (fun i j r d hr hd=>(hF i j r d hr hd).2)
           simpa using this
   · rename_i gs hu
     simp only [Bool.and_eq_true,List.all_eq_true,List.contains_iff_mem] at hpt
     obtain ⟨hm,hl⟩:=hpt
     obtain ⟨xs,n',hn,rfl,hcl,hxl,hr⟩:=DataW.trod_struct hu h
     cases hn
     rw [← hcl] at hl
     obtain ⟨ds,d1,d2,d3,d4⟩:=fields_read B (fun t cs x h ht=>trod_read hp B n t cs x h ht) cs gs.toList 0 xs hl (fun g hg=>hm g hg) (by simpa using hxl) (fun i g hi=>hr i g (by simpa using hi)) (Nat.zero_le _)
     refine ⟨ds,by omega,by simp only [Typed,hu]; exact d2,Nat.le_trans d3 (B.agg _),fun i v d hv hd=>d4 i v d (by simpa using hv) hd⟩
   · cases hpt
end
end
section
open Go.RowKit Go.ChangeShapes Go.WideShapes
section
variable {X:Type} {enc:TypeId × Value→X} {P:Program} {W W':World}
theorem stays {sp:Nat→Bool} (hl:laidOutB P=true) (hb:Below W.heap.size W W'):∀ {ts:List TypeId} {vs:List Value} {ds:List (DataW X)} {ps:List MemPlace},
 (∀ t ∈ ts,P.readableRec t=true∧t < P.types.size)→DataW.TrodAll enc P W 0 (fun _=>true) true ts vs ds ps→(∀ x ∈ ps,x.block < W.heap.size)→(∀ x ∈ ps,sp x.block=true) →
  DataW.TrodAll enc P W' 0 sp true ts vs ds ps
 | [],[],[],_,_,h,_,_=>h
 | _ :: _, _ :: _, _ :: _, _, ht, ⟨p, q, h1, h2, e⟩, hlt, hs =>
   ⟨p,q,WideElems.Trod_stays hl (ht _ (by simp)).1 (ht _ (by simp)).2 h1 (fun x hx=>hb.same (hlt x (by rw [e]; exact List.mem_append_left _ hx))) (fun x hx=>hs x (by rw [e]; exact List.mem_append_left _ hx)),
    stays hl hb (fun t h=>ht t (by simp [h])) h2 (fun x hx=>hlt x (by rw [e]; exact List.mem_append_right _ hx)) (fun x hx=>hs x (by rw [e]; exact List.mem_append_right _ hx)),e⟩
theorem post_law {f:Func} {s:ChangeSpec} {apart fresh handsOn again:Bool} {args:Array Value} {ds gs:List (DataW X)} {before:List MemPlace} {bt:TypeId} (hl:laidOutB P=true)
 (hW:DataW.Whole enc P f.params.toList s.vars apart W args.toList ds gs before) (hv:s.vars=[]) (hr:f.resultTypes = #[bt]) (hbt:P.underlying bt=some .bool)
 (hp:∀ t ∈ f.params.toList,P.readableRec t=true∧t < P.types.size) (h1:(s.fn X ds).results=[.lit (.bool true)]) (h2:(s.fn X ds).args=ds) (h3:(s.fn X ds).vars=[]) (hb:Below W.heap.size W W') :
 s.post enc P f apart fresh handsOn again W args (.bool true) W':=by
 have hW0:=hW
 obtain ⟨p,q,hA,hV,rfl,hz,hn⟩:=hW
 rw [hv] at hV
 obtain ⟨rfl,rfl⟩:gs=[]∧q=[]:=by
  cases gs with
  | nil=>exact ⟨rfl,hV⟩
  | cons g gs=>exact hV.elim
 have hlt:∀ x ∈ p,x.block < W.heap.size:=fun x hx=>hW0.lt x (by simpa using hx)
 have hargs:∀ sp:Nat→Bool,(∀ x ∈ p,sp x.block=true)→DataW.TrodAll enc P W' 0 sp true f.params.toList args.toList (s.fn X (ds++[])).args p:=fun sp hs=>by
  rw [List.append_nil,h2]; exact stays hl hb hp hA hlt hs
 have hres:∀ (b:Nat) (sp:Nat→Bool) (hd:Bool),DataW.TrodAll enc P W' b sp hd f.resultTypes.toList ((Value.bool true).resultList f.resultTypes.size) (s.fn X (ds++[])).results []:=fun b sp hd=>by
  rw [List.append_nil,h1,hr]
  exact trodAll_cons_mk (shut_bool hbt true) trodAll_mk0
 have hvars:∀ sp:Nat→Bool,DataW.TrodVars enc P W' sp s.vars (s.fn X (ds++[])).vars []:=fun sp=>by
  rw [List.append_nil,h3,hv]; rfl
 refine ⟨ds,[],p++[],[],p,[],hW0,hres _ _ _,hargs _ (fun x hx=>by simpa using hlt x hx),hvars _,World.keptBut_mono (fun x hx=>⟨hx,.inr (List.mem_append.1 hx)⟩) (hb.frame (· ∈ p++[])),fun _ => ?_⟩
 refine ⟨ok_one (t:=bt) hr rfl (okWide_bool_mk hbt true),_,_,([]++p)++[],⟨[]++p,[],trodAll_append (hargs _ (fun _ _=>rfl)) (hres _ _ _),hvars _,rfl,?_,?_⟩,?_⟩
 · intro b off hx
   have:MemPlace.cell b off ∈ p:=by simpa using hx
   rw [hb.frozen (hlt _ this)]
   exact hz b off (by simpa using this)
 · intro ha
   have:=hn ha
   simpa using this
 · intro x hx _
   simpa using hx
def ArgOf (P:Program) (t:TypeId) (ds:List D) (a:A):Prop :=
 match P.underlying t with
 | some (.struct _)=>a = .agg (ds.map .d)
 | _=>∃ x,ds=[x]∧a = .d x
def kst (W:World):K:=⟨W,wst W,fun _ => .none⟩
theorem arg_read {ts:List TypeId} (hp:plainT P ts=true) {f:DataW X→Nat} {fs:List (DataW X)→Nat} (B:IsBulk f fs) {t:TypeId} (ht:t ∈ ts) {b0 base:Nat} {sp:Nat→Bool} {held:Bool} {v:Value} {d:DataW X} {p:List MemPlace}
 (hv:Value.okWide P W .any b0 t v) (h:DataW.Trod enc P W base sp held t v d p):∃ n ds a,Typed P n t ds∧D.bulkC ds≤f d∧ArgOf P t ds a∧VR (kst W) v a:=by
 obtain ⟨n,h⟩:=h
 obtain ⟨ds,h1,h2,h3,h4⟩:=trod_read hp B n t _ _ h ht
 have hpt:=List.all_eq_true.1 hp t ht
 have one:v.cells = #[v]→(∀ fs,P.underlying t ≠ some (.struct fs))→∃ n ds a,Typed P n t ds∧D.bulkC ds≤f d∧ArgOf P t ds a∧VR (kst W) v a:=fun hc hs=>by
  rw [hc] at h1 h4
  match ds,h1 with
  | [x], _ =>
    refine ⟨n,[x],.d x,h2,h3,?_,.d (h4 0 v x rfl rfl)⟩
    unfold ArgOf
    split
    · rename_i fs e; exact absurd e (hs fs)
    · exact ⟨x,rfl,rfl⟩
 split at hpt
 · rename_i hu
   simp only [Value.okWide,hu,Cell.okWide,Cell.ok] at hv
   refine one ?_ (by simp [hu])
   cases v<;>first | rfl | exact hv.elim
 · rename_i k hu
   simp only [Value.okWide,hu,Cell.okWide,Cell.ok] at hv
   refine one ?_ (by simp [hu])
   cases v<;>first | rfl | exact hv.elim
 · rename_i hu
   simp only [Value.okWide,hu,Cell.okWide,Cell.ok] at hv
   refine one ?_ (by simp [hu])
   cases v<;>first | rfl | exact hv.elim
 · rename_i e hu
   simp only [Value.okWide,hu,Cell.okWide,Cell.ok] at hv
   refine one ?_ (by simp [hu])
   cases v<;>first | rfl | exact hv.elim
 · rename_i gs hu
   simp only [Value.okWide,hu] at hv
   obtain ⟨cs,rfl,-,-⟩:=hv
   refine ⟨n,ds,.agg (ds.map .d),h2,h3,by simp [ArgOf,hu],?_⟩
   have h1':ds.length=cs.toList.length:=h1
   have:=VR.agg (κ:=kst W) cs.toList (ds.map A.d) (by simp [h1']) (fun i v a hi ha=>by
    simp only [List.getElem?_map,Option.map_eq_some_iff] at ha
    obtain ⟨x,hx,rfl⟩:=ha
    exact .d (h4 i v x hi hx))
   simpa using this
 · cases hpt
def ArgsOf (P:Program):List TypeId→List A→Nat→Prop
 | [],ars,_=>ars=[]
 | t :: ts,ars,b=>∃ n ds a r b',ars=a :: r∧Typed P n t ds∧ArgOf P t ds a∧ArgsOf P ts r b'∧D.bulkC ds+b'≤b
theorem args_read {ts:List TypeId} (hp:plainT P ts=true) {f:DataW X→Nat} {fs:List (DataW X)→Nat} (B:IsBulk f fs) {b0 base:Nat} {sp:Nat→Bool} {held:Bool}:∀ {us:List TypeId} {vs:List Value} {ds:List (DataW X)} {ps:List MemPlace},
 (∀ t ∈ us,t ∈ ts)→(∀ (j:Nat) (t:TypeId) (v:Value),us[j]?=some t→vs[j]?=some v→Value.okWide P W .any b0 t v)→DataW.TrodAll enc P W base sp held us vs ds ps →
  ∃ ars,ArgsOf P us ars (fs ds)∧vs.length=ars.length∧∀ (i:Nat) (v:Value) (a:A),vs[i]?=some v→ars[i]?=some a→VR (kst W) v a
 | [],[],[],_,_,_,_=>⟨[],rfl,rfl,by simp⟩
 | t :: us, v :: vs, d :: ds, _, hu, hv, ⟨p, q, h1, h2, _⟩ => by
   obtain ⟨n,cs,a,a1,a2,a3,a4⟩:=arg_read hp B (hu t (by simp)) (hv 0 t v rfl rfl) h1
   obtain ⟨ars,b1,b2,b3⟩:=args_read hp B (fun t ht=>hu t (by simp [ht])) (fun j t v ht hv'=>hv (j+1) t v (by simpa using ht) (by simpa using hv')) h2
   refine ⟨a :: ars,⟨n,cs,a,ars,fs ds,rfl,a1,a3,b1,?_⟩,by simp [b2],fun i u x hx hy => ?_⟩
   · have:=B.cons d ds; omega
   · cases i with
     | zero=>simp at hx hy; subst hx; subst hy; exact a4
     | succ i=>exact b3 i u x (by simpa using hx) (by simpa using hy)
end
end
theorem typed_str {P:Program} {n:Nat} {t:TypeId} {ds:List D} (hu:P.underlying t=some .string) (h:Typed P n t ds):∃ s,ds=[.str s]:=by
 cases n with
 | zero=>exact h.elim
 | succ n=>simpa only [Typed,hu] using h
theorem argOf_one {P:Program} {t:TypeId} {x:D} {a:A} (hu:∀ fs,P.underlying t ≠ some (.struct fs)) (h:ArgOf P t [x] a):a = .d x:=by
 unfold ArgOf at h
 split at h
 · rename_i fs e; exact absurd e (hu fs)
 · obtain ⟨y,hy,rfl⟩:=h
   simp at hy; rw [hy]

section
open Go.RowKit Go.ChangeShapes Go.WideShapes
def LaidOb (W:World) (H0:Hp):Prop:=∀ (i:Nat) (x:Ob),H0[i]?=some x→∃ g cs ty fr,x = .glob g cs∧W.heap[g]?=some (.cells cs.toArray ty fr)
theorem kst_hrG {W:World} {H0:Hp} (h:LaidOb W H0):HR (kst W) H0 W :=
 ⟨Below.refl _ _,fun _ _ _ h=>h,fun i x hx=>by
  obtain ⟨g,cs,ty,fr,rfl,hg⟩:=h i x hx
  exact ⟨ty,fr,hg⟩,fun _ _=>rfl,by simp [kst,Bind.block],by simp [kst,Bind.owns],by simp [kst,Bind.block],fun i x hx=>by
  obtain ⟨g,cs,ty,fr,rfl,hg⟩:=h i x hx
  rfl⟩
section
variable {X:Type} {enc:TypeId × Value→X} {P:Program} {W:World}
theorem lawD_of {f:FuncId} {fn:Func} {s:ChangeSpec} {apart fresh handsOn again:Bool} {args:Array Value} {ds gs:List (DataW X)} {before:List MemPlace} {bt:TypeId} {base:Nat} {ts:List TypeId} {H0:Hp} (hl:laidOutB P=true) (hpl:plainT P ts=true)
 {g:DataW X→Nat} {gl:List (DataW X)→Nat} (B:IsBulk g gl)
 (hval:∀ (j:Nat) (t:TypeId) (v:Value),fn.params[j]?=some t→args[j]?=some v→Value.okWide P W .any base t v)
 (hW:DataW.Whole enc P fn.params.toList s.vars apart W args.toList ds gs before) (hv:s.vars=[]) (hr:fn.resultTypes = #[bt]) (hbt:P.underlying bt=some .bool)
 (hp:∀ t ∈ fn.params.toList,t ∈ ts∧P.readableRec t=true∧t < P.types.size) (h1:(s.fn X ds).results=[.lit (.bool true)]) (h2:(s.fn X ds).args=ds) (h3:(s.fn X ds).vars=[])
 (h0:LaidOb W H0) (h:∀ ars,ArgsOf P fn.params.toList ars (gl ds)→ACall P f ars H0 (fun r _=>r = .d (.bool true))) :
 Calls P f args W fun e W'=>∃ v,e = .returned v∧s.post enc P fn apart fresh handsOn again W args v W':=by
 have hW0:=hW
 obtain ⟨p,q,hA,-⟩:=hW
 obtain ⟨xs,a1,a2,a3⟩:=args_read hpl B (fun t ht=>(hp t ht).1) (fun j t v ht hv'=>hval j t v (by simpa using ht) (by simpa using hv')) hA
 refine (h xs a1 (kst W) W args.toList (kst_hrG h0) a2 a3).mono fun e W' ⟨v,κ',x,H',he,hk,hh,hvr,hx⟩ => ?_
 subst hx
 have hvt:v = .bool true:=by
  cases hvr with | d h=>cases h; rfl
 subst hvt
 refine ⟨_,he,post_law hl hW0 hv hr hbt (fun t ht=>(hp t ht).2) h1 h2 h3 ?_⟩
 have:=hh.below
 rw [hk.w0] at this
 exact this
end
end
section
open Go.RowKit Go.Proofs Go.Shelf
theorem HR.freeze {κ:K} {H:Hp} {w:World} (h:HR κ H w) {t b e c n m sz:Nat} {ty:TypeId} (ht:H[t]?=some (.tok n sz ty)) (hb : κ.β t = .reg b e c m sz) (hm:m≤e) (hmn:m=n) (hs1:sz=1):HR κ H (w.freeze ⟨b,0,none⟩ m):=by
 subst hmn
 by_cases h0:m=0
 · subst h0; simp only [World.freeze,if_true]; exact h
 have hne:∀ k,k ≠ b→(w.freeze ⟨b,0,none⟩ m).heap[k]?=w.heap[k]?:=fun k hk=>by
  simp only [World.freeze,h0,if_false,Array.getElem?_modify]
  rw [if_neg (Ne.symm hk)]
 have hcell:∀ a:Addr,(w.freeze ⟨b,0,none⟩ m).cell? a=w.cell? a:=fun a=>by
  by_cases ha:a.block=b
  · simp only [World.cell?,World.freeze,h0,if_false,Array.getElem?_modify,ha,if_true]
    cases w.heap[b]? with
    | none=>rfl
    | some o=>cases o<;>rfl
  · simp only [World.cell?,hne _ ha]
 have hsz:(w.freeze ⟨b,0,none⟩ m).heap.size=w.heap.size:=by simp [World.freeze,h0]
 have hex:=h.ex t b (by rw [hb]; rfl)
 refine ⟨?_,fun b' o v hv=>(hcell _).trans (h.st b' o v hv),fun i x hx => ?_,h.dom,fun i b' hi => ?_,h.exσ,h.exd,h.fl⟩
 · refine h.below.trans ⟨by simp [World.freeze,h0],by simp [World.freeze,h0],by simp [World.freeze,h0],by rw [hsz]; exact Nat.le_refl _,fun k hk=>hne k (by omega)⟩
 · by_cases hit:i=t
   · subst hit
     rw [ht] at hx; cases hx
     rcases h.ob i _ ht with ⟨h1,-⟩ | ⟨b',e',c',cur,lo,hi,h1,h2,h3,h4⟩
     · rw [hb] at h1; cases h1
     · rw [hb] at h1; cases h1
       refine .inr ⟨b,e,c,cur,(if lo == hi then (0,0+m) else (min lo 0,max hi (0+m))).1,(if lo == hi then (0,0+m) else (min lo 0,max hi (0+m))).2,hb,?_,h3,?_⟩
       · simp only [World.freeze,h0,if_false,Array.getElem?_modify,if_true,h2,Option.map_some]
       · right
         refine ⟨hs1,?_⟩
         by_cases hlh:lo=hi
         · simp [hlh]; exact hm
         · have:(lo == hi)=false:=by simpa using hlh
           simp only [this,Bool.false_eq_true,if_false]
           rcases h4 with ⟨h4,h5⟩ | ⟨-,h4⟩
           · exact absurd (h4.trans h5.symm) hlh
           · omega
   · refine (h.ob i x hx).mono (K.le_refl κ) rfl fun b' hb'=>hne b' fun e => ?_
     subst e
     exact hit (h.exd i t b' hb' (by rw [hb]; rfl))
 · rw [hsz]; exact h.ex i b' hi
section
variable {P:Program} {ρ:Ren}
theorem copyCheck_acall (L:Lays.n240 P ρ) (X:Builder.X72 P ρ) {H:Hp} {i:Nat} {x a:A} (hi:H[i]?=some (.box (ρ.t 72) [a,x])) (ha:a = .d .nilp∨a = .ptr i 0) :
 ACall P (ρ.f 240) [.ptr i 0] H (fun r H'=>r = .tup []∧H'=H.set i (.box (ρ.t 72) [.ptr i 0,x])):=by
 intro κ w vs hr hl hv
 match vs,hl with
 | [v],_ =>
 have hv0:=hv 0 v _ rfl rfl
 cases hv0 with
 | ptr _ _ b hb =>
 obtain ⟨b',hb',hsh,hc⟩:=hr.ob i _ hi
 have hbb:b'=b:=by rw [hb] at hb'; cases hb'; rfl
 subst hbb
 obtain ⟨u,hu1,hu2,hu3⟩:=hc 0 a rfl
 rcases ha with rfl | rfl
 · have hu:u = .pointer none:=by cases hu3 with | d h=>cases h; rfl
   subst hu
   refine (Any.Builder_copyCheck_fresh L X b' w hu1 hsh hu2).mono fun e w' ⟨he,hw⟩ => ?_
   subst hw
   exact ⟨_,κ,.tup [],_,he,K.le_refl κ,hr.setBox (j:=0) hi hb (by simp) rfl (.ptr i 0 b' hb),.tup [] [] rfl (by simp),rfl,rfl⟩
 · have hu:u = .pointer (some ⟨b',0,none⟩):=by
    cases hu3 with | ptr _ _ b2 h2=>rw [hb] at h2; cases h2; rfl
   subst hu
   refine (Any.Builder_copyCheck_used L X b' w hu1).mono fun e w' ⟨he,hw⟩ => ?_
   subst hw
   refine ⟨_,κ,.tup [],H,he,K.le_refl κ,hr,.tup [] [] rfl (by simp),rfl,?_⟩
   refine List.ext_getElem? fun j => ?_
   by_cases hj:i=j
   · subst hj; rw [List.getElem?_set_self (List.getElem?_eq_some_iff.1 hi).1,hi]
   · rw [List.getElem?_set_ne hj]
set_option maxHeartbeats 1000000 in
set_option maxRecDepth 100000 in
theorem Builder_String_row (L:Lays.n169 P ρ) (X:Builder.Extra P ρ) (b g cap cells:Nat) (l:List UInt8) (w:World) (h0:l ≠ []) (c0:w.cell? ⟨b,1,none⟩=some (.slice (some ⟨g,0,none⟩) l.length cap)) (hcap:l.length≤cap) (hcells:l.length≤cells)
 (hsh:w.shape? g=some (ρ.t 5,cells)) (h63:l.length≤9223372036854775807) (hb:∀ j x,l[j]?=some x→w.cell? ⟨g,j,none⟩=some (.int .u8 x.toNat)) :
 Calls P (ρ.f 169) #[.pointer (some ⟨b,0,none⟩)] w fun e w'=>e = .returned (.string ⟨l.toArray⟩)∧w'=w.drew.freeze ⟨g,0,none⟩ l.length:=by
 have hl0:l.length ≠ 0:=by simpa using h0
 have c1:w.drew.cell? ⟨b,1,none⟩=some (.slice (some ⟨g,0,none⟩) l.length cap):=c0
 have hSD:(Builtin.unsafeSliceData_ #[(ρ.t 37)] (ρ.t 127) #[.slice (some ⟨g,0,none⟩) l.length cap]).run P w.drew = .ok (.pointer (some ⟨g,0,none⟩)) w.drew :=
  Lib.run_unsafeSliceData_row _ _ _ _ _ _ (by omega)
 have hUS:(Builtin.unsafeString_ #[(ρ.t 127),(ρ.t 3)] (ρ.t 9) #[.pointer (some ⟨g,0,none⟩),.int .i64 l.length]).run P w.drew = .ok (.string ⟨l.toArray⟩) (w.drew.freeze ⟨g,0,none⟩ l.length):=by
  refine Lib.run_unsafeString_row w.drew (ρ.t 127) (ρ.t 3) (ρ.t 9) (ρ.t 5) L.t127 X.cellsByte g cells hsh l h0 hcells h63 ?_
  intro j x hx
  have:=hb j x hx
  rw [add_mk,Nat.zero_add]; exact this
 have mixed:=L.mixed
 have t72:=L.t72; have a72:=L.a72; have z72:=L.z72; have v72:=L.v72; have u72:=run_underlying L.t72
 have t70:=L.t70; have a70:=L.a70; have z70:=L.z70; have v70:=L.v70; have u70:=run_underlying L.t70
 have t37:=L.t37; have a37:=L.a37; have z37:=L.z37; have v37:=L.v37; have u37:=run_underlying L.t37
 have t127:=L.t127; have a127:=L.a127; have z127:=L.z127; have v127:=L.v127; have u127:=run_underlying L.t127
 have t3:=L.t3; have a3:=L.a3; have z3:=L.z3; have v3:=L.v3; have u3:=run_underlying L.t3
 have t9:=L.t9; have a9:=L.a9; have z9:=L.z9; have v9:=L.v9; have u9:=run_underlying L.t9
 have t5:=X.t5; have a5:=X.a5; have z5:=X.z5; have v5:=X.v5; have u5:=run_underlying X.t5
 go_enter L.f169,Body.n169_ntmps ρ
 go_wp2
 go_region_o
 all_goals (go_wp2; go_ret; exact ⟨rfl,rfl⟩)
set_option maxHeartbeats 1000000 in
set_option maxRecDepth 100000 in
theorem Builder_String_nil' (L:Lays.n169 P ρ) (X:Builder.Extra P ρ) (b:Nat) (w:World) (c0:w.cell? ⟨b,1,none⟩=some (.slice none 0 0)) :
 Calls P (ρ.f 169) #[.pointer (some ⟨b,0,none⟩)] w fun e w'=>e = .returned (.string ⟨#[]⟩)∧w'=w.drew:=by
 have hUS:=Any.unsafeString_none L X
 have c1:w.drew.cell? ⟨b,1,none⟩=some (.slice none 0 0):=c0
 have hSD:(Builtin.unsafeSliceData_ #[(ρ.t 37)] (ρ.t 127) #[.slice none 0 0]).run P w.drew = .ok (.pointer none) w.drew:=Lib.run_unsafeSliceData_nil _ _ _ _ _
 have mixed:=L.mixed
 have t72:=L.t72; have a72:=L.a72; have z72:=L.z72; have v72:=L.v72; have u72:=run_underlying L.t72
 have t70:=L.t70; have a70:=L.a70; have z70:=L.z70; have v70:=L.v70; have u70:=run_underlying L.t70
 have t37:=L.t37; have a37:=L.a37; have z37:=L.z37; have v37:=L.v37; have u37:=run_underlying L.t37
 have t127:=L.t127; have a127:=L.a127; have z127:=L.z127; have v127:=L.v127; have u127:=run_underlying L.t127
 have t3:=L.t3; have a3:=L.a3; have z3:=L.z3; have v3:=L.v3; have u3:=run_underlying L.t3
 have t9:=L.t9; have a9:=L.a9; have z9:=L.z9; have v9:=L.v9; have u9:=run_underlying L.t9
 have t5:=X.t5; have a5:=X.a5; have z5:=X.z5; have v5:=X.v5; have u5:=run_underlying X.t5
 go_enter L.f169,Body.n169_ntmps ρ
 go_wp2
 go_region_o
 all_goals (go_wp2; go_ret; exact ⟨rfl,rfl⟩)
theorem string_acall (L:Lays.n169 P ρ) (X:Builder.Extra P ρ) {H:Hp} {i t:Nat} {a:A} {s:List UInt8} (hi:H[i]?=some (.box (ρ.t 72) [a,.osl true 1 (byteRows s) t])) (ht:H[t]?=some (.tok s.length 1 (ρ.t 5))) (hlen:s.length≤4611686018427387904) :
 ACall P (ρ.f 169) [.ptr i 0] H (fun r H'=>r = .d (.str s)∧H'=H):=by
 intro κ w vs hr hl hv
 match vs,hl with
 | [v],_ =>
 have hv0:=hv 0 v _ rfl rfl
 cases hv0 with
 | ptr _ _ b hb =>
 obtain ⟨b',hb',hsh,hc⟩:=hr.ob i _ hi
 have hbb:b'=b:=by rw [hb] at hb'; cases hb'; rfl
 subst hbb
 obtain ⟨u,hu1,hu2,hu3⟩:=hc 1 _ rfl
 have hrl:(byteRows s).length=s.length:=by simp [byteRows]
 cases hu3 with
 | osl hd hf =>
 have hstr:∀ κ':K,VR κ' (.string ⟨s.toArray⟩) (.d (.str s)):=fun κ'=>by
  have:=DR.str (σ := κ'.σ) ⟨s.toArray⟩
  exact .d (by simpa using this)
 by_cases h0:s=[]
 · subst h0
   have hu:u = .slice none 0 0:=by
    rcases hd.sl_inv with ⟨h1,-⟩ | ⟨_,_,_,h1,-⟩ | ⟨_,_,_,_,_,h1,-⟩
    · exact h1
    · cases h1
    · exact absurd rfl (h1 rfl)
   subst hu
   refine (Builder_String_nil' L X b' w hu1).mono fun e w' ⟨he,hw⟩ => ?_
   subst hw
   exact ⟨_,κ,_,H,he,K.le_refl κ,hr.drew,hstr κ,rfl,rfl⟩
 · rcases hr.ob t _ ht with ⟨-,h1⟩ | ⟨g,e,c,cur,lo,hi',h1,h2,h3,h4⟩
   · exact absurd (List.eq_nil_of_length_eq_zero h1) h0
   rw [h1,hrl] at hf
   obtain ⟨-,hf⟩:=hf
   obtain ⟨o,cap,hu,hcap,he,hcc,ho⟩:=hf rfl
   subst ho; subst hu
   obtain ⟨-,f,-,-,-,hcs,hds⟩:=hd.sl_at
   refine (Builder_String_row L X b' g cap cur.size s w h0 hu1 hcap (by omega) (by simp [World.shape?,h2]) (by omega) (fun j x hx => ?_)).mono fun e' w' ⟨he',hw⟩ => ?_
   · have hrow:(byteRows s)[j]?=some [.int .u8 x.toNat]:=by simp [byteRows,hx]
     have h5:=hcs j 0 _ _ hrow rfl
     have h6:=hds j 0 _ _ hrow rfl
     have h7:=hr.st _ _ _ h5
     cases h7':f j 0<;>rw [h7'] at h6<;>cases h6
     rw [h7'] at h7
     simpa using h7
   · subst hw
     refine ⟨_,κ,_,H,he',K.le_refl κ,?_,hstr κ,rfl,rfl⟩
     exact hr.drew.freeze ht h1 (by omega) rfl rfl
end
end

theorem acall_fink {P:Program} {f:FuncId} {fn:Func} {tok:List Nat} {ifn:IFn} {args:List A} {H:Hp} {K:A→Hp→Prop} (k:Nat) (hf:P.funcs[f]?=some fn) (hc:compF P tok fn=some ifn) (hn:args.length≤ifn.nt)
 (h:H.Closed→(∀ a ∈ args,a.flat0=true→a.lo H.length=true)→AWp P H.length ifn.body (Fin ifn.res (H.length+k) K) (Fr.init args) H):ACall P f args H K :=
 acall_of hf hc hn fun h1 h2=>AWp.mono _ (fun e fr H' h=>by
  have hx:RetK K .mk (H.length+k) (resA fr H' ifn.res) H':=by cases e<;>first | exact h | exact h.elim
  unfold RetK at hx
  split at hx
  · rename_i x e1
    cases e with
    | exit=>exact h.elim
    | normal=>exact ⟨x,H.length+k,e1,by omega,hx.1,hx.2⟩
    | ret=>exact ⟨x,H.length+k,e1,by omega,hx.1,hx.2⟩
  · exact hx.elim) _ _ (h h1 h2)
end Go.Zam
namespace Go.Zam
namespace Cmp
variable {α:Type} {c : α → α→Int}
end Cmp
section
variable {α:Type} (c : α → α→Int)
end
section
variable {α:Type} {c : α → α→Int}
end
end Go.Zam
namespace Go.Zam

section
section
variable {α:Type} {enc : α→List D} {sz:Nat}
end
theorem Hp.cut_set (n i:Nat) (H:Hp) (x:Ob):Hp.cut n (H.set i x)=(Hp.cut n H).set i (x.clr n):=by
 simp only [Hp.cut,List.take_set,List.map_set]
section
variable {P:Program} {α:Type} {enc : α→List D} {sz:Nat}
end
end
section
section
variable {P:Program} {α:Type} {enc : α→List D} {sz:Nat} {c : α → α→Int}
end
end
section
section
variable {P:Program} {α:Type} {enc : α→List D} {sz:Nat} {c : α → α→Int}
end
end
section
section
variable {P:Program} {α:Type} {enc : α→List D} {sz:Nat} {c : α → α→Int}
end
end
section
section
variable {P:Program} {α:Type} {enc : α→List D} {sz:Nat} {c : α → α→Int}
end
end
section
section
variable {P:Program}
end
end
section
open Go.Proofs
def irWrite (cc:Nat):IFn:=by
 have h:=Ix.J [] Tryz.f28 [(55,cc)] [];conv at h=>arg 1;reduce
 exact h.p
theorem appA_osl {H:Hp} {t sz b e:Nat} {z:Bool} {rows new:List (List D)} (ht:H[t]?=some (.tok rows.length sz e)) (hf:(rows.length+new.length) * b≤140737488355328) :
 appA H sz b e new (.osl z sz rows t)=some (.osl z sz (rows++new) t,H.set t (.tok (rows.length+new.length) sz e)):=by
 simp [appA,ht,hf]
@[simp] theorem byteRows_length (s:List UInt8):(byteRows s).length=s.length:=by simp [byteRows]
theorem byteRows_append (a b:List UInt8):byteRows (a++b)=byteRows a++byteRows b:=by simp [byteRows]
theorem subL_ok {α:Type} {s:List α} {a b:Int} (h:0≤a∧a≤b∧b≤s.length):subL s a b=some ((s.drop a.toNat).take (b.toNat - a.toNat)):=by
 simp [subL,h]
end
section
def CopyOk (P:Program) (cc:FuncId) (bt:TypeId):Prop:=∀ (H:Hp) (i:Nat) (x a:A),H[i]?=some (.box bt [a,x])→(a = .d .nilp∨a = .ptr i 0)→ACall P cc [.ptr i 0] H (fun r H'=>r = .tup []∧H'=H.set i (.box bt [.ptr i 0,x]))
def StringOk (P:Program) (st:FuncId) (bt:TypeId):Prop:=∀ (H:Hp) (i t:Nat) (a:A) (s:List UInt8),H[i]?=some (.box bt [a,.osl true 1 (byteRows s) t])→H[t]?=some (.tok s.length 1 5)→s.length≤140737488355328→ACall P st [.ptr i 0] H (fun r H'=>r = .d (.str s)∧H'=H)
section
variable {P:Program} {et bt:Nat}
end
end
section
section
variable {P:Program} {α:Type} {enc : α→List D} {sz:Nat}
end
end

section
theorem ld_ptr (H:Hp) (i off n:Nat):ldA H n (.ptr i off)=(match H[i]? with | some (.box _ cs)=>cutL cs off n | _=>none):=rfl
theorem st_ptr (H:Hp) (i off:Nat) (cs:List A):stA H cs (.ptr i off)=(match H[i]? with | some (.box ty old)=>if off+cs.length≤old.length then some (H.set i (.box ty (setL old off cs))) else none | _=>none):=rfl
section
variable {P:Program} {α:Type} {enc : α→List D} {sz:Nat}
end
end
section
section
variable {κ κ':K} {i j:Nat}
end
end
theorem rowAt_map {α:Type} (f : α→List D) {l:List α} {i:Nat} (h:i < l.length):Zam.rowAt (l.map f) (i:Int)=some (f l[i]):=by
 simp [Zam.rowAt,h]
def NextK (J:Nat→Fr→Hp→Prop) (_:Tag J) (m n si sn st:Nat) (i:Nat) (fr:Fr) (H:Hp):Prop :=
 fr si = .d (.int .i64 (i:Int))∧fr sn = .d (.int .i64 (n:Int))∧∃ k,m≤k∧k≤H.length∧J (i+1) (Fr.clr k ((fr.set st (.d (.int .i64 ((i:Int)+1)))).set si (.d (.int .i64 ((i:Int)+1))))) (Hp.cut k H)
@[congr] theorem NextK_congr {J:Nat→Fr→Hp→Prop} {t:Tag J} {m n si sn st i:Nat} {fr fr':Fr} {H H':Hp} (h:fr=fr') (h2:H=H'):NextK J t m n si sn st i fr H=NextK J t m n si sn st i fr' H':=by rw [h,h2]
theorem NextK_of {J:Nat→Fr→Hp→Prop} {t:Tag J} {m n si sn st i:Nat} {fr:Fr} {H:Hp} (k:Nat) (hk:m≤k) (h:k≤H.length∧fr si = .d (.int .i64 (i:Int))∧fr sn = .d (.int .i64 (n:Int)))
 (hj:J (i+1) (Fr.clr k ((fr.set st (.d (.int .i64 ((i:Int)+1)))).set si (.d (.int .i64 ((i:Int)+1))))) (Hp.cut k H)):NextK J t m n si sn st i fr H :=
 ⟨h.2.1,h.2.2,k,hk,h.1,hj⟩
def rangeC (si sn sb st b c:Nat) (body:C):C :=
 .seq (.ops [⟨some sb,none,.bin .lss (.t si) (.t sn)⟩] false) (.seq (.cond (.t sb) .skip (.exit b)) (.seq (.blk c body) (.ops [⟨some st,none,.bin .add (.t si) (.c (.int .i64 1))⟩,⟨some si,none,.mv (.t st)⟩] false)))
theorem RangeK_of {P:Program} {n0:Nat} {Q:Ex→Fr→Hp→Prop} {fr:Fr} {H:Hp} {si sn sb st b c:Nat} {body:C} {t:Tag (Q,rangeC si sn sb st b c body)} (m n:Nat) (J:Nat→Fr→Hp→Prop) (hn:n≤4611686018427387904)
 (hne:(si ≠ sn∧si ≠ sb∧sn ≠ sb)∧(sb ≠ st∧sn ≠ st)) (h1:n0≤m∧m≤H.length) (h2:fr si = .d (.int .i64 0)∧fr sn = .d (.int .i64 (n:Int))) (h3:J 0 (fr.clr m) (Hp.cut m H))
 (h4:∀ i fr H,i < n→fr si = .d (.int .i64 (i:Int))→fr sn = .d (.int .i64 (n:Int))→J i fr H →
  AWp P n0 body (Ex.blk c (Ex.then (NextK J .mk m n si sn st i) Q)) (fr.set sb (.d (.bool true))) H)
 (h5:∀ fr H,fr si = .d (.int .i64 (n:Int))→fr sn = .d (.int .i64 (n:Int))→J n fr H→Q (.exit b) (fr.set sb (.d (.bool false))) H) :
 LoopK Q (rangeC si sn sb st b c body) t P n0 fr H:=by
 obtain ⟨⟨n1,n2,n3⟩,n4,n5⟩:=hne
 refine LoopK_of m (fun fr H=>∃ i:Nat,i≤n∧fr si = .d (.int .i64 (i:Int))∧fr sn = .d (.int .i64 (n:Int))∧J i fr H) (fun fr H=>match fr si with | .d (.int _ k)=>(n - k).toNat | _=>0) h1
  ⟨0,Nat.zero_le _,by simp [h2.1],by simp [h2.2],h3⟩ ?_
 rintro fr H ⟨i,hi,f1,f2,hj⟩
 simp [rangeC,f1,f2]
 refine BrK_split (fun h => ?_) (fun h => ?_)
 · have hlt:i < n:=by simpa using h
   have hw:IntKind.i64.wrap ((i:Int)+1)=i+1:=wrap_i64 (by omega) (by omega)
   have hd:decide (i < n)=true:=by simpa using hlt
   rw [hd]
   simp only [AWp_skip,then_normal,AWp_seq,AWp_blk]
   refine AWp.mono _ ?_ _ _ (h4 i fr H hlt f1 f2 hj)
   intro e fr' H' h
   have fin:NextK J .mk m n si sn st i fr' H'→Ex.then (AWp P n0 (.ops [⟨some st,none,.bin .add (.t si) (.c (.int .i64 1))⟩,⟨some si,none,.mv (.t st)⟩] false) (Ex.then (Again m (fun fr H=>∃ i:Nat,i≤n∧fr si = .d (.int .i64 (i:Int))∧fr sn = .d (.int .i64 (n:Int))∧J i fr H) (fun fr H=>match fr si with | .d (.int _ k)=>(n - k).toNat | _=>0) (n - i)) Q)) (Ex.then (Again m (fun fr H=>∃ i:Nat,i≤n∧fr si = .d (.int .i64 (i:Int))∧fr sn = .d (.int .i64 (n:Int))∧J i fr H) (fun fr H=>match fr si with | .d (.int _ k)=>(n - k).toNat | _=>0) (n - i)) Q) Ex.normal fr' H':=by
    rintro ⟨g1,g2,k,k1,k2,k3⟩
    simp [g1,hw]
    refine AgainK_ofk k k1 k2 ⟨i+1,by omega,by simp,by simp [n1.symm,n5,g2],?_⟩ ?_
    · exact k3
    · simp; omega
   cases e with
   | normal=>exact fin h
   | exit j =>
     simp only [blk_exit] at h ⊢
     by_cases hj:j=c
     · rw [if_pos hj] at h ⊢; exact fin h
     · rw [if_neg hj] at h ⊢; exact h
   | ret=>exact h
 · have : i = n := by have : ¬ i < n := by simpa using h
                      omega
   subst this
   simp
   exact h5 fr H f1 f2 hj
def NextF (J:Nat→Fr→Hp→Prop) (_:Tag J) (m n si su sv:Nat) (i:Nat) (fr:Fr) (H:Hp):Prop :=
 fr si = .d (.int .i64 (i:Int))∧i < n∧∃ k,m≤k∧k≤H.length∧J (i+1) (Fr.clr k (((fr.set su (.d (.int .i64 (i:Int)))).set sv (.d (.int .i64 ((i:Int)+1)))).set si (.d (.int .i64 ((i:Int)+1))))) (Hp.cut k H)
@[congr] theorem NextF_congr {J:Nat→Fr→Hp→Prop} {t:Tag J} {m n si su sv i:Nat} {fr fr':Fr} {H H':Hp} (h:fr=fr') (h2:H=H'):NextF J t m n si su sv i fr H=NextF J t m n si su sv i fr' H':=by rw [h,h2]
theorem NextF_of {J:Nat→Fr→Hp→Prop} {t:Tag J} {m n si su sv i:Nat} {fr:Fr} {H:Hp} (k:Nat) (hk:m≤k) (hi:i < n) (h:k≤H.length∧fr si = .d (.int .i64 (i:Int)))
 (hj:J (i+1) (Fr.clr k (((fr.set su (.d (.int .i64 (i:Int)))).set sv (.d (.int .i64 ((i:Int)+1)))).set si (.d (.int .i64 ((i:Int)+1))))) (Hp.cut k H)):NextF J t m n si su sv i fr H :=
 ⟨h.2,hi,k,hk,h.1,hj⟩
def forC (si su sv c:Nat) (cnd body:C):C :=
 .seq cnd (.seq (.blk c body) (.ops [⟨some su,none,.mv (.t si)⟩,⟨some sv,none,.bin .add (.t su) (.c (.int .i64 1))⟩,⟨some si,none,.mv (.t sv)⟩] false))
theorem ForK_of {P:Program} {n0:Nat} {Q:Ex→Fr→Hp→Prop} {fr:Fr} {H:Hp} {si su sv c:Nat} {cnd body:C} {t:Tag (Q,forC si su sv c cnd body)} (m n:Nat) (J:Nat→Fr→Hp→Prop) (hn:n≤4611686018427387904)
 (hne:si ≠ su∧si ≠ sv∧su ≠ sv) (h1:n0≤m∧m≤H.length) (h2:fr si = .d (.int .i64 0)) (h3:J 0 (fr.clr m) (Hp.cut m H))
 (h4:∀ i fr H,i≤n→fr si = .d (.int .i64 (i:Int))→J i fr H →
  AWp P n0 cnd (Ex.then (AWp P n0 body (Ex.blk c (Ex.then (NextF J .mk m n si su sv i) Q))) Q) fr H) :
 LoopK Q (forC si su sv c cnd body) t P n0 fr H:=by
 obtain ⟨n1,n2,n3⟩:=hne
 refine LoopK_of m (fun fr H=>∃ i:Nat,i≤n∧fr si = .d (.int .i64 (i:Int))∧J i fr H) (fun fr H=>match fr si with | .d (.int _ k)=>(n - k).toNat | _=>0) h1
  ⟨0,Nat.zero_le _,by simp [h2],h3⟩ ?_
 rintro fr H ⟨i,hi,f1,hj⟩
 simp only [forC,AWp_seq]
 refine AWp.mono _ ?_ _ _ (h4 i fr H hi f1 hj)
 intro e fr' H' h
 cases e with
 | normal =>
   simp only [then_normal,AWp_seq,AWp_blk] at h ⊢
   refine AWp.mono _ ?_ _ _ h
   intro e fr' H' h
   have fin:NextF J .mk m n si su sv i fr' H'→AWp P n0 (.ops [⟨some su,none,.mv (.t si)⟩,⟨some sv,none,.bin .add (.t su) (.c (.int .i64 1))⟩,⟨some si,none,.mv (.t sv)⟩] false) (Ex.then (Again m (fun fr H=>∃ i:Nat,i≤n∧fr si = .d (.int .i64 (i:Int))∧J i fr H) (fun fr H=>match fr si with | .d (.int _ k)=>(n - k).toNat | _=>0) (match fr si with | .d (.int _ k)=>(n - k).toNat | _=>0)) Q) fr' H':=by
    rintro ⟨g1,g0,k,k1,k2,k3⟩
    have hw:IntKind.i64.wrap ((i:Int)+1)=i+1:=wrap_i64 (by omega) (by omega)
    simp [g1,hw,f1]
    refine AgainK_ofk k k1 k2 ⟨i+1,by omega,by simp,?_⟩ ?_
    · exact k3
    · simp; omega
   cases e with
   | normal=>simp only [blk_normal,then_normal] at h ⊢; exact fin h
   | exit j =>
     simp only [blk_exit] at h ⊢
     by_cases hj:j=c
     · rw [if_pos hj] at h ⊢; exact fin h
     · rw [if_neg hj] at h ⊢; exact h
   | ret=>exact h
 | exit j=>exact h
 | ret=>exact h
def Ex.outE (b:Nat) (E:Fr→Hp→Prop) (Q:Ex→Fr→Hp→Prop):Ex→Fr→Hp→Prop
 | .exit j,fr,H=>if j=b then E fr H else Q (.exit j) fr H
 | e,fr,H=>Q e fr H
@[simp ↓] theorem outE_exit (b j:Nat) {E:Fr→Hp→Prop} {Q:Ex→Fr→Hp→Prop} {fr:Fr} {H:Hp}:Ex.outE b E Q (.exit j) fr H=if j=b then E fr H else Q (.exit j) fr H:=propext Iff.rfl
@[simp ↓] theorem outE_ret (b:Nat) {E:Fr→Hp→Prop} {Q:Ex→Fr→Hp→Prop} {fr:Fr} {H:Hp}:Ex.outE b E Q .ret fr H=Q .ret fr H:=propext Iff.rfl
@[simp ↓] theorem outE_normal (b:Nat) {E:Fr→Hp→Prop} {Q:Ex→Fr→Hp→Prop} {fr:Fr} {H:Hp}:Ex.outE b E Q .normal fr H=Q .normal fr H:=propext Iff.rfl
def Ex.outR (b:Nat) (E R:Fr→Hp→Prop):Ex→Fr→Hp→Prop
 | .exit j,fr,H=>if j=b then E fr H else False
 | .ret,fr,H=>R fr H
 | .normal,_,_=>False
@[simp ↓] theorem outR_exit (b j:Nat) {E R:Fr→Hp→Prop} {fr:Fr} {H:Hp}:Ex.outR b E R (.exit j) fr H=if j=b then E fr H else False:=propext Iff.rfl
@[simp ↓] theorem outR_ret (b:Nat) {E R:Fr→Hp→Prop} {fr:Fr} {H:Hp}:Ex.outR b E R .ret fr H=R fr H:=propext Iff.rfl
theorem LoopK_outR {P:Program} {n0:Nat} {Q:Ex→Fr→Hp→Prop} {fr:Fr} {H:Hp} {c:C} {t:Tag (Q,c)} (b:Nat) (E R:Fr→Hp→Prop) (h:LoopK (Ex.outR b E R) c .mk P n0 fr H) (hret:∀ fr H,R fr H→Q .ret fr H) (hout:∀ fr H,E fr H→Q (.exit b) fr H):LoopK Q c t P n0 fr H :=
 AWp.mono (.loop c) (fun e fr H h=>by
  cases e with
  | normal=>exact h.elim
  | ret=>exact hret fr H h
  | exit j =>
    simp only [outR_exit] at h
    by_cases hj:j=b
    · rw [if_pos hj] at h; rw [hj]; exact hout fr H h
    · rw [if_neg hj] at h; exact h.elim) fr H h
def Ex.outN (E R:Fr→Hp→Prop):Ex→Fr→Hp→Prop
 | .exit _,_,_=>False
 | .ret,fr,H=>R fr H
 | .normal,fr,H=>E fr H
@[simp ↓] theorem outN_normal {E R:Fr→Hp→Prop} {fr:Fr} {H:Hp}:Ex.outN E R .normal fr H=E fr H:=propext Iff.rfl
@[simp ↓] theorem outN_ret {E R:Fr→Hp→Prop} {fr:Fr} {H:Hp}:Ex.outN E R .ret fr H=R fr H:=propext Iff.rfl
theorem LoopK_out {P:Program} {n0:Nat} {Q:Ex→Fr→Hp→Prop} {fr:Fr} {H:Hp} {c:C} {t:Tag (Q,c)} (b:Nat) (E:Fr→Hp→Prop) (h:LoopK (Ex.outE b E Q) c .mk P n0 fr H) (hout:∀ fr H,E fr H→Q (.exit b) fr H):LoopK Q c t P n0 fr H :=
 AWp.mono (.loop c) (fun e fr H h=>by
  cases e with
  | normal=>exact h
  | ret=>exact h
  | exit j =>
    simp only [outE_exit] at h
    by_cases hj:j=b
    · rw [if_pos hj] at h; rw [hj]; exact hout fr H h
    · rw [if_neg hj] at h; exact h) fr H h

section
open Go.Proofs
open Go.RowKit (Below)
theorem HR.later {κ:K} {H:Hp} {w w':World} (h:HR κ H w) (hb:Below w.heap.size w w'):HR κ H w':=by
 have hst:∀ b o v,κ.σ b o=some v→b < w.heap.size:=fun b o v hv=>World.block_lt_of_cell? w ⟨b,o,none⟩ (h.st b o v hv)
 refine ⟨h.below.trans (hb.mono h.below.size),fun b o v hv => ?_,fun i x hx => ?_,h.dom,fun i b hi => ?_,h.exσ,h.exd,h.fl⟩
 · rw [(cell_of_block (hb.block b (hst b o v hv)) o).1]; exact h.st b o v hv
 · exact (h.ob i x hx).mono (K.le_refl κ) rfl fun b hb'=>hb.block b (h.ex i b hb').2
 · have:=h.ex i b hi
   have:=hb.size
   omega
theorem leaf {P:Program} {f:FuncId} {args:List D} {x:D}
 (h:∀ (w:World) (σ:St) (vs:List Value),(∀ b o v,σ b o=some v→w.cell? ⟨b,o,none⟩=some v)→vs.length=args.length→(∀ (i:Nat) (v:Value) (d:D),vs[i]?=some v→args[i]?=some d→DR σ v d) →
  Calls P f vs.toArray w fun e w'=>∃ v,e = .returned v∧Below w.heap.size w w'∧∀ σ,DR σ v x) (H:Hp):ACall P f (args.map .d) H (fun r H'=>r = .d x∧H'=H):=by
 intro κ w vs hr hl hv
 refine (h w κ.σ vs hr.st (by simpa using hl) (fun i v d hi hd=>(hv i v (.d d) hi (by simp [hd])).d_inv)).mono ?_
 rintro e w' ⟨v,rfl,hb,hd⟩
 exact ⟨v,κ,_,H,rfl,K.le_refl κ,hr.later hb,.d (hd _),rfl,rfl⟩
theorem DR.str_inv {σ:St} {v:Value} {s:List UInt8} (h:DR σ v (.str s)):v = .string ⟨s.toArray⟩:=by
 cases h with
 | str u=>simp
theorem DR.int_inv {σ:St} {v:Value} {k:IntKind} {n:Int} (h:DR σ v (.int k n)):v = .int k n:=by cases h; rfl
def irWriteByte (cc et:Nat):IFn:=by
 have h:=Ix.J [] Tryz.f27 [(55,cc)] [(5,et)];conv at h=>arg 1;reduce
 exact h.p
theorem writeByte_acall {P:Program} {f cc bt et:Nat} {fn:Func} (hf:P.funcs[f]?=some fn) (hcf:compF P [] fn=some (irWriteByte cc et)) (hcc:CopyOk P cc bt) (H:Hp) (i t:Nat) (a:A) (bs:List UInt8) (c:UInt8)
 (hi:H[i]?=some (.box bt [a,.osl true 1 (byteRows bs) t])) (ha:a = .d .nilp∨a = .ptr i 0) (ht:H[t]?=some (.tok bs.length 1 et)) (hb:bs.length+1≤140737488355328) :
 ACall P f [.ptr i 0,.d (.int .u8 c.toNat)] H (fun r H'=>r = .d .nili∧H'=(H.set i (.box bt [.ptr i 0,.osl true 1 (byteRows (bs++[c])) t])).set t (.tok (bs++[c]).length 1 et)):=by
 have hit:i ≠ t:=fun e=>by subst e; rw [hi] at ht; cases ht
 have hil:i < H.length:=(List.getElem?_eq_some_iff.1 hi).1
 have htl:t < H.length:=(List.getElem?_eq_some_iff.1 ht).1
 refine acall_fin hf hcf (by simp [irWriteByte]) fun hcl hlo => ?_
 simp [irWriteByte]
 refine CallK_of' (hcc _ _ _ _ hi ha) ?_
 have hbl:(byteRows bs).length=bs.length:=by simp [byteRows]
 have ht':(H.set i (.box bt [.ptr i 0,.osl true 1 (byteRows bs) t]))[t]?=some (.tok (byteRows bs).length 1 et):=by
  rw [List.getElem?_set_ne hit,ht,hbl]
 have htv:H[t]=Ob.tok bs.length 1 et:=(List.getElem?_eq_some_iff.1 ht).2
 have hb':bs.length≤140737488355327:=by omega
 simp [hil,htl,hit,htv,hb',appA,hbl,Ne.symm hit]
 simp [RetK,Hp.cut_set,cut_self hcl,hil,htl,byteRows]
 rw [List.set_comm _ _ hit,List.set_comm _ _ hit,List.set_set]
end
section
open Go.Proofs
def irDigit :IFn:=by
 have h:=Ix.J [] Tryz.f79 [] [];conv at h=>arg 1;reduce
 exact h.p
def irLetter :IFn:=by
 have h:=Ix.J [] Tryz.f76 [] [];conv at h=>arg 1;reduce
 exact h.p
def irIsKey :IFn:=by
 have h:=Ix.J [] Tryz.f45 [] [];conv at h=>arg 1;reduce
 exact h.p
def digitB (b:UInt8):Bool:=decide ((48:Int)≤b.toNat) && decide ((b.toNat:Int)≤57)
def letterB (b:UInt8):Bool:=(decide ((97:Int)≤b.toNat) && decide ((b.toNat:Int)≤122)) || (decide ((65:Int)≤b.toNat) && decide ((b.toNat:Int)≤90)) || decide ((b.toNat:Int)=95)
def keysL:List (List UInt8):=[[117,115,101],[100,101,102],[108,101,116],[105,102],[101,108,115,101],[119,104,105,108,101],[112,114,105,110,116],[114,101,116,117,114,110],[102,110],[105,110,112,117,116],[105,110,116],[115,116,114],[100,121,110]]
def isNameB (s:List UInt8):Bool:=match s with
 | []=>false
 | b :: r=>decide ((b :: r).length≤40) && !decide ((b :: r) ∈ keysL) && !digitB b && (b :: r).all fun c=>letterB c || digitB c
section
variable {P:Program}
theorem digit_acall {f:FuncId} {fn:Func} (hf:P.funcs[f]?=some fn) (hcf:compF P [] fn=some irDigit) (b:UInt8) (H:Hp):ACall P f [.d (.int .u8 b.toNat)] H (fun r H'=>r = .d (.bool (digitB b))∧H'=H):=by
 refine acall_fin hf hcf (by simp [irDigit]) fun hcl _ => ?_
 simp [irDigit]
 refine GdK_split (by simp) (fun h => ?_) (fun h => ?_)
 · simp
   simp at h
   simp [RetK,cut_self hcl,digitB,h]
 · simp
   simp at h
   simp [RetK,cut_self hcl,digitB]
   omega
theorem letter_acall {f:FuncId} {fn:Func} (hf:P.funcs[f]?=some fn) (hcf:compF P [] fn=some irLetter) (b:UInt8) (H:Hp):ACall P f [.d (.int .u8 b.toNat)] H (fun r H'=>r = .d (.bool (letterB b))∧H'=H):=by
 refine acall_fin hf hcf (by simp [irLetter]) fun hcl _ => ?_
 simp [irLetter]
 generalize ha:decide ((97:Int)≤b.toNat)=a
 generalize hb:decide ((b.toNat:Int)≤122)=c
 generalize hd:decide ((65:Int)≤b.toNat)=d
 generalize he:decide ((b.toNat:Int)≤90)=e
 have hl:letterB b=(a && c || d && e || decide ((b.toNat:Int)=95)):=by simp only [letterB,ha,hb,hd,he]
 cases a<;>cases c<;>cases d<;>cases e<;>simp [ha,hb,hd,he]<;>simp [RetK,cut_self hcl,hl]
theorem isKey_acall {f:FuncId} {fn:Func} (hf:P.funcs[f]?=some fn) (hcf:compF P [] fn=some irIsKey) (s:List UInt8) (H:Hp):ACall P f [.d (.str s)] H (fun r H'=>r = .d (.bool (decide (s ∈ keysL)))∧H'=H):=by
 refine acall_fin hf hcf (by simp [irIsKey]) fun hcl _ => ?_
 simp [irIsKey]
 have hrows:[[D.str [117,115,101]],[D.str [100,101,102]],[D.str [108,101,116]],[D.str [105,102]],[D.str [101,108,115,101]],[D.str [119,104,105,108,101]],[D.str [112,114,105,110,116]],[D.str [114,101,116,117,114,110]],[D.str [102,110]],[D.str [105,110,112,117,116]],[D.str [105,110,116]],[D.str [115,116,114]],[D.str [100,121,110]]]=keysL.map fun x=>[D.str x]:=rfl
 rw [hrows]
 refine LoopK_outR 0 (fun fr H'=>s ∉ keysL∧H'=H) (fun fr H'=>fr 2 = .d (.bool true)∧s ∈ keysL∧H'=H) ?_ ?_ ?_
 · refine ForK_of H.length keysL.length (fun i fr H'=>fr 0 = .d (.str s)∧fr 3 = .d (.sl false 1 (keysL.map fun x=>[D.str x]))∧s ∉ keysL.take i∧H'=H) (by decide) (by decide) (by simp) (by simp) ?_ ?_
   · simp [cut_self hcl]
   · rintro i fr H' hi f4 ⟨f0,f3,hn,rfl⟩
     simp [f4,f3]
     refine BrK_split (fun h => ?_) (fun h => ?_)
     · have hlt:i < keysL.length:=by simpa using h
       have hr:=rowAt_map (fun x=>[D.str x]) hlt
       have hm:=List.getElem_mem hlt
       have ht:keysL.take (i+1)=keysL.take i++[keysL[i]]:=List.take_succ_eq_append_getElem hlt
       generalize keysL[i]=x at hr hm ht
       simp [f4,f3,hr,f0]
       refine BrK_split (fun h => ?_) (fun h => ?_)
       · have e:x=s:=by simpa using h
         simp
         exact e ▸ hm
       · have e:x ≠ s:=by simpa using h
         simp
         refine NextF_of H'.length (Nat.le_refl _) hlt (by simp [f4]) ?_
         simp [f0,f3,cut_self hcl,ht,hn]
         exact fun q=>e q.symm
     · have hii : i = keysL.length := by have : ¬ i < keysL.length := by simpa using h
                                         omega
       rw [hii,List.take_of_length_le (Nat.le_refl _)] at hn
       simp [hn]
 · rintro fr H' ⟨f2,hm,rfl⟩
   simp
   simp [RetK,cut_self hcl,f2,hm]
 · rintro fr H' ⟨hm,rfl⟩
   simp
   simp [RetK,cut_self hcl,hm]
end
end
section
inductive T where
 | mk (k:Int) (z:Bool) (ns:List (List UInt8)) (y:Bool) (ps:List T)
def encStr (x:List UInt8):List D:=[.str x]
section
variable {P:Program} {bt:Nat}
end
end
section
open Go.Proofs
def irTkLex (c1 c2 c3 t1 t2:Nat):IFn:=by
 have h:=Ix.J [7] Tryz.f24 [(51,c1),(52,c2),(53,c3)] [(92,t1),(35,t2)];conv at h=>arg 1;reduce
 exact h.p
def irTkIsKey (c1 c2:Nat):IFn:=by
 have h:=Ix.J [] Tryz.f78 [(98,c1),(97,c2)] [];conv at h=>arg 1;reduce
 exact h.p
def irTkIsName (c1 c2 c3:Nat):IFn:=by
 have h:=Ix.J [] Tryz.f62 [(76,c1),(78,c2),(79,c3)] [];conv at h=>arg 1;reduce
 exact h.p
def irRnBad (c1:Nat):IFn:=by
 have h:=Ix.J [] Tryz.f51 [(71,c1)] [];conv at h=>arg 1;reduce
 exact h.p
def irScLead (c1 c2 c3 c4:Nat):IFn:=by
 have h:=Ix.J [] Tryz.f52 [(72,c1),(73,c2),(74,c3),(75,c4)] [];conv at h=>arg 1;reduce
 exact h.p
def irScNext (c1 c2 c3 c4 c5 c6 c7 c8 t1:Nat):IFn:=by
 have h:=Ix.J [] Tryz.f53 [(72,c1),(76,c2),(77,c3),(78,c4),(79,c5),(80,c6),(81,c7),(82,c8)] [(35,t1)];conv at h=>arg 1;reduce
 exact h.p
def irSlHas (c1:Nat):IFn:=by
 have h:=Ix.J [] Tryz.f97 [(110,c1)] [];conv at h=>arg 1;reduce
 exact h.p
def irSlIdx :IFn:=by
 have h:=Ix.J [] Tryz.f110 [] [];conv at h=>arg 1;reduce
 exact h.p
def irTkKeys :IFn:=by
 have h:=Ix.J [] Tryz.f98 [] [];conv at h=>arg 1;reduce
 exact h.p
def irScMore :IFn:=by
 have h:=Ix.J [] Tryz.f72 [] [];conv at h=>arg 1;reduce
 exact h.p
def irTkBlank :IFn:=by
 have h:=Ix.J [] Tryz.f73 [] [];conv at h=>arg 1;reduce
 exact h.p
def irScHash :IFn:=by
 have h:=Ix.J [] Tryz.f74 [] [];conv at h=>arg 1;reduce
 exact h.p
def irScNoNl :IFn:=by
 have h:=Ix.J [] Tryz.f75 [] [];conv at h=>arg 1;reduce
 exact h.p
def irScWord (c1 c2:Nat):IFn:=by
 have h:=Ix.J [] Tryz.f77 [(72,c1),(96,c2)] [];conv at h=>arg 1;reduce
 exact h.p
def irScWordB (c1 c2:Nat):IFn:=by
 have h:=Ix.J [] Tryz.f96 [(76,c1),(79,c2)] [];conv at h=>arg 1;reduce
 exact h.p
def irScStr (c1:Nat):IFn:=by
 have h:=Ix.J [] Tryz.f81 [(100,c1)] [];conv at h=>arg 1;reduce
 exact h.p
def irScSign (c1 c2:Nat):IFn:=by
 have h:=Ix.J [] Tryz.f82 [(101,c1),(102,c2)] [];conv at h=>arg 1;reduce
 exact h.p
def irRnUnquote (c1 c2 c3 t1 t2:Nat):IFn:=by
 have h:=Ix.J [4] Tryz.f100 [(113,c1),(27,c2),(15,c3)] [(50,t1),(5,t2)];conv at h=>arg 1;reduce
 exact h.p
def irTkSigns :IFn:=by
 have h:=Ix.J [] Tryz.f101 [] [];conv at h=>arg 1;reduce
 exact h.p
end
section
abbrev Bs:=List UInt8
def Has (P:Program) (f:FuncId) (i:IFn):Prop:=∃ fn,P.funcs[f]?=some fn∧compF P [] fn=some i
def HasT (P:Program) (tk:List Nat) (f:FuncId) (i:IFn):Prop:=∃ fn,P.funcs[f]?=some fn∧compF P tk fn=some i
def ByteOk (P:Program) (f:FuncId) (p:UInt8→Bool):Prop:=∀ (b:UInt8) H,ACall P f [.d (.int .u8 b.toNat)] H (fun r H'=>r = .d (.bool (p b))∧H'=H)
theorem least_of {p:Nat→Prop}:∀ n,p n→∃ d,p d∧∀ e,p e→d≤e:=by
 intro n
 induction n using Nat.strongRecOn with
 | ind n ih =>
 intro h
 by_cases hm:∃ m,m < n∧p m
 · obtain ⟨m,hm,hp⟩:=hm
   exact ih m hm hp
 · exact ⟨n,h,fun e he=>Nat.le_of_not_lt fun hl=>hm ⟨e,hl,he⟩⟩
def NextM (J:Nat→Fr→Hp→Prop) (_:Tag J) (m d:Nat) (fr:Fr) (H:Hp):Prop:=∃ k d',m≤k∧k≤H.length∧d' < d∧J d' (fr.clr k) (Hp.cut k H)
@[congr] theorem NextM_congr {J:Nat→Fr→Hp→Prop} {t:Tag J} {m d:Nat} {fr fr':Fr} {H H':Hp} (h:fr=fr') (h2:H=H'):NextM J t m d fr H=NextM J t m d fr' H':=by rw [h,h2]
theorem NextM_of {J:Nat→Fr→Hp→Prop} {t:Tag J} {m d:Nat} {fr:Fr} {H:Hp} (k d':Nat) (hk:m≤k) (h:k≤H.length) (hd:d' < d) (hj:J d' (fr.clr k) (Hp.cut k H)):NextM J t m d fr H:=⟨k,d',hk,h,hd,hj⟩
theorem LoopM_of {P:Program} {n0:Nat} {Q:Ex→Fr→Hp→Prop} {fr:Fr} {H:Hp} {c:C} {t:Tag (Q,c)} (m:Nat) (J:Nat→Fr→Hp→Prop) (start:Nat) (h1:n0≤m∧m≤H.length) (h2:J start (fr.clr m) (Hp.cut m H))
 (h3:∀ d fr H,J d fr H→AWp P n0 c (Ex.then (NextM J .mk m d) Q) fr H):LoopK Q c t P n0 fr H:=by
 have key:∀ fr H,(∃ d,J d fr H)→∃ d,J d fr H∧∀ e,J e fr H→d≤e:=fun fr H ⟨d,h⟩=>least_of (p:=fun d=>J d fr H) d h
 let mu:Fr→Hp→Nat:=fun fr H => @dite _ (∃ d,J d fr H) (Classical.propDecidable _) (fun h=>(key fr H h).choose) (fun _=>0)
 have hmu:∀ fr H (h:∃ d,J d fr H),J (mu fr H) fr H∧∀ e,J e fr H→mu fr H≤e:=fun fr H h=>by
  have:mu fr H=(key fr H h).choose:=dif_pos h
  rw [this]
  exact (key fr H h).choose_spec
 refine LoopK_of m (fun fr H=>∃ d,J d fr H) mu h1 ⟨start,h2⟩ ?_
 rintro fr H h
 obtain ⟨g1,g2⟩:=hmu fr H h
 refine AWp.mono _ ?_ _ _ (h3 _ _ _ g1)
 intro e fr' H' hn
 cases e with
 | normal =>
   obtain ⟨k,d',k1,k2,k3,k4⟩:=hn
   refine AgainK_ofk (t := .mk) k k1 k2 ⟨d',k4⟩ ?_
   exact Nat.lt_of_le_of_lt ((hmu _ _ ⟨d',k4⟩).2 d' k4) k3
 | exit j=>exact hn
 | ret=>exact hn
section
variable {P:Program}
def blankB (b:UInt8):Bool:=decide ((b.toNat:Int)=32) || decide ((b.toNat:Int)=9) || decide ((b.toNat:Int)=10) || decide ((b.toNat:Int)=13)
def hashB (b:UInt8):Bool:=decide ((b.toNat:Int)=35)
def noNlB (b:UInt8):Bool := !decide ((b.toNat:Int)=10)
def wordB (b:UInt8):Bool:=letterB b || digitB b
theorem Has.letter {f} (h:Has P f irLetter):ByteOk P f letterB:=fun b H=>letter_acall h.choose_spec.1 h.choose_spec.2 b H
theorem Has.digit {f} (h:Has P f irDigit):ByteOk P f digitB:=fun b H=>digit_acall h.choose_spec.1 h.choose_spec.2 b H
theorem Has.blank {f} (h:Has P f irTkBlank):ByteOk P f blankB:=fun b H=>by
 obtain ⟨fn,hf,hcf⟩:=h
 refine acall_fin hf hcf (by simp [irTkBlank]) fun hcl _ => ?_
 simp [irTkBlank]
 generalize ha:decide ((b.toNat:Int)=32)=a
 generalize hb:decide ((b.toNat:Int)=9)=c
 generalize hd:decide ((b.toNat:Int)=10)=d
 generalize he:decide ((b.toNat:Int)=13)=e
 have hl:blankB b=(a || c || d || e):=by simp only [blankB,ha,hb,hd,he]
 cases a<;>cases c<;>cases d<;>cases e<;>simp [ha,hb,hd,he]<;>simp [RetK,cut_self hcl,hl]
theorem Has.hash {f} (h:Has P f irScHash):ByteOk P f hashB:=fun b H=>by
 obtain ⟨fn,hf,hcf⟩:=h
 refine acall_fin hf hcf (by simp [irScHash]) fun hcl _ => ?_
 simp [irScHash]
 simp [RetK,cut_self hcl,hashB]
theorem Has.noNl {f} (h:Has P f irScNoNl):ByteOk P f noNlB:=fun b H=>by
 obtain ⟨fn,hf,hcf⟩:=h
 refine acall_fin hf hcf (by simp [irScNoNl]) fun hcl _ => ?_
 simp [irScNoNl]
 simp [RetK,cut_self hcl,noNlB]
theorem Has.wordB {f fl fd} (h:Has P f (irScWordB fl fd)) (hl:ByteOk P fl letterB) (hd:ByteOk P fd digitB):ByteOk P f Zam.wordB:=fun b H=>by
 obtain ⟨fn,hf,hcf⟩:=h
 refine acall_fin hf hcf (by simp [irScWordB]) fun hcl _ => ?_
 simp [irScWordB]
 refine CallK_of' (hl b _) ?_
 cases e:letterB b with
 | true =>
   simp
   simp [RetK,cut_self hcl,Zam.wordB,e]
 | false =>
   simp
   refine CallK_of' (hd b _) ?_
   simp
   simp [RetK,cut_self hcl,Zam.wordB,e]
def moreB (p:UInt8→Bool):Bs→Bool
 | []=>false
 | b :: _=>p b
def scan (ts:TypeId) (text:Bs) (at_:Nat):Ob := .box ts [.d (.str text),.d (.int .i64 (at_:Int))]
theorem byteAt_drop {s:Bs} {n:Nat} {b:UInt8} {r:Bs} (h:s.drop n=b :: r):byteAt s (n:Int)=some b∧n < s.length:=by
 have hn:n < s.length:=by
  rcases Nat.lt_or_ge n s.length with h' | h'
  · exact h'
  · rw [List.drop_eq_nil_of_le h'] at h; cases h
 refine ⟨?_,hn⟩
 have:s[n]=b:=by
  have e:=List.drop_eq_getElem_cons hn
  rw [h] at e
  exact (List.cons.inj e).1.symm
 simp [byteAt,hn,this]
theorem Has.more {f} (h:Has P f irScMore) {k:FuncId} {p:UInt8→Bool} (hk:callOk P k=true) (hp:ByteOk P k p) {H:Hp} {i:Nat} {ts:TypeId} {text:Bs} {n:Nat} (hi:H[i]?=some (scan ts text n)) :
 ACall P f [.ptr i 0,.d (.fn k)] H (fun r H'=>r = .d (.bool (moreB p (text.drop n)))∧H'=H):=by
 obtain ⟨fn,hf,hcf⟩:=h
 refine acall_fin hf hcf (by simp [irScMore]) fun hcl _ => ?_
 unfold scan at hi
 simp [irScMore,hi]
 cases hd:text.drop n with
 | nil =>
   have hn:¬ n < text.length:=by
    have:=List.drop_eq_nil_iff.1 hd
    omega
   simp [hn]
   simp [RetK,cut_self hcl,moreB]
 | cons b r =>
   obtain ⟨hb,hn⟩:=byteAt_drop hd
   simp [hn,hi,hb]
   refine ⟨hk,?_⟩
   refine CallD_of (hp b _) ?_
   simp
   simp [RetK,cut_self hcl,moreB]
theorem Hp.set_self {H:Hp} {i:Nat} {o:Ob} (h:H[i]?=some o):H.set i o=H:=by
 obtain ⟨hi,e⟩:=List.getElem?_eq_some_iff.1 h
 rw [← e]; exact List.set_getElem_self hi
def runN (p:UInt8→Bool) (s:Bs):Nat:=(s.takeWhile p).length
theorem runN_le (p:UInt8→Bool) (s:Bs):runN p s≤s.length:=by
 unfold runN
 exact List.Sublist.length_le (List.takeWhile_sublist p)
theorem runN_step (p:UInt8→Bool):∀ (s:Bs) (j:Nat),j≤runN p s→moreB p (s.drop j)=decide (j < runN p s)
 | [],j,h=>by simp [runN] at h ⊢; subst h; rfl
 | b :: r, 0, h => by
   cases e:p b<;>simp [runN,moreB,e]
 | b :: r, j + 1, h => by
   cases e:p b with
   | false=>simp [runN,e] at h
   | true =>
     have hr:runN p (b :: r)=runN p r+1:=by simp [runN,e]
     rw [hr] at h ⊢
     have:=runN_step p r j (by omega)
     simpa using this
theorem scan_len {H:Hp} {i:Nat} {o:Ob} (h:H[i]?=some o):i < H.length:=(List.getElem?_eq_some_iff.1 h).1
theorem drop_add' (s:Bs) (n j:Nat):(s.drop n).drop j=s.drop (n+j):=by rw [List.drop_drop]
theorem sub_ok {s:Bs} {n w:Nat} (h:n+w≤s.length):subL s (n:Int) ((n:Int)+w)=some ((s.drop n).take w):=by
 rw [subL_ok ⟨by omega,by omega,by omega⟩]
 congr 2<;>omega
theorem Has.word {f fm fw} (h:Has P f (irScWord fm fw)) (hm:Has P fm irScMore) (hk:callOk P fw=true) (hw:ByteOk P fw Zam.wordB) {H:Hp} {i:Nat} {ts:TypeId} {text:Bs} {n:Nat} (hi:H[i]?=some (scan ts text n)) (hn:n≤text.length) (hl:text.length≤4611686018427387904) :
 ACall P f [.ptr i 0] H (fun r H'=>r = .d (.str ((text.drop n).take (runN Zam.wordB (text.drop n))))∧H'=H.set i (scan ts text (n+runN Zam.wordB (text.drop n)))):=by
 obtain ⟨fn,hf,hcf⟩:=h
 have hil:=scan_len hi
 refine acall_fin hf hcf (by simp [irScWord]) fun hcl _ => ?_
 have hi':=hi
 unfold scan at hi'
 simp [irScWord,hi']
 have hW:=runN_le Zam.wordB (text.drop n)
 have hstep:=runN_step Zam.wordB (text.drop n)
 simp only [drop_add',List.length_drop] at hW hstep
 generalize runN Zam.wordB (text.drop n)=W at hW hstep
 refine LoopK_outR 0 (fun fr H'=>fr 0 = .ptr i 0∧fr 3 = .d (.int .i64 (n:Int))∧H'=H.set i (scan ts text (n+W))) (fun _ _=>False) ?_ (fun _ _ h=>h.elim) ?_
 · refine LoopM_of H.length (fun d fr H'=>∃ j,d=W - j∧j≤W∧fr 0 = .ptr i 0∧fr 3 = .d (.int .i64 (n:Int))∧H'=H.set i (scan ts text (n+j))) W (by simp) ⟨0,?_⟩ ?_
   · simp [cut_self hcl,hil]
     exact (Hp.set_self hi).symm
   rintro d fr H' ⟨j,rfl,hj,f0,f3,rfl⟩
   have hij:(H.set i (scan ts text (n+j)))[i]?=some (scan ts text (n+j)):=by simp [hil]
   have hm':=hm.more hk hw hij
   rw [hstep j hj] at hm'
   simp [f0]
   refine CallK_of' hm' ?_
   simp
   refine BrK_split (fun h => ?_) (fun h => ?_)
   · have hlt:j < W:=by simpa using h
     have hwr:IntKind.i64.wrap ((n:Int)+j+1)=n+(j+1):=by rw [wrap_i64 (by omega) (by omega)]; omega
     simp [f0,hil,scan,hwr]
     refine NextM_of H.length (W - (j+1)) (Nat.le_refl _) (by simp) (by omega) ⟨j+1,rfl,by omega,?_⟩
     simp [f0,f3,Hp.cut_set,cut_self hcl,hil,scan]
   · have hjj : j = W := by have : ¬ j < W := by simpa using h
                            omega
     subst hjj
     simp [f0,f3]
 rintro fr H' ⟨f0,f3,rfl⟩
 have hs:=sub_ok (s:=text) (n:=n) (w:=W) (by omega)
 simp [f0,f3,hil,scan,hs]
 simp [RetK,Hp.cut_set,cut_self hcl,hil,scan]
end
end
section
def leadS:Bool→Bs→Nat
 | _,[]=>0
 | false,b :: r=>if blankB b then leadS false r+1 else if hashB b then leadS true r+1 else 0
 | true,b :: r=>if noNlB b then leadS true r+1 else leadS false r+1
theorem lead_le:∀ (c:Bool) (s:Bs),leadS c s≤s.length
 | _,[]=>by simp [leadS]
 | false, b :: r => by
   have h1:=lead_le false r
   have h2:=lead_le true r
   simp only [leadS,List.length_cons]
   split
   · omega
   · split<;>omega
 | true, b :: r => by
   have h1:=lead_le false r
   have h2:=lead_le true r
   simp only [leadS,List.length_cons]
   split<;>omega
theorem lead_blank:∀ (s:Bs),leadS false s=runN blankB s+leadS false (s.drop (runN blankB s))
 | []=>by simp [leadS,runN]
 | b :: r => by
   cases e:blankB b with
   | false=>simp [runN,e]
   | true =>
     have:=lead_blank r
     have hr:runN blankB (b :: r)=runN blankB r+1:=by simp [runN,e]
     rw [hr,List.drop_succ_cons,leadS,if_pos e]
     omega
theorem lead_cmt:∀ (s:Bs),leadS true s=runN noNlB s+leadS false (s.drop (runN noNlB s))
 | []=>by simp [leadS,runN]
 | b :: r => by
   cases e:noNlB b with
   | false =>
     have hb:blankB b=true:=by
      have:(b.toNat:Int)=10:=by simpa [noNlB] using e
      simp [blankB,this]
     simp [runN,e,leadS,hb]
   | true =>
     have:=lead_cmt r
     have hr:runN noNlB (b :: r)=runN noNlB r+1:=by simp [runN,e]
     rw [hr,List.drop_succ_cons,leadS,if_pos e]
     omega
theorem lead_hash {s:Bs} (h:moreB hashB s=true):leadS false s=runN noNlB s+leadS false (s.drop (runN noNlB s))∧1≤runN noNlB s:=by
 cases s with
 | nil=>simp [moreB] at h
 | cons b r =>
   have hb:(b.toNat:Int)=35:=by simpa [moreB,hashB] using h
   have h1:blankB b=false:=by simp [blankB,hb]
   have h2:hashB b=true:=by simp [hashB,hb]
   have h3:noNlB b=true:=by simp [noNlB,hb]
   have hr:runN noNlB (b :: r)=runN noNlB r+1:=by simp [runN,h3]
   have:=lead_cmt r
   rw [hr,List.drop_succ_cons,leadS,h1,if_neg (by simp),if_pos h2]
   exact ⟨by omega,by omega⟩
theorem lead_none {s:Bs} (h1:moreB blankB s=false) (h2:moreB hashB s=false):leadS false s=0:=by
 cases s with
 | nil=>rfl
 | cons b r =>
   have h1:blankB b=false:=h1
   have h2:hashB b=false:=h2
   simp [leadS,h1,h2]
section
variable {P:Program}
theorem Has.lead {f fm fb fh fl} (h:Has P f (irScLead fm fb fh fl)) (hm:Has P fm irScMore) (k1:callOk P fb=true) (p1:ByteOk P fb blankB) (k2:callOk P fh=true) (p2:ByteOk P fh hashB) (k3:callOk P fl=true) (p3:ByteOk P fl noNlB)
 {H:Hp} {i:Nat} {ts:TypeId} {text:Bs} {n:Nat} (hi:H[i]?=some (scan ts text n)) (hn:n≤text.length) (hl:text.length≤4611686018427387904) :
 ACall P f [.ptr i 0] H (fun r H'=>r = .d (.str ((text.drop n).take (leadS false (text.drop n))))∧H'=H.set i (scan ts text (n+leadS false (text.drop n)))):=by
 obtain ⟨fn,hf,hcf⟩:=h
 have hil:=scan_len hi
 refine acall_fin hf hcf (by simp [irScLead]) fun hcl _ => ?_
 have hi':=hi
 unfold scan at hi'
 simp [irScLead,hi']
 have hL:=lead_le false (text.drop n)
 simp only [List.length_drop] at hL
 refine LoopM_of H.length (fun d fr H'=>∃ j,d=leadS false (text.drop n) - j∧j+leadS false (text.drop (n+j))=leadS false (text.drop n)∧fr 0 = .ptr i 0∧fr 3 = .d (.int .i64 (n:Int))∧H'=H.set i (scan ts text (n+j))) (leadS false (text.drop n)) (by simp) ⟨0,?_⟩ ?_
 · simp [cut_self hcl,hil]
   exact (Hp.set_self hi).symm
 generalize leadS false (text.drop n)=L at hL
 rintro d fr H' ⟨j,rfl,hj,f0,f3,rfl⟩
 simp
 have hb:=lead_blank (text.drop (n+j))
 have hstep:=runN_step blankB (text.drop (n+j))
 have hW:=runN_le blankB (text.drop (n+j))
 simp only [drop_add',List.length_drop] at hW hstep hb
 generalize runN blankB (text.drop (n+j))=wa at hb hstep hW
 refine LoopK_out 2 (fun fr H'=>fr 0 = .ptr i 0∧fr 3 = .d (.int .i64 (n:Int))∧H'=H.set i (scan ts text (n+j+wa))) ?_ ?_
 · refine LoopM_of H.length (fun d fr H'=>∃ q,d=wa - q∧q≤wa∧fr 0 = .ptr i 0∧fr 3 = .d (.int .i64 (n:Int))∧H'=H.set i (scan ts text (n+j+q))) wa (by simp) ⟨0,?_⟩ ?_
   · simp [f0,f3,Hp.cut_set,cut_self hcl,hil,scan]
   rintro d fr H' ⟨q,rfl,hq,f0,f3,rfl⟩
   have hij:(H.set i (scan ts text (n+j+q)))[i]?=some (scan ts text (n+j+q)):=by simp [hil]
   have hm':=hm.more k1 p1 hij
   rw [hstep q hq] at hm'
   simp [f0]
   refine CallK_of' hm' ?_
   simp
   refine BrK_split (fun h => ?_) (fun h => ?_)
   · have hlt:q < wa:=by simpa using h
     have hwr:IntKind.i64.wrap (((n:Int)+j)+q+1)=((n:Int)+j)+(q+1):=by rw [wrap_i64 (by omega) (by omega)]; omega
     simp [f0,hil,scan,hwr]
     refine NextM_of H.length (wa - (q+1)) (Nat.le_refl _) (by simp) (by omega) ⟨q+1,rfl,by omega,?_⟩
     simp [f0,f3,Hp.cut_set,cut_self hcl,hil,scan]
   · have hqq:q=wa:=by
      have:¬ q < wa:=by simpa using h
      omega
     subst hqq
     simp [f0,f3]
 rintro fr H' ⟨f0,f3,rfl⟩
 have hij:(H.set i (scan ts text (n+j+wa)))[i]?=some (scan ts text (n+j+wa)):=by simp [hil]
 have hm':=hm.more k2 p2 hij
 simp [f0]
 refine CallK_of' hm' ?_
 cases hh:moreB hashB (text.drop (n+j+wa)) with
 | false =>
   have hnb:moreB blankB (text.drop (n+j+wa))=false:=by rw [hstep wa (Nat.le_refl _)]; simp
   have h0:=lead_none hnb hh
   have hLL:L=j+wa:=by omega
   have hs:=sub_ok (s:=text) (n:=n) (w:=j+wa) (by omega)
   simp [f0,f3,hil,scan,Int.add_assoc]
   simp at hs
   simp [hs]
   simp [RetK,Hp.cut_set,cut_self hcl,hil,scan,hLL,Int.add_assoc]
 | true =>
   simp
   obtain ⟨hc,hc1⟩:=lead_hash hh
   have hstep:=runN_step noNlB (text.drop (n+j+wa))
   have hW:=runN_le noNlB (text.drop (n+j+wa))
   simp only [drop_add',List.length_drop] at hW hstep hc
   generalize runN noNlB (text.drop (n+j+wa))=wc at hc hc1 hstep hW
   refine LoopK_out 4 (fun fr H'=>fr 0 = .ptr i 0∧fr 3 = .d (.int .i64 (n:Int))∧H'=H.set i (scan ts text (n+j+wa+wc))) ?_ ?_
   · refine LoopM_of H.length (fun d fr H'=>∃ q,d=wc - q∧q≤wc∧fr 0 = .ptr i 0∧fr 3 = .d (.int .i64 (n:Int))∧H'=H.set i (scan ts text (n+j+wa+q))) wc (by simp) ⟨0,?_⟩ ?_
     · simp [f0,f3,Hp.cut_set,cut_self hcl,hil,scan]
     rintro d fr H' ⟨q,rfl,hq,f0,f3,rfl⟩
     have hij:(H.set i (scan ts text (n+j+wa+q)))[i]?=some (scan ts text (n+j+wa+q)):=by simp [hil]
     have hm':=hm.more k3 p3 hij
     rw [hstep q hq] at hm'
     simp [f0]
     refine CallK_of' hm' ?_
     simp
     refine BrK_split (fun h => ?_) (fun h => ?_)
     · have hlt:q < wc:=by simpa using h
       have hwr:IntKind.i64.wrap (((n:Int)+j+wa)+q+1)=((n:Int)+j+wa)+(q+1):=by rw [wrap_i64 (by omega) (by omega)]; omega
       simp [f0,hil,scan,hwr]
       refine NextM_of H.length (wc - (q+1)) (Nat.le_refl _) (by simp) (by omega) ⟨q+1,rfl,by omega,?_⟩
       simp [f0,f3,Hp.cut_set,cut_self hcl,hil,scan]
     · have hqq:q=wc:=by
        have:¬ q < wc:=by simpa using h
        omega
       subst hqq
       simp [f0,f3]
   rintro fr H' ⟨f0,f3,rfl⟩
   simp
   refine NextM_of H.length (L - (j+wa+wc)) (Nat.le_refl _) (by simp) (by omega) ⟨j+wa+wc,rfl,?_,?_⟩
   · have e:n+(j+wa+wc)=n+j+wa+wc:=by omega
     rw [e]; omega
   · simp [f0,f3,Hp.cut_set,cut_self hcl,hil,scan,Int.add_assoc]
end
end
section
def keysT:List Bs:=[[100,101,102],[100,121,110],[101,108,115,101],[102,110],[105,102],[105,110,112,117,116],[105,110,116],[108,101,116],[112,114,105,110,116],[114,101,116,117,114,110],[115,116,114],[117,115,101],[119,104,105,108,101]]
theorem keysT_mem (s:Bs):s ∈ keysT ↔ s ∈ keysL:=by
 constructor
 · intro h
   simp only [keysT,List.mem_cons,List.not_mem_nil,or_false] at h
   rcases h with rfl | rfl | rfl | rfl | rfl | rfl | rfl | rfl | rfl | rfl | rfl | rfl | rfl<;>decide
 · intro h
   simp only [keysL,List.mem_cons,List.not_mem_nil,or_false] at h
   rcases h with rfl | rfl | rfl | rfl | rfl | rfl | rfl | rfl | rfl | rfl | rfl | rfl | rfl<;>decide
def signsT:List Bs:=[[61,61],[40],[41],[123],[125],[44],[59],[58],[46],[61],[43],[45],[42],[60]]
def signV (s:Bs):Bs:=(signsT.find? fun x=>x.isPrefixOf s).getD []
def PrefixOk (P:Program) (f:FuncId):Prop:=∀ (s p:Bs) H,ACall P f [.d (.str s),.d (.str p)] H (fun r H'=>r = .d (.bool (p.isPrefixOf s))∧H'=H)
section
variable {P:Program}
theorem Has.idx {f} (h:Has P f irSlIdx) (z:Bool) (ns:List Bs) (x:Bs) (hn:ns.length≤1048576) (H:Hp):ACall P f [.d (.sl z 1 (ns.map encStr)),.d (.str x)] H (fun r H'=>(∃ q:Int,r = .d (.int .i64 q)∧(0≤q ↔ x ∈ ns))∧H'=H):=by
 obtain ⟨fn,hf,hcf⟩:=h
 refine acall_fin hf hcf (by simp [irSlIdx]) fun hcl _ => ?_
 simp [irSlIdx]
 refine LoopK_outR 0 (fun fr H'=>x ∉ ns∧H'=H) (fun fr H'=>(∃ q:Int,fr 4 = .d (.int .i64 q)∧0≤q)∧x ∈ ns∧H'=H) ?_ ?_ ?_
 · refine RangeK_of H.length ns.length (fun i fr H'=>fr 0 = .d (.sl z 1 (ns.map encStr))∧fr 1 = .d (.str x)∧x ∉ ns.take i∧H'=H) (by omega) (by decide) (by simp) (by simp) ?_ ?_ ?_
   · simp [cut_self hcl]
   · rintro i fr H' hi f8 f7 ⟨f0,f1,hx,rfl⟩
     have hr:=rowAt_map encStr hi
     have ht:ns.take (i+1)=ns.take i++[ns[i]]:=List.take_succ_eq_append_getElem hi
     have hm:=List.getElem_mem hi
     simp only [encStr] at hr
     generalize ns[i]=w at hr ht hm
     simp [f8,f0,f1,hr]
     refine BrK_split (fun h => ?_) (fun h => ?_)
     · have e:x=w:=by simpa using h
       simp
       exact e ▸ hm
     · have e:¬ x=w:=by simpa using h
       simp
       refine NextK_of H'.length (Nat.le_refl _) (by simp [f8,f7]) ?_
       simp [f0,f1,cut_self hcl,ht,hx,e]
   · rintro fr H' f8 f7 ⟨f0,f1,hx,rfl⟩
     rw [List.take_of_length_le (Nat.le_refl _)] at hx
     simp [hx]
 · rintro fr H' ⟨⟨q,f4,hq⟩,hx,rfl⟩
   simp
   simp [RetK,cut_self hcl,f4,hx]
   exact hq
 · rintro fr H' ⟨hx,rfl⟩
   simp
   simp [RetK,cut_self hcl,hx]
theorem Has.has {f fi} (h:Has P f (irSlHas fi)) (hi:Has P fi irSlIdx) (z:Bool) (ns:List Bs) (x:Bs) (hn:ns.length≤1048576) (H:Hp):ACall P f [.d (.sl z 1 (ns.map encStr)),.d (.str x)] H (fun r H'=>r = .d (.bool (decide (x ∈ ns)))∧H'=H):=by
 obtain ⟨fn,hf,hcf⟩:=h
 refine acall_fin hf hcf (by simp [irSlHas]) fun hcl _ => ?_
 simp [irSlHas]
 refine CallK_of (hi.idx z ns x hn _) ?_
 rintro r H' ⟨⟨q,rfl,hq⟩,rfl⟩
 simp
 simp [RetK,cut_self hcl,hq]
theorem Has.keys {f} (h:Has P f irTkKeys) (H:Hp):ACall P f [] H (fun r H'=>r = .d (.sl false 1 (keysT.map encStr))∧H'=H):=by
 obtain ⟨fn,hf,hcf⟩:=h
 refine acall_fin hf hcf (by simp [irTkKeys]) fun hcl _ => ?_
 simp [irTkKeys]
 simp [RetK,cut_self hcl,keysT,encStr]
theorem Has.signs {f} (h:Has P f irTkSigns) (H:Hp):ACall P f [] H (fun r H'=>r = .d (.sl false 1 (signsT.map encStr))∧H'=H):=by
 obtain ⟨fn,hf,hcf⟩:=h
 refine acall_fin hf hcf (by simp [irTkSigns]) fun hcl _ => ?_
 simp [irTkSigns]
 simp [RetK,cut_self hcl,signsT,encStr]
theorem Has.isKey {f fk fh fi} (h:Has P f (irTkIsKey fk fh)) (hk:Has P fk irTkKeys) (hh:Has P fh (irSlHas fi)) (hi:Has P fi irSlIdx) (s:Bs) (H:Hp):ACall P f [.d (.str s)] H (fun r H'=>r = .d (.bool (decide (s ∈ keysL)))∧H'=H):=by
 obtain ⟨fn,hf,hcf⟩:=h
 refine acall_fin hf hcf (by simp [irTkIsKey]) fun hcl _ => ?_
 simp [irTkIsKey]
 refine CallK_of' (hk.keys _) ?_
 have:=hh.has hi false keysT s (by decide) H
 simp only [keysT_mem] at this
 simp
 refine CallK_of' this ?_
 simp
 simp [RetK,cut_self hcl]
theorem Has.isName {f fl fk fd} (h:Has P f (irTkIsName fl fk fd)) (hl:ByteOk P fl letterB) (hd:ByteOk P fd digitB) (hk:∀ s H,ACall P fk [.d (.str s)] H (fun r H'=>r = .d (.bool (decide (s ∈ keysL)))∧H'=H)) (s:Bs) (H:Hp):ACall P f [.d (.str s)] H (fun r H'=>r = .d (.bool (isNameB s))∧H'=H):=by
 obtain ⟨fn,hf,hcf⟩:=h
 refine acall_fin hf hcf (by simp [irTkIsName]) fun hcl _ => ?_
 cases s with
 | nil =>
   simp [irTkIsName]
   simp [RetK,cut_self hcl,isNameB]
 | cons b r =>
 generalize hS:b :: r=S
 have hb0:byteAt S 0=some b:=by subst hS; rfl
 have hN:isNameB S=(decide (S.length≤40) && !decide (S ∈ keysL) && !digitB b && S.all fun c=>letterB c || digitB c):=by subst hS; rfl
 have hall:S.all (fun c=>letterB c || digitB c)=true→letterB b=false→digitB b=true:=by
  subst hS
  intro h1 h2
  simp only [List.all_cons,Bool.and_eq_true,Bool.or_eq_true,h2] at h1
  simpa using h1.1
 have hld:letterB b=true→digitB b=false:=by
  intro h
  cases e:digitB b with
  | false=>rfl
  | true =>
    simp only [letterB,digitB,Bool.or_eq_true,Bool.and_eq_true,decide_eq_true_eq] at h e
    omega
 have hne':¬ S=[]:=by subst hS; simp
 by_cases g1:(40:Int) < S.length
 case pos =>
  have:¬ S.length≤40:=by omega
  simp [irTkIsName,hne',g1]
  simp [RetK,cut_self hcl,hN,this]
 have g1':S.length≤40:=by omega
 simp [irTkIsName,hne',g1,hb0]
 refine CallK_of' (hl b _) ?_
 cases hlb:letterB b with
 | false =>
   have hF:isNameB S=false:=by
    rw [hN]
    cases hA:S.all (fun c=>letterB c || digitB c) with
    | false=>simp
    | true=>rw [hall hA hlb]; simp
   simp
   simp [RetK,cut_self hcl,hF]
 | true =>
 simp
 refine CallK_of' (hk S _) ?_
 by_cases g2:S ∈ keysL
 case pos =>
  simp [g2]
  simp [RetK,cut_self hcl,hN,g2]
 simp [g2]
 have hN':isNameB S=S.all fun c=>letterB c || digitB c:=by rw [hN]; simp [g1',g2,hld hlb]
 refine LoopK_outR 0 (fun fr H'=>isNameB S=true∧H'=H) (fun fr H'=>fr 2 = .d (.bool false)∧isNameB S=false∧H'=H) ?_ ?_ ?_
 · refine RangeK_of H.length S.length (fun i fr H'=>fr 0 = .d (.str S)∧(∀ c ∈ S.take i,(letterB c || digitB c)=true)∧H'=H) (by omega) (by decide) (by simp) (by simp) ?_ ?_ ?_
   · simp [cut_self hcl]
   · rintro i fr H' hi f23 f22 ⟨f0,ha,rfl⟩
     have hbi:byteAt S (i:Int)=some S[i]:=by simp [byteAt,hi]
     have ht:S.take (i+1)=S.take i++[S[i]]:=List.take_succ_eq_append_getElem hi
     have hm:=List.getElem_mem hi
     generalize S[i]=c at hbi ht hm
     simp [f23,f0,hbi]
     refine CallK_of' (hl c _) ?_
     cases hc:letterB c with
     | true =>
       simp
       refine NextK_of H'.length (Nat.le_refl _) (by simp [f23,f22]) ?_
       simp [f0,cut_self hcl,ht]
       intro q hq
       rcases hq with hq | rfl
       · simpa using ha q hq
       · exact .inl hc
     | false =>
       simp [f0,hbi]
       refine CallK_of' (hd c _) ?_
       cases hdc:digitB c with
       | true =>
         simp
         refine NextK_of H'.length (Nat.le_refl _) (by simp [f23,f22]) ?_
         simp [f0,cut_self hcl,ht]
         intro q hq
         rcases hq with hq | rfl
         · simpa using ha q hq
         · exact .inr hdc
       | false =>
         have hF:isNameB S=false:=by
          rw [hN']
          exact List.all_eq_false.2 ⟨c,hm,by simp [hc,hdc]⟩
         simp [hF]
   · rintro fr H' f23 f22 ⟨f0,ha,rfl⟩
     rw [List.take_of_length_le (Nat.le_refl _)] at ha
     have hT:isNameB S=true:=by
      rw [hN']
      exact List.all_eq_true.2 ha
     simp [hT]
 · rintro fr H' ⟨f2,hF,rfl⟩
   simp
   simp [RetK,cut_self hcl,f2,hF]
 · rintro fr H' ⟨hT,rfl⟩
   simp
   simp [RetK,cut_self hcl,hT]
theorem sub_end {s:Bs} {n:Nat} (h:n≤s.length):subL s (n:Int) (s.length:Int)=some (s.drop n):=by
 rw [subL_ok ⟨by omega,by omega,by omega⟩]
 congr 1
 rw [List.take_of_length_le (by simp)]
 simp
theorem Has.sign {f fs fp} (h:Has P f (irScSign fs fp)) (hs:Has P fs irTkSigns) (hp:PrefixOk P fp) {H:Hp} {i:Nat} {ts:TypeId} {text:Bs} {n:Nat} (hi:H[i]?=some (scan ts text n)) (hn:n≤text.length) (hl:text.length≤4611686018427387904) :
 ACall P f [.ptr i 0] H (fun r H'=>r = .d (.str (signV (text.drop n)))∧H'=H.set i (scan ts text (n+(signV (text.drop n)).length))):=by
 obtain ⟨fn,hf,hcf⟩:=h
 have hil:=scan_len hi
 refine acall_fin hf hcf (by simp [irScSign]) fun hcl _ => ?_
 have hi':=hi
 unfold scan at hi'
 simp [irScSign]
 refine CallK_of' (hs.signs _) ?_
 simp
 refine LoopK_outR 0 (fun fr H'=>signV (text.drop n)=[]∧H'=H) (fun fr H'=>fr 2 = .d (.str (signV (text.drop n)))∧H'=H.set i (scan ts text (n+(signV (text.drop n)).length))) ?_ ?_ ?_
 · refine RangeK_of H.length signsT.length (fun j fr H'=>fr 0 = .ptr i 0∧fr 5 = .d (.sl false 1 (signsT.map encStr))∧(∀ x ∈ signsT.take j,x.isPrefixOf (text.drop n)=false)∧H'=H) (by decide) (by decide) (by simp) (by simp) ?_ ?_ ?_
   · simp [cut_self hcl,hil]
   · rintro j fr H' hj f7 f6 ⟨f0,f5,ha,rfl⟩
     have hr:=rowAt_map encStr hj
     have ht:signsT.take (j+1)=signsT.take j++[signsT[j]]:=List.take_succ_eq_append_getElem hj
     have hfind:signsT[j].isPrefixOf (text.drop n)=true→signV (text.drop n)=signsT[j]:=fun h=>by
      have:signsT.find? (fun x=>x.isPrefixOf (text.drop n))=some signsT[j]:=by
       rw [List.find?_eq_some_iff_getElem]
       refine ⟨h,j,hj,rfl,fun k hk => ?_⟩
       rw [ha signsT[k] (by rw [List.mem_take_iff_getElem]; exact ⟨k,by omega,rfl⟩)]
       rfl
      rw [signV,this]; rfl
     have hlen:signsT[j].length≤2:=by
      have:∀ x ∈ signsT,x.length≤2:=by decide
      exact this _ (List.getElem_mem hj)
     simp only [encStr] at hr
     generalize signsT[j]=x at hr ht hfind hlen
     simp [f7,f5,f0,hr,hi',sub_end hn]
     refine CallD_of (hp _ x _) ?_
     cases hx:x.isPrefixOf (text.drop n) with
     | true =>
       have hv:=hfind hx
       have hwr:IntKind.i64.wrap ((n:Int)+x.length)=n+x.length:=wrap_i64 (by omega) (by omega)
       have hg:H'[i]=Ob.box ts [.d (.str text),.d (.int .i64 (n:Int))]:=(List.getElem?_eq_some_iff.1 hi').2
       simp [f0,hil,hg,hwr]
       simp [hv,scan]
     | false =>
       simp
       refine NextK_of H'.length (Nat.le_refl _) (by simp [f7,f6]) ?_
       simp [f0,f5,cut_self hcl,ht]
       refine ⟨hil,?_⟩
       intro q hq
       rcases hq with hq | rfl
       · simpa using ha q hq
       · simpa using hx
   · rintro fr H' f7 f6 ⟨f0,f5,ha,rfl⟩
     rw [List.take_of_length_le (Nat.le_refl _)] at ha
     have:signsT.find? (fun x=>x.isPrefixOf (text.drop n))=none:=by
      rw [List.find?_eq_none]
      intro x hx
      rw [ha x hx]; simp
     simp [signV,this]
 · rintro fr H' ⟨f2,rfl⟩
   simp
   simp [RetK,Hp.cut_set,cut_self hcl,hil,scan,f2]
 · rintro fr H' ⟨hv,rfl⟩
   simp
   simp [RetK,cut_self hcl,hv]
   exact (Hp.set_self hi).symm
end
end
end Go.Zam
