/-
  Texts of one proof, one behind the other.
-/
import Derived.Test.YtffdeeooocookaaM5
import Derived.Test.YtffdeeooocookaaM4
import Derived.Test.YtffdeeooocookaaM6
import Derived.Test.YtffdeeooocookaaM7
import Derived.Test.YtffdeeooocookaaM3
import Derived.Test.YtffdeeooocookaaProg
import Derived.KernelRfl
import Derived.Lib.LaidU8
import Derived.Test.YtffdeeooocookaaRows
import Derived.ProofKit
import Derived.OpenShut
import Derived.JoinedCond
set_option linter.all false
set_option maxRecDepth 100000
set_option maxHeartbeats 4000000
namespace Go.Zam
section
section
variable {P:Program}
end
end
section
section
variable {L:List Tk}
end
section
variable {L L':List Tk} {d b lo c:Nat}
end
end
section
section
variable {L L':List Tk} {d b:Nat}
end
end
section
section
variable {L L':List Tk} {d b:Nat}
end
end
theorem parseP_size (L:List Tk):(parseP L).1.size≤1+4 * L.length:=by
 have hn:N.none.size=1:=N.size_none
 unfold parseP
 split
 · simp only; omega
 · cases hF:parseF L with
   | out=>simp only; omega
   | bad q=>simp only; omega
   | ok m j =>
     simp only
     split
     · simp only; omega
     · have hsz:=pp_size (L:=L) (16 * L.length+8) (.file []) 0 trivial
       rw [show pp L (16 * L.length+8) (.file []) 0 = .ok m j from hF] at hsz
       simp only [Sz,G.k1,G.sz,N.sizes_nil] at hsz
       have hadv:=pp_adv (L:=L) (16 * L.length+8) (.file []) 0
       rw [show pp L (16 * L.length+8) (.file []) 0 = .ok m j from hF] at hadv
       obtain ⟨v1,-,v3⟩:=hadv
       simp only; omega
theorem parseO_size (s:Bs):(parseO s).2.1.size≤16001:=by
 unfold parseO
 split
 · simp only [N.size_none]; omega
 · rename_i h
   split
   · simp only [N.size_none]; omega
   · have:=parseP_size (lexS s).1
     have:=(lexS_like (s:=s) (by simpa using h)).2.2.2.2
     simp only; omega
theorem node_ex (a:N):∃ (k f t:Int) (w:Bs) (q:Int) (za:Bool) (ks:List N),a.ks=ks∧a.enc=[.int .i64 k,.int .i64 f,.int .i64 t,.str w,.int .i64 q,.sl za 6 (ks.map N.enc)]∧a.v = .agg [.d (.int .i64 k),.d (.int .i64 f),.d (.int .i64 t),.d (.str w),.d (.int .i64 q),.d (.sl za 6 (ks.map N.enc))]:=by
 obtain ⟨k,f,t,w,q,za,ks⟩:=a
 exact ⟨k,f,t,w,q,za,ks,rfl,by rw [N.enc_mk],by rw [N.v_mk]⟩
end Go.Zam
namespace Go.Proofs.Zs
section
open Go Go.Zam Go.Proofs
def Sf:SF := { wrong:=39,bind:=19,within:=40,res:=57,node:=42,nodeC:=58,kids:=59,mention:=60,find:=79,closed:=20,closedC:=41,cmp:=22,srt:=21,cmpI:=23,tn:=25,tp:=68,ts:=23,tfp:=71,tf:=102,tb:=73,tm:=34,bd:=45,mn:=47,ed:=50 }
theorem sHas:SHas Try.prog Sf where
 wrong:=⟨_,Try.func39,scf39⟩
 bind:=⟨_,Try.func19,scf19⟩
 res:=⟨_,Try.func57,scf57⟩
 kRes:=by kernel_rfl
 node:=⟨_,Try.func42,scf42⟩
 nodeC:=⟨_,Try.func58,scf58⟩
 kNodeC:=by kernel_rfl
 kids:=⟨_,Try.func59,scf59⟩
 mention:=⟨_,Try.func60,scf60⟩
 find:=⟨_,Try.func79,scf79⟩
 closed:=⟨_,Try.func20,scf20⟩
 closedC:=⟨_,Try.func41,scf41⟩
 kClosedC:=by kernel_rfl
theorem sHasW:HasW Try.prog Sf:=⟨_,Try.func40,by kernel_rfl⟩
theorem encBad_len:∀ x,(encBad x).length=2:=fun _=>rfl
theorem cmpB:CmpA Try.prog encBad cBad (.d (.fn 22)):=fun H x y Q t hq=>by
 simp only [ValD_d]
 exact ⟨by kernel_rfl,CallD_of (Has.scCmp (ed:=50) (cmpI:=23) ⟨_,Try.func22,scf22⟩ (fun a b H=>compareInt_acall Try.func23 rcf23 Try.func44 rcf44 a b) x y H) hq⟩
theorem srtOk (H:Hp) (i:Nat) (L:List (Int × Int)) (hi:H[i]?=some (arrE encBad 2 L)) (hl:L.length≤1099511627776):ACall Try.prog 21 [.msl i 0 L.length,.d (.fn 22)] H (fun r H'=>r = .tup []∧H'=H.set i (arrE encBad 2 (ssort cBad L))) :=
 sortStable_acall encBad_len cBad_cmp Try.func21 rcf21 Try.func43 rcf43 Try.func61 rcf61 Try.func62 rcf62 Try.func80 rcf80 Try.func89 rcf89 cmpB (fun m _=>by simp) hi hl
theorem srt0Ok (H:Hp):ACall Try.prog 21 [.d (.sl true 2 []),.d (.fn 22)] H (fun r H'=>r = .tup []∧H'=H) :=
 sortStable0_acall (sz:=2) Try.func21 rcf21 Try.func43 rcf43 Try.func61 rcf61 (fun m _=>by simp)
theorem scopeOk (n:N) (hn:n.size≤68719476736) (H:Hp):ACall Try.prog 10 [n.v] H (fun r H'=>r = .agg ((scopeM n).enc.map .d)∧H'=H) :=
 sHas.of' sHasW ⟨_,Try.func10,scf10⟩ srtOk srt0Ok n hn H
theorem writtenOk {bs bad:D} {z:Bool} {ms:List Mn} (hl:ms.length≤1099511627776) (i:Int) (H:Hp):ACall Try.prog 18 [.agg [.d bs,.d (.sl z 4 (ms.map encMn)),.d bad],.d (.int .i64 i)] H (fun r H'=>r = .d (.bool (ms.any (wrQ i)))∧H'=H) :=
 Has.scWritten (tm:=34) (tint:=3) (mn:=47) ⟨_,Try.func18,scf18⟩ ⟨_,Try.func37,scf37⟩ ⟨_,Try.func56,scf56⟩ ⟨_,Try.func38,scf38⟩ (by kernel_rfl) hl i H
theorem usesOk {S:SM} {z1 z2:Bool} {bad:D} (hl:S.ms.length≤1099511627776) (i:Nat) (hi:i < S.bs.length) (H:Hp) :
 ACall Try.prog 14 [.agg [.d (.sl z1 4 (S.bs.map encBd)),.d (.sl z2 4 (S.ms.map encMn)),.d bad],.d (.int .i64 (i:Int))] H (fun r H'=>r = .d (.sl false 1 ((isort (usesL S i)).map Go.Zam.encI))∧H'=H) :=
 Has.scUses ⟨_,Try.func14,scf14⟩ sortOk hl i hi H
def awkT:Bs:=[100,101,102,32,102,40,97,41,32,123,32,108,101,116,32,98,32,61,32,97,59,32,98,32,61,32,98,32,43,32,97,59,32,125]
def awkM:SM:=scopeM (parseO awkT).2.1
theorem awk_e:(parseO awkT).2.2.1=0:=by kernel_rfl
theorem awk_size:(parseO awkT).2.1.size≤68719476736:=Nat.le_trans (of_decide_eq_true (p:=(parseO awkT).2.1.size≤100) (by kernel_rfl)) (by decide)
theorem awk_bs:awkM.bs.length=3:=by kernel_rfl
theorem awk_bad:awkM.bad.length=0:=by kernel_rfl
theorem awk_ms:awkM.ms.length=4:=by kernel_rfl
theorem awk_u:(usesL awkM 2).length=3:=by kernel_rfl
theorem awk_w2:awkM.ms.any (wrQ 2)=true:=by kernel_rfl
theorem awk_w1:awkM.ms.any (wrQ 1)=false:=by kernel_rfl
theorem awakeOk (H:Hp):ACall Try.prog 8 [] H (fun r H'=>r = .d (.bool true)∧H'=H):=by
 refine acall_fin Try.func8 cf8 (by simp [ir8]) fun hcl _ => ?_
 have g:=refOfOk awkT (by decide) H
 have g1:=fun X=>scopeOk (parseO awkT).2.1 awk_size (H++X)
 rw [awk_e] at g
 have hM:scopeM (parseO awkT).2.1=awkM:=rfl
 rw [hM] at g1
 have b1:=awk_bs; have b2:=awk_bad; have b3:=awk_ms; have b4:=awk_u; have b5:=awk_w2; have b6:=awk_w1
 generalize awkM=M at g1 b1 b2 b3 b4 b5 b6
 generalize (parseO awkT).1=LA at g
 generalize (parseO awkT).2.2.2=PA at g
 obtain ⟨k,f,t,w,q,za,ks,-,he,hv⟩:=node_ex (parseO awkT).2.1
 rw [hv] at g g1
 unfold awkT at g
 have gu:=fun X=>usesOk (S:=M) (z1:=M.bs.isEmpty) (z2:=M.ms.isEmpty) (bad := .sl M.bad.isEmpty 2 (M.bad.map encBad)) (by omega) 2 (by omega) (H++X)
 have gw:=fun X i=>writtenOk (bs := .sl M.bs.isEmpty 4 (M.bs.map encBd)) (z:=M.ms.isEmpty) (ms:=M.ms) (bad := .sl M.bad.isEmpty 2 (M.bad.map encBad)) (by omega) i (H++X)
 have hlu:(isort (usesL M 2)).length=3:=by rw [isort_len]; exact b4
 generalize isort (usesL M 2)=UL at gu hlu
 simp only [SM.enc,List.map_cons,List.map_nil] at g1
 have gw2:=fun X=>gw X 2
 have gw1:=fun X=>gw X 1
 rw [b5] at gw2
 rw [b6] at gw1
 simp [ir8]
 refine CallK_of' g ?_
 simp
 refine CallK_of' (g1 _) ?_
 simp [b1]
 refine CallK_of' (gu _) ?_
 simp [hlu]
 refine CallK_of' (gw2 _) ?_
 simp
 refine CallK_of' (gw1 _) ?_
 simp [b2]
 simp [RetK,cut_app hcl]
end
section
open Go Go.Zam Go.Proofs
theorem scopeM_sz (n:N):(scopeM n).sz≤4 * n.size:=by
 obtain ⟨k,f,t,w,a,z,ks⟩:=n
 have hall:allP (.mk k f t w a z ks)=defsP (topsP 0 ks [] ⟨[],[],[]⟩).1 0 ks (topsP 0 ks [] ⟨[],[],[]⟩).2:=rfl
 have h1:=(tops_grew ks 0 [] ⟨[],[],[]⟩ (FOk.nil _)).sz
 have h2:=(defs_grew (topsP 0 ks [] ⟨[],[],[]⟩).1 ks 0 (topsP 0 ks [] ⟨[],[],[]⟩).2).2
 have h3:SM.sz ⟨[],[],[]⟩=0:=rfl
 have hsl:=N.sizes_len ks
 rw [N.size_mk]
 have:(scopeM (.mk k f t w a z ks)).sz=(allP (.mk k f t w a z ks)).sz:=by
  unfold scopeM SM.sz
  simp only [ssort_length cBad_cmp]
 rw [this,hall]
 omega
end
end Go.Proofs.Zs
namespace Go.Zam
def D.isSl:D→Bool
 | .sl ..=>true
 | _=>false
inductive Deep:D→Prop
 | leaf {x:D} (h:x.isSl=false):Deep x
 | sl (z:Bool) (sz:Nat) (rows:List (List D)) (h0:∀ (i:Nat) (r:List D),rows[i]?=some r→∃ (j:Nat) (z':Bool) (s':Nat) (q:List (List D)),r[j]?=some (.sl z' s' q))
  (h1:∀ (i j:Nat) (r:List D) (x:D),rows[i]?=some r→r[j]?=some x→Deep x):Deep (.sl z sz rows)
inductive ADeep:A→Prop
 | d {x:D} (h:Deep x):ADeep (.d x)
 | agg (l:List A) (h:∀ a ∈ l,ADeep a):ADeep (.agg l)
 | tup (l:List A) (h:∀ a ∈ l,ADeep a):ADeep (.tup l)
def ObDeep:Ob→Prop
 | .box _ cs=>∀ c ∈ cs,∃ x,c = .d x∧Deep x
 | .dead=>True
 | _=>False
theorem DR.leaf {σ τ:St} {v:Value} {x:D} (h:DR σ v x) (hx:x.isSl=false):DR τ v x:=by
 cases h with
 | bool b=>exact .bool b
 | int k n=>exact .int k n
 | str s=>exact .str s
 | nilsl sz=>cases hx
 | sl=>cases hx
 | emp=>cases hx
 | nilp=>exact .nilp
 | nilf=>exact .nilf
 | nili=>exact .nili
 | nilm=>exact .nilm
 | fn f=>exact .fn f
theorem DR.leaf_ne {σ:St} {v:Value} {x:D} (h:DR σ v x) (hx:x.isSl=false) (a:Option Addr) (m c:Nat):v ≠ .slice a m c:=by
 cases h<;>first | (cases hx; done) | (intro e; cases e; done) | (clear hx; intro e; cases e)
theorem DR.sl_is {σ:St} {v:Value} {z:Bool} {sz:Nat} {rows:List (List D)} (h:DR σ v (.sl z sz rows)):∃ a m c,v = .slice a m c:=by
 rcases h.sl_inv with ⟨rfl,-⟩ | ⟨a,c,rfl,-⟩ | ⟨b,o,c,f,rfl,-⟩<;>exact ⟨_,_,_,rfl⟩
theorem DR.deep {σ τ:St} {b:Nat} (hσ:∀ p u,σ b p=some u→∀ a m c,u ≠ .slice a m c) (hτ:∀ b' p u,b' ≠ b → σ b' p=some u → τ b' p=some u) {v:Value} {x:D} (h:DR σ v x):Deep x→DR τ v x:=by
 induction h with
 | bool b=>exact fun _ => .bool b
 | int k n=>exact fun _ => .int k n
 | str s=>exact fun _ => .str s
 | nilsl sz=>exact fun _ => .nilsl sz
 | sl z sz rows b' o cap f hz hcap hrow hc hd ih =>
   intro hdp
   cases hdp with
   | leaf h=>cases h
   | sl _ _ _ h0 h1 =>
   have hne:∀ (i:Nat) (r:List D),rows[i]?=some r→b' ≠ b:=fun i r hi e=>by
    obtain ⟨j,z',s',q,hj⟩:=h0 i r hi
    have h2:=hc i j r _ hi hj
    obtain ⟨a,m,c,h3⟩:=(hd i j r _ hi hj).sl_is
    subst e
    exact hσ _ _ h2 a m c h3
   exact .sl z sz rows b' o cap f hz hcap hrow (fun i j r x h2 h3=>hτ _ _ _ (hne i r h2) (hc i j r x h2 h3)) fun i j r x h2 h3=>ih i j r x h2 h3 (h1 i j r x h2 h3)
 | emp sz a cap=>exact fun _ => .emp sz a cap
 | nilp=>exact fun _ => .nilp
 | nilf=>exact fun _ => .nilf
 | nili=>exact fun _ => .nili
 | nilm=>exact fun _ => .nilm
 | fn f=>exact fun _ => .fn f
theorem VR.deep {κ κ':K} (hd:∀ v x,DR κ.σ v x→Deep x→DR κ'.σ v x) {v:Value} {a:A} (h:VR κ v a):ADeep a→VR κ' v a:=by
 induction h with
 | d h =>
   intro ha
   cases ha with
   | d hx=>exact .d (hd _ _ h hx)
 | agg vs ars hl _ ih =>
   intro ha
   cases ha with
   | agg _ hx=>exact .agg vs ars hl fun i v a h1 h2=>ih i v a h1 h2 (hx a (List.mem_of_getElem? h2))
 | tup vs ars hl _ ih =>
   intro ha
   cases ha with
   | tup _ hx=>exact .tup vs ars hl fun i v a h1 h2=>ih i v a h1 h2 (hx a (List.mem_of_getElem? h2))
 | _=>intro ha; cases ha
theorem ACall.borrow {P:Program} {f:FuncId} {H:Hp} {i k sz e:Nat} {rows:List (List D)} {R:A} (hi:H[i]?=some (.vec sz e k rows)) (hne:rows ≠ []) (hs1:sz ≠ 1) (hs0:0 < sz) (hsc:∀ r ∈ rows,∀ x ∈ r,x.isSl=false)
 (hob:∀ (j:Nat) (x:Ob),j ≠ i→H[j]?=some x→ObDeep x) (hR:ADeep R) (h:∀ H,ACall P f [.d (.sl false sz rows)] H (fun r H'=>r=R∧H'=H)) :
 ACall P f [.vsl i k rows.length] H (fun r H'=>r=R∧H'=H):=by
 intro κ w vs hr hlen hv
 match vs,hlen with
 | [v0],_ =>
 have hil:i < H.length:=(List.getElem?_eq_some_iff.1 hi).1
 have hpos:0 < rows.length:=List.length_pos_iff.2 hne
 have hv0:=hv 0 v0 _ rfl rfl
 rcases hr.ob i _ hi with ⟨-,-,h0⟩ | ⟨b,c,cur,hβ,hk0,hheap,hle,hsz,hcells⟩
 · exact absurd h0 hne
 obtain ⟨ad,cap,rfl,had⟩:∃ ad cap,v0 = .slice ad rows.length cap∧(ad=some ⟨b,0,none⟩∧cap=c):=by
  cases hv0 with
  | vsl _ _ _ ad cap hlc hf =>
    rw [hβ] at hf
    have:=(hf.2 rfl).2
    cases this
    exact ⟨_,_,rfl,rfl,rfl⟩
 obtain ⟨rfl,rfl⟩:=had
 have hbn:∀ p,κ.σ b p=none:=fun p=>hr.exσ i b p (by rw [hβ]; rfl)
 have hoth:∀ j b' ,j ≠ i→(κ.β j).block=some b'→b' ≠ b:=fun j b' hj hb' e=>by
  subst e
  exact hj (hr.exd j i b' hb' (by rw [hβ]; rfl))
 let σ1:St:=fun b' p=>if b'=b∧p < rows.length * sz then cur[p]? else κ.σ b' p
 let κ1:K := { κ with σ := σ1,β:=upd κ.β i (.reg b (rows.length * sz) (cap * sz) rows.length sz) }
 have hσ1 : κ.σ.le σ1:=fun b' p u hu=>by
  show (if b'=b∧p < rows.length * sz then cur[p]? else κ.σ b' p)=some u
  rw [if_neg (fun hh=>by rw [hh.1,hbn] at hu; cases hu)]; exact hu
 have hin:∀ (x y:Nat),x < rows.length→y < sz→x * sz+y < rows.length * sz:=fun x y hx hy=>by
  have:(x+1) * sz≤rows.length * sz:=Nat.mul_le_mul_right _ hx
  rw [Nat.add_mul] at this; omega
 have hrow:∀ (x:Nat) (r:List D) (y:Nat) (u:D),rows[x]?=some r→r[y]?=some u→x * sz+y < rows.length * sz∧∃ v,cur[x * sz+y]?=some v∧DR κ.σ v u:=fun x r y u hx hy=>by
  obtain ⟨h1,h2⟩:=hcells x r hx
  exact ⟨hin x y (List.getElem?_eq_some_iff.1 hx).1 (by rw [← h1]; exact (List.getElem?_eq_some_iff.1 hy).1),h2 y u hy⟩
 have hr1:HR κ1 (H.set i (.tok rows.length sz e)) w:=by
  refine ⟨hr.below,fun b' p u hu => ?_,fun j x hx => ?_,fun j hj => ?_,fun j b' hb' => ?_,fun j b' o ho => ?_,fun j q b' h1 h2 => ?_,fun j x hx => ?_⟩
  · have hu1:(if b'=b∧p < rows.length * sz then cur[p]? else κ.σ b' p)=some u:=hu
    by_cases hh:b'=b∧p < rows.length * sz
    · rw [if_pos hh] at hu1
      rw [hh.1]
      simp only [World.cell?,hheap]
      simpa using hu1
    · rw [if_neg hh] at hu1; exact hr.st b' p u hu1
  · by_cases hj:i=j
    · subst hj
      rw [List.getElem?_set_self hil] at hx
      cases hx
      exact .inr ⟨b,_,_,cur,0,0,upd_same _ _ _,hheap,hsz,.inl ⟨rfl,rfl⟩⟩
    · rw [List.getElem?_set_ne hj] at hx
      have hd:=hob j x (Ne.symm hj) hx
      have ho:=hr.ob j x hx
      cases x with
      | box ty cs =>
        obtain ⟨b2,g1,g2,g3⟩:=ho
        refine ⟨b2,by show upd κ.β i _ j=_; rw [upd_ne _ _ (Ne.symm hj)]; exact g1,g2,fun q a ha => ?_⟩
        obtain ⟨u,u1,u2,u3⟩:=g3 q a ha
        obtain ⟨y,rfl,-⟩:=hd a (List.mem_of_getElem? ha)
        exact ⟨u,u1,u2,.d (u3.d_inv.mono hσ1)⟩
      | dead=>trivial
      | _=>exact hd.elim
  · have hj':H.length≤j:=by simpa using hj
    show upd κ.β i _ j=_
    rw [upd_ne _ _ (by omega)]; exact hr.dom j hj'
  · by_cases hj:j=i
    · subst hj
      have hb':(upd κ.β j (.reg b (rows.length * sz) (cap * sz) rows.length sz) j).block=some b':=hb'
      rw [upd_same] at hb'
      cases hb'
      exact hr.ex j b (by rw [hβ]; rfl)
    · have hb':(upd κ.β i (.reg b (rows.length * sz) (cap * sz) rows.length sz) j).block=some b':=hb'
      rw [upd_ne _ _ hj] at hb'
      exact hr.ex j b' hb'
  · by_cases hj:j=i
    · subst hj
      have ho:(upd κ.β j (.reg b (rows.length * sz) (cap * sz) rows.length sz) j).owns b' o:=ho
      rw [upd_same] at ho
      obtain ⟨rfl,ho⟩:=ho
      show (if b=b∧o < rows.length * sz then cur[o]? else κ.σ b o)=none
      rw [if_neg (by omega)]; exact hbn o
    · have ho:(upd κ.β i (.reg b (rows.length * sz) (cap * sz) rows.length sz) j).owns b' o:=ho
      rw [upd_ne _ _ hj] at ho
      have:=hoth j b' hj (Bind.block_of_owns ho)
      show (if b'=b∧o < rows.length * sz then cur[o]? else κ.σ b' o)=none
      rw [if_neg (fun hh=>this hh.1)]; exact hr.exσ j b' o ho
  · have key:∀ m,(upd κ.β i (.reg b (rows.length * sz) (cap * sz) rows.length sz) m).block=(κ.β m).block:=fun m=>by
     by_cases hm:m=i
     · subst hm; rw [upd_same,hβ]; rfl
     · rw [upd_ne _ _ hm]
    have h1:(upd κ.β i (.reg b (rows.length * sz) (cap * sz) rows.length sz) j).block=some b':=h1
    have h2:(upd κ.β i (.reg b (rows.length * sz) (cap * sz) rows.length sz) q).block=some b':=h2
    rw [key] at h1 h2
    exact hr.exd j q b' h1 h2
  · by_cases hj:i=j
    · subst hj
      rw [List.getElem?_set_self hil] at hx
      cases hx; rfl
    · rw [List.getElem?_set_ne hj] at hx
      exact hr.fl j x hx
 have harg:VR κ1 (.slice (some ⟨b,0,none⟩) rows.length cap) (.d (.sl false sz rows)):=by
  refine .d (.sl false sz rows b 0 cap (fun x y=>(cur[x * sz+y]?).getD undef) (fun h=>by cases h) hle (fun x r hx=>(hcells x r hx).1) (fun x y r u hx hy => ?_) fun x y r u hx hy => ?_)
  · obtain ⟨h1,v,h2,-⟩:=hrow x r y u hx hy
    show (if b=b∧0+x * sz+y < rows.length * sz then cur[0+x * sz+y]? else κ.σ b (0+x * sz+y))=_
    rw [Nat.zero_add,if_pos ⟨rfl,h1⟩,h2]; rfl
  · obtain ⟨-,v,h2,h3⟩:=hrow x r y u hx hy
    simp only [h2,Option.getD_some]
    exact h3.mono hσ1
 refine (h _ κ1 w [.slice (some ⟨b,0,none⟩) rows.length cap] hr1 rfl fun m v a hm ha => ?_).mono ?_
 · cases m with
   | zero=>simp at hm ha; subst hm; subst ha; exact harg
   | succ m=>simp at hm
 rintro ev w' ⟨v,κ',r,H',q1,q2,q3,q4,rfl,rfl⟩
 have hti:(H.set i (Ob.tok rows.length sz e))[i]?=some (.tok rows.length sz e):=List.getElem?_set_self hil
 rcases q3.ob i _ hti with ⟨-,h0⟩ | ⟨b2,e2,c2,cur2,lo,hi2,hβ2,hheap2,hc2,hfz⟩
 · omega
 have hle2:=q2.β i
 have hb1 : κ1.β i = .reg b (rows.length * sz) (cap * sz) rows.length sz:=upd_same _ _ _
 rw [hb1,hβ2] at hle2
 have heq:b2=b∧e2=rows.length * sz∧c2=cap * sz:=by
  simp only [Bind.le] at hle2
  rcases hle2 with hle2 | hle2 | ⟨b3,e3,c3,m3,hle2,hlt⟩
  · cases hle2; exact ⟨rfl,rfl,rfl⟩
  · cases hle2
  · cases hle2; omega
 obtain ⟨rfl,rfl,rfl⟩:=heq
 have hz:lo=0∧hi2=0:=hfz.resolve_right fun hh=>hs1 hh.1
 obtain ⟨rfl,rfl⟩:=hz
 let σ2:St:=fun b' p=>if b'=b2 then none else κ'.σ b' p
 let κ2:K := { κ' with σ := σ2,β:=upd κ'.β i (.vec b2 cap rows.length k sz) }
 have hno:∀ p,rows.length * sz≤p → κ'.σ b2 p=none:=fun p hp=>q3.exσ i b2 p (by rw [hβ2]; exact ⟨rfl,hp⟩)
 have hyes:∀ (x:Nat) (r:List D) (y:Nat) (u:D),rows[x]?=some r→r[y]?=some u→∃ v,cur[x * sz+y]?=some v ∧ κ'.σ b2 (x * sz+y)=some v∧DR κ.σ v u:=fun x r y u hx hy=>by
  obtain ⟨h1,v,h2,h3⟩:=hrow x r y u hx hy
  refine ⟨v,h2,q2.σ _ _ _ ?_,h3⟩
  show (if b2=b2∧x * sz+y < rows.length * sz then cur[x * sz+y]? else κ.σ b2 (x * sz+y))=_
  rw [if_pos ⟨rfl,h1⟩,h2]
 have hsca:∀ p u,κ'.σ b2 p=some u→∀ a m c,u ≠ .slice a m c:=fun p u hp=>by
  by_cases hlt:p < rows.length * sz
  · have hx:p / sz < rows.length:=(Nat.div_lt_iff_lt_mul hs0).2 hlt
    have hy:p % sz < sz:=Nat.mod_lt _ hs0
    have hxr:=List.getElem?_eq_getElem hx
    have hrl:=(hcells _ _ hxr).1
    have hyr:(rows[p / sz])[p % sz]?=some ((rows[p / sz])[p % sz]'(by rw [hrl]; exact hy)):=List.getElem?_eq_getElem _
    obtain ⟨v,h2,h3,h4⟩:=hyes _ _ _ _ hxr hyr
    have hpp:p / sz * sz+p % sz=p:=by rw [Nat.mul_comm]; exact Nat.div_add_mod p sz
    rw [hpp,hp] at h3
    cases h3
    exact h4.leaf_ne (hsc _ (List.getElem_mem _) _ (List.getElem_mem _))
  · rw [hno p (by omega)] at hp; cases hp
 have htr:∀ v x,DR κ'.σ v x→Deep x→DR σ2 v x:=fun v x hd hx=>hd.deep hsca (fun b' p u hb hp=>by
  show (if b'=b2 then none else κ'.σ b' p)=some u
  rw [if_neg hb]; exact hp) hx
 refine ⟨v,κ2,r,H,q1,⟨q2.w0,fun b' p u hu => ?_,fun j => ?_⟩,⟨q3.below,fun b' p u hu => ?_,fun j x hx => ?_,fun j hj => ?_,fun j b' hb' => ?_,fun j b' o ho => ?_,fun j q b' h1 h2 => ?_,hr.fl⟩,q4.deep htr hR,rfl,rfl⟩
 · show (if b'=b2 then none else κ'.σ b' p)=some u
   rw [if_neg (fun e=>by rw [e,hbn] at hu; cases hu)]
   exact q2.σ _ _ _ (hσ1 _ _ _ hu)
 · by_cases hj:j=i
   · subst hj
     show (κ.β j).le (upd κ'.β j _ j)
     rw [upd_same,hβ]; exact Bind.le_refl _
   · show (κ.β j).le (upd κ'.β i _ j)
     rw [upd_ne _ _ hj]
     have:=q2.β j
     have e1 : κ1.β j = κ.β j:=upd_ne _ _ hj
     rw [e1] at this
     exact this
 · have hu:(if b'=b2 then none else κ'.σ b' p)=some u:=hu
   by_cases hb:b'=b2
   · rw [if_pos hb] at hu; cases hu
   · rw [if_neg hb] at hu; exact q3.st b' p u hu
 · by_cases hj:i=j
   · subst hj
     rw [hi] at hx
     cases hx
     refine .inr ⟨b2,cap,cur2,upd_same _ _ _,hk0,hheap2,hle,hc2,fun x r hxr=>⟨(hcells x r hxr).1,fun y u hy => ?_⟩⟩
     obtain ⟨v,h2,h3,h4⟩:=hyes x r y u hxr hy
     refine ⟨v,?_,h4.leaf (hsc r (List.mem_of_getElem? hxr) u (List.mem_of_getElem? hy))⟩
     have:=q3.st _ _ _ h3
     simpa [World.cell?,hheap2] using this
   · have hd:=hob j x (Ne.symm hj) hx
     have ho:=q3.ob j x (by rw [List.getElem?_set_ne hj]; exact hx)
     cases x with
     | box ty cs =>
       obtain ⟨b3,g1,g2,g3⟩:=ho
       refine ⟨b3,by show upd κ'.β i _ j=_; rw [upd_ne _ _ (Ne.symm hj)]; exact g1,g2,fun q a ha => ?_⟩
       obtain ⟨u,u1,u2,u3⟩:=g3 q a ha
       obtain ⟨y,rfl,hy⟩:=hd a (List.mem_of_getElem? ha)
       exact ⟨u,u1,u2,.d (htr _ _ u3.d_inv hy)⟩
     | dead=>trivial
     | _=>exact hd.elim
 · show upd κ'.β i _ j=_
   rw [upd_ne _ _ (by omega)]; exact q3.dom j (by simpa using hj)
 · by_cases hj:j=i
   · subst hj
     have hb':(upd κ'.β j (.vec b2 cap rows.length k sz) j).block=some b':=hb'
     rw [upd_same] at hb'
     cases hb'
     exact q3.ex j b2 (by rw [hβ2]; rfl)
   · have hb':(upd κ'.β i (.vec b2 cap rows.length k sz) j).block=some b':=hb'
     rw [upd_ne _ _ hj] at hb'
     exact q3.ex j b' hb'
 · by_cases hj:j=i
   · subst hj
     have ho:(upd κ'.β j (.vec b2 cap rows.length k sz) j).owns b' o:=ho
     rw [upd_same] at ho
     show (if b'=b2 then none else κ'.σ b' o)=none
     rw [if_pos (Eq.symm ho)]
   · have ho:(upd κ'.β i (.vec b2 cap rows.length k sz) j).owns b' o:=ho
     rw [upd_ne _ _ hj] at ho
     show (if b'=b2 then none else κ'.σ b' o)=none
     split
     · rfl
     · exact q3.exσ j b' o ho
 · have key:∀ m,(upd κ'.β i (.vec b2 cap rows.length k sz) m).block=(κ'.β m).block:=fun m=>by
    by_cases hm:m=i
    · subst hm; rw [upd_same,hβ2]; rfl
    · rw [upd_ne _ _ hm]
   have h1:(upd κ'.β i (.vec b2 cap rows.length k sz) j).block=some b':=h1
   have h2:(upd κ'.β i (.vec b2 cap rows.length k sz) q).block=some b':=h2
   rw [key] at h1 h2
   exact q3.exd j q b' h1 h2
section
def irR4LexV (fb fl fo tt : Nat) : IFn := { nt := 69, res := [.t 2,.t 3,.t 4], body := ( .seq (.ops [⟨some 2,none,.mv (.c (.sl true 4 []))⟩,⟨some 3,none,.mv (.c (.int .i64 0))⟩,⟨some 4,none,.mv (.c (.int .i64 0))⟩] false) (.seq (.seq (.ops [⟨some 14,none,.mv (.t 0)⟩,⟨some 15,none,.lenS (.t 14)⟩,⟨some 16,none,.bin .gtr (.t 15) (.c (.int .i64 16384))⟩] false) (.cond (.t 16) (.seq (.ops [⟨some 2,none,.mv (.c (.sl true 4 []))⟩,⟨some 3,none,.mv (.c (.int .i64 5))⟩,⟨some 4,none,.mv (.c (.int .i64 16384))⟩] false) (.ret)) (.skip))) (.seq (.ops [⟨some 17,none,.mv (.t 0)⟩,⟨some 18,none,.call fb [(.t 17)]⟩,⟨some 5,none,.mv (.t 18)⟩] false) (.seq (.seq (.ops [⟨some 19,none,.mv (.t 5)⟩,⟨some 20,none,.bin .geq (.t 19) (.c (.int .i64 0))⟩] false) (.cond (.t 20) (.seq (.ops [⟨some 21,none,.mv (.t 5)⟩,⟨some 2,none,.mv (.c (.sl true 4 []))⟩,⟨some 3,none,.mv (.c (.int .i64 20))⟩,⟨some 4,none,.mv (.t 21)⟩] false) (.ret)) (.skip))) (.seq (.ops [⟨some 6,none,.mv (.c (.sl true 4 []))⟩] false) (.seq (.ops [⟨some 7,none,.mv (.c (.int .i64 0))⟩] false) (.blk 0 (.loop (.blk 1 (.seq (.ops [⟨some 22,none,.mv (.t 7)⟩,⟨some 8,none,.mv (.t 22)⟩] false) (.seq (.ops [⟨some 23,none,.mv (.t 0)⟩,⟨some 24,none,.mv (.t 7)⟩,⟨some 25,none,.call fl [(.t 23),(.t 24)]⟩,⟨some 7,none,.mv (.t 25)⟩] false) (.seq (.ops [⟨some 26,none,.mv (.t 7)⟩,⟨some 27,none,.mv (.t 0)⟩,⟨some 28,none,.mv (.t 8)⟩,⟨some 29,none,.mv (.t 7)⟩,⟨some 30,none,.sslice (.t 27) (some (.t 28)) (some (.t 29))⟩,⟨some 31,none,.build [(.int .i64 0),(.int .i64 0),(.str []),(.str [])] [(1,1,(.t 26)),(2,1,(.t 30))]⟩,⟨some 9,none,.alloc tt [(.int .i64 0),(.int .i64 0),(.str []),(.str [])]⟩,⟨none,none,.store 4 (.t 9) (.t 31)⟩] false) (.seq (.ops [⟨some 32,none,.mv (.t 7)⟩,⟨some 10,none,.mv (.t 32)⟩] false) (.seq (.seq (.ops [⟨some 33,none,.mv (.t 7)⟩,⟨some 34,none,.mv (.t 0)⟩,⟨some 35,none,.lenS (.t 34)⟩,⟨some 36,none,.bin .lss (.t 33) (.t 35)⟩] false) (.cond (.t 36) (.seq (.ops [⟨some 38,none,.mv (.t 0)⟩,⟨some 39,none,.mv (.t 7)⟩,⟨some 40,none,.call fo [(.t 38),(.t 39)]⟩,⟨some 37,none,.mv (.t 40)⟩,⟨some 41,none,.ext (.t 37) 0⟩,⟨some 42,none,.ext (.t 37) 1⟩,⟨some 43,none,.ext (.t 37) 2⟩,⟨some 11,none,.mv (.t 41)⟩,⟨some 12,none,.mv (.t 42)⟩,⟨some 13,none,.mv (.t 43)⟩] false) (.seq (.seq (.ops [⟨some 44,none,.mv (.t 13)⟩,⟨some 45,none,.bin .neq (.t 44) (.c (.int .i64 0))⟩] false) (.cond (.t 45) (.seq (.ops [⟨some 46,none,.mv (.t 13)⟩,⟨some 47,none,.mv (.t 7)⟩,⟨some 2,none,.mv (.c (.sl true 4 []))⟩,⟨some 3,none,.mv (.t 46)⟩,⟨some 4,none,.mv (.t 47)⟩] false) (.ret)) (.skip))) (.seq (.ops [⟨some 48,none,.mv (.t 11)⟩,⟨some 49,none,.faddr 0 (.t 9)⟩,⟨none,none,.store 1 (.t 49) (.t 48)⟩] false) (.ops [⟨some 50,none,.mv (.t 12)⟩,⟨some 10,none,.mv (.t 50)⟩] false)))) (.skip))) (.seq (.seq (.ops [⟨some 51,none,.mv (.t 6)⟩,⟨some 52,none,.lenL (.t 51)⟩,⟨some 53,none,.bin .geq (.t 52) (.c (.int .i64 4000))⟩] false) (.cond (.t 53) (.seq (.ops [⟨some 54,none,.mv (.t 7)⟩,⟨some 2,none,.mv (.c (.sl true 4 []))⟩,⟨some 3,none,.mv (.c (.int .i64 5))⟩,⟨some 4,none,.mv (.t 54)⟩] false) (.ret)) (.skip))) (.seq (.ops [⟨some 55,none,.mv (.t 0)⟩,⟨some 56,none,.mv (.t 7)⟩,⟨some 57,none,.mv (.t 10)⟩,⟨some 58,none,.sslice (.t 55) (some (.t 56)) (some (.t 57))⟩,⟨some 59,none,.faddr 3 (.t 9)⟩,⟨none,none,.store 1 (.t 59) (.t 58)⟩] false) (.seq (.ops [⟨some 60,none,.mv (.t 10)⟩,⟨some 7,none,.mv (.t 60)⟩] false) (.seq (.ops [⟨some 61,none,.mv (.t 6)⟩,⟨some 62,none,.load 4 true (.t 9)⟩,⟨some 63,none,.bslice 4 [(.t 62)]⟩,⟨some 64,none,.appV 4 48 tt (.t 61) (.t 63)⟩,⟨some 6,none,.mv (.t 64)⟩] false) (.seq (.ops [⟨some 65,none,.faddr 0 (.t 9)⟩,⟨some 66,none,.load 1 false (.t 65)⟩,⟨some 67,none,.bin .eql (.t 66) (.c (.int .i64 0))⟩] false) (.cond (.t 67) (.seq (.ops [⟨some 68,none,.mv (.t 6)⟩,⟨some 2,none,.mv (.t 68)⟩,⟨some 3,none,.mv (.c (.int .i64 0))⟩,⟨some 4,none,.mv (.c (.int .i64 0))⟩] false) (.ret)) (.skip))))))))))))))))))))) }
def irR7OfV (lex parse tn : Nat) : IFn := { nt := 40, res := [.t 2,.cell 3 6 true,.t 4,.t 5], body := ( .seq (.ops [⟨some 2,none,.mv (.c (.sl true 4 []))⟩,⟨some 3,none,.alloc tn [(.int .i64 0),(.int .i64 0),(.int .i64 0),(.str []),(.int .i64 0),(.sl true 6 [])]⟩,⟨some 4,none,.mv (.c (.int .i64 0))⟩,⟨some 5,none,.mv (.c (.int .i64 0))⟩] false) (.seq (.ops [⟨some 13,none,.mv (.t 0)⟩,⟨some 14,none,.call lex [(.t 13)]⟩,⟨some 12,none,.mv (.t 14)⟩,⟨some 15,none,.ext (.t 12) 0⟩,⟨some 16,none,.ext (.t 12) 1⟩,⟨some 17,none,.ext (.t 12) 2⟩,⟨some 6,none,.mv (.t 15)⟩,⟨some 7,none,.mv (.t 16)⟩,⟨some 8,none,.mv (.t 17)⟩] false) (.seq (.seq (.ops [⟨some 18,none,.mv (.t 7)⟩,⟨some 19,none,.bin .neq (.t 18) (.c (.int .i64 0))⟩] false) (.cond (.t 19) (.seq (.ops [⟨some 20,none,.build [(.int .i64 0),(.int .i64 0),(.int .i64 0),(.str []),(.int .i64 0),(.sl true 6 [])] []⟩,⟨some 21,none,.mv (.t 7)⟩,⟨some 22,none,.mv (.t 8)⟩,⟨some 2,none,.mv (.c (.sl true 4 []))⟩,⟨none,none,.store 6 (.t 3) (.t 20)⟩,⟨some 4,none,.mv (.t 21)⟩,⟨some 5,none,.mv (.t 22)⟩] false) (.ret)) (.skip))) (.seq (.ops [⟨some 24,none,.mv (.t 6)⟩,⟨some 25,none,.call parse [(.t 24)]⟩,⟨some 23,none,.mv (.t 25)⟩,⟨some 26,none,.ext (.t 23) 0⟩,⟨some 27,none,.ext (.t 23) 1⟩,⟨some 28,none,.ext (.t 23) 2⟩,⟨some 9,none,.alloc tn [(.int .i64 0),(.int .i64 0),(.int .i64 0),(.str []),(.int .i64 0),(.sl true 6 [])]⟩,⟨none,none,.store 6 (.t 9) (.t 26)⟩,⟨some 10,none,.mv (.t 27)⟩,⟨some 11,none,.mv (.t 28)⟩] false) (.seq (.seq (.ops [⟨some 29,none,.mv (.t 10)⟩,⟨some 30,none,.bin .neq (.t 29) (.c (.int .i64 0))⟩] false) (.cond (.t 30) (.seq (.seq (.ops [⟨some 31,none,.build [(.int .i64 0),(.int .i64 0),(.int .i64 0),(.str []),(.int .i64 0),(.sl true 6 [])] []⟩] false) (.seq (.ops [⟨some 32,none,.mv (.t 10)⟩] false) (.seq (.ops [⟨some 33,none,.mv (.t 6)⟩] false) (.seq (.ops [⟨some 34,none,.mv (.t 11)⟩] false) (.seq (.ops [⟨some 2,none,.mv (.c (.sl true 4 []))⟩] false) (.both (.seq (.ops [⟨some 35,none,.iaddrV 4 (.t 33) (.t 34)⟩] false) (.seq (.ops [⟨some 36,none,.faddr 1 (.t 35)⟩] false) (.both (.seq (.ops [⟨some 37,none,.loadV 1 false (.t 36)⟩] false) (.seq (.ops [⟨none,none,.store 6 (.t 3) (.t 31)⟩] false) (.seq (.ops [⟨some 4,none,.mv (.t 32)⟩] false) (.seq (.ops [⟨some 5,none,.mv (.t 37)⟩] false) (.skip))))) (.seq (.ops [⟨none,none,.store 6 (.t 3) (.t 31)⟩] false) (.seq (.ops [⟨some 4,none,.mv (.t 32)⟩] false) (.seq (.ops [⟨some 37,none,.loadV 1 false (.t 36)⟩] false) (.seq (.ops [⟨some 5,none,.mv (.t 37)⟩] false) (.skip)))))))) (.seq (.ops [⟨none,none,.store 6 (.t 3) (.t 31)⟩] false) (.seq (.ops [⟨some 4,none,.mv (.t 32)⟩] false) (.seq (.ops [⟨some 35,none,.iaddrV 4 (.t 33) (.t 34)⟩] false) (.seq (.ops [⟨some 36,none,.faddr 1 (.t 35)⟩] false) (.seq (.ops [⟨some 37,none,.loadV 1 false (.t 36)⟩] false) (.seq (.ops [⟨some 5,none,.mv (.t 37)⟩] false) (.skip))))))))))))) (.ret)) (.skip))) (.seq (.ops [⟨some 38,none,.mv (.t 6)⟩,⟨some 39,none,.load 6 true (.t 9)⟩,⟨some 2,none,.mv (.t 38)⟩,⟨none,none,.store 6 (.t 3) (.t 39)⟩,⟨some 4,none,.mv (.c (.int .i64 0))⟩,⟨some 5,none,.mv (.c (.int .i64 0))⟩] true) (.ret))))))) }
section
variable {P:Program}
def VAt (H:Hp) (tt:Nat) (acc:List Tk) (x:A) (H':Hp):Prop :=
 (acc=[]∧x = .d (.sl true 4 [])∧H'=H)∨∃ (n:Nat) (t0:Tk),acc.length=n+1∧x = .vsl (H.length+1) n (n+1)∧H'=H++[.box tt ((encTk t0).map .d),.vec 4 tt n (acc.map encTk)]
theorem HasT.lexV {f fb fl fo tt} (h:HasT P [2000064] f (irR4LexV fb fl fo tt)) (hb:∀ (s:Bs) H,s.length≤1048576→ACall P fb [.d (.str s)] H (fun r H'=>r = .d (.int .i64 (badS s))∧H'=H))
 (hl:∀ (s:Bs) (n:Nat),n≤s.length→s.length≤1048576→∀ H,ACall P fl [.d (.str s),.d (.int .i64 (n:Int))] H (fun r H'=>r = .d (.int .i64 ((n+leadS false (s.drop n):Nat):Int))∧H'=H))
 (ho:∀ (s:Bs) (n:Nat),n < s.length→s.length≤1048576→∀ H,ACall P fo [.d (.str s),.d (.int .i64 (n:Int))] H (One4Q (s.drop n) n H))
 (s:Bs) (hs:s.length≤1048576) (hOK:(lexS s).2.1=0) (H:Hp) :
 ACall P f [.d (.str s)] H (fun r H'=>∃ (n:Nat) (t0:Tk),(lexS s).1.length=n+1∧r = .tup [.vsl (H.length+1) n (n+1),.d (.int .i64 0),.d (.int .i64 0)]∧H'=H++[.box tt ((encTk t0).map .d),.vec 4 tt n ((lexS s).1.map encTk)]):=by
 obtain ⟨fnn,hf,hcf⟩:=h
 refine acall_fink 2 hf hcf (by simp [irR4LexV]) fun hcl _ => ?_
 by_cases h1:16384 < s.length
 case pos =>
  rw [lexS,if_pos h1] at hOK; cases hOK
 have h1':¬ (16384:Int) < s.length:=by omega
 have hbs:=hb s H hs
 have hL:lexS s=if 0≤badS s then ([],20,badS s) else lexF (s.length+1) s 0 0:=by rw [lexS,if_neg h1]
 obtain ⟨Q,hQ⟩:∃ Q:A→Hp→Prop,Q=fun r H'=>∃ (n:Nat) (t0:Tk),(lexS s).1.length=n+1∧r = .tup [.vsl (H.length+1) n (n+1),.d (.int .i64 0),.d (.int .i64 0)]∧H'=H++[.box tt ((encTk t0).map .d),.vec 4 tt n ((lexS s).1.map encTk)]:=⟨_,rfl⟩
 rw [← hQ]
 have hfin:∀ (acc:List Tk) (n:Nat) (t0:Tk) (X:Hp),lexS s=(acc,0,0)→acc.length=n+1→RetK Q .mk (H.length+2) (some (.tup [.vsl (H.length+1) n (n+1),.d (.int .i64 0),.d (.int .i64 0)])) (H++([.box tt ((encTk t0).map .d),.vec 4 tt n (acc.map encTk)]++X)):=fun acc n t0 X e el=>by
  subst hQ
  rw [e]
  simp [RetK,cut_appk hcl,el,encTk]
  exact ⟨t0,rfl,rfl,rfl,rfl⟩
 generalize lexS s=LS at hL hOK hfin
 clear hQ
 generalize badS s=bs at hL hbs
 simp [irR4LexV,h1']
 refine CallK_of' hbs ?_
 simp
 refine BrK_split (fun h2 => ?_) (fun h2 => ?_)
 · have h2:0≤bs:=by simpa using h2
   rw [if_pos h2] at hL
   subst hL
   cases hOK
 have h2:¬ 0≤bs:=by simpa using h2
 rw [if_neg h2] at hL
 simp
 refine LoopM_of H.length (fun d fr H'=>∃ (p:Nat) (acc:List Tk),p≤s.length∧s.length - p < d∧LS=combL acc (lexF d (s.drop p) p acc.length)∧acc.length≤4000∧fr 0 = .d (.str s)∧fr 7 = .d (.int .i64 (p:Int))∧VAt H tt acc (fr 6) H') (s.length+1) (by simp) ⟨0,[],by omega,by omega,?_,by simp,?_⟩ ?_
 · simp only [List.drop_zero,List.length_nil]
   rw [hL]
   exact (combL_nil _ _ _ _).symm
 · exact ⟨by simp,by simp,.inl ⟨rfl,by simp,by simp [cut_self hcl]⟩⟩
 rintro d fr H' ⟨p,acc,hp,hd,hLS,hacc,f0,f7,hV⟩
 obtain ⟨d',rfl⟩:∃ d',d=d'+1:=⟨d - 1,by omega⟩
 have hll:=lead_le false (s.drop p)
 simp only [List.length_drop] at hll
 rw [lexF] at hLS
 simp only [drop_add'] at hLS
 have htl:=tokN_len (s.drop (p+leadS false (s.drop p)))
 simp only [List.length_drop] at htl
 have hsb:=sub_ok (s:=s) (n:=p) (w:=leadS false (s.drop p)) (by omega)
 have g1:=fun H=>hl s p hp hs H
 have g2:=fun H=>fun h=>ho s (p+leadS false (s.drop p)) h hs H
 unfold One4Q at g2
 generalize hn:leadS false (s.drop p)=n at hLS hll g1 g2 htl hsb
 have hnil:p+n=s.length→tokN (s.drop (p+n))=(0,0,0):=fun e=>by rw [List.drop_eq_nil_of_le (by omega)]; rfl
 generalize hTT:tokN (s.drop (p+n))=T at hLS g2 htl hnil
 obtain ⟨e,k,m⟩:=T
 simp only at hLS htl g2
 obtain ⟨t1,t2,t3,t4⟩:=htl
 rcases hV with ⟨hacc0,f6,hH'⟩ | ⟨na,t0,hna,f6,hH'⟩
 ·
  subst hacc0; rw [hH']
  simp [f0,f7]
  refine CallK_of' (g1 _) ?_
  simp [f0,f7,hsb]
  rcases Nat.lt_or_ge (p+n) s.length with hlt | hge
  · have hlt':(p:Int)+n < s.length:=by omega
    have hne:s.drop (p+n) ≠ []:=fun q=>by have:=List.drop_eq_nil_iff.1 q; omega
    simp [f0,hlt']
    have g3:=fun H=>g2 H hlt
    simp only [Int.natCast_add] at g3
    refine CallK_of (g3 _) ?_
    rintro _ _ ⟨k',m',rfl,rfl,hx⟩
    by_cases he:e=0
    case neg =>
     rw [if_pos he] at hLS
     exact absurd hOK (by rw [hLS]; simp [combL,he])
    obtain ⟨rfl,hm'⟩:=hx he
    subst hm'
    rw [if_neg (by simp [he])] at hLS
    subst he
    have hsm:=sub_ok (s:=s) (n:=p+n) (w:=m) (by omega)
    simp only [Int.natCast_add] at hsm
    simp [f0]
    by_cases h4:4000≤([]:List Tk).length
    case pos =>
     rw [if_pos h4] at hLS
     exact absurd hOK (by rw [hLS]; simp [combL])
    have h4':¬ (4000:Int)≤0:=by omega
    rw [if_neg h4] at hLS
    obtain ⟨t,ht⟩:∃ t:Tk,t=⟨k',p+n,(s.drop p).take n,(s.drop (p+n)).take m⟩:=⟨_,rfl⟩
    have hbt:([]:List Tk).map encTk++[[.int .i64 k',.int .i64 ((p:Int)+n),.str ((s.drop p).take n),.str ((s.drop (p+n)).take m)]]=([]++[t]).map encTk:=by
     simp [encTk,ht]
    have hbb:[A.d (.int .i64 k'),.d (.int .i64 ((p:Int)+n)),.d (.str ((s.drop p).take n)),.d (.str ((s.drop (p+n)).take m))]=(encTk t).map .d:=by simp [encTk,ht]
    rw [← ht] at hLS
    simp at hbt
    simp [f0,f6,f7,hsm]
    rw [hbt,hbb]
    by_cases hk:k'=0
    · rw [if_pos hk] at hLS
      have hLS':LS=([]++[t],0,0):=by rw [hLS]; simp [combL]
      subst hk
      simp
      exact hfin _ 0 t [] (by simpa using hLS') (by simp)
    · rw [if_neg hk,← combL_snoc] at hLS
      simp [hk]
      have hm1:=t3 rfl hne
      refine NextM_of (H.length+2) d' (by omega) (by simp) (by omega) ⟨p+n+m,[]++[t],by omega,by omega,?_,by simp,?_⟩
      · simpa using hLS
      · exact ⟨by simp [f0],by simp,.inr ⟨0,t,by simp,by simp,by simp [cut_appk hcl,encTk]⟩⟩
  · have hlt':¬ (p:Int)+n < s.length:=by omega
    have hpn:p+n=s.length:=by omega
    obtain ⟨rfl,h2⟩:=Prod.mk.inj (hnil hpn)
    obtain ⟨rfl,rfl⟩:=Prod.mk.inj h2
    rw [if_neg (by simp)] at hLS
    have hsm:=sub_ok (s:=s) (n:=p+n) (w:=0) (by omega)
    simp only [Int.natCast_add,Int.natCast_zero,Int.add_zero] at hsm
    simp [f0,hlt']
    by_cases h4:4000≤([]:List Tk).length
    case pos =>
     rw [if_pos h4] at hLS
     exact absurd hOK (by rw [hLS]; simp [combL])
    have h4':¬ (4000:Int)≤0:=by omega
    rw [if_neg h4] at hLS
    obtain ⟨t,ht⟩:∃ t:Tk,t=⟨0,p+n,(s.drop p).take n,(s.drop (p+n)).take 0⟩:=⟨_,rfl⟩
    have hbt:([]:List Tk).map encTk++[[.int .i64 0,.int .i64 ((p:Int)+n),.str ((s.drop p).take n),.str ((s.drop (p+n)).take 0)]]=([]++[t]).map encTk:=by
     simp [encTk,ht]
    have hbb:[A.d (.int .i64 0),.d (.int .i64 ((p:Int)+n)),.d (.str ((s.drop p).take n)),.d (.str ((s.drop (p+n)).take 0))]=(encTk t).map .d:=by simp [encTk,ht]
    rw [← ht] at hLS
    rw [if_pos rfl] at hLS
    have hLS':LS=([]++[t],0,0):=by rw [hLS]; simp [combL]
    rw [List.take_zero] at hbt hbb hsm
    simp at hbt
    simp [f0,f6,f7,hsm]
    rw [hbt,hbb]
    exact hfin _ 0 t [] (by simpa using hLS') (by simp)
 ·
  rw [hH']
  simp [f0,f7]
  refine CallK_of' (g1 _) ?_
  simp [f0,f7,hsb]
  rcases Nat.lt_or_ge (p+n) s.length with hlt | hge
  · have hlt':(p:Int)+n < s.length:=by omega
    have hne:s.drop (p+n) ≠ []:=fun q=>by have:=List.drop_eq_nil_iff.1 q; omega
    simp [f0,hlt']
    have g3:=fun H=>g2 H hlt
    simp only [Int.natCast_add] at g3
    refine CallK_of (g3 _) ?_
    rintro _ _ ⟨k',m',rfl,rfl,hx⟩
    by_cases he:e=0
    case neg =>
     rw [if_pos he] at hLS
     exact absurd hOK (by rw [hLS]; simp [combL,he])
    obtain ⟨rfl,hm'⟩:=hx he
    subst hm'
    rw [if_neg (by simp [he])] at hLS
    subst he
    have hsm:=sub_ok (s:=s) (n:=p+n) (w:=m) (by omega)
    simp only [Int.natCast_add] at hsm
    simp [f0]
    by_cases h4:4000≤(acc:List Tk).length
    case pos =>
     rw [if_pos h4] at hLS
     exact absurd hOK (by rw [hLS]; simp [combL])
    have h4':¬ (4000:Int)≤(na:Int)+1:=by omega
    rw [if_neg h4] at hLS
    obtain ⟨t,ht⟩:∃ t:Tk,t=⟨k',p+n,(s.drop p).take n,(s.drop (p+n)).take m⟩:=⟨_,rfl⟩
    have hbt:(acc:List Tk).map encTk++[[.int .i64 k',.int .i64 ((p:Int)+n),.str ((s.drop p).take n),.str ((s.drop (p+n)).take m)]]=(acc++[t]).map encTk:=by
     simp [encTk,ht]
    have hbb:[A.d (.int .i64 k'),.d (.int .i64 ((p:Int)+n)),.d (.str ((s.drop p).take n)),.d (.str ((s.drop (p+n)).take m))]=(encTk t).map .d:=by simp [encTk,ht]
    rw [← ht] at hLS
    have hap:(acc.map encTk).length=na+1:=by simp [hna]
    have htk:(acc.map encTk).take (na+1)=acc.map encTk:=List.take_of_length_le (by omega)
    have hbd:(na+1+1) * 48≤140737488355328:=by omega
    simp [f0,f6,f7,h4',hsm,htk,hap,hna,hbd,-List.map_take,-List.map_append]
    rw [hbt]
    by_cases hk:k'=0
    · rw [if_pos hk] at hLS
      have hLS':LS=(acc++[t],0,0):=by rw [hLS]; simp [combL]
      subst hk
      simp [-List.map_append]
      exact hfin _ (na+1) t0 [_] hLS' (by simp [hna])
    · rw [if_neg hk,← combL_snoc] at hLS
      simp [hk,-List.map_append]
      have hm1:=t3 rfl hne
      refine NextM_of (H.length+2) d' (by omega) (by simp) (by omega) ⟨p+n+m,acc++[t],by omega,by omega,?_,by simp; omega,?_⟩
      · simpa using hLS
      · exact ⟨by simp [f0],by simp,.inr ⟨na+1,t0,by simp [hna],by simp,by simp [cut_appk hcl,encTk]⟩⟩
  · have hlt':¬ (p:Int)+n < s.length:=by omega
    have hpn:p+n=s.length:=by omega
    obtain ⟨rfl,h2⟩:=Prod.mk.inj (hnil hpn)
    obtain ⟨rfl,rfl⟩:=Prod.mk.inj h2
    rw [if_neg (by simp)] at hLS
    have hsm:=sub_ok (s:=s) (n:=p+n) (w:=0) (by omega)
    simp only [Int.natCast_add,Int.natCast_zero,Int.add_zero] at hsm
    simp [f0,hlt']
    by_cases h4:4000≤(acc:List Tk).length
    case pos =>
     rw [if_pos h4] at hLS
     exact absurd hOK (by rw [hLS]; simp [combL])
    have h4':¬ (4000:Int)≤(na:Int)+1:=by omega
    rw [if_neg h4] at hLS
    obtain ⟨t,ht⟩:∃ t:Tk,t=⟨0,p+n,(s.drop p).take n,(s.drop (p+n)).take 0⟩:=⟨_,rfl⟩
    have hbt:(acc:List Tk).map encTk++[[.int .i64 0,.int .i64 ((p:Int)+n),.str ((s.drop p).take n),.str ((s.drop (p+n)).take 0)]]=(acc++[t]).map encTk:=by
     simp [encTk,ht]
    have hbb:[A.d (.int .i64 0),.d (.int .i64 ((p:Int)+n)),.d (.str ((s.drop p).take n)),.d (.str ((s.drop (p+n)).take 0))]=(encTk t).map .d:=by simp [encTk,ht]
    rw [← ht] at hLS
    rw [if_pos rfl] at hLS
    have hLS':LS=(acc++[t],0,0):=by rw [hLS]; simp [combL]
    rw [List.take_zero] at hbt hbb hsm
    have hap:(acc.map encTk).length=na+1:=by simp [hna]
    have htk:(acc.map encTk).take (na+1)=acc.map encTk:=List.take_of_length_le (by omega)
    have hbd:(na+1+1) * 48≤140737488355328:=by omega
    simp [f0,f6,f7,h4',hsm,htk,hap,hna,hbd,-List.map_take,-List.map_append]
    rw [hbt]
    exact hfin _ (na+1) t0 [_] hLS' (by simp [hna])
end
end
section
theorem N.deep (n:N):∀ x ∈ n.enc,Deep x:=by
 induction n using N.ind with
 | h k f t w a z ks ih =>
 rw [N.enc_mk]
 intro x hx
 simp only [List.mem_cons,List.not_mem_nil,or_false] at hx
 rcases hx with rfl | rfl | rfl | rfl | rfl | rfl
 · exact .leaf rfl
 · exact .leaf rfl
 · exact .leaf rfl
 · exact .leaf rfl
 · exact .leaf rfl
 · refine .sl _ _ _ (fun i r hi => ?_) fun i j r x hi hj => ?_
   · simp only [List.getElem?_map,Option.map_eq_some_iff] at hi
     obtain ⟨m,hm,rfl⟩:=hi
     obtain ⟨k',f',t',w',a',z',ks'⟩:=m
     exact ⟨5,z',6,ks'.map N.enc,by rw [N.enc_mk]; rfl⟩
   · simp only [List.getElem?_map,Option.map_eq_some_iff] at hi
     obtain ⟨m,hm,rfl⟩:=hi
     exact ih m (List.mem_of_getElem? hm) x (List.mem_of_getElem? hj)
theorem tk_leaf (L:List Tk):∀ r ∈ L.map encTk,∀ x ∈ r,x.isSl=false:=by
 intro r hr x hx
 obtain ⟨t,-,rfl⟩:=List.mem_map.1 hr
 simp only [encTk,List.mem_cons,List.not_mem_nil,or_false] at hx
 rcases hx with rfl | rfl | rfl | rfl<;>rfl
theorem N.v_enc (n:N):n.v = .agg (n.enc.map .d):=by
 obtain ⟨k,f,t,w,a,z,ks⟩:=n
 rw [N.v_mk,N.enc_mk]; rfl
theorem box_deep {ty:Nat} {l:List D} (h:∀ x ∈ l,Deep x):ObDeep (.box ty (l.map .d)):=by
 intro c hc
 obtain ⟨x,hx,rfl⟩:=List.mem_map.1 hc
 exact ⟨x,rfl,h x hx⟩
theorem tk_deep (t:Tk):∀ x ∈ encTk t,Deep x:=by
 intro x hx
 simp only [encTk,List.mem_cons,List.not_mem_nil,or_false] at hx
 rcases hx with rfl | rfl | rfl | rfl<;>exact .leaf rfl
theorem ACall.vecFreeze {P:Program} {f:FuncId} {H:Hp} {i k sz e:Nat} {rows:List (List D)} {Q:A→Hp→Prop} (hi:H[i]?=some (.vec sz e k rows)) (hne:rows ≠ [])
 (h:ACall P f [.d (.sl false sz rows)] (H.set i .dead++[.dead]) Q):ACall P f [.vsl i k rows.length] H Q:=by
 intro κ w vs hr hlen hv
 match vs,hlen with
 | [v0],_ =>
 obtain ⟨κs,k1,k2,k3,-⟩:=hr.vecArr2 hi hne
 have a3:=k3 v0 (hv 0 v0 _ rfl rfl)
 obtain ⟨κ2,g1,g2,g3⟩:=k2.freezeArr (i:=H.length) (sz:=sz) (rows:=rows) (by rw [List.getElem?_append_right (by simp)]; simp) a3
 have e1:(H.set i Ob.dead++[Ob.arr sz (rows.map (List.map A.d))]).set H.length Ob.dead=H.set i .dead++[.dead]:=by
  rw [List.set_append_right _ _ (by simp)]; simp
 rw [e1] at g2
 refine (h κ2 w [v0] g2 rfl fun m v a hm ha => ?_).mono ?_
 · cases m with
   | zero=>simp at hm ha; subst hm; subst ha; exact g3
   | succ m=>simp at hm
 · rintro ev w' ⟨v,κ',r,H',q1,q2,q3,q4,q5⟩
   exact ⟨v,κ',r,H',q1,k1.trans (g1.trans q2),q3,q4,q5⟩
section
variable {P:Program}
def nZ:List A:=[.d (.int .i64 0),.d (.int .i64 0),.d (.int .i64 0),.d (.str []),.d (.int .i64 0),.d (.sl true 6 [])]
theorem HasT.ofV {f fl fp tn tt} (h:HasT P [3000035,3000037] f (irR7OfV fl fp tn))
 (hl:∀ (s:Bs),s.length≤1048576→(lexS s).2.1=0→∀ H,ACall P fl [.d (.str s)] H (fun r H'=>∃ (n:Nat) (t0:Tk),(lexS s).1.length=n+1∧r = .tup [.vsl (H.length+1) n (n+1),.d (.int .i64 0),.d (.int .i64 0)]∧H'=H++[.box tt ((encTk t0).map .d),.vec 4 tt n ((lexS s).1.map encTk)]))
 (hp:∀ (z:Bool) (L:List Tk),L.length≤1048576→∀ H,ACall P fp [.d (.sl z 4 (L.map encTk))] H (fun r H'=>r = .tup [(parseP L).1.v,.d (.int .i64 (parseP L).2.1),.d (.int .i64 (parseP L).2.2)]∧H'=H))
 (s:Bs) (hs:s.length≤1048576) (hok:(parseO s).2.2.1=0) (H:Hp) (hHd:∀ x ∈ H,ObDeep x) :
 ACall P f [.d (.str s)] H (fun r H'=>∃ (n:Nat) (t0:Tk),(parseO s).1.length=n+1∧r = .tup [.vsl (H.length+2) n (n+1),(parseO s).2.1.v,.d (.int .i64 0),.d (.int .i64 0)] ∧
  H'=H++[.box tn ((parseO s).2.1.enc.map .d),.box tt ((encTk t0).map .d),.vec 4 tt n ((parseO s).1.map encTk)]):=by
 obtain ⟨fn,hf,hcf⟩:=h
 refine acall_fink 3 hf hcf (by simp [irR7OfV]) fun hcl _ => ?_
 have hO:parseO s=if (lexS s).2.1 ≠ 0 then ([],N.none,(lexS s).2.1,(lexS s).2.2)
  else if (parseP (lexS s).1).2.1 ≠ 0 then ([],N.none,(parseP (lexS s).1).2.1,match (lexS s).1[(parseP (lexS s).1).2.2.toNat]? with | some t=>(t.a:Int) | none=>0)
  else ((lexS s).1,(parseP (lexS s).1).1,0,0):=rfl
 have he:(lexS s).2.1=0:=by
  by_cases he:(lexS s).2.1=0
  · exact he
  · rw [if_pos he] at hO
    rw [hO] at hok
    exact absurd hok he
 rw [if_neg (by simp [he])] at hO
 have he2:(parseP (lexS s).1).2.1=0:=by
  by_cases he2:(parseP (lexS s).1).2.1=0
  · exact he2
  · rw [if_pos he2] at hO
    rw [hO] at hok
    exact absurd hok he2
 rw [if_neg (by simp [he2])] at hO
 have hlk:=(lexS_like (s:=s)) he
 obtain ⟨l1,l2,l3,l4,l5⟩:=hlk
 have g1:=hl s hs he (H++[Ob.box tn nZ])
 have g2:=hp false (lexS s).1 (by omega)
 rw [hO]
 simp only
 generalize (lexS s).1=L at g1 g2 l2 l3 l4 l5 he2 ⊢
 generalize parseP L=PS at g2 he2 ⊢
 obtain ⟨m,e2,b2⟩:=PS
 simp only at he2 g2 ⊢
 subst he2
 have hzd:ObDeep (.box tn nZ):=by
  have:=box_deep (ty:=tn) (l:=[.int .i64 0,.int .i64 0,.int .i64 0,.str [],.int .i64 0,.sl true 6 []]) (by
   intro x hx
   simp only [List.mem_cons,List.not_mem_nil,or_false] at hx
   rcases hx with rfl | rfl | rfl | rfl | rfl | rfl
   · exact .leaf rfl
   · exact .leaf rfl
   · exact .leaf rfl
   · exact .leaf rfl
   · exact .leaf rfl
   · exact .sl _ _ _ (by simp) (by simp))
  exact this
 unfold nZ at g1 hzd
 simp [irR7OfV]
 refine CallK_of g1 ?_
 rintro _ _ ⟨n,t0,hn,rfl,rfl⟩
 have gb:ACall P fp [.vsl (H.length+1+1) n (L.map encTk).length] (H++[Ob.box tn nZ,.box tt ((encTk t0).map .d),.vec 4 tt n (L.map encTk)]) _ :=
  ACall.borrow (i:=H.length+1+1) (R := .tup [m.v,.d (.int .i64 0),.d (.int .i64 b2)]) (by rw [Nat.add_assoc,getElem?_appk]; rfl) (by intro e; rw [List.map_eq_nil_iff] at e; rw [e] at hn; cases hn) (by decide) (by decide) (tk_leaf L)
   (fun j x hj hx => ?_) (.tup _ fun a ha => ?_) g2
 rotate_left
 · by_cases hjl:j < H.length
   · rw [List.getElem?_append_left hjl] at hx
     exact hHd x (List.mem_of_getElem? hx)
   · obtain ⟨q,rfl⟩:∃ q,j=H.length+q:=⟨j - H.length,by omega⟩
     rw [getElem?_appk] at hx
     match q with
     | 0=>cases hx; exact hzd
     | 1=>cases hx; exact box_deep (tk_deep t0)
     | 2=>exact absurd rfl hj
     | q+3=>simp at hx
 · simp only [List.mem_cons,List.not_mem_nil,or_false] at ha
   rcases ha with rfl | rfl | rfl
   · rw [N.v_enc]
     refine .agg _ fun c hc => ?_
     obtain ⟨x,hx,rfl⟩:=List.mem_map.1 hc
     exact .d (N.deep m x hx)
   · exact .d (.leaf rfl)
   · exact .d (.leaf rfl)
 rw [List.length_map,hn] at gb
 unfold nZ at gb
 simp
 refine CallK_of' gb ?_
 obtain ⟨k,f',t,w,a,z,ks⟩:=m
 rw [N.v_mk]
 simp
 simp [RetK,cut_appk hcl,encTk,N.enc_mk,N.v_mk,hn]
 exact ⟨t0,rfl,rfl,rfl,rfl⟩
end
end
end Go.Zam
namespace Go.Proofs.Zs
section
open Go Go.Zam Go.Proofs
def allI (S:SM):Nat→List Int
 | 0=>[]
 | k+1=>allI S k++isort (usesL S k)
theorem allI_perm (S:SM):∀ k,(allI S k).Perm (allUses S k)
 | 0=>List.Perm.refl _
 | k+1=>(allI_perm S k).append (isort_perm _)
theorem allUses_le (S:SM):∀ (k d:Nat),∃ r,allUses S (k+d)=allUses S k++r
 | k,0=>⟨[],by simp⟩
 | k, d + 1 => by
   obtain ⟨r,hr⟩:=allUses_le S k d
   exact ⟨r++usesL S (k+d),by rw [← Nat.add_assoc,allUses,hr,List.append_assoc]⟩
theorem allI_nodup {S:SM} (h:(allUses S S.bs.length).Nodup) {k:Nat} (hk:k≤S.bs.length):(allI S k).Nodup:=by
 obtain ⟨r,hr⟩:=allUses_le S k (S.bs.length - k)
 rw [Nat.add_sub_cancel' hk] at hr
 rw [hr] at h
 exact (allI_perm S k).nodup_iff.2 (List.nodup_append.1 h).1
theorem renL_snoc (name:Bs) (t:Int):∀ (l:List Int) (L:List Tk),renL name (l++[t]) L=setX (renL name l L) t.toNat name
 | [],L=>rfl
 | x :: l,L=>by rw [List.cons_append,renL,renL,renL_snoc name t l]
def seenM (l:List Int):List (D × A):=l.map fun t=>(.int .i64 t,.d (.bool true))
theorem seenM_ok (l:List Int) (t:Int):mpOk (.int .i64 0) (.int .i64 t) (seenM l)=true:=by
 simp [mpOk,keyOf,seenM]
theorem seenM_none:∀ {l:List Int} {t:Int},t ∉ l→mpGet (.int .i64 t) (seenM l)=none
 | [],_,_=>rfl
 | x :: l, t, h => by
   simp only [List.mem_cons,not_or] at h
   have:=seenM_none h.2
   unfold seenM at this ⊢
   rw [List.map_cons,mpGet]
   simp [sameK,h.1,this]
theorem seenM_put:∀ {l:List Int} {t:Int},t ∉ l→mpPut (.int .i64 t) (.d (.bool true)) (seenM l)=seenM (l++[t])
 | [],_,_=>rfl
 | x :: l, t, h => by
   simp only [List.mem_cons,not_or] at h
   have:=seenM_put h.2
   unfold seenM at this ⊢
   rw [List.map_cons,mpPut,this]
   simp [sameK,h.1]
theorem seenM_clr (l:List Int) (n:Nat):(Ob.mp (seenM l)).clr n = .mp (seenM l):=by
 simp [seenM,Ob.clr,A.clr0]
theorem namesF {s:Bs} (h:(parseO s).2.2.1=0):(allUses (scopeM (parseO s).2.1) (scopeM (parseO s).2.1).bs.length).Nodup ∧
 (∀ q,q < (scopeM (parseO s).2.1).bs.length→∀ t ∈ usesL (scopeM (parseO s).2.1) q,0≤t∧t < ((parseO s).1.length:Int)) ∧
 (∀ q,q < (scopeM (parseO s).2.1).bs.length→(scopeM (parseO s).2.1).bad=[]→∀ us,(∀ t,t ∈ us ↔ t ∈ usesL (scopeM (parseO s).2.1) q)→∀ name,name ≠ []→(∀ t ∈ (parseO s).1,t.x ≠ name) →
  ∃ n2:N,parseP (renL name us (parseO s).1)=(n2,0,0)∧RS q name (scopeM (parseO s).2.1) (scopeM n2)):=by
 obtain ⟨m,j,h1,h2,-,-,-,hI,hj,hP⟩:=parseO_file h
 rw [h1,h2]
 have hN:=named hI
 have hb:∀ m,(scopeM m).bs=(allR m).bs:=fun m=>by unfold scopeM; rw [all_both]
 have hm:∀ m,(scopeM m).ms=(allR m).ms:=fun m=>by unfold scopeM; rw [all_both]
 have hbad:∀ m,(scopeM m).bad=ssort cBad (allR m).bad:=fun m=>by unfold scopeM; rw [all_both]
 have hu:∀ i,usesL (scopeM m) i=usesL (allR m) i:=fun i=>by unfold usesL; rw [hb,hm]
 have hau:∀ k,allUses (scopeM m) k=allUses (allR m) k:=fun k=>by
  induction k with
  | zero=>rfl
  | succ k ih=>rw [allUses,allUses,ih,hu]
 refine ⟨?_,fun q hq t ht => ?_,fun q hq hbd us hus name hne hno => ?_⟩
 · rw [hau,hb]; exact hN.apart
 · rw [hu] at ht
   rw [hb] at hq
   obtain ⟨a,b,-⟩:=hN.uses_in hI hq ht
   exact ⟨a,by omega⟩
 · rw [hb] at hq
   have hbd':(allR m).bad=[]:=by
    rw [hbad] at hbd
    have:=ssort_length cBad_cmp (allR m).bad
    rw [hbd] at this
    exact List.eq_nil_of_length_eq_zero this.symm
   obtain ⟨g1,g2⟩:=hN.renamed hI (by omega) hP hq hbd' (us:=us) (fun t=>by rw [hus,hu]) ⟨hne,hno⟩
   refine ⟨_,g1,⟨?_,fun j b hjb => ?_,?_,?_⟩⟩
   · rw [hb,hb]; exact g2.len
   · rw [hb] at hjb ⊢; exact g2.at_ j b hjb
   · rw [hm,hm]; exact g2.ms
   · rw [hbad,g2.bad]; rfl
end
section
open Go Go.Zam Go.Proofs
def ir5 : IFn := { nt := 192, res := [.t 6], body := ( .seq (.ops [⟨some 6,none,.mv (.c (.bool false))⟩] false) (.seq (.ops [⟨some 29,none,.mv (.t 0)⟩,⟨some 30,none,.call 7 [(.t 29)]⟩,⟨some 28,none,.mv (.t 30)⟩,⟨some 31,none,.ext (.t 28) 0⟩,⟨some 32,none,.ext (.t 28) 1⟩,⟨some 33,none,.ext (.t 28) 2⟩,⟨some 34,none,.ext (.t 28) 3⟩,⟨some 8,none,.alloc 25 [(.int .i64 0),(.int .i64 0),(.int .i64 0),(.str []),(.int .i64 0),(.sl true 6 [])]⟩,⟨some 7,none,.mv (.t 31)⟩,⟨none,none,.store 6 (.t 8) (.t 32)⟩,⟨some 9,none,.mv (.t 33)⟩,⟨some 10,none,.mv (.t 34)⟩] false) (.seq (.seq (.ops [⟨some 35,none,.mv (.t 9)⟩,⟨some 36,none,.bin .neq (.t 35) (.c (.int .i64 0))⟩,⟨some 37,none,.mv (.t 36)⟩,⟨some 38,some (37,false),.mv (.t 2)⟩,⟨some 39,some (37,false),.call 13 [(.t 38)]⟩,⟨some 40,some (37,false),.un .not (.t 39)⟩,⟨some 41,none,.pick (.t 37) (.c (.bool true)) (.t 40)⟩] false) (.cond (.t 41) (.seq (.ops [⟨some 42,none,.call 8 []⟩,⟨some 6,none,.mv (.t 42)⟩] false) (.ret)) (.skip))) (.seq (.seq (.ops [⟨some 43,none,.mv (.t 7)⟩,⟨some 44,none,.lenL (.t 43)⟩,⟨some 45,none,.mv (.c (.int .i64 0))⟩] false) (.blk 0 (.loop (.seq (.ops [⟨some 46,none,.bin .lss (.t 45) (.t 44)⟩] false) (.seq (.cond (.t 46) (.skip) (.exit 0)) (.seq (.blk 1 (.seq (.ops [⟨some 47,none,.iaddrV 4 (.t 43) (.t 45)⟩,⟨some 48,none,.loadV 4 true (.t 47)⟩,⟨some 12,none,.alloc 53 [(.int .i64 0),(.int .i64 0),(.str []),(.str [])]⟩,⟨none,none,.store 4 (.t 12) (.t 48)⟩] false) (.seq (.ops [⟨some 49,none,.faddr 3 (.t 12)⟩,⟨some 50,none,.load 1 false (.t 49)⟩,⟨some 51,none,.mv (.t 2)⟩,⟨some 52,none,.bin .eql (.t 50) (.t 51)⟩] false) (.cond (.t 52) (.seq (.ops [⟨some 53,none,.call 8 []⟩,⟨some 6,none,.mv (.t 53)⟩] false) (.ret)) (.skip))))) (.ops [⟨some 54,none,.bin .add (.t 45) (.c (.int .i64 1))⟩,⟨some 45,none,.mv (.t 54)⟩] false))))))) (.seq (.ops [⟨some 55,none,.load 6 true (.t 8)⟩,⟨some 56,none,.call 10 [(.t 55)]⟩,⟨some 13,none,.alloc 34 [(.sl true 4 []),(.sl true 4 []),(.sl true 2 [])]⟩,⟨none,none,.store 3 (.t 13) (.t 56)⟩] false) (.seq (.ops [⟨some 57,none,.mkMap⟩,⟨some 14,none,.mv (.t 57)⟩] false) (.seq (.seq (.ops [⟨some 58,none,.faddr 0 (.t 13)⟩,⟨some 59,none,.load 1 false (.t 58)⟩,⟨some 60,none,.lenL (.t 59)⟩,⟨some 61,none,.mv (.c (.int .i64 0))⟩] false) (.blk 2 (.loop (.seq (.ops [⟨some 62,none,.bin .lss (.t 61) (.t 60)⟩] false) (.seq (.cond (.t 62) (.skip) (.exit 2)) (.seq (.blk 3 (.seq (.ops [⟨some 63,none,.mv (.t 61)⟩,⟨some 15,none,.mv (.t 63)⟩] false) (.seq (.ops [⟨some 64,none,.load 3 true (.t 13)⟩,⟨some 65,none,.mv (.t 15)⟩,⟨some 66,none,.call 14 [(.t 64),(.t 65)]⟩,⟨some 67,none,.lenL (.t 66)⟩,⟨some 68,none,.mv (.c (.int .i64 0))⟩] false) (.blk 4 (.loop (.seq (.ops [⟨some 69,none,.bin .lss (.t 68) (.t 67)⟩] false) (.seq (.cond (.t 69) (.skip) (.exit 4)) (.seq (.blk 5 (.seq (.ops [⟨some 70,none,.iaddr 1 (.t 66) (.t 68)⟩,⟨some 71,none,.load 1 false (.t 70)⟩,⟨some 17,none,.mv (.t 71)⟩] false) (.seq (.seq (.ops [⟨some 72,none,.mv (.t 14)⟩,⟨some 73,none,.mv (.t 17)⟩,⟨some 74,none,.lkp false (.int .i64 0) false [(.bool false)] (.t 72) (.t 73)⟩] false) (.cond (.t 74) (.seq (.ops [⟨some 6,none,.mv (.c (.bool false))⟩] false) (.ret)) (.skip))) (.ops [⟨some 75,none,.mv (.t 14)⟩,⟨some 76,none,.mv (.t 17)⟩,⟨none,none,.mpUpd (.int .i64 0) (.t 75) (.t 76) (.c (.bool true))⟩] false)))) (.ops [⟨some 77,none,.bin .add (.t 68) (.c (.int .i64 1))⟩,⟨some 68,none,.mv (.t 77)⟩] false))))))))) (.ops [⟨some 78,none,.bin .add (.t 61) (.c (.int .i64 1))⟩,⟨some 61,none,.mv (.t 78)⟩] false))))))) (.seq (.seq (.ops [⟨some 79,none,.faddr 0 (.t 13)⟩,⟨some 80,none,.load 1 false (.t 79)⟩,⟨some 81,none,.lenL (.t 80)⟩,⟨some 82,none,.bin .eql (.t 81) (.c (.int .i64 0))⟩,⟨some 83,none,.mv (.t 82)⟩,⟨some 84,some (83,false),.faddr 2 (.t 13)⟩,⟨some 85,some (83,false),.load 1 false (.t 84)⟩,⟨some 86,some (83,false),.lenL (.t 85)⟩,⟨some 87,some (83,false),.bin .gtr (.t 86) (.c (.int .i64 0))⟩,⟨some 88,none,.pick (.t 83) (.c (.bool true)) (.t 87)⟩] false) (.cond (.t 88) (.seq (.ops [⟨some 89,none,.call 8 []⟩,⟨some 6,none,.mv (.t 89)⟩] false) (.ret)) (.skip))) (.seq (.ops [⟨some 90,none,.mv (.t 1)⟩,⟨some 91,none,.cvt .i64 (.t 90)⟩,⟨some 92,none,.faddr 0 (.t 13)⟩,⟨some 93,none,.load 1 false (.t 92)⟩,⟨some 94,none,.lenL (.t 93)⟩,⟨some 95,none,.bin .rem (.t 91) (.t 94)⟩,⟨some 18,none,.mv (.t 95)⟩] false) (.seq (.seq (.ops [⟨some 96,none,.load 3 true (.t 13)⟩,⟨some 97,none,.mv (.t 18)⟩,⟨some 98,none,.call 14 [(.t 96),(.t 97)]⟩,⟨some 99,none,.lenL (.t 98)⟩,⟨some 100,none,.mv (.c (.int .i64 0))⟩] false) (.blk 6 (.loop (.seq (.ops [⟨some 101,none,.bin .lss (.t 100) (.t 99)⟩] false) (.seq (.cond (.t 101) (.skip) (.exit 6)) (.seq (.blk 7 (.seq (.ops [⟨some 102,none,.iaddr 1 (.t 98) (.t 100)⟩,⟨some 103,none,.load 1 false (.t 102)⟩,⟨some 20,none,.mv (.t 103)⟩] false) (.seq (.seq (.ops [⟨some 104,none,.mv (.t 20)⟩,⟨some 105,none,.bin .lss (.t 104) (.c (.int .i64 0))⟩,⟨some 106,none,.mv (.t 105)⟩,⟨some 107,some (106,false),.mv (.t 20)⟩,⟨some 108,some (106,false),.mv (.t 7)⟩,⟨some 109,some (106,false),.lenL (.t 108)⟩,⟨some 110,some (106,false),.bin .geq (.t 107) (.t 109)⟩,⟨some 111,none,.pick (.t 106) (.c (.bool true)) (.t 110)⟩] false) (.cond (.t 111) (.seq (.ops [⟨some 6,none,.mv (.c (.bool false))⟩] false) (.ret)) (.skip))) (.ops [⟨some 112,none,.mv (.t 7)⟩,⟨some 113,none,.mv (.t 20)⟩,⟨some 114,none,.mv (.t 2)⟩,⟨some 115,none,.iaddrV 4 (.t 112) (.t 113)⟩,⟨some 116,none,.faddr 3 (.t 115)⟩,⟨none,none,.store 1 (.t 116) (.t 114)⟩] false)))) (.ops [⟨some 117,none,.bin .add (.t 100) (.c (.int .i64 1))⟩,⟨some 100,none,.mv (.t 117)⟩] false))))))) (.seq (.ops [⟨some 119,none,.mv (.t 7)⟩,⟨some 120,none,.call 15 [(.t 119)]⟩,⟨some 118,none,.mv (.t 120)⟩,⟨some 121,none,.ext (.t 118) 0⟩,⟨some 122,none,.ext (.t 118) 1⟩,⟨some 123,none,.ext (.t 118) 2⟩,⟨some 21,none,.alloc 25 [(.int .i64 0),(.int .i64 0),(.int .i64 0),(.str []),(.int .i64 0),(.sl true 6 [])]⟩,⟨none,none,.store 6 (.t 21) (.t 121)⟩,⟨some 22,none,.mv (.t 122)⟩,⟨some 23,none,.mv (.t 123)⟩] false) (.seq (.ops [⟨some 124,none,.load 6 true (.t 21)⟩,⟨some 125,none,.call 10 [(.t 124)]⟩,⟨some 24,none,.alloc 34 [(.sl true 4 []),(.sl true 4 []),(.sl true 2 [])]⟩,⟨none,none,.store 3 (.t 24) (.t 125)⟩] false) (.seq (.seq (.ops [⟨some 126,none,.mv (.t 22)⟩,⟨some 127,none,.bin .neq (.t 126) (.c (.int .i64 0))⟩,⟨some 128,none,.mv (.t 127)⟩,⟨some 129,some (128,false),.faddr 0 (.t 24)⟩,⟨some 130,some (128,false),.load 1 false (.t 129)⟩,⟨some 131,some (128,false),.lenL (.t 130)⟩,⟨some 132,some (128,false),.faddr 0 (.t 13)⟩,⟨some 133,some (128,false),.load 1 false (.t 132)⟩,⟨some 134,some (128,false),.lenL (.t 133)⟩,⟨some 135,some (128,false),.bin .neq (.t 131) (.t 134)⟩,⟨some 136,none,.pick (.t 128) (.c (.bool true)) (.t 135)⟩,⟨some 137,none,.mv (.t 136)⟩,⟨some 138,some (137,false),.faddr 1 (.t 24)⟩,⟨some 139,some (137,false),.load 1 false (.t 138)⟩,⟨some 140,some (137,false),.lenL (.t 139)⟩,⟨some 141,some (137,false),.faddr 1 (.t 13)⟩,⟨some 142,some (137,false),.load 1 false (.t 141)⟩,⟨some 143,some (137,false),.lenL (.t 142)⟩,⟨some 144,some (137,false),.bin .neq (.t 140) (.t 143)⟩,⟨some 145,none,.pick (.t 137) (.c (.bool true)) (.t 144)⟩,⟨some 146,none,.mv (.t 145)⟩,⟨some 147,some (146,false),.faddr 2 (.t 24)⟩,⟨some 148,some (146,false),.load 1 false (.t 147)⟩,⟨some 149,some (146,false),.lenL (.t 148)⟩,⟨some 150,some (146,false),.bin .neq (.t 149) (.c (.int .i64 0))⟩,⟨some 151,none,.pick (.t 146) (.c (.bool true)) (.t 150)⟩] false) (.cond (.t 151) (.seq (.ops [⟨some 6,none,.mv (.c (.bool false))⟩] false) (.ret)) (.skip))) (.seq (.seq (.ops [⟨some 152,none,.faddr 0 (.t 13)⟩,⟨some 153,none,.load 1 false (.t 152)⟩,⟨some 154,none,.lenL (.t 153)⟩,⟨some 155,none,.mv (.c (.int .i64 0))⟩] false) (.blk 8 (.loop (.seq (.ops [⟨some 156,none,.bin .lss (.t 155) (.t 154)⟩] false) (.seq (.cond (.t 156) (.skip) (.exit 8)) (.seq (.blk 9 (.seq (.ops [⟨some 157,none,.mv (.t 155)⟩,⟨some 158,none,.iaddr 4 (.t 153) (.t 155)⟩,⟨some 159,none,.load 4 true (.t 158)⟩,⟨some 26,none,.alloc 45 [(.int .i64 0),(.int .i64 0),(.str []),(.int .i64 0)]⟩,⟨some 25,none,.mv (.t 157)⟩,⟨none,none,.store 4 (.t 26) (.t 159)⟩] false) (.seq (.seq (.ops [⟨some 160,none,.mv (.t 25)⟩,⟨some 161,none,.mv (.t 18)⟩,⟨some 162,none,.bin .eql (.t 160) (.t 161)⟩] false) (.cond (.t 162) (.ops [⟨some 163,none,.mv (.t 2)⟩,⟨some 164,none,.faddr 2 (.t 26)⟩,⟨none,none,.store 1 (.t 164) (.t 163)⟩] false) (.skip))) (.seq (.ops [⟨some 165,none,.faddr 0 (.t 24)⟩,⟨some 166,none,.load 1 false (.t 165)⟩,⟨some 167,none,.mv (.t 25)⟩,⟨some 168,none,.iaddr 4 (.t 166) (.t 167)⟩,⟨some 169,none,.load 4 true (.t 168)⟩,⟨some 170,none,.load 4 true (.t 26)⟩,⟨some 171,none,.eqA true [(.int .i64 0),(.int .i64 0),(.str []),(.int .i64 0)] (.t 169) (.t 170)⟩] true) (.cond (.t 171) (.seq (.ops [⟨some 6,none,.mv (.c (.bool false))⟩] false) (.ret)) (.skip)))))) (.ops [⟨some 172,none,.bin .add (.t 155) (.c (.int .i64 1))⟩,⟨some 155,none,.mv (.t 172)⟩] false))))))) (.seq (.seq (.ops [⟨some 173,none,.faddr 1 (.t 13)⟩,⟨some 174,none,.load 1 false (.t 173)⟩,⟨some 175,none,.lenL (.t 174)⟩,⟨some 176,none,.mv (.c (.int .i64 0))⟩] false) (.blk 10 (.loop (.seq (.ops [⟨some 177,none,.bin .lss (.t 176) (.t 175)⟩] false) (.seq (.cond (.t 177) (.skip) (.exit 10)) (.seq (.blk 11 (.seq (.ops [⟨some 178,none,.mv (.t 176)⟩,⟨some 27,none,.mv (.t 178)⟩] false) (.seq (.ops [⟨some 179,none,.faddr 1 (.t 24)⟩,⟨some 180,none,.load 1 false (.t 179)⟩,⟨some 181,none,.mv (.t 27)⟩,⟨some 182,none,.iaddr 4 (.t 180) (.t 181)⟩,⟨some 183,none,.load 4 true (.t 182)⟩,⟨some 184,none,.faddr 1 (.t 13)⟩,⟨some 185,none,.load 1 false (.t 184)⟩,⟨some 186,none,.mv (.t 27)⟩,⟨some 187,none,.iaddr 4 (.t 185) (.t 186)⟩,⟨some 188,none,.load 4 true (.t 187)⟩,⟨some 189,none,.eqA true [(.int .i64 0),(.int .i64 0),(.bool false),(.int .i64 0)] (.t 183) (.t 188)⟩] true) (.cond (.t 189) (.seq (.ops [⟨some 6,none,.mv (.c (.bool false))⟩] false) (.ret)) (.skip))))) (.ops [⟨some 190,none,.bin .add (.t 176) (.c (.int .i64 1))⟩,⟨some 176,none,.mv (.t 190)⟩] false))))))) (.seq (.ops [⟨some 191,none,.call 8 []⟩,⟨some 6,none,.mv (.t 191)⟩] false) (.ret))))))))))))))))) }
theorem cf5:compF Try.prog [3000047,3000048,3000115] Try.f5=some ir5:=by kernel_rfl
end
section
open Go Go.Zam Go.Proofs
theorem lexVOk (s:Bs) (hs:s.length≤1048576) (hOK:(lexS s).2.1=0) (H:Hp) :
 ACall Try.prog 17 [.d (.str s)] H (fun r H'=>∃ (n:Nat) (t0:Tk),(lexS s).1.length=n+1∧r = .tup [.vsl (H.length+1) n (n+1),.d (.int .i64 0),.d (.int .i64 0)]∧H'=H++[.box 53 ((encTk t0).map .d),.vec 4 53 n ((lexS s).1.map encTk)]) :=
 HasT.lexV ⟨_,Try.func17,by kernel_rfl⟩
  (fun s H hs=>Has.bad3 ⟨_,Try.func34,rcf34⟩ (fun s n hn hl H=>Has.next3 ⟨_,Try.func54,rcf54⟩ (Has.more3 ⟨_,Try.func78,rcf78⟩) s n hn hl H) s hs H)
  (fun s n hn hl H=>Has.lead4 ⟨_,Try.func35,rcf35⟩ s n hn hl H)
  (fun s n hn hl H=>Has.one4 ⟨_,Try.func36,rcf36⟩ rletterOk rdigitOk risKeyOk (fun s H hs=>Has.unquote3 ⟨_,Try.func55,rcf55⟩ s hs H) s n hn hl H) s hs hOK H
theorem parse7Ok (z:Bool) (L:List Tk) (hL:L.length≤1048576) (H:Hp):ACall Try.prog 15 [.d (.sl z 4 (L.map encTk))] H (fun r H'=>r = .tup [(parseP L).1.v,.d (.int .i64 (parseP L).2.1),.d (.int .i64 (parseP L).2.2)]∧H'=H) :=
 Has.parse7 (R:=Rf) ⟨_,Try.func15,rcf15⟩ rHas ⟨_,Try.func32,rcf32⟩ hL H
theorem ofVOk (s:Bs) (hs:s.length≤1048576) (hok:(parseO s).2.2.1=0) (H:Hp) (hHd:∀ x ∈ H,ObDeep x) :
 ACall Try.prog 7 [.d (.str s)] H (fun r H'=>∃ (n:Nat) (t0:Tk),(parseO s).1.length=n+1∧r = .tup [.vsl (H.length+2) n (n+1),(parseO s).2.1.v,.d (.int .i64 0),.d (.int .i64 0)] ∧
  H'=H++[.box 25 ((parseO s).2.1.enc.map .d),.box 53 ((encTk t0).map .d),.vec 4 53 n ((parseO s).1.map encTk)]) :=
 HasT.ofV (tt:=53) ⟨_,Try.func7,by kernel_rfl⟩ (fun s hs he H=>lexVOk s hs he H) parse7Ok s hs hok H hHd
def rTrue (H:Hp) (fr:Fr) (H':Hp):Prop:=fr 6 = .d (.bool true)∧∃ X,H'=H++X
theorem namesOk (s:Bs) (hs:s.length≤1048576) (v:Int) (hv:0≤v∧v≤255) (name:Bs) (H:Hp) (hHd:∀ x ∈ H,ObDeep x) :
 ACall Try.prog 5 [.d (.str s),.d (.int .u8 v),.d (.str name)] H (fun r H'=>r = .d (.bool true)∧H'=H):=by
 refine acall_fin Try.func5 cf5 (by simp [ir5]) fun hcl _ => ?_
 have haw:=fun X=>awakeOk (H++X)
 have haw0:=awakeOk H
 by_cases hok:(parseO s).2.2.1=0
 case neg =>
  have g:=refOfOk s hs H
  generalize parseO s=O at g hok
  obtain ⟨L,n,e,at_⟩:=O
  simp only at g hok
  obtain ⟨k,f,t,w,q,za,ks,-,he,hv⟩:=node_ex n
  rw [hv] at g
  simp [ir5]
  refine CallK_of' g ?_
  simp [hok]
  refine CallK_of' (haw _) ?_
  simp [RetK,cut_app hcl]
 have g:=ofVOk s hs hok H hHd
 have hz:=parseO_size s
 have hll:(parseO s).1.length≤4001:=by
  obtain ⟨m,j,h1,-,-,-,h5,-,-,-⟩:=parseO_file hok
  rw [h1]
  have:=(lexS_like (s:=s)) h5
  omega
 obtain ⟨F1,F2,F3⟩:=namesF hok
 have hsz:=scopeM_sz (parseO s).2.1
 have g1:=fun X=>scopeOk (parseO s).2.1 (by omega) (H++X)
 generalize scopeM (parseO s).2.1=M at F1 F2 F3 hsz g1
 generalize (parseO s).2.1=n at g g1 hz hsz
 generalize (parseO s).1=L at g hll F2 F3
 have gn:=fun X=>risNameOk name (H++X)
 have hne:isNameB name=true→name ≠ []:=fun h e=>by rw [e] at h; cases h
 generalize isNameB name=isN at gn hne
 have hMsz:M.bs.length≤1048576∧M.ms.length≤1048576:=by unfold SM.sz at hsz; omega
 obtain ⟨hb1,hb2⟩:=hMsz
 have hul:∀ i,(usesL M i).length≤M.ms.length+1:=fun i=>by
  unfold usesL
  have:=List.length_filter_le (fun m:Mn=>decide (m.t=(i:Int))) M.ms
  simp only [List.length_cons,List.length_map]; omega
 have gu:=fun X i hi=>usesOk (S:=M) (z1:=M.bs.isEmpty) (z2:=M.ms.isEmpty) (bad := .sl M.bad.isEmpty 2 (M.bad.map encBad)) (by omega) i hi (H++X)
 simp only [SM.enc,List.map_cons,List.map_nil] at g1
 obtain ⟨k,f,t,w,q,za,ks,-,he,hvv⟩:=node_ex n
 rw [hvv] at g g1
 rw [he] at g
 simp [ir5]
 refine CallK_of g ?_
 rintro _ _ ⟨nn,t0,hnn,rfl,rfl⟩
 obtain ⟨tk0,ta0,tl0,tx0⟩:=t0
 simp only [encTk,List.map_cons,List.map_nil]
 simp
 cases isN with
 | false =>
   refine CallK_of' (gn _) ?_
   simp
   refine CallK_of' (haw _) ?_
   simp [RetK,cut_app hcl]
 | true =>
 have hne:=hne rfl
 refine CallK_of' (gn _) ?_
 simp
 have hfin:∀ fr H',rTrue H fr H'→RetK (fun r H'=>r=A.d (.bool true)∧H'=H) .mk H.length (some (fr 6)) H':=by
  rintro fr H' ⟨f6,X,rfl⟩
  rw [f6]
  simp [RetK,cut_app hcl]
 obtain ⟨bN,hbN⟩:∃ b:Ob,b=Ob.box 25 [.d (.int .i64 k),.d (.int .i64 f),.d (.int .i64 t),.d (.str w),.d (.int .i64 q),.d (.sl za 6 (ks.map N.enc))]:=⟨_,rfl⟩
 obtain ⟨bT,hbT⟩:∃ b:Ob,b=Ob.box 53 [.d (.int .i64 tk0),.d (.int .i64 (ta0:Int)),.d (.str tl0),.d (.str tx0)]:=⟨_,rfl⟩
 have cN:∀ m,bN.clr m=bN:=fun m=>by subst hbN; simp
 have cT:∀ m,bT.clr m=bT:=fun m=>by subst hbT; simp
 obtain ⟨Z,hZ⟩:∃ Z:Hp,Z=[bN,bT,.vec 4 53 nn (L.map encTk),bN]:=⟨_,rfl⟩
 have hc4:∀ X,Hp.cut (H.length+4) (H++(Z++X))=H++Z:=fun X=>by rw [cut_appk hcl]; subst hZ; simp [cN,cT,-Ob.clr]; simp
 have hc4':Hp.cut (H.length+4) (H++Z)=H++Z:=by have:=hc4 []; rwa [List.append_nil] at this
 have lZ:Z.length=4:=by subst hZ; rfl
 have z2:∀ X,(Z++X)[2]?=some (.vec 4 53 nn (L.map encTk)):=fun X=>by subst hZ; rfl
 have z2':=z2 []
 rw [List.append_nil] at z2'
 have z3:∀ X,(Z++X)[3]?=some (Ob.box 25 [.d (.int .i64 k),.d (.int .i64 f),.d (.int .i64 t),.d (.str w),.d (.int .i64 q),.d (.sl za 6 (ks.map N.enc))]):=fun X=>by subst hZ; subst hbN; rfl
 have z3':=z3 []
 rw [List.append_nil] at z3'
 have z4:∀ x X,(Z++x :: X)[4]?=some x:=fun x X=>by subst hZ; rfl
 have s4:∀ x y X,(Z++x :: X).set 4 y=Z++y :: X:=fun x y X=>by subst hZ; rfl
 rw [← hbN,← hbT,← hZ]
 refine LoopK_outR 0 (fun fr H'=>(∀ t ∈ L,t.x ≠ name)∧fr 1 = .d (.int .u8 v)∧fr 2 = .d (.str name)∧fr 7 = .vsl (H.length+2) nn (nn+1)∧fr 8 = .ptr (H.length+3) 0∧H'=H++Z) (rTrue H) ?_ ?_ ?_
 · refine RangeK_of (H.length+4) (nn+1) (fun j fr H'=>(∀ t ∈ L.take j,t.x ≠ name)∧fr 1 = .d (.int .u8 v)∧fr 2 = .d (.str name)∧fr 7 = .vsl (H.length+2) nn (nn+1)∧fr 8 = .ptr (H.length+3) 0∧fr 43 = .vsl (H.length+2) nn (nn+1)∧H'=H++Z) (by omega) (by decide) (by simp [lZ]) (by simp) ?_ ?_ ?_
   · exact ⟨by simp,by simp,by simp,by simp,by simp,by simp,hc4'⟩
   · rintro j fr H' hj fi fn ⟨hno,f1,f2,f7,f8,f43,rfl⟩
     have hjL:j < L.length:=by omega
     have hjr:(L.map encTk)[j]?=some (encTk L[j]):=by rw [List.getElem?_map,List.getElem?_eq_getElem hjL]; rfl
     have htk:L.take (j+1)=L.take j++[L[j]]:=List.take_succ_eq_append_getElem hjL
     generalize L[j]=tj at hjr htk
     obtain ⟨a1,a2,a3,a4⟩:=tj
     simp only [encTk] at hjr
     have hji:(j:Int) < (nn:Int)+1:=by omega
     simp [fi,f43,f2,z2',hji,hjr,z4,s4,lZ,-getElem?_pos]
     refine BrK_split (fun h2 => ?_) (fun h2 => ?_)
     · simp
       refine CallK_of' (haw _) ?_
       simp
       exact ⟨by simp,_,rfl⟩
     · have h2:¬ a4=name:=by simpa using h2
       simp
       refine NextK_of (H.length+4) (Nat.le_refl _) (by simp [lZ,fi,fn]) ?_
       refine ⟨?_,by simp [f1],by simp [f2],by simp [f7],by simp [f8],by simp [f43],hc4 _⟩
       rw [htk]
       intro x hx
       rcases List.mem_append.1 hx with hx | hx
       · exact hno x hx
       · rw [List.mem_singleton.1 hx]; exact h2
   · rintro fr H' fi fn ⟨hno,f1,f2,f7,f8,f43,rfl⟩
     rw [List.take_of_length_le (by omega)] at hno
     simp
     exact ⟨hno,f1,f2,f7,f8⟩
 · intro fr H' h
   exact hfin fr H' h
 · rintro fr H' ⟨hno,f1,f2,f7,f8,rfl⟩
   simp [f8,z3',-getElem?_pos]
   refine CallK_of' (g1 _) ?_
   simp [z4,s4,lZ,-getElem?_pos]
   obtain ⟨bM,hbM⟩:∃ b:Ob,b=Ob.box 34 [.d (.sl M.bs.isEmpty 4 (M.bs.map encBd)),.d (.sl M.ms.isEmpty 4 (M.ms.map encMn)),.d (.sl M.bad.isEmpty 2 (M.bad.map encBad))]:=⟨_,rfl⟩
   have cM:∀ m,bM.clr m=bM:=fun m=>by subst hbM; simp
   rw [← hbM]
   obtain ⟨W,hW⟩:∃ W:Hp,W=Z++[bM]:=⟨_,rfl⟩
   have hWX:∀ X,Z++bM :: X=W++X:=fun X=>by rw [hW]; simp
   have lW:W.length=5:=by rw [hW]; simp [lZ]
   have w4:∀ X,(W++X)[4]?=some (Ob.box 34 [.d (.sl M.bs.isEmpty 4 (M.bs.map encBd)),.d (.sl M.ms.isEmpty 4 (M.ms.map encMn)),.d (.sl M.bad.isEmpty 2 (M.bad.map encBad))]):=fun X=>by subst hW; subst hZ; subst hbM; rfl
   have w5:∀ x X,(W++x :: X)[5]?=some x:=fun x X=>by subst hW; subst hZ; rfl
   have sw5:∀ x y X,(W++x :: X).set 5 y=W++y :: X:=fun x y X=>by subst hW; subst hZ; rfl
   have hc6:∀ l X,Hp.cut (H.length+6) (H++(W++(Ob.mp (seenM l) :: X)))=H++(W++[.mp (seenM l)]):=fun l X=>by
    rw [cut_appk hcl]; subst hW; subst hZ; simp [cN,cT,cM,seenM_clr,-Ob.clr]; simp
   rw [hWX]
   have hs0:(Ob.mp []:Ob) = .mp (seenM []):=rfl
   rw [hs0]
   refine LoopK_out 2 (fun fr H'=>fr 1 = .d (.int .u8 v)∧fr 2 = .d (.str name)∧fr 7 = .vsl (H.length+2) nn (nn+1)∧fr 13 = .ptr (H.length+4) 0∧∃ l,H'=H++(W++[.mp (seenM l)])) ?_ ?_
   · refine RangeK_of (H.length+6) M.bs.length (fun k fr H'=>fr 1 = .d (.int .u8 v)∧fr 2 = .d (.str name)∧fr 7 = .vsl (H.length+2) nn (nn+1)∧fr 13 = .ptr (H.length+4) 0∧fr 14 = .map (H.length+5)∧H'=H++(W++[.mp (seenM (allI M k))])) (by omega) (by decide) (by simp [lW]) (by simp) ?_ ?_ ?_
     · exact ⟨by simp [f1],by simp [f2],by simp [f7],by simp,by simp,hc6 [] []⟩
     · rintro k fr H' hk fi fn ⟨f1,f2,f7,f13,f14,rfl⟩
       have guk:=fun X=>gu X k hk
       have hU:=hul k
       have hnd:=allI_nodup F1 (show k+1≤M.bs.length by omega)
       have hI:allI M (k+1)=allI M k++isort (usesL M k):=rfl
       rw [← isort_len] at hU
       rw [hI] at hnd
       generalize isort (usesL M k)=U at guk hU hnd hI
       simp [fi,f13,f14,w4,lW,-getElem?_pos]
       refine CallK_of' (guk _) ?_
       simp
       refine LoopK_out 4 (fun fr H'=>fr 1 = .d (.int .u8 v)∧fr 2 = .d (.str name)∧fr 7 = .vsl (H.length+2) nn (nn+1)∧fr 13 = .ptr (H.length+4) 0∧fr 14 = .map (H.length+5)∧fr 60 = .d (.int .i64 (M.bs.length:Int))∧fr 61 = .d (.int .i64 (k:Int))∧H'=H++(W++[.mp (seenM (allI M (k+1)))])) ?_ ?_
       · refine RangeK_of (H.length+6) U.length (fun i fr H'=>fr 1 = .d (.int .u8 v)∧fr 2 = .d (.str name)∧fr 7 = .vsl (H.length+2) nn (nn+1)∧fr 13 = .ptr (H.length+4) 0∧fr 14 = .map (H.length+5)∧fr 60 = .d (.int .i64 (M.bs.length:Int))∧fr 61 = .d (.int .i64 (k:Int)) ∧
          fr 66 = .d (.sl false 1 (U.map Go.Zam.encI))∧H'=H++(W++[.mp (seenM (allI M k++U.take i))])) (by omega) (by decide) (by simp [lW]) (by simp) ?_ ?_ ?_
         · exact ⟨by simp [f1],by simp [f2],by simp [f7],by simp [f13],by simp [f14],by simp [fn],by simp [fi],by simp,by rw [List.take_zero,List.append_nil]; exact hc6 _ []⟩
         · rintro i fr H' hi gi gn ⟨f1,f2,f7,f13,f14,f60,f61,f66,rfl⟩
           have hri:=rowAt_map Go.Zam.encI hi
           have htk:U.take (i+1)=U.take i++[U[i]]:=List.take_succ_eq_append_getElem hi
           have hx:U[i] ∉ allI M k++U.take i:=by
            rw [← List.take_append_drop i U,List.drop_eq_getElem_cons hi,← List.append_assoc] at hnd
            intro h
            exact (List.nodup_append.1 hnd).2.2 _ h _ (List.mem_cons_self ..) rfl
           generalize U[i]=x at hri htk hx
           simp only [Go.Zam.encI] at hri
           generalize U.take i=T at hx htk
           have hput:=seenM_put hx
           have hget:=seenM_none hx
           have hokk:=seenM_ok (allI M k++T) x
           simp [gi,f66,f14,hri,w5,sw5,lW,hput,hget,hokk,-mpOk,-mpGet,-mpPut,-getElem?_pos]
           refine NextK_of (H.length+6) (Nat.le_refl _) (by simp [lW,gi,gn]) ?_
           rw [htk,← List.append_assoc]
           exact ⟨by simp [f1],by simp [f2],by simp [f7],by simp [f13],by simp [f14],by simp [f60],by simp [f61],by simp [f66],by simpa using hc6 (allI M k++(T++[x])) []⟩
         · rintro fr H' gi gn ⟨f1,f2,f7,f13,f14,f60,f61,f66,rfl⟩
           rw [List.take_length,← hI]
           simp
           exact ⟨f1,f2,f7,f13,f14,f60,f61⟩
       · rintro fr H' ⟨f1,f2,f7,f13,f14,f60,f61,rfl⟩
         simp
         refine NextK_of (H.length+6) (Nat.le_refl _) (by simp [lW,f60,f61]) ?_
         exact ⟨by simp [f1],by simp [f2],by simp [f7],by simp [f13],by simp [f14],hc6 _ []⟩
     · rintro fr H' fi fn ⟨f1,f2,f7,f13,f14,rfl⟩
       simp
       exact ⟨f1,f2,f7,f13,_,rfl⟩
   · rintro fr H' ⟨f1,f2,f7,f13,lS,rfl⟩
     have hawR:∀ X:Hp,RetK (fun r H'=>r=A.d (.bool true)∧H'=H) .mk H.length (some (A.d (.bool true))) (H++X):=fun X=>by simp [RetK,cut_app hcl]
     by_cases hb0:M.bs.length=0
     · have hb0':(M.bs.length:Int)=0:=by omega
       simp [f13,w4,hb0',-getElem?_pos]
       refine CallK_of' (haw _) ?_
       simp
       exact hawR _
     by_cases hbd:M.bad.length=0
     case neg =>
      have hbd':(0:Int) < M.bad.length:=by omega
      have hb0':¬ (M.bs.length:Int)=0:=by omega
      have hbs0:¬ M.bs=[]:=fun e=>hb0 (by rw [e]; rfl)
      have hbd0:¬ M.bad=[]:=fun e=>hbd (by rw [e]; rfl)
      simp [f13,w4,hb0',hbd',hbs0,hbd0,List.length_pos_iff,-getElem?_pos]
      refine CallK_of' (haw _) ?_
      simp
      exact hawR _
     have hbe:M.bad=[]:=List.eq_nil_of_length_eq_zero hbd
     have hb0':¬ (M.bs.length:Int)=0:=by omega
     obtain ⟨q,hq,hqv⟩:∃ q:Nat,q < M.bs.length∧v.tmod (M.bs.length:Int)=(q:Int):=by
      obtain ⟨vn,rfl⟩:∃ vn:Nat,v=(vn:Int):=⟨v.toNat,by omega⟩
      exact ⟨vn % M.bs.length,Nat.mod_lt _ (by omega),by rw [← Int.ofNat_tmod]⟩
     have hwv:IntKind.i64.wrap v=v:=wrap_i64 (by omega) (by omega)
     have guq:=fun X=>gu X q hq
     have hbs0:¬ M.bs=[]:=fun e=>hb0 (by rw [e]; rfl)
     simp only [hbe,List.isEmpty_nil,List.map_nil] at guq
     have hus:∀ t,t ∈ isort (usesL M q) ↔ t ∈ usesL M q:=fun t=>(isort_perm _).mem_iff
     have hFq:=F2 q hq
     have hUl:(isort (usesL M q)).length≤M.ms.length+1:=by rw [isort_len]; exact hul q
     obtain ⟨n2,hp2,hRS⟩:=F3 q hq hbe (isort (usesL M q)) hus name hne hno
     generalize isort (usesL M q)=U at guq hus hUl hp2
     have hp7:=fun H=>parse7Ok false (renL name U L) (by rw [renL_len]; omega) H
     have hsz2:=parseP_size (renL name U L)
     rw [renL_len] at hsz2
     rw [hp2] at hp7 hsz2
     simp only at hp7 hsz2
     simp [f13,f1,w4,hb0',hbs0,hbe,hwv,hqv,-getElem?_pos]
     refine CallK_of' (guq _) ?_
     simp
     obtain ⟨V,hV⟩:∃ V:List Tk→Hp,V=fun L=>[bN,bT,.vec 4 53 nn (L.map encTk),bN,bM,.mp (seenM lS)]:=⟨_,rfl⟩
     have hWV:W++[Ob.mp (seenM lS)]=V L:=by subst hV; subst hW; subst hZ; rfl
     have lV:∀ L,(V L).length=6:=fun L=>by subst hV; rfl
     have v2:∀ L,(V L)[2]?=some (.vec 4 53 nn (L.map encTk)):=fun L=>by subst hV; rfl
     have sv2:∀ L L',(V L).set 2 (.vec 4 53 nn (L'.map encTk))=V L':=fun L L'=>by subst hV; rfl
     have hcV:∀ L,Hp.cut (H.length+6) (H++V L)=H++V L:=fun L=>by rw [cut_appk hcl]; subst hV; simp [cN,cT,cM,seenM_clr,-Ob.clr]; simp
     rw [hWV]
     refine LoopK_out 6 (fun fr H'=>fr 2 = .d (.str name)∧fr 7 = .vsl (H.length+2) nn (nn+1)∧fr 13 = .ptr (H.length+4) 0∧fr 18 = .d (.int .i64 (q:Int))∧H'=H++V (renL name U L)) ?_ ?_
     · refine RangeK_of (H.length+6) U.length (fun j fr H'=>fr 2 = .d (.str name)∧fr 7 = .vsl (H.length+2) nn (nn+1)∧fr 13 = .ptr (H.length+4) 0∧fr 18 = .d (.int .i64 (q:Int))∧fr 98 = .d (.sl false 1 (U.map Go.Zam.encI))∧H'=H++V (renL name (U.take j) L)) (by omega) (by decide) (by simp [lV]) (by simp) ?_ ?_ ?_
       · exact ⟨by simp [f2],by simp [f7],by simp [f13],by simp,by simp,hcV L⟩
       · rintro j fr H' hj gi gn ⟨f2,f7,f13,f18,f98,rfl⟩
         have hri:=rowAt_map Go.Zam.encI hj
         have htk:U.take (j+1)=U.take j++[U[j]]:=List.take_succ_eq_append_getElem hj
         have hmem:=hFq _ ((hus _).1 (List.getElem_mem hj))
         generalize U[j]=x at hri htk hmem
         simp only [Go.Zam.encI] at hri
         obtain ⟨xn,rfl⟩:∃ xn:Nat,x=(xn:Int):=⟨x.toNat,by omega⟩
         have hxl:xn < L.length:=by omega
         have hrn:=renL_snoc name (xn:Int) (U.take j) L
         rw [← htk] at hrn
         have hl1:=renL_len name (U.take j) L
         generalize renL name (U.take j) L=L1 at hrn hl1
         simp only [Int.toNat_natCast] at hrn
         have hx1:L1[xn]?=some (L1[xn]'(by omega)):=List.getElem?_eq_getElem _
         generalize (L1[xn]'(by omega))=tk at hx1
         obtain ⟨a1,a2,a3,a4⟩:=tk
         have hrow:(L1.map encTk)[xn]?=some [.int .i64 a1,.int .i64 (a2:Int),.str a3,.str a4]:=by rw [List.getElem?_map,hx1]; rfl
         have hset:(L1.map encTk).set xn [.int .i64 a1,.int .i64 (a2:Int),.str a3,.str name]=(setX L1 xn name).map encTk:=by
          unfold setX
          rw [hx1]
          simp only [List.map_set]
          rfl
         have m1:¬ (xn:Int) < 0:=by omega
         have m2:¬ (nn:Int)+1≤(xn:Int):=by omega
         have m3:(xn:Int) < (nn:Int)+1:=by omega
         simp [gi,f98,f7,f2,hri,m1,m2,m3,v2,hrow,hset,sv2,-getElem?_pos]
         refine NextK_of (H.length+6) (Nat.le_refl _) (by simp [lV,gi,gn]) ?_
         rw [hrn]
         exact ⟨by simp [f2],by simp [f7],by simp [f13],by simp [f18],by simp [f98],hcV _⟩
       · rintro fr H' gi gn ⟨f2,f7,f13,f18,f98,rfl⟩
         rw [List.take_length]
         simp
         exact ⟨f2,f7,f13,f18⟩
     · rintro fr H' ⟨f2,f7,f13,f18,rfl⟩
       have hLl:(renL name U L).length=nn+1:=by rw [renL_len]; exact hnn
       obtain ⟨V',hV'⟩:∃ V':Hp,V'=[bN,bT,.dead,bN,bM,.mp (seenM lS),.dead]:=⟨_,rfl⟩
       have hVV:(H++V (renL name U L)).set (H.length+2) .dead++[.dead]=H++V':=by
        subst hV; subst hV'; simp
       have gP:ACall Try.prog 15 [.vsl (H.length+2) nn ((renL name U L).map encTk).length] (H++V (renL name U L)) (fun r H'=>r = .tup [n2.v,.d (.int .i64 0),.d (.int .i64 0)]∧H'=H++V'):=by
        refine ACall.vecFreeze (sz:=4) (e:=53) (by rw [getElem?_appk]; exact v2 _) (by intro e; rw [List.map_eq_nil_iff] at e; rw [e] at hLl; cases hLl) ?_
        rw [hVV]
        exact hp7 _
       rw [List.length_map,hLl] at gP
       have g2:=fun X=>scopeOk n2 (by omega) (H++X)
       generalize scopeM n2=M2 at g2 hRS
       obtain ⟨bs2,ms2,bad2⟩:=M2
       obtain ⟨r1,r2,r3,r4⟩:=hRS
       simp only at r1 r2 r3 r4
       subst r3
       subst r4
       simp only [SM.enc,List.map_cons,List.map_nil,List.isEmpty_nil] at g2
       obtain ⟨k2,f2',t2,w2,q2,za2,ks2,-,he2,hv2⟩:=node_ex n2
       rw [hv2] at gP g2
       simp [f7]
       refine CallK_of' gP ?_
       simp
       have lV':V'.length=7:=by subst hV'; rfl
       have v4':∀ X,(V'++X)[4]?=some (Ob.box 34 [.d (.sl M.bs.isEmpty 4 (M.bs.map encBd)),.d (.sl M.ms.isEmpty 4 (M.ms.map encMn)),.d (.sl M.bad.isEmpty 2 (M.bad.map encBad))]):=fun X=>by subst hV'; subst hbM; rfl
       have v7':∀ x X,(V'++x :: X)[7]?=some x:=fun x X=>by subst hV'; rfl
       have sv7:∀ x y X,(V'++x :: X).set 7 y=V'++y :: X:=fun x y X=>by subst hV'; rfl
       have v8':∀ x y X,(V'++x :: y :: X)[8]?=some y:=fun x y X=>by subst hV'; rfl
       have sv8:∀ x y u X,(V'++x :: y :: X).set 8 u=V'++x :: u :: X:=fun x y u X=>by subst hV'; rfl
       refine CallK_of' (g2 _) ?_
       simp [lV',v8',sv8,v4',f13,hbe,r1,-getElem?_pos]
       obtain ⟨V9,hV9⟩:∃ V9:Hp,V9=V'++[Ob.box 25 [.d (.int .i64 k2),.d (.int .i64 f2'),.d (.int .i64 t2),.d (.str w2),.d (.int .i64 q2),.d (.sl za2 6 (ks2.map N.enc))],Ob.box 34 [.d (.sl bs2.isEmpty 4 (bs2.map encBd)),.d (.sl M.ms.isEmpty 4 (M.ms.map encMn)),.d (.sl true 2 [])]]:=⟨_,rfl⟩
       rw [← hV9]
       have lV9:V9.length=9:=by rw [hV9]; simp [lV']
       have y4:∀ X,(V9++X)[4]?=some (Ob.box 34 [.d (.sl M.bs.isEmpty 4 (M.bs.map encBd)),.d (.sl M.ms.isEmpty 4 (M.ms.map encMn)),.d (.sl M.bad.isEmpty 2 (M.bad.map encBad))]):=fun X=>by subst hV9; subst hV'; subst hbM; rfl
       have y4':=y4 []
       rw [List.append_nil] at y4'
       have y8:∀ X,(V9++X)[8]?=some (Ob.box 34 [.d (.sl bs2.isEmpty 4 (bs2.map encBd)),.d (.sl M.ms.isEmpty 4 (M.ms.map encMn)),.d (.sl true 2 [])]):=fun X=>by subst hV9; subst hV'; rfl
       have y8':=y8 []
       rw [List.append_nil] at y8'
       have y9:∀ x X,(V9++x :: X)[9]?=some x:=fun x X=>by subst hV9; subst hV'; rfl
       have sy9:∀ x y X,(V9++x :: X).set 9 y=V9++y :: X:=fun x y X=>by subst hV9; subst hV'; rfl
       have hc9:∀ X,Hp.cut (H.length+9) (H++(V9++X))=H++V9:=fun X=>by
        rw [cut_appk hcl]; subst hV9; subst hV'; simp [cN,cT,cM,seenM_clr,-Ob.clr]; simp
       have hc9':Hp.cut (H.length+9) (H++V9)=H++V9:=by have:=hc9 []; rwa [List.append_nil] at this
       refine LoopK_out 8 (fun fr H'=>fr 13 = .ptr (H.length+4) 0∧fr 24 = .ptr (H.length+8) 0∧H'=H++V9) ?_ ?_
       · refine RangeK_of (H.length+9) M.bs.length (fun j fr H'=>fr 2 = .d (.str name)∧fr 13 = .ptr (H.length+4) 0∧fr 18 = .d (.int .i64 (q:Int))∧fr 24 = .ptr (H.length+8) 0∧fr 153 = .d (.sl M.bs.isEmpty 4 (M.bs.map encBd))∧H'=H++V9) (by omega) (by decide) (by simp [lV9]) (by simp) ?_ ?_ ?_
         · exact ⟨by simp [f2],by simp [f13],by simp [f18],by simp,by simp,hc9'⟩
         · rintro j fr H' hj gi gn ⟨f2,f13,f18,f24,f153,rfl⟩
           have hrj:=rowAt_map encBd hj
           have hat:=r2 j M.bs[j] (List.getElem?_eq_getElem hj)
           generalize M.bs[j]=b at hrj hat
           have hr2:=rowAt_get (f:=encBd) hat
           obtain ⟨ba,bk,bw,bi⟩:=b
           simp only [encBd] at hrj
           unfold SBd.as at hr2
           by_cases hjq:j=q
           · subst hjq
             rw [if_pos rfl] at hr2
             simp only [encBd] at hr2
             simp [gi,f153,f2,f18,f24,hrj,hr2,y8,y9,sy9,lV9,eqDs,eqD,-getElem?_pos]
             refine NextK_of (H.length+9) (Nat.le_refl _) (by simp [lV9,gi,gn]) ?_
             exact ⟨by simp [f2],by simp [f13],by simp [f18],by simp [f24],by simp [f153],hc9 _⟩
           · rw [if_neg hjq] at hr2
             simp only [encBd] at hr2
             have hjq':¬ (j:Int)=(q:Int):=by omega
             simp [gi,f153,f2,f18,f24,hrj,hr2,hjq,hjq',y8,y9,sy9,lV9,eqDs,eqD,-getElem?_pos]
             refine NextK_of (H.length+9) (Nat.le_refl _) (by simp [lV9,gi,gn]) ?_
             exact ⟨by simp [f2],by simp [f13],by simp [f18],by simp [f24],by simp [f153],hc9 _⟩
         · rintro fr H' gi gn ⟨f2,f13,f18,f24,f153,rfl⟩
           simp
           exact ⟨f13,f24⟩
       · rintro fr H' ⟨f13,f24,rfl⟩
         simp [f13,y4',-getElem?_pos]
         refine LoopK_out 10 (fun fr H'=>H'=H++V9) ?_ ?_
         · refine RangeK_of (H.length+9) M.ms.length (fun j fr H'=>fr 13 = .ptr (H.length+4) 0∧fr 24 = .ptr (H.length+8) 0∧H'=H++V9) (by omega) (by decide) (by simp [lV9]) (by simp) ?_ ?_ ?_
           · exact ⟨by simp [f13],by simp [f24],hc9'⟩
           · rintro j fr H' hj gi gn ⟨f13,f24,rfl⟩
             have hrj:=rowAt_map encMn hj
             generalize M.ms[j]=m at hrj
             obtain ⟨ma,mt,mw,mf⟩:=m
             simp only [encMn] at hrj
             simp [gi,f13,f24,hrj,y4',y8',lV9,eqDs,eqD,-getElem?_pos]
             refine NextK_of (H.length+9) (Nat.le_refl _) (by simp [lV9,gi,gn]) ?_
             exact ⟨by simp [f13],by simp [f24],hc9'⟩
           · rintro fr H' gi gn ⟨f13,f24,rfl⟩
             simp
         · rintro fr H' rfl
           simp
           refine CallK_of' (haw _) ?_
           simp
           exact hawR _
end
end Go.Proofs.Zs
namespace Go.Zam

section
open Go Go.Proofs Go.Lib
open Go.RowKit (Below)
open Go.ChangeShapes Go.RowKit
theorem arg_str_of {P:Program} {t:TypeId} (hu:P.underlying t=some .string):∀ {n:Nat} {ds:List D} {a:A} (h:Typed P n t ds) (ha:ArgOf P t ds a),∃ s:List UInt8,a = .d (.str s)∧s.length≤D.bulkC ds∧s.length+1≤D.bulkC ds:=by
 intro n ds a h ha
 obtain ⟨x,rfl⟩:=typed_str hu h
 exact ⟨x,argOf_one (by rw [hu]; simp) ha,by simp only [D.bulkC,D.bulk]; omega,by simp only [D.bulkC,D.bulk]; omega⟩
end
end Go.Zam
namespace Go.Proofs.Ytffdeeooocookaa
section
open Go Go.Zam Go.Proofs.Zs
open Go.ChangeShapes Go.WideShapes Go.ChangeAt Go.RowKit
theorem isBulk (H:Type):IsBulk (X:=H) Rows.uptoBulk Rows.uptoBulkAll where
 str:=fun b=>by simp [Rows.uptoBulk]
 bool:=fun b=>by simp [Rows.uptoBulk]
 int:=fun k n=>by simp [Rows.uptoBulk]
 nil:=by simp [Rows.uptoBulk]
 slice:=fun e s=>by simp only [Rows.uptoBulk]; omega
 agg:=fun p=>by simp only [Rows.uptoBulk]; omega
 cons:=fun d r=>by simp only [Rows.uptoBulkAll]; omega
theorem own:ownKnob Try.prog.godebug=none:=by kernel_rfl
theorem laidOut:laidOutB Try.prog=true:=by kernel_rfl
theorem arg_str:∀ {n:Nat} {ds:List D} {a:A} (h:Typed Try.prog n 9 ds) (ha:ArgOf Try.prog 9 ds a),∃ s:List UInt8,a = .d (.str s)∧s.length≤D.bulkC ds∧s.length+1≤D.bulkC ds :=
 @arg_str_of Try.prog 9 Try.underlying9
end
end Go.Proofs.Ytffdeeooocookaa
