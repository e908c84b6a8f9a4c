/-
  Texts of one proof, one behind the other.
-/
import Derived.Test.YthhlbefhanplhaaGreatDoorM3
import Derived.Lib.Bytealg
import Derived.Lib.ParseIntB
import Derived.Lib.DecodeN
import Derived.Shelf.Unicode.DecodeSlow
set_option linter.all false
set_option maxRecDepth 100000
set_option maxHeartbeats 4000000
namespace Go.Zam
section
section
variable {P:Program} {α:Type} {enc : α→List D} {sz:Nat} {c : α → α→Int}
theorem symB_wp (hsz:∀ x,(enc x).length=sz) (hc:Cmp c) {g:A} (hcmp:CmpA P enc c g)
 {H:Hp} {i:Nat} {L p x q:List α} {e : α} {a m b:Int} {fr:Fr} {Q:Ex→Fr→Hp→Prop} (hcl:H.Closed) (hg:∀ k,H.length≤k→g.clr k=g) (sx:Sorted c x) (hL:L=p++(x++(e :: q))) (ha:a=p.length) (hm:m=p.length+x.length)
 (hi:H[i]?=some (arrE enc sz L)) (hbd:L.length≤1099511627776)
 (f0:fr 0 = .msl i 0 L.length) (f1:fr 1 = .d (.int .i64 a)) (f2':fr 2 = .d (.int .i64 m)) (f3':fr 3 = .d (.int .i64 b)) (f4:fr 4=g)
 (hQ:∀ fr:Fr,Q .ret fr (H.set i (arrE enc sz (p++(ssort c (x++[e])++q))))) :
 AWp P H.length (symB sz) Q fr H:=by
 have hil:i < H.length:=(List.getElem?_eq_some_iff.1 hi).1
 have hgs:∀ X:Ob,(H.set i X)[i]?=some X:=fun X=>List.getElem?_set_self hil
 have hLl:p.length+x.length+1+q.length=L.length:=by rw [hL]; simp; omega
 have hE:∀ z : α,(rowE enc z).length=sz:=rowE_length hsz
 have hF:∀ z : α,(∀ u,u ∈ rowE enc z→u.flat=true)=True:=rowE_flat2
 have ge:L[p.length+x.length]?=some e:=get_mid (u:=p++x) (v:=q) (by rw [hL]; simp) (by simp)
 have gx:∀ k,k < x.length→L[p.length+k]?=x[k]?:=fun k hk=>by
  rw [hL,List.getElem?_append_right (by omega),Nat.add_sub_cancel_left,List.getElem?_append_left hk]
 unfold symB
 simp [f0,f1,f2',f3',f4]
 refine LoopK_of H.length (fun fr H'=>∃ s r:Nat,s≤r∧r≤x.length∧(∀ k v,k < s→x[k]?=some v→c v e≤0)∧(∀ k v,r≤k→x[k]?=some v→c e v < 0) ∧
  fr 0 = .msl i 0 L.length∧fr 2 = .d (.int .i64 m)∧fr 4=g ∧
  fr 14 = .d (.int .i64 (a+s))∧fr 15 = .d (.int .i64 (a+r))∧H'=H)
  (fun fr H'=>match fr 14,fr 15 with | .d (.int _ k),.d (.int _ l)=>(l - k).toNat | _,_=>0) (by simp) ?_ ?_
 · refine ⟨0,x.length,by omega,Nat.le_refl _,fun k v h1=>by omega,fun k v h1 h2 => ?_,?_⟩
   · have:=(List.getElem?_eq_some_iff.1 h2).1; omega
   · simp [f0,f1,f2',f4,cut_self hcl,hil,hg,clr_d,clr_msl hil,-A.clr]
     omega
 clear f0 f1 f2' f3' f4
 rintro fr H' ⟨s,r,e2,e3,eA,eB,f0,f2',f4,f14,f15,hH'⟩
 rw [hH']
 simp [f14,f15]
 refine BrK_split (fun h4 => ?_) (fun h4 => ?_)
 · have h4:s < r:=by simp at h4; omega
   have v1:IntKind.i64.wrap (a+s+(a+r))=a+s+(a+r):=wrap_i64 (by omega) (by omega)
   have v2:=half_op (n:=a+s+(a+r)) (by omega) (by omega)
   generalize hk:(s+r) / 2=k
   have hk2:(a+s+(a+r)) / 2=a+k:=by omega
   rw [hk2] at v2
   have v4:IntKind.i64.wrap (a+k+1)=a+k+1:=wrap_i64 (by omega) (by omega)
   obtain ⟨v,hv⟩:∃ v,x[k]?=some v:=⟨_,List.getElem?_eq_getElem (by omega)⟩
   have lv:L[p.length+k]?=some v:=by rw [gx _ (by omega)]; exact hv
   have i1:iaddrA H sz (.msl i 0 L.length) (.d (.int .i64 (a+k)))=some (.aptr i (p.length+k) 0):=arr_iaddr hi (by omega) (by omega)
   have i2:iaddrA H sz (.msl i 0 L.length) (.d (.int .i64 m))=some (.aptr i (p.length+x.length) 0):=arr_iaddr hi (by omega) (by omega)
   have l1:=arr_ld hsz hi lv
   have l2:=arr_ld hsz hi ge
   simp [f0,f2',f4,f14,f15,v1,shr_one,v2,i1,i2,l1,l2,-iaddrA,-ldA,-stA]
   refine hcmp _ e v _ _ ?_
   simp [f0,f4,f14,f15]
   refine BrK_split (fun h5 => ?_) (fun h5 => ?_)
   · have h5:¬ c e v < 0:=by simpa using h5
     simp [f0,f4,f14,f15,v4]
     refine AgainK_of (m:=H.length) (by simp) ⟨k+1,r,by omega,e3,?_,eB,?_⟩ ?_
     · intro k' v' h6 h7
       exact hc.trans _ _ _ (sorted_get hc sx h7 hv (by omega)) (hc.not_lt.1 h5)
     · simp [f0,f2',f4,f14,f15,cut_self hcl,hil,hg,clr_d,clr_msl hil,-A.clr]
       omega
     · simp [f15]; omega
   · have h5:c e v < 0:=by simpa using h5
     simp [f0,f4,f14,f15,v4]
     refine AgainK_of (m:=H.length) (by simp) ⟨s,k,by omega,by omega,eA,?_,?_⟩ ?_
     · intro k' v' h6 h7
       exact hc.lt_le h5 (sorted_get hc sx hv h7 h6)
     · simp [f0,f2',f4,f14,f15,cut_self hcl,hil,hg,clr_d,clr_msl hil,-A.clr]
     · simp [f14]; omega
 · obtain rfl:s=r:=by simp at h4; omega
   have hres:ssort c (x++[e])=x.take s++e :: x.drop s:=by
    have:=ssort_snoc hc (a:=x.take s) (b:=x.drop s) (x:=e) (by simpa using sx) (fun z hz=>by
     obtain ⟨k,hk,rfl⟩:=List.getElem_of_mem hz
     simp only [List.length_take] at hk
     exact eA k _ (by omega) (by rw [List.getElem_take]; exact List.getElem?_eq_getElem (by omega))) (fun z hz=>by
     obtain ⟨k,hk,rfl⟩:=List.getElem_of_mem hz
     simp only [List.length_drop] at hk
     refine eB (s+k) _ (by omega) ?_
     rw [List.getElem_drop]; exact List.getElem?_eq_getElem (by omega))
    simpa using this
   have hts:(x.take s).length=s:=by simp; omega
   generalize hx1:x.take s=x1 at hres hts
   generalize hx2:x.drop s=x2 at hres
   have hx:x=x1++x2:=by rw [← hx1,← hx2,List.take_append_drop]
   have hxl:x.length=x1.length+x2.length:=by rw [hx]; simp
   simp [f0,f2',f4,f14]
   refine LoopK_of H.length (fun fr H'=>∃ u v M,∃ k:Nat,x2=u++v∧M=p++(x1++(u++e :: (v++q)))∧k=p.length+x1.length+u.length ∧
    fr 0 = .msl i 0 L.length∧fr 14 = .d (.int .i64 (a+s))∧fr 17 = .d (.int .i64 (k:Int))∧H'=H.set i (arrE enc sz M))
    (fun fr H'=>match fr 17 with | .d (.int _ k)=>k.toNat | _=>0) (by simp) ?_ ?_
   · refine ⟨x2,[],L,p.length+x1.length+x2.length,by simp,by rw [hL,hx]; simp,rfl,?_⟩
     simp [f0,f2',f4,f14,set_same hi,cut_self hcl,hil,hg,clr_d,clr_msl hil,-A.clr]
     omega
   clear f0 f2' f4 f14 f15
   rintro fr H' ⟨u,v,M,k,huv,hM,hk,f0,f14,f17,hH'⟩
   rw [hH']
   have huvl:u.length+v.length=x2.length:=by rw [huv]; simp
   have hMl:M.length=L.length:=by rw [hM]; simp; omega
   have f17o:=f17
   simp [f14,f17]
   refine BrK_split (fun h5 => ?_) (fun h5 => ?_)
   · have h5:a+s < k:=by simpa using h5
     obtain ⟨u,d,rfl⟩:∃ u' d,u=u'++[d]:=by
      rcases List.eq_nil_or_concat u with h0 | ⟨u',d,h0⟩
      · subst h0; simp at hk; omega
      · exact ⟨u',d,by simpa using h0⟩
     simp only [List.length_append,List.length_singleton] at huvl hk
     have w1:IntKind.i64.wrap ((k:Int) - 1)=k - 1:=wrap_i64 (by omega) (by omega)
     have m1:M=(p++x1++u)++d :: (e :: (v++q)):=by rw [hM]; simp
     have m2:M=(p++x1++u++[d])++e :: (v++q):=by rw [hM]; simp
     have g1:=get_mid (k:=k - 1) m1 (by simp; omega)
     have g2:=get_mid (k:=k) m2 (by simp; omega)
     have i1:∀ M':List α,iaddrA (H.set i (arrE enc sz M')) sz (.msl i 0 L.length) (.d (.int .i64 (k - 1)))=some (.aptr i (k - 1) 0):=fun M'=>arr_iaddr (hgs _) (by omega) (by omega)
     have i2:∀ M':List α,iaddrA (H.set i (arrE enc sz M')) sz (.msl i 0 L.length) (.d (.int .i64 k))=some (.aptr i k 0):=fun M'=>arr_iaddr (hgs _) (by omega) (by omega)
     have l1:=arr_ld hsz (hgs (arrE enc sz M)) g1
     have l2:=arr_ld hsz (hgs (arrE enc sz M)) g2
     have t1:=arr_st hsz (hgs (arrE enc sz M)) (k:=k) (e:=d) (by omega)
     have t2:=arr_st hsz (hgs (arrE enc sz (M.set k d))) (k:=k - 1) (e:=e) (by simp; omega)
     have s1:=set_mid (e':=d) (k:=k) m2 (by simp; omega)
     have m3:M.set k d=(p++x1++u)++d :: (d :: (v++q)):=by rw [s1]; simp
     have s2:=set_mid (e':=e) (k:=k - 1) m3 (by simp; omega)
     rw [List.set_set] at t1 t2
     rw [s2] at t2
     have hj1:((k:Int) - 1)=(k - 1:Nat):=by omega
     simp [f0,f14,f17,w1,i1,i2,l1,l2,t1,t2,hE,hF,-iaddrA,-ldA,-stA,-A.flat]
     refine AgainK_of (m:=H.length) (by simp) ⟨u,d :: v,p++x1++u++e :: (d :: (v++q)),k - 1,by rw [huv]; simp,by simp,by omega,?_⟩ ?_
     · simp [f0,f14,f17,hj1,Hp.cut_set,cut_self hcl,hil,hg,arrE_clr,clr_d,clr_msl hil,-A.clr,-Ob.clr]
     · simp; omega
   · have h5:¬ a+s < k:=by simpa using h5
     obtain rfl:u=[]:=List.eq_nil_of_length_eq_zero (by omega)
     simp only [List.nil_append] at huv
     subst huv
     have hM':M=p++(ssort c (x++[e])++q):=by rw [hM,hres]; simp
     simp [hM']
     exact hQ _
theorem symMerge_step (hsz:∀ x,(enc x).length=sz) (hc:Cmp c) {f f2 f3:FuncId} {fn fn2 fn3:Func} (hf:P.funcs[f]?=some fn) (hcf:compF P [] fn=some (irSymMerge sz f2 f)) (hf2:P.funcs[f2]?=some fn2) (hcf2:compF P [] fn2=some (irRotate f3))
 (hf3:P.funcs[f3]?=some fn3) (hcf3:compF P [] fn3=some (irSwapRange sz)) {g:A} (hcmp:CmpA P enc c g) {n N:Nat} (ih:SymAt P enc sz c f g n N):SymAt P enc sz c f g (n+1) N:=by
 intro H i L p x y q a m b hg0 hN hn hx0 hy0 sx sy hL ha hm hb hi hbd
 have hg:∀ k,H.length≤k→g.clr k=g:=fun k hk=>hg0 k (by omega)
 have hLl:p.length+x.length+y.length+q.length=L.length:=by rw [hL]; simp; omega
 have w1:IntKind.i64.wrap (m - a)=m - a:=wrap_i64 (by omega) (by omega)
 have w2:IntKind.i64.wrap (b - m)=b - m:=wrap_i64 (by omega) (by omega)
 refine acall_fin hf hcf (by simp [irSymMerge]) fun hcl _ => ?_
 simp [irSymMerge,w1]
 refine BrK_split (fun h1 => ?_) (fun h1 => ?_)
 · have h1:m - a=1:=by simpa using h1
   obtain ⟨e,rfl⟩:∃ e,x=[e]:=List.length_eq_one_iff.1 (by omega)
   refine symA_wp hsz hc hcmp (e:=e) (y:=y) (q:=q) (a:=a) (m:=m) (b:=b) hcl hg sy (by simpa using hL) ha (by simpa using hm) (by simpa using hb) hi hbd (by simp) (by simp) (by simp) (by simp) (by simp) fun fr => ?_
   simp [RetK,Hp.cut_set,cut_self hcl,arrE_clr,-Ob.clr]
 simp [w2]
 refine BrK_split (fun h2 => ?_) (fun h2 => ?_)
 · have h2:b - m=1:=by simpa using h2
   obtain ⟨e,rfl⟩:∃ e,y=[e]:=List.length_eq_one_iff.1 (by omega)
   refine symB_wp hsz hc hcmp (e:=e) (x:=x) (q:=q) (a:=a) (m:=m) (b:=b) hcl hg sx (by simpa using hL) ha hm hi hbd (by simp) (by simp) (by simp) (by simp) (by simp) fun fr => ?_
   simp [RetK,Hp.cut_set,cut_self hcl,arrE_clr,-Ob.clr]
 have h1:¬ m - a=1:=by simpa using h1
 have h2:¬ b - m=1:=by simpa using h2
 have w3:IntKind.i64.wrap (a+b)=a+b:=wrap_i64 (by omega) (by omega)
 have w4:=half_op (n:=a+b) (by omega) (by omega)
 have w5:IntKind.i64.wrap ((a+b) / 2+m)=(a+b) / 2+m:=wrap_i64 (by omega) (by omega)
 generalize hh:(x.length+y.length) / 2=h at *
 have hmid:(a+b) / 2=a+h:=by omega
 rw [hmid] at w4 w5
 have wp1:IntKind.i64.wrap (a+h+m - 1)=a+h+m - 1:=wrap_i64 (by omega) (by omega)
 have wnb:IntKind.i64.wrap (a+h+m - b)=a+h+m - b:=wrap_i64 (by omega) (by omega)
 have rest:∀ (fr:Fr) (s0 r0:Nat),s0≤r0→r0≤x.length→r0≤h→h≤s0+y.length→(s0=0∨h=s0+y.length)→(r0=x.length∨r0=h) →
  fr 0 = .msl i 0 L.length→fr 1 = .d (.int .i64 a)→fr 2 = .d (.int .i64 m)→fr 3 = .d (.int .i64 b)→fr 4=g→fr 18 = .d (.int .i64 (a+h))→fr 19 = .d (.int .i64 (a+h+m))→fr 22 = .d (.int .i64 (a+h+m - 1))→fr 20 = .d (.int .i64 (a+s0))→fr 21 = .d (.int .i64 (a+r0)) →
  AWp P H.length (symLoop sz f2 f) (Fin [] H.length fun r' H'=>r' = .tup []∧H'=H.set i (arrE enc sz (p++(ssort c (x++y)++q)))) fr H:=by
  intro fr s0 r0 F1 F2 F3 F4 F5 F6 f0 f1 f2' f3' f4 f18 f19 f22 f20 f21
  refine symLoop_wp hsz hc hcmp (s0:=s0) (r0:=r0) hcl hg sx sy hL ha hm hi hbd F1 F2 F3 F4 f0 f1 f2' f3' f4 f18 f19 f22 f20 f21 ?_
  intro fr s e1 e2 eA eB f0 f1 f2' f3' f4 f18 f19 f20
  have hxs:=List.take_append_drop s x
  have hys:=List.take_append_drop (h - s) y
  have l1:(x.take s).length=s:=by simp; omega
  have l2:(x.drop s).length=x.length - s:=by simp
  have l3:(y.take (h - s)).length=h - s:=by simp; omega
  have l4:(y.drop (h - s)).length=y.length - (h - s):=by simp
  have c1:∀ u ∈ x.drop s,∀ v ∈ y.take (h - s),c v u < 0:=fun u hu v hv=>by
   obtain ⟨ku,hku,rfl⟩:=List.getElem_of_mem hu
   obtain ⟨kv,hkv,rfl⟩:=List.getElem_of_mem hv
   rw [l2] at hku; rw [l3] at hkv
   have hsr:s < r0:=by omega
   obtain ⟨u0,hu0⟩:∃ u,x[s]?=some u:=⟨_,List.getElem?_eq_getElem (by omega)⟩
   obtain ⟨v0,hv0⟩:∃ v,y[h - 1 - s]?=some v:=⟨_,List.getElem?_eq_getElem (by omega)⟩
   have h0:=eB s u0 v0 (Nat.le_refl _) hsr hu0 hv0
   have h3:c u0 (x.drop s)[ku]≤0:=sorted_get hc sx hu0 (j:=s+ku) (by rw [List.getElem_drop]; exact List.getElem?_eq_getElem (by omega)) (by omega)
   have h4:c (y.take (h - s))[kv] v0≤0:=sorted_get hc sy (i:=kv) (by rw [List.getElem_take]; exact List.getElem?_eq_getElem (by omega)) hv0 (by omega)
   exact hc.lt_le (hc.le_lt h4 h0) h3
  have c2:∀ u ∈ x.take s,∀ v ∈ y.drop (h - s),c u v≤0:=fun u hu v hv=>by
   obtain ⟨ku,hku,rfl⟩:=List.getElem_of_mem hu
   obtain ⟨kv,hkv,rfl⟩:=List.getElem_of_mem hv
   rw [l1] at hku; rw [l4] at hkv
   have hsr:s0 < s:=by omega
   obtain ⟨u0,hu0⟩:∃ u,x[s - 1]?=some u:=⟨_,List.getElem?_eq_getElem (by omega)⟩
   obtain ⟨v0,hv0⟩:∃ v,y[h - 1 - (s - 1)]?=some v:=⟨_,List.getElem?_eq_getElem (by omega)⟩
   have h0:=hc.not_lt.1 (eA (s - 1) u0 v0 (by omega) (by omega) hu0 hv0)
   have h3:c (x.take s)[ku] u0≤0:=sorted_get hc sx (i:=ku) (by rw [List.getElem_take]; exact List.getElem?_eq_getElem (by omega)) hu0 (by omega)
   have h4:c v0 (y.drop (h - s))[kv]≤0:=sorted_get hc sy hv0 (j:=h - s+kv) (by rw [List.getElem_drop]; exact List.getElem?_eq_getElem (by omega)) (by omega)
   exact hc.trans _ _ _ (hc.trans _ _ _ h3 h0) h4
  have:=symEnd_wp hsz hc hf2 hcf2 hf3 hcf3 ih (L:=L) (p:=p) (x1:=x.take s) (x2:=x.drop s) (y1:=y.take (h - s)) (y2:=y.drop (h - s)) (q:=q) (a:=a) (m:=m) (b:=b) (h:=h) (s:=s) (fr:=fr) hcl hg0 hN (by omega) (by omega) (by omega) (by rw [hxs]; exact sx) (by rw [hys]; exact sy)
   (by rw [hL,← List.append_assoc (x.take s),hxs,← List.append_assoc (y.take (h - s)),hys]) ha (by omega) (by omega) (by omega) (by omega) (by omega) c1 c2 hi hbd f0 f1 f2' f3' f4 f18 f19 f20
  rw [hxs,hys] at this
  exact this
 simp [w3,shr_one,w4,w5]
 refine BrK_split (fun h3 => ?_) (fun h3 => ?_)
 · have h3:a+h < m:=by simpa using h3
   simp [wnb,wp1]
   have e1:a+h+m - b=a+(h - y.length:Nat):=by omega
   exact rest _ (h - y.length) h (by omega) (by omega) (Nat.le_refl _) (by omega) (.inr (by omega)) (.inr rfl) (by simp) (by simp) (by simp) (by simp) (by simp) (by simp) (by simp) (by simp) (by simp [e1]) (by simp)
 · have h3:¬ a+h < m:=by simpa using h3
   simp [wp1]
   have e1:m=a+(x.length:Int):=by omega
   exact rest _ 0 x.length (by omega) (Nat.le_refl _) (by omega) (by omega) (.inl rfl) (.inl rfl) (by simp) (by simp) (by simp) (by simp) (by simp) (by simp) (by simp) (by simp) (by simp) (by simp [e1])
theorem symMerge_acall (hsz:∀ x,(enc x).length=sz) (hc:Cmp c) {f f2 f3:FuncId} {fn fn2 fn3:Func} (hf:P.funcs[f]?=some fn) (hcf:compF P [] fn=some (irSymMerge sz f2 f)) (hf2:P.funcs[f2]?=some fn2) (hcf2:compF P [] fn2=some (irRotate f3))
 (hf3:P.funcs[f3]?=some fn3) (hcf3:compF P [] fn3=some (irSwapRange sz)) {g:A} (hcmp:CmpA P enc c g) (N:Nat):∀ n,SymAt P enc sz c f g n N
 | 0=>fun H i L p x y q a m b hg0 hN hn hx0=>by omega
 | n+1=>symMerge_step hsz hc hf hcf hf2 hcf2 hf3 hcf3 hcmp (symMerge_acall hsz hc hf hcf hf2 hcf2 hf3 hcf3 hcmp N n)
end
end
section
section
variable {P:Program} {α:Type} {enc : α→List D} {sz:Nat} {c : α → α→Int}
def Blk (c : α → α→Int) (n:Nat) (l:List α):Prop:=∀ j,Sorted c ((l.drop (j * n)).take n)
theorem Sorted.take {l:List α} (h:Sorted c l) (n:Nat):Sorted c (l.take n):=by
 have h':Sorted c (l.take n++l.drop n):=by rwa [List.take_append_drop]
 exact (Sorted.append.1 h').1
theorem Sorted.drop {l:List α} (h:Sorted c l) (n:Nat):Sorted c (l.drop n):=by
 have h':Sorted c (l.take n++l.drop n):=by rwa [List.take_append_drop]
 exact (Sorted.append.1 h').2.1
theorem Blk.append {n k:Nat} {a s:List α} (h:Blk c n a) (hl:a.length=k * n) (hs:Sorted c s) (hsl:s.length≤n):Blk c n (a++s):=fun j=>by
 by_cases hj:j < k
 · have h1:(j+1) * n≤k * n:=Nat.mul_le_mul_right _ hj
   rw [Nat.add_mul] at h1
   rw [List.drop_append_of_le_length (by omega),List.take_append_of_le_length (by simp; omega)]
   exact h j
 · have h1:k * n≤j * n:=Nat.mul_le_mul_right _ (by omega)
   rw [List.drop_append,List.drop_eq_nil_of_le (by omega),List.nil_append]
   exact (hs.drop _).take _
theorem Blk.drop {n:Nat} {a:List α} (h:Blk c n a) (k:Nat):Blk c n (a.drop (k * n)):=fun j=>by
 rw [List.drop_drop,← Nat.add_mul]; exact h _
theorem Blk.nil (n:Nat):Blk c n []:=fun j=>by simp [Sorted]
theorem Blk.first {n:Nat} {a:List α} (h:Blk c n a):Sorted c (a.take n):=by simpa using h 0
theorem Blk.all {n:Nat} {a:List α} (h:Blk c n a) (hl:a.length≤n):Sorted c a:=by
 have:=h.first; rwa [List.take_of_length_le hl] at this
theorem stable_acall (hsz:∀ x,(enc x).length=sz) (hc:Cmp c) {f f1 f2 f3 f4:FuncId} {fn fn1 fn2 fn3 fn4:Func} (hf:P.funcs[f]?=some fn) (hcf:compF P [] fn=some (irStable f1 f2))
 (hf1:P.funcs[f1]?=some fn1) (hcf1:compF P [] fn1=some (irInsertion sz)) (hf2:P.funcs[f2]?=some fn2) (hcf2:compF P [] fn2=some (irSymMerge sz f3 f2)) (hf3:P.funcs[f3]?=some fn3) (hcf3:compF P [] fn3=some (irRotate f4))
 (hf4:P.funcs[f4]?=some fn4) (hcf4:compF P [] fn4=some (irSwapRange sz)) {g:A} (hcmp:CmpA P enc c g)
 {H:Hp} {i:Nat} {L:List α} (hg:∀ m,H.length≤m→g.clr m=g) (hi:H[i]?=some (arrE enc sz L)) (hbd:L.length≤1099511627776) :
 ACall P f [.msl i 0 L.length,.d (.int .i64 L.length),g] H (fun r' H'=>r' = .tup []∧H'=H.set i (arrE enc sz (ssort c L))):=by
 have hil:i < H.length:=(List.getElem?_eq_some_iff.1 hi).1
 have hgs:∀ X:Ob,(H.set i X)[i]?=some X:=fun X=>List.getElem?_set_self hil
 have hins:∀ (M p s q:List α) (a b:Int),M=p++(s++q)→M.length=L.length→a=p.length→b=p.length+s.length →
  ACall P f1 [.msl i 0 L.length,.d (.int .i64 a),.d (.int .i64 b),g] (H.set i (arrE enc sz M)) (fun r' H'=>r' = .tup []∧H'=H.set i (arrE enc sz (p++(ssort c s++q)))):=fun M p s q a b h1 h2 h3 h4=>by
  have:=insertion_acall hsz hc hf1 hcf1 (H:=H.set i (arrE enc sz M)) (i:=i) (g:=g) (fun m hm=>hg m (by simpa using hm)) hcmp h1 h3 h4 (hgs _) (by omega)
  rwa [h2,List.set_set] at this
 have hsym:∀ (M p x y q:List α) (a m b:Int),M=p++(x++(y++q))→M.length=L.length→0 < x.length→0 < y.length→Sorted c x→Sorted c y→a=p.length→m=p.length+x.length→b=p.length+x.length+y.length →
  ACall P f2 [.msl i 0 L.length,.d (.int .i64 a),.d (.int .i64 m),.d (.int .i64 b),g] (H.set i (arrE enc sz M)) (fun r' H'=>r' = .tup []∧H'=H.set i (arrE enc sz (p++(ssort c (x++y)++q)))):=fun M p x y q a m b h1 h2 h3 h4 h5 h6 h7 h8 h9=>by
  have:=symMerge_acall hsz hc hf2 hcf2 hf3 hcf3 hf4 hcf4 hcmp H.length (x.length+y.length) (H.set i (arrE enc sz M)) i M p x y q a m b hg (by simp) (Nat.le_refl _) h3 h4 h5 h6 h1 h7 h8 h9 (hgs _) (by omega)
  rwa [h2,List.set_set] at this
 refine acall_fin hf hcf (by simp [irStable]) fun hcl _ => ?_
 unfold irStable
 refine seq_of (fun fr H'=>H'=H∧fr 0 = .msl i 0 L.length∧fr 1 = .d (.int .i64 L.length)∧fr 2=g∧fr 6 = .d (.int .i64 20)) ?_ ?_
 · simp
 rintro fr H1 ⟨hH1,f0,f1',f2',f6⟩
 rw [hH1]; clear hH1 H1
 refine seq_of (fun fr H'=>H'=H∧fr 0 = .msl i 0 L.length∧fr 1 = .d (.int .i64 L.length)∧fr 2=g∧fr 6 = .d (.int .i64 20)∧fr 7 = .d (.int .i64 0)∧fr 8 = .d (.int .i64 20)) ?_ ?_
 · simp [f0,f1',f2',f6]
 clear f0 f1' f2' f6 fr
 rintro fr H1 ⟨hH1,f0,f1',f2',f6,f7,f8⟩
 rw [hH1]; clear hH1 H1
 refine seq_of (fun fr H'=>∃ done rest:List α,∃ k:Nat,Alk c L (done++rest)∧Blk c 20 done∧done.length=k * 20∧rest.length < 20∧H'=H.set i (arrE enc sz (done++rest))∧fr 0 = .msl i 0 L.length∧fr 1 = .d (.int .i64 L.length)∧fr 2=g∧fr 6 = .d (.int .i64 20)∧fr 7 = .d (.int .i64 (done.length:Int))) ?_ ?_
 · simp
   refine LoopK_of H.length (fun fr H'=>∃ done rest:List α,∃ k:Nat,Alk c L (done++rest)∧Blk c 20 done∧done.length=k * 20∧H'=H.set i (arrE enc sz (done++rest))∧fr 0 = .msl i 0 L.length∧fr 1 = .d (.int .i64 L.length)∧fr 2=g∧fr 6 = .d (.int .i64 20)∧fr 7 = .d (.int .i64 (done.length:Int))∧fr 8 = .d (.int .i64 (done.length+20:Int)))
    (fun fr H'=>match fr 8 with | .d (.int _ k)=>(L.length+20 - k).toNat | _=>0) (by simp) ?_ ?_
   · refine ⟨[],L,0,Alk.refl _,Blk.nil _,by simp,?_⟩
     simp [f0,f1',f2',f6,f7,f8,cut_self hcl,set_same hi,hil,hg,clr_d,clr_msl hil,-A.clr]
   clear f0 f1' f2' f6 f7 f8 fr
   rintro fr H1 ⟨done,rest,k,hal,hbl,hdl,hH1,f0,f1',f2',f6,f7,f8⟩
   rw [hH1]
   have hlen:=(hal.length hc).length_eq
   simp only [List.length_append] at hlen
   simp [f1',f8]
   refine BrK_split (fun h => ?_) (fun h => ?_)
   · have h:20≤rest.length:=by simp at h; omega
     have v1:IntKind.i64.wrap ((done.length:Int)+20+20)=done.length+20+20:=wrap_i64 (by omega) (by omega)
     have hcall:=hins (done++rest) done (rest.take 20) (rest.drop 20) done.length (done.length+20) (by simp) (by simp; omega) rfl (by simp; omega)
     simp [f0,f1',f2',f6,f7,f8]
     refine CallK_of' hcall ?_
     simp [f0,f1',f2',f6,f7,f8,v1]
     obtain ⟨q1,q2⟩:=ssort_spec hc (rest.take 20)
     have hql:=ssort_length hc (rest.take 20)
     simp only [List.length_take] at hql
     refine AgainK_of (m:=H.length) (by simp) ⟨done++ssort c (rest.take 20),rest.drop 20,k+1,?_,hbl.append hdl q1 (by omega),by simp [hql]; omega,?_⟩ ?_
     · refine hal.trans ?_
       have:=(Alk.refl done).append (q2.append (Alk.refl (rest.drop 20)))
       rw [List.take_append_drop] at this
       simpa using this
     · simp [f0,f1',f2',f6,f7,f8,v1,hql,Hp.cut_set,cut_self hcl,arrE_clr,hil,hg,clr_d,clr_msl hil,-A.clr,-Ob.clr]
       omega
     · simp [v1]; omega
   · have h:¬ 20≤rest.length:=by simp at h; omega
     simp
     exact ⟨done,rest,hal,hbl,⟨k,hdl⟩,by omega,rfl,f0,f1',f2',f6,f7⟩
 clear f0 f1' f2' f6 f7 f8 fr
 rintro fr H1 ⟨done,rest,k,hal,hbl,hdl,hrl,hH1,f0,f1',f2',f6,f7⟩
 rw [hH1]; clear hH1 H1
 have hlen:=(hal.length hc).length_eq
 simp only [List.length_append] at hlen
 refine seq_of (fun fr H'=>∃ M:List α,Alk c L M∧Blk c 20 M∧H'=H.set i (arrE enc sz M)∧fr 0 = .msl i 0 L.length∧fr 1 = .d (.int .i64 L.length)∧fr 2=g∧fr 6 = .d (.int .i64 20)) ?_ ?_
 · have hcall:=hins (done++rest) done rest [] done.length L.length (by simp) (by simp; omega) rfl (by omega)
   simp only [List.append_nil] at hcall
   obtain ⟨q1,q2⟩:=ssort_spec hc rest
   have hql:=ssort_length hc rest
   simp [f0,f1',f2',f6,f7]
   refine CallK_of' hcall ?_
   simp [f0,f1',f2',f6,f7]
   exact ⟨_,hal.trans ((Alk.refl done).append q2),hbl.append hdl q1 (by omega),rfl⟩
 clear hal hbl hdl hrl hlen f0 f1' f2' f6 f7
 rintro fr H1 ⟨M,hal,hbl,hH1,f0,f1',f2',f6⟩
 rw [hH1]; clear hH1 H1
 simp
 refine LoopK_of H.length (fun fr H'=>∃ M:List α,∃ n:Nat,0 < n∧n≤2 * L.length+20∧Alk c L M∧Blk c n M∧H'=H.set i (arrE enc sz M)∧fr 0 = .msl i 0 L.length∧fr 1 = .d (.int .i64 L.length)∧fr 2=g∧fr 6 = .d (.int .i64 (n:Int)))
  (fun fr H'=>match fr 6 with | .d (.int _ k)=>(2 * L.length+20 - k).toNat | _=>0) (by simp) ?_ ?_
 · refine ⟨M,20,by omega,by omega,hal,hbl,?_⟩
   simp [f0,f1',f2',f6,Hp.cut_set,cut_self hcl,arrE_clr,hil,hg,clr_d,clr_msl hil,-A.clr,-Ob.clr]
 clear hal hbl f0 f1' f2' f6 fr M
 rintro fr H1 ⟨M,n,hn0,hn1,hal,hbl,hH1,f0,f1',f2',f6⟩
 rw [hH1]; clear hH1 H1
 have hlen:=(hal.length hc).length_eq
 simp [f1',f6]
 refine BrK_split (fun h => ?_) (fun h => ?_)
 · have h:n < L.length:=by simpa using h
   have v0:IntKind.i64.wrap (2 * (n:Int))=2 * n:=wrap_i64 (by omega) (by omega)
   have v00:IntKind.i64.wrap ((n:Int) * 2)=n * 2:=wrap_i64 (by omega) (by omega)
   have f6o:=f6
   simp [f0,f1',f2',f6,v0]
   refine LoopK_of H.length (fun fr H'=>∃ done rest:List α,∃ k:Nat,Alk c L (done++rest)∧Blk c (2 * n) done∧Blk c n rest∧done.length=k * (2 * n)∧H'=H.set i (arrE enc sz (done++rest))∧fr 0 = .msl i 0 L.length∧fr 1 = .d (.int .i64 L.length)∧fr 2=g∧fr 6 = .d (.int .i64 (n:Int))∧fr 7 = .d (.int .i64 (done.length:Int))∧fr 8 = .d (.int .i64 (done.length+2 * n:Int)))
    (fun fr H'=>match fr 8 with | .d (.int _ k)=>(L.length+2 * n - k).toNat | _=>0) (by simp) ?_ ?_
   · refine ⟨[],M,0,hal,Blk.nil _,hbl,by simp,?_⟩
     simp [f0,f1',f2',f6,v0,Hp.cut_set,cut_self hcl,arrE_clr,hil,hg,clr_d,clr_msl hil,-A.clr,-Ob.clr]
   clear hal hbl f0 f1' f2' f6 hlen
   rintro fr H1 ⟨done,rest,k,hal,hbl,hbr,hdl,hH1,f0,f1',f2',f6,f7,f8⟩
   rw [hH1]; clear hH1 H1
   have hlen:=(hal.length hc).length_eq
   simp only [List.length_append] at hlen
   simp [f1',f8]
   have s1:Sorted c (rest.take n):=hbr.first
   have s2:Sorted c ((rest.drop n).take n):=by simpa using hbr 1
   refine BrK_split (fun h2 => ?_) (fun h2 => ?_)
   · have h2:2 * n≤rest.length:=by simp at h2; omega
     have v1:IntKind.i64.wrap ((done.length:Int)+n)=done.length+n:=wrap_i64 (by omega) (by omega)
     have v2:IntKind.i64.wrap ((done.length:Int)+2 * n+2 * n)=done.length+2 * n+2 * n:=wrap_i64 (by omega) (by omega)
     have hcall:=hsym (done++rest) done (rest.take n) ((rest.drop n).take n) ((rest.drop n).drop n) done.length (done.length+n) (done.length+2 * n) (by rw [List.take_append_drop,List.take_append_drop]) (by simp; omega) (by simp; omega) (by simp; omega) s1 s2 rfl (by simp; omega) (by simp; omega)
     simp only [List.drop_drop] at hcall
     have e2:rest.take n++(rest.drop n).take n=rest.take (2 * n):=by rw [Nat.two_mul,List.take_add]
     rw [e2,show n+n=2 * n by omega] at hcall
     simp [f0,f1',f2',f6,f7,f8,v1]
     refine CallK_of' hcall ?_
     simp [f0,f1',f2',f6,f7,f8,v0,v2]
     obtain ⟨q1,q2⟩:=ssort_spec hc (rest.take (2 * n))
     have hql:=ssort_length hc (rest.take (2 * n))
     simp only [List.length_take] at hql
     refine AgainK_of (m:=H.length) (by simp) ⟨done++ssort c (rest.take (2 * n)),rest.drop (2 * n),k+1,?_,hbl.append hdl q1 (by omega),hbr.drop 2,by simp [hql,Nat.add_mul]; omega,?_⟩ ?_
     · refine hal.trans ?_
       have:=(Alk.refl done).append (q2.append (Alk.refl (rest.drop (2 * n))))
       rw [List.take_append_drop] at this
       simpa using this
     · simp [f0,f1',f2',f6,f7,f8,v0,v2,hql,Hp.cut_set,cut_self hcl,arrE_clr,hil,hg,clr_d,clr_msl hil,-A.clr,-Ob.clr]
       omega
     · simp [v0,v2]; omega
   · have h2:¬ 2 * n≤rest.length:=by simp at h2; omega
     have v1:IntKind.i64.wrap ((done.length:Int)+n)=done.length+n:=wrap_i64 (by omega) (by omega)
     simp [f0,f1',f2',f6,f7,f8,v1]
     refine BrK_split (fun h3 => ?_) (fun h3 => ?_)
     · have h3:n < rest.length:=by simp at h3; omega
       rw [List.take_of_length_le (by simp; omega)] at s2
       have hcall:=hsym (done++rest) done (rest.take n) (rest.drop n) [] done.length (done.length+n) L.length (by simp) (by simp; omega) (by simp; omega) (by simp; omega) s1 s2 rfl (by simp; omega) (by simp; omega)
       simp only [List.append_nil,List.take_append_drop] at hcall
       simp [f0,f1',f2',f6,f7,f8]
       refine CallK_of' hcall ?_
       simp [f0,f1',f2',f6,f7,f8,v00]
       obtain ⟨q1,q2⟩:=ssort_spec hc rest
       have hql:=ssort_length hc rest
       refine AgainK_of (m:=H.length) (by simp) ⟨done++ssort c rest,n * 2,by omega,by omega,hal.trans ((Alk.refl done).append q2),by rw [Nat.mul_comm]; exact hbl.append hdl q1 (by omega),?_⟩ ?_
       · simp [f0,f1',f2',f6,f7,f8,v00,Hp.cut_set,cut_self hcl,arrE_clr,hil,hg,clr_d,clr_msl hil,-A.clr,-Ob.clr]
       · simp [v00,f6o]; omega
     · have h3:¬ n < rest.length:=by simp at h3; omega
       simp [f0,f1',f2',f6,f7,f8,v00]
       refine AgainK_of (m:=H.length) (by simp) ⟨done++rest,n * 2,by omega,by omega,hal,by rw [Nat.mul_comm]; exact hbl.append hdl (hbr.all (by omega)) (by omega),?_⟩ ?_
       · simp [f0,f1',f2',f6,f7,f8,v00,Hp.cut_set,cut_self hcl,arrE_clr,hil,hg,clr_d,clr_msl hil,-A.clr,-Ob.clr]
       · simp [v00,f6o]; omega
 · have h:¬ n < L.length:=by simpa using h
   have hM:M=ssort c L:=ssort_uniq hc (hbl.all (by omega)) hal
   simp [RetK,Hp.cut_set,cut_self hcl,arrE_clr,hM,-Ob.clr]
theorem sortStable_acall (hsz:∀ x,(enc x).length=sz) (hc:Cmp c) {f0 f f1 f2 f3 f4:FuncId} {fn0 fn fn1 fn2 fn3 fn4:Func} (hf0:P.funcs[f0]?=some fn0) (hcf0:compF P [] fn0=some (irSortStable f)) (hf:P.funcs[f]?=some fn) (hcf:compF P [] fn=some (irStable f1 f2))
 (hf1:P.funcs[f1]?=some fn1) (hcf1:compF P [] fn1=some (irInsertion sz)) (hf2:P.funcs[f2]?=some fn2) (hcf2:compF P [] fn2=some (irSymMerge sz f3 f2)) (hf3:P.funcs[f3]?=some fn3) (hcf3:compF P [] fn3=some (irRotate f4))
 (hf4:P.funcs[f4]?=some fn4) (hcf4:compF P [] fn4=some (irSwapRange sz)) {g:A} (hcmp:CmpA P enc c g)
 {H:Hp} {i:Nat} {L:List α} (hg:∀ m,H.length≤m→g.clr m=g) (hi:H[i]?=some (arrE enc sz L)) (hbd:L.length≤1099511627776) :
 ACall P f0 [.msl i 0 L.length,g] H (fun r' H'=>r' = .tup []∧H'=H.set i (arrE enc sz (ssort c L))):=by
 refine acall_fin hf0 hcf0 (by simp [irSortStable]) fun hcl _ => ?_
 have:=stable_acall hsz hc hf hcf hf1 hcf1 hf2 hcf2 hf3 hcf3 hf4 hcf4 hcmp hg hi hbd
 simp [irSortStable]
 refine CallK_of' this ?_
 simp [RetK,Hp.cut_set,cut_self hcl,arrE_clr,-Ob.clr]
theorem sortStable0_acall {f0 f f1 f2:FuncId} {fn0 fn fn1:Func} (hf0:P.funcs[f0]?=some fn0) (hcf0:compF P [] fn0=some (irSortStable f)) (hf:P.funcs[f]?=some fn) (hcf:compF P [] fn=some (irStable f1 f2))
 (hf1:P.funcs[f1]?=some fn1) (hcf1:compF P [] fn1=some (irInsertion sz)) {g:A} {z:Bool} {s:Nat} {H:Hp} (hg:∀ m,H.length≤m→g.clr m=g) :
 ACall P f0 [.d (.sl z s []),g] H (fun r' H'=>r' = .tup []∧H'=H):=by
 have h1:ACall P f1 [.d (.sl z s []),.d (.int .i64 0),.d (.int .i64 0),g] H (fun r' H'=>r' = .tup []∧H'=H):=by
  refine acall_fin hf1 hcf1 (by simp [irInsertion]) fun hcl _ => ?_
  have w:IntKind.i64.wrap 1=1:=rfl
  simp [irInsertion,w]
  refine LoopK_of H.length (fun fr H'=>fr 2 = .d (.int .i64 0)∧fr 8 = .d (.int .i64 1)∧H'=H) (fun fr H'=>0) (by simp) (by simp [cut_self hcl,w]) ?_
  rintro fr H' ⟨f2,f8,rfl⟩
  simp [f2,f8]
  simp [RetK,cut_self hcl]
 have h2:ACall P f [.d (.sl z s []),.d (.int .i64 0),g] H (fun r' H'=>r' = .tup []∧H'=H):=by
  refine acall_fin hf hcf (by simp [irStable]) fun hcl _ => ?_
  simp [irStable]
  refine LoopK_of H.length (fun fr H'=>fr 0 = .d (.sl z s [])∧fr 1 = .d (.int .i64 0)∧fr 2=g∧fr 6 = .d (.int .i64 20)∧fr 7 = .d (.int .i64 0)∧fr 8 = .d (.int .i64 20)∧H'=H) (fun fr H'=>0) (by simp) (by simp [cut_self hcl,hg,clr_d,-A.clr]) ?_
  rintro fr H' ⟨f0,f1',f2',f6,f7,f8,rfl⟩
  simp [f0,f1',f2',f6,f7,f8]
  refine CallK_of' h1 ?_
  simp
  refine LoopK_of H'.length (fun fr H1=>fr 1 = .d (.int .i64 0)∧fr 6 = .d (.int .i64 20)∧H1=H') (fun fr H'=>0) (by simp) (by simp [cut_self hcl,f1',f6]) ?_
  rintro fr H1 ⟨f1',f6,rfl⟩
  simp [f1',f6]
  simp [RetK,cut_self hcl]
 refine acall_fin hf0 hcf0 (by simp [irSortStable]) fun hcl _ => ?_
 simp [irSortStable]
 refine CallK_of' h2 ?_
 simp [RetK,cut_self hcl]
theorem cloneM0_acall {bytes e:Nat} {f:FuncId} {fn:Func} (hf:P.funcs[f]?=some fn) (hcf:compF P [1000005] fn=some (irCloneM sz bytes e)) {H:Hp} :
 ACall P f [.d (.sl false sz [])] H (fun r H'=>r = .msl H.length 0 0∧H'=H++[.arr sz []]):=by
 refine acall_fink 1 hf hcf (by simp [irCloneM]) fun hcl _ => ?_
 simp [irCloneM]
 simp [appA]
 simp [RetK,cut_appk hcl]
theorem cloneM_acall {bytes e:Nat} {f:FuncId} {fn:Func} (hf:P.funcs[f]?=some fn) (hcf:compF P [1000005] fn=some (irCloneM sz bytes e)) {H:Hp} {z:Bool} {rows:List (List D)} (hr:rows ≠ []) (hb:rows.length * bytes≤140737488355328) :
 ACall P f [.d (.sl z sz rows)] H (fun r H'=>r = .msl (H.length+1) 0 rows.length∧H'=H++[.arr sz [],.arr sz (rows.map (List.map .d))]):=by
 cases rows with
 | nil=>exact absurd rfl hr
 | cons r rs =>
   refine acall_fink 2 hf hcf (by simp [irCloneM]) fun hcl _ => ?_
   have h1:(z && (r :: rs).isEmpty)=false:=by simp
   have hb':(rs.length+1) * bytes≤140737488355328:=hb
   simp [irCloneM]
   simp [appA,hb']
   simp [RetK,cut_appk hcl,A.clr0]
theorem clone0_acall {bytes e:Nat} {f:FuncId} {fn:Func} (hf:P.funcs[f]?=some fn) (hcf:compF P [1000005] fn=some (irCloneM sz bytes e)) {H:Hp} :
 ACall P f [.d (.sl true sz [])] H (fun r H'=>r = .d (.sl true sz [])∧H'=H):=by
 refine acall_fin hf hcf (by simp [irCloneM]) fun hcl _ => ?_
 simp [irCloneM]
 simp [RetK,cut_self hcl]
end
end
section
def cmpInt (a b:Int):Int:=if a < b then -1 else if b < a then 1 else 0
def cmpStr (a b:List UInt8):Int:=if Op.bytesLess a b then -1 else if Op.bytesLess a b || decide (a=b) then 0 else 1
def orL:List Int→Int
 | []=>0
 | x :: r=>if x=0 then orL r else x
section
variable {P:Program}
theorem compareInt_acall {f f1:FuncId} {fn fn1:Func} (hf:P.funcs[f]?=some fn) (hcf:compF P [] fn=some (irCompare f1)) (hf1:P.funcs[f1]?=some fn1) (hcf1:compF P [] fn1=some irIsNaN) {H:Hp} {k:IntKind} (a b:Int) :
 ACall P f [.d (.int k a),.d (.int k b)] H (fun r H'=>r = .d (.int .i64 (cmpInt a b))∧H'=H):=by
 have hn:∀ x,ACall P f1 [.d (.int k x)] H (fun r H'=>r = .d (.bool false)∧H'=H):=fun x=>by
  refine acall_fin hf1 hcf1 (by simp [irIsNaN]) fun hcl _ => ?_
  simp [irIsNaN]
  simp [RetK,cut_self hcl]
 refine acall_fin hf hcf (by simp [irCompare]) fun hcl _ => ?_
 simp [irCompare]
 refine CallK_of' (hn a) ?_
 simp
 refine CallK_of' (hn b) ?_
 simp
 refine BrK_split (fun h => ?_) (fun h => ?_)
 · simp at h; simp [RetK,cut_self hcl,cmpInt,h]
 · simp
   refine BrK_split (fun h2 => ?_) (fun h2 => ?_)
   · simp at h h2; simp [RetK,cut_self hcl,cmpInt,h2]; omega
   · simp at h h2; simp [RetK,cut_self hcl,cmpInt]; rw [if_neg (by omega),if_neg (by omega)]
theorem orInt_acall {f:FuncId} {fn:Func} (hf:P.funcs[f]?=some fn) (hcf:compF P [] fn=some irOrInt) {H:Hp} {z:Bool} (l:List Int) (hl:l.length≤1073741824) :
 ACall P f [.d (.sl z 1 (l.map fun x=>[.int .i64 x]))] H (fun r H'=>r = .d (.int .i64 (orL l))∧H'=H):=by
 refine acall_fin hf hcf (by simp [irOrInt]) fun hcl _ => ?_
 simp [irOrInt]
 refine LoopK_of H.length (fun fr H'=>∃ pre rest,l=pre++rest∧orL l=orL rest∧fr 3 = .d (.int .i64 0)∧fr 6 = .d (.sl z 1 (l.map fun x=>[.int .i64 x]))∧fr 7 = .d (.int .i64 l.length)∧fr 8 = .d (.int .i64 (pre.length:Int))∧H'=H)
  (fun fr H'=>match fr 8 with | .d (.int _ k)=>(l.length - k).toNat | _=>0) (by simp) ?_ ?_
 · refine ⟨[],l,?_⟩
   simp [cut_self hcl]
 rintro fr H' ⟨pre,rest,hl',ho,f3,f6,f7,f8,hH⟩
 rw [hH]
 simp [f6,f7,f8]
 refine BrK_split (fun h => ?_) (fun h => ?_)
 · obtain ⟨e,r,rfl⟩:∃ e r,rest=e :: r:=by
    cases rest with
    | nil=>simp_all
    | cons e r=>exact ⟨e,r,rfl⟩
   have hr:Zam.rowAt (l.map fun x=>[D.int .i64 x]) pre.length=some [.int .i64 e]:=by rw [hl']; exact rowAt_mid (fun x:Int=>[D.int .i64 x]) _ _ _
   have hpl:pre.length < l.length:=by rw [hl']; simp
   have hw:IntKind.i64.wrap ((pre.length:Int)+1)=pre.length+1:=wrap_i64 (by omega) (by omega)
   simp [f3,f6,f7,f8,hr]
   refine BrK_split (fun h2 => ?_) (fun h2 => ?_)
   · simp at h2
     simp [RetK,cut_self hcl,ho,orL,h2]
   · simp at h2
     simp [f8,hw]
     refine AgainK_of (m:=H.length) (by simp) ⟨pre++[e],r,?_⟩ ?_
     · simp [f3,f6,f7,f8,cut_self hcl]
       exact ⟨hl',by rw [ho,orL,if_pos h2]⟩
     · simp; omega
 · obtain rfl:rest=[]:=by
    cases rest with
    | nil=>rfl
    | cons e r=>exfalso; rw [hl'] at h; simp at h
   simp [f3]
   simp [RetK,cut_self hcl,ho,orL]
end
end
structure Ed where
 f:Int
 t:Int
 s:List UInt8
def encE (e:Ed):List D:=[.int .i64 e.f,.int .i64 e.t,.str e.s]
def soundFrom (n:Int):Int→List Ed→Int
 | _,[]=>0
 | last,e :: r=>if e.f < 0∨e.t < e.f∨n < e.t then 6 else if e.f=e.t∧e.s=[] then 1 else if e.f≤last then 7 else soundFrom n e.t r
def sound (l:List Ed) (n:Int):Int:=if 512 < l.length then 5 else soundFrom n (-1) l
def total:List Ed→Nat
 | []=>0
 | e :: r=>e.s.length+total r
theorem appA_osl {H:Hp} {t sz b e:Nat} {z:Bool} {rows new:List (List D)} (ht:H[t]?=some (.tok rows.length sz e)) (hf:(rows.length+new.length) * b≤140737488355328) :
 appA H sz b e new (.osl z sz rows t)=some (.osl z sz (rows++new) t,H.set t (.tok (rows.length+new.length) sz e)):=by
 simp [appA,ht,hf]
@[simp] theorem byteRows_length (s:List UInt8):(byteRows s).length=s.length:=by simp [byteRows]
def applied (s:List UInt8):Int→List Ed→List UInt8
 | k,[]=>s.drop k.toNat
 | k,e :: r=>(s.drop k.toNat).take (e.f.toNat - k.toNat)++(e.s++applied s e.t r)
def applyS (s:List UInt8) (l:List Ed):List UInt8:=if sound l s.length=0 then applied s 0 l else []
theorem soundFrom_cons {n last:Int} {e:Ed} {r:List Ed} (h:soundFrom n last (e :: r)=0):0≤e.f∧e.f≤e.t∧e.t≤n∧last < e.f∧soundFrom n e.t r=0:=by
 rw [soundFrom] at h
 split at h
 · cases h
 · split at h
   · cases h
   · split at h
     · cases h
     · refine ⟨by omega,by omega,by omega,by omega,h⟩
theorem sound_zero {l:List Ed} {n:Int} (h:sound l n=0):l.length≤512∧soundFrom n (-1) l=0:=by
 unfold sound at h
 split at h
 · cases h
 · exact ⟨by omega,h⟩
theorem subL_ok {α:Type} {s:List α} {a b:Int} (h:0≤a∧a≤b∧b≤s.length):subL s a b=some ((s.drop a.toNat).take (b.toNat - a.toNat)):=by
 simp [subL,h]
def grows:List Ed→Int
 | []=>0
 | e :: r=>(e.s.length - (e.t - e.f))+grows r
theorem applied_len (s:List UInt8):∀ (l:List Ed) (p last:Int),soundFrom s.length last l=0→0≤p→p≤last+1→p≤s.length→((applied s p l).length:Int)=s.length - p+grows l
 | [],p,last,_,h0,_,h1=>by simp [applied,grows]; omega
 | e :: r, p, last, h, h0, hp, h1 => by
   obtain ⟨e1,e2,e3,e4,e5⟩:=soundFrom_cons h
   have:=applied_len s r e.t e.t e5 (by omega) (by omega) e3
   simp only [applied,grows,List.length_append,List.length_take,List.length_drop,Int.natCast_add,this]
   omega
section
def CopyOk (P:Program) (cc:FuncId) (bt:TypeId):Prop:=∀ (H:Hp) (i:Nat) (x a:A),H[i]?=some (.box bt [a,x])→(a = .d .nilp∨a = .ptr i 0)→ACall P cc [.ptr i 0] H (fun r H'=>r = .tup []∧H'=H.set i (.box bt [.ptr i 0,x]))
def StringOk (P:Program) (st:FuncId) (bt:TypeId):Prop:=∀ (H:Hp) (i t:Nat) (a:A) (s:List UInt8),H[i]?=some (.box bt [a,.osl true 1 (byteRows s) t])→H[t]?=some (.tok s.length 1 5)→s.length≤140737488355328→ACall P st [.ptr i 0] H (fun r H'=>r = .d (.str s)∧H'=H)
section
variable {P:Program} {et bt:Nat}
end
end
section
def indexP {α:Type} (p : α→Bool):List α→Option Nat
 | []=>none
 | x :: r=>if p x then some 0 else (indexP p r).map (·+1)
def indexI {α:Type} (p : α→Bool) (l:List α):Int:=match indexP p l with | some k=>k | none => -1
theorem indexP_append {α:Type} (p : α→Bool):∀ (a b:List α),(∀ x ∈ a,p x=false)→indexP p (a++b)=(indexP p b).map (·+a.length)
 | [],b,_=>by simp
 | x :: a, b, h => by
   simp only [List.cons_append,indexP,h x (by simp),Bool.false_eq_true,if_false,indexP_append p a b fun y hy=>h y (by simp [hy]),Option.map_map,List.length_cons]
   congr 1
def irIndexFunc (sz:Nat):IFn:=⟨19,[.t 4],Jq [Ji 4 0] (.seq (Jq [Jm 6 0,Jh 7 6,Ji 8 0] (.blk 0 (.loop (Jr 8 7 9 18 0 1 (Jq [Jm 10 8,Jm 5 10] (Jk [Jm 11 1,Jm 12 0,Jm 13 5,JA 14 sz 12 13,JL 15 sz 14,Jp 16 (.callv (.t 11) [.t 15])] 16 (Jq [Jm 17 5,Jm 4 17] .ret) .skip)))))) (Jq [Ji 4 (-1)] .ret))⟩
section
variable {P:Program} {α:Type} {enc : α→List D} {sz:Nat}
theorem indexFunc_acall {f:FuncId} {fn:Func} (hf:P.funcs[f]?=some fn) (hcf:compF P [] fn=some (irIndexFunc sz)) {H:Hp} {l:List α} {p : α→Bool} {g x:A} (hlen:lenA x=some l.length)
 (hx:∀ m,H.length≤m→x.clr m=x) (hg:∀ m,H.length≤m→g.clr m=g)
 (hld:∀ (k:Nat) (e : α),l[k]?=some e→∃ q,iaddrA H sz x (.d (.int .i64 (k:Int)))=some q∧ldA H sz q=some (rowE enc e))
 (hp:∀ (e : α) (Q:A→Hp→Prop) (t:Tag Q),Q (.d (.bool (p e))) H→ValK Q t P [.agg (rowE enc e)] H g) (hb:l.length≤1099511627776) :
 ACall P f [x,g] H (fun r H'=>r = .d (.int .i64 (indexI p l))∧H'=H):=by
 refine acall_fin hf hcf (by simp [irIndexFunc]) fun hcl _ => ?_
 simp [irIndexFunc,hlen,-lenA]
 refine LoopK_of H.length (fun fr H'=>∃ pre rest,l=pre++rest∧(∀ e ∈ pre,p e=false)∧fr 0=x∧fr 1=g∧fr 7 = .d (.int .i64 l.length)∧fr 8 = .d (.int .i64 (pre.length:Int))∧H'=H)
  (fun fr H'=>match fr 8 with | .d (.int _ k)=>(l.length - k).toNat | _=>0) (by simp) ?_ ?_
 · refine ⟨[],l,?_⟩
   simp [cut_self hcl,hx,hg,clr_d,-A.clr]
 rintro fr H' ⟨pre,rest,hl,hpre,f0,f1,f7,f8,hH⟩
 rw [hH]
 simp [f7,f8]
 refine BrK_split (fun h => ?_) (fun h => ?_)
 · obtain ⟨e,r,rfl⟩:∃ e r,rest=e :: r:=by
    cases rest with
    | nil=>rw [hl] at h; simp at h
    | cons e r=>exact ⟨e,r,rfl⟩
   obtain ⟨q,q1,q2⟩:=hld pre.length e (by rw [hl]; simp)
   have hpl:pre.length < l.length:=by rw [hl]; simp
   have hw:IntKind.i64.wrap ((pre.length:Int)+1)=pre.length+1:=wrap_i64 (by omega) (by omega)
   simp [f0,f1,f7,f8,q1,q2,-iaddrA,-ldA]
   refine hp e _ _ ?_
   simp [f0,f1,f7,f8]
   refine BrK_split (fun h2 => ?_) (fun h2 => ?_)
   · have:indexI p l=pre.length:=by rw [hl,indexI,indexP_append p _ _ hpre]; simp [indexP,h2]
     simp [RetK,cut_self hcl,this]
   · simp [f8,hw]
     refine AgainK_of (m:=H.length) (by simp) ⟨pre++[e],r,?_⟩ ?_
     · simp [f0,f1,f7,f8,cut_self hcl,hx,hg,clr_d,-A.clr]
       refine ⟨hl,fun a ha => ?_⟩
       rcases ha with h3 | h3
       · exact hpre a h3
       · subst h3; exact h2
     · simp; omega
 · obtain rfl:rest=[]:=by
    cases rest with
    | nil=>rfl
    | cons e r=>exfalso; rw [hl] at h; simp at h
   rw [List.append_nil] at hl
   subst hl
   have:indexI p l = -1:=by
    have:=indexP_append p l [] hpre
    simp [indexP] at this
    simp [indexI,this]
   simp [RetK,cut_self hcl,this]
end
def setMp (l:List (List UInt8)):List (D × A):=l.map fun s=>(.str s,.d (.bool true))
theorem setMp_ok (l:List (List UInt8)) (s:List UInt8):mpOk (.str []) (.str s) (setMp l)=true:=by simp [setMp]
theorem setMp_get (s:List UInt8):∀ l:List (List UInt8),mpGet (.str s) (setMp l)=if s ∈ l then some (.d (.bool true)) else none
 | []=>rfl
 | x :: l => by
   have:=setMp_get s l
   simp only [setMp,List.map_cons,mpGet,sameK,List.mem_cons] at this ⊢
   by_cases h:s=x
   · simp [h]
   · simp only [h,decide_false,Bool.false_eq_true,if_false,false_or]; exact this
theorem setMp_put (s:List UInt8):∀ l:List (List UInt8),s ∉ l→mpPut (.str s) (.d (.bool true)) (setMp l)=setMp (l++[s])
 | [],_=>rfl
 | x :: l, h => by
   simp only [List.mem_cons,not_or] at h
   have:=setMp_put s l h.2
   simp only [setMp,List.map_cons,mpPut,sameK,List.cons_append] at this ⊢
   simp only [h.1,decide_false,Bool.false_eq_true,if_false]
   rw [this]
end
theorem bl_irrefl:∀ a:List UInt8,Op.bytesLess a a=false
 | []=>rfl
 | x :: a=>by simp [Op.bytesLess,bl_irrefl a]
theorem bl_total:∀ a b:List UInt8,Op.bytesLess a b=false→Op.bytesLess b a=false→a=b
 | [],[],_,_=>rfl
 | [],y :: b,h,_=>by simp [Op.bytesLess] at h
 | x :: a,[],_,h=>by simp [Op.bytesLess] at h
 | x :: a, y :: b, h, h' => by
   simp only [Op.bytesLess,Bool.or_eq_false_iff,decide_eq_false_iff_not,Bool.and_eq_false_iff,beq_eq_false_iff_ne,UInt8.lt_iff_toNat_lt] at h h'
   have hxy:x=y:=by
    apply UInt8.toNat_inj.1
    omega
   subst hxy
   have h1:=h.2.resolve_left (fun e=>e rfl)
   have h2:=h'.2.resolve_left (fun e=>e rfl)
   rw [bl_total a b h1 h2]
theorem bl_trans:∀ a b c:List UInt8,Op.bytesLess a b=true→Op.bytesLess b c=true→Op.bytesLess a c=true
 | _,[],_,h,_=>by cases ‹List UInt8›<;>simp [Op.bytesLess] at h
 | _,_ :: _,[],_,h=>by simp [Op.bytesLess] at h
 | [],_ :: _,_ :: _,_,_=>rfl
 | x :: a, y :: b, z :: c, h, h' => by
   simp only [Op.bytesLess,Bool.or_eq_true,decide_eq_true_eq,Bool.and_eq_true,beq_iff_eq,UInt8.lt_iff_toNat_lt] at h h' ⊢
   rcases h with h | ⟨rfl,h⟩<;>rcases h' with h' | ⟨rfl,h'⟩
   · left; omega
   · left; exact h
   · left; exact h'
   · right; exact ⟨rfl,bl_trans a b c h h'⟩
theorem bl_asymm {a b:List UInt8} (h:Op.bytesLess a b=true):Op.bytesLess b a=false:=by
 cases h2:Op.bytesLess b a with
 | false=>rfl
 | true=>have:=bl_trans a b a h h2; rw [bl_irrefl] at this; cases this
theorem cmpStr_lt {a b:List UInt8}:cmpStr a b < 0 ↔ Op.bytesLess a b=true:=by
 unfold cmpStr
 split
 · simp_all
 · split<;>simp_all
theorem cmpStr_gt {a b:List UInt8}:0 < cmpStr a b ↔ Op.bytesLess b a=true:=by
 unfold cmpStr
 split
 · rename_i h; simp [bl_asymm h]
 · rename_i h
   split
   · rename_i h2
     simp [h] at h2
     subst h2
     simp [bl_irrefl]
   · rename_i h2
     simp [h] at h2
     cases h3:Op.bytesLess b a with
     | true=>simp
     | false=>exact absurd (bl_total a b (by simpa using h) h3) h2
theorem cmpStr_zero {a b:List UInt8}:cmpStr a b=0 ↔ a=b:=by
 constructor
 · intro h
   have h1:¬ cmpStr a b < 0:=by omega
   have h2:¬ 0 < cmpStr a b:=by omega
   rw [cmpStr_lt] at h1
   rw [cmpStr_gt] at h2
   exact bl_total a b (by simpa using h1) (by simpa using h2)
 · rintro rfl
   have h1:¬ cmpStr a a < 0:=by rw [cmpStr_lt,bl_irrefl]; simp
   have h2:¬ 0 < cmpStr a a:=by rw [cmpStr_gt,bl_irrefl]; simp
   omega
theorem cmpStr_cmp:Cmp cmpStr where
 refl:=fun x=>cmpStr_zero.2 rfl
 anti:=fun x y=>by rw [cmpStr_lt,cmpStr_gt]
 trans:=fun x y z h1 h2=>by
  have e1:x=y∨Op.bytesLess x y=true:=by
   by_cases h:cmpStr x y=0
   · exact .inl (cmpStr_zero.1 h)
   · exact .inr (cmpStr_lt.1 (by omega))
  have e2:y=z∨Op.bytesLess y z=true:=by
   by_cases h:cmpStr y z=0
   · exact .inl (cmpStr_zero.1 h)
   · exact .inr (cmpStr_lt.1 (by omega))
  rcases e1 with rfl | e1<;>rcases e2 with rfl | e2
  · exact h1
  · exact h2
  · exact h1
  · have:=cmpStr_lt.2 (bl_trans x y z e1 e2); omega
theorem Cmp.on {α β:Type} {c : β → β→Int} (h:Cmp c) (f : α → β):Cmp fun x y=>c (f x) (f y) :=
 ⟨fun x=>h.refl _,fun x y=>h.anti _ _,fun x y z=>h.trans _ _ _⟩
theorem compareStr_acall {P:Program} {f f1:FuncId} {fn fn1:Func} (hf:P.funcs[f]?=some fn) (hcf:compF P [] fn=some (irCompare f1)) (hf1:P.funcs[f1]?=some fn1) (hcf1:compF P [] fn1=some irIsNaN) {H:Hp} (a b:List UInt8) :
 ACall P f [.d (.str a),.d (.str b)] H (fun r H'=>r = .d (.int .i64 (cmpStr a b))∧H'=H):=by
 have hn:∀ x,ACall P f1 [.d (.str x)] H (fun r H'=>r = .d (.bool false)∧H'=H):=fun x=>by
  refine acall_fin hf1 hcf1 (by simp [irIsNaN]) fun hcl _ => ?_
  simp [irIsNaN]
  simp [RetK,cut_self hcl]
 refine acall_fin hf hcf (by simp [irCompare]) fun hcl _ => ?_
 simp [irCompare]
 refine CallK_of' (hn a) ?_
 simp
 refine CallK_of' (hn b) ?_
 cases h:Op.bytesLess a b with
 | true =>
   simp [h]
   simp [RetK,cut_self hcl,cmpStr,h]
 | false =>
   by_cases he:a=b
   · subst he
     simp [h]
     simp [RetK,cut_self hcl,cmpStr,h]
   · simp [h,he]
     simp [RetK,cut_self hcl,cmpStr,h,he]
section
theorem closed_iff {H:Hp}:H.Closed ↔ ∀ n,H.length≤n→∀ x ∈ H,x.clr n=x:=by
 unfold Hp.Closed
 refine forall_congr' fun n=>imp_congr_right fun _ => ?_
 constructor
 · intro h x hx
   obtain ⟨i,hi,rfl⟩:=List.getElem_of_mem hx
   have:=congrArg (fun l=>l[i]?) h
   simpa [hi] using this
 · intro h
   exact (List.map_congr_left h).trans (List.map_id' _)
theorem Closed.snoc {H:Hp} (h:H.Closed) {x:Ob} (hx:∀ n,H.length+1≤n→x.clr n=x):Hp.Closed (H++[x]):=by
 rw [closed_iff] at h ⊢
 intro n hn y hy
 simp only [List.length_append,List.length_singleton] at hn
 rcases List.mem_append.1 hy with h1 | h1
 · exact h n (by omega) y h1
 · rw [List.mem_singleton.1 h1]; exact hx n hn
theorem ld_ptr (H:Hp) (i off n:Nat):ldA H n (.ptr i off)=(match H[i]? with | some (.box _ cs)=>cutL cs off n | _=>none):=rfl
theorem st_ptr (H:Hp) (i off:Nat) (cs:List A):stA H cs (.ptr i off)=(match H[i]? with | some (.box ty old)=>if off+cs.length≤old.length then some (H.set i (.box ty (setL old off cs))) else none | _=>none):=rfl
section
variable {P:Program} {α:Type} {enc : α→List D} {sz:Nat}
theorem arr_ldc {H:Hp} {i k j:Nat} {L:List α} {e : α} {d:D} (hi:H[i]?=some (arrE enc sz L)) (hk:L[k]?=some e) (hj:(enc e)[j]?=some d):ldA H 1 (.aptr i k j)=some [.d d]:=by
 have hjl:=(List.getElem?_eq_some_iff.1 hj)
 obtain ⟨h1,h2⟩:=hjl
 have:j+1≤(enc e).length:=h1
 simp [ldA,hi,arrE,hk,rowE,cutL,this]
 rw [List.take_one]
 simp [hj]
end
end
section
section
variable {κ κ':K} {i j:Nat}
end
end
theorem rowAt_map {α:Type} (f : α→List D) {l:List α} {i:Nat} (h:i < l.length):Zam.rowAt (l.map f) (i:Int)=some (f l[i]):=by
 simp [Zam.rowAt,h]
def NextK (J:Nat→Fr→Hp→Prop) (_:Tag J) (m n si sn st:Nat) (i:Nat) (fr:Fr) (H:Hp):Prop :=
 fr si = .d (.int .i64 (i:Int))∧fr sn = .d (.int .i64 (n:Int))∧∃ k,m≤k∧k≤H.length∧J (i+1) (Fr.clr k ((fr.set st (.d (.int .i64 ((i:Int)+1)))).set si (.d (.int .i64 ((i:Int)+1))))) (Hp.cut k H)
@[congr] theorem NextK_congr {J:Nat→Fr→Hp→Prop} {t:Tag J} {m n si sn st i:Nat} {fr fr':Fr} {H H':Hp} (h:fr=fr') (h2:H=H'):NextK J t m n si sn st i fr H=NextK J t m n si sn st i fr' H':=by rw [h,h2]
theorem NextK_of {J:Nat→Fr→Hp→Prop} {t:Tag J} {m n si sn st i:Nat} {fr:Fr} {H:Hp} (k:Nat) (hk:m≤k) (h:k≤H.length∧fr si = .d (.int .i64 (i:Int))∧fr sn = .d (.int .i64 (n:Int)))
 (hj:J (i+1) (Fr.clr k ((fr.set st (.d (.int .i64 ((i:Int)+1)))).set si (.d (.int .i64 ((i:Int)+1))))) (Hp.cut k H)):NextK J t m n si sn st i fr H :=
 ⟨h.2.1,h.2.2,k,hk,h.1,hj⟩
def rangeC (si sn sb st b c:Nat) (body:C):C :=
 .seq (.ops [⟨some sb,none,.bin .lss (.t si) (.t sn)⟩] false) (.seq (.cond (.t sb) .skip (.exit b)) (.seq (.blk c body) (.ops [⟨some st,none,.bin .add (.t si) (.c (.int .i64 1))⟩,⟨some si,none,.mv (.t st)⟩] false)))
theorem RangeK_of {P:Program} {n0:Nat} {Q:Ex→Fr→Hp→Prop} {fr:Fr} {H:Hp} {si sn sb st b c:Nat} {body:C} {t:Tag (Q,rangeC si sn sb st b c body)} (m n:Nat) (J:Nat→Fr→Hp→Prop) (hn:n≤4611686018427387904)
 (hne:(si ≠ sn∧si ≠ sb∧sn ≠ sb)∧(sb ≠ st∧sn ≠ st)) (h1:n0≤m∧m≤H.length) (h2:fr si = .d (.int .i64 0)∧fr sn = .d (.int .i64 (n:Int))) (h3:J 0 (fr.clr m) (Hp.cut m H))
 (h4:∀ i fr H,i < n→fr si = .d (.int .i64 (i:Int))→fr sn = .d (.int .i64 (n:Int))→J i fr H →
  AWp P n0 body (Ex.blk c (Ex.then (NextK J .mk m n si sn st i) Q)) (fr.set sb (.d (.bool true))) H)
 (h5:∀ fr H,fr si = .d (.int .i64 (n:Int))→fr sn = .d (.int .i64 (n:Int))→J n fr H→Q (.exit b) (fr.set sb (.d (.bool false))) H) :
 LoopK Q (rangeC si sn sb st b c body) t P n0 fr H:=by
 obtain ⟨⟨n1,n2,n3⟩,n4,n5⟩:=hne
 refine LoopK_of m (fun fr H=>∃ i:Nat,i≤n∧fr si = .d (.int .i64 (i:Int))∧fr sn = .d (.int .i64 (n:Int))∧J i fr H) (fun fr H=>match fr si with | .d (.int _ k)=>(n - k).toNat | _=>0) h1
  ⟨0,Nat.zero_le _,by simp [h2.1],by simp [h2.2],h3⟩ ?_
 rintro fr H ⟨i,hi,f1,f2,hj⟩
 simp [rangeC,f1,f2]
 refine BrK_split (fun h => ?_) (fun h => ?_)
 · have hlt:i < n:=by simpa using h
   have hw:IntKind.i64.wrap ((i:Int)+1)=i+1:=wrap_i64 (by omega) (by omega)
   have hd:decide (i < n)=true:=by simpa using hlt
   rw [hd]
   simp only [AWp_skip,then_normal,AWp_seq,AWp_blk]
   refine AWp.mono _ ?_ _ _ (h4 i fr H hlt f1 f2 hj)
   intro e fr' H' h
   have fin:NextK J .mk m n si sn st i fr' H'→Ex.then (AWp P n0 (.ops [⟨some st,none,.bin .add (.t si) (.c (.int .i64 1))⟩,⟨some si,none,.mv (.t st)⟩] false) (Ex.then (Again m (fun fr H=>∃ i:Nat,i≤n∧fr si = .d (.int .i64 (i:Int))∧fr sn = .d (.int .i64 (n:Int))∧J i fr H) (fun fr H=>match fr si with | .d (.int _ k)=>(n - k).toNat | _=>0) (n - i)) Q)) (Ex.then (Again m (fun fr H=>∃ i:Nat,i≤n∧fr si = .d (.int .i64 (i:Int))∧fr sn = .d (.int .i64 (n:Int))∧J i fr H) (fun fr H=>match fr si with | .d (.int _ k)=>(n - k).toNat | _=>0) (n - i)) Q) Ex.normal fr' H':=by
    rintro ⟨g1,g2,k,k1,k2,k3⟩
    simp [g1,hw]
    refine AgainK_ofk k k1 k2 ⟨i+1,by omega,by simp,by simp [n1.symm,n5,g2],?_⟩ ?_
    · exact k3
    · simp; omega
   cases e with
   | normal=>exact fin h
   | exit j =>
     simp only [blk_exit] at h ⊢
     by_cases hj:j=c
     · rw [if_pos hj] at h ⊢; exact fin h
     · rw [if_neg hj] at h ⊢; exact h
   | ret=>exact h
 · have : i = n := by have : ¬ i < n := by simpa using h
                      omega
   subst this
   simp
   exact h5 fr H f1 f2 hj
def NextF (J:Nat→Fr→Hp→Prop) (_:Tag J) (m n si su sv:Nat) (i:Nat) (fr:Fr) (H:Hp):Prop :=
 fr si = .d (.int .i64 (i:Int))∧i < n∧∃ k,m≤k∧k≤H.length∧J (i+1) (Fr.clr k (((fr.set su (.d (.int .i64 (i:Int)))).set sv (.d (.int .i64 ((i:Int)+1)))).set si (.d (.int .i64 ((i:Int)+1))))) (Hp.cut k H)
@[congr] theorem NextF_congr {J:Nat→Fr→Hp→Prop} {t:Tag J} {m n si su sv i:Nat} {fr fr':Fr} {H H':Hp} (h:fr=fr') (h2:H=H'):NextF J t m n si su sv i fr H=NextF J t m n si su sv i fr' H':=by rw [h,h2]
theorem NextF_of {J:Nat→Fr→Hp→Prop} {t:Tag J} {m n si su sv i:Nat} {fr:Fr} {H:Hp} (k:Nat) (hk:m≤k) (hi:i < n) (h:k≤H.length∧fr si = .d (.int .i64 (i:Int)))
 (hj:J (i+1) (Fr.clr k (((fr.set su (.d (.int .i64 (i:Int)))).set sv (.d (.int .i64 ((i:Int)+1)))).set si (.d (.int .i64 ((i:Int)+1))))) (Hp.cut k H)):NextF J t m n si su sv i fr H :=
 ⟨h.2,hi,k,hk,h.1,hj⟩
def forC (si su sv c:Nat) (cnd body:C):C :=
 .seq cnd (.seq (.blk c body) (.ops [⟨some su,none,.mv (.t si)⟩,⟨some sv,none,.bin .add (.t su) (.c (.int .i64 1))⟩,⟨some si,none,.mv (.t sv)⟩] false))
theorem ForK_of {P:Program} {n0:Nat} {Q:Ex→Fr→Hp→Prop} {fr:Fr} {H:Hp} {si su sv c:Nat} {cnd body:C} {t:Tag (Q,forC si su sv c cnd body)} (m n:Nat) (J:Nat→Fr→Hp→Prop) (hn:n≤4611686018427387904)
 (hne:si ≠ su∧si ≠ sv∧su ≠ sv) (h1:n0≤m∧m≤H.length) (h2:fr si = .d (.int .i64 0)) (h3:J 0 (fr.clr m) (Hp.cut m H))
 (h4:∀ i fr H,i≤n→fr si = .d (.int .i64 (i:Int))→J i fr H →
  AWp P n0 cnd (Ex.then (AWp P n0 body (Ex.blk c (Ex.then (NextF J .mk m n si su sv i) Q))) Q) fr H) :
 LoopK Q (forC si su sv c cnd body) t P n0 fr H:=by
 obtain ⟨n1,n2,n3⟩:=hne
 refine LoopK_of m (fun fr H=>∃ i:Nat,i≤n∧fr si = .d (.int .i64 (i:Int))∧J i fr H) (fun fr H=>match fr si with | .d (.int _ k)=>(n - k).toNat | _=>0) h1
  ⟨0,Nat.zero_le _,by simp [h2],h3⟩ ?_
 rintro fr H ⟨i,hi,f1,hj⟩
 simp only [forC,AWp_seq]
 refine AWp.mono _ ?_ _ _ (h4 i fr H hi f1 hj)
 intro e fr' H' h
 cases e with
 | normal =>
   simp only [then_normal,AWp_seq,AWp_blk] at h ⊢
   refine AWp.mono _ ?_ _ _ h
   intro e fr' H' h
   have fin:NextF J .mk m n si su sv i fr' H'→AWp P n0 (.ops [⟨some su,none,.mv (.t si)⟩,⟨some sv,none,.bin .add (.t su) (.c (.int .i64 1))⟩,⟨some si,none,.mv (.t sv)⟩] false) (Ex.then (Again m (fun fr H=>∃ i:Nat,i≤n∧fr si = .d (.int .i64 (i:Int))∧J i fr H) (fun fr H=>match fr si with | .d (.int _ k)=>(n - k).toNat | _=>0) (match fr si with | .d (.int _ k)=>(n - k).toNat | _=>0)) Q) fr' H':=by
    rintro ⟨g1,g0,k,k1,k2,k3⟩
    have hw:IntKind.i64.wrap ((i:Int)+1)=i+1:=wrap_i64 (by omega) (by omega)
    simp [g1,hw,f1]
    refine AgainK_ofk k k1 k2 ⟨i+1,by omega,by simp,?_⟩ ?_
    · exact k3
    · simp; omega
   cases e with
   | normal=>simp only [blk_normal,then_normal] at h ⊢; exact fin h
   | exit j =>
     simp only [blk_exit] at h ⊢
     by_cases hj:j=c
     · rw [if_pos hj] at h ⊢; exact fin h
     · rw [if_neg hj] at h ⊢; exact h
   | ret=>exact h
 | exit j=>exact h
 | ret=>exact h
def Ex.outE (b:Nat) (E:Fr→Hp→Prop) (Q:Ex→Fr→Hp→Prop):Ex→Fr→Hp→Prop
 | .exit j,fr,H=>if j=b then E fr H else Q (.exit j) fr H
 | e,fr,H=>Q e fr H
@[simp ↓] theorem outE_exit (b j:Nat) {E:Fr→Hp→Prop} {Q:Ex→Fr→Hp→Prop} {fr:Fr} {H:Hp}:Ex.outE b E Q (.exit j) fr H=if j=b then E fr H else Q (.exit j) fr H:=propext Iff.rfl
@[simp ↓] theorem outE_ret (b:Nat) {E:Fr→Hp→Prop} {Q:Ex→Fr→Hp→Prop} {fr:Fr} {H:Hp}:Ex.outE b E Q .ret fr H=Q .ret fr H:=propext Iff.rfl
@[simp ↓] theorem outE_normal (b:Nat) {E:Fr→Hp→Prop} {Q:Ex→Fr→Hp→Prop} {fr:Fr} {H:Hp}:Ex.outE b E Q .normal fr H=Q .normal fr H:=propext Iff.rfl
def Ex.outR (b:Nat) (E R:Fr→Hp→Prop):Ex→Fr→Hp→Prop
 | .exit j,fr,H=>if j=b then E fr H else False
 | .ret,fr,H=>R fr H
 | .normal,_,_=>False
@[simp ↓] theorem outR_exit (b j:Nat) {E R:Fr→Hp→Prop} {fr:Fr} {H:Hp}:Ex.outR b E R (.exit j) fr H=if j=b then E fr H else False:=propext Iff.rfl
@[simp ↓] theorem outR_ret (b:Nat) {E R:Fr→Hp→Prop} {fr:Fr} {H:Hp}:Ex.outR b E R .ret fr H=R fr H:=propext Iff.rfl
theorem LoopK_outR {P:Program} {n0:Nat} {Q:Ex→Fr→Hp→Prop} {fr:Fr} {H:Hp} {c:C} {t:Tag (Q,c)} (b:Nat) (E R:Fr→Hp→Prop) (h:LoopK (Ex.outR b E R) c .mk P n0 fr H) (hret:∀ fr H,R fr H→Q .ret fr H) (hout:∀ fr H,E fr H→Q (.exit b) fr H):LoopK Q c t P n0 fr H :=
 AWp.mono (.loop c) (fun e fr H h=>by
  cases e with
  | normal=>exact h.elim
  | ret=>exact hret fr H h
  | exit j =>
    simp only [outR_exit] at h
    by_cases hj:j=b
    · rw [if_pos hj] at h; rw [hj]; exact hout fr H h
    · rw [if_neg hj] at h; exact h.elim) fr H h
def Ex.outN (E R:Fr→Hp→Prop):Ex→Fr→Hp→Prop
 | .exit _,_,_=>False
 | .ret,fr,H=>R fr H
 | .normal,fr,H=>E fr H
@[simp ↓] theorem outN_normal {E R:Fr→Hp→Prop} {fr:Fr} {H:Hp}:Ex.outN E R .normal fr H=E fr H:=propext Iff.rfl
@[simp ↓] theorem outN_ret {E R:Fr→Hp→Prop} {fr:Fr} {H:Hp}:Ex.outN E R .ret fr H=R fr H:=propext Iff.rfl
theorem LoopK_out {P:Program} {n0:Nat} {Q:Ex→Fr→Hp→Prop} {fr:Fr} {H:Hp} {c:C} {t:Tag (Q,c)} (b:Nat) (E:Fr→Hp→Prop) (h:LoopK (Ex.outE b E Q) c .mk P n0 fr H) (hout:∀ fr H,E fr H→Q (.exit b) fr H):LoopK Q c t P n0 fr H :=
 AWp.mono (.loop c) (fun e fr H h=>by
  cases e with
  | normal=>exact h
  | ret=>exact h
  | exit j =>
    simp only [outE_exit] at h
    by_cases hj:j=b
    · rw [if_pos hj] at h; rw [hj]; exact hout fr H h
    · rw [if_neg hj] at h; exact h) fr H h
theorem arrE_map {α:Type} (enc : α→List D) (sz:Nat) (L:List α):arrE enc sz L = .arr sz ((L.map enc).map (List.map .d)):=by
 simp [arrE,rowE]
section
open Go.RowKit (Below)
theorem HR.later {κ:K} {H:Hp} {w w':World} (h:HR κ H w) (hb:Below w.heap.size w w'):HR κ H w':=by
 have hst:∀ b o v,κ.σ b o=some v→b < w.heap.size:=fun b o v hv=>World.block_lt_of_cell? w ⟨b,o,none⟩ (h.st b o v hv)
 refine ⟨h.below.trans (hb.mono h.below.size),fun b o v hv => ?_,fun i x hx => ?_,h.dom,fun i b hi => ?_,h.exσ,h.exd,h.fl⟩
 · rw [(cell_of_block (hb.block b (hst b o v hv)) o).1]; exact h.st b o v hv
 · exact (h.ob i x hx).mono (K.le_refl κ) rfl fun b hb'=>hb.block b (h.ex i b hb').2
 · have:=h.ex i b hi
   have:=hb.size
   omega
theorem leaf {P:Program} {f:FuncId} {args:List D} {x:D}
 (h:∀ (w:World) (σ:St) (vs:List Value),(∀ b o v,σ b o=some v→w.cell? ⟨b,o,none⟩=some v)→vs.length=args.length→(∀ (i:Nat) (v:Value) (d:D),vs[i]?=some v→args[i]?=some d→DR σ v d) →
  Calls P f vs.toArray w fun e w'=>∃ v,e = .returned v∧Below w.heap.size w w'∧∀ σ,DR σ v x) (H:Hp):ACall P f (args.map .d) H (fun r H'=>r = .d x∧H'=H):=by
 intro κ w vs hr hl hv
 refine (h w κ.σ vs hr.st (by simpa using hl) (fun i v d hi hd=>(hv i v (.d d) hi (by simp [hd])).d_inv)).mono ?_
 rintro e w' ⟨v,rfl,hb,hd⟩
 exact ⟨v,κ,_,H,rfl,K.le_refl κ,hr.later hb,.d (hd _),rfl,rfl⟩
theorem DR.str_inv {σ:St} {v:Value} {s:List UInt8} (h:DR σ v (.str s)):v = .string ⟨s.toArray⟩:=by
 cases h with
 | str u=>simp
theorem DR.int_inv {σ:St} {v:Value} {k:IntKind} {n:Int} (h:DR σ v (.int k n)):v = .int k n:=by cases h; rfl
theorem ACall.oslAt {P:Program} {f:FuncId} {H:Hp} {Q:A→Hp→Prop} {pre l:List A} {z:Bool} {s t:Nat} {rows:List (List D)} (h:ACall P f (pre ++ .d (.sl z s rows) :: l) H Q):ACall P f (pre ++ .osl z s rows t :: l) H Q:=by
 intro κ w vs hr hl hv
 refine h κ w vs hr (by simpa using hl) fun i v a hi ha => ?_
 by_cases e:i=pre.length
 · subst e
   have h1:=hv pre.length v (.osl z s rows t) hi (by simp)
   rw [List.getElem?_append_right (Nat.le_refl _),Nat.sub_self] at ha
   cases ha
   cases h1 with
   | osl hd _=>exact .d hd
 · refine hv i v a hi ?_
   by_cases hlt:i < pre.length
   · rw [List.getElem?_append_left hlt] at ha ⊢; exact ha
   · rw [List.getElem?_append_right (by omega)] at ha ⊢
     obtain ⟨k,hk⟩:∃ k,i - pre.length=k+1:=⟨i - pre.length - 1,by omega⟩
     rw [hk] at ha ⊢
     exact ha
theorem ACall.osl1 {P:Program} {f:FuncId} {H:Hp} {Q:A→Hp→Prop} {l:List A} {z:Bool} {s t:Nat} {rows:List (List D)} (h:ACall P f (.d (.sl z s rows) :: l) H Q):ACall P f (.osl z s rows t :: l) H Q:=ACall.oslAt (pre:=[]) h
def irWriteByte (cc et:Nat):IFn:=⟨17,[.t 4],Jq [Jp 4 (.mv (.c .nili))] (Jq [Jm 5 0,Jc 6 cc [.t 5]] (Jq [Jm 7 0,Jm 8 0,Jn 9 8,Jf 10 1 9,Jl 11 10,Jm 12 1,Jp 13 (.bslice 1 [.t 12]),Jp 14 (.app 1 1 et (.t 11) (.t 13)),Jn 15 7,Jf 16 1 15,Js 1 16 14] (Jq [Jp 4 (.mv (.c .nili))] .ret)))⟩
theorem writeByte_acall {P:Program} {f cc bt et:Nat} {fn:Func} (hf:P.funcs[f]?=some fn) (hcf:compF P [] fn=some (irWriteByte cc et)) (hcc:CopyOk P cc bt) (H:Hp) (i t:Nat) (a:A) (bs:List UInt8) (c:UInt8)
 (hi:H[i]?=some (.box bt [a,.osl true 1 (byteRows bs) t])) (ha:a = .d .nilp∨a = .ptr i 0) (ht:H[t]?=some (.tok bs.length 1 et)) (hb:bs.length+1≤140737488355328) :
 ACall P f [.ptr i 0,.d (.int .u8 c.toNat)] H (fun r H'=>r = .d .nili∧H'=(H.set i (.box bt [.ptr i 0,.osl true 1 (byteRows (bs++[c])) t])).set t (.tok (bs++[c]).length 1 et)):=by
 have hit:i ≠ t:=fun e=>by subst e; rw [hi] at ht; cases ht
 have hil:i < H.length:=(List.getElem?_eq_some_iff.1 hi).1
 have htl:t < H.length:=(List.getElem?_eq_some_iff.1 ht).1
 refine acall_fin hf hcf (by simp [irWriteByte]) fun hcl hlo => ?_
 simp [irWriteByte]
 refine CallK_of' (hcc _ _ _ _ hi ha) ?_
 have hbl:(byteRows bs).length=bs.length:=by simp [byteRows]
 have ht':(H.set i (.box bt [.ptr i 0,.osl true 1 (byteRows bs) t]))[t]?=some (.tok (byteRows bs).length 1 et):=by
  rw [List.getElem?_set_ne hit,ht,hbl]
 have htv:H[t]=Ob.tok bs.length 1 et:=(List.getElem?_eq_some_iff.1 ht).2
 have hb':bs.length≤140737488355327:=by omega
 simp [hil,htl,hit,htv,hb',appA,hbl,Ne.symm hit]
 simp [RetK,Hp.cut_set,cut_self hcl,hil,htl,byteRows]
 rw [List.set_comm _ _ hit,List.set_comm _ _ hit,List.set_set]
end
section
def irDigit :IFn:=⟨9,[.t 2],Jq [Jp 2 (.mv (.c (.bool false)))] (Jq [Jm 3 0,Jp 4 (.bin .geq (.t 3) (.c (.int .u8 48))),Jm 5 4,Jg 6 5 true (Km 0),Jg 7 5 true (.bin .leq (.t 6) (.c (.int .u8 57))),Ja 8 5 7,Jm 2 8] .ret)⟩
def irLetter :IFn:=⟨21,[.t 2],Jq [Jp 2 (.mv (.c (.bool false)))] (Jq [Jm 3 0,Jp 4 (.bin .geq (.t 3) (.c (.int .u8 97))),Jm 5 4,Jg 6 5 true (Km 0),Jg 7 5 true (.bin .leq (.t 6) (.c (.int .u8 122))),Ja 8 5 7,Jm 9 8,Jg 10 9 false (Km 0),Jg 11 9 false (.bin .geq (.t 10) (.c (.int .u8 65))),Jg 12 9 false (Km 11),Jg 13 12 true (Km 0),Jg 14 12 true (.bin .leq (.t 13) (.c (.int .u8 90))),Jg 15 9 false (.pick (.t 12) (.t 14) (.c (.bool false))),Jo 16 9 15,Jm 17 16,Jg 18 17 false (Km 0),Jg 19 17 false (.bin .eql (.t 18) (.c (.int .u8 95))),Jo 20 17 19,Jm 2 20] .ret)⟩
def digitB (b:UInt8):Bool:=decide ((48:Int)≤b.toNat) && decide ((b.toNat:Int)≤57)
def letterB (b:UInt8):Bool:=(decide ((97:Int)≤b.toNat) && decide ((b.toNat:Int)≤122)) || (decide ((65:Int)≤b.toNat) && decide ((b.toNat:Int)≤90)) || decide ((b.toNat:Int)=95)
def keysL:List (List UInt8):=[[117,115,101],[100,101,102],[108,101,116],[105,102],[101,108,115,101],[119,104,105,108,101],[112,114,105,110,116],[114,101,116,117,114,110],[102,110],[105,110,112,117,116],[105,110,116],[115,116,114],[100,121,110]]
def isNameB (s:List UInt8):Bool:=match s with
 | []=>false
 | b :: r=>decide ((b :: r).length≤40) && !decide ((b :: r) ∈ keysL) && !digitB b && (b :: r).all fun c=>letterB c || digitB c
section
variable {P:Program}
theorem digit_acall {f:FuncId} {fn:Func} (hf:P.funcs[f]?=some fn) (hcf:compF P [] fn=some irDigit) (b:UInt8) (H:Hp):ACall P f [.d (.int .u8 b.toNat)] H (fun r H'=>r = .d (.bool (digitB b))∧H'=H):=by
 refine acall_fin hf hcf (by simp [irDigit]) fun hcl _ => ?_
 simp [irDigit]
 refine GdK_split (by simp) (fun h => ?_) (fun h => ?_)
 · simp
   simp at h
   simp [RetK,cut_self hcl,digitB,h]
 · simp
   simp at h
   simp [RetK,cut_self hcl,digitB]
   omega
theorem letter_acall {f:FuncId} {fn:Func} (hf:P.funcs[f]?=some fn) (hcf:compF P [] fn=some irLetter) (b:UInt8) (H:Hp):ACall P f [.d (.int .u8 b.toNat)] H (fun r H'=>r = .d (.bool (letterB b))∧H'=H):=by
 refine acall_fin hf hcf (by simp [irLetter]) fun hcl _ => ?_
 simp [irLetter]
 generalize ha:decide ((97:Int)≤b.toNat)=a
 generalize hb:decide ((b.toNat:Int)≤122)=c
 generalize hd:decide ((65:Int)≤b.toNat)=d
 generalize he:decide ((b.toNat:Int)≤90)=e
 have hl:letterB b=(a && c || d && e || decide ((b.toNat:Int)=95)):=by simp only [letterB,ha,hb,hd,he]
 cases a<;>cases c<;>cases d<;>cases e<;>simp [ha,hb,hd,he]<;>simp [RetK,cut_self hcl,hl]
end
end
section
inductive T where
 | mk (k:Int) (z:Bool) (ns:List (List UInt8)) (y:Bool) (ps:List T)
def encStr (x:List UInt8):List D:=[.str x]
section
variable {P:Program} {bt:Nat}
end
end
def irTkLex (c1 c2 c3 t1 t2:Nat):IFn:=⟨52,[.t 2,.t 3,.t 4],Jq [Jp 2 (.mv (.c (.sl true 4 []))),Ji 3 0,Ji 4 0] (.seq (Jk [Jm 12 0,Jp 13 (.lenS (.t 12)),JB 14 .gtr 13 16384] 14 (Jq [Jp 2 (.mv (.c (.sl true 4 []))),Ji 3 5,Ji 4 16384] .ret) .skip) (.seq (Jq [Jm 15 0,Jc 16 c1 [.t 15],Jm 5 16] (Jk [Jm 17 5,JB 18 .geq 17 0] 18 (Jq [Jm 19 5,Jp 2 (.mv (.c (.sl true 4 []))),Ji 3 20,Jm 4 19] .ret) .skip)) (Jq [Jm 20 0,Jp 21 (.build [JS,J0] [(0,1,.t 20)]),Jp 22 (.box t1 2 (.t 21)),Jm 6 22] (Jq [Jp 7 (.nilT 4 t2)] (.blk 0 (.loop (.blk 1 (Jq [Jm 23 6,Jc 24 c2 [.t 23],Jm 8 24] (Jq [Jm 25 6,Jn 26 25,Jf 27 1 26,Jl 28 27,Jm 9 28] (Jq [Jm 30 6,Jc 31 c3 [.t 30],Jm 29 31,Je 32 29 0,Je 33 29 1,Jy 10 t2 [J0,J0,JS,JS],Js 4 10 32,Jm 11 33] (.seq (Jk [Jm 34 11,JB 35 .neq 34 0] 35 (Jq [Jm 36 11,Jm 37 9,Jp 2 (.mv (.c (.sl true 4 []))),Jm 3 36,Jm 4 37] .ret) .skip) (.seq (Jk [Jm 38 7,Jh 39 38,JB 40 .geq 39 4000] 40 (Jq [Jm 41 9,Jp 2 (.mv (.c (.sl true 4 []))),Ji 3 5,Jm 4 41] .ret) .skip) (Jq [Jm 42 8,Jf 43 2 10,Js 1 43 42] (Jq [Jm 44 7,JL 45 4 10,Jp 46 (.bslice 4 [.t 45]),Jp 47 (.app 4 48 t2 (.t 44) (.t 46)),Jm 7 47] (Jk [Jf 48 0 10,Jl 49 48,JB 50 .eql 49 0] 50 (Jq [Jm 51 7,Jm 2 51,Ji 3 0,Ji 4 0] .ret) .skip)))))))))))))))⟩
def irTkIsKey (c1 c2:Nat):IFn:=⟨6,[.t 2],Jq [Jp 2 (.mv (.c (.bool false)))] (Jq [Jc 3 c1 [],Jm 4 0,Jc 5 c2 [.t 3,.t 4],Jm 2 5] .ret)⟩
def irTkIsName (c1 c2 c3:Nat):IFn:=⟨39,[.t 2],Jq [Jp 2 (.mv (.c (.bool false)))] (.seq (Jk [Jm 4 0,Jp 5 (.bin .eql (.t 4) (.c JS)),Jm 6 5,Jg 7 6 false (Km 0),Jg 8 6 false (.lenS (.t 7)),Jg 9 6 false (KB .gtr 8 40),Jo 10 6 9,Jm 11 10,Jg 12 11 false (Km 0),Jg 13 11 false (.sidx (.t 12) (JI 0)),Jg 14 11 false (.call c1 [.t 13]),Jg 15 11 false (.un .not (.t 14)),Jo 16 11 15,Jm 17 16,Jg 18 17 false (Km 0),Jg 19 17 false (.call c2 [.t 18]),Jo 20 17 19] 20 (Jq [Jp 2 (.mv (.c (.bool false)))] .ret) .skip) (.seq (Jq [Jm 21 0,Jp 22 (.lenS (.t 21)),Ji 23 0] (.blk 0 (.loop (Jr 23 22 24 38 0 1 (Jq [Jm 25 23,Jm 3 25] (Jk [Jm 26 0,Jm 27 3,Jp 28 (.sidx (.t 26) (.t 27)),Jc 29 c1 [.t 28],Jp 30 (.un .not (.t 29)),Jm 31 30,Jg 32 31 true (Km 0),Jg 33 31 true (Km 3),Jg 34 31 true (.sidx (.t 32) (.t 33)),Jg 35 31 true (.call c3 [.t 34]),Jg 36 31 true (.un .not (.t 35)),Ja 37 31 36] 37 (Jq [Jp 2 (.mv (.c (.bool false)))] .ret) .skip)))))) (Jq [Jp 2 (.mv (.c (.bool true)))] .ret)))⟩
def irRnBad (c1:Nat):IFn:=⟨27,[.t 2],Jq [Ji 2 0] (.seq (Jq [Ji 3 0] (.blk 0 (.loop (.seq (Jk [Jm 6 3,Jm 7 0,Jp 8 (.lenS (.t 7)),Jb 9 .lss 6 8] 9 .skip (.exit 0)) (.blk 1 (Jq [Jm 11 0,Jm 12 3,Jp 13 (.sslice (.t 11) (some (.t 12)) none),Jc 14 c1 [.t 13],Jm 10 14,Je 15 10 0,Je 16 10 1,Jm 4 15,Jm 5 16] (.seq (Jk [Jm 17 4,Jp 18 (.bin .eql (.t 17) (.c (.int .i32 65533))),Jm 19 18,Jg 20 19 true (Km 5),Jg 21 19 true (KB .eql 20 1),Ja 22 19 21] 22 (Jq [Jm 23 3,Jm 2 23] .ret) .skip) (Jz [Jm 24 3,Jm 25 5,Jb 26 .add 24 25,Jm 3 26])))))))) (Jq [Ji 2 (-1)] .ret))⟩
def irScLead (c1 c2 c3 c4:Nat):IFn:=⟨39,[.t 2],Jq [Jp 2 (.mv (.c JS))] (Jq [Jm 4 0,Jn 5 4,Jf 6 1 5,Jl 7 6,Jm 3 7] (.blk 0 (.loop (.blk 1 (.seq (.blk 2 (.loop (.seq (Jk [Jm 8 0,Jc 9 c1 [.t 8,.c (.fn c2)]] 9 .skip (.exit 2)) (.blk 3 (Jz [Jm 10 0,Jn 11 10,Jf 12 1 11,Jl 13 12,JB 14 .add 13 1,Jn 15 10,Jf 16 1 15,Js 1 16 14]))))) (.seq (Jk [Jm 17 0,Jc 18 c1 [.t 17,.c (.fn c3)],Jp 19 (.un .not (.t 18))] 19 (.seq (.ops [Jm 20 0,Jn 21 20,Jf 22 0 21,Jl 23 22,Jm 24 3,Jm 25 0,Jn 26 25,Jf 27 1 26,Jl 28 27,Jp 29 (.sslice (.t 23) (some (.t 24)) (some (.t 28))),Jm 2 29] true) .ret) .skip) (.blk 4 (.loop (.seq (Jk [Jm 30 0,Jc 31 c1 [.t 30,.c (.fn c4)]] 31 .skip (.exit 4)) (.blk 5 (Jz [Jm 32 0,Jn 33 32,Jf 34 1 33,Jl 35 34,JB 36 .add 35 1,Jn 37 32,Jf 38 1 37,Js 1 38 36])))))))))))⟩
def irScNext (c1 c2 c3 c4 c5 c6 c7 c8 t1:Nat):IFn:=⟨77,[.cell 2 4 true,.t 3],Jq [Jy 2 t1 [J0,J0,JS,JS],Ji 3 0] (Jq [Jm 4 0,Jn 5 4,Jf 6 1 5,Jl 7 6,Jf 8 1 2,Js 1 8 7] (.seq (.blk 0 (.seq (.ops [Jm 18 0,Jn 19 18,Jf 20 1 19,Jl 21 20,Jm 22 0,Jn 23 22,Jf 24 0 23,Jl 25 24,Jp 26 (.lenS (.t 25)),Jb 27 .eql 21 26,Jm 17 27] true) (.cond (.t 17) (Jq [JL 28 4 2,Js 4 2 28,Ji 3 0] .ret) (Jk [Jm 30 0,Jc 31 c1 [.t 30,.c (.fn c2)],Jm 29 31] 29 (Jq [Jm 32 0,Jc 33 c3 [.t 32],Jf 34 0 2,Jv (.store 1 (.t 34) (JI 1)),Jf 35 3 2,Js 1 35 33] (Jk [Jf 36 3 2,Jl 37 36,Jc 38 c4 [.t 37]] 38 (Jz [Jf 39 0 2,Jv (.store 1 (.t 39) (JI 2))]) (Jk [Jf 40 3 2,Jl 41 40,Jp 42 (.lenS (.t 41)),JB 43 .gtr 42 40] 43 (Jq [JL 44 4 2,Js 4 2 44,Ji 3 26] .ret) .skip))) (Jk [Jm 46 0,Jc 47 c1 [.t 46,.c (.fn c5)],Jm 45 47] 45 (Jq [Jm 48 0,Jc 49 c3 [.t 48],Jf 50 0 2,Jv (.store 1 (.t 50) (JI 3)),Jf 51 3 2,Js 1 51 49] (.seq (.ops [JL 52 4 2,Jf 53 3 2,Jl 54 53,Jc 55 c6 [.t 54],Js 4 2 52,Jm 3 55] true) .ret)) (.seq (.ops [Jm 57 0,Jn 58 57,Jf 59 0 58,Jl 60 59,Jm 61 0,Jn 62 61,Jf 63 1 62,Jl 64 63,Jp 65 (.sidx (.t 60) (.t 64)),Jp 66 (.bin .eql (.t 65) (.c (.int .u8 34))),Jm 56 66] true) (.cond (.t 56) (Jq [Jf 67 0 2,Jv (.store 1 (.t 67) (JI 4))] (Jq [Jm 69 0,Jc 70 c7 [.t 69],Jm 68 70,Je 71 68 0,Je 72 68 1,Jf 73 3 2,Js 1 73 71,Jm 3 72] (Jq [JL 74 4 2,Jm 75 3,Js 4 2 74,Jm 3 75] .ret))) (Jq [Jm 9 0,Jc 10 c8 [.t 9],Jf 11 0 2,Jv (.store 1 (.t 11) (JI 5)),Jf 12 3 2,Js 1 12 10] (Jk [Jf 13 3 2,Jl 14 13,Jp 15 (.bin .eql (.t 14) (.c JS))] 15 (Jq [JL 16 4 2,Js 4 2 16,Ji 3 21] .ret) .skip))))))))) (Jq [JL 76 4 2,Js 4 2 76,Ji 3 0] .ret)))⟩
def irSlHas (c1:Nat):IFn:=⟨9,[.t 4],Jq [Jp 4 (.mv (.c (.bool false)))] (Jq [Jm 5 0,Jm 6 1,Jc 7 c1 [.t 5,.t 6],JB 8 .geq 7 0,Jm 4 8] .ret)⟩
def irSlIdx :IFn:=⟨19,[.t 4],Jq [Ji 4 0] (.seq (Jq [Jm 6 0,Jh 7 6,Ji 8 0] (.blk 0 (.loop (Jr 8 7 9 18 0 1 (Jq [Jm 10 8,Jm 5 10] (Jk [Jm 11 1,Jm 12 0,Jm 13 5,JA 14 1 12 13,Jl 15 14,Jb 16 .eql 11 15] 16 (Jq [Jm 17 5,Jm 4 17] .ret) .skip)))))) (Jq [Ji 4 (-1)] .ret))⟩
def irTkKeys :IFn:=⟨2,[.t 0],Jq [Jp 0 (.mv (.c (.sl true 1 [])))] (Jq [Jp 1 (.bslice 1 [.c (.str [100,101,102]),.c (.str [100,121,110]),.c (.str [101,108,115,101]),.c (.str [102,110]),.c (.str [105,102]),.c (.str [105,110,112,117,116]),.c (.str [105,110,116]),.c (.str [108,101,116]),.c (.str [112,114,105,110,116]),.c (.str [114,101,116,117,114,110]),.c (.str [115,116,114]),.c (.str [117,115,101]),.c (.str [119,104,105,108,101])]),Jm 0 1] .ret)⟩
def irScMore :IFn:=⟨28,[.t 4],Jq [Jp 4 (.mv (.c (.bool false)))] (.seq (.ops [Jm 5 0,Jn 6 5,Jf 7 1 6,Jl 8 7,Jm 9 0,Jn 10 9,Jf 11 0 10,Jl 12 11,Jp 13 (.lenS (.t 12)),Jb 14 .lss 8 13,Jm 15 14,Jg 16 15 true (Km 1),Jg 17 15 true (Km 0),Jg 18 15 true (.nilCheck (.t 17)),Jg 19 15 true (Kh 0 18),Jg 20 15 true (Kl 19),Jg 21 15 true (Km 0),Jg 22 15 true (.nilCheck (.t 21)),Jg 23 15 true (Kh 1 22),Jg 24 15 true (Kl 23),Jg 25 15 true (.sidx (.t 20) (.t 24)),Jg 26 15 true (.callv (.t 16) [.t 25]),Ja 27 15 26,Jm 4 27] true) .ret)⟩
def irTkBlank :IFn:=⟨17,[.t 2],Jq [Jp 2 (.mv (.c (.bool false)))] (Jq [Jm 3 0,Jp 4 (.bin .eql (.t 3) (.c (.int .u8 32))),Jm 5 4,Jg 6 5 false (Km 0),Jg 7 5 false (.bin .eql (.t 6) (.c (.int .u8 9))),Jo 8 5 7,Jm 9 8,Jg 10 9 false (Km 0),Jg 11 9 false (.bin .eql (.t 10) (.c (.int .u8 10))),Jo 12 9 11,Jm 13 12,Jg 14 13 false (Km 0),Jg 15 13 false (.bin .eql (.t 14) (.c (.int .u8 13))),Jo 16 13 15,Jm 2 16] .ret)⟩
def irScHash :IFn:=⟨5,[.t 2],Jq [Jp 2 (.mv (.c (.bool false)))] (Jq [Jm 3 0,Jp 4 (.bin .eql (.t 3) (.c (.int .u8 35))),Jm 2 4] .ret)⟩
def irScNoNl :IFn:=⟨5,[.t 2],Jq [Jp 2 (.mv (.c (.bool false)))] (Jq [Jm 3 0,Jp 4 (.bin .neq (.t 3) (.c (.int .u8 10))),Jm 2 4] .ret)⟩
def irScWord (c1 c2:Nat):IFn:=⟨27,[.t 2],Jq [Jp 2 (.mv (.c JS))] (Jq [Jm 4 0,Jn 5 4,Jf 6 1 5,Jl 7 6,Jm 3 7] (.seq (.blk 0 (.loop (.seq (Jk [Jm 8 0,Jc 9 c1 [.t 8,.c (.fn c2)]] 9 .skip (.exit 0)) (.blk 1 (Jz [Jm 10 0,Jn 11 10,Jf 12 1 11,Jl 13 12,JB 14 .add 13 1,Jn 15 10,Jf 16 1 15,Js 1 16 14]))))) (.seq (.ops [Jm 17 0,Jn 18 17,Jf 19 0 18,Jl 20 19,Jm 21 3,Jm 22 0,Jn 23 22,Jf 24 1 23,Jl 25 24,Jp 26 (.sslice (.t 20) (some (.t 21)) (some (.t 25))),Jm 2 26] true) .ret)))⟩
def irScWordB (c1 c2:Nat):IFn:=⟨9,[.t 2],Jq [Jp 2 (.mv (.c (.bool false)))] (Jq [Jm 3 0,Jc 4 c1 [.t 3],Jm 5 4,Jg 6 5 false (Km 0),Jg 7 5 false (.call c2 [.t 6]),Jo 8 5 7,Jm 2 8] .ret)⟩
def irScStr (c1:Nat):IFn:=⟨86,[.t 2,.t 3],Jq [Jp 2 (.mv (.c JS)),Ji 3 0] (Jq [Jm 9 0,Jn 10 9,Jf 11 1 10,Jl 12 11,Jm 4 12] (.seq (Jq [Jm 13 0,Jn 14 13,Jf 15 1 14,Jl 16 15,JB 17 .add 16 1,Jn 18 13,Jf 19 1 18,Js 1 19 17] (.blk 0 (.loop (.seq (.seq (.ops [Jm 20 0,Jn 21 20,Jf 22 1 21,Jl 23 22,Jm 24 0,Jn 25 24,Jf 26 0 25,Jl 27 26,Jp 28 (.lenS (.t 27)),Jb 29 .lss 23 28] true) (.cond (.t 29) .skip (.exit 0))) (.seq (.blk 1 (.seq (.ops [Jm 37 0,Jn 38 37,Jf 39 0 38,Jl 40 39,Jm 41 0,Jn 42 41,Jf 43 1 42,Jl 44 43,Jp 45 (.sidx (.t 40) (.t 44)),Jm 5 45] true) (.blk 2 (Jk [Jm 47 5,Jp 48 (.bin .eql (.t 47) (.c (.int .u8 34))),Jm 46 48] 46 (Jq [Jm 49 0,Jn 50 49,Jf 51 1 50,Jl 52 51,JB 53 .add 52 1,Jn 54 49,Jf 55 1 54,Js 1 55 53] (.seq (.ops [Jm 56 0,Jn 57 56,Jf 58 0 57,Jl 59 58,Jm 60 4,Jm 61 0,Jn 62 61,Jf 63 1 62,Jl 64 63,Jp 65 (.sslice (.t 59) (some (.t 60)) (some (.t 64))),Jm 6 65] true) (Jq [Jm 67 6,Jc 68 c1 [.t 67],Jm 66 68,Je 69 66 0,Je 70 66 1,Jm 7 69,Jm 8 70] (Jq [Jm 71 6,Jm 72 8,Jm 2 71,Jm 3 72] .ret)))) (Jk [Jm 74 5,Jp 75 (.bin .eql (.t 74) (.c (.int .u8 92))),Jm 73 75] 73 (Jz [Jm 76 0,Jn 77 76,Jf 78 1 77,Jl 79 78,JB 80 .add 79 1,Jn 81 76,Jf 82 1 81,Js 1 82 80]) (Jk [Jm 84 5,Jp 85 (.bin .eql (.t 84) (.c (.int .u8 10))),Jm 83 85] 83 (Jq [Jp 2 (.mv (.c JS)),Ji 3 22] .ret) .skip)))))) (Jz [Jm 30 0,Jn 31 30,Jf 32 1 31,Jl 33 32,JB 34 .add 33 1,Jn 35 30,Jf 36 1 35,Js 1 36 34])))))) (Jq [Jp 2 (.mv (.c JS)),Ji 3 22] .ret)))⟩
def irScSign (c1 c2:Nat):IFn:=⟨33,[.t 2],Jq [Jp 2 (.mv (.c JS))] (.seq (Jq [Jc 5 c1 [],Jh 6 5,Ji 7 0] (.blk 0 (.loop (Jr 7 6 8 32 0 1 (Jq [JA 9 1 5 7,Jl 10 9,Jm 4 10] (.seq (.ops [Jm 11 0,Jn 12 11,Jf 13 0 12,Jl 14 13,Jm 15 0,Jn 16 15,Jf 17 1 16,Jl 18 17,Jp 19 (.sslice (.t 14) (some (.t 18)) none),Jm 20 4,Jc 21 c2 [.t 19,.t 20]] true) (.cond (.t 21) (Jq [Jm 22 0,Jn 23 22,Jf 24 1 23,Jl 25 24,Jm 26 4,Jp 27 (.lenS (.t 26)),Jb 28 .add 25 27,Jn 29 22,Jf 30 1 29,Js 1 30 28] (Jq [Jm 31 4,Jm 2 31] .ret)) .skip))))))) (Jq [Jp 2 (.mv (.c JS))] .ret))⟩
def irRnUnquote (c1 c2 c3 t1 t2:Nat):IFn:=⟨69,[.t 2,.t 3],Jq [Jp 2 (.mv (.c JS)),Ji 3 0] (.seq (Jk [Jm 7 0,Jp 8 (.lenS (.t 7)),JB 9 .lss 8 2,Jm 10 9,Jg 11 10 false (Km 0),Jg 12 10 false (.sidx (.t 11) (JI 0)),Jg 13 10 false (.bin .neq (.t 12) (.c (.int .u8 34))),Jo 14 10 13,Jm 15 14,Jg 16 15 false (Km 0),Jg 17 15 false (Km 0),Jg 18 15 false (.lenS (.t 17)),Jg 19 15 false (KB .sub 18 1),Jg 20 15 false (.sidx (.t 16) (.t 19)),Jg 21 15 false (.bin .neq (.t 20) (.c (.int .u8 34))),Jo 22 15 21] 22 (Jq [Jp 2 (.mv (.c JS)),Ji 3 22] .ret) .skip) (Jq [Jp 4 (.allocT t1 [.nilp,.sl true 1 []] 1 1 t2)] (.seq (Jq [Ji 5 1] (.blk 0 (.loop (.seq (Jk [Jm 23 5,Jm 24 0,Jp 25 (.lenS (.t 24)),JB 26 .sub 25 1,Jb 27 .lss 23 26] 27 .skip (.exit 0)) (.seq (.blk 1 (.blk 2 (Jk [Jm 35 0,Jm 36 5,Jp 37 (.sidx (.t 35) (.t 36)),Jp 38 (.bin .eql (.t 37) (.c (.int .u8 92))),Jm 34 38] 34 (Jq [Jm 39 5,JB 40 .add 39 1,Jm 5 40] (Jq [Jm 41 0,Jm 42 5,Jp 43 (.sidx (.t 41) (.t 42)),Jc 44 c1 [.c (.str [110,116,34,92]),.t 43],Jm 6 44] (.seq (Jk [Jm 45 6,JB 46 .lss 45 0,Jm 47 46,Jg 48 47 false (Km 5),Jg 49 47 false (Km 0),Jg 50 47 false (.lenS (.t 49)),Jg 51 47 false (KB .sub 50 1),Jg 52 47 false (Kb .eql 48 51),Jo 53 47 52] 53 (Jq [Jp 2 (.mv (.c JS)),Ji 3 22] .ret) .skip) (Jz [Jm 54 6,Jp 55 (.sidx (.c (.str [10,9,34,92])) (.t 54)),Jc 56 c2 [.t 4,.t 55]])))) (Jk [Jm 58 0,Jm 59 5,Jp 60 (.sidx (.t 58) (.t 59)),Jp 61 (.bin .lss (.t 60) (.c (.int .u8 32))),Jm 62 61,Jg 63 62 false (Km 0),Jg 64 62 false (Km 5),Jg 65 62 false (.sidx (.t 63) (.t 64)),Jg 66 62 false (.bin .eql (.t 65) (.c (.int .u8 34))),Jo 67 62 66,Jm 57 67] 57 (Jq [Jp 2 (.mv (.c JS)),Ji 3 22] .ret) (Jz [Jm 30 0,Jm 31 5,Jp 32 (.sidx (.t 30) (.t 31)),Jc 33 c2 [.t 4,.t 32]]))))) (Jz [Jm 28 5,JB 29 .add 28 1,Jm 5 29])))))) (Jq [Jc 68 c3 [.t 4],Jm 2 68,Ji 3 0] .ret))))⟩
def irTkSigns :IFn:=⟨2,[.t 0],Jq [Jp 0 (.mv (.c (.sl true 1 [])))] (Jq [Jp 1 (.bslice 1 [.c (.str [61,61]),.c (.str [40]),.c (.str [41]),.c (.str [123]),.c (.str [125]),.c (.str [44]),.c (.str [59]),.c (.str [58]),.c (.str [46]),.c (.str [61]),.c (.str [43]),.c (.str [45]),.c (.str [42]),.c (.str [60])]),Jm 0 1] .ret)⟩
section
abbrev Bs:=List UInt8
def Has (P:Program) (f:FuncId) (i:IFn):Prop:=∃ fn,P.funcs[f]?=some fn∧compF P [] fn=some i
def HasT (P:Program) (tk:List Nat) (f:FuncId) (i:IFn):Prop:=∃ fn,P.funcs[f]?=some fn∧compF P tk fn=some i
def ByteOk (P:Program) (f:FuncId) (p:UInt8→Bool):Prop:=∀ (b:UInt8) H,ACall P f [.d (.int .u8 b.toNat)] H (fun r H'=>r = .d (.bool (p b))∧H'=H)
theorem least_of {p:Nat→Prop}:∀ n,p n→∃ d,p d∧∀ e,p e→d≤e:=by
 intro n
 induction n using Nat.strongRecOn with
 | ind n ih =>
 intro h
 by_cases hm:∃ m,m < n∧p m
 · obtain ⟨m,hm,hp⟩:=hm
   exact ih m hm hp
 · exact ⟨n,h,fun e he=>Nat.le_of_not_lt fun hl=>hm ⟨e,hl,he⟩⟩
def NextM (J:Nat→Fr→Hp→Prop) (_:Tag J) (m d:Nat) (fr:Fr) (H:Hp):Prop:=∃ k d',m≤k∧k≤H.length∧d' < d∧J d' (fr.clr k) (Hp.cut k H)
@[congr] theorem NextM_congr {J:Nat→Fr→Hp→Prop} {t:Tag J} {m d:Nat} {fr fr':Fr} {H H':Hp} (h:fr=fr') (h2:H=H'):NextM J t m d fr H=NextM J t m d fr' H':=by rw [h,h2]
theorem NextM_of {J:Nat→Fr→Hp→Prop} {t:Tag J} {m d:Nat} {fr:Fr} {H:Hp} (k d':Nat) (hk:m≤k) (h:k≤H.length) (hd:d' < d) (hj:J d' (fr.clr k) (Hp.cut k H)):NextM J t m d fr H:=⟨k,d',hk,h,hd,hj⟩
theorem LoopM_of {P:Program} {n0:Nat} {Q:Ex→Fr→Hp→Prop} {fr:Fr} {H:Hp} {c:C} {t:Tag (Q,c)} (m:Nat) (J:Nat→Fr→Hp→Prop) (start:Nat) (h1:n0≤m∧m≤H.length) (h2:J start (fr.clr m) (Hp.cut m H))
 (h3:∀ d fr H,J d fr H→AWp P n0 c (Ex.then (NextM J .mk m d) Q) fr H):LoopK Q c t P n0 fr H:=by
 have key:∀ fr H,(∃ d,J d fr H)→∃ d,J d fr H∧∀ e,J e fr H→d≤e:=fun fr H ⟨d,h⟩=>least_of (p:=fun d=>J d fr H) d h
 let mu:Fr→Hp→Nat:=fun fr H => @dite _ (∃ d,J d fr H) (Classical.propDecidable _) (fun h=>(key fr H h).choose) (fun _=>0)
 have hmu:∀ fr H (h:∃ d,J d fr H),J (mu fr H) fr H∧∀ e,J e fr H→mu fr H≤e:=fun fr H h=>by
  have:mu fr H=(key fr H h).choose:=dif_pos h
  rw [this]
  exact (key fr H h).choose_spec
 refine LoopK_of m (fun fr H=>∃ d,J d fr H) mu h1 ⟨start,h2⟩ ?_
 rintro fr H h
 obtain ⟨g1,g2⟩:=hmu fr H h
 refine AWp.mono _ ?_ _ _ (h3 _ _ _ g1)
 intro e fr' H' hn
 cases e with
 | normal =>
   obtain ⟨k,d',k1,k2,k3,k4⟩:=hn
   refine AgainK_ofk (t := .mk) k k1 k2 ⟨d',k4⟩ ?_
   exact Nat.lt_of_le_of_lt ((hmu _ _ ⟨d',k4⟩).2 d' k4) k3
 | exit j=>exact hn
 | ret=>exact hn
section
variable {P:Program}
def blankB (b:UInt8):Bool:=decide ((b.toNat:Int)=32) || decide ((b.toNat:Int)=9) || decide ((b.toNat:Int)=10) || decide ((b.toNat:Int)=13)
def hashB (b:UInt8):Bool:=decide ((b.toNat:Int)=35)
def noNlB (b:UInt8):Bool := !decide ((b.toNat:Int)=10)
def wordB (b:UInt8):Bool:=letterB b || digitB b
theorem Has.letter {f} (h:Has P f irLetter):ByteOk P f letterB:=fun b H=>letter_acall h.choose_spec.1 h.choose_spec.2 b H
theorem Has.digit {f} (h:Has P f irDigit):ByteOk P f digitB:=fun b H=>digit_acall h.choose_spec.1 h.choose_spec.2 b H
theorem Has.blank {f} (h:Has P f irTkBlank):ByteOk P f blankB:=fun b H=>by
 obtain ⟨fn,hf,hcf⟩:=h
 refine acall_fin hf hcf (by simp [irTkBlank]) fun hcl _ => ?_
 simp [irTkBlank]
 generalize ha:decide ((b.toNat:Int)=32)=a
 generalize hb:decide ((b.toNat:Int)=9)=c
 generalize hd:decide ((b.toNat:Int)=10)=d
 generalize he:decide ((b.toNat:Int)=13)=e
 have hl:blankB b=(a || c || d || e):=by simp only [blankB,ha,hb,hd,he]
 cases a<;>cases c<;>cases d<;>cases e<;>simp [ha,hb,hd,he]<;>simp [RetK,cut_self hcl,hl]
theorem Has.hash {f} (h:Has P f irScHash):ByteOk P f hashB:=fun b H=>by
 obtain ⟨fn,hf,hcf⟩:=h
 refine acall_fin hf hcf (by simp [irScHash]) fun hcl _ => ?_
 simp [irScHash]
 simp [RetK,cut_self hcl,hashB]
theorem Has.noNl {f} (h:Has P f irScNoNl):ByteOk P f noNlB:=fun b H=>by
 obtain ⟨fn,hf,hcf⟩:=h
 refine acall_fin hf hcf (by simp [irScNoNl]) fun hcl _ => ?_
 simp [irScNoNl]
 simp [RetK,cut_self hcl,noNlB]
theorem Has.wordB {f fl fd} (h:Has P f (irScWordB fl fd)) (hl:ByteOk P fl letterB) (hd:ByteOk P fd digitB):ByteOk P f Zam.wordB:=fun b H=>by
 obtain ⟨fn,hf,hcf⟩:=h
 refine acall_fin hf hcf (by simp [irScWordB]) fun hcl _ => ?_
 simp [irScWordB]
 refine CallK_of' (hl b _) ?_
 cases e:letterB b with
 | true =>
   simp
   simp [RetK,cut_self hcl,Zam.wordB,e]
 | false =>
   simp
   refine CallK_of' (hd b _) ?_
   simp
   simp [RetK,cut_self hcl,Zam.wordB,e]
def moreB (p:UInt8→Bool):Bs→Bool
 | []=>false
 | b :: _=>p b
def scan (ts:TypeId) (text:Bs) (at_:Nat):Ob := .box ts [.d (.str text),.d (.int .i64 (at_:Int))]
theorem byteAt_drop {s:Bs} {n:Nat} {b:UInt8} {r:Bs} (h:s.drop n=b :: r):byteAt s (n:Int)=some b∧n < s.length:=by
 have hn:n < s.length:=by
  rcases Nat.lt_or_ge n s.length with h' | h'
  · exact h'
  · rw [List.drop_eq_nil_of_le h'] at h; cases h
 refine ⟨?_,hn⟩
 have:s[n]=b:=by
  have e:=List.drop_eq_getElem_cons hn
  rw [h] at e
  exact (List.cons.inj e).1.symm
 simp [byteAt,hn,this]
theorem Has.more {f} (h:Has P f irScMore) {k:FuncId} {p:UInt8→Bool} (hk:callOk P k=true) (hp:ByteOk P k p) {H:Hp} {i:Nat} {ts:TypeId} {text:Bs} {n:Nat} (hi:H[i]?=some (scan ts text n)) :
 ACall P f [.ptr i 0,.d (.fn k)] H (fun r H'=>r = .d (.bool (moreB p (text.drop n)))∧H'=H):=by
 obtain ⟨fn,hf,hcf⟩:=h
 refine acall_fin hf hcf (by simp [irScMore]) fun hcl _ => ?_
 unfold scan at hi
 simp [irScMore,hi]
 cases hd:text.drop n with
 | nil =>
   have hn:¬ n < text.length:=by
    have:=List.drop_eq_nil_iff.1 hd
    omega
   simp [hn]
   simp [RetK,cut_self hcl,moreB]
 | cons b r =>
   obtain ⟨hb,hn⟩:=byteAt_drop hd
   simp [hn,hi,hb]
   refine ⟨hk,?_⟩
   refine CallD_of (hp b _) ?_
   simp
   simp [RetK,cut_self hcl,moreB]
theorem Hp.set_self {H:Hp} {i:Nat} {o:Ob} (h:H[i]?=some o):H.set i o=H:=by
 obtain ⟨hi,e⟩:=List.getElem?_eq_some_iff.1 h
 rw [← e]; exact List.set_getElem_self hi
def runN (p:UInt8→Bool) (s:Bs):Nat:=(s.takeWhile p).length
theorem runN_le (p:UInt8→Bool) (s:Bs):runN p s≤s.length:=by
 unfold runN
 exact List.Sublist.length_le (List.takeWhile_sublist p)
theorem runN_step (p:UInt8→Bool):∀ (s:Bs) (j:Nat),j≤runN p s→moreB p (s.drop j)=decide (j < runN p s)
 | [],j,h=>by simp [runN] at h ⊢; subst h; rfl
 | b :: r, 0, h => by
   cases e:p b<;>simp [runN,moreB,e]
 | b :: r, j + 1, h => by
   cases e:p b with
   | false=>simp [runN,e] at h
   | true =>
     have hr:runN p (b :: r)=runN p r+1:=by simp [runN,e]
     rw [hr] at h ⊢
     have:=runN_step p r j (by omega)
     simpa using this
theorem scan_len {H:Hp} {i:Nat} {o:Ob} (h:H[i]?=some o):i < H.length:=(List.getElem?_eq_some_iff.1 h).1
theorem drop_add' (s:Bs) (n j:Nat):(s.drop n).drop j=s.drop (n+j):=by rw [List.drop_drop]
theorem sub_ok {s:Bs} {n w:Nat} (h:n+w≤s.length):subL s (n:Int) ((n:Int)+w)=some ((s.drop n).take w):=by
 rw [subL_ok ⟨by omega,by omega,by omega⟩]
 congr 2<;>omega
theorem Has.word {f fm fw} (h:Has P f (irScWord fm fw)) (hm:Has P fm irScMore) (hk:callOk P fw=true) (hw:ByteOk P fw Zam.wordB) {H:Hp} {i:Nat} {ts:TypeId} {text:Bs} {n:Nat} (hi:H[i]?=some (scan ts text n)) (hn:n≤text.length) (hl:text.length≤4611686018427387904) :
 ACall P f [.ptr i 0] H (fun r H'=>r = .d (.str ((text.drop n).take (runN Zam.wordB (text.drop n))))∧H'=H.set i (scan ts text (n+runN Zam.wordB (text.drop n)))):=by
 obtain ⟨fn,hf,hcf⟩:=h
 have hil:=scan_len hi
 refine acall_fin hf hcf (by simp [irScWord]) fun hcl _ => ?_
 have hi':=hi
 unfold scan at hi'
 simp [irScWord,hi']
 have hW:=runN_le Zam.wordB (text.drop n)
 have hstep:=runN_step Zam.wordB (text.drop n)
 simp only [drop_add',List.length_drop] at hW hstep
 generalize runN Zam.wordB (text.drop n)=W at hW hstep
 refine LoopK_outR 0 (fun fr H'=>fr 0 = .ptr i 0∧fr 3 = .d (.int .i64 (n:Int))∧H'=H.set i (scan ts text (n+W))) (fun _ _=>False) ?_ (fun _ _ h=>h.elim) ?_
 · refine LoopM_of H.length (fun d fr H'=>∃ j,d=W - j∧j≤W∧fr 0 = .ptr i 0∧fr 3 = .d (.int .i64 (n:Int))∧H'=H.set i (scan ts text (n+j))) W (by simp) ⟨0,?_⟩ ?_
   · simp [cut_self hcl,hil]
     exact (Hp.set_self hi).symm
   rintro d fr H' ⟨j,rfl,hj,f0,f3,rfl⟩
   have hij:(H.set i (scan ts text (n+j)))[i]?=some (scan ts text (n+j)):=by simp [hil]
   have hm':=hm.more hk hw hij
   rw [hstep j hj] at hm'
   simp [f0]
   refine CallK_of' hm' ?_
   simp
   refine BrK_split (fun h => ?_) (fun h => ?_)
   · have hlt:j < W:=by simpa using h
     have hwr:IntKind.i64.wrap ((n:Int)+j+1)=n+(j+1):=by rw [wrap_i64 (by omega) (by omega)]; omega
     simp [f0,hil,scan,hwr]
     refine NextM_of H.length (W - (j+1)) (Nat.le_refl _) (by simp) (by omega) ⟨j+1,rfl,by omega,?_⟩
     simp [f0,f3,Hp.cut_set,cut_self hcl,hil,scan]
   · have hjj : j = W := by have : ¬ j < W := by simpa using h
                            omega
     subst hjj
     simp [f0,f3]
 rintro fr H' ⟨f0,f3,rfl⟩
 have hs:=sub_ok (s:=text) (n:=n) (w:=W) (by omega)
 simp [f0,f3,hil,scan,hs]
 simp [RetK,Hp.cut_set,cut_self hcl,hil,scan]
end
end
section
def leadS:Bool→Bs→Nat
 | _,[]=>0
 | false,b :: r=>if blankB b then leadS false r+1 else if hashB b then leadS true r+1 else 0
 | true,b :: r=>if noNlB b then leadS true r+1 else leadS false r+1
theorem lead_le:∀ (c:Bool) (s:Bs),leadS c s≤s.length
 | _,[]=>by simp [leadS]
 | false, b :: r => by
   have h1:=lead_le false r
   have h2:=lead_le true r
   simp only [leadS,List.length_cons]
   split
   · omega
   · split<;>omega
 | true, b :: r => by
   have h1:=lead_le false r
   have h2:=lead_le true r
   simp only [leadS,List.length_cons]
   split<;>omega
theorem lead_blank:∀ (s:Bs),leadS false s=runN blankB s+leadS false (s.drop (runN blankB s))
 | []=>by simp [leadS,runN]
 | b :: r => by
   cases e:blankB b with
   | false=>simp [runN,e]
   | true =>
     have:=lead_blank r
     have hr:runN blankB (b :: r)=runN blankB r+1:=by simp [runN,e]
     rw [hr,List.drop_succ_cons,leadS,if_pos e]
     omega
theorem lead_cmt:∀ (s:Bs),leadS true s=runN noNlB s+leadS false (s.drop (runN noNlB s))
 | []=>by simp [leadS,runN]
 | b :: r => by
   cases e:noNlB b with
   | false =>
     have hb:blankB b=true:=by
      have:(b.toNat:Int)=10:=by simpa [noNlB] using e
      simp [blankB,this]
     simp [runN,e,leadS,hb]
   | true =>
     have:=lead_cmt r
     have hr:runN noNlB (b :: r)=runN noNlB r+1:=by simp [runN,e]
     rw [hr,List.drop_succ_cons,leadS,if_pos e]
     omega
theorem lead_hash {s:Bs} (h:moreB hashB s=true):leadS false s=runN noNlB s+leadS false (s.drop (runN noNlB s))∧1≤runN noNlB s:=by
 cases s with
 | nil=>simp [moreB] at h
 | cons b r =>
   have hb:(b.toNat:Int)=35:=by simpa [moreB,hashB] using h
   have h1:blankB b=false:=by simp [blankB,hb]
   have h2:hashB b=true:=by simp [hashB,hb]
   have h3:noNlB b=true:=by simp [noNlB,hb]
   have hr:runN noNlB (b :: r)=runN noNlB r+1:=by simp [runN,h3]
   have:=lead_cmt r
   rw [hr,List.drop_succ_cons,leadS,h1,if_neg (by simp),if_pos h2]
   exact ⟨by omega,by omega⟩
theorem lead_none {s:Bs} (h1:moreB blankB s=false) (h2:moreB hashB s=false):leadS false s=0:=by
 cases s with
 | nil=>rfl
 | cons b r =>
   have h1:blankB b=false:=h1
   have h2:hashB b=false:=h2
   simp [leadS,h1,h2]
section
variable {P:Program}
theorem Has.lead {f fm fb fh fl} (h:Has P f (irScLead fm fb fh fl)) (hm:Has P fm irScMore) (k1:callOk P fb=true) (p1:ByteOk P fb blankB) (k2:callOk P fh=true) (p2:ByteOk P fh hashB) (k3:callOk P fl=true) (p3:ByteOk P fl noNlB)
 {H:Hp} {i:Nat} {ts:TypeId} {text:Bs} {n:Nat} (hi:H[i]?=some (scan ts text n)) (hn:n≤text.length) (hl:text.length≤4611686018427387904) :
 ACall P f [.ptr i 0] H (fun r H'=>r = .d (.str ((text.drop n).take (leadS false (text.drop n))))∧H'=H.set i (scan ts text (n+leadS false (text.drop n)))):=by
 obtain ⟨fn,hf,hcf⟩:=h
 have hil:=scan_len hi
 refine acall_fin hf hcf (by simp [irScLead]) fun hcl _ => ?_
 have hi':=hi
 unfold scan at hi'
 simp [irScLead,hi']
 have hL:=lead_le false (text.drop n)
 simp only [List.length_drop] at hL
 refine LoopM_of H.length (fun d fr H'=>∃ j,d=leadS false (text.drop n) - j∧j+leadS false (text.drop (n+j))=leadS false (text.drop n)∧fr 0 = .ptr i 0∧fr 3 = .d (.int .i64 (n:Int))∧H'=H.set i (scan ts text (n+j))) (leadS false (text.drop n)) (by simp) ⟨0,?_⟩ ?_
 · simp [cut_self hcl,hil]
   exact (Hp.set_self hi).symm
 generalize leadS false (text.drop n)=L at hL
 rintro d fr H' ⟨j,rfl,hj,f0,f3,rfl⟩
 simp
 have hb:=lead_blank (text.drop (n+j))
 have hstep:=runN_step blankB (text.drop (n+j))
 have hW:=runN_le blankB (text.drop (n+j))
 simp only [drop_add',List.length_drop] at hW hstep hb
 generalize runN blankB (text.drop (n+j))=wa at hb hstep hW
 refine LoopK_out 2 (fun fr H'=>fr 0 = .ptr i 0∧fr 3 = .d (.int .i64 (n:Int))∧H'=H.set i (scan ts text (n+j+wa))) ?_ ?_
 · refine LoopM_of H.length (fun d fr H'=>∃ q,d=wa - q∧q≤wa∧fr 0 = .ptr i 0∧fr 3 = .d (.int .i64 (n:Int))∧H'=H.set i (scan ts text (n+j+q))) wa (by simp) ⟨0,?_⟩ ?_
   · simp [f0,f3,Hp.cut_set,cut_self hcl,hil,scan]
   rintro d fr H' ⟨q,rfl,hq,f0,f3,rfl⟩
   have hij:(H.set i (scan ts text (n+j+q)))[i]?=some (scan ts text (n+j+q)):=by simp [hil]
   have hm':=hm.more k1 p1 hij
   rw [hstep q hq] at hm'
   simp [f0]
   refine CallK_of' hm' ?_
   simp
   refine BrK_split (fun h => ?_) (fun h => ?_)
   · have hlt:q < wa:=by simpa using h
     have hwr:IntKind.i64.wrap (((n:Int)+j)+q+1)=((n:Int)+j)+(q+1):=by rw [wrap_i64 (by omega) (by omega)]; omega
     simp [f0,hil,scan,hwr]
     refine NextM_of H.length (wa - (q+1)) (Nat.le_refl _) (by simp) (by omega) ⟨q+1,rfl,by omega,?_⟩
     simp [f0,f3,Hp.cut_set,cut_self hcl,hil,scan]
   · have hqq:q=wa:=by
      have:¬ q < wa:=by simpa using h
      omega
     subst hqq
     simp [f0,f3]
 rintro fr H' ⟨f0,f3,rfl⟩
 have hij:(H.set i (scan ts text (n+j+wa)))[i]?=some (scan ts text (n+j+wa)):=by simp [hil]
 have hm':=hm.more k2 p2 hij
 simp [f0]
 refine CallK_of' hm' ?_
 cases hh:moreB hashB (text.drop (n+j+wa)) with
 | false =>
   have hnb:moreB blankB (text.drop (n+j+wa))=false:=by rw [hstep wa (Nat.le_refl _)]; simp
   have h0:=lead_none hnb hh
   have hLL:L=j+wa:=by omega
   have hs:=sub_ok (s:=text) (n:=n) (w:=j+wa) (by omega)
   simp [f0,f3,hil,scan,Int.add_assoc]
   simp at hs
   simp [hs]
   simp [RetK,Hp.cut_set,cut_self hcl,hil,scan,hLL,Int.add_assoc]
 | true =>
   simp
   obtain ⟨hc,hc1⟩:=lead_hash hh
   have hstep:=runN_step noNlB (text.drop (n+j+wa))
   have hW:=runN_le noNlB (text.drop (n+j+wa))
   simp only [drop_add',List.length_drop] at hW hstep hc
   generalize runN noNlB (text.drop (n+j+wa))=wc at hc hc1 hstep hW
   refine LoopK_out 4 (fun fr H'=>fr 0 = .ptr i 0∧fr 3 = .d (.int .i64 (n:Int))∧H'=H.set i (scan ts text (n+j+wa+wc))) ?_ ?_
   · refine LoopM_of H.length (fun d fr H'=>∃ q,d=wc - q∧q≤wc∧fr 0 = .ptr i 0∧fr 3 = .d (.int .i64 (n:Int))∧H'=H.set i (scan ts text (n+j+wa+q))) wc (by simp) ⟨0,?_⟩ ?_
     · simp [f0,f3,Hp.cut_set,cut_self hcl,hil,scan]
     rintro d fr H' ⟨q,rfl,hq,f0,f3,rfl⟩
     have hij:(H.set i (scan ts text (n+j+wa+q)))[i]?=some (scan ts text (n+j+wa+q)):=by simp [hil]
     have hm':=hm.more k3 p3 hij
     rw [hstep q hq] at hm'
     simp [f0]
     refine CallK_of' hm' ?_
     simp
     refine BrK_split (fun h => ?_) (fun h => ?_)
     · have hlt:q < wc:=by simpa using h
       have hwr:IntKind.i64.wrap (((n:Int)+j+wa)+q+1)=((n:Int)+j+wa)+(q+1):=by rw [wrap_i64 (by omega) (by omega)]; omega
       simp [f0,hil,scan,hwr]
       refine NextM_of H.length (wc - (q+1)) (Nat.le_refl _) (by simp) (by omega) ⟨q+1,rfl,by omega,?_⟩
       simp [f0,f3,Hp.cut_set,cut_self hcl,hil,scan]
     · have hqq:q=wc:=by
        have:¬ q < wc:=by simpa using h
        omega
       subst hqq
       simp [f0,f3]
   rintro fr H' ⟨f0,f3,rfl⟩
   simp
   refine NextM_of H.length (L - (j+wa+wc)) (Nat.le_refl _) (by simp) (by omega) ⟨j+wa+wc,rfl,?_,?_⟩
   · have e:n+(j+wa+wc)=n+j+wa+wc:=by omega
     rw [e]; omega
   · simp [f0,f3,Hp.cut_set,cut_self hcl,hil,scan,Int.add_assoc]
end
end
section
def keysT:List Bs:=[[100,101,102],[100,121,110],[101,108,115,101],[102,110],[105,102],[105,110,112,117,116],[105,110,116],[108,101,116],[112,114,105,110,116],[114,101,116,117,114,110],[115,116,114],[117,115,101],[119,104,105,108,101]]
theorem keysT_mem (s:Bs):s ∈ keysT ↔ s ∈ keysL:=by
 constructor
 · intro h
   simp only [keysT,List.mem_cons,List.not_mem_nil,or_false] at h
   rcases h with rfl | rfl | rfl | rfl | rfl | rfl | rfl | rfl | rfl | rfl | rfl | rfl | rfl<;>decide
 · intro h
   simp only [keysL,List.mem_cons,List.not_mem_nil,or_false] at h
   rcases h with rfl | rfl | rfl | rfl | rfl | rfl | rfl | rfl | rfl | rfl | rfl | rfl | rfl<;>decide
def signsT:List Bs:=[[61,61],[40],[41],[123],[125],[44],[59],[58],[46],[61],[43],[45],[42],[60]]
def signV (s:Bs):Bs:=(signsT.find? fun x=>x.isPrefixOf s).getD []
def PrefixOk (P:Program) (f:FuncId):Prop:=∀ (s p:Bs) H,ACall P f [.d (.str s),.d (.str p)] H (fun r H'=>r = .d (.bool (p.isPrefixOf s))∧H'=H)
section
variable {P:Program}
theorem Has.idx {f} (h:Has P f irSlIdx) (z:Bool) (ns:List Bs) (x:Bs) (hn:ns.length≤1048576) (H:Hp):ACall P f [.d (.sl z 1 (ns.map encStr)),.d (.str x)] H (fun r H'=>(∃ q:Int,r = .d (.int .i64 q)∧(0≤q ↔ x ∈ ns))∧H'=H):=by
 obtain ⟨fn,hf,hcf⟩:=h
 refine acall_fin hf hcf (by simp [irSlIdx]) fun hcl _ => ?_
 simp [irSlIdx]
 refine LoopK_outR 0 (fun fr H'=>x ∉ ns∧H'=H) (fun fr H'=>(∃ q:Int,fr 4 = .d (.int .i64 q)∧0≤q)∧x ∈ ns∧H'=H) ?_ ?_ ?_
 · refine RangeK_of H.length ns.length (fun i fr H'=>fr 0 = .d (.sl z 1 (ns.map encStr))∧fr 1 = .d (.str x)∧x ∉ ns.take i∧H'=H) (by omega) (by decide) (by simp) (by simp) ?_ ?_ ?_
   · simp [cut_self hcl]
   · rintro i fr H' hi f8 f7 ⟨f0,f1,hx,rfl⟩
     have hr:=rowAt_map encStr hi
     have ht:ns.take (i+1)=ns.take i++[ns[i]]:=List.take_succ_eq_append_getElem hi
     have hm:=List.getElem_mem hi
     simp only [encStr] at hr
     generalize ns[i]=w at hr ht hm
     simp [f8,f0,f1,hr]
     refine BrK_split (fun h => ?_) (fun h => ?_)
     · have e:x=w:=by simpa using h
       simp
       exact e ▸ hm
     · have e:¬ x=w:=by simpa using h
       simp
       refine NextK_of H'.length (Nat.le_refl _) (by simp [f8,f7]) ?_
       simp [f0,f1,cut_self hcl,ht,hx,e]
   · rintro fr H' f8 f7 ⟨f0,f1,hx,rfl⟩
     rw [List.take_of_length_le (Nat.le_refl _)] at hx
     simp [hx]
 · rintro fr H' ⟨⟨q,f4,hq⟩,hx,rfl⟩
   simp
   simp [RetK,cut_self hcl,f4,hx]
   exact hq
 · rintro fr H' ⟨hx,rfl⟩
   simp
   simp [RetK,cut_self hcl,hx]
theorem Has.has {f fi} (h:Has P f (irSlHas fi)) (hi:Has P fi irSlIdx) (z:Bool) (ns:List Bs) (x:Bs) (hn:ns.length≤1048576) (H:Hp):ACall P f [.d (.sl z 1 (ns.map encStr)),.d (.str x)] H (fun r H'=>r = .d (.bool (decide (x ∈ ns)))∧H'=H):=by
 obtain ⟨fn,hf,hcf⟩:=h
 refine acall_fin hf hcf (by simp [irSlHas]) fun hcl _ => ?_
 simp [irSlHas]
 refine CallK_of (hi.idx z ns x hn _) ?_
 rintro r H' ⟨⟨q,rfl,hq⟩,rfl⟩
 simp
 simp [RetK,cut_self hcl,hq]
theorem Has.keys {f} (h:Has P f irTkKeys) (H:Hp):ACall P f [] H (fun r H'=>r = .d (.sl false 1 (keysT.map encStr))∧H'=H):=by
 obtain ⟨fn,hf,hcf⟩:=h
 refine acall_fin hf hcf (by simp [irTkKeys]) fun hcl _ => ?_
 simp [irTkKeys]
 simp [RetK,cut_self hcl,keysT,encStr]
theorem Has.signs {f} (h:Has P f irTkSigns) (H:Hp):ACall P f [] H (fun r H'=>r = .d (.sl false 1 (signsT.map encStr))∧H'=H):=by
 obtain ⟨fn,hf,hcf⟩:=h
 refine acall_fin hf hcf (by simp [irTkSigns]) fun hcl _ => ?_
 simp [irTkSigns]
 simp [RetK,cut_self hcl,signsT,encStr]
theorem Has.isKey {f fk fh fi} (h:Has P f (irTkIsKey fk fh)) (hk:Has P fk irTkKeys) (hh:Has P fh (irSlHas fi)) (hi:Has P fi irSlIdx) (s:Bs) (H:Hp):ACall P f [.d (.str s)] H (fun r H'=>r = .d (.bool (decide (s ∈ keysL)))∧H'=H):=by
 obtain ⟨fn,hf,hcf⟩:=h
 refine acall_fin hf hcf (by simp [irTkIsKey]) fun hcl _ => ?_
 simp [irTkIsKey]
 refine CallK_of' (hk.keys _) ?_
 have:=hh.has hi false keysT s (by decide) H
 simp only [keysT_mem] at this
 simp
 refine CallK_of' this ?_
 simp
 simp [RetK,cut_self hcl]
theorem Has.isName {f fl fk fd} (h:Has P f (irTkIsName fl fk fd)) (hl:ByteOk P fl letterB) (hd:ByteOk P fd digitB) (hk:∀ s H,ACall P fk [.d (.str s)] H (fun r H'=>r = .d (.bool (decide (s ∈ keysL)))∧H'=H)) (s:Bs) (H:Hp):ACall P f [.d (.str s)] H (fun r H'=>r = .d (.bool (isNameB s))∧H'=H):=by
 obtain ⟨fn,hf,hcf⟩:=h
 refine acall_fin hf hcf (by simp [irTkIsName]) fun hcl _ => ?_
 cases s with
 | nil =>
   simp [irTkIsName]
   simp [RetK,cut_self hcl,isNameB]
 | cons b r =>
 generalize hS:b :: r=S
 have hb0:byteAt S 0=some b:=by subst hS; rfl
 have hN:isNameB S=(decide (S.length≤40) && !decide (S ∈ keysL) && !digitB b && S.all fun c=>letterB c || digitB c):=by subst hS; rfl
 have hall:S.all (fun c=>letterB c || digitB c)=true→letterB b=false→digitB b=true:=by
  subst hS
  intro h1 h2
  simp only [List.all_cons,Bool.and_eq_true,Bool.or_eq_true,h2] at h1
  simpa using h1.1
 have hld:letterB b=true→digitB b=false:=by
  intro h
  cases e:digitB b with
  | false=>rfl
  | true =>
    simp only [letterB,digitB,Bool.or_eq_true,Bool.and_eq_true,decide_eq_true_eq] at h e
    omega
 have hne':¬ S=[]:=by subst hS; simp
 by_cases g1:(40:Int) < S.length
 case pos =>
  have:¬ S.length≤40:=by omega
  simp [irTkIsName,hne',g1]
  simp [RetK,cut_self hcl,hN,this]
 have g1':S.length≤40:=by omega
 simp [irTkIsName,hne',g1,hb0]
 refine CallK_of' (hl b _) ?_
 cases hlb:letterB b with
 | false =>
   have hF:isNameB S=false:=by
    rw [hN]
    cases hA:S.all (fun c=>letterB c || digitB c) with
    | false=>simp
    | true=>rw [hall hA hlb]; simp
   simp
   simp [RetK,cut_self hcl,hF]
 | true =>
 simp
 refine CallK_of' (hk S _) ?_
 by_cases g2:S ∈ keysL
 case pos =>
  simp [g2]
  simp [RetK,cut_self hcl,hN,g2]
 simp [g2]
 have hN':isNameB S=S.all fun c=>letterB c || digitB c:=by rw [hN]; simp [g1',g2,hld hlb]
 refine LoopK_outR 0 (fun fr H'=>isNameB S=true∧H'=H) (fun fr H'=>fr 2 = .d (.bool false)∧isNameB S=false∧H'=H) ?_ ?_ ?_
 · refine RangeK_of H.length S.length (fun i fr H'=>fr 0 = .d (.str S)∧(∀ c ∈ S.take i,(letterB c || digitB c)=true)∧H'=H) (by omega) (by decide) (by simp) (by simp) ?_ ?_ ?_
   · simp [cut_self hcl]
   · rintro i fr H' hi f23 f22 ⟨f0,ha,rfl⟩
     have hbi:byteAt S (i:Int)=some S[i]:=by simp [byteAt,hi]
     have ht:S.take (i+1)=S.take i++[S[i]]:=List.take_succ_eq_append_getElem hi
     have hm:=List.getElem_mem hi
     generalize S[i]=c at hbi ht hm
     simp [f23,f0,hbi]
     refine CallK_of' (hl c _) ?_
     cases hc:letterB c with
     | true =>
       simp
       refine NextK_of H'.length (Nat.le_refl _) (by simp [f23,f22]) ?_
       simp [f0,cut_self hcl,ht]
       intro q hq
       rcases hq with hq | rfl
       · simpa using ha q hq
       · exact .inl hc
     | false =>
       simp [f0,hbi]
       refine CallK_of' (hd c _) ?_
       cases hdc:digitB c with
       | true =>
         simp
         refine NextK_of H'.length (Nat.le_refl _) (by simp [f23,f22]) ?_
         simp [f0,cut_self hcl,ht]
         intro q hq
         rcases hq with hq | rfl
         · simpa using ha q hq
         · exact .inr hdc
       | false =>
         have hF:isNameB S=false:=by
          rw [hN']
          exact List.all_eq_false.2 ⟨c,hm,by simp [hc,hdc]⟩
         simp [hF]
   · rintro fr H' f23 f22 ⟨f0,ha,rfl⟩
     rw [List.take_of_length_le (Nat.le_refl _)] at ha
     have hT:isNameB S=true:=by
      rw [hN']
      exact List.all_eq_true.2 ha
     simp [hT]
 · rintro fr H' ⟨f2,hF,rfl⟩
   simp
   simp [RetK,cut_self hcl,f2,hF]
 · rintro fr H' ⟨hT,rfl⟩
   simp
   simp [RetK,cut_self hcl,hT]
theorem sub_end {s:Bs} {n:Nat} (h:n≤s.length):subL s (n:Int) (s.length:Int)=some (s.drop n):=by
 rw [subL_ok ⟨by omega,by omega,by omega⟩]
 congr 1
 rw [List.take_of_length_le (by simp)]
 simp
theorem Has.sign {f fs fp} (h:Has P f (irScSign fs fp)) (hs:Has P fs irTkSigns) (hp:PrefixOk P fp) {H:Hp} {i:Nat} {ts:TypeId} {text:Bs} {n:Nat} (hi:H[i]?=some (scan ts text n)) (hn:n≤text.length) (hl:text.length≤4611686018427387904) :
 ACall P f [.ptr i 0] H (fun r H'=>r = .d (.str (signV (text.drop n)))∧H'=H.set i (scan ts text (n+(signV (text.drop n)).length))):=by
 obtain ⟨fn,hf,hcf⟩:=h
 have hil:=scan_len hi
 refine acall_fin hf hcf (by simp [irScSign]) fun hcl _ => ?_
 have hi':=hi
 unfold scan at hi'
 simp [irScSign]
 refine CallK_of' (hs.signs _) ?_
 simp
 refine LoopK_outR 0 (fun fr H'=>signV (text.drop n)=[]∧H'=H) (fun fr H'=>fr 2 = .d (.str (signV (text.drop n)))∧H'=H.set i (scan ts text (n+(signV (text.drop n)).length))) ?_ ?_ ?_
 · refine RangeK_of H.length signsT.length (fun j fr H'=>fr 0 = .ptr i 0∧fr 5 = .d (.sl false 1 (signsT.map encStr))∧(∀ x ∈ signsT.take j,x.isPrefixOf (text.drop n)=false)∧H'=H) (by decide) (by decide) (by simp) (by simp) ?_ ?_ ?_
   · simp [cut_self hcl,hil]
   · rintro j fr H' hj f7 f6 ⟨f0,f5,ha,rfl⟩
     have hr:=rowAt_map encStr hj
     have ht:signsT.take (j+1)=signsT.take j++[signsT[j]]:=List.take_succ_eq_append_getElem hj
     have hfind:signsT[j].isPrefixOf (text.drop n)=true→signV (text.drop n)=signsT[j]:=fun h=>by
      have:signsT.find? (fun x=>x.isPrefixOf (text.drop n))=some signsT[j]:=by
       rw [List.find?_eq_some_iff_getElem]
       refine ⟨h,j,hj,rfl,fun k hk => ?_⟩
       rw [ha signsT[k] (by rw [List.mem_take_iff_getElem]; exact ⟨k,by omega,rfl⟩)]
       rfl
      rw [signV,this]; rfl
     have hlen:signsT[j].length≤2:=by
      have:∀ x ∈ signsT,x.length≤2:=by decide
      exact this _ (List.getElem_mem hj)
     simp only [encStr] at hr
     generalize signsT[j]=x at hr ht hfind hlen
     simp [f7,f5,f0,hr,hi',sub_end hn]
     refine CallD_of (hp _ x _) ?_
     cases hx:x.isPrefixOf (text.drop n) with
     | true =>
       have hv:=hfind hx
       have hwr:IntKind.i64.wrap ((n:Int)+x.length)=n+x.length:=wrap_i64 (by omega) (by omega)
       have hg:H'[i]=Ob.box ts [.d (.str text),.d (.int .i64 (n:Int))]:=(List.getElem?_eq_some_iff.1 hi').2
       simp [f0,hil,hg,hwr]
       simp [hv,scan]
     | false =>
       simp
       refine NextK_of H'.length (Nat.le_refl _) (by simp [f7,f6]) ?_
       simp [f0,f5,cut_self hcl,ht]
       refine ⟨hil,?_⟩
       intro q hq
       rcases hq with hq | rfl
       · simpa using ha q hq
       · simpa using hx
   · rintro fr H' f7 f6 ⟨f0,f5,ha,rfl⟩
     rw [List.take_of_length_le (Nat.le_refl _)] at ha
     have:signsT.find? (fun x=>x.isPrefixOf (text.drop n))=none:=by
      rw [List.find?_eq_none]
      intro x hx
      rw [ha x hx]; simp
     simp [signV,this]
 · rintro fr H' ⟨f2,rfl⟩
   simp
   simp [RetK,Hp.cut_set,cut_self hcl,hil,scan,f2]
 · rintro fr H' ⟨hv,rfl⟩
   simp
   simp [RetK,cut_self hcl,hv]
   exact (Hp.set_self hi).symm
end
end
section
def unesc (c:UInt8):Option UInt8:=if c=110 then some 10 else if c=116 then some 9 else if c=34 then some 34 else if c=92 then some 92 else none
def unqI:Bs→Option Bs
 | []=>some []
 | [b]=>if b=92 then none else if b.toNat < 32∨b=34 then none else some [b]
 | b :: c :: r=>if b=92 then (unesc c).bind fun x=>(unqI r).map (x :: ·) else if b.toNat < 32∨b=34 then none else (unqI (c :: r)).map (b :: ·)
def unqV (s:Bs):Option Bs:=if s.length < 2∨s.head? ≠ some 34∨s.getLast? ≠ some 34 then none else unqI ((s.drop 1).take (s.length - 2))
def unqR:Option Bs→A
 | some x => .tup [.d (.str x),.d (.int .i64 0)]
 | none => .tup [.d (.str []),.d (.int .i64 22)]
def IndexOk (P:Program) (f:FuncId):Prop:=∀ (s:Bs) (c:UInt8) H,ACall P f [.d (.str s),.d (.int .u8 c.toNat)] H (fun r H'=>r = .d (.int .i64 (Lib.indexByte s c))∧H'=H)
def WriteBOk (P : Program) (f : FuncId) (bt : TypeId) : Prop := ∀ (H : Hp) (i t : Nat) (a : A) (bs : List UInt8) (c : UInt8), H[i]? = some (.box bt [a, .osl true 1 (byteRows bs) t]) → (a = .d .nilp ∨ a = .ptr i 0) → H[t]? = some (.tok bs.length 1 5) → bs.length + 1 ≤ 140737488355328 →
    ACall P f [.ptr i 0,.d (.int .u8 c.toNat)] H (fun r H'=>r = .d .nili∧H'=(H.set i (.box bt [.ptr i 0,.osl true 1 (byteRows (bs++[c])) t])).set t (.tok (bs++[c]).length 1 5))
theorem index_unesc (c:UInt8):(∃ x,unesc c=some x∧0≤Lib.indexByte [110,116,34,92] c∧byteAt [10,9,34,92] (Lib.indexByte [110,116,34,92] c)=some x)∨(unesc c=none∧Lib.indexByte [110,116,34,92] c < 0):=by
 by_cases h1:c=110
 · subst h1; exact .inl ⟨10,by decide,by decide,by decide⟩
 by_cases h2:c=116
 · subst h2; exact .inl ⟨9,by decide,by decide,by decide⟩
 by_cases h3:c=34
 · subst h3; exact .inl ⟨34,by decide,by decide,by decide⟩
 by_cases h4:c=92
 · subst h4; exact .inl ⟨92,by decide,by decide,by decide⟩
 have e:Lib.indexByte [110,116,34,92] c = -1:=by
  have g:∀ x:UInt8,c ≠ x→(x == c)=false:=fun x h=>by simpa using Ne.symm h
  simp [Lib.indexByte,g _ h1,g _ h2,g _ h3,g _ h4]
 rw [e]
 exact .inr ⟨by simp [unesc,h1,h2,h3,h4],by decide⟩
theorem byteAt_nat (s:Bs) (n:Nat):byteAt s (n:Int)=s[n]?:=by
 have:¬ ((n:Int) < 0):=by omega
 simp [byteAt]
theorem byte_eq (b c:UInt8):((b.toNat:Int)=(c.toNat:Int)) ↔ b=c:=by
 constructor
 · intro e; exact UInt8.toNat_inj.1 (by omega)
 · rintro rfl; rfl
section
variable {P:Program}
theorem HasT.unquote {f fi fw fs bt} (h:HasT P [4] f (irRnUnquote fi fw fs bt 5)) (hi:IndexOk P fi) (hw:WriteBOk P fw bt) (hs:StringOk P fs bt) (s:Bs) (hl:s.length≤1048576) (H:Hp) :
 ACall P f [.d (.str s)] H (fun r H'=>r=unqR (unqV s)∧H'=H):=by
 obtain ⟨fn,hf,hcf⟩:=h
 refine acall_fin hf hcf (by simp [irRnUnquote]) fun hcl _ => ?_
 by_cases h1:s.length < 2
 case pos =>
  have h1':(s.length:Int) < 2:=by omega
  simp [irRnUnquote,h1']
  simp [RetK,cut_self hcl,unqV,unqR,h1]
 have h1':¬ (s.length:Int) < 2:=by omega
 obtain ⟨b0,hb0⟩:∃ b,byteAt s 0=some b:=⟨s[0],by simp [byteAt]⟩
 obtain ⟨b1,hb1⟩:∃ b,byteAt s ((s.length:Int) - 1)=some b:=by
  refine ⟨s[s.length - 1],?_⟩
  have e:((s.length:Int) - 1)=((s.length - 1:Nat):Int):=by omega
  rw [e,byteAt_nat,List.getElem?_eq_getElem]
 have hh:s.head?=some b0:=by
  cases s with
  | nil=>simp at h1
  | cons a r=>simpa [byteAt] using hb0
 have hg:s.getLast?=some b1:=by
  have e:((s.length:Int) - 1)=((s.length - 1:Nat):Int):=by omega
  rw [List.getLast?_eq_getElem?,← byteAt_nat,← e]
  exact hb1
 have hwm:IntKind.i64.wrap ((s.length:Int) - 1)=s.length - 1:=wrap_i64 (by omega) (by omega)
 have byte34:∀ b:UInt8,((b.toNat:Int)=34) ↔ b=34:=fun b=>byte_eq b 34
 have byte92:∀ b:UInt8,((b.toNat:Int)=92) ↔ b=92:=fun b=>byte_eq b 92
 by_cases h2:b0=34
 case neg =>
  have h2':¬ ((b0.toNat:Int)=34):=fun e=>h2 ((byte34 _).1 e)
  simp [irRnUnquote,h1',hb0,h2']
  simp [RetK,cut_self hcl,unqV,unqR,hh,h2]
 by_cases h3:b1=34
 case neg =>
  have h3':¬ ((b1.toNat:Int)=34):=fun e=>h3 ((byte34 _).1 e)
  simp [irRnUnquote,h1',hb0,h2,hwm,hb1,h3']
  simp [RetK,cut_self hcl,unqV,unqR,hg,h3]
 subst h2; subst h3
 simp [irRnUnquote,h1',hb0,hwm,hb1]
 have hU:unqV s=unqI ((s.drop 1).take (s.length - 2)):=by simp [unqV,h1,hh,hg]
 rw [hU]
 have hb34:∀ b,byteAt s ((s.length:Int) - 1)=some b→b=34:=fun b e=>by rw [hb1] at e; exact (Option.some.inj e).symm
 obtain ⟨m,hm⟩:∃ m,s.length=m+2:=⟨s.length - 2,by omega⟩
 obtain ⟨I,hI⟩:∃ I,I=(s.drop 1).take (s.length - 2):=⟨_,rfl⟩
 rw [← hI]
 have hmi:I.length=m:=by rw [hI]; simp; omega
 have hbyte:∀ j:Nat,j < m→byteAt s ((1:Int)+j)=I[j]?:=fun j hj=>by
  have e:((1:Int)+j)=((j+1:Nat):Int):=by omega
  rw [e,byteAt_nat,hI,List.getElem?_take,if_pos (by omega),List.getElem?_drop]
  congr 1; omega
 have hbend:byteAt s ((1:Int)+m)=some 34:=by
  have e:((1:Int)+m)=(s.length:Int) - 1:=by omega
  rw [e,hb1]
 clear hI hU
 refine LoopK_outR 0 (fun fr H'=>∃ x a,unqI I=some x∧x.length≤m∧fr 4 = .ptr (H.length+1) 0∧H'=H++[.tok x.length 1 5,.box bt [a,.osl true 1 (byteRows x) H.length]]) (fun fr H'=>fr 2 = .d (.str [])∧fr 3 = .d (.int .i64 22)∧unqI I=none∧∃ X,H'=H++X) ?_ ?_ ?_
 · refine LoopM_of (H.length+2) (fun d fr H'=>∃ j x a,d=m - j∧j≤m∧unqI I=(unqI (I.drop j)).map (x ++ ·)∧x.length≤j∧(a = .d .nilp∨a = .ptr (H.length+1) 0)∧fr 0 = .d (.str s)∧fr 4 = .ptr (H.length+1) 0∧fr 5 = .d (.int .i64 (1+(j:Int)))∧H'=H++[.tok x.length 1 5,.box bt [a,.osl true 1 (byteRows x) H.length]]) m (by simp) ⟨0,[],.d .nilp,?_⟩ ?_
   · simp [cut_appk hcl,byteRows]
   rintro d fr H' ⟨j,x,a,rfl,hj,hq,hxl,ha,f0,f4,f5,rfl⟩
   simp [f5,f0,hwm]
   refine BrK_split (fun hlt => ?_) (fun hlt => ?_)
   · have hjm : j < m := by have : 1 + (j : Int) < (s.length : Int) - 1 := by simpa using hlt
                            omega
     have hb:=hbyte j hjm
     rw [List.getElem?_eq_getElem (by omega)] at hb
     have hdr:I.drop j=I[j]'(by omega) :: I.drop (j+1):=List.drop_eq_getElem_cons (by omega)
     generalize I[j]'(by omega)=b at hb hdr
     rw [hdr] at hq
     have hw1:IntKind.i64.wrap (1+(j:Int)+1)=1+((j:Int)+1):=by rw [wrap_i64 (by omega) (by omega)]; omega
     have hw2:IntKind.i64.wrap (1+((j:Int)+1)+1)=1+((j:Int)+1+1):=by rw [wrap_i64 (by omega) (by omega)]; omega
     have put:=fun (c:UInt8)=>hw (H++[.tok x.length 1 5,.box bt [a,.osl true 1 (byteRows x) H.length]]) (H.length+1) H.length a x c (by simp) ha (by simp) (by omega)
     simp at put
     simp [f5,f0,hb]
     refine BrK_split (fun h92 => ?_) (fun h92 => ?_)
     · have h92:b=92:=(byte92 b).1 (by simpa using h92)
       subst h92
       by_cases hj1:j+1=m
       · have hnone:unqI I=none:=by
          have:I.drop (j+1)=[]:=List.drop_eq_nil_of_le (by omega)
          rw [hq,this]; rfl
         have hbe:byteAt s (1+((j:Int)+1))=some 34:=by
          have e:(1+((j:Int)+1))=1+(m:Int):=by omega
          rw [e,hbend]
         have heq:1+((j:Int)+1)=(s.length:Int) - 1:=by omega
         simp [f5,f0,hw1,hbe]
         refine CallK_of' (hi [110,116,34,92] 34 _) ?_
         have hk:Lib.indexByte [110,116,34,92] 34=2:=by decide
         rw [hk]
         simp [hw1,f0,hwm,heq,hnone]
       · have hjl:j+1 < m:=by omega
         have hbc:=hbyte (j+1) hjl
         rw [List.getElem?_eq_getElem (by omega)] at hbc
         have hdc:I.drop (j+1)=I[j+1]'(by omega) :: I.drop (j+1+1):=List.drop_eq_getElem_cons (by omega)
         generalize I[j+1]'(by omega)=c at hbc hdc
         rw [hdc] at hq
         simp only [Int.natCast_add,Int.natCast_one] at hbc
         have hne:¬ (1+((j:Int)+1)=(s.length:Int) - 1):=by omega
         simp [f5,f0,hw1,hbc]
         refine CallK_of' (hi [110,116,34,92] c _) ?_
         rcases index_unesc c with ⟨y,g1,g2,g3⟩ | ⟨g1,g2⟩
         · have hq':unqI I=(unqI (I.drop (j+1+1))).map ((x++[y]) ++ ·):=by
            rw [hq]
            simp only [unqI,g1]
            cases unqI (I.drop (j+1+1))<;>simp
           generalize Lib.indexByte [110,116,34,92] c=k at g2 g3
           have hk:¬ k < 0:=by omega
           simp [hw1,f0,f4,hwm,hne,hk,g3]
           refine CallK_of' (put y) ?_
           simp [hw2]
           refine NextM_of (H.length+2) (m - (j+2)) (Nat.le_refl _) (by simp) (by omega) ⟨j+2,x++[y],.ptr (H.length+1) 0,rfl,by omega,hq',by simp; omega,.inr rfl,?_⟩
           simp [f0,f4,cut_appk hcl,hw2]
           omega
         · have hnone:unqI I=none:=by
            rw [hq]
            simp [unqI,g1]
           generalize Lib.indexByte [110,116,34,92] c=k at g2
           simp [hw1,f0,hwm,g2,hnone]
     · have h92:¬ b=92:=fun e=>by simp [e] at h92
       have hu:∀ r,unqI (b :: r)=if b.toNat < 32∨b=34 then none else (unqI r).map (b :: ·):=fun r=>by
        cases r with
        | nil=>simp [unqI,h92]
        | cons c r=>simp [unqI,h92]
       rw [hu] at hq
       by_cases hlo:b.toNat < 32
       · have hnone:unqI I=none:=by rw [hq]; simp [hlo]
         have hlo':(b.toNat:Int) < 32:=by omega
         simp [f5,f0,hb,hlo',hnone]
       · have hlo':¬ (b.toNat:Int) < 32:=by omega
         by_cases h34:b=34
         · have hnone:unqI I=none:=by rw [hq]; simp [h34]
           subst h34
           simp [f5,f0,hb,hlo',hnone]
         · have h34':¬ (b.toNat:Int)=34:=fun e=>h34 ((byte34 _).1 e)
           have hq':unqI I=(unqI (I.drop (j+1))).map ((x++[b]) ++ ·):=by
            rw [hq,if_neg (by simp [hlo,h34])]
            cases unqI (I.drop (j+1))<;>simp
           simp [f5,f0,f4,hb,hlo',h34']
           refine CallK_of' (put b) ?_
           simp [f5,hw1]
           refine NextM_of (H.length+2) (m - (j+1)) (Nat.le_refl _) (by simp) (by omega) ⟨j+1,x++[b],.ptr (H.length+1) 0,rfl,by omega,hq',by simp; omega,.inr rfl,?_⟩
           simp [f0,f4,cut_appk hcl,hw1]
   · have hjm : j = m := by have : ¬ (1 + (j : Int) < (s.length : Int) - 1) := by simpa using hlt
                            omega
     subst hjm
     rw [List.drop_eq_nil_of_le (by omega),unqI] at hq
     simp [f4]
     refine ⟨x,by simpa using hq,hxl,?_⟩
     simp
 · rintro fr H' ⟨f2,f3,hn,X,rfl⟩
   simp
   simp [RetK,cut_app hcl,f2,f3,hn,unqR]
 · rintro fr H' ⟨x,a,hx,hxl,f4,rfl⟩
   simp [f4]
   have w3:=hs (H++[.tok x.length 1 5,.box bt [a,.osl true 1 (byteRows x) H.length]]) (H.length+1) H.length a x (by simp) (by simp) (by omega)
   refine CallK_of' w3 ?_
   simp
   simp [RetK,cut_app hcl,hx,unqR]
end
end
section
def Pre0 (H0 H:Hp):Prop:=∃ X,H=H0++X
theorem Pre0.app {H0 H:Hp} (h:Pre0 H0 H) (X:Hp):Pre0 H0 (H++X):=by obtain ⟨Y,rfl⟩:=h; exact ⟨Y++X,by simp⟩
theorem Pre0.self (H:Hp):Pre0 H H:=⟨[],by simp⟩
def strS:Bs→Option Nat
 | []=>none
 | [b]=>if b=34 then some 1 else none
 | b :: c :: r=>if b=34 then some 1 else if b=92 then (strS r).map (·+2) else if b=10 then none else (strS (c :: r)).map (·+1)
def strV (s:Bs):Bs × Int:=match strS (s.drop 1) with
 | none=>([],22)
 | some k=>(s.take (k+1),if (unqV (s.take (k+1))).isSome then 0 else 22)
theorem strS_le:∀ {s:Bs} {k:Nat},strS s=some k→1≤k∧k≤s.length
 | [],k,h=>by simp [strS] at h
 | [b], k, h => by
   simp only [strS] at h
   split at h
   · simp at h ⊢; omega
   · cases h
 | b :: c :: r, k, h => by
   simp only [strS] at h
   split at h
   · simp at h ⊢; omega
   split at h
   · cases e:strS r with
     | none=>simp [e] at h
     | some q=>have:=strS_le e; simp [e] at h; simp; omega
   split at h
   · cases h
   · cases e:strS (c :: r) with
     | none=>simp [e] at h
     | some q=>have:=strS_le e; simp [e] at h; simp at this ⊢; omega
section
variable {P:Program}
theorem Has.str {f fu} (h:Has P f (irScStr fu)) (hu:∀ (s:Bs) H,s.length≤1048576→ACall P fu [.d (.str s)] H (fun r H'=>r=unqR (unqV s)∧H'=H)) {H:Hp} {i:Nat} {ts:TypeId} {text:Bs} {n:Nat} (hi:H[i]?=some (scan ts text n)) (hn:n < text.length) (hl:text.length≤1048576) :
 ACall P f [.ptr i 0] H (fun r H'=>(∃ k:Nat,r = .tup [.d (.str (strV (text.drop n)).1),.d (.int .i64 (strV (text.drop n)).2)]∧H'=H.set i (scan ts text k)∧((strV (text.drop n)).2=0→k=n+(strV (text.drop n)).1.length))):=by
 obtain ⟨fn,hf,hcf⟩:=h
 have hil:=scan_len hi
 refine acall_fin hf hcf (by simp [irScStr]) fun hcl _ => ?_
 have hg:H[i]=Ob.box ts [.d (.str text),.d (.int .i64 (n:Int))]:=(List.getElem?_eq_some_iff.1 hi).2
 have hw0:IntKind.i64.wrap ((n:Int)+1)=n+1:=wrap_i64 (by omega) (by omega)
 simp [irScStr,hil,hg,hw0]
 have hrest:(text.drop n).drop 1=text.drop (n+1):=by rw [List.drop_drop]
 have hSV:strV (text.drop n)=match strS (text.drop (n+1)) with
  | none=>([],22)
  | some k=>((text.drop n).take (k+1),if (unqV ((text.drop n).take (k+1))).isSome then 0 else 22):=by rw [strV,hrest]
 refine LoopK_outR 0 (fun fr H'=>strS (text.drop (n+1))=none∧∃ k:Nat,H'=H.set i (scan ts text k)) (fun fr H'=>∃ k:Nat,fr 2 = .d (.str (strV (text.drop n)).1)∧fr 3 = .d (.int .i64 (strV (text.drop n)).2)∧H'=H.set i (scan ts text k)∧((strV (text.drop n)).2=0→k=n+(strV (text.drop n)).1.length)) ?_ ?_ ?_
 · refine LoopM_of H.length (fun d fr H'=>∃ j:Nat,d=text.length+1 - (n+1+j)∧n+1+j≤text.length+1∧strS (text.drop (n+1))=(strS (text.drop (n+1+j))).map (·+j)∧fr 0 = .ptr i 0∧fr 4 = .d (.int .i64 (n:Int))∧H'=H.set i (scan ts text (n+1+j))) (text.length+1 - (n+1+0)) (by simp) ⟨0,rfl,by omega,?_,?_⟩ ?_
   · simp
   · simp [cut_self hcl,Hp.cut_set,hil,scan]
   rintro d fr H' ⟨j,rfl,hj,hq,f0,f4,rfl⟩
   simp [f0,hil,scan]
   refine BrK_split (fun hlt => ?_) (fun hlt => ?_)
   · have hlt' : n + 1 + j < text.length := by have : (n : Int) + 1 + j < text.length := by simpa using hlt
                                               omega
     have hdr:text.drop (n+1+j)=text[n+1+j] :: text.drop (n+1+j+1):=List.drop_eq_getElem_cons hlt'
     have hb:byteAt text ((n:Int)+1+j)=some text[n+1+j]:=by
      have e:((n:Int)+1+j)=((n+1+j:Nat):Int):=by omega
      rw [e,byteAt_nat,List.getElem?_eq_getElem hlt']
     generalize text[n+1+j]=b at hdr hb
     have hw1:IntKind.i64.wrap ((n:Int)+1+j+1)=(n:Int)+1+(j+1):=by rw [wrap_i64 (by omega) (by omega)]; omega
     have hw2:IntKind.i64.wrap ((n:Int)+1+(j+1)+1)=(n:Int)+1+(j+1+1):=by rw [wrap_i64 (by omega) (by omega)]; omega
     simp [f0,hil,hb]
     refine BrK_split (fun h34 => ?_) (fun h34 => ?_)
     · have h34:b=34:=(byte_eq b 34).1 (by simpa using h34)
       subst h34
       have hS:strS (text.drop (n+1))=some (j+1):=by
        rw [hq,hdr]
        cases text.drop (n+1+j+1)<;>simp [strS]<;>omega
       have hsub:subL text (n:Int) ((n:Int)+1+(j+1))=some ((text.drop n).take (j+1+1)):=by
        have:=sub_ok (s:=text) (n:=n) (w:=j+1+1) (by omega)
        rw [← this]; congr 1; omega
       simp only [hS] at hSV
       have hU:=hu ((text.drop n).take (j+1+1)) (H.set i (scan ts text (n+1+(j+1)))) (by simp; omega)
       have hlen:((text.drop n).take (j+1+1)).length=j+1+1:=by simp; omega
       generalize (text.drop n).take (j+1+1)=T at hSV hsub hU hlen
       simp [f0,f4,hil,hw1,hsub]
       simp [scan] at hU
       refine CallK_of' hU ?_
       cases hv:unqV T with
       | none =>
         simp [unqR]
         exact ⟨by simp [hSV],by simp [hSV,hv],n+1+(j+1),by simp [scan],fun h=>by simp [hSV,hv] at h⟩
       | some x =>
         simp [unqR]
         exact ⟨by simp [hSV],by simp [hSV,hv],n+1+(j+1),by simp [scan],fun h=>by simp [hSV,hlen]; omega⟩
     · have h34:¬ b=34:=fun e=>by simp [e] at h34
       simp
       refine BrK_split (fun h92 => ?_) (fun h92 => ?_)
       · have h92:b=92:=(byte_eq b 92).1 (by simpa using h92)
         subst h92
         simp [f0,hil,hw1,hw2]
         refine NextM_of H.length (text.length+1 - (n+1+(j+2))) (Nat.le_refl _) (by simp) (by omega) ⟨j+2,rfl,by omega,?_,?_⟩
         · rw [hq,hdr]
           have e2:n+1+(j+2)=n+1+j+1+1:=by omega
           rw [e2]
           cases hd2:text.drop (n+1+j+1) with
           | nil =>
             have:text.drop (n+1+j+1+1)=[]:=by
              rw [← List.drop_drop,hd2]; rfl
             rw [this]; simp [strS]
           | cons c r =>
             have:text.drop (n+1+j+1+1)=r:=by
              rw [← List.drop_drop,hd2]; rfl
             rw [this]
             simp only [strS]
             simp
             cases strS r<;>simp<;>omega
         · simp [f0,f4,Hp.cut_set,cut_self hcl,hil,scan,hw2]
           have e3:(n:Int)+1+((j:Int)+1+1)=n+1+(j+2):=by omega
           rw [e3]
       · have h92:¬ b=92:=fun e=>by simp [e] at h92
         simp
         refine BrK_split (fun h10 => ?_) (fun h10 => ?_)
         · have h10:b=10:=(byte_eq b 10).1 (by simpa using h10)
           subst h10
           have hS:strS (text.drop (n+1))=none:=by
            rw [hq,hdr]
            cases text.drop (n+1+j+1)<;>simp [strS]
           simp only [hS] at hSV
           simp [hSV]
           exact ⟨n+1+j,by simp [scan]⟩
         · have h10:¬ b=10:=fun e=>by simp [e] at h10
           simp [f0,hil,hw1]
           refine NextM_of H.length (text.length+1 - (n+1+(j+1))) (Nat.le_refl _) (by simp) (by omega) ⟨j+1,rfl,by omega,?_,?_⟩
           · rw [hq,hdr]
             have e2:n+1+(j+1)=n+1+j+1:=by omega
             rw [e2]
             cases hd2:text.drop (n+1+j+1) with
             | nil=>simp [strS,h34]
             | cons c r =>
               simp only [strS,h34,h92,h10]
               simp
               cases strS (c :: r)<;>simp<;>omega
           · simp [f0,f4,Hp.cut_set,cut_self hcl,hil,scan]
   · have hge : text.length ≤ n + 1 + j := by have : ¬ ((n : Int) + 1 + j < text.length) := by simpa using hlt
                                              omega
     have hS:strS (text.drop (n+1))=none:=by
      rw [hq,List.drop_eq_nil_of_le hge]; rfl
     simp [hS]
     exact ⟨n+1+j,by simp [scan]⟩
 · rintro fr H' ⟨k,f2,f3,rfl,hk⟩
   simp
   simp [RetK,Hp.cut_set,cut_self hcl,hil,scan,f2,f3]
   exact ⟨k,rfl,hk⟩
 · rintro fr H' ⟨hS,k,rfl⟩
   simp only [hS] at hSV
   simp
   simp [RetK,Hp.cut_set,cut_self hcl,hil,scan,hSV]
   exact ⟨k,rfl⟩
end
end
section
def numOk (s:Bs):Bool:=match Lib.parseUintB 63 s with
 | .ok _=>true
 | _=>false
def tokN:Bs→Int × Int × Nat
 | []=>(0,0,0)
 | b :: r =>
   if letterB b then
    if (b :: r).take (runN wordB (b :: r)) ∈ keysL then (0,2,runN wordB (b :: r)) else if 40 < runN wordB (b :: r) then (26,0,0) else (0,1,runN wordB (b :: r))
   else if digitB b then
    if numOk ((b :: r).take (runN wordB (b :: r))) then (0,3,runN wordB (b :: r)) else (23,0,0)
   else if b=34 then
    if (strV (b :: r)).2=0 then (0,4,(strV (b :: r)).1.length) else (22,0,0)
   else if signV (b :: r)=[] then (21,0,0) else (0,5,(signV (b :: r)).length)
theorem strV_err (s:Bs):(strV s).2=0∨(strV s).2=22:=by
 unfold strV
 split
 · exact .inr rfl
 · simp only
   split<;>simp
theorem strV_take (s:Bs):(strV s).2=0→s.take (strV s).1.length=(strV s).1:=by
 unfold strV
 split
 · simp
 · rename_i k hk
   have:=strS_le hk
   intro _
   simp only [List.length_take]
   simp only [List.length_drop] at this
   rw [Nat.min_eq_left (by omega)]
theorem signV_take (s:Bs):s.take (signV s).length=signV s:=by
 unfold signV
 cases h:signsT.find? (fun x=>x.isPrefixOf s) with
 | none=>simp
 | some x =>
   have:=List.find?_some h
   have hp:x <+: s:=List.isPrefixOf_iff_prefix.1 (by simpa using this)
   simp only [Option.getD_some]
   exact (List.prefix_iff_eq_take.1 hp).symm
def NumOk (P:Program) (H0:Hp) (f:FuncId):Prop:=∀ (s:Bs) H,Pre0 H0 H→s.length≤1048576→ACall P f [.d (.str s)] H (fun r H'=>r = .d (.int .i64 (if numOk s then 0 else 23))∧H'=H)
def NextQ (H:Hp) (i:Nat) (ts:TypeId) (text:Bs) (n:Nat) (S:Bs) (T:Int × Int × Nat):A→Hp→Prop:=fun r H'=>∃ (k:Int) (x:Bs) (m:Nat),r = .tup [.agg [.d (.int .i64 k),.d (.int .i64 (n:Int)),.d (.str []),.d (.str x)],.d (.int .i64 T.1)]∧H'=H.set i (scan ts text m)∧(T.1=0→k=T.2.1∧x=S.take T.2.2∧m=n+T.2.2)
section
variable {P:Program}
theorem Has.next {H0:Hp} {f fm fl fw fk fd fn fs fg tt} (h:Has P f (irScNext fm fl fw fk fd fn fs fg tt)) (hm:Has P fm irScMore) (kl:callOk P fl=true) (hl:ByteOk P fl letterB) (kd:callOk P fd=true) (hd':ByteOk P fd digitB)
 (hw:∀ {H:Hp} {i:Nat} {ts:TypeId} {text:Bs} {n:Nat},H[i]?=some (scan ts text n)→n≤text.length→text.length≤1048576→ACall P fw [.ptr i 0] H (fun r H'=>r = .d (.str ((text.drop n).take (runN Zam.wordB (text.drop n))))∧H'=H.set i (scan ts text (n+runN Zam.wordB (text.drop n)))))
 (hk:∀ s H,ACall P fk [.d (.str s)] H (fun r H'=>r = .d (.bool (decide (s ∈ keysL)))∧H'=H)) (hn:NumOk P H0 fn)
 (hs:∀ {H:Hp} {i:Nat} {ts:TypeId} {text:Bs} {n:Nat},H[i]?=some (scan ts text n)→n < text.length→text.length≤1048576→ACall P fs [.ptr i 0] H (fun r H'=>(∃ k:Nat,r = .tup [.d (.str (strV (text.drop n)).1),.d (.int .i64 (strV (text.drop n)).2)]∧H'=H.set i (scan ts text k)∧((strV (text.drop n)).2=0→k=n+(strV (text.drop n)).1.length))))
 (hg:∀ {H:Hp} {i:Nat} {ts:TypeId} {text:Bs} {n:Nat},H[i]?=some (scan ts text n)→n≤text.length→text.length≤1048576→ACall P fg [.ptr i 0] H (fun r H'=>r = .d (.str (signV (text.drop n)))∧H'=H.set i (scan ts text (n+(signV (text.drop n)).length))))
 {H:Hp} {i:Nat} {ts:TypeId} {text:Bs} {n:Nat} (hH:Pre0 H0 H) (h0i:H0.length≤i) (hi:H[i]?=some (scan ts text n)) (hnl:n≤text.length) (htl:text.length≤1048576) :
 ACall P f [.ptr i 0] H (NextQ H i ts text n (text.drop n) (tokN (text.drop n))):=by
 obtain ⟨fnn,hf,hcf⟩:=h
 have hil:=scan_len hi
 have hpre:∀ o X,Pre0 H0 (H.set i o++X):=fun o X=>by
  obtain ⟨Y,rfl⟩:=hH
  rw [List.set_append_right _ _ h0i,List.append_assoc]
  exact ⟨_,rfl⟩
 refine acall_fin hf hcf (by simp [irScNext]) fun hcl _ => ?_
 have hgi:H[i]=Ob.box ts [.d (.str text),.d (.int .i64 (n:Int))]:=(List.getElem?_eq_some_iff.1 hi).2
 have hil':i < H.length+1:=by omega
 have hset:∀ (o o':Ob) ,(H.set i o++[o']).length=H.length+1:=fun o o'=>by simp
 have hhi:∀ o',(H++[o'])[i]?=some (scan ts text n):=fun o'=>by rw [List.getElem?_append_left hil]; exact hi
 have hset2:∀ o o',(H++[o']).set i o=H.set i o++[o']:=fun o o'=>by rw [List.set_append_left _ _ hil]
 have hfin:∀ (S:Bs) (T:Int × Int × Nat) (x:Bs) (k e:Int) (m:Nat) (HB:Hp),HB=H.set i (scan ts text m)++[Ob.box tt [.d (.int .i64 k),.d (.int .i64 (n:Int)),.d (.str []),.d (.str x)]]→e=T.1→(T.1=0→k=T.2.1∧x=S.take T.2.2∧m=n+T.2.2) →
  RetK (NextQ H i ts text n S T) .mk H.length (some (.tup [.agg [.d (.int .i64 k),.d (.int .i64 (n:Int)),.d (.str []),.d (.str x)],.d (.int .i64 e)])) HB:=by
  intro S T x k e m HB hHB he hp
  subst he
  have hc:Hp.cut H.length HB=H.set i (scan ts text m):=by
   rw [hHB,← hset2,Hp.cut_set,cut_app hcl]; simp [scan]
  have hq:NextQ H i ts text n S T (.tup [.agg [.d (.int .i64 k),.d (.int .i64 (n:Int)),.d (.str []),.d (.str x)],.d (.int .i64 T.1)]) (H.set i (scan ts text m)):=⟨k,x,m,rfl,rfl,hp⟩
  have hl:H.length≤HB.length:=by rw [hHB]; simp
  generalize NextQ H i ts text n S T=Q at hq ⊢
  simp [RetK,hc,hl]
  exact hq
 simp [irScNext,hil,hgi,hil',List.getElem_append_left]
 cases hd:text.drop n with
 | nil =>
   have hn0:n=text.length:=by
    have:=List.drop_eq_nil_iff.1 hd
    omega
   have hn1:decide ((n:Int)=text.length)=true:=decide_eq_true (by omega)
   rw [hn1]
   simp
   exact hfin _ _ _ _ _ n _ (by rw [Hp.set_self hi]) rfl (by simp [tokN])
 | cons b r =>
 obtain ⟨hb,hlt⟩:=byteAt_drop hd
 have hn1:¬ ((n:Int)=text.length):=by omega
 have hT:tokN (b :: r)=if letterB b then
  if (b :: r).take (runN Zam.wordB (b :: r)) ∈ keysL then (0,2,runN Zam.wordB (b :: r)) else if 40 < runN Zam.wordB (b :: r) then (26,0,0) else (0,1,runN Zam.wordB (b :: r))
  else if digitB b then
   if numOk ((b :: r).take (runN Zam.wordB (b :: r))) then (0,3,runN Zam.wordB (b :: r)) else (23,0,0)
  else if b=34 then
   if (strV (b :: r)).2=0 then (0,4,(strV (b :: r)).1.length) else (22,0,0)
  else if signV (b :: r)=[] then (21,0,0) else (0,5,(signV (b :: r)).length):=rfl
 generalize tokN (b :: r)=T at hT
 have g1:=fun o'=>hm.more kl hl (hhi o')
 have g2:=fun o'=>hm.more kd hd' (hhi o')
 have g3:=fun o'=>hw (hhi o') hnl htl
 have g4:=fun o'=>hs (hhi o') hlt htl
 have g5:=fun o'=>hg (hhi o') hnl htl
 rw [hd] at g1 g2
 simp only [hd,hset2] at g3 g4 g5
 have hrl:=runN_le Zam.wordB (b :: r)
 have hbl:(b :: r).length=text.length - n:=by rw [← hd]; simp
 have hrw:((b :: r).take (runN Zam.wordB (b :: r))).length=runN Zam.wordB (b :: r):=by simp only [List.length_take]; omega
 simp only [moreB] at g1 g2
 simp [hn1]
 refine CallK_of' (g1 _) ?_
 cases hlb:letterB b with
 | true =>
   rw [hlb,if_pos rfl] at hT
   simp
   refine CallK_of' (g3 _) ?_
   generalize hWd:(b :: r).take (runN Zam.wordB (b :: r))=W at hT hrw
   generalize runN Zam.wordB (b :: r)=w at hT hrw hWd
   simp
   refine CallK_of' (hk W _) ?_
   by_cases hkW:W ∈ keysL
   · rw [if_pos hkW] at hT
     simp [hkW]
     exact hfin _ _ _ _ _ (n+w) _ rfl (by rw [hT]) (by simp [hT,hWd])
   · rw [if_neg hkW] at hT
     by_cases h40:40 < w
     · rw [if_pos h40] at hT
       have h40':(40:Int) < w:=by omega
       simp [hkW,hrw,h40']
       exact hfin _ _ _ _ _ (n+w) _ rfl (by rw [hT]) (by simp [hT])
     · rw [if_neg h40] at hT
       have h40':¬ (40:Int) < w:=by omega
       simp [hkW,hrw,h40']
       exact hfin _ _ _ _ _ (n+w) _ rfl (by rw [hT]) (by simp [hT,hWd])
 | false =>
   rw [hlb] at hT
   simp only [Bool.false_eq_true,if_false] at hT
   simp
   refine CallK_of' (g2 _) ?_
   cases hdb:digitB b with
   | true =>
     rw [hdb,if_pos rfl] at hT
     simp
     refine CallK_of' (g3 _) ?_
     generalize hWd:(b :: r).take (runN Zam.wordB (b :: r))=W at hT hrw
     generalize runN Zam.wordB (b :: r)=w at hT hrw hWd hrl
     simp
     refine CallD_of (hn W _ (hpre _ _) (by omega)) ?_
     cases hnu:numOk W with
     | true =>
       rw [hnu,if_pos rfl] at hT
       simp
       exact hfin _ _ _ _ _ (n+w) _ rfl (by rw [hT]) (by simp [hT,hWd])
     | false =>
       rw [hnu] at hT
       simp only [Bool.false_eq_true,if_false] at hT
       simp
       exact hfin _ _ _ _ _ (n+w) _ rfl (by rw [hT]) (by simp [hT])
   | false =>
     rw [hdb] at hT
     simp only [Bool.false_eq_true,if_false] at hT
     simp [hil,hil',hgi,hb,List.getElem_append_left]
     by_cases h34:b=34
     · rw [if_pos h34] at hT
       have h34':(b.toNat:Int)=34:=(byte_eq b 34).2 h34
       simp [h34']
       refine CallK_of (g4 _) ?_
       rintro x H1 ⟨k,rfl,rfl,hk2⟩
       have hst:=strV_take (b :: r)
       have hse:=strV_err (b :: r)
       generalize strV (b :: r)=SV at hT hk2 hst hse
       obtain ⟨S,e⟩:=SV
       simp only at hT hk2 hst hse
       simp
       rcases hse with rfl | rfl
       · simp only [if_true] at hT
         exact hfin _ _ _ _ _ k _ rfl (by rw [hT]) (by simp [hT,hst rfl,hk2 rfl])
       · simp at hT
         exact hfin _ _ _ _ _ k _ rfl (by rw [hT]) (by simp [hT])
     · rw [if_neg h34] at hT
       have h34':¬ (b.toNat:Int)=34:=fun e=>h34 ((byte_eq b 34).1 e)
       simp [h34']
       refine CallK_of' (g5 _) ?_
       have hgt:=signV_take (b :: r)
       generalize signV (b :: r)=G at hT hgt
       by_cases hG:G=[]
       · rw [if_pos hG] at hT
         simp [hG]
         exact hfin _ _ _ _ _ n _ rfl (by rw [hT]) (by simp [hT])
       · rw [if_neg hG] at hT
         simp [hG]
         exact hfin _ _ _ _ _ (n+G.length) _ rfl (by rw [hT]) (by simp [hT,hgt])
end
end
section
def decU (s:Bs):Nat × Nat:=if s=[] then (65533,0) else Lib.decodeN s.length (s.getD 0 0).toNat (s.getD 1 0).toNat (s.getD 2 0).toNat (s.getD 3 0).toNat
theorem decU_len {s:Bs} (h:s ≠ []):1≤(decU s).2∧(decU s).2≤s.length:=by
 have hl:1≤s.length:=by cases s with
  | nil=>exact absurd rfl h
  | cons a r=>simp
 unfold decU
 rw [if_neg h]
 generalize (s.getD 0 0).toNat=b0
 generalize (s.getD 1 0).toNat=b1
 generalize (s.getD 2 0).toNat=b2
 generalize (s.getD 3 0).toNat=b3
 unfold Lib.decodeN
 (repeat' split)<;>simp only<;>omega
def badF:Nat→Bs→Nat→Int
 | 0,_,_ => -1
 | f+1,s,n=>if s=[] then -1 else if decU s=(65533,1) then n else badF f (s.drop (decU s).2) (n+(decU s).2)
def badS (s:Bs):Int:=badF s.length s 0
theorem badF_fuel:∀ (f g:Nat) (s:Bs) (n:Nat),s.length≤f→s.length≤g→badF f s n=badF g s n
 | 0,0,s,n,_,_=>rfl
 | 0, g + 1, s, n, h, _ => by
   have:s=[]:=List.eq_nil_of_length_eq_zero (by omega)
   simp [badF,this]
 | f + 1, 0, s, n, _, h => by
   have:s=[]:=List.eq_nil_of_length_eq_zero (by omega)
   simp [badF,this]
 | f + 1, g + 1, s, n, h1, h2 => by
   by_cases hs:s=[]
   · simp [badF,hs]
   · simp only [badF,hs,if_false]
     split
     · rfl
     · have:=decU_len hs
       exact badF_fuel f g _ _ (by simp; omega) (by simp; omega)
def DecodeOk (P:Program) (H0:Hp) (f:FuncId):Prop:=∀ (s:Bs) H,Pre0 H0 H→ACall P f [.d (.str s)] H (fun r H'=>r = .tup [.d (.int .i32 ((decU s).1:Int)),.d (.int .i64 ((decU s).2:Int))]∧H'=H)
section
variable {P:Program}
theorem Has.bad {H0:Hp} {f fd} (h:Has P f (irRnBad fd)) (hd:DecodeOk P H0 fd) (s:Bs) (hl:s.length≤1048576) (H:Hp) (hH:Pre0 H0 H):ACall P f [.d (.str s)] H (fun r H'=>r = .d (.int .i64 (badS s))∧H'=H):=by
 obtain ⟨fn,hf,hcf⟩:=h
 refine acall_fin hf hcf (by simp [irRnBad]) fun hcl _ => ?_
 simp [irRnBad]
 refine LoopK_outR 0 (fun fr H'=>badS s = -1∧H'=H) (fun fr H'=>fr 2 = .d (.int .i64 (badS s))∧H'=H) ?_ ?_ ?_
 · refine LoopM_of H.length (fun d fr H'=>∃ n:Nat,d=s.length - n∧n≤s.length∧badS s=badF (s.length - n) (s.drop n) n∧fr 0 = .d (.str s)∧fr 3 = .d (.int .i64 (n:Int))∧H'=H) (s.length - 0) (by simp) ⟨0,rfl,by omega,rfl,?_⟩ ?_
   · simp [cut_self hcl]
   rintro d fr H' ⟨n,rfl,hn,hb,f0,f3,rfl⟩
   simp [f0,f3]
   refine BrK_split (fun hlt => ?_) (fun hlt => ?_)
   · have hlt:n < s.length:=by simpa using hlt
     have hne:s.drop n ≠ []:=fun e=>by have:=List.drop_eq_nil_iff.1 e; omega
     have hds:=hd (s.drop n) H' hH
     have hdl:=decU_len hne
     have hdr:∀ k,(s.drop n).drop k=s.drop (n+k):=fun k=>List.drop_drop ..
     have hfl:s.length - n=(s.length - n - 1)+1:=by omega
     rw [hfl,badF,if_neg hne] at hb
     simp only [List.length_drop] at hdl
     simp [f0,f3,sub_end hn]
     refine CallK_of' hds ?_
     simp only [hdr] at hb
     generalize decU (s.drop n)=D at hb hdl
     obtain ⟨R,W⟩:=D
     simp only at hb hdl
     have hwr:IntKind.i64.wrap ((n:Int)+W)=((n+W:Nat):Int):=by rw [wrap_i64 (by omega) (by omega)]; omega
     simp
     by_cases hR:R=65533
     · have hR':(R:Int)=65533:=by omega
       by_cases hW:W=1
       · have hW':(W:Int)=1:=by omega
         rw [if_pos (by rw [hR,hW])] at hb
         simp [hR',hW',f3,hb]
       · have hW':¬ (W:Int)=1:=by omega
         rw [if_neg (by simp [hW])] at hb
         simp [hR',hW',f3,hwr]
         refine NextM_of H'.length (s.length - (n+W)) (Nat.le_refl _) (by simp) (by omega) ⟨n+W,rfl,by omega,?_,?_⟩
         · rw [hb]; exact badF_fuel _ _ _ _ (by simp; omega) (by simp)
         · simp [f0,cut_self hcl]
     · have hR':¬ (R:Int)=65533:=by omega
       rw [if_neg (by simp [hR])] at hb
       simp [hR',f3,hwr]
       refine NextM_of H'.length (s.length - (n+W)) (Nat.le_refl _) (by simp) (by omega) ⟨n+W,rfl,by omega,?_,?_⟩
       · rw [hb]; exact badF_fuel _ _ _ _ (by simp; omega) (by simp)
       · simp [f0,cut_self hcl]
   · have hge : n = s.length := by have : ¬ (n < s.length) := by simpa using hlt
                                   omega
     have:badS s = -1:=by rw [hb,hge]; simp [badF]
     simp [this]
 · rintro fr H' ⟨f2,rfl⟩
   simp
   simp [RetK,cut_self hcl,f2]
 · rintro fr H' ⟨hb,rfl⟩
   simp
   simp [RetK,cut_self hcl,hb]
end
structure Tk where
 k:Int
 a:Nat
 l:Bs
 x:Bs
def encTk (t:Tk):List D:=[.int .i64 t.k,.int .i64 (t.a:Int),.str t.l,.str t.x]
def lexF:Nat→Bs→Nat→Nat→List Tk × Int × Int
 | 0,_,_,_=>([],0,0)
 | f + 1, s, n, c =>
   if (tokN (s.drop (leadS false s))).1 ≠ 0 then ([],(tokN (s.drop (leadS false s))).1,((n+leadS false s:Nat):Int))
   else if 4000≤c then ([],5,((n+leadS false s:Nat):Int))
   else if (tokN (s.drop (leadS false s))).2.1=0 then ([⟨(tokN (s.drop (leadS false s))).2.1,n+leadS false s,s.take (leadS false s),(s.drop (leadS false s)).take (tokN (s.drop (leadS false s))).2.2⟩],0,0)
   else if (lexF f ((s.drop (leadS false s)).drop (tokN (s.drop (leadS false s))).2.2) (n+leadS false s+(tokN (s.drop (leadS false s))).2.2) (c+1)).2.1=0 then
    (⟨(tokN (s.drop (leadS false s))).2.1,n+leadS false s,s.take (leadS false s),(s.drop (leadS false s)).take (tokN (s.drop (leadS false s))).2.2⟩ :: (lexF f ((s.drop (leadS false s)).drop (tokN (s.drop (leadS false s))).2.2) (n+leadS false s+(tokN (s.drop (leadS false s))).2.2) (c+1)).1,0,0)
   else ([],(lexF f ((s.drop (leadS false s)).drop (tokN (s.drop (leadS false s))).2.2) (n+leadS false s+(tokN (s.drop (leadS false s))).2.2) (c+1)).2)
def lexS (s:Bs):List Tk × Int × Int:=if 16384 < s.length then ([],5,16384) else if 0≤badS s then ([],20,badS s) else lexF (s.length+1) s 0 0
theorem strV_len (s:Bs):(strV s).2=0→2≤(strV s).1.length:=by
 unfold strV
 split
 · simp
 · rename_i k hk
   have:=strS_le hk
   intro _
   simp only [List.length_take]
   simp only [List.length_drop] at this
   omega
theorem runN_pos {p:UInt8→Bool} {b:UInt8} {r:Bs} (h:p b=true):1≤runN p (b :: r):=by simp [runN,h]
theorem tokN_len:∀ (s:Bs),(tokN s).2.2≤s.length∧((tokN s).1=0→(tokN s).2.1=0→s=[])∧((tokN s).1=0→s ≠ []→1≤(tokN s).2.2)∧(s=[]→(tokN s).2.1=0)
 | []=>by simp [tokN]
 | b :: r => by
   have h1:=runN_le wordB (b :: r)
   have h2:=strV_take (b :: r)
   have h3:=signV_take (b :: r)
   have h4:=strV_len (b :: r)
   have h5:letterB b=true→1≤runN wordB (b :: r):=fun h=>runN_pos (by simp [wordB,h])
   have h6:digitB b=true→1≤runN wordB (b :: r):=fun h=>runN_pos (by simp [wordB,h])
   have h7:(strV (b :: r)).2=0→(strV (b :: r)).1.length≤(b :: r).length:=fun h=>by
    rw [← h2 h]; simp only [List.length_take]; omega
   have h8:(signV (b :: r)).length≤(b :: r).length:=by
    have:=congrArg List.length h3
    simp only [List.length_take] at this
    omega
   have h9:signV (b :: r) ≠ []→1≤(signV (b :: r)).length:=fun h=>by
    cases hq:signV (b :: r) with
    | nil=>exact absurd hq h
    | cons a t=>simp
   rw [tokN]
   generalize runN wordB (b :: r)=w at *
   generalize strV (b :: r)=S at *
   generalize signV (b :: r)=G at *
   (repeat' split)<;>simp_all<;>omega
def combL (acc:List Tk) (r:List Tk × Int × Int):List Tk × Int × Int:=if r.2.1=0 then (acc++r.1,0,0) else ([],r.2)
theorem lexF_norm:∀ (f:Nat) (s:Bs) (n c:Nat),((lexF f s n c).2.1=0→(lexF f s n c).2.2=0)∧((lexF f s n c).2.1 ≠ 0→(lexF f s n c).1=[])
 | 0,s,n,c=>by simp [lexF]
 | f + 1, s, n, c => by
   rw [lexF]
   split
   · rename_i h; exact ⟨fun e=>absurd e h,fun _=>rfl⟩
   split
   · exact ⟨fun e=>absurd e (by simp),fun _=>rfl⟩
   split
   · exact ⟨fun _=>rfl,fun e=>absurd rfl e⟩
   split
   · exact ⟨fun _=>rfl,fun e=>absurd rfl e⟩
   · rename_i h; exact ⟨fun e=>absurd e h,fun _=>rfl⟩
theorem combL_nil (f:Nat) (s:Bs) (n c:Nat):combL [] (lexF f s n c)=lexF f s n c:=by
 obtain ⟨h1,h2⟩:=lexF_norm f s n c
 generalize lexF f s n c=R at h1 h2
 obtain ⟨l,e,a⟩:=R
 unfold combL
 split
 · rename_i h
   simp only at h h1
   simp [h,h1 h]
 · rename_i h
   simp only at h h2
   simp [h2 h]
theorem combL_snoc (acc:List Tk) (t:Tk) (R:List Tk × Int × Int):combL (acc++[t]) R=combL acc (if R.2.1=0 then (t :: R.1,0,0) else ([],R.2)):=by
 unfold combL
 by_cases h:R.2.1=0<;>simp [h]
section
variable {P:Program}
theorem HasT.lex {H0:Hp} {f fb fl fn ts tt} (h:HasT P [7] f (irTkLex fb fl fn ts tt)) (hb:∀ (s:Bs) H,s.length≤1048576→Pre0 H0 H→ACall P fb [.d (.str s)] H (fun r H'=>r = .d (.int .i64 (badS s))∧H'=H))
 (hl:∀ {H:Hp} {i:Nat} {text:Bs} {n:Nat},H[i]?=some (scan ts text n)→n≤text.length→text.length≤1048576→ACall P fl [.ptr i 0] H (fun r H'=>r = .d (.str ((text.drop n).take (leadS false (text.drop n))))∧H'=H.set i (scan ts text (n+leadS false (text.drop n)))))
 (hn:∀ {H:Hp} {i:Nat} {text:Bs} {n:Nat},Pre0 H0 H→H0.length≤i→H[i]?=some (scan ts text n)→n≤text.length→text.length≤1048576→ACall P fn [.ptr i 0] H (NextQ H i ts text n (text.drop n) (tokN (text.drop n))))
 (s:Bs) (hs:s.length≤1048576) (H:Hp) (hH:Pre0 H0 H) :
 ACall P f [.d (.str s)] H (fun r H'=>r = .tup [.d (.sl true 4 ((lexS s).1.map encTk)),.d (.int .i64 (lexS s).2.1),.d (.int .i64 (lexS s).2.2)]∧H'=H):=by
 obtain ⟨fnn,hf,hcf⟩:=h
 refine acall_fin hf hcf (by simp [irTkLex]) fun hcl _ => ?_
 by_cases h1:16384 < s.length
 case pos =>
  have h1':(16384:Int) < s.length:=by omega
  simp [irTkLex,h1']
  simp [RetK,cut_self hcl,lexS,h1]
 have h1':¬ (16384:Int) < s.length:=by omega
 have hbs:=hb s H hs hH
 have hL:lexS s=if 0≤badS s then ([],20,badS s) else lexF (s.length+1) s 0 0:=by rw [lexS,if_neg h1]
 generalize lexS s=LS at hL
 generalize badS s=bs at hL hbs
 simp [irTkLex,h1']
 refine CallK_of' hbs ?_
 simp
 refine BrK_split (fun h2 => ?_) (fun h2 => ?_)
 · have h2:0≤bs:=by simpa using h2
   rw [if_pos h2] at hL
   subst hL
   simp
   simp [RetK,cut_self hcl]
 have h2:¬ 0≤bs:=by simpa using h2
 rw [if_neg h2] at hL
 simp
 have hH0:H0.length≤H.length:=by obtain ⟨X,rfl⟩:=hH; simp
 refine LoopM_of (H.length+2) (fun d fr H'=>∃ (p:Nat) (acc:List Tk),p≤s.length∧s.length - p < d∧LS=combL acc (lexF d (s.drop p) p acc.length)∧acc.length≤4000∧fr 6 = .ptr H.length 0∧fr 7 = .osl true 4 (acc.map encTk) (H.length+1)∧H'=H++[scan ts s p,.tok acc.length 4 tt]) (s.length+1) (by simp) ⟨0,[],by omega,by omega,?_,by simp,?_⟩ ?_
 · simp only [List.drop_zero,List.length_nil]
   rw [hL]
   exact (combL_nil _ _ _ _).symm
 · simp [cut_appk hcl,scan]
 rintro d fr H' ⟨p,acc,hp,hd,hLS,hacc,f6,f7,rfl⟩
 obtain ⟨d',rfl⟩:∃ d',d=d'+1:=⟨d - 1,by omega⟩
 have g1:=hl (H:=H++[scan ts s p,.tok acc.length 4 tt]) (i:=H.length) (text:=s) (n:=p) (by simp) hp hs
 simp at g1
 simp [f6]
 refine CallK_of' g1 ?_
 have hll:=lead_le false (s.drop p)
 simp only [List.length_drop] at hll
 rw [lexF] at hLS
 simp only [drop_add'] at hLS
 have g2:=hn (H:=H++[scan ts s (p+leadS false (s.drop p)),.tok acc.length 4 tt]) (i:=H.length) (text:=s) (n:=p+leadS false (s.drop p)) (hH.app _) hH0 (by simp) (by omega) hs
 have htl:=tokN_len (s.drop (p+leadS false (s.drop p)))
 have hdn:s.drop (p+leadS false (s.drop p)) ≠ []→p+leadS false (s.drop p) < s.length:=fun h=>by
  rcases Nat.lt_or_ge (p+leadS false (s.drop p)) s.length with h' | h'
  · exact h'
  · exact absurd (List.drop_eq_nil_of_le h') h
 simp only [List.length_drop] at htl
 generalize leadS false (s.drop p)=n at hLS hll g2 htl hdn
 generalize tokN (s.drop (p+n))=T at hLS g2 htl
 obtain ⟨e,k,m⟩:=T
 simp only at hLS htl
 obtain ⟨t1,t2,t3,t4⟩:=htl
 simp [f6,scan]
 simp [scan] at g2
 refine CallK_of g2 ?_
 rintro x H1 ⟨k',x',m',rfl,rfl,hx⟩
 simp only at hx
 simp
 by_cases he:e=0
 case neg =>
  rw [if_pos he] at hLS
  simp [he]
  have:LS=([],e,((p+n:Nat):Int)):=by rw [hLS]; simp [combL,he]
  simp [RetK,cut_app hcl,this]
 obtain ⟨rfl,rfl,rfl⟩:=hx he
 rw [if_neg (by simp [he])] at hLS
 subst he
 have hap:(acc.map encTk).length=acc.length:=by simp
 simp [f7]
 by_cases h4:4000≤acc.length
 case pos =>
  have h4':(4000:Int)≤acc.length:=by omega
  rw [if_pos h4] at hLS
  have:LS=([],5,((p+n:Nat):Int)):=by rw [hLS]; simp [combL]
  simp [h4']
  simp [RetK,cut_app hcl,this]
 have h4':¬ (4000:Int)≤acc.length:=by omega
 rw [if_neg h4] at hLS
 simp [h4',f7,appA]
 rw [if_pos (by omega)]
 simp
 obtain ⟨t,ht⟩:∃ t:Tk,t=⟨k',p+n,(s.drop p).take n,(s.drop (p+n)).take m⟩:=⟨_,rfl⟩
 have hbt:acc.map encTk++[[.int .i64 k',.int .i64 ((p:Int)+n),.str ((s.drop p).take n),.str ((s.drop (p+n)).take m)]]=(acc++[t]).map encTk:=by
  simp [encTk,ht]
 rw [← ht] at hLS
 by_cases hk:k'=0
 · rw [if_pos hk] at hLS
   have hLS':LS=(acc++[t],0,0):=by rw [hLS]; simp [combL]
   subst hk
   simp [hbt]
   simp [RetK,cut_app hcl,hLS']
 · rw [if_neg hk,← combL_snoc] at hLS
   simp [hk,hbt]
   have hne:s.drop (p+n) ≠ []:=fun e=>hk (t4 e)
   have hm1:=t3 rfl hne
   have hlt:=hdn hne
   refine NextM_of (H.length+2) d' (Nat.le_refl _) (by simp) (by omega) ⟨p+n+m,acc++[t],by omega,by omega,?_,by simp; omega,?_⟩
   · simpa using hLS
   · simp [f6,cut_appk hcl,scan]
end
end
section
section
variable {P:Program}
end
end
section
open Go.RowKit (Below)
def TabsG (g3 g4 g0 g1:Nat) (H0:Hp):Prop:=∀ w:World,(∀ (i:Nat) (g:Nat) (cs:List Value),H0[i]?=some (.glob g cs)→∃ ty fr,w.heap[g]?=some (.cells cs.toArray ty fr)) →
 Lib.Utf8Tabs g3 g4 w∧(∃ te pe,w.cell? ⟨g0,0,none⟩=some (.iface te pe))∧(∃ te pe,w.cell? ⟨g1,0,none⟩=some (.iface te pe))
theorem tabs_of {κ:K} {H H0:Hp} {w:World} {g3 g4 g0 g1:Nat} (hr:HR κ H w) (hp:Pre0 H0 H) (hG:TabsG g3 g4 g0 g1 H0) :
 Lib.Utf8Tabs g3 g4 w∧(∃ te pe,w.cell? ⟨g0,0,none⟩=some (.iface te pe))∧(∃ te pe,w.cell? ⟨g1,0,none⟩=some (.iface te pe)):=by
 obtain ⟨X,rfl⟩:=hp
 refine hG w fun i g cs hi => ?_
 have hlt:=(List.getElem?_eq_some_iff.1 hi).1
 obtain ⟨ty,fr,h⟩:=hr.ob i _ (by rw [List.getElem?_append_left hlt]; exact hi)
 exact ⟨ty,fr,by rw [hr.below.block g (Array.getElem?_eq_some_iff.1 h).1]; exact h⟩
theorem leafG {P:Program} {f:FuncId} {args:List D} {x:A} {H0:Hp} {g3 g4 g0 g1:Nat} (hG:TabsG g3 g4 g0 g1 H0)
 (h:∀ (w:World) (σ:St) (vs:List Value),(Lib.Utf8Tabs g3 g4 w∧(∃ te pe,w.cell? ⟨g0,0,none⟩=some (.iface te pe))∧(∃ te pe,w.cell? ⟨g1,0,none⟩=some (.iface te pe)))→vs.length=args.length→(∀ (i:Nat) (v:Value) (d:D),vs[i]?=some v→args[i]?=some d→DR σ v d) →
  Calls P f vs.toArray w fun e w'=>∃ v,e = .returned v∧Below w.heap.size w w'∧∀ κ:K,VR κ v x) (H:Hp) (hp:Pre0 H0 H):ACall P f (args.map .d) H (fun r H'=>r=x∧H'=H):=by
 intro κ w vs hr hl hv
 refine (h w κ.σ vs (tabs_of hr hp hG) (by simpa using hl) (fun i v d hi hd=>(hv i v (.d d) hi (by simp [hd])).d_inv)).mono ?_
 rintro e w' ⟨v,rfl,hb,hd⟩
 exact ⟨v,κ,_,H,rfl,K.le_refl κ,hr.later hb,hd κ,rfl,rfl⟩
theorem decodeGo_eq (s:Bs):Lib.decodeGo ⟨s.toArray⟩=decU s:=by
 unfold Lib.decodeGo decU
 have hsz:(⟨s.toArray⟩:ByteArray).size=s.length:=by simp [ByteArray.size]
 rw [hsz]
 by_cases h:s=[]
 · simp [h]
 · have hl:¬ s.length=0:=fun e=>h (List.eq_nil_of_length_eq_zero e)
   rw [if_neg hl,if_neg h,Lib.decode_at,hsz]
   have hg:∀ i,(⟨s.toArray⟩:ByteArray).get! i=s.getD i 0:=fun i=>by
    show s.toArray[i]! = _
    by_cases hi:i < s.length
    · rw [getElem!_pos s.toArray i (by simpa using hi)]; simp [List.getD,hi]
    · rw [getElem!_neg s.toArray i (by simpa using hi)]; simp [List.getD,hi]; rfl
   simp only [hg,Nat.sub_zero,Nat.zero_add]
end
theorem cells_of_cell {w:World} {g o:Nat} {v:Value} (h:w.cell? ⟨g,o,none⟩=some v):∃ cs ty fr,w.heap[g]?=some (.cells cs ty fr):=by
 unfold World.cell? at h
 split at h
 · rename_i c t fr hb
   exact ⟨c,t,fr,hb⟩
 · cases h
theorem cell_same {w w':World} {g o:Nat} {v:Value} {cs:Array Value} {ty ty':TypeId} {fr fr':Nat × Nat} (h:w.cell? ⟨g,o,none⟩=some v) (h1:w.heap[g]?=some (.cells cs ty fr)) (h2:w'.heap[g]?=some (.cells cs ty' fr')):w'.cell? ⟨g,o,none⟩=some v:=by
 unfold World.cell? at h ⊢
 rw [h1] at h
 rw [h2]
 exact h
theorem laid_heap {W:World} {g3 g4 g0 g1:Nat} (hU:Lib.Utf8Tabs g3 g4 W) (h0:∃ te pe,W.cell? ⟨g0,0,none⟩=some (.iface te pe)) (h1:∃ te pe,W.cell? ⟨g1,0,none⟩=some (.iface te pe)) :
 ∃ H0,LaidOb W H0∧TabsG g3 g4 g0 g1 H0:=by
 obtain ⟨u1,u2⟩:=hU
 obtain ⟨t0,p0,h0⟩:=h0
 obtain ⟨t1,p1,h1⟩:=h1
 obtain ⟨c3,y3,f3,b3⟩:=cells_of_cell (u1 0 (by omega))
 obtain ⟨c4,y4,f4,b4⟩:=cells_of_cell (u2 0 (by omega)).1
 obtain ⟨c0,y0,f0,b0⟩:=cells_of_cell h0
 obtain ⟨c1,y1,f1,b1⟩:=cells_of_cell h1
 refine ⟨[.glob g3 c3.toList,.glob g4 c4.toList,.glob g0 c0.toList,.glob g1 c1.toList],?_,?_⟩
 · intro i x hx
   match i with
   | 0=>simp at hx; subst hx; exact ⟨g3,_,y3,f3,rfl,by simpa using b3⟩
   | 1=>simp at hx; subst hx; exact ⟨g4,_,y4,f4,rfl,by simpa using b4⟩
   | 2=>simp at hx; subst hx; exact ⟨g0,_,y0,f0,rfl,by simpa using b0⟩
   | 3=>simp at hx; subst hx; exact ⟨g1,_,y1,f1,rfl,by simpa using b1⟩
   | i+4=>simp at hx
 · intro w hw
   obtain ⟨y3',f3',b3'⟩:=hw 0 g3 _ rfl
   obtain ⟨y4',f4',b4'⟩:=hw 1 g4 _ rfl
   obtain ⟨y0',f0',b0'⟩:=hw 2 g0 _ rfl
   obtain ⟨y1',f1',b1'⟩:=hw 3 g1 _ rfl
   simp only [Array.toArray_toList] at b3' b4' b0' b1'
   refine ⟨⟨fun c hc=>cell_same (u1 c hc) b3 b3',fun i hi=>⟨cell_same (u2 i hi).1 b4 b4',cell_same (u2 i hi).2 b4 b4'⟩⟩,⟨t0,p0,cell_same h0 b0 b0'⟩,⟨t1,p1,cell_same h1 b1 b1'⟩⟩
end Go.Zam
namespace Go.Zam
inductive N where
 | mk (k f t:Int) (w:Bs) (a:Int) (z:Bool) (ks:List N)
namespace N
def k:N→Int | .mk k ..=>k
def f:N→Int | .mk _ f ..=>f
def t:N→Int | .mk _ _ t ..=>t
def w:N→Bs | .mk _ _ _ w ..=>w
def at_:N→Int | .mk _ _ _ _ a _ _=>a
def ks:N→List N | .mk _ _ _ _ _ _ ks=>ks
def new (k f t:Int) (w:Bs) (a:Int) (ks:List N):N := .mk k f t w a ks.isEmpty ks
mutual
def enc:N→List D
 | .mk k f t w a z ks=>[.int .i64 k,.int .i64 f,.int .i64 t,.str w,.int .i64 a,.sl z 6 (encs ks)]
def encs:List N→List (List D)
 | []=>[]
 | p :: r=>enc p :: encs r
end
theorem encs_map:∀ l:List N,encs l=l.map enc
 | []=>rfl
 | p :: r=>by rw [encs,encs_map r]; rfl
theorem enc_mk (k f t:Int) (w:Bs) (a:Int) (z:Bool) (ks:List N):enc (.mk k f t w a z ks)=[.int .i64 k,.int .i64 f,.int .i64 t,.str w,.int .i64 a,.sl z 6 (ks.map enc)]:=by rw [enc,encs_map]
def v (n:N):A := .agg (n.enc.map .d)
theorem v_mk (k f t:Int) (w:Bs) (a:Int) (z:Bool) (ks:List N):v (.mk k f t w a z ks) = .agg [.d (.int .i64 k),.d (.int .i64 f),.d (.int .i64 t),.d (.str w),.d (.int .i64 a),.d (.sl z 6 (ks.map enc))]:=by rw [v,enc_mk]; rfl
theorem v_new (k f t:Int) (w:Bs) (a:Int) (ks:List N):v (new k f t w a ks) = .agg [.d (.int .i64 k),.d (.int .i64 f),.d (.int .i64 t),.d (.str w),.d (.int .i64 a),.d (.sl ks.isEmpty 6 (ks.map enc))]:=v_mk ..
mutual
theorem ind {Q:N→Prop} (h:∀ k f t w a z ks,(∀ p ∈ ks,Q p)→Q (.mk k f t w a z ks)):∀ n,Q n
 | .mk k f t w a z ks=>h k f t w a z ks (inds h ks)
theorem inds {Q:N→Prop} (h:∀ k f t w a z ks,(∀ p ∈ ks,Q p)→Q (.mk k f t w a z ks)):∀ l:List N,∀ p ∈ l,Q p
 | []=>fun p hp=>by simp at hp
 | x :: r=>fun p hp=>(List.mem_cons.1 hp).elim (fun e=>e ▸ ind h x) (fun hp=>inds h r p hp)
end
def none:N:=new 0 0 0 [] 0 []
def bag (ks:List N):N:=new 0 0 0 [] 0 ks
end N
inductive PR where
 | out
 | bad (i:Nat)
 | ok (n:N) (i:Nat)
def PR.then:PR→(N→Nat→PR)→PR
 | .out,_ => .out
 | .bad i,_ => .bad i
 | .ok n i,h=>h n i
inductive G where
 | file (ks:List N) | use | defn | params | param | typed | kind | tfield | block | stmts (ks:List N) | stmt
 | expr | sum | sumL (a:N) | term | termL (a:N) | post | postL (a:N) | atom | entry
 | list (one:G) (e:Bs) | listL (one:G) (e:Bs) (ks:List N)
def isT (L:List Tk) (i:Nat) (x:Bs):Bool:=match L[i]? with
 | some t=>(decide (t.k=2) || decide (t.k=5)) && decide (t.x=x)
 | none=>false
def kdT (L:List Tk) (i:Nat):Int:=match L[i]? with
 | some t=>t.k
 | none=>0
def txT (L:List Tk) (i:Nat):Bs:=match L[i]? with
 | some t=>t.x
 | none=>[]
def kUse:Bs:=[117,115,101]
def kDef:Bs:=[100,101,102]
def kInt:Bs:=[105,110,116]
def kStr:Bs:=[115,116,114]
def kDyn:Bs:=[100,121,110]
def kFn:Bs:=[102,110]
def kIf:Bs:=[105,102]
def kElse:Bs:=[101,108,115,101]
def kWhile:Bs:=[119,104,105,108,101]
def kLet:Bs:=[108,101,116]
def kPrint:Bs:=[112,114,105,110,116]
def kReturn:Bs:=[114,101,116,117,114,110]
def kInput:Bs:=[105,110,112,117,116]
def wantR (L:List Tk) (i:Nat) (x:Bs) (h:Nat→PR):PR:=if isT L i x then h (i+1) else .bad i
def wordR (L:List Tk) (i:Nat) (h:Bs→Nat→PR):PR:=if kdT L i=1 then h (txT L i) (i+1) else .bad i
def pp (L:List Tk):Nat→G→Nat→PR
 | 0,_,_ => .out
 | n + 1, g, i => match g with
   | .file ks=>if kdT L i=0 then .ok (N.new 1 0 i [] 0 ks) i
    else if isT L i kUse then (pp L n .use i).then fun m j=>pp L n (.file (ks++[m])) j else (pp L n .defn i).then fun m j=>pp L n (.file (ks++[m])) j
   | .use=>wantR L i kUse fun _=>wordR L (i+1) fun m _=>wantR L (i+2) [46] fun _=>wordR L (i+3) fun w _=>wantR L (i+4) [59] fun _ =>
    .ok (N.new 2 i (i+5) w (i+3) [N.new 23 (i+1) (i+2) m (i+1) []]) (i+5)
   | .defn=>wantR L i kDef fun _=>wordR L (i+1) fun w _=>(pp L n .params (i+2)).then fun p j=>(pp L n .typed j).then fun t j=>(pp L n .block j).then fun b j => .ok (N.new 3 i j w (i+1) [p,t,b]) j
   | .params=>wantR L i [40] fun _=>(pp L n (.list .param [41]) (i+1)).then fun m j => .ok (N.new 4 i j [] 0 m.ks) j
   | .param=>wordR L i fun w _=>(pp L n .typed (i+1)).then fun t j => .ok (N.new 5 i j w i [t]) j
   | .typed=>if isT L i [58] then pp L n .kind (i+1) else .ok N.none i
   | .kind=>if isT L i kInt then .ok (N.new 29 i (i+1) [] 0 []) (i+1) else if isT L i kStr then .ok (N.new 30 i (i+1) [] 0 []) (i+1) else if isT L i kDyn then .ok (N.new 31 i (i+1) [] 0 []) (i+1)
    else if isT L i [123] then (pp L n (.list .tfield [125]) (i+1)).then fun m j => .ok (N.new 32 i j [] 0 m.ks) j
    else wantR L i kFn fun _=>wantR L (i+1) [40] fun _=>(pp L n (.list .kind [41]) (i+2)).then fun m j=>wantR L j [58] fun _=>(pp L n .kind (j+1)).then fun t j => .ok (N.new 34 i j [] 0 (m.ks++[t])) j
   | .tfield=>wordR L i fun w _=>wantR L (i+1) [58] fun _=>(pp L n .kind (i+2)).then fun t j => .ok (N.new 33 i j w i [t]) j
   | .block=>wantR L i [123] fun _=>(pp L n (.stmts []) (i+1)).then fun m j => .ok (N.new 6 i j [] 0 m.ks) j
   | .stmts ks=>if isT L i [125] then .ok (N.bag ks) (i+1) else (pp L n .stmt i).then fun m j=>pp L n (.stmts (ks++[m])) j
   | .stmt=>if isT L i kLet then wordR L (i+1) fun w _=>(pp L n .typed (i+2)).then fun t j=>wantR L j [61] fun _=>(pp L n .expr (j+1)).then fun x j=>wantR L j [59] fun _ => .ok (N.new 7 i (j+1) w (i+1) [t,x]) (j+1)
    else if isT L i kIf then (pp L n .expr (i+1)).then fun c j=>(pp L n .block j).then fun b j =>
     if isT L j kElse then (pp L n .block (j+1)).then fun o j => .ok (N.new 9 i j [] 0 [c,b,o]) j else .ok (N.new 9 i j [] 0 [c,b,N.none]) j
    else if isT L i kWhile then (pp L n .expr (i+1)).then fun c j=>(pp L n .block j).then fun b j => .ok (N.new 10 i j [] 0 [c,b]) j
    else if isT L i kPrint then (pp L n .expr (i+1)).then fun x j=>wantR L j [59] fun _ => .ok (N.new 11 i (j+1) [] 0 [x]) (j+1)
    else if isT L i kReturn then (pp L n .expr (i+1)).then fun x j=>wantR L j [59] fun _ => .ok (N.new 12 i (j+1) [] 0 [x]) (j+1)
    else if kdT L i=1∧isT L (i+1) [61]=true then (pp L n .expr (i+2)).then fun x j=>wantR L j [59] fun _ => .ok (N.new 8 i (j+1) (txT L i) i [x]) (j+1)
    else (pp L n .expr i).then fun x j=>wantR L j [59] fun _ => .ok (N.new 13 i (j+1) [] 0 [x]) (j+1)
   | .expr=>(pp L n .sum i).then fun a j=>if isT L j [60] then (pp L n .sum (j+1)).then fun b j => .ok (N.new 14 a.f j [] 0 [a,b]) j
    else if isT L j [61,61] then (pp L n .sum (j+1)).then fun b j => .ok (N.new 15 a.f j [] 0 [a,b]) j else .ok a j
   | .sum=>(pp L n .term i).then fun a j=>pp L n (.sumL a) j
   | .sumL a=>if isT L i [43] then (pp L n .term (i+1)).then fun b j=>pp L n (.sumL (N.new 16 a.f j [] 0 [a,b])) j
    else if isT L i [45] then (pp L n .term (i+1)).then fun b j=>pp L n (.sumL (N.new 17 a.f j [] 0 [a,b])) j else .ok a i
   | .term=>(pp L n .post i).then fun a j=>pp L n (.termL a) j
   | .termL a=>if isT L i [42] then (pp L n .post (i+1)).then fun b j=>pp L n (.termL (N.new 18 a.f j [] 0 [a,b])) j else .ok a i
   | .post=>(pp L n .atom i).then fun a j=>pp L n (.postL a) j
   | .postL a=>if isT L i [46] then wordR L (i+1) fun w j=>pp L n (.postL (N.new 19 a.f j w (i+1) [a])) j
    else if isT L i [40] then (pp L n (.list .expr [41]) (i+1)).then fun m j=>pp L n (.postL (N.new 20 a.f j [] 0 (a :: m.ks))) j else .ok a i
   | .atom=>if kdT L i=3 then .ok (N.new 21 i (i+1) (txT L i) i []) (i+1) else if kdT L i=4 then .ok (N.new 22 i (i+1) (txT L i) i []) (i+1) else if kdT L i=1 then .ok (N.new 23 i (i+1) (txT L i) i []) (i+1)
    else if isT L i kInput then .ok (N.new 24 i (i+1) [] 0 []) (i+1)
    else if isT L i [40] then (pp L n .expr (i+1)).then fun x j=>wantR L j [41] fun _ => .ok (N.new 25 i (j+1) [] 0 [x]) (j+1)
    else if isT L i [123] then (pp L n (.list .entry [125]) (i+1)).then fun m j => .ok (N.new 26 i j [] 0 m.ks) j
    else wantR L i kFn fun _=>(pp L n .params (i+1)).then fun p j=>(pp L n .typed j).then fun t j=>(pp L n .block j).then fun b j => .ok (N.new 28 i j [] 0 [p,t,b]) j
   | .entry=>wordR L i fun w _=>wantR L (i+1) [58] fun _=>(pp L n .expr (i+2)).then fun x j => .ok (N.new 27 i j w i [x]) j
   | .list one e=>if isT L i e then .ok (N.bag []) (i+1) else pp L n (.listL one e []) i
   | .listL one e ks=>(pp L n one i).then fun x j=>if isT L j e then .ok (N.bag (ks++[x])) (j+1) else wantR L j [44] fun j=>pp L n (.listL one e (ks++[x])) j
def G.strict:G→Bool
 | .file _ | .typed | .sumL _ | .termL _ | .postL _=>false
 | _=>true
theorem isT_lt {L:List Tk} {i:Nat} {x:Bs} (h:isT L i x=true):i < L.length:=by
 unfold isT at h
 split at h
 · rename_i t e; exact (List.getElem?_eq_some_iff.1 e).1
 · cases h
theorem kdT_lt {L:List Tk} {i:Nat} (h:kdT L i ≠ 0):i < L.length:=by
 unfold kdT at h
 split at h
 · rename_i t e; exact (List.getElem?_eq_some_iff.1 e).1
 · exact absurd rfl h
def Adv (L:List Tk) (i:Nat) (s:Bool):PR→Prop
 | .ok _ j=>i≤j∧(s=true→i < j)∧(i < j→j≤L.length)
 | _=>True
section
variable {L:List Tk}
theorem Adv.ok {i j:Nat} {s:Bool} {m:N} (h1:i≤j) (h2:s=true→i < j) (h3:i < j→j≤L.length):Adv L i s (.ok m j):=⟨h1,h2,h3⟩
theorem Adv.want {i k:Nat} {s:Bool} {x:Bs} {h:Nat→PR} (hh:k+1≤L.length→Adv L i s (h (k+1))):Adv L i s (wantR L k x h):=by
 unfold wantR
 split
 · rename_i e; exact hh (isT_lt e)
 · trivial
theorem Adv.word {i k:Nat} {s:Bool} {h:Bs→Nat→PR} (hh:k+1≤L.length→Adv L i s (h (txT L k) (k+1))):Adv L i s (wordR L k h):=by
 unfold wordR
 split
 · rename_i e; exact hh (kdT_lt (by omega))
 · trivial
theorem Adv.ifT {i k:Nat} {s:Bool} {x:Bs} {a b:PR} (ha:k+1≤L.length→Adv L i s a) (hb:Adv L i s b):Adv L i s (if isT L k x then a else b):=by
 split
 · rename_i e; exact ha (isT_lt e)
 · exact hb
theorem Adv.ifK {i k:Nat} {s:Bool} {x:Int} {a b:PR} (hx:x ≠ 0) (ha:k+1≤L.length→Adv L i s a) (hb:Adv L i s b):Adv L i s (if kdT L k=x then a else b):=by
 split
 · rename_i e; exact ha (kdT_lt (by omega))
 · exact hb
theorem Adv.if0 {i k:Nat} {s:Bool} {a b:PR} (ha:Adv L i s a) (hb:Adv L i s b):Adv L i s (if kdT L k=0 then a else b):=by
 split
 · exact ha
 · exact hb
theorem Adv.ifS {i k:Nat} {s:Bool} {x:Bs} {a b:PR} (ha:k+2≤L.length→Adv L i s a) (hb:Adv L i s b):Adv L i s (if kdT L k=1∧isT L (k+1) x=true then a else b):=by
 split
 · rename_i e; exact ha (by have:=isT_lt e.2; omega)
 · exact hb
theorem Adv.last {n:Nat} (ih:∀ g i,Adv L i g.strict (pp L n g i)) {g:G} {k i:Nat} {s:Bool} (h1:i≤k) (h2:i < k→k≤L.length) (h3:s=true→g.strict=true∨i < k):Adv L i s (pp L n g k):=by
 have:=ih g k
 generalize pp L n g k=r at this
 cases r with
 | out=>trivial
 | bad j=>trivial
 | ok m j =>
   obtain ⟨a1,a2,a3⟩:=this
   refine ⟨by omega,fun h => ?_,fun h=>by omega⟩
   rcases h3 h with h | h
   · have:=a2 h; omega
   · omega
theorem Adv.thenG {n:Nat} (ih:∀ g i,Adv L i g.strict (pp L n g i)) {g:G} {k i:Nat} {s:Bool} {h:N→Nat→PR} (hh:∀ m j,k≤j→(g.strict=true→k < j)→(k < j→j≤L.length)→Adv L i s (h m j)):Adv L i s ((pp L n g k).then h):=by
 have:=ih g k
 generalize pp L n g k=r at this
 cases r with
 | out=>trivial
 | bad j=>trivial
 | ok m j=>exact hh m j this.1 this.2.1 this.2.2
theorem pp_adv:∀ (n:Nat) (g:G) (i:Nat),Adv L i g.strict (pp L n g i)
 | 0,g,i=>trivial
 | n + 1, g, i => by
   have ih:=pp_adv n
   cases g
   all_goals simp only [pp,G.strict]
   all_goals
    repeat' first
     | exact Adv.bad
     | (refine Adv.want fun _ => ?_)
     | (refine Adv.word fun _ => ?_)
     | (refine Adv.ifT (fun _ => ?_) ?_)
     | (refine Adv.ifK (by decide) (fun _ => ?_) ?_)
     | (refine Adv.ifS (fun _ => ?_) ?_)
     | (refine Adv.if0 ?_ ?_)
     | (refine Adv.thenG ih fun m j h1 h2 h3 => ?_; simp only [G.strict,Bool.false_eq_true,false_implies,true_implies] at h2)
     | (refine Adv.ok ?_ ?_ ?_<;>(try simp only [Bool.false_eq_true,false_implies,true_implies])<;>omega)
     | (refine Adv.last ih ?_ ?_ ?_<;>(try simp only [G.strict,Bool.false_eq_true,false_implies,true_implies,false_or,true_or])<;>omega)
def G.c:G→Nat
 | .file _=>7 | .use=>1 | .defn=>6 | .params=>5 | .param=>2 | .typed=>1 | .kind=>1 | .tfield=>2 | .block=>1 | .stmts _=>7 | .stmt=>6
 | .expr=>5 | .sum=>4 | .sumL _=>1 | .term=>3 | .termL _=>1 | .post=>2 | .postL _=>1 | .atom=>1 | .entry=>6
 | .list o _=>o.c+2 | .listL o _ _=>o.c+1
end
end Go.Zam
