import Derived.RowKit3
import Derived.Below
import Derived.Orders
import Derived.Laws.Cells
import Derived.Laws.World
import Derived.Laws.IdiomCopy
import Derived.Laws.Entries
import Derived.Laws.Append
import Derived.Laws.Strings
import Derived.Lib.Strings
set_option linter.all false
set_option maxRecDepth 100000
set_option maxHeartbeats 4000000
namespace Go.Zam
abbrev Q11:=@List.getElem?_eq_some_iff
abbrev Q12:=@List.getElem?_eq_getElem
abbrev Q13:=@Option.map_eq_some_iff
abbrev Q14:=@Nat.le_refl
abbrev Q15:=@List.getElem?_set_ne
abbrev Q16:=@Int.le_refl
abbrev Q17:=@List.getElem?_set_self
abbrev Q18:=@List.set_append_left
abbrev Q19:=@List.getElem?_append_left
abbrev Q2a:=@Option.bind_eq_some_iff
abbrev Q2b:=@List.eq_nil_of_length_eq_zero
abbrev Q2c:=@Bool.false_eq_true
abbrev Q2d:=@List.getElem?_map
abbrev Q2e:=@List.take_succ_eq_append_getElem
abbrev Q2f:=@List.take_of_length_le
abbrev Q2g:=@List.append_assoc
abbrev Q2h:=@Option.bind_eq_bind
abbrev Q2i:=@List.length_cons
abbrev Q2j:=@List.getElem?_append_right
abbrev Q2k:=@List.append_nil
abbrev Q2l:=@List.length_append
abbrev Q2m:=@List.cons_append
abbrev Q2n:=@List.all_eq_true
abbrev Q2o:=@List.drop_eq_getElem_cons
abbrev Q2p:=@List.mem_of_getElem?
abbrev Q2q:=@Option.pure_def
abbrev Q2r:=@List.mem_append
abbrev Q2s:=@Result.andThen_ok
abbrev Q2t:=@Bool.and_eq_true
abbrev Q2u:=@List.nil_append
abbrev Q2v:=@List.mem_cons
abbrev Q2w:=@List.map_cons
abbrev Q2x:=@List.take_append_drop
abbrev Q2y:=@List.length_map
abbrev Q2z:=@Nat.mul_le_mul_right
abbrev Q20:=@List.getElem_mem
abbrev Q21:=@List.length_set
abbrev Q22:=@List.drop_eq_nil_of_le
abbrev Q23:=@Array.getD_eq_getD_getElem?
abbrev Q24:=@Array.getElem?_eq_some_iff
abbrev Q25:=@List.map_nil
abbrev Q26:=@List.length_drop
abbrev Q27:=@Sem.run_bind
abbrev Q28:=@List.map_append
abbrev Q29:=@Nat.add_mul
abbrev Q3a:=@List.getD_eq_getElem?_getD
abbrev Q3b:=@List.length_nil
abbrev Q3c:=@List.mem_map
abbrev Q3d:=@Nat.le_trans
abbrev Q3e:=@List.ext_getElem?
abbrev Q3f:=@List.map_reverse
abbrev Q3g:=@List.length_pos_iff
abbrev Q3h:=@List.getElem_of_mem
abbrev Q3i:=@Nat.zero_add
abbrev Q3j:=@List.set_append_right
abbrev Q3k:=@List.mapM_cons
abbrev Q3l:=@List.mem_filter
abbrev Q3m:=@Iff.rfl
abbrev Q3n:=@List.drop_eq_nil_iff
abbrev Q3o:=@Array.getElem?_append_left
abbrev Q3p:=@List.length_take
abbrev Q3q:=@Option.map_some
abbrev Q3r:=@Nat.add_assoc
abbrev Q3s:=@List.size_toArray
abbrev Q3t:=@List.mem_singleton
abbrev Q3u:=@Sem.run_pure
abbrev Q3v:=@List.length_singleton
abbrev Q3w:=@Array.getElem?_modify
abbrev Q3x:=@List.take_length
abbrev Q3y:=@List.mem_range
abbrev Q3z:=@List.mem_or_eq_of_mem_set
abbrev Q30:=@List.drop_drop
abbrev Q31:=@Int.toNat_natCast
abbrev Q32:=@List.set_set
abbrev Q33:=@List.length_mergeSort
abbrev Q34:=@Int.natCast_add
abbrev Q35:=@Bool.or_eq_true
abbrev Q36:=@List.countP_pos_iff
abbrev Q37:=@List.flatMap_cons
abbrev Q38:=@List.take_zero
abbrev Q39:=@List.take_succ
abbrev Q4a:=@Nat.add_sub_cancel_left
abbrev Q4b:=@List.pairwise_cons
abbrev Q4c:=@List.getElem?_take
abbrev Q4d:=@List.getElem?_drop
abbrev Q4e:=@Option.getD_some
abbrev Q4f:=@Nat.lt_or_ge
abbrev Q4g:=@Nat.add_zero
abbrev Q4h:=@World.cell?_setCell_other
abbrev Q4i:=@List.eq_nil_or_concat
abbrev Q4j:=@List.set_comm
abbrev Q4k:=@Array.size_append
abbrev Q4l:=@List.not_mem_nil
abbrev Q4m:=@Option.isSome_some
abbrev Q4n:=@List.length_filter_le
abbrev Q4o:=@List.filter_append
abbrev Q4p:=@Option.isNone_iff_eq_none
abbrev Q4q:=@List.mem_of_mem_take
abbrev Q4r:=@List.getElem?_of_mem
abbrev Q4s:=@Nat.mul_comm
abbrev Q4t:=@World.block_lt_of_cell?
abbrev Q4u:=@List.getElem?_cons_succ
abbrev Q4v:=@List.drop_succ_cons
abbrev Q4w:=@Option.elim_some
abbrev Q4x:=@List.find?_cons_of_neg
abbrev Q4y:=@World.frozen?_setCell
abbrev Q4z:=@List.drop_zero
abbrev Q40:=@Int.natCast_zero
abbrev Q41:=@List.map_congr_left
abbrev Q42:=@List.flatMap_append
abbrev Q43:=@List.getElem?_take_of_lt
abbrev Q44:=@Array.getElem?_replicate
abbrev Q45:=@List.getElem?_cons_zero
abbrev Q46:=@List.getElem_cons_drop
abbrev Q47:=@List.find?_cons_of_pos
abbrev Q48:=@List.filter_eq_nil_iff
abbrev Q49:=@Nat.zero_le
abbrev Q5a:=@Bool.not_eq_true'
abbrev Q5b:=@World.cell?_alloc_new
abbrev Q5c:=@List.map_map
abbrev Q5d:=@List.getElem?_eq_none
abbrev Q5e:=@List.eq_nil_iff_forall_not_mem
abbrev Q5f:=@Bool.and_eq_false_iff
abbrev Q5g:=@Array.eq_empty_of_size_eq_zero
abbrev Q5h:=@Nat.le_of_not_lt
abbrev Q5i:=@Nat.div_eq_of_lt
abbrev Q5j:=@List.mem_flatMap
abbrev Q5k:=@List.drop_length
abbrev Q5l:=@List.any_eq_true
abbrev Q5m:=@Bool.or_eq_false_iff
abbrev Q5n:=@Array.toArray_toList
abbrev Q5o:=@Array.replicate_zero
abbrev Q5p:=@Array.replicate_succ
abbrev Q5q:=@Bool.or_false
abbrev Q5r:=@Nat.mul_add_div
abbrev Q5s:=@Nat.min_eq_left
abbrev Q5t:=@List.range_succ
abbrev Q5u:=@List.append_toArray
abbrev Q5v:=@Array.length_toList
abbrev Q5w:=@List.map_set
abbrev Q5x:=@Int.add_zero
abbrev Q5y:=@List.pairwise_iff_getElem
abbrev Q5z:=@List.getElem?_zip_eq_some
abbrev Q50:=@Array.getElem?_eq_getElem
abbrev Q51:=@World.cell?_setCell_same
abbrev Q52:=@List.push_toArray
abbrev Q53:=@List.getElem_take
abbrev Q54:=@List.getElem_drop
abbrev Q55:=@Function.comp_def
abbrev Q56:=@List.map_take
abbrev Q57:=@List.map_drop
abbrev Q58:=@Int.add_assoc
abbrev Q59:=@Nat.le_add_right
abbrev Q6a:=@List.isEmpty_iff
abbrev Q6b:=@List.countP_cons
abbrev Q6c:=@List.drop_of_length_le
abbrev Q6d:=@Nat.sub_self
abbrev Q6e:=@List.foldl_cons
abbrev Q6f:=@List.find?_cons
abbrev Q6g:=@Int.zero_add
abbrev Q6h:=@Int.natCast_one
abbrev Q6i:=@Bool.eq_iff_iff
abbrev Q6j:=@World.cell?_alloc_lt
abbrev Q6k:=@List.takeWhile_cons
abbrev Q6l:=@Nat.lt_of_lt_of_le
abbrev Q6m:=@List.all_cons
abbrev Q6n:=@Int.cast_ofNat_Int
abbrev Q6o:=@Array.foldl_toList
abbrev Q6p:=@Array.all_eq_true_iff_forall_mem
abbrev Q6q:=@World.cells?_some
abbrev Q6r:=@List.pairwise_map
abbrev Q6s:=@Array.getElem?_setIfInBounds_ne
abbrev Q6t:=@Nat.min_eq_right
abbrev Q6u:=@Nat.lt_of_not_le
abbrev Q6v:=@List.take_append_of_le_length
abbrev Q6w:=@List.map_toArray
abbrev Q6x:=@Option.map_none
abbrev Q6y:=@Array.getElem?_append_right
abbrev Q6z:=@Array.toList_setIfInBounds
abbrev Q60:=@List.mem_of_find?_eq_some
abbrev Q61:=@List.getLast?_eq_getElem?
abbrev Q62:=@Bool.false_and
abbrev Q63:=@Array.mapM_eq_mapM_toList
abbrev Q64:=@World.cell?_setCells_out
abbrev Q65:=@List.getElem_append_left
abbrev Q66:=@World.frozen?_alloc_new
abbrev Q67:=@World.cell?_setCells_in
abbrev Q68:=@List.drop_nil
abbrev Q69:=@Bool.true_and
abbrev Q7a:=@List.length_eq_one_iff
abbrev Q7b:=@Array.getElem?_extract
abbrev Q7c:=@Nat.add_comm
abbrev Q7d:=@List.mem_append_right
abbrev Q7e:=@List.getElem?_toArray
abbrev Q7f:=@List.contains_iff_mem
abbrev Q7g:=@Array.getElem?_toList
section
abbrev somI:=@Option.some.injEq
abbrev prdI:=@Prod.mk.injEq
open Go.RowKit (Below)
inductive D where
 |bool (b:Bool)
 |int (k:IntKind) (n:Int)
 |str (s:List UInt8)
 |sl (z:Bool) (sz:Nat) (rows:List (List D))
 |nilp|nilf|nili|nilm
 |fn (f:FuncId)
 deriving Inhabited
inductive A where
 |d (x:D)
 |agg (cs:List A)
 |tup (vs:List A)
 |osl (z:Bool) (sz:Nat) (rows:List (List D)) (t:Nat)
 |msl (i off len:Nat)
 |vsl (i k len:Nat)
 |vptr (i k idx off:Nat)
 |ptr (i off:Nat)
 |aptr (i idx off:Nat)
 |eptr (cells:List D)
 |fn (f:Fn) (first captured:List A)
 |map (i:Nat)
 |cun
 |undef
 deriving Inhabited
inductive Ob where
 |box (ty:TypeId) (cs:List A)
 |arr (sz:Nat) (rows:List (List A))
 |tok (n sz:Nat) (e:TypeId)
 |vec (sz:Nat) (e:TypeId) (k:Nat) (rows:List (List D))
 |mp (es:List (D×A))
 |dead
 |glob (g:Nat) (cs:List Value)
 deriving Inhabited
abbrev Hp:=List Ob
inductive Bind where
 |none
 |blk (b:Nat)
 |arr (b sz:Nat) (s:Option (TypeId×Nat))
 |map (b:Nat)
 |nilT
 |reg (b e c m sz:Nat)
 |vec (b c l k sz:Nat)
 |nilV
 |deadT
def Bind.block:Bind->Option Nat
 |.blk b|.arr b _ _|.map b|.reg b _ _ _ _|.vec b _ _ _ _=>some b
 |_=>Option.none
def Bind.owns:Bind->Nat->Nat->Prop
 |.blk b,b',_|.arr b _ _,b',_|.map b,b',_|.vec b _ _ _ _,b',_=>b=b'
 |.reg b e _ _ _,b',o=>b=b'/\e<=o
 |_,_,_=>False
def Bind.le:Bind->Bind->Prop
 |.none,_=>True
 |.nilT,y=>y=.nilT\/y=.deadT\/∃b e c m sz,y=.reg b e c m sz/\0<m
 |.reg b e c m sz,y=>y=.reg b e c m sz\/y=.deadT\/∃b' e' c' m',y=.reg b' e' c' m' sz/\m<m'
 |.arr b sz s,y=>y=.arr b sz s\/y=.deadT
 |.vec b c l k sz,y=>y=.vec b c l k sz\/y=.deadT\/∃b' c' l' k',y=.vec b' c' l' k' sz/\k<k'
 |.nilV,y=>y=.nilV\/y=.deadT\/∃b c l k sz,y=.vec b c l k sz/\0<k
 |x,y=>y=x
def Bind.le_refl(x:Bind):x.le x:=by cases x<;>simp[Bind.le]
def Bind.le_trans{x y z:Bind}(h:x.le y)(k:y.le z):x.le z:=by
 cases x with
 |none=>trivial
 |blk b=>simp only[Bind.le]at h;subst h;exact k
 |arr b s q=>
  simp only[Bind.le]at h;rcases h with rfl|rfl
  .exact k
  .simp only[Bind.le]at k⊢;exact .inr k
 |vec b c l n sz=>
  simp only[Bind.le]at h;rcases h with rfl|rfl|⟨b',c',l',n',rfl,hn⟩
  .exact k
  .simp only[Bind.le]at k⊢;subst k;exact .inr (.inl rfl)
  .simp only[Bind.le]at k⊢;rcases k with rfl|rfl|⟨b2,c2,l2,n2,rfl,hn2⟩
   .exact .inr (.inr ⟨_,_,_,_,rfl,hn⟩)
   .exact .inr (.inl rfl)
   .exact .inr (.inr ⟨_,_,_,_,rfl,by omega⟩)
 |map b=>simp only[Bind.le]at h;subst h;exact k
 |nilV=>
  simp only[Bind.le]at h;rcases h with rfl|rfl|⟨b,c,l,n,sz,rfl,hn⟩
  .exact k
  .simp only[Bind.le]at k⊢;subst k;exact .inr (.inl rfl)
  .simp only[Bind.le]at k⊢;rcases k with rfl|rfl|⟨b',c',l',n',rfl,hn'⟩
   .exact .inr (.inr ⟨_,_,_,_,_,rfl,hn⟩)
   .exact .inr (.inl rfl)
   .exact .inr (.inr ⟨_,_,_,_,_,rfl,by omega⟩)
 |nilT=>
  simp only[Bind.le]at h;rcases h with rfl|rfl|⟨b,e,c,m,sz,rfl,hm⟩
  .exact k
  .simp only[Bind.le]at k⊢;subst k;exact .inr (.inl rfl)
  .simp only[Bind.le]at k⊢;rcases k with rfl|rfl|⟨b',e',c',m',rfl,hm'⟩
   .exact .inr (.inr ⟨_,_,_,_,_,rfl,hm⟩)
   .exact .inr (.inl rfl)
   .exact .inr (.inr ⟨_,_,_,_,_,rfl,by omega⟩)
 |deadT=>simp only[Bind.le]at h;subst h;exact k
 |reg b e c m sz=>
  simp only[Bind.le]at h;rcases h with rfl|rfl|⟨b',e',c',m',rfl,hm⟩
  .exact k
  .simp only[Bind.le]at k⊢;subst k;exact .inr (.inl rfl)
  .simp only[Bind.le]at k⊢;rcases k with rfl|rfl|⟨b2,e2,c2,m2,rfl,hm2⟩
   .exact .inr (.inr ⟨_,_,_,_,rfl,hm⟩)
   .exact .inr (.inl rfl)
   .exact .inr (.inr ⟨_,_,_,_,rfl,by omega⟩)
abbrev St:=Nat->Nat->Option Value
def St.le(s t:St):Prop:=∀b o v,s b o=some v->t b o=some v
inductive DR(σ:St):Value->D->Prop
 |bool (b:Bool):DR σ (.bool b) (.bool b)
 |int (k:IntKind) (n:Int):DR σ (.int k n) (.int k n)
 |str (s:ByteArray):DR σ (.string s) (.str s.data.toList)
 |nilsl (sz:Nat):DR σ (.slice none 0 0) (.sl true sz [])
 |sl (z:Bool) (sz:Nat) (rows:List (List D)) (b o cap:Nat) (f:Nat->Nat->Value)
 (hz:z=true->rows≠[])
 (hcap:rows.length<=cap)
 (hrow:∀(i:Nat)(r:List D),rows[i]?=some r->r.length=sz)
 (hc:∀(i j:Nat)(r:List D)(x:D),rows[i]?=some r->r[j]?=some x->σ b (o+i*sz+j)=some (f i j))
 (hd:∀(i j:Nat)(r:List D)(x:D),rows[i]?=some r->r[j]?=some x->DR σ (f i j) x):
 DR σ (.slice (some ⟨b,o,none⟩) rows.length cap) (.sl z sz rows)
 |emp (sz:Nat) (a:Addr) (cap:Nat):DR σ (.slice (some a) 0 cap) (.sl false sz [])
 |nilp:DR σ (.pointer none) .nilp
 |nilf:DR σ .nilFunc .nilf
 |nili:DR σ .nilIface .nili
 |nilm:DR σ (.map none) .nilm
 |fn (f:FuncId):DR σ (.func (.func f) #[] #[]) (.fn f)
def DR.mono{σ τ:St}(hs:σ.le τ){v:Value}{x:D}(h:DR σ v x):DR τ v x:=by
 induction h with
 |bool b=>exact .bool b
 |int k n=>exact .int k n
 |str s=>exact .str s
 |nilsl sz=>exact .nilsl sz
 |sl z sz rows b o cap f hz hcap hrow hc hd ih=>exact .sl z sz rows b o cap f hz hcap hrow (λi j r x h1 h2=>hs _ _ _ (hc i j r x h1 h2)) ih
 |emp sz a cap=>exact .emp sz a cap
 |nilp=>exact .nilp
 |nilf=>exact .nilf
 |nili=>exact .nili
 |nilm=>exact .nilm
 |fn f=>exact .fn f
def DR.sl_inv{σ:St}{v:Value}{z:Bool}{sz:Nat}{rows:List (List D)}(h:DR σ v (.sl z sz rows)):(v=.slice none 0 0/\z=true/\rows=[])\/(∃(a:Addr)(cap:Nat),v=.slice (some a) 0 cap/\z=false/\rows=[])\/
 ∃(b o cap:Nat)(f:Nat->Nat->Value),v=.slice (some ⟨b,o,none⟩) rows.length cap/\(z=true->rows≠[])/\rows.length<=cap/\
 (∀(i:Nat)(r:List D),rows[i]?=some r->r.length=sz)/\
 (∀(i j:Nat)(r:List D)(x:D),rows[i]?=some r->r[j]?=some x->σ b (o+i*sz+j)=some (f i j))/\
 (∀(i j:Nat)(r:List D)(x:D),rows[i]?=some r->r[j]?=some x->DR σ (f i j) x):=by
 cases h with
 |nilsl=>exact .inl ⟨rfl,rfl,rfl⟩
 |sl _ _ _ b o cap f hz hcap hrow hc hd=>exact .inr (.inr ⟨b,o,cap,f,rfl,hz,hcap,hrow,hc,hd⟩)
 |emp _ a cap=>exact .inr (.inl ⟨a,cap,rfl,rfl,rfl⟩)
def DR.sl_at{σ:St}{b o n cap:Nat}{z:Bool}{sz:Nat}{rows:List (List D)}(h:DR σ (.slice (some ⟨b,o,none⟩) n cap) (.sl z sz rows)):n=rows.length/\∃(f:Nat->Nat->Value),(z=true->rows≠[])/\rows.length<=cap/\
 (∀(i:Nat)(r:List D),rows[i]?=some r->r.length=sz)/\
 (∀(i j:Nat)(r:List D)(x:D),rows[i]?=some r->r[j]?=some x->σ b (o+i*sz+j)=some (f i j))/\
 (∀(i j:Nat)(r:List D)(x:D),rows[i]?=some r->r[j]?=some x->DR σ (f i j) x):=by
 rcases h.sl_inv with⟨h0,-⟩|⟨a,c,h0,rfl,rfl⟩|⟨b',o',c',f,h0,hz,hcap,hrow,hc,hd⟩
 .cases h0
 .cases h0
  exact⟨rfl,λ_ _=>.tuple #[],by simp,by simp,by simp,by simp,by simp⟩
 .cases h0
  exact⟨rfl,f,hz,hcap,hrow,hc,hd⟩
structure K where
 w0:World
 σ:St
 β:Nat->Bind
def Qez:Bind->Value->Nat->Prop
 |.nilT,v,n=>n=0/\v=.slice none 0 0
 |.reg b e c m sz,v,n=>n<=m/\(n=m->∃o cap,v=.slice (some ⟨b,o,none⟩) n cap/\n<=cap/\e=o+n*sz/\c=o+cap*sz/\o=0)
 |.deadT,_,_=>True
 |_,_,_=>False
def Qez.mono{x y:Bind}(h:x.le y){v:Value}{n:Nat}(t:Qez x v n):Qez y v n:=by
 cases x with
 |none=>exact t.elim
 |blk b=>exact t.elim
 |arr b s q=>exact t.elim
 |map b=>exact t.elim
 |vec b c l k sz=>exact t.elim
 |nilV=>exact t.elim
 |nilT=>
  simp only[Bind.le]at h;rcases h with rfl|rfl|⟨b,e,c,m,sz,rfl,hm⟩
  .exact t
  .trivial
  .obtain⟨rfl,-⟩:=t;exact⟨by omega,λh0=>by omega⟩
 |reg b e c m sz=>
  simp only[Bind.le]at h;rcases h with rfl|rfl|⟨b',e',c',m',rfl,hm⟩
  .exact t
  .trivial
  .obtain⟨t1,-⟩:=t;exact⟨by omega,λh0=>by omega⟩
 |deadT=>simp only[Bind.le]at h;subst h;trivial
def Qc3:Bind->Value->Nat->Nat->Prop
 |.vec b c l k' _,v,k,len=>k<=k'/\(k=k'->len<=l/\v=.slice (some ⟨b,0,none⟩) len c)
 |.nilV,v,k,len=>k=0/\len=0/\v=.slice none 0 0
 |.deadT,_,_,_=>True
 |_,_,_,_=>False
def Qc3.mono{x y:Bind}(h:x.le y){v:Value}{k len:Nat}(t:Qc3 x v k len):Qc3 y v k len:=by
 cases x with
 |vec b c l n sz=>
  simp only[Bind.le]at h;obtain⟨t1,t2⟩:=t;rcases h with rfl|rfl|⟨b',c',l',n',rfl,hn⟩
  .exact⟨t1,t2⟩
  .trivial
  .exact⟨by omega,λe=>by omega⟩
 |deadT=>simp only[Bind.le]at h;subst h;trivial
 |nilV=>
  simp only[Bind.le]at h;obtain⟨rfl,rfl,rfl⟩:=t;rcases h with rfl|rfl|⟨b',c',l',n',sz,rfl,hn⟩
  .exact⟨rfl,rfl,rfl⟩
  .trivial
  .exact⟨by omega,λe=>by omega⟩
 |_=>exact t.elim
def Qd5:Bind->Addr->Nat->Nat->Nat->Prop
 |.vec b _ _ k' sz,a,k,idx,off=>k<=k'/\(k=k'->a=⟨b,idx*sz+off,none⟩)
 |.deadT,_,_,_,_=>True
 |_,_,_,_,_=>False
def Qd5.mono{x y:Bind}(h:x.le y){a:Addr}{k idx off:Nat}(t:Qd5 x a k idx off):Qd5 y a k idx off:=by
 cases x with
 |vec b c l n sz=>
  simp only[Bind.le]at h;obtain⟨t1,t2⟩:=t;rcases h with rfl|rfl|⟨b',c',l',n',rfl,hn⟩
  .exact⟨t1,t2⟩
  .trivial
  .exact⟨by omega,λe=>by omega⟩
 |deadT=>simp only[Bind.le]at h;subst h;trivial
 |_=>exact t.elim
inductive VR(κ:K):Value->A->Prop
 |d {v:Value} {x:D} (h:DR κ.σ v x):VR κ v (.d x)
 |agg (vs:List Value) (ars:List A) (hl:vs.length=ars.length) (h:∀(i:Nat)(v:Value)(a:A),vs[i]?=some v->ars[i]?=some a->VR κ v a):VR κ (.agg vs.toArray) (.agg ars)
 |tup (vs:List Value) (ars:List A) (hl:vs.length=ars.length) (h:∀(i:Nat)(v:Value)(a:A),vs[i]?=some v->ars[i]?=some a->VR κ v a):VR κ (.tuple vs.toArray) (.tup ars)
 |osl {v:Value} {z:Bool} {sz:Nat} {rows:List (List D)} {t:Nat} (h:DR κ.σ v (.sl z sz rows)) (ht:Qez (κ.β t) v rows.length):VR κ v (.osl z sz rows t)
 |msl (i off len b sz o cap:Nat) (hb:(∃s,κ.β i=.arr b sz s)\/κ.β i=.deadT) (hl:len<=cap) (ho:0<len->o=off*sz) (hz:len=0->cap=0):VR κ (.slice (some ⟨b,o,none⟩) len cap) (.msl i off len)
 |vsl (i k len:Nat) (ad:Option Addr) (cap:Nat) (hl:len<=cap) (hf:Qc3 (κ.β i) (.slice ad len cap) k len):VR κ (.slice ad len cap) (.vsl i k len)
 |vptr (i k idx off b o:Nat) (hf:Qd5 (κ.β i) ⟨b,o,none⟩ k idx off):VR κ (.pointer (some ⟨b,o,none⟩)) (.vptr i k idx off)
 |ptr (i off b:Nat) (hb:κ.β i=.blk b):VR κ (.pointer (some ⟨b,off,none⟩)) (.ptr i off)
 |aptr (i idx off b sz:Nat) (hb:(∃s,κ.β i=.arr b sz s)\/κ.β i=.deadT):VR κ (.pointer (some ⟨b,idx*sz+off,none⟩)) (.aptr i idx off)
 |eptr (cells:List D) (b o:Nat) (f:Nat->Value) (hc:∀(j:Nat)(x:D),cells[j]?=some x->κ.σ b (o+j)=some (f j)) (hd:∀(j:Nat)(x:D),cells[j]?=some x->DR κ.σ (f j) x):
 VR κ (.pointer (some ⟨b,o,none⟩)) (.eptr cells)
 |fn (f:Fn) (vs1 vs2:List Value) (as1 as2:List A) (hl1:vs1.length=as1.length) (hl2:vs2.length=as2.length)
 (h1:∀(i:Nat)(v:Value)(a:A),vs1[i]?=some v->as1[i]?=some a->VR κ v a) (h2:∀(i:Nat)(v:Value)(a:A),vs2[i]?=some v->as2[i]?=some a->VR κ v a):
 VR κ (.func f vs1.toArray vs2.toArray) (.fn f as1 as2)
 |map (i b:Nat) (hb:κ.β i=.map b):VR κ (.map (some b)) (.map i)
 |cun (v:Value) (h:v.oneCell'=true):VR κ v .cun
 |undef (v:Value):VR κ v .undef
structure K.le(κ κ':K):Prop where
 w0:κ'.w0=κ.w0
 σ:κ.σ.le κ'.σ
 β:∀i,(κ.β i).le (κ'.β i)
def K.le_refl(κ:K):κ.le κ:=⟨rfl,λ_ _ _ h=>h,λ_=>Bind.le_refl _⟩
def K.le_trans{a b c:K}(h:a.le b)(k:b.le c):a.le c:=⟨k.w0.trans h.w0,λ_ _ _ x=>k.σ _ _ _ (h.σ _ _ _ x),λi=>Bind.le_trans (h.β i) (k.β i)⟩
def K.le.trans{a b c:K}(h:a.le b)(k:b.le c):a.le c:=K.le_trans h k
def K.le.arr{κ κ':K}(hk:κ.le κ'){i b sz:Nat}(hb:(∃s,κ.β i=.arr b sz s)\/κ.β i=.deadT):(∃s,κ'.β i=.arr b sz s)\/κ'.β i=.deadT:=by
 have:=hk.β i;rcases hb with⟨s,hb⟩|hb
 .rw[hb]at this;rcases this with this|this
  .exact .inl ⟨s,this⟩
  .exact .inr this
 .rw[hb]at this;exact .inr this
def VR.mono{κ κ':K}(hk:κ.le κ'){v:Value}{a:A}(h:VR κ v a):VR κ' v a:=by
 induction h with
 |d h=>exact .d (h.mono hk.σ)
 |agg vs ars hl _ ih=>exact .agg vs ars hl ih
 |tup vs ars hl _ ih=>exact .tup vs ars hl ih
 |osl h ht=>exact .osl (h.mono hk.σ) (ht.mono (hk.β _))
 |msl i off len b sz o cap hb hl ho hz=>exact .msl i off len b sz o cap (hk.arr hb) hl ho hz
 |vsl i k len ad cap hl hf=>exact .vsl i k len ad cap hl (hf.mono (hk.β i))
 |vptr i k idx off b o hf=>exact .vptr i k idx off b o (hf.mono (hk.β i))
 |ptr i off b hb=>exact .ptr i off b (by have:=hk.β i;rw[hb]at this;exact this)
 |aptr i idx off b sz hb=>exact .aptr i idx off b sz (hk.arr hb)
 |eptr cells b o f hc hd=>exact .eptr cells b o f (λj x h=>hk.σ _ _ _ (hc j x h)) (λj x h=>(hd j x h).mono hk.σ)
 |fn f vs1 vs2 as1 as2 hl1 hl2 _ _ ih1 ih2=>exact .fn f vs1 vs2 as1 as2 hl1 hl2 ih1 ih2
 |map i b hb=>exact .map i b (by have:=hk.β i;rw[hb]at this;exact this)
 |cun v h=>exact .cun v h
 |undef v=>exact .undef v
def OR(κ:K)(w:World)(i:Nat):Ob->Prop
 |.box ty cs=>∃b,κ.β i=.blk b/\w.shape? b=some (ty,cs.length)/\∀(j:Nat)(a:A),cs[j]?=some a->∃v,w.cell? ⟨b,j,none⟩=some v/\w.frozen? ⟨b,j,none⟩=false/\VR κ v a
 |.arr sz rows=>∃b s,κ.β i=.arr b sz s/\(∀ty n,s=some (ty,n)->∃cur,w.heap[b]?=some (.cells cur ty (0,0))/\cur.size=n)/\∀(k:Nat)(r:List A),rows[k]?=some r->r.length=sz/\
  ∀(j:Nat)(a:A),r[j]?=some a->∃v,w.cell? ⟨b,k*sz+j,none⟩=some v/\w.frozen? ⟨b,k*sz+j,none⟩=false/\VR κ v a
 |.tok n sz ty=>(κ.β i=.nilT/\n=0)\/∃(b e c:Nat)(cur:Array Value)(lo hi:Nat),κ.β i=.reg b e c n sz/\w.heap[b]?=some (.cells cur ty (lo,hi))/\c<=cur.size/\((lo=0/\hi=0)\/(sz=1/\hi<=e))
 |.vec sz ty k rows=>(κ.β i=.nilV/\k=0/\rows=[])\/∃(b c:Nat)(cur:Array Value),κ.β i=.vec b c rows.length k sz/\(k=0->rows≠[])/\w.heap[b]?=some (.cells cur ty (0,0))/\rows.length<=c/\c*sz<=cur.size/\
  ∀(j:Nat)(r:List D),rows[j]?=some r->r.length=sz/\∀(q:Nat)(x:D),r[q]?=some x->∃v,cur[j*sz+q]?=some v/\DR κ.σ v x
 |.mp l=>∃(b:Nat)(es:Array MapEntry)(clock:Nat),κ.β i=.map b/\w.heap[b]?=some (.map es clock)/\es.size=l.length/\
  ∀(j:Nat)(x:D×A),l[j]?=some x->∃e,es[j]?=some e/\DR κ.σ e.key x.1/\VR κ e.val x.2
 |.dead=>True
 |.glob g cs=>∃ty fr,κ.w0.heap[g]?=some (.cells cs.toArray ty fr)
def A.flat0:A->Bool
 |.agg _|.tup _|.fn ..|.undef=>false
 |_=>true
def A.flat:A->Bool
 |.agg _|.tup _|.undef=>false
 |.fn _ a b=>a.all A.flat0&&b.all A.flat0
 |_=>true
def Ob.flat:Ob->Bool
 |.box _ cs=>cs.all A.flat
 |.arr _ rows=>rows.all λr=>r.all A.flat
 |.mp l=>l.all λe=>e.2.flat
 |_=>true
structure HR(κ:K)(H:Hp)(w:World):Prop where
 below:Below κ.w0.heap.size κ.w0 w
 st:∀b o v,κ.σ b o=some v->w.cell? ⟨b,o,none⟩=some v
 ob:∀i x,H[i]?=some x->OR κ w i x
 dom:∀i,H.length<=i->κ.β i=.none
 ex:∀i b,(κ.β i).block=some b->κ.w0.heap.size<=b/\b<w.heap.size
 exσ:∀i b o,(κ.β i).owns b o->κ.σ b o=none
 exd:∀i j b,(κ.β i).block=some b->(κ.β j).block=some b->i=j
 fl:∀(i:Nat)(x:Ob),H[i]?=some x->x.flat=true
def HR.drew{κ:K}{H:Hp}{w:World}(h:HR κ H w):HR κ H w.drew:=⟨h.below.drew,h.st,λi x hx=>by have:=h.ob i x hx;cases x<;>exact this,h.dom,h.ex,h.exσ,h.exd,h.fl⟩
abbrev Fr:=Nat->A
def Fr.set(fr:Fr)(d:Nat)(v:A):Fr:=λs=>if s=d then v else fr s
def Fr.put(fr:Fr)(d:Option Nat)(v:A):Fr:=match d with|some d=>fr.set d v|none=>fr
structure NT where
 n:Nat
 ds:List Deferred:=[]
instance:CoeHead NT Nat:=⟨NT.n⟩
structure SR(κ:K)(nt:NT)(fr:Fr)(H:Hp)(a:Act)(w:World):Prop where
 size:a.tmps.size=nt.n
 defers:a.defers=nt.ds
 hr:HR κ H w
 vr:∀s,VR κ (a.tmps.getD s undef) (fr s)
def SR.put{κ κ':K}{nt:NT}{fr:Fr}{H H':Hp}{a:Act}{w w':World}(h:SR κ nt fr H a w)(hk:κ.le κ')(hr:HR κ' H' w'){d:Option Nat}(hd:∀x,d=some x->x<nt.n){v:Value}{x:A}(hv:VR κ' v x):SR κ' nt (fr.put d x) H' (a.put d v) w':=by
 cases d with
 |none=>exact⟨h.size,h.defers,hr,λs=>(h.vr s).mono hk⟩
 |some d=>
  have hlt:=hd d rfl;refine⟨by simpa[Act.put]using h.size,h.defers,hr,λs=>?_⟩;by_cases hs:s=d
  .subst hs;simp only[Fr.put,Fr.set,if_true,Act.put];have:(a.tmps.setIfInBounds s v).getD s undef=v:=by simp[h.size,hlt]
   rw[this];exact hv
  .simp only[Fr.put,Fr.set,hs,if_false,Act.put];have:(a.tmps.setIfInBounds d v).getD s undef=a.tmps.getD s undef:=by simp[Q6s (Ne.symm hs)]
   rw[this];exact(h.vr s).mono hk
end
section
open Go.RowKit (Below)
def upd(β:Nat->Bind)(i:Nat)(x:Bind):Nat->Bind:=λj=>if j=i then x else β j
def Qk(β:Nat->Bind)(i:Nat)(x:Bind):upd β i x i=x:=by simp[upd]
def Qu(β:Nat->Bind){i j:Nat}(x:Bind)(h:j≠i):upd β i x j=β j:=by simp[upd,h]
def K.le_upd{κ:K}{i:Nat}(h:κ.β i=.none)(x:Bind):κ.le {κ with β:=upd κ.β i x}:=⟨rfl,λ_ _ _ h=>h,λj=>by
 by_cases hi:j=i
 .subst hi;rw[h];trivial
 .show(κ.β j).le (upd κ.β i x j);rw[Qu _ _ hi];exact Bind.le_refl _⟩
def Qbb{w w':World}{b:Nat}(h:w'.heap[b]?=w.heap[b]?)(o:Nat):w'.cell? ⟨b,o,none⟩=w.cell? ⟨b,o,none⟩/\w'.frozen? ⟨b,o,none⟩=w.frozen? ⟨b,o,none⟩:=by simp only[World.cell?,World.frozen?,h,and_self]
def Qlo(w:World)(a:Addr)(v:Value)(b:Nat):(w.setCell a v).shape? b=w.shape? b:=by
 simp only[World.shape?,World.setCell,Q3w];by_cases hb:a.block=b
 .subst hb;rw[if_pos rfl];cases w.heap[a.block]? with
  |none=>rfl
  |some o=>cases o<;>simp<;>split<;>simp
 .rw[if_neg hb]
def OR.mono{κ κ':K}(hk:κ.le κ'){w w':World}{i:Nat}{x:Ob}(h:OR κ w i x)(hb:κ'.β i=κ.β i)(hw:∀b,(κ.β i).block=some b->w'.heap[b]?=w.heap[b]?):OR κ' w' i x:=by
 cases x with
 |box ty cs=>obtain⟨b,hβ,hsh,hc⟩:=h;refine⟨b,hb.trans hβ,by rw[<-hsh];simp only[World.shape?,hw b (by rw[hβ];rfl)],λj a ha=>?_⟩;obtain⟨v,h1,h2,h3⟩:=hc j a ha;obtain⟨h4,h5⟩:=Qbb (hw b (by rw[hβ];rfl)) j;exact⟨v,h4.trans h1,h5.trans h2,h3.mono hk⟩
 |arr sz rows=>obtain⟨b,s,hβ,hs,hc⟩:=h;refine⟨b,s,hb.trans hβ,λty n e=>by rw[hw b (by rw[hβ];rfl)];exact hs ty n e,λk r hr=>⟨(hc k r hr).1,λj a ha=>?_⟩⟩;obtain⟨v,h1,h2,h3⟩:=(hc k r hr).2 j a ha;obtain⟨h4,h5⟩:=Qbb (hw b (by rw[hβ];rfl)) (k*sz+j);exact⟨v,h4.trans h1,h5.trans h2,h3.mono hk⟩
 |tok n sz ty=>
  rcases h with⟨h1,h2⟩|⟨b,e,c,cur,lo,hi,hβ,hc,h3⟩
  .exact .inl ⟨hb.trans h1,h2⟩
  .exact .inr ⟨b,e,c,cur,lo,hi,hb.trans hβ,(hw b (by rw[hβ];rfl)).trans hc,h3⟩
 |vec sz ty k rows=>
  rcases h with⟨h0,h1⟩|⟨b,c,cur,hβ,hk0,hc,h1,h2,h3⟩
  .exact .inl ⟨hb.trans h0,h1⟩
  refine .inr ⟨b,c,cur,hb.trans hβ,hk0,(hw b (by rw[hβ];rfl)).trans hc,h1,h2,λj r hr=>⟨(h3 j r hr).1,λq x hx=>?_⟩⟩;obtain⟨v,h4,h5⟩:=(h3 j r hr).2 q x hx;exact⟨v,h4,h5.mono hk.σ⟩
 |mp l=>obtain⟨b,es,clock,hβ,hc,h1,h2⟩:=h;refine⟨b,es,clock,hb.trans hβ,(hw b (by rw[hβ];rfl)).trans hc,h1,λj x hx=>?_⟩;obtain⟨e,h3,h4,h5⟩:=h2 j x hx;exact⟨e,h3,h4.mono hk.σ,h5.mono hk⟩
 |dead=>trivial
 |glob g cs=>obtain⟨ty,fr,h1⟩:=h;exact⟨ty,fr,hk.w0▸h1⟩
def OR.spare{w:World}{b e c:Nat}{cur:Array Value}{ty:TypeId}{lo hi:Nat}(h:w.heap[b]?=some (.cells cur ty (lo,hi)))(hc:c<=cur.size)(hl:hi<=lo\/hi<=e)(o:Nat)(h1:e<=o)(h2:o<c):
 (∃v,w.cell? ⟨b,o,none⟩=some v)/\w.frozen? ⟨b,o,none⟩=false:=by
 have:o<cur.size:=by omega
 refine⟨⟨cur[o],by simp[World.cell?,h,this]⟩,?_⟩;simp only[World.frozen?,h];simp only[Q5f,decide_eq_false_iff_not];omega
def Bind.block_of_owns{x:Bind}{b o:Nat}(h:x.owns b o):x.block=some b:=by cases x<;>simp only[Bind.owns]at h<;>first|exact h.elim|(subst h;rfl)|(obtain⟨rfl,-⟩:=h;rfl)
def HR.push{κ:K}{H:Hp}{w:World}(h:HR κ H w)(o:Obj)(x:Bind)(y:Ob)(hx:x.block=some w.heap.size)(hfl:y.flat=true)(hy:OR {κ with β:=upd κ.β H.length x} (w.alloc o) H.length y):
 κ.le {κ with β:=upd κ.β H.length x}/\HR {κ with β:=upd κ.β H.length x} (H++[y]) (w.alloc o):=by
 have hn:κ.β H.length=.none:=h.dom _ (Q14 _);have hle:κ.le {κ with β:=upd κ.β H.length x}:=⟨rfl,λ_ _ _ h=>h,λi=>by
  by_cases hi:i=H.length
  .subst hi;rw[hn];trivial
  .show(κ.β i).le (upd κ.β H.length x i);rw[Qu _ _ hi];exact Bind.le_refl _⟩
 have hst:∀b p v,κ.σ b p=some v->b<w.heap.size:=λb p v hv=>Q4t w ⟨b,p,none⟩ (h.st b p v hv);refine⟨hle,?_⟩;have hw0:κ.w0.heap.size<=w.heap.size:=h.below.size;refine⟨h.below.alloc hw0 o,λb p v hv=>?_,λi z hz=>?_,λi hi=>?_,λi b hb=>?_,λi b p hp=>?_,λi j b hi hj=>?_,λi z hz=>?_⟩
 .show(w.alloc o).cell? _=_;rw[Q6j w o ⟨b,p,none⟩ (hst b p v hv)];exact h.st b p v hv
 .by_cases hi:i<H.length
  .rw[Q19 hi]at hz;have hbi:upd κ.β H.length x i=κ.β i:=Qu _ _ (by omega);exact(h.ob i z hz).mono hle hbi λb hb=>Below.heap_alloc w o b (h.ex i b hb).2
  .have:i=H.length:=by have:=(Q11.1 hz).1;simp at this;omega
   subst this;simp at hz;subst hz;exact hy
 .have h1:H.length+1<=i:=by simpa using hi
  show upd κ.β H.length x i=_;rw[Qu _ _ (by omega)];exact h.dom i (by omega)
 .by_cases hi:i=H.length
  .subst hi;simp only[Qk,hx,somI]at hb;subst hb;exact⟨hw0,by simp⟩
  .simp only[Qu _ _ hi]at hb;have:=h.ex i b hb;exact⟨this.1,by simp;omega⟩
 .by_cases hi:i=H.length
  .subst hi;have hb:=Bind.block_of_owns hp;simp only[Qk,hx,somI]at hb;show κ.σ b p=none;cases hs:κ.σ b p with
   |none=>rfl
   |some v=>have:=hst b p v hs;omega
  .simp only[Qu _ _ hi]at hp;exact h.exσ i b p hp
 .have hold:∀k,k≠H.length->∀c,(κ.β k).block=some c->c<w.heap.size:=λk _ c hc=>(h.ex k c hc).2;by_cases h1:i=H.length<;>by_cases h2:j=H.length
  .omega
  .subst h1;simp only[Qk,hx,somI,Qu _ _ h2]at hi hj;have:=hold j h2 b hj;omega
  .subst h2;simp only[Qk,hx,somI,Qu _ _ h1]at hi hj;have:=hold i h1 b hi;omega
  .simp only[Qu _ _ h1,Qu _ _ h2]at hi hj;exact h.exd i j b hi hj
 .by_cases hi:i<H.length
  .rw[Q19 hi]at hz;exact h.fl i z hz
  .have:i=H.length:=by have:=(Q11.1 hz).1;simp at this;omega
   subst this;simp at hz;subst hz;exact hfl
def HR.pushBox{κ:K}{H:Hp}{w:World}(h:HR κ H w)(vs:List Value)(ars:List A)(t:TypeId)(hl:vs.length=ars.length)(hfl:ars.all A.flat=true)(hv:∀(i:Nat) (v:Value) (a:A),vs[i]?=some v->ars[i]?=some a->VR κ v a):
 ∃κ',κ.le κ'/\HR κ' (H++[.box t ars]) (w.alloc (.cells vs.toArray t))/\VR κ' (.pointer (some ⟨w.heap.size,0,none⟩)) (.ptr H.length 0):=by
 have:=h.push (.cells vs.toArray t) (.blk w.heap.size) (.box t ars) rfl hfl (by
  refine⟨w.heap.size,Qk _ _ _,(by
   have e:(w.alloc (.cells vs.toArray t)).heap[w.heap.size]?=some (.cells vs.toArray t):=by show(w.heap.push _)[w.heap.size]?=_;simp
   simp only[World.shape?,e];simp[hl]),λj a ha=>?_⟩
  have hj:j<vs.length:=by rw[hl];exact(Q11.1 ha).1
  refine⟨vs[j],?_,Q66 w _ t j,?_⟩
  .rw[Q5b];simp[hj]
  .exact(hv j vs[j] a (Q12 hj) ha).mono (K.le_upd (h.dom _ (Q14 _)) _))
 exact⟨_,this.1,this.2,.ptr _ _ _ (Qk _ _ _)⟩
def HR.pushArr{κ:K}{H:Hp}{w:World}(h:HR κ H w)(c:Array Value)(sz:Nat)(rows:List (List A))(t:TypeId)(hsz:∀(k:Nat) (r:List A),rows[k]?=some r->r.length=sz)(hfl:(rows.all λr=>r.all A.flat)=true)(hv:∀(k j:Nat) (r:List A) (a:A),rows[k]?=some r->r[j]?=some a->∃v,c[k*sz+j]?=some v/\VR κ v a)(n:Nat)(hn:rows.length<=n)(hn0:rows.length=0->n=0):
 ∃κ',κ.le κ'/\HR κ' (H++[.arr sz rows]) (w.alloc (.cells c t))/\VR κ' (.slice (some ⟨w.heap.size,0,none⟩) rows.length n) (.msl H.length 0 rows.length):=by
 have:=h.push (.cells c t) (.arr w.heap.size sz none) (.arr sz rows) rfl hfl (by
  refine⟨w.heap.size,none,Qk _ _ _,λ_ _ e=>(by cases e),λk r hr=>⟨hsz k r hr,λj a ha=>?_⟩⟩;obtain⟨v,h1,h2⟩:=hv k j r a hr ha;refine⟨v,?_,Q66 w _ t _,?_⟩
  .rw[Q5b];exact h1
  .exact h2.mono (K.le_upd (h.dom _ (Q14 _)) _))
 exact⟨_,this.1,this.2,(.msl _ _ _ _ _ _ _ (.inl ⟨_,Qk _ _ _⟩) hn (λ_=>by simp) hn0)⟩
def HR.pushNil{κ:K}{H:Hp}{w:World}(h:HR κ H w)(sz:Nat)(ty:TypeId):
 ∃κ',κ.le κ'/\HR κ' (H++[.tok 0 sz ty]) w/\VR κ' (.slice none 0 0) (.osl true sz [] H.length):=by
 have hn:κ.β H.length=.none:=h.dom _ (Q14 _);have hle:κ.le {κ with β:=upd κ.β H.length .nilT}:=⟨rfl,λ_ _ _ h=>h,λi=>by
  by_cases hi:i=H.length
  .subst hi;rw[hn];trivial
  .show(κ.β i).le (upd κ.β H.length .nilT i);rw[Qu _ _ hi];exact Bind.le_refl _⟩
 refine⟨{κ with β:=upd κ.β H.length .nilT},hle,⟨h.below,h.st,λi z hz=>?_,λi hi=>?_,λi b hb=>?_,λi b p hp=>?_,λi j b hi hj=>?_,λi z hz=>?_⟩,.osl (.nilsl sz) ?_⟩
 .by_cases hi:i<H.length
  .rw[Q19 hi]at hz;exact(h.ob i z hz).mono hle (Qu _ _ (by omega)) λb _=>rfl
  .have:i=H.length:=by have:=(Q11.1 hz).1;simp at this;omega
   subst this;simp at hz;subst hz;exact .inl ⟨Qk _ _ _,rfl⟩
 .have h1:H.length+1<=i:=by simpa using hi
  show upd κ.β H.length .nilT i=_;rw[Qu _ _ (by omega)];exact h.dom i (by omega)
 .by_cases hi:i=H.length
  .subst hi;simp[Qk,Bind.block]at hb
  .simp only[Qu _ _ hi]at hb;exact h.ex i b hb
 .by_cases hi:i=H.length
  .subst hi;simp[Qk,Bind.owns]at hp
  .simp only[Qu _ _ hi]at hp;exact h.exσ i b p hp
 .by_cases h1:i=H.length
  .subst h1;simp[Qk,Bind.block]at hi
  .by_cases h2:j=H.length
   .subst h2;simp[Qk,Bind.block]at hj
   .simp only[Qu _ _ h1,Qu _ _ h2]at hi hj;exact h.exd i j b hi hj
 .by_cases hi:i<H.length
  .rw[Q19 hi]at hz;exact h.fl i z hz
  .have:i=H.length:=by have:=(Q11.1 hz).1;simp at this;omega
   subst this;simp at hz;subst hz;rfl
 .show Qez (upd κ.β H.length .nilT H.length) _ _;rw[Qk];exact⟨rfl,rfl⟩
def HR.pushNilV{κ:K}{H:Hp}{w:World}(h:HR κ H w)(sz:Nat)(ty:TypeId):
 ∃κ',κ.le κ'/\HR κ' (H++[.vec sz ty 0 []]) w/\VR κ' (.slice none 0 0) (.vsl H.length 0 0):=by
 have hn:κ.β H.length=.none:=h.dom _ (Q14 _);have hle:κ.le {κ with β:=upd κ.β H.length .nilV}:=⟨rfl,λ_ _ _ h=>h,λi=>by
  by_cases hi:i=H.length
  .subst hi;rw[hn];trivial
  .show(κ.β i).le (upd κ.β H.length .nilV i);rw[Qu _ _ hi];exact Bind.le_refl _⟩
 refine⟨{κ with β:=upd κ.β H.length .nilV},hle,⟨h.below,h.st,λi z hz=>?_,λi hi=>?_,λi b hb=>?_,λi b p hp=>?_,λi j b hi hj=>?_,λi z hz=>?_⟩,.vsl _ _ _ _ _ (Q14 _) ?_⟩
 .by_cases hi:i<H.length
  .rw[Q19 hi]at hz;exact(h.ob i z hz).mono hle (Qu _ _ (by omega)) λb _=>rfl
  .have:i=H.length:=by have:=(Q11.1 hz).1;simp at this;omega
   subst this;simp at hz;subst hz;exact .inl ⟨Qk _ _ _,rfl,rfl⟩
 .have h1:H.length+1<=i:=by simpa using hi
  show upd κ.β H.length .nilV i=_;rw[Qu _ _ (by omega)];exact h.dom i (by omega)
 .by_cases hi:i=H.length
  .subst hi;simp[Qk,Bind.block]at hb
  .simp only[Qu _ _ hi]at hb;exact h.ex i b hb
 .by_cases hi:i=H.length
  .subst hi;simp[Qk,Bind.owns]at hp
  .simp only[Qu _ _ hi]at hp;exact h.exσ i b p hp
 .by_cases h1:i=H.length
  .subst h1;simp[Qk,Bind.block]at hi
  .by_cases h2:j=H.length
   .subst h2;simp[Qk,Bind.block]at hj
   .simp only[Qu _ _ h1,Qu _ _ h2]at hi hj;exact h.exd i j b hi hj
 .by_cases hi:i<H.length
  .rw[Q19 hi]at hz;exact h.fl i z hz
  .have:i=H.length:=by have:=(Q11.1 hz).1;simp at this;omega
   subst this;simp at hz;subst hz;rfl
 .show Qc3 (upd κ.β H.length .nilV H.length) _ _ _;rw[Qk];exact⟨rfl,rfl,rfl⟩
def HR.setCell{κ:K}{H:Hp}{w:World}(h:HR κ H w)(i:Nat)(b o:Nat)(v:Value)(y:Ob)(hb:(κ.β i).block=some b)(ho:(κ.β i).owns b o)(hfl:y.flat=true)(hy:OR κ (w.setCell ⟨b,o,none⟩ v) i y):HR κ (H.set i y) (w.setCell ⟨b,o,none⟩ v):=by
 have hne:∀b' o',κ.σ b' o'≠none->(⟨b,o,none⟩:Addr)≠⟨b',o',none⟩:=λb' o' hs he=>by cases he;exact hs (h.exσ i b o ho)
 refine⟨h.below.setCell (h.ex i b hb).1 v,λb' o' u hu=>?_,λj z hz=>?_,λj hj=>h.dom j (by simpa using hj),λj b' hb'=>?_,h.exσ,h.exd,λj z hz=>?_⟩
 .rw[Q4h w _ _ v (hne b' o' (by rw[hu];simp))];exact h.st b' o' u hu
 .by_cases hij:i=j
  .subst hij;have hlt:i<H.length:=by have:=(Q11.1 hz).1;simpa using this
   simp[hlt]at hz;subst hz;exact hy
  .rw[Q15 hij]at hz;refine(h.ob j z hz).mono (K.le_refl κ) rfl λb' hb'=>?_;have hbb:b'≠b:=λe=>by subst e;exact hij (h.exd i j b' hb hb')
   exact Below.heap_setCell w _ v b' hbb
 .have:=h.ex j b' hb';exact⟨this.1,by simpa using this.2⟩
 .by_cases hij:i=j
  .subst hij;have hlt:i<H.length:=by have:=(Q11.1 hz).1;simpa using this
   simp[hlt]at hz;subst hz;exact hfl
  .rw[Q15 hij]at hz;exact h.fl j z hz
def HR.setBox{κ:K}{H:Hp}{w:World}(h:HR κ H w){i j:Nat}{ty:TypeId}{cs:List A}{b:Nat}(hi:H[i]?=some (.box ty cs))(hβ:κ.β i=.blk b)(hj:j<cs.length){v:Value}{a:A}(hfa:a.flat=true)(hv:VR κ v a):
 HR κ (H.set i (.box ty (cs.set j a))) (w.setCell ⟨b,j,none⟩ v):=by
 obtain⟨b',hβ',hsh,hc⟩:=h.ob i _ hi;have hbb:b'=b:=by rw[hβ]at hβ';cases hβ';rfl
 subst hbb;refine h.setCell i b' j v _ (by rw[hβ];rfl) (by rw[hβ];rfl) ?_ ⟨b',hβ,by rw[Q21,<-hsh];exact Qlo w _ _ _,λk x hx=>?_⟩
 .have:=h.fl i _ hi;simp only[Ob.flat,Q2n]at this⊢;intro x hx;rcases Q3z hx with h1|h1
  .exact this x h1
  .subst h1;exact hfa
 by_cases hjk:j=k
 .subst hjk;simp[hj]at hx;subst hx;obtain⟨u,h1,h2,-⟩:=hc j cs[j] (Q12 hj);exact⟨v,Q51 w _ v h1,by rw[Q4y];exact h2,hv⟩
 .rw[Q15 hjk]at hx;obtain⟨u,h1,h2,h3⟩:=hc k x hx;exact⟨u,by rw[Q4h w _ _ v (by intro e;cases e;exact hjk rfl)];exact h1,by rw[Q4y];exact h2,h3⟩
def HR.setArr{κ:K}{H:Hp}{w:World}(h:HR κ H w){i k j sz:Nat}{rows:List (List A)}{r:List A}{b:Nat}{s:Option (TypeId×Nat)}(hi:H[i]?=some (.arr sz rows))(hβ:κ.β i=.arr b sz s)(hr:rows[k]?=some r)(hj:j<r.length){v:Value}{a:A}(hfa:a.flat=true)(hv:VR κ v a):
 HR κ (H.set i (.arr sz (rows.set k (r.set j a)))) (w.setCell ⟨b,k*sz+j,none⟩ v):=by
 obtain⟨b',s',hβ',hsh,hc⟩:=h.ob i _ hi;obtain⟨rfl,rfl⟩:b'=b/\s'=s:=by rw[hβ]at hβ';cases hβ';exact⟨rfl,rfl⟩
 have hkl:k<rows.length:=(Q11.1 hr).1;have hrl:r.length=sz:=(hc k r hr).1;refine h.setCell i b' (k*sz+j) v _ (by rw[hβ];rfl) (by rw[hβ];rfl) ?_ ⟨b',s',hβ,λty n e=>by obtain⟨cur,c1,c2⟩:=hsh ty n e;exact⟨_,by simp[World.setCell,Q3w,c1];rfl,by simpa using c2⟩,λk' r' hr'=>?_⟩
 .have:=h.fl i _ hi;simp only[Ob.flat,Q2n]at this⊢;intro x hx y hy;rcases Q3z hx with h1|h1
  .exact this x h1 y hy
  .subst h1;rcases Q3z hy with h2|h2
   .exact this r (Q2p hr) y h2
   .subst h2;exact hfa
 by_cases hkk:k=k'
 .subst hkk;simp[hkl]at hr';subst hr';refine⟨by simp[hrl],λj' a' ha'=>?_⟩;by_cases hjj:j=j'
  .subst hjj;simp[hj]at ha';subst ha';obtain⟨u,h1,h2,-⟩:=(hc k r hr).2 j r[j] (Q12 hj);exact⟨v,Q51 w _ v h1,by rw[Q4y];exact h2,hv⟩
  .rw[Q15 hjj]at ha';obtain⟨u,h1,h2,h3⟩:=(hc k r hr).2 j' a' ha';exact⟨u,by rw[Q4h w _ _ v (by intro e;injection e;omega)];exact h1,by rw[Q4y];exact h2,h3⟩
 .rw[Q15 hkk]at hr';refine⟨(hc k' r' hr').1,λj' a' ha'=>?_⟩;obtain⟨u,h1,h2,h3⟩:=(hc k' r' hr').2 j' a' ha';have hj':j'<sz:=by rw[<-(hc k' r' hr').1];exact(Q11.1 ha').1
  refine⟨u,?_,by rw[Q4y];exact h2,h3⟩;rw[Q4h w _ _ v ?_]
  .exact h1
  .intro e;injection e with _ e2
   have hjs:j<sz:=by omega
   have:k=k':=by
    have d1:(k*sz+j)/sz=k:=by rw[Q4s,Q5r (by omega),Q5i hjs];omega
    have d2:(k'*sz+j')/sz=k':=by rw[Q4s,Q5r (by omega),Q5i hj'];omega
    rw[<-d1,<-d2,e2]
   exact hkk this
def HR.setVec{κ:K}{H:Hp}{w:World}(h:HR κ H w){i k j sz e x:Nat}{rows:List (List D)}{r:List D}{b c:Nat}(hi:H[i]?=some (.vec sz e k rows))(hβ:κ.β i=.vec b c rows.length k sz)(hr:rows[x]?=some r)(hj:j<r.length){v:Value}{d:D}(hv:DR κ.σ v d):
 HR κ (H.set i (.vec sz e k (rows.set x (r.set j d)))) (w.setCell ⟨b,x*sz+j,none⟩ v):=by
 rcases h.ob i _ hi with⟨h0,-⟩|⟨b',c',cur,hβ',hk0,hheap,hle,hsz,hc⟩
 .rw[hβ]at h0;cases h0
 obtain⟨rfl,rfl⟩:b'=b/\c'=c:=by rw[hβ]at hβ';cases hβ';exact⟨rfl,rfl⟩
 have hxl:x<rows.length:=(Q11.1 hr).1;have hrl:r.length=sz:=(hc x r hr).1;have hcell:∀o,w.cell? ⟨b',o,none⟩=cur[o]?:=λo=>by simp[World.cell?,hheap]
 obtain⟨cur',hh',hs'⟩:∃cur',(w.setCell ⟨b',x*sz+j,none⟩ v).heap[b']?=some (.cells cur' e (0,0))/\cur'.size=cur.size:=⟨_,by simp[World.setCell,Q3w,hheap];rfl,by simp⟩;have hcell':∀o,cur'[o]?=(w.setCell ⟨b',x*sz+j,none⟩ v).cell? ⟨b',o,none⟩:=λo=>by simp[World.cell?,hh']
 refine h.setCell i b' (x*sz+j) v _ (by rw[hβ];rfl) (by rw[hβ];rfl) (by rfl) (.inr ⟨b',c',cur',by rw[hβ,Q21],λe0=>?_,hh',by rw[Q21];exact hle,by rw[hs'];exact hsz,λy s hs=>?_⟩)
 .intro e1;have:=hk0 e0;have e2:(rows.set x (r.set j d)).length=0:=by rw[e1];rfl
  rw[Q21]at e2;exact this (Q2b e2)
 by_cases hxy:x=y
 .subst hxy;simp[hxl]at hs;subst hs;refine⟨by simp[hrl],λq u hu=>?_⟩;by_cases hjq:j=q
  .subst hjq;simp[hj]at hu;subst hu;obtain⟨u,h1,h2⟩:=(hc x r hr).2 j r[j] (Q12 hj);refine⟨v,?_,hv⟩;rw[hcell'];exact Q51 w _ v (by rw[hcell];exact h1)
  .rw[Q15 hjq]at hu;obtain⟨u',h1,h2⟩:=(hc x r hr).2 q u hu;refine⟨u',?_,h2⟩;rw[hcell',Q4h w _ _ v (by intro e;injection e;omega),hcell];exact h1
 .rw[Q15 hxy]at hs;refine⟨(hc y s hs).1,λq u hu=>?_⟩;obtain⟨u',h1,h2⟩:=(hc y s hs).2 q u hu;have hq':q<sz:=by rw[<-(hc y s hs).1];exact(Q11.1 hu).1
  refine⟨u',?_,h2⟩;rw[hcell',Q4h w _ _ v ?_,hcell]
  .exact h1
  .intro e;injection e with _ e2
   have hjs:j<sz:=by omega
   have:x=y:=by
    have d1:(x*sz+j)/sz=x:=by rw[Q4s,Q5r (by omega),Q5i hjs];omega
    have d2:(y*sz+q)/sz=y:=by rw[Q4s,Q5r (by omega),Q5i hq'];omega
    rw[<-d1,<-d2,e2]
   exact hxy this
def HR.replace{κ:K}{H:Hp}{w w':World}(h:HR κ H w)(i:Nat)(x:Bind)(y:Ob)(hi:i<H.length)(hle:(κ.β i).le x)(hfl:y.flat=true)(hsize:w.heap.size<=w'.heap.size)(hbelow:Below κ.w0.heap.size κ.w0 w')(hheap:∀k,k<w.heap.size->(κ.β i).block≠some k->w'.heap[k]?=w.heap[k]?)(hown:∀b o,(κ.β i).block=some b->(κ.β i).owns b o)(hx:∀b,x.block=some b->(κ.β i).block=some b\/(b=w.heap.size/\b<w'.heap.size))(hy:OR {κ with β:=upd κ.β i x} w' i y):
 κ.le {κ with β:=upd κ.β i x}/\HR {κ with β:=upd κ.β i x} (H.set i y) w':=by
 have hst:∀b p v,κ.σ b p=some v->b<w.heap.size:=λb p v hv=>Q4t w ⟨b,p,none⟩ (h.st b p v hv);have hkle:κ.le {κ with β:=upd κ.β i x}:=⟨rfl,λ_ _ _ h=>h,λj=>by
  show(κ.β j).le (upd κ.β i x j);by_cases hj:j=i
  .subst hj;rw[Qk];exact hle
  .rw[Qu _ _ hj];exact Bind.le_refl _⟩
 refine⟨hkle,hbelow,λb p v hv=>?_,λj z hz=>?_,λj hj=>?_,λj b hb=>?_,λj b p hp=>?_,λj k b hj hk=>?_,λj z hz=>?_⟩
 .have hb:=hst b p v hv;have hne:(κ.β i).block≠some b:=λe=>by rw[h.exσ i b p (hown b p e)]at hv;cases hv
  rw[(Qbb (hheap b hb hne) p).1];exact h.st b p v hv
 .by_cases hij:i=j
  .subst hij;rw[Q17 hi]at hz;cases hz;exact hy
  .rw[Q15 hij]at hz;exact(h.ob j z hz).mono hkle (Qu _ _ (Ne.symm hij)) λb hb=>hheap b (h.ex j b hb).2 λe=>hij (h.exd i j b e hb)
 .have:H.length<=j:=by simpa using hj
  show upd κ.β i x j=_;rw[Qu _ _ (by omega)];exact h.dom j this
 .by_cases hj:j=i
  .subst hj;have hb':x.block=some b:=by rw[<-hb];show _=(upd κ.β j x j).block;rw[Qk]
   rcases hx b hb' with h1|⟨h1,h2⟩
   .have:=h.ex j b h1;exact⟨this.1,by omega⟩
   .exact⟨by rw[h1];exact h.below.size,h2⟩
  .have hb':(κ.β j).block=some b:=by rw[<-hb];show _=(upd κ.β i x j).block;rw[Qu _ _ hj]
   have:=h.ex j b hb';exact⟨this.1,by omega⟩
 .show κ.σ b p=none;by_cases hj:j=i
  .subst hj;have hp':x.owns b p:=by have:=hp;change(upd κ.β j x j).owns b p at this;rwa[Qk]at this
   rcases hx b (Bind.block_of_owns hp')with h1|⟨h1,h2⟩
   .exact h.exσ j b p (hown b p h1)
   .cases hs:κ.σ b p with
    |none=>rfl
    |some v=>have:=hst b p v hs;omega
  .have hp':(κ.β j).owns b p:=by have:=hp;change(upd κ.β i x j).owns b p at this;rwa[Qu _ _ hj]at this
   exact h.exσ j b p hp'
 .have hat:∀m,m≠i->({κ with β:=upd κ.β i x}:K).β m=κ.β m:=λm hm=>Qu _ _ hm;have hati:({κ with β:=upd κ.β i x}:K).β i=x:=Qk _ _ _;by_cases h1:j=i<;>by_cases h2:k=i
  .omega
  .subst h1;rw[hati]at hj;rw[hat k h2]at hk;rcases hx b hj with h3|⟨h3,-⟩
   .exact h.exd j k b h3 hk
   .have:=(h.ex k b hk).2;omega
  .subst h2;rw[hati]at hk;rw[hat j h1]at hj;rcases hx b hk with h3|⟨h3,-⟩
   .exact h.exd j k b hj h3
   .have:=(h.ex j b hj).2;omega
  .rw[hat j h1]at hj;rw[hat k h2]at hk;exact h.exd j k b hj hk
 .by_cases hij:i=j
  .subst hij;rw[Q17 hi]at hz;cases hz;exact hfl
  .rw[Q15 hij]at hz;exact h.fl j z hz
end
section
open Go.RowKit (Below)
def HR.blk_lt{κ:K}{H:Hp}{w:World}(h:HR κ H w){b o:Nat}{v:Value}(hv:κ.σ b o=some v):b<w.heap.size:=Q4t w ⟨b,o,none⟩ (h.st b o v hv)
def Ze(σ:St)(b:Nat)(c:Array Value)(n:Nat):St:=λb' o=>if b'=b then(if o<n then c[o]? else none)else σ b' o
def HR.addSt_le{κ:K}{H:Hp}{w:World}(h:HR κ H w)(c:Array Value)(n:Nat):κ.σ.le (Ze κ.σ w.heap.size c n):=λb o v hv=>by have:=h.blk_lt hv;unfold Ze;rw[if_neg (by omega)];exact hv
def DR.new{τ:St}(z:Bool)(rows:List (List D))(b sz cap:Nat)(c:Array Value)(hz:z=true->rows≠[])(hcap:rows.length<=cap)(hrow:∀(k:Nat) (r:List D),rows[k]?=some r->r.length=sz)(hτ:∀o,o<rows.length*sz->τ b o=c[o]?)(hv:∀(k j:Nat) (r:List D) (x:D),rows[k]?=some r->r[j]?=some x->∃v,c[k*sz+j]?=some v/\DR τ v x):
 DR τ (.slice (some ⟨b,0,none⟩) rows.length cap) (.sl z sz rows):=by
 refine .sl z sz rows b 0 cap (λk j=>(c[k*sz+j]?).getD (.tuple #[])) hz hcap hrow (λk j r x hr hx=>?_) (λk j r x hr hx=>?_)
 .obtain⟨v,h1,-⟩:=hv k j r x hr hx;have hk:k<rows.length:=(Q11.1 hr).1;have hj:j<sz:=by rw[<-hrow k r hr];exact(Q11.1 hx).1
  have hlt:k*sz+j<rows.length*sz:=by have:(k+1)*sz<=rows.length*sz:=Q2z _ hk;rw[Q29]at this;omega
  simp only[Q3i];rw[hτ _ hlt,h1];rfl
 .obtain⟨v,h1,h2⟩:=hv k j r x hr hx;simp only[h1,Q4e];exact h2
def HR.pushRow{κ:K}{H:Hp}{w:World}(h:HR κ H w)(c:Array Value)(n:Nat)(t:TypeId):
 κ.le {κ with σ:=Ze κ.σ w.heap.size c n}/\HR {κ with σ:=Ze κ.σ w.heap.size c n} H (w.alloc (.cells c t)):=by
 have hle:κ.le {κ with σ:=Ze κ.σ w.heap.size c n}:=⟨rfl,h.addSt_le c n,λ_=>Bind.le_refl _⟩;refine⟨hle,⟨h.below.alloc h.below.size _,λb o v hv=>?_,λi z hz=>?_,h.dom,λi b hb=>?_,λi b o ho=>?_,h.exd,h.fl⟩⟩
 .simp only[Ze]at hv;by_cases hb:b=w.heap.size
  .subst hb;rw[if_pos rfl]at hv;by_cases ho:o<n
   .rw[if_pos ho]at hv;rw[Q5b];exact hv
   .rw[if_neg ho]at hv;cases hv
  .rw[if_neg hb]at hv;rw[Q6j w _ ⟨b,o,none⟩ (h.blk_lt hv)];exact h.st b o v hv
 .exact(h.ob i z hz).mono hle rfl λb hb=>Below.heap_alloc w _ b (h.ex i b hb).2
 .have:=h.ex i b hb;exact⟨this.1,by simp;omega⟩
 .have hlt:b<w.heap.size:=(h.ex i b (Bind.block_of_owns ho)).2;show Ze κ.σ w.heap.size c n b o=none;simp only[Ze];rw[if_neg (by omega)];exact h.exσ i b o ho
def HR.regrow{κ:K}{H:Hp}{w:World}(h:HR κ H w){t m sz:Nat}{ty:TypeId}(ht:H[t]?=some (.tok m sz ty))(c:Array Value)(rows:List (List D))(cap:Nat)(z:Bool)(hm:m<rows.length)(hcap:rows.length<=cap)(hsz:c.size=cap*sz)(hrow:∀(k:Nat) (r:List D),rows[k]?=some r->r.length=sz)(hv:∀(k j:Nat) (r:List D) (x:D),rows[k]?=some r->r[j]?=some x->∃v,c[k*sz+j]?=some v/\DR κ.σ v x):
 ∃κ',κ.le κ'/\HR κ' (H.set t (.tok rows.length sz ty)) (w.alloc (.cells c ty))/\VR κ' (.slice (some ⟨w.heap.size,0,none⟩) rows.length cap) (.osl z sz rows t):=by
 have htl:t<H.length:=(Q11.1 ht).1;let κ':K:={κ with σ:=Ze κ.σ w.heap.size c (rows.length*sz),β:=upd κ.β t (.reg w.heap.size (rows.length*sz) (cap*sz) rows.length sz)};have hle:κ.le κ':=⟨rfl,h.addSt_le c _,λi=>by
  show(κ.β i).le (upd κ.β t _ i);by_cases hi:i=t
  .subst hi;rw[Qk];rcases h.ob i _ ht with⟨h1,h2⟩|⟨b,e,c',cur,lo,hi,h1,-⟩
   .rw[h1];exact .inr (.inr ⟨_,_,_,_,_,rfl,by omega⟩)
   .rw[h1];exact .inr (.inr ⟨_,_,_,_,rfl,hm⟩)
  .rw[Qu _ _ hi];exact Bind.le_refl _⟩
 have hre:rows.length*sz<=cap*sz:=Q2z _ hcap;refine⟨κ',hle,⟨h.below.alloc h.below.size _,λb o v hv=>?_,λi z hz=>?_,λi hi=>?_,λi b hb=>?_,λi b o ho=>?_,λi j b hi hj=>?_,λi z hz=>?_⟩,.osl ?_ ?_⟩
 .have hv':Ze κ.σ w.heap.size c (rows.length*sz) b o=some v:=hv;simp only[Ze]at hv';by_cases hb:b=w.heap.size
  .subst hb;rw[if_pos rfl]at hv';by_cases ho:o<rows.length*sz
   .rw[if_pos ho]at hv';rw[Q5b];exact hv'
   .rw[if_neg ho]at hv';cases hv'
  .rw[if_neg hb]at hv';rw[Q6j w _ ⟨b,o,none⟩ (h.blk_lt hv')];exact h.st b o v hv'
 .by_cases hi:t=i
  .subst hi;simp[htl]at hz;subst hz;exact .inr ⟨w.heap.size,_,_,c,0,0,Qk _ _ _,by show(w.heap.push _)[w.heap.size]?=_;simp,by omega,.inl ⟨rfl,rfl⟩⟩
  .rw[Q15 hi]at hz;exact(h.ob i z hz).mono hle (Qu _ _ (Ne.symm hi)) λb hb=>Below.heap_alloc w _ b (h.ex i b hb).2
 .have hi':H.length<=i:=by simpa using hi
  show upd κ.β t _ i=_;rw[Qu _ _ (by omega)];exact h.dom i hi'
 .by_cases hi:i=t
  .subst hi;have:some w.heap.size=some b:=by rw[<-hb];show _=(upd κ.β i _ i).block;rw[Qk];rfl
   cases this
   exact⟨h.below.size,by simp⟩
  .have hb':(κ.β i).block=some b:=by rw[<-hb];show _=(upd κ.β t _ i).block;rw[Qu _ _ hi]
   have:=h.ex i b hb';exact⟨this.1,by simp;omega⟩
 .show Ze κ.σ w.heap.size c (rows.length*sz) b o=none;by_cases hi:i=t
  .subst hi;have ho':(Bind.reg w.heap.size (rows.length*sz) (cap*sz) rows.length sz).owns b o:=by have:=ho;change(upd κ.β i _ i).owns b o at this;rwa[Qk]at this
   obtain⟨rfl,ho2⟩:=ho';simp only[Ze,if_true];rw[if_neg (by omega)]
  .have ho':(κ.β i).owns b o:=by have:=ho;change(upd κ.β t _ i).owns b o at this;rwa[Qu _ _ hi]at this
   have hlt:b<w.heap.size:=(h.ex i b (Bind.block_of_owns ho')).2;simp only[Ze];rw[if_neg (by omega)];exact h.exσ i b o ho'
 .have hnew:∀k,k≠t->(κ'.β k).block=some b->b<w.heap.size:=λk hk hb=>by change(upd κ.β t _ k).block=some b at hb;rw[Qu _ _ hk]at hb;exact(h.ex k b hb).2
  have hat:(κ'.β t).block=some w.heap.size:=by show(upd κ.β t _ t).block=_;rw[Qk];rfl
  by_cases h1:i=t<;>by_cases h2:j=t
  .omega
  .subst h1;rw[hat]at hi;cases hi;have:=hnew j h2 hj;omega
  .subst h2;rw[hat]at hj;cases hj;have:=hnew i h1 hi;omega
  .change(upd κ.β t _ i).block=some b at hi;change(upd κ.β t _ j).block=some b at hj;rw[Qu _ _ h1]at hi;rw[Qu _ _ h2]at hj;exact h.exd i j b hi hj
 .by_cases hi:t=i
  .subst hi;simp[htl]at hz;subst hz;rfl
  .rw[Q15 hi]at hz;exact h.fl i z hz
 .refine DR.new z rows w.heap.size sz cap c (λ_ hnil=>by subst hnil;simp at hm) hcap hrow (λo ho=>?_) (λk j r x hr hx=>?_)
  .show Ze κ.σ w.heap.size c (rows.length*sz) w.heap.size o=_;simp[Ze,ho]
  .obtain⟨v,h1,h2⟩:=hv k j r x hr hx;exact⟨v,h1,h2.mono hle.σ⟩
 .show Qez (upd κ.β t _ t) _ _;rw[Qk];exact⟨Q14 _,λ_=>⟨0,cap,rfl,hcap,by simp,by simp,rfl⟩⟩
def HR.appendIn{κ:K}{H:Hp}{w:World}(h:HR κ H w){t sz:Nat}{ty:TypeId}{rows:List (List D)}{z:Bool}{v:Value}(ht:H[t]?=some (.tok rows.length sz ty))(hv:VR κ v (.osl z sz rows t))(new:List (List D))(hnew:new≠[])(vs:List Value)(hrow:∀(k:Nat) (r:List D),new[k]?=some r->r.length=sz)(hlen:vs.length=new.length*sz)(hvs:∀(k j:Nat) (r:List D) (x:D),new[k]?=some r->r[j]?=some x->∃u,vs[k*sz+j]?=some u/\DR κ.σ u x){b o cap:Nat}(hval:v=.slice (some ⟨b,o,none⟩) rows.length cap)(hroom:rows.length+new.length<=cap):
 (∀j,j<vs.length->(w.cell? ⟨b,o+rows.length*sz+j,none⟩).isSome=true)/\(∀j,j<vs.length->w.frozen? ⟨b,o+rows.length*sz+j,none⟩=false)/\
 ∃κ',κ.le κ'/\HR κ' (H.set t (.tok (rows.length+new.length) sz ty)) (w.setCells b (o+rows.length*sz) vs)/\VR κ' (.slice (some ⟨b,o,none⟩) (rows.length+new.length) cap) (.osl z sz (rows++new) t):=by
 subst hval;have htl:t<H.length:=(Q11.1 ht).1;have hn0:0<new.length:=Q3g.2 hnew;cases hv with
 |osl hd hf=>
 rcases h.ob t _ ht with⟨h1,h2⟩|⟨b',e,c,cur,lo,hi,h1,hheap,hcs,hlo⟩
 .rw[h1]at hf;obtain⟨-,hf⟩:=hf;cases hf
 rw[h1]at hf;obtain⟨-,hf⟩:=hf;obtain⟨o',cap',heq,hle',he,hc,ho0⟩:=hf rfl;cases heq;have hcells:=OR.spare hheap hcs (hlo.imp (λe=>by omega) And.right);have hfit:∀j,j<vs.length->o+rows.length*sz+j<c:=λj hj=>by have:(rows.length+new.length)*sz<=cap*sz:=Q2z _ hroom;rw[Q29]at this;omega
 have hcell:∀j,j<vs.length->(w.cell? ⟨b,o+rows.length*sz+j,none⟩).isSome=true:=λj hj=>by obtain⟨⟨u,hu⟩,-⟩:=hcells (o+rows.length*sz+j) (by omega) (hfit j hj);rw[hu];rfl
 have hfz:∀j,j<vs.length->w.frozen? ⟨b,o+rows.length*sz+j,none⟩=false:=λj hj=>(hcells (o+rows.length*sz+j) (by omega) (hfit j hj)).2;refine⟨hcell,hfz,?_⟩;have hown:∀p,e<=p->κ.σ b p=none:=λp hp=>h.exσ t b p (by rw[h1];exact⟨rfl,hp⟩);have hbx:=h.ex t b (by rw[h1];rfl);let τ:St:=λb' p=>if b'=b/\e<=p/\p<e+vs.length then vs[p-e]? else κ.σ b' p
 let κ':K:={κ with σ:=τ,β:=upd κ.β t (.reg b (e+vs.length) c (rows.length+new.length) sz)};have hσ:κ.σ.le τ:=λb' p u hu=>by show(if b'=b/\e<=p/\p<e+vs.length then vs[p-e]? else κ.σ b' p)=some u;rw[if_neg (λhh=>by rw[hh.1,hown p hh.2.1]at hu;cases hu)];exact hu
 have hle:κ.le κ':=⟨rfl,hσ,λi=>by
  show(κ.β i).le (upd κ.β t _ i);by_cases hi:i=t
  .subst hi;rw[Qk,h1];exact .inr (.inr ⟨_,_,_,_,rfl,by omega⟩)
  .rw[Qu _ _ hi];exact Bind.le_refl _⟩
 have hout:∀b' p,¬(b'=b/\e<=p/\p<e+vs.length)->(w.setCells b (o+rows.length*sz) vs).cell? ⟨b',p,none⟩=w.cell? ⟨b',p,none⟩:=λb' p hh=>
  Q64 b vs _ w ⟨b',p,none⟩ (λhb _=>by
   simp only at hb⊢;by_cases hlt:p<o+rows.length*sz
   .exact .inl hlt
   .refine .inr (Q5h λh3=>hh ⟨hb,by omega,by omega⟩))
 have hsize:(w.setCells b (o+rows.length*sz) vs).heap.size=w.heap.size:=by
  have:∀(vs:List Value)(o:Nat)(w:World),(w.setCells b o vs).heap.size=w.heap.size:=λvs=>by
   induction vs with
   |nil=>intro o w;rfl
   |cons x r ih=>intro o w;rw[World.setCells,ih];simp
  exact this _ _ _
 have hbelow:Below κ.w0.heap.size κ.w0 (w.setCells b (o+rows.length*sz) vs):=by
  have:∀(vs:List Value)(o:Nat)(w:World),Below κ.w0.heap.size κ.w0 w->Below κ.w0.heap.size κ.w0 (w.setCells b o vs):=λvs=>by
   induction vs with
   |nil=>intro o w hw;exact hw
   |cons x r ih=>intro o w hw;rw[World.setCells];exact ih _ _ (hw.setCell hbx.1 x)
  exact this _ _ _ h.below
 have hblk:∀(vs:List Value)(o:Nat)(w:World),(∀k,k≠b->(w.setCells b o vs).heap[k]?=w.heap[k]?)/\∀cur,w.heap[b]?=some (.cells cur ty (lo,hi))->∃cur',(w.setCells b o vs).heap[b]?=some (.cells cur' ty (lo,hi))/\cur'.size=cur.size:=λvs=>by
  induction vs with
  |nil=>exactλo w=>⟨λ_ _=>rfl,λcur hc=>⟨cur,hc,rfl⟩⟩
  |cons x r ih=>intro o w;obtain⟨i1,i2⟩:=ih (o+1) (w.setCell ⟨b,o,none⟩ x);refine⟨λk hk=>by rw[World.setCells,i1 k hk];exact Below.heap_setCell w _ x k hk,λcur hc=>?_⟩;obtain⟨cur',h1,h2⟩:=i2 (cur.setIfInBounds o x) (by simp[World.setCell,Q3w,hc]);exact⟨cur',h1,by simpa using h2⟩
 obtain⟨cur',hheap',hcs'⟩:=(hblk vs (o+rows.length*sz) w).2 cur hheap;refine⟨κ',hle,⟨hbelow,λb' p u hu=>?_,λi y hy=>?_,λi hi=>?_,λi b' hb'=>?_,λi b' p hp=>?_,λi j b' hi hj=>?_,λi z hz=>?_⟩,.osl ?_ ?_⟩
 .have hu':(if b'=b/\e<=p/\p<e+vs.length then vs[p-e]? else κ.σ b' p)=some u:=hu;by_cases hh:b'=b/\e<=p/\p<e+vs.length
  .rw[if_pos hh]at hu';obtain⟨rfl,h3,h4⟩:=hh;have hj:p-e<vs.length:=by omega
   have:=Q67 b' vs (o+rows.length*sz) w hcell (p-e) hj;rw[show o+rows.length*sz+(p-e)=p by omega]at this;rw[this];rw[Q12 hj]at hu';exact hu'
  .rw[if_neg hh]at hu';rw[hout b' p hh];exact h.st b' p u hu'
 .by_cases hi:t=i
  .subst hi;simp[htl]at hy;subst hy;exact .inr ⟨b,_,_,cur',lo,hi,Qk _ _ _,hheap',by omega,hlo.imp id (λh=>⟨h.1,Q3d h.2 (Q59 _ _)⟩)⟩
  .rw[Q15 hi]at hy;refine(h.ob i y hy).mono hle (Qu _ _ (Ne.symm hi)) λb' hb'=>?_;have hbb:b'≠b:=λhh=>by subst hh;exact hi (h.exd t i b' (by rw[h1];rfl) hb')
   exact(hblk vs _ w).1 b' hbb
 .have hi':H.length<=i:=by simpa using hi
  show upd κ.β t _ i=_;rw[Qu _ _ (by omega)];exact h.dom i hi'
 .rw[hsize];by_cases hi:i=t
  .subst hi;have:some b=some b':=by rw[<-hb'];show _=(upd κ.β i _ i).block;rw[Qk];rfl
   cases this
   exact hbx
  .exact h.ex i b' (by rw[<-hb'];show _=(upd κ.β t _ i).block;rw[Qu _ _ hi])
 .show(if b'=b/\e<=p/\p<e+vs.length then vs[p-e]? else κ.σ b' p)=none;by_cases hi:i=t
  .subst hi;have ho':(Bind.reg b (e+vs.length) c (rows.length+new.length) sz).owns b' p:=by have:=hp;change(upd κ.β i _ i).owns b' p at this;rwa[Qk]at this
   obtain⟨rfl,ho2⟩:=ho';rw[if_neg (by omega)];exact hown p (by omega)
  .have ho':(κ.β i).owns b' p:=by have:=hp;change(upd κ.β t _ i).owns b' p at this;rwa[Qu _ _ hi]at this
   have hbb:b'≠b:=λhh=>by subst hh;exact hi (h.exd i t b' (Bind.block_of_owns ho') (by rw[h1];rfl))
   rw[if_neg (λhh=>hbb hh.1)];exact h.exσ i b' p ho'
 .have hat:∀k,(κ'.β k).block=(κ.β k).block:=λk=>by
   show(upd κ.β t _ k).block=_;by_cases hk:k=t
   .subst hk;rw[Qk,h1];rfl
   .rw[Qu _ _ hk]
  rw[hat]at hi hj;exact h.exd i j b' hi hj
 .by_cases hi:t=i
  .subst hi;simp[htl]at hz;subst hz;rfl
  .rw[Q15 hi]at hz;exact h.fl i z hz
 .
  obtain⟨-,f,hz,hcap,hrows,hcs,hds⟩:=hd.sl_at;have hg:=DR.sl (σ:=τ) z sz (rows++new) b o cap (λi j=>if i<rows.length then f i j else(vs[(i-rows.length)*sz+j]?).getD (.tuple #[]))
   (λ_ hh=>by have:new=[]:=(List.append_eq_nil_iff.1 hh).2;exact hnew this) (by simpa using hroom)
   (λi r hr=>by
    by_cases hi:i<rows.length
    .rw[Q19 hi]at hr;exact hrows i r hr
    .rw[Q2j (by omega)]at hr;exact hrow _ r hr)
   (λi j r x hr hx=>by
    by_cases hi:i<rows.length
    .rw[Q19 hi]at hr;simp only[hi,if_true];exact hσ _ _ _ (hcs i j r x hr hx)
    .rw[Q2j (by omega)]at hr;simp only[hi,if_false];obtain⟨u,h3,h4⟩:=hvs (i-rows.length) j r x hr hx;rw[h3];have hk:i-rows.length<new.length:=(Q11.1 hr).1;have hj:j<sz:=by rw[<-hrow _ r hr];exact(Q11.1 hx).1
     have hpos:o+i*sz+j=e+((i-rows.length)*sz+j):=by
      have:i*sz=rows.length*sz+(i-rows.length)*sz:=by rw[<-Q29];congr 1;omega
      omega
     have hlt:(i-rows.length)*sz+j<vs.length:=(Q11.1 h3).1;show(if b=b/\e<=o+i*sz+j/\o+i*sz+j<e+vs.length then vs[o+i*sz+j-e]? else κ.σ b (o+i*sz+j))=_;rw[if_pos ⟨rfl,by omega,by omega⟩,hpos,show e+((i-rows.length)*sz+j)-e=(i-rows.length)*sz+j by omega,h3];rfl)
   (λi j r x hr hx=>by
    by_cases hi:i<rows.length
    .rw[Q19 hi]at hr;simp only[hi,if_true];exact(hds i j r x hr hx).mono hσ
    .rw[Q2j (by omega)]at hr;simp only[hi,if_false];obtain⟨u,h3,h4⟩:=hvs (i-rows.length) j r x hr hx;rw[h3];exact h4.mono hσ)
  simpa using hg
 .show Qez (upd κ.β t _ t) _ _;rw[Qk];refine⟨by simp,λ_=>⟨o,cap,by simp,by simpa using hroom,?_,hc,ho0⟩⟩;rw[Q2l,Q29];omega
end
section
open Go.RowKit (Below)
def A.lo(n:Nat):A->Bool
 |.d _|.eptr _|.cun=>true
 |.osl _ _ _ t=>decide (t<n)
 |.msl i _ _|.vsl i _ _|.vptr i _ _ _|.ptr i _|.aptr i _ _|.map i=>decide (i<n)
 |.agg _|.tup _|.fn ..|.undef=>false
def A.clr0(n:Nat):A->A
 |.d x=>.d x
 |.eptr c=>.eptr c
 |.undef=>.undef
 |.cun=>.cun
 |.osl z s r t=>if t<n then .osl z s r t else .d (.sl z s r)
 |.msl i a b=>if i<n then .msl i a b else .cun
 |.vsl i k l=>if i<n then .vsl i k l else .cun
 |.vptr i k x o=>if i<n then .vptr i k x o else .cun
 |.ptr i a=>if i<n then .ptr i a else .cun
 |.aptr i a b=>if i<n then .aptr i a b else .cun
 |.map i=>if i<n then .map i else .cun
 |.fn f a b=>if a.all (A.lo n)&&b.all (A.lo n)then .fn f a b else .cun
 |.agg cs=>if cs.all (A.lo n)then .agg cs else .undef
 |.tup _=>.undef
def A.clr1(n:Nat):A->A
 |.agg cs=>.agg (cs.map (A.clr0 n))
 |x=>x.clr0 n
def A.clr(n:Nat):A->A
 |.tup vs=>.tup (vs.map (A.clr1 n))
 |x=>x.clr1 n
def Ob.clr(n:Nat):Ob->Ob
 |.box ty cs=>.box ty (cs.map (A.clr0 n))
 |.arr sz rows=>.arr sz (rows.map λr=>r.map (A.clr0 n))
 |.tok m sz e=>.tok m sz e
 |.vec sz e k rows=>.vec sz e k rows
 |.mp l=>.mp (l.map λe=>(e.1,e.2.clr0 n))
 |.dead=>.dead
 |.glob g cs=>.glob g cs
def Hp.cut(n:Nat)(H:Hp):Hp:=(H.take n).map (Ob.clr n)
def Fr.clr(n:Nat)(fr:Fr):Fr:=λs=>(fr s).clr n
def K.cut(n:Nat)(κ:K):K:={κ with β:=λi=>if i<n then κ.β i else .none}
def VR.lo{κ:K}{n:Nat}{v:Value}{a:A}(h:VR κ v a)(hl:a.lo n=true):VR (κ.cut n) v a:=by
 cases h with
 |d h=>exact .d h
 |agg vs ars hl' h=>simp[A.lo]at hl
 |tup vs ars hl' h=>simp[A.lo]at hl
 |osl h ht=>simp[A.lo]at hl;exact .osl h (by simp[K.cut,hl];exact ht)
 |msl i off len b sz o cap hb h1 h2 h3=>simp[A.lo]at hl;exact .msl i off len b sz o cap (by simp[K.cut,hl];exact hb) h1 h2 h3
 |vsl i k len ad cap h0 hf=>simp[A.lo]at hl;exact .vsl i k len ad cap h0 (by simp[K.cut,hl];exact hf)
 |vptr i k idx off b o hf=>simp[A.lo]at hl;exact .vptr i k idx off b o (by simp[K.cut,hl];exact hf)
 |ptr i off b hb=>simp[A.lo]at hl;exact .ptr i off b (by simp[K.cut,hl];exact hb)
 |aptr i idx off b sz hb=>simp[A.lo]at hl;exact .aptr i idx off b sz (by simp[K.cut,hl];exact hb)
 |eptr cells b o f hc hd=>exact .eptr cells b o f hc hd
 |fn f vs1 vs2 as1 as2 hl1 hl2 h1 h2=>simp[A.lo]at hl
 |map i b hb=>simp[A.lo]at hl;exact .map i b (by simp[K.cut,hl];exact hb)
 |cun v h=>exact .cun v h
 |undef v=>simp[A.lo]at hl
def VR.clr0{κ:K}(n:Nat){v:Value}{a:A}(h:VR κ v a):VR (κ.cut n) v (a.clr0 n):=by
 cases a with
 |d x=>exact h.lo rfl
 |eptr c=>exact h.lo rfl
 |undef=>exact .undef v
 |cun=>exact h.lo rfl
 |osl z s r t=>
  simp only[A.clr0];split
  .rename_i hl;exact h.lo (by simp[A.lo,hl])
  .cases h with|osl h ht=>exact .d h
 |msl i x y=>simp only[A.clr0];split;.rename_i hl;exact h.lo (by simp[A.lo,hl])
             .exact .cun v (by cases h;rfl)
 |vsl i x y=>simp only[A.clr0];split;.rename_i hl;exact h.lo (by simp[A.lo,hl])
             .exact .cun v (by cases h;rfl)
 |vptr i x y z=>simp only[A.clr0];split;.rename_i hl;exact h.lo (by simp[A.lo,hl])
                .exact .cun v (by cases h;rfl)
 |ptr i x=>simp only[A.clr0];split;.rename_i hl;exact h.lo (by simp[A.lo,hl])
           .exact .cun v (by cases h;rfl)
 |aptr i x y=>simp only[A.clr0];split;.rename_i hl;exact h.lo (by simp[A.lo,hl])
              .exact .cun v (by cases h;rfl)
 |map i=>simp only[A.clr0];split;.rename_i hl;exact h.lo (by simp[A.lo,hl])
         .exact .cun v (by cases h;rfl)
 |fn f as1 as2=>
  simp only[A.clr0];split
  .rename_i hl;simp only[Q2t,Q2n]at hl;cases h with
   |fn _ vs1 vs2 _ _ hl1 hl2 h1 h2=>exact .fn f vs1 vs2 as1 as2 hl1 hl2 (λi v a hv ha=>(h1 i v a hv ha).lo (hl.1 a (Q2p ha))) (λi v a hv ha=>(h2 i v a hv ha).lo (hl.2 a (Q2p ha)))
  .exact .cun v (by cases h;rfl)
 |agg cs=>
  simp only[A.clr0];split
  .rename_i hl;simp only[Q2n]at hl;cases h with
   |agg vs _ hl' h1=>exact .agg vs cs hl' (λi v a hv ha=>(h1 i v a hv ha).lo (hl a (Q2p ha)))
  .exact .undef v
 |tup vs=>exact .undef v
def VR.clr1{κ:K}(n:Nat){v:Value}{a:A}(h:VR κ v a):VR (κ.cut n) v (a.clr1 n):=by
 cases a with
 |agg cs=>
  cases h with
  |agg vs _ hl h1=>refine .agg vs _ (by simpa using hl) (λi v a hv ha=>?_);simp only[Q2d,Q13]at ha;obtain⟨a',ha',rfl⟩:=ha;exact(h1 i v a' hv ha').clr0 n
 |_=>exact h.clr0 n
def VR.clr{κ:K}(n:Nat){v:Value}{a:A}(h:VR κ v a):VR (κ.cut n) v (a.clr n):=by
 cases a with
 |tup cs=>
  cases h with
  |tup vs _ hl h1=>refine .tup vs _ (by simpa using hl) (λi v a hv ha=>?_);simp only[Q2d,Q13]at ha;obtain⟨a',ha',rfl⟩:=ha;exact(h1 i v a' hv ha').clr1 n
 |_=>exact h.clr1 n
def OR.cut{κ:K}(n:Nat){w:World}{i:Nat}{x:Ob}(hi:i<n)(h:OR κ w i x):OR (κ.cut n) w i (x.clr n):=by
 have hβ:(κ.cut n).β i=κ.β i:=by simp[K.cut,hi]
 cases x with
 |box ty cs=>obtain⟨b,h1,hsh,h2⟩:=h;refine⟨b,hβ.trans h1,by rw[Q2y];exact hsh,λj a ha=>?_⟩;simp only[Q2d,Q13]at ha;obtain⟨a',ha',rfl⟩:=ha;obtain⟨v,h3,h4,h5⟩:=h2 j a' ha';exact⟨v,h3,h4,h5.clr0 n⟩
 |arr sz rows=>obtain⟨b,s,h1,hs,h2⟩:=h;refine⟨b,s,hβ.trans h1,hs,λk r hr=>?_⟩;simp only[Q2d,Q13]at hr;obtain⟨r',hr',rfl⟩:=hr;refine⟨by simpa using(h2 k r' hr').1,λj a ha=>?_⟩;simp only[Q2d,Q13]at ha;obtain⟨a',ha',rfl⟩:=ha;obtain⟨v,h3,h4,h5⟩:=(h2 k r' hr').2 j a' ha';exact⟨v,h3,h4,h5.clr0 n⟩
 |tok m sz e=>
  rcases h with⟨h1,h2⟩|⟨b,e,c,cur,lo,hi,h1,h2⟩
  .exact .inl ⟨hβ.trans h1,h2⟩
  .exact .inr ⟨b,e,c,cur,lo,hi,hβ.trans h1,h2⟩
 |vec sz ty k rows=>
  rcases h with⟨h1,h2⟩|⟨b,c,cur,h1,h2⟩
  .exact .inl ⟨hβ.trans h1,h2⟩
  .exact .inr ⟨b,c,cur,hβ.trans h1,h2⟩
 |mp l=>obtain⟨b,es,clock,h1,h2,h3,h4⟩:=h;refine⟨b,es,clock,hβ.trans h1,h2,by rw[Q2y];exact h3,λj x hx=>?_⟩;simp only[Q2d,Q13]at hx;obtain⟨x',hx',rfl⟩:=hx;obtain⟨e,h5,h6,h7⟩:=h4 j x' hx';exact⟨e,h5,h6,h7.clr0 n⟩
 |dead=>trivial
 |glob g cs=>exact h
def A.flat_clr0(n:Nat)(a:A)(h:a.flat=true):(a.clr0 n).flat=true:=by cases a<;>simp only[A.clr0]<;>(try split)<;>first|rfl|exact h
def Ob.flat_clr{x:Ob}(h:x.flat=true)(n:Nat):(x.clr n).flat=true:=by
 cases x with
 |box cs=>simp only[Ob.flat,Ob.clr,Q2n]at h⊢;intro y hy;obtain⟨z,hz,rfl⟩:=Q3c.1 hy;exact A.flat_clr0 n z (h z hz)
 |arr sz rows=>simp only[Ob.flat,Ob.clr,Q2n]at h⊢;intro r hr y hy;obtain⟨r',hr',rfl⟩:=Q3c.1 hr;obtain⟨z,hz,rfl⟩:=Q3c.1 hy;exact A.flat_clr0 n z (h r' hr' z hz)
 |tok m sz e=>rfl
 |vec sz e k rows=>rfl
 |mp l=>simp only[Ob.flat,Ob.clr,Q2n]at h⊢;intro y hy;obtain⟨z,hz,rfl⟩:=Q3c.1 hy;exact A.flat_clr0 n z.2 (h z hz)
 |dead=>rfl
 |glob g cs=>rfl
def HR.cut{κ:K}{H:Hp}{w:World}(h:HR κ H w)(n:Nat)(hn:n<=H.length):HR (κ.cut n) (Hp.cut n H) w:=by
 have hsub:∀i,(κ.cut n).β i≠.none->(κ.cut n).β i=κ.β i:=λi hi=>by
  by_cases hl:i<n
  .simp[K.cut,hl]
  .simp[K.cut,hl]at hi
 refine⟨h.below,h.st,λi x hx=>?_,λi hi=>?_,λi b hb=>?_,λi b o ho=>?_,λi j b hi hj=>?_,λi x hx=>?_⟩
 .simp only[Hp.cut,Q2d,Q13]at hx;obtain⟨y,hy,rfl⟩:=hx;rw[Q4c]at hy;split at hy
  .rename_i hi;exact(h.ob i y hy).cut n hi
  .cases hy
 .have:n<=i:=by simpa[Hp.cut,Q5s hn]using hi
  simp[K.cut,Nat.not_lt.2 this]
 .rw[hsub i (by intro h0;rw[h0]at hb;cases hb)]at hb;exact h.ex i b hb
 .rw[hsub i (by intro h0;rw[h0]at ho;exact ho)]at ho;exact h.exσ i b o ho
 .rw[hsub i (by intro h0;rw[h0]at hi;cases hi)]at hi;rw[hsub j (by intro h0;rw[h0]at hj;cases hj)]at hj;exact h.exd i j b hi hj
 .simp only[Hp.cut,Q2d,Q13]at hx;obtain⟨y,hy,rfl⟩:=hx;rw[Q4c]at hy;split at hy
  .exact Ob.flat_clr (h.fl i y hy) n
  .cases hy
def SR.cut{κ:K}{nt:NT}{fr:Fr}{H:Hp}{a:Act}{w:World}(h:SR κ nt fr H a w)(n:Nat)(hn:n<=H.length):SR (κ.cut n) nt (fr.clr n) (Hp.cut n H) a w:=⟨h.size,h.defers,h.hr.cut n hn,λs=>(h.vr s).clr n⟩
def K.le_cut{κ κ':K}{n:Nat}(h:κ.le κ')(hd:∀i,n<=i->κ.β i=.none):κ.le (κ'.cut n):=
 ⟨h.w0,h.σ,λi=>by
  by_cases hi:i<n
  .simp only[K.cut,hi,if_true];exact h.β i
  .rw[hd i (by omega)];trivial⟩
def VR.lo_of{κ:K}{n:Nat}(hd:∀i,n<=i->κ.β i=.none){v:Value}{a:A}(h:VR κ v a)(hf:a.flat0=true):a.lo n=true:=by
 have hlt:∀i,κ.β i≠.none->i<n:=λi hi=>Q6u λhle=>hi (hd i hle);cases h with
 |d h=>rfl
 |agg vs ars hl' h=>simp[A.flat0]at hf
 |tup vs ars hl' h=>simp[A.flat0]at hf
 |@osl v z s rows t h ht=>simpa[A.lo]using hlt t (by intro h0;rw[h0]at ht;exact ht)
 |msl i off len b sz o cap hb h1 h2 h3=>simpa[A.lo]using hlt i (by rcases hb with⟨s,hb⟩|hb<;>rw[hb]<;>simp)
 |vsl i k len ad cap h0 hv=>simpa[A.lo]using hlt i (by intro h0;rw[h0]at hv;exact hv)
 |vptr i k idx off b o hv=>simpa[A.lo]using hlt i (by intro h0;rw[h0]at hv;exact hv)
 |ptr i off b hb=>simpa[A.lo]using hlt i (by rw[hb];simp)
 |aptr i idx off b sz hb=>simpa[A.lo]using hlt i (by rcases hb with⟨s,hb⟩|hb<;>rw[hb]<;>simp)
 |eptr cells b o f hc hd=>rfl
 |fn f vs1 vs2 as1 as2 hl1 hl2 h1 h2=>simp[A.flat0]at hf
 |map i b hb=>simpa[A.lo]using hlt i (by rw[hb];simp)
 |cun v h=>rfl
 |undef v=>simp[A.flat0]at hf
def A.clr0_lo{n:Nat}{a:A}(h:a.lo n=true):a.clr0 n=a:=by cases a<;>simp_all[A.lo,A.clr0]
def VR.clr0_of{κ:K}{n:Nat}(hd:∀i,n<=i->κ.β i=.none){v:Value}{a:A}(h:VR κ v a)(hf:a.flat=true):a.clr0 n=a:=by
 by_cases h0:a.flat0=true
 .exact A.clr0_lo (h.lo_of hd h0)
 .cases h with
  |agg vs ars hl' h=>simp[A.flat]at hf
  |tup vs ars hl' h=>simp[A.flat]at hf
  |fn f vs1 vs2 as1 as2 hl1 hl2 h1 h2=>
   simp only[A.flat,Q2t,Q2n]at hf;simp only[A.clr0];rw[if_pos];simp only[Q2t,Q2n];refine⟨λa ha=>?_,λa ha=>?_⟩
   .obtain⟨i,hi,rfl⟩:=Q3h ha;exact(h1 i (vs1[i]'(by omega)) _ (Q12 _) (Q12 hi)).lo_of hd (hf.1 _ ha)
   .obtain⟨i,hi,rfl⟩:=Q3h ha;exact(h2 i (vs2[i]'(by omega)) _ (Q12 _) (Q12 hi)).lo_of hd (hf.2 _ ha)
  |undef v=>simp[A.flat]at hf
  |_=>simp[A.flat0]at h0
def Hp.Closed(H:Hp):Prop:=∀n,H.length<=n->H.map (Ob.clr n)=H
def HR.closed{κ:K}{H:Hp}{w:World}(h:HR κ H w):H.Closed:=by
 intro n hn;have hd:∀i,n<=i->κ.β i=.none:=λi hi=>h.dom i (by omega);refine Q3e λi=>?_;rw[Q2d];cases hx:H[i]? with
 |none=>rfl
 |some x=>
  simp only[Q3q,somI];have hf:=h.fl i x hx;have ho:=h.ob i x hx;cases x with
  |box ty cs=>
   obtain⟨b,-,-,h2⟩:=ho;simp only[Ob.clr,Ob.box.injEq,true_and];refine Q3e λj=>?_;rw[Q2d];cases ha:cs[j]? with
   |none=>rfl
   |some a=>obtain⟨v,-,-,hv⟩:=h2 j a ha;simp only[Q3q,somI];exact hv.clr0_of hd (Q2n.1 hf a (Q2p ha))
  |arr sz rows=>
   obtain⟨b,s,-,-,h2⟩:=ho;simp only[Ob.clr,Ob.arr.injEq,true_and];refine Q3e λk=>?_;rw[Q2d];cases hr:rows[k]? with
   |none=>rfl
   |some r=>
    simp only[Q3q,somI];refine Q3e λj=>?_;rw[Q2d];cases ha:r[j]? with
    |none=>rfl
    |some a=>obtain⟨v,-,-,hv⟩:=(h2 k r hr).2 j a ha;simp only[Q3q,somI];exact hv.clr0_of hd (Q2n.1 (Q2n.1 hf r (Q2p hr)) a (Q2p ha))
  |tok m sz e=>rfl
  |vec sz e k rows=>rfl
  |mp l=>
   obtain⟨b,es,clock,-,-,h1,h2⟩:=ho;simp only[Ob.clr,Ob.mp.injEq];refine Q3e λj=>?_;rw[Q2d];cases ha:l[j]? with
   |none=>rfl
   |some a=>obtain⟨e,-,-,hv⟩:=h2 j a ha;simp only[Q3q,somI];rw[hv.clr0_of hd (Q2n.1 hf a (Q2p ha))]
  |dead=>rfl
  |glob g cs=>rfl
end
inductive Arg where
 |t (s:Nat)
 |c (x:D)
 deriving Inhabited
def Arg.ev(fr:Fr):Arg->A
 |.t s=>fr s
 |.c x=>.d x
inductive I where
 |mv (x:Arg)
 |nilT (sz:Nat) (e:TypeId)
 |nilW (sz:Nat) (e:TypeId)
 |pick (c a b:Arg)
 |alloc (ty:TypeId) (cs:List D)
 |allocT (ty:TypeId) (cs:List D) (j sz:Nat) (e:TypeId)
 |allocU (ty:TypeId) (cs:List D) (ts:List (Nat×Nat×TypeId))
 |box (ty:TypeId) (n:Nat) (x:Arg)
 |load (n:Nat) (agg:Bool) (p:Arg)
 |store (n:Nat) (p v:Arg)
 |nilCheck (x:Arg)
 |bin (op:BinOp) (x y:Arg)
 |beq (neg:Bool) (x y:Arg)
 |isNilS (neg:Bool) (x:Arg)
 |isNilP (neg:Bool) (x:Arg)
 |un (op:UnOp) (x:Arg)
 |cvt (k:IntKind) (x:Arg)
 |cvtS (x:Arg)
 |cvtBS (x:Arg)
 |faddr (off:Nat) (p:Arg)
 |fld (off n:Nat) (agg:Bool) (x:Arg)
 |iaddr (sz:Nat) (x i:Arg)
 |sidx (x i:Arg)
 |aidx (n:Nat) (x i:Arg)
 |sslice (x:Arg) (lo hi:Option Arg)
 |slice (sz:Nat) (x:Arg) (lo hi mx:Option Arg)
 |build (z:List D) (parts:List (Nat×Nat×Arg))
 |buildT (ts:List (Nat×Nat×TypeId)) (z:List D) (parts:List (Nat×Nat×Arg))
 |bslice (sz:Nat) (parts:List Arg)
 |bsliceT (sz:Nat) (e:TypeId) (parts:List Arg)
 |bsliceV (sz:Nat) (e:TypeId) (parts:List Arg)
 |bsliceM (sz:Nat) (parts:List Arg)
 |appV (sz bytes:Nat) (e:TypeId) (x y:Arg)
 |cutV (sz:Nat) (x hi:Arg)
 |iaddrV (sz:Nat) (x i:Arg)
 |loadV (n:Nat) (agg:Bool) (p:Arg)
 |mkMap
 |lkp (ok:Bool) (key:D) (agg:Bool) (z:List D) (x k:Arg)
 |mpUpd (key:D) (x k v:Arg)
 |eqA (neg:Bool) (l:List D) (x y:Arg)
 |mkSl (sz bytes:Nat) (z:List D) (l c:Arg)
 |ext (x:Arg) (i:Nat)
 |lenS (x:Arg)
 |lenL (x:Arg)
 |mm (isMax:Bool) (x y:Arg)
 |app (sz bytes:Nat) (e:TypeId) (x y:Arg)
 |appS (e:TypeId) (x y:Arg)
 |mkfn (f:Fn) (first captured:List Arg)
 |call (f:FuncId) (args:List Arg)
 |callE (f:FuncId) (args:List Arg)
 |callv (f:Arg) (args:List Arg)
 deriving Inhabited
structure IOp where
 dst:Option Nat
 g:Option (Nat×Bool)
 i:I
 deriving Inhabited
def cVal:Value->Option D
 |.bool b=>some (.bool b)
 |.int k n=>some (.int k n)
 |.string s=>some (.str s.data.toList)
 |.pointer none=>some .nilp
 |.nilFunc=>some .nilf
 |.nilIface=>some .nili
 |.map none=>some .nilm
 |_=>none
def Yj(P:Program)(t:TypeId):Option (TypeId×TypeInfo):=
 match P.underlying t with
 |some (.slice e)=>(P.info? e).map λi=>(e,i)
 |_=>none
def cArg(P:Program)(ty:TypeId):Operand->Option Arg
 |.tmp t=>some (.t t)
 |.const (.slice none 0 0)=>(Yj P ty).map λx=>.c (.sl true x.2.size [])
 |.const v=>(cVal v).map .c
 |.func f=>some (.c (.fn f))
 |.global _=>none
def Z8:TypeDesc->Bool
 |.struct _|.array _ _=>true
 |_=>false
def vOk:Value->D->Bool
 |.bool a,.bool b=>a==b
 |.int k n,.int k' n'=>k==k'&&n==n'
 |.string s,.str l=>s.data.toList==l
 |.slice none 0 0,.sl true _ []=>true
 |.pointer none,.nilp|.nilFunc,.nilf|.nilIface,.nili|.map none,.nilm=>true
 |_,_=>false
def Qv0(P:Program):Nat->TypeId->Option (List D)
 |0,_=>none
 |d+1,t=>
  match P.underlying t with
  |some .bool=>some [.bool false]
  |some (.int k)=>some [.int k 0]
  |some .string=>some [.str []]
  |some (.pointer _)=>some [.nilp]
  |some (.slice e)=>(P.info? e).map λi=>[.sl true i.size []]
  |some (.map _ _)=>some [.nilm]
  |some (.func _ _ _)=>some [.nilf]
  |some (.interface _)=>some [.nili]
  |some (.struct fs)=>fs.toList.foldlM (λacc f=>(Qv0 P d f.type).map (acc++ ·)) []
  |some (.array n e)=>(Qv0 P d e).map λz=>(List.replicate n z).flatten
  |_=>none
def Y0(P:Program)(t:TypeId):Option (List D):=
 match P.info? t,Qv0 P 20 t with
 |some i,some z=>
  match i.zero with
  |some v=>if v.cells.toList.length==z.length&&(v.cells.toList.zip z).all (λx=>vOk x.1 x.2)then some z else none
  |none=>none
 |_,_=>none
def Wd(P:Program)(f:FuncId):Bool:=
 match P.funcs[f]? with
 |some fn=>fn.body.isSome&& !(fn.name== "runtime.NumGoroutine")
 |none=>false
def Qak(P:Program):Option Operand->Option (Option Arg)
 |none=>some none
 |some x=>(cArg P 0 x).map some
def Qkg(P:Program)(ts:Array TypeId)(xs:Array Operand):Option (List Arg):=if ts.size=xs.size then(xs.toList.zip ts.toList).mapM λx=>cArg P x.2 x.1 else none
def Vd:Nat->List (Nat×Operand)->Bool
 |_,[]=>true
 |n,(i,_)::r=>i==n&&Vd (n+1) r
def Qmr(P:Program):List Field->Option (Nat×Nat×TypeId)
 |[]=>none
 |f::r=>match P.underlying f.type with
  |some (.slice e)=>(P.info? e).map λi=>(f.offset,i.size,e)
  |_=>Qmr P r
def Qlm(P:Program)(fs:List Field):List (Nat×Nat×TypeId):=fs.filterMap λf=>
 match P.underlying f.type with
 |some (.slice e)=>(P.info? e).map λi=>(f.offset,i.size,e)
 |_=>none
def Qqs(P:Program)(t:TypeId):Option (Nat×Nat×TypeId):=
 match P.underlying t with
 |some (.struct fs)=>Qmr P fs.toList
 |some (.slice e)=>(P.info? e).map λi=>(0,i.size,e)
 |_=>none
def Qou:Option D->Nat->Bool
 |some (.sl true s []),n=>s==n
 |_,_=>false
def Qbh(P:Program)(t:TypeId):Option D:=
 match P.underlying t with
 |some .bool=>some (.bool false)
 |some (.int k)=>some (.int k 0)
 |some .string=>some (.str [])
 |_=>none
def Qmq(P:Program):Nat->List Field->Option (List D)
 |_,[]=>some []
 |k,f::r=>if f.offset==k&&f.name != "_" then
  match Qbh P f.type,Qmq P (k+1) r with
  |some d,some l=>some (d::l)
  |_,_=>none
   else none
def Qcz(P:Program):Nat->List Field->Option (List D)
 |_,[]=>some []
 |k,f::r=>if f.offset==k&&f.name != "_" then
  match Qbh P f.type with
  |some d=>(Qcz P (k+1) r).map (d:: ·)
  |none=>match P.underlying f.type,P.info? f.type with
   |some (.struct gs),some i=>match P.stoodInHeld f.type,Qmq P 0 gs.toList with
    |false,some l=>if i.size==l.length then(Qcz P (k+l.length) r).map (l++ ·)else none
    |_,_=>none
   |_,_=>none
   else none
def zAgg(P:Program)(t:TypeId):Bool:=
 match(P.info? t).bind (·.zero)with
 |some (.agg _)=>true
 |_=>false
def compI(P:Program)(tok:List Nat)(o:Oper):Option I:=
 match o.op with
 |.move x|.assign x=>
  match x,(o.dst.map tok.contains).getD false with
  |.const (.slice none 0 0),true=>(Yj P o.type).map λy=>if(o.dst.map λd=>tok.contains (d+11000000)).getD false then .nilW y.2.size y.1 else .nilT y.2.size y.1
  |x,_=>(cArg P o.type x).map .mv
 |.pick c a b=>do pure (.pick (<-cArg P 0 c) (<-cArg P o.type a) (<-cArg P o.type b))
 |.alloc t=>
  if(o.dst.map λd=>tok.contains (d+5000000)).getD false then
   match P.underlying t,Y0 P t with
   |some (.struct fs),some cs=>some (.allocU t cs ((Qlm P fs.toList).map λx=>if(o.dst.map λd=>tok.contains (d+8000000+100000*x.1)).getD false then(x.1,x.2.1+1000000,x.2.2)else x))
   |_,_=>none
  else if(o.dst.map tok.contains).getD false then
   match Qqs P t,Y0 P t with
   |some (j,sz,e),some cs=>if Qou cs[j]? sz then some (.allocT t cs j sz e)else none
   |_,_=>none
  else(Y0 P t).map (.alloc t)
 |.box t y=>
  match P.info? t with
  |some i=>(cArg P t y).map (.box t i.size)
  |none=>none
 |.load t a=>
  match P.underlying t,P.info? t with
  |some d,some i=>if(o.dst.map λd=>tok.contains (d+3000000)).getD false then
   (if Z8 d then(cArg P 0 a).map (.loadV i.size true)else(cArg P 0 a).map (.loadV 1 false))
    else if Z8 d then(cArg P 0 a).map (.load i.size true)else(cArg P 0 a).map (.load 1 false)
  |_,_=>none
 |.store t a v=>
  match P.info? t with
  |some i=>do pure (.store i.size (<-cArg P 0 a) (<-cArg P t v))
  |none=>none
 |.nilCheck x=>(cArg P 0 x).map .nilCheck
 |.binOp op t x y _=>
  match P.underlying t with
  |some (.int _)|some .string=>do pure (.bin op (<-cArg P t x) (<-cArg P t y))
  |some .bool=>
   match op with
   |.eql=>do pure (.beq false (<-cArg P t x) (<-cArg P t y))
   |.neq=>do pure (.beq true (<-cArg P t x) (<-cArg P t y))
   |_=>none
  |some (.slice _)=>
   match op,y with
   |.eql,.const (.slice none 0 0)=>(cArg P t x).map (.isNilS false)
   |.neq,.const (.slice none 0 0)=>(cArg P t x).map (.isNilS true)
   |_,_=>none
  |some (.pointer _)=>
   match op,y with
   |.eql,.const (.pointer none)=>(cArg P t x).map (.isNilP false)
   |.neq,.const (.pointer none)=>(cArg P t x).map (.isNilP true)
   |_,_=>none
  |some (.struct fs)=>
   match Qcz P 0 fs.toList,P.stoodInHeld t,P.eqGuardType P.depth t with
   |some l,false,false=>
    match op with
    |.eql=>do pure (.eqA false l (<-cArg P t x) (<-cArg P t y))
    |.neq=>do pure (.eqA true l (<-cArg P t x) (<-cArg P t y))
    |_=>none
   |_,_,_=>none
  |_=>none
 |.unOp op _ x=>(cArg P o.type x).map (.un op)
 |.convert s t x=>
  match P.underlying s,P.underlying t with
  |some (.int _),some (.int k)=>(cArg P s x).map (.cvt k)
  |some .string,some .string=>(cArg P s x).map .cvtS
  |some (.slice e),some .string=>match P.underlying e with
   |some (.int .u8)=>(cArg P s x).map .cvtBS
   |_=>none
  |_,_=>none
 |.makeFunc fn first captured=>do pure (.mkfn fn (<-first.toList.mapM (cArg P 0)) (<-captured.toList.mapM (cArg P 0)))
 |.fieldAddr s x f=>
  match P.underlying s with
  |some (.struct fs)=>
   match fs[f]? with
   |some fd=>match P.info? fd.type with
    |some i=>if i.size=0 then none else(cArg P 0 x).map (.faddr fd.offset)
    |none=>none
   |none=>none
  |_=>none
 |.field s x f=>
  match P.underlying s with
  |some (.struct fs)=>
   match fs[f]? with
   |some fd=>match P.underlying fd.type,P.info? fd.type with
    |some d,some i=>if Z8 d then(cArg P 0 x).map (.fld fd.offset i.size true)else(cArg P 0 x).map (.fld fd.offset 1 false)
    |_,_=>none
   |none=>none
  |_=>none
 |.indexAddr t x i=>
  match Yj P t with
  |some (_,ti)=>if(o.dst.map λd=>tok.contains (d+3000000)).getD false then do pure (.iaddrV ti.size (<-cArg P t x) (<-cArg P 0 i))else do pure (.iaddr ti.size (<-cArg P t x) (<-cArg P 0 i))
  |none=>none
 |.index t x i=>
  match P.underlying t with
  |some .string=>do pure (.sidx (<-cArg P t x) (<-cArg P 0 i))
  |some (.array n e)=>match P.underlying e,P.info? e with
   |some d,some ti=>if !Z8 d&&ti.size==1 then do pure (.aidx n (<-cArg P t x) (<-cArg P 0 i))else none
   |_,_=>none
  |_=>none
 |.slice t x lo hi mx=>
  match P.underlying t,mx with
  |some .string,none=>do pure (.sslice (<-cArg P t x) (<-Qak P lo) (<-Qak P hi))
  |some (.slice e),_=>match P.info? e with
   |some ti=>if(o.dst.map λd=>tok.contains (d+2000000)).getD false then
    match lo,hi,mx with
    |none,some h,none=>do pure (.cutV ti.size (<-cArg P t x) (<-cArg P 0 h))
    |_,_,_=>none
     else do pure (.slice ti.size (<-cArg P t x) (<-Qak P lo) (<-Qak P hi) (<-Qak P mx))
   |none=>none
  |_,_=>none
 |.build t parts=>
  match P.underlying t,Y0 P t with
  |some (.struct fs),some z=>do
   let ps<-parts.toList.mapM λ(x:Nat×Operand)=>do
    let fd<-fs[x.1]?;let i<-P.info? fd.type;let y<-cArg P fd.type x.2
    pure (fd.offset,i.size,y)
   if fs.all λf=>(P.info? f.type).isSome then(if(o.dst.map tok.contains).getD false then pure (.buildT ((Qlm P fs.toList).filter λx=> !(ps.any λp=>p.1==x.1)) z ps)else pure (.build z ps))else none
  |some (.array _ e),some z=>match P.info? e with
   |some i=>do
    let ps<-parts.toList.mapM λ(x:Nat×Operand)=>do
     let y<-cArg P e x.2
     pure (x.1*i.size,i.size,y)
    pure (.build z ps)
   |none=>none
  |_,_=>none
 |.buildSlice t n parts=>
  match Yj P t with
  |some (e,ti)=>
   if Vd 0 parts.toList&&parts.size==n&&n*ti.size<=2^24&&((Y0 P e).map (·.length))==some ti.size&&0<ti.size then do
    let ps<-parts.toList.mapM λ(x:Nat×Operand)=>cArg P e x.2
    if(o.dst.map tok.contains).getD false then pure (.bsliceT ti.size e ps)else
    if(o.dst.map λd=>tok.contains (d+1000000)).getD false then pure (.bsliceM ti.size ps)else
    if(o.dst.map λd=>tok.contains (d+9000000)).getD false then pure (.bsliceV ti.size e ps)else pure (.bslice ti.size ps)
   else none
  |none=>none
 |.makeSlice t l c=>
  match Yj P t with
  |some (e,ti)=>match Y0 P e with
   |some z=>if z.length=ti.size&&(ti.zero.map (·.cells.size))==some ti.size&&0<ti.size&&0<ti.bytes then do pure (.mkSl ti.size ti.bytes z (<-cArg P 0 l) (<-cArg P 0 c))else none
   |none=>none
  |none=>none
 |.makeMap _ r=>match r with
  |none=>some .mkMap
  |some _=>none
 |.lookup t x k ok=>
  match P.underlying t with
  |some (.map kt et)=>match Qbh P kt,Y0 P et with
   |some kd,some z=>do pure (.lkp ok kd (zAgg P et) z (<-cArg P t x) (<-cArg P kt k))
   |_,_=>none
  |_=>none
 |.mapUpdate t x k v=>
  match P.underlying t with
  |some (.map kt et)=>match Qbh P kt with
   |some kd=>do pure (.mpUpd kd (<-cArg P t x) (<-cArg P kt k) (<-cArg P et v))
   |none=>none
  |_=>none
 |.extract x i=>(cArg P 0 x).map λy=>.ext y i
 |.call c=>
  match c.callee with
  |.builtin .len=>
   match c.argTypes[0]?,c.args.toList with
   |some t,[x]=>match P.underlying t with
    |some .string=>(cArg P t x).map .lenS
    |some (.slice _)=>(cArg P t x).map .lenL
    |_=>none
   |_,_=>none
  |.builtin .max=>match c.args.toList with
   |[x,y]=>do pure (.mm true (<-cArg P 0 x) (<-cArg P 0 y))
   |_=>none
  |.builtin .min=>match c.args.toList with
   |[x,y]=>do pure (.mm false (<-cArg P 0 x) (<-cArg P 0 y))
   |_=>none
  |.builtin .append=>
   match c.argTypes.toList,c.args.toList with
   |[t,u],[x,y]=>
    match Yj P t with
    |some (e,ti)=>
     if ti.bytes=0||ti.size=0||(ti.zero.map (·.cells.size)) != some ti.size then none else
     match P.underlying u with
     |some (.slice _)=>if(o.dst.map λd=>tok.contains (d+2000000)).getD false then do pure (.appV ti.size ti.bytes e (<-cArg P t x) (<-cArg P t y))else do pure (.app ti.size ti.bytes e (<-cArg P t x) (<-cArg P t y))
     |some .string=>if ti.size==1&&ti.bytes==1 then do pure (.appS e (<-cArg P t x) (<-cArg P u y))else none
     |_=>none
    |none=>none
   |_,_=>none
  |.value (.func f)=>if Wd P f then(if(o.dst.map λd=>tok.contains (d+6000000)).getD false then(Qkg P c.argTypes c.args).map (.callE f)else(Qkg P c.argTypes c.args).map (.call f))else none
  |.value f=>do pure (.callv (<-cArg P 0 f) (<-Qkg P c.argTypes c.args))
  |_=>none
 |_=>none
def Qtv(op:BinOp)(k:IntKind)(a b:Int):Option D:=
 match op with
 |.add=>some (.int k (k.wrap (a+b)))
 |.sub=>some (.int k (k.wrap (a-b)))
 |.mul=>some (.int k (k.wrap (a*b)))
 |.quo=>if b=0 then none else some (.int k (k.wrap (a.tdiv b)))
 |.rem=>if b=0 then none else some (.int k (a.tmod b))
 |.and=>some (.int k (k.wrap (BitVec.ofInt k.bits a&&& BitVec.ofInt k.bits b).toNat))
 |.or=>some (.int k (k.wrap (BitVec.ofInt k.bits a|||BitVec.ofInt k.bits b).toNat))
 |.xor=>some (.int k (k.wrap (BitVec.ofInt k.bits a^^^BitVec.ofInt k.bits b).toNat))
 |.andNot=>some (.int k (k.wrap (BitVec.ofInt k.bits a&&& ~~~BitVec.ofInt k.bits b).toNat))
 |.eql=>some (.bool (decide (a=b)))
 |.neq=>some (.bool (decide (a≠b)))
 |.lss=>some (.bool (decide (a<b)))
 |.leq=>some (.bool (decide (a<=b)))
 |.gtr=>some (.bool (decide (b<a)))
 |.geq=>some (.bool (decide (b<=a)))
 |_=>none
def shOp(op:BinOp)(k:IntKind)(a b:Int):Option D:=
 if b<0 then none else
 match op with
 |.shl=>some (.int k (k.wrap (a*2^(min b.toNat k.bits))))
 |.shr=>some (.int k (a.fdiv (2^(min b.toNat k.bits))))
 |_=>none
def Qbg(op:BinOp)(a b:List UInt8):Option D:=
 match op with
 |.add=>if a.length+b.length<=9223372036854775807 then some (.str (a++b))else none
 |.eql=>some (.bool (decide (a=b)))
 |.neq=>some (.bool (decide (a≠b)))
 |.lss=>some (.bool (Op.bytesLess a b))
 |.leq=>some (.bool (Op.bytesLess a b||decide (a=b)))
 |.gtr=>some (.bool (!(Op.bytesLess a b||decide (a=b))))
 |.geq=>some (.bool (!Op.bytesLess a b))
 |_=>none
def binA(op:BinOp):A->A->Option A
 |.d (.int k a),.d (.int k' b)=>
  match op with
  |.shl|.shr=>(shOp op k a b).map .d
  |_=>if k=k' then(Qtv op k a b).map .d else none
 |.d (.str a),.d (.str b)=>(Qbg op a b).map .d
 |_,_=>none
def beqA(neg:Bool):A->A->Option A
 |.d (.bool a),.d (.bool b)=>some (.d (.bool (if neg then decide (a≠b)else decide (a=b))))
 |_,_=>none
def isNilS(neg:Bool):A->Option A
 |.d (.sl z _ rows)=>some (.d (.bool (if neg then !(z&&rows.isEmpty)else(z&&rows.isEmpty))))
 |.osl z _ rows _=>some (.d (.bool (if neg then !(z&&rows.isEmpty)else(z&&rows.isEmpty))))
 |.msl _ _ _=>some (.d (.bool neg))
 |_=>none
def isNilP(neg:Bool):A->Option A
 |.d .nilp=>some (.d (.bool (!neg)))
 |.ptr _ _|.aptr _ _ _|.eptr _=>some (.d (.bool neg))
 |_=>none
def unA(op:UnOp):A->Option A
 |.d (.int k n)=>match op with
  |.neg=>some (.d (.int k (k.wrap (0-n))))
  |_=>none
 |.d (.bool b)=>match op with
  |.not=>some (.d (.bool !b))
  |_=>none
 |_=>none
def A.cells:A->List A
 |.agg cs=>cs
 |x=>[x]
def cutL{α:Type}(l:List α)(off n:Nat):Option (List α):=if off+n<=l.length then some ((l.drop off).take n)else none
def setL{α:Type}:List α->Nat->List α->List α
 |l,_,[]=>l
 |l,i,x::r=>setL (l.set i x) (i+1) r
def ldA(H:Hp)(n:Nat):A->Option (List A)
 |.ptr i off=>match H[i]? with
  |some (.box _ cs)=>cutL cs off n
  |_=>none
 |.aptr i k off=>match H[i]? with
  |some (.arr _ rows)=>match rows[k]? with
   |some r=>cutL r off n
   |none=>none
  |_=>none
 |.eptr cells=>(cutL cells 0 n).map (List.map .d)
 |_=>none
def A.toD:A->Option D
 |.d x=>some x
 |.osl z s r _=>some (.sl z s r)
 |.fn (.func f) [] []=>some (.fn f)
 |_=>none
def stA(H:Hp)(cs:List A):A->Option Hp
 |.ptr i off=>match H[i]? with
  |some (.box ty old)=>if off+cs.length<=old.length then some (H.set i (.box ty (setL old off cs)))else none
  |_=>none
 |.aptr i k off=>match H[i]? with
  |some (.arr sz rows)=>match rows[k]? with
   |some r=>if off+cs.length<=r.length then some (H.set i (.arr sz (rows.set k (setL r off cs))))else none
   |none=>none
  |_=>none
 |.vptr i k x off=>match H[i]? with
  |some (.vec sz e k' rows)=>if k=k' then match rows[x]? with
   |some r=>match cs.mapM A.toD with
    |some ds=>if off+ds.length<=r.length then some (H.set i (.vec sz e k' (rows.set x (setL r off ds))))else none
    |none=>none
   |none=>none else none
  |_=>none
 |_=>none
def Qde:A->Bool
 |.ptr _ _|.aptr _ _ _|.eptr _|.vptr ..|.d (.fn _)|.fn (.func _) _ _=>true
 |_=>false
def Qo3(off:Nat):A->Option A
 |.ptr i o=>some (.ptr i (o+off))
 |.aptr i k o=>some (.aptr i k (o+off))
 |.eptr cells=>some (.eptr (cells.drop off))
 |.vptr i k x o=>some (.vptr i k x (o+off))
 |_=>none
def rowAt(rows:List (List D))(n:Int):Option (List D):=if 0<=n then rows[n.toNat]? else none
def W4(H:Hp)(sz:Nat):A->A->Option A
 |.d (.sl _ s rows),.d (.int _ n)=>if s=sz then(rowAt rows n).map .eptr else none
 |.osl _ s rows _,.d (.int _ n)=>if s=sz then(rowAt rows n).map .eptr else none
 |.msl a off len,.d (.int _ n)=>match H[a]? with
  |some (.arr s _)=>if s=sz/\0<=n/\n<len then some (.aptr a (off+n.toNat) 0)else none
  |_=>none
 |_,_=>none
def Yc(s:List UInt8)(n:Int):Option UInt8:=if 0<=n then s[n.toNat]? else none
def Y8(fr:Fr)(d:Nat):Option Arg->Option Int
 |none=>some d
 |some x=>match x.ev fr with
  |.d (.int _ n)=>some n
  |_=>none
def subL{α:Type}(l:List α)(lo hi:Int):Option (List α):=if 0<=lo/\lo<=hi/\hi<=l.length then some ((l.drop lo.toNat).take (hi.toNat-lo.toNat))else none
def Qi8(sz:Nat)(lo hi:Int)(mx:Option Int):A->Option A
 |.d (.sl z s rows)=>if s=sz/\(∀m,mx=some m->hi<=m/\m<=rows.length)then(subL rows lo hi).map λr=>.d (.sl (z&&rows.isEmpty) s r)else none
 |.osl z s rows _=>if s=sz/\(∀m,mx=some m->hi<=m/\m<=rows.length)then(subL rows lo hi).map λr=>.d (.sl (z&&rows.isEmpty) s r)else none
 |_=>none
def lenA:A->Option Nat
 |.d (.sl _ _ rows)=>some rows.length
 |.osl _ _ rows _=>some rows.length
 |.msl _ _ n=>some n
 |.vsl _ _ n=>some n
 |_=>none
def mmA(isMax:Bool):A->A->Option A
 |.d (.int k a),.d (.int k' b)=>if k=k' then some (.d (.int k (if isMax then max a b else min a b)))else none
 |_,_=>none
def Qmt:List (Nat×Nat×A)->List A->Option (List A)
 |[],cs=>some cs
 |(off,n,v)::r,cs=>if v.cells.length=n/\v.cells.all A.flat=true/\off+n<=cs.length then Qmt r (setL cs off v.cells)else none
def Yf(sz:Nat)(v:A):Option (List D):=if v.cells.length=sz/\v.cells.all A.flat=true then v.cells.mapM A.toD else none
def appA(H:Hp)(sz bytes:Nat)(e:TypeId)(new:List (List D)):A->Option (A×Hp)
 |.osl z s rows t=>
  match H[t]? with
  |some (.tok n s' e')=>if s=sz/\s'=sz/\e'=e/\n=rows.length/\(rows.length+new.length)*bytes<=140737488355328 then
   some (.osl z s (rows++new) t,H.set t (.tok (rows.length+new.length) sz e))else none
  |_=>none
 |.d (.sl true s [])=>if s=sz/\new.length*bytes<=140737488355328 then some (.d (.sl true s new),H)else none
 |.msl i 0 0=>
  match H[i]? with
  |some (.arr s [])=>if s=sz/\new.length*bytes<=140737488355328 then
   match new with
   |[]=>some (.msl i 0 0,H)
   |r::rs=>some (.msl H.length 0 (rs.length+1),H++[.arr sz ((r::rs).map (List.map .d))])
    else none
  |_=>none
 |_=>none
def slOf(sz:Nat):A->Option (List (List D))
 |.d (.sl _ s rows)=>if s=sz then some rows else none
 |.osl _ s rows _=>if s=sz then some rows else none
 |_=>none
def tokA(H:Hp):List (Nat×Nat×TypeId)->List A->List A×Hp
 |[],cs=>(cs,H)
 |(j,sz,e)::r,cs=>match cs[j]? with
  |some (.d (.sl true s []))=>if s=sz then tokA (H++[.tok 0 sz e]) r (cs.set j (.osl true sz [] H.length))else if s+1000000=sz then tokA (H++[.vec s e 0 []]) r (cs.set j (.vsl H.length 0 0))else tokA H r cs
  |_=>tokA H r cs
def Qpc:List D->Option UInt8
 |[.int .u8 n]=>some (UInt8.ofNat n.toNat)
 |_=>none
def eqD:D->D->D->Option Bool
 |.bool _,.bool a,.bool b=>some (a==b)
 |.int _ _,.int k a,.int k' b=>if k=k' then some (decide (a=b))else none
 |.str _,.str a,.str b=>some (decide (a=b))
 |_,_,_=>none
def eqDs:List D->List A->List A->Option Bool
 |[],[],[]=>some true
 |l::ls,.d a::r,.d b::s=>match eqD l a b,eqDs ls r s with
  |some h,some t=>some (h&&t)
  |_,_=>none
 |_,_,_=>none
def Qcg:D->D->Bool
 |.bool _,.bool _=>true
 |.int k _,.int k' _=>decide (k=k')
 |.str _,.str _=>true
 |_,_=>false
def Qgr:D->D->Bool
 |.bool a,.bool b=>a==b
 |.int _ a,.int _ b=>decide (a=b)
 |.str a,.str b=>decide (a=b)
 |_,_=>false
def Qam(k:D):List (D×A)->Option A
 |[]=>none
 |e::r=>if Qgr k e.1 then some e.2 else Qam k r
def Qaf(k:D)(v:A):List (D×A)->List (D×A)
 |[]=>[(k,v)]
 |e::r=>if Qgr k e.1 then(k,v)::r else e::Qaf k v r
def mpOk(key k:D)(l:List (D×A)):Bool:=Qcg key k&&l.all λe=>Qcg key e.1
def zA(agg:Bool)(z:List D):A:=if agg then .agg (z.map .d)else .d (z.headD .nilp)
def ldV(H:Hp)(n:Nat):A->Option (List A)
 |.vptr i k x off=>match H[i]? with
  |some (.vec _ _ k' rows)=>if k=k' then match rows[x]? with
   |some r=>(cutL r off n).map (List.map .d)
   |none=>none else none
  |_=>none
 |_=>none
def iaddrV(H:Hp)(sz:Nat):A->A->Option A
 |.vsl a k len,.d (.int _ n)=>match H[a]? with
  |some (.vec s _ k' _)=>if s=sz/\k=k'/\0<=n/\n<len then some (.vptr a k n.toNat 0)else none
  |_=>none
 |_,_=>none
def Qkl(H:Hp)(sz bytes:Nat)(e:TypeId)(r:List D)(new:List (List D)):A->Option (A×Hp)
 |.d (.sl true s [])=>if s=sz/\(new.length+1)*bytes<=140737488355328 then some (.vsl H.length 0 (new.length+1),H++[.vec sz e 0 (r::new)])else none
 |.vsl i k len=>match H[i]? with
  |some (.vec s e' k' rows)=>if s=sz/\e'=e/\k'=k/\len<=rows.length/\(len+(new.length+1))*bytes<=140737488355328 then
   some (.vsl i (k+1) (len+(new.length+1)),H.set i (.vec sz e (k+1) (rows.take len++r::new)))else none
  |_=>none
 |_=>none
def Yb(s:List UInt8):List (List D):=s.map λb=>[.int .u8 b.toNat]
def noS{α:Type}{x:α}{p:Prop}(h:(none:Option α)=some x):p:=nomatch h
def Qj(fr:Fr)(H:Hp):I->Option (A×Hp)
 |.mv x=>some (x.ev fr,H)
 |.nilT sz e=>some (.osl true sz [] H.length,H++[.tok 0 sz e])
 |.nilW sz e=>some (.vsl H.length 0 0,H++[.vec sz e 0 []])
 |.pick c a b=>match c.ev fr with
  |.d (.bool t)=>some (if t then a.ev fr else b.ev fr,H)
  |_=>none
 |.alloc ty cs=>some (.ptr H.length 0,H++[.box ty (cs.map .d)])
 |.allocU ty cs ts=>some (.ptr (tokA H ts (cs.map .d)).2.length 0,(tokA H ts (cs.map .d)).2++[.box ty (tokA H ts (cs.map .d)).1])
 |.allocT ty cs j sz e=>some (.ptr (H.length+1) 0,H++[.tok 0 sz e,.box ty ((cs.map .d).set j (.osl true sz [] H.length))])
 |.box ty n y=>if(y.ev fr).cells.length=n/\((y.ev fr).cells.all A.flat)=true then some (.ptr H.length 0,H++[.box ty (y.ev fr).cells])else none
 |.load n agg p=>(ldA H n (p.ev fr)).map λcs=>(if agg then .agg cs else cs.headD .undef,H)
 |.store n p v=>if(v.ev fr).cells.length=n/\((v.ev fr).cells.all A.flat)=true then(stA H (v.ev fr).cells (p.ev fr)).map λH'=>(.tup [],H')else none
 |.nilCheck x=>if Qde (x.ev fr)then some (x.ev fr,H)else none
 |.bin op x y=>(binA op (x.ev fr) (y.ev fr)).map (.,H)
 |.beq neg x y=>(beqA neg (x.ev fr) (y.ev fr)).map (.,H)
 |.isNilS neg x=>(isNilS neg (x.ev fr)).map (.,H)
 |.isNilP neg x=>(isNilP neg (x.ev fr)).map (.,H)
 |.un op x=>(unA op (x.ev fr)).map (.,H)
 |.cvt k x=>match x.ev fr with
  |.d (.int _ n)=>some (.d (.int k (k.wrap n)),H)
  |_=>none
 |.faddr off p=>(Qo3 off (p.ev fr)).map (.,H)
 |.fld off n agg x=>match x.ev fr with
  |.agg cs=>(cutL cs off n).map λcs=>(if agg then .agg cs else cs.headD .undef,H)
  |_=>none
 |.iaddr sz x i=>(W4 H sz (x.ev fr) (i.ev fr)).map (.,H)
 |.sidx x i=>match x.ev fr,i.ev fr with
  |.d (.str s),.d (.int _ n)=>(Yc s n).map λb=>(.d (.int .u8 b.toNat),H)
  |_,_=>none
 |.sslice x lo hi=>match x.ev fr with
  |.d (.str s)=>match Y8 fr 0 lo,Y8 fr s.length hi with
   |some l,some h=>(subL s l h).map λr=>(.d (.str r),H)
   |_,_=>none
  |_=>none
 |.slice sz x lo hi mx=>match lenA (x.ev fr)with
  |some n=>match Y8 fr 0 lo,Y8 fr n hi,mx with
   |some l,some h,none=>(Qi8 sz l h none (x.ev fr)).map (.,H)
   |some l,some h,some m=>match Y8 fr 0 (some m)with
    |some m=>if hi.isSome then(Qi8 sz l h (some m) (x.ev fr)).map (.,H)else none
    |none=>none
   |_,_,_=>none
  |none=>none
 |.build z parts=>(Qmt (parts.map λx=>(x.1,x.2.1,x.2.2.ev fr)) (z.map .d)).map λcs=>(.agg cs,H)
 |.buildT ts z parts=>(Qmt (parts.map λx=>(x.1,x.2.1,x.2.2.ev fr)) (z.map .d)).map λcs=>(.agg (tokA H ts cs).1,(tokA H ts cs).2)
 |.bslice sz parts=>(parts.mapM λx=>Yf sz (x.ev fr)).map λrows=>(.d (.sl false sz rows),H)
 |.bsliceT sz e parts=>(parts.mapM λx=>Yf sz (x.ev fr)).map λrows=>(.osl false sz rows H.length,H++[.tok rows.length sz e])
 |.eqA neg l x y=>match x.ev fr,y.ev fr with
  |.agg cs,.agg ds=>(eqDs l cs ds).map λb=>(.d (.bool (neg != b)),H)
  |_,_=>none
 |.appV sz bytes e x y=>match slOf sz (y.ev fr)with
  |some (r::new)=>Qkl H sz bytes e r new (x.ev fr)
  |_=>none
 |.mkMap=>some (.map H.length,H++[.mp []])
 |.lkp ok key agg z x k=>match k.ev fr,x.ev fr with
  |.d kd,.map i=>match H[i]? with
   |some (.mp l)=>if mpOk key kd l then match Qam kd l with
    |some a=>some (if ok then .tup [a,.d (.bool true)]else a,H)
    |none=>some (if ok then .tup [zA agg z,.d (.bool false)]else zA agg z,H)else none
   |_=>none
  |.d kd,.d .nilm=>if Qcg key kd then some (if ok then .tup [zA agg z,.d (.bool false)]else zA agg z,H)else none
  |_,_=>none
 |.mpUpd key x k v=>match x.ev fr,k.ev fr with
  |.map i,.d kd=>match H[i]? with
   |some (.mp l)=>if mpOk key kd l/\(v.ev fr).flat=true then some (.tup [],H.set i (.mp (Qaf kd (v.ev fr) l)))else none
   |_=>none
  |_,_=>none
 |.bsliceV sz e parts=>(parts.mapM λx=>Yf sz (x.ev fr)).map λrows=>(.vsl H.length 1 rows.length,H++[.vec sz e 1 rows])
 |.bsliceM sz parts=>(parts.mapM λx=>Yf sz (x.ev fr)).map λrows=>(.msl H.length 0 rows.length,H++[.arr sz (rows.map (List.map .d))])
 |.ext x i=>match x.ev fr with
  |.tup vs=>(vs[i]?).map (.,H)
  |_=>none
 |.lenS x=>match x.ev fr with
  |.d (.str s)=>some (.d (.int .i64 s.length),H)
  |_=>none
 |.lenL x=>(lenA (x.ev fr)).map λ(n:Nat)=>(.d (.int .i64 (n:Int)),H)
 |.mm isMax x y=>(mmA isMax (x.ev fr) (y.ev fr)).map (.,H)
 |.app sz bytes e x y=>match slOf sz (y.ev fr)with
  |some new=>appA H sz bytes e new (x.ev fr)
  |none=>none
 |.mkfn f a b=>some (.fn f (a.map (Arg.ev fr)) (b.map (Arg.ev fr)),H)
 |.call _ _|.callE _ _|.callv _ _|.aidx ..|.appS ..|.cutV ..|.cvtBS ..|.cvtS ..|.iaddrV ..|.loadV ..|.mkSl ..=>none
section
open Go.RowKit (Below)
def Zt(b o n:Nat):(⟨b,o,none⟩:Addr).add n=⟨b,o+n,none⟩:=by unfold Addr.add;split<;>simp_all
def VR.d_inv{κ:K}{v:Value}{x:D}(h:VR κ v (.d x)):DR κ.σ v x:=by cases h;assumption
def VR.int_inv{κ:K}{v:Value}{k:IntKind}{n:Int}(h:VR κ v (.d (.int k n))):v=.int k n:=by cases h with|d h=>cases h;rfl
def VR.bool_inv{κ:K}{v:Value}{b:Bool}(h:VR κ v (.d (.bool b))):v=.bool b:=by cases h with|d h=>cases h;rfl
def VR.str_inv{κ:K}{v:Value}{s:List UInt8}(h:VR κ v (.d (.str s))):∃t:ByteArray,v=.string t/\t.data.toList=s:=by cases h with|d h=>cases h;exact⟨_,rfl,rfl⟩
def VR.fn_inv{κ:K}{v:Value}{f:FuncId}(h:VR κ v (.d (.fn f))):v=.func (.func f) #[] #[]:=by cases h with|d h=>cases h;rfl
def VR.int{κ:K}(k:IntKind)(n:Int):VR κ (.int k n) (.d (.int k n)):=.d (.int k n)
def VR.bool{κ:K}(b:Bool):VR κ (.bool b) (.d (.bool b)):=.d (.bool b)
def VR.str{κ:K}(s:ByteArray):VR κ (.string s) (.d (.str s.data.toList)):=.d (.str s)
def VR.str'{κ:K}(s:ByteArray){l:List UInt8}(h:s.data.toList=l):VR κ (.string s) (.d (.str l)):=by subst h;exact .str s
def Qi3{σ:St}{v:Value}{d:D}(h:vOk v d=true):DR σ v d:=by
 unfold vOk at h;split at h
 .simp only[beq_iff_eq]at h;subst h;exact .bool _
 .simp only[Q2t,beq_iff_eq]at h;obtain⟨rfl,rfl⟩:=h;exact .int _ _
 .simp only[beq_iff_eq]at h;subst h;exact .str _
 .exact .nilsl _
 .exact .nilp
 .exact .nilf
 .exact .nili
 .exact .nilm
 .cases h
def Qs0{σ:St}{v:Value}{d:D}(h:cVal v=some d):DR σ v d:=by unfold cVal at h;split at h<;>first|(cases h;constructor)|cases h
def Ql{P:Program}{ty:TypeId}{x:Operand}{y:Arg}(h:cArg P ty x=some y){κ:K}{nt:NT}{fr:Fr}{H:Hp}{a:Act}{w:World}(hs:SR κ nt fr H a w):
 VR κ (a.eval x) (y.ev fr):=by
 unfold cArg at h;split at h
 .cases h;exact hs.vr _
 .simp only[Q13]at h;obtain⟨z,-,rfl⟩:=h;exact .d (.nilsl _)
 .simp only[Q13]at h;obtain⟨z,hz,rfl⟩:=h;exact .d (Qs0 hz)
 .cases h;exact .d (.fn _)
 .cases h
def Qs4{P:Program}{κ:K}{nt:NT}{fr:Fr}{H:Hp}{a:Act}{w:World}(hs:SR κ nt fr H a w):∀(l:List (Operand×TypeId))(ys:List Arg),l.mapM (λx=>cArg P x.2 x.1)=some ys->
 l.length=ys.length/\∀(i:Nat)(v:Value)(b:A),(l.map λx=>a.eval x.1)[i]?=some v->(ys.map (Arg.ev fr))[i]?=some b->VR κ v b:=by
 intro l;induction l with
 |nil=>intro ys h;simp at h;subst h;simp
 |cons x r ih=>
  intro ys h;simp only[Q3k,Q2h,Q2a,Q2q,somI]at h;obtain⟨y,hy,ys',hys',rfl⟩:=h;obtain⟨h1,h2⟩:=ih ys' hys';refine⟨by simp[h1],λi v b hv hb=>?_⟩;cases i with
  |zero=>simp at hv hb;subst hv;subst hb;exact Ql hy hs
  |succ i=>simp at hv hb;exact h2 i v b (by simpa using hv) (by simpa using hb)
def A.cells_of{κ:K}{v:Value}{a:A}(h:VR κ v a)(hf:a.cells.all A.flat=true):
 v.cells.toList.length=a.cells.length/\(∀(i:Nat)(u:Value)(b:A),v.cells.toList[i]?=some u->a.cells[i]?=some b->VR κ u b):=by
 cases h with
 |agg vs ars hl h=>exact⟨by simpa[Value.cells,A.cells]using hl,λi u b hu hb=>h i u b (by simpa[Value.cells]using hu) (by simpa[A.cells]using hb)⟩
 |tup vs ars hl h=>simp[A.cells,A.flat]at hf
 |undef v=>simp[A.cells,A.flat]at hf
 |cun v hv=>
  have:v.cells=#[v]:=by cases v<;>simp_all[Value.cells,Value.oneCell']
  refine⟨by simp[this,A.cells],λi u b hu hb=>?_⟩;cases i with
  |zero=>simp[this,A.cells]at hu hb;subst hu;subst hb;exact .cun _ hv
  |succ i=>simp[this]at hu
 |d h=>
  rename_i x;have hc:v.cells=#[v]:=by cases h<;>rfl
  refine⟨by simp[hc,A.cells],λi u b hu hb=>?_⟩;cases i with
  |zero=>simp[hc,A.cells]at hu hb;subst hu;subst hb;exact .d h
  |succ i=>simp[hc]at hu
 |osl h ht=>
  have hc:v.cells=#[v]:=by cases h<;>rfl
  refine⟨by simp[hc,A.cells],λi u b hu hb=>?_⟩;cases i with
  |zero=>simp[hc,A.cells]at hu hb;subst hu;subst hb;exact .osl h ht
  |succ i=>simp[hc]at hu
 |msl i off len b sz o cap hb h1 h2 h3=>
  refine⟨rfl,λj u c hu hc=>?_⟩;cases j with
  |zero=>simp[Value.cells,A.cells]at hu hc;subst hu;subst hc;exact .msl i off len b sz o cap hb h1 h2 h3
  |succ j=>simp[Value.cells]at hu
 |vsl i k len ad cap h0 hv=>
  refine⟨rfl,λj u c hu hc=>?_⟩;cases j with
  |zero=>simp[Value.cells,A.cells]at hu hc;subst hu;subst hc;exact .vsl i k len ad cap h0 hv
  |succ j=>simp[Value.cells]at hu
 |vptr i k idx off b o hv=>
  refine⟨rfl,λj u c hu hc=>?_⟩;cases j with
  |zero=>simp[Value.cells,A.cells]at hu hc;subst hu;subst hc;exact .vptr i k idx off b o hv
  |succ j=>simp[Value.cells]at hu
 |ptr i off b hb=>
  refine⟨rfl,λj u c hu hc=>?_⟩;cases j with
  |zero=>simp[Value.cells,A.cells]at hu hc;subst hu;subst hc;exact .ptr i off b hb
  |succ j=>simp[Value.cells]at hu
 |aptr i idx off b sz hb=>
  refine⟨rfl,λj u c hu hc=>?_⟩;cases j with
  |zero=>simp[Value.cells,A.cells]at hu hc;subst hu;subst hc;exact .aptr i idx off b sz hb
  |succ j=>simp[Value.cells]at hu
 |eptr cells b o f h1 h2=>
  refine⟨rfl,λj u c hu hc=>?_⟩;cases j with
  |zero=>simp[Value.cells,A.cells]at hu hc;subst hu;subst hc;exact .eptr cells b o f h1 h2
  |succ j=>simp[Value.cells]at hu
 |fn f vs1 vs2 as1 as2 hl1 hl2 h1 h2=>
  refine⟨rfl,λj u c hu hc=>?_⟩;cases j with
  |zero=>simp[Value.cells,A.cells]at hu hc;subst hu;subst hc;exact .fn f vs1 vs2 as1 as2 hl1 hl2 h1 h2
  |succ j=>simp[Value.cells]at hu
 |map i b hb=>
  refine⟨rfl,λj u c hu hc=>?_⟩;cases j with
  |zero=>simp[Value.cells,A.cells]at hu hc;subst hu;subst hc;exact .map i b hb
  |succ j=>simp[Value.cells]at hu
def VR.oneCell{κ:K}{v:Value}{a:A}(h:VR κ v a)(hf:a.flat=true):v.oneCell'=true:=by
 cases h with
 |d h=>cases h<;>rfl
 |agg vs ars hl h=>simp[A.flat]at hf
 |tup vs ars hl h=>simp[A.flat]at hf
 |osl h ht=>cases h<;>rfl
 |undef v=>simp[A.flat]at hf
 |cun v hv=>exact hv
 |_=>rfl
def Qa6{α:Type}{l r:List α}{off n:Nat}(h:cutL l off n=some r):off+n<=l.length/\r=(l.drop off).take n/\r.length=n:=by
 unfold cutL at h;split at h
 .cases h;exact⟨by assumption,rfl,by simp;omega⟩
 .cases h
def Qfy{α:Type}{l r:List α}{off n:Nat}(h:cutL l off n=some r)(j:Nat)(hj:j<n):r[j]?=l[off+j]?:=by obtain⟨h1,rfl,h3⟩:=Qa6 h;rw[Q4c,if_pos hj,Q4d]
def Qhx{κ:K}{H:Hp}{w:World}(hr:HR κ H w){n:Nat}{p:A}{cs:List A}(h:ldA H n p=some cs){pv:Value}(hp:VR κ pv p):
 ∃(ad:Addr)(vs:List Value),pv=.pointer (some ad)/\vs.length=n/\cs.length=n/\(∀(j:Nat)(v:Value),vs[j]?=some v->w.cell? (ad.add j)=some v)/\
 ∀(j:Nat)(v:Value)(a:A),vs[j]?=some v->cs[j]?=some a->VR κ v a:=by
 have build:∀(b o:Nat)(cs:List A),cs.length=n->(∀(j:Nat)(a:A),cs[j]?=some a->∃v,w.cell? ⟨b,o+j,none⟩=some v/\VR κ v a)->
  ∃(vs:List Value),vs.length=n/\(∀(j:Nat)(v:Value),vs[j]?=some v->w.cell? ((⟨b,o,none⟩:Addr).add j)=some v)/\∀(j:Nat)(v:Value)(a:A),vs[j]?=some v->cs[j]?=some a->VR κ v a:=by
  intro b o cs hl hc;refine⟨(List.range n).map λj=>(w.cell? ⟨b,o+j,none⟩).getD undef,by simp,λj v hv=>?_,λj v a hv ha=>?_⟩
  .simp only[Q2d,Q13]at hv;obtain⟨j',hj',rfl⟩:=hv;obtain⟨hlt,rfl⟩:j<n/\j=j':=by have:=(Q11.1 hj');obtain⟨h1,h2⟩:=this;simp at h1 h2;exact⟨h1,h2⟩
   obtain⟨v,h1,-⟩:=hc j (cs[j]'(by omega)) (Q12 _);rw[Zt,h1];rfl
  .simp only[Q2d,Q13]at hv;obtain⟨j',hj',rfl⟩:=hv;obtain⟨hlt,rfl⟩:j<n/\j=j':=by have:=(Q11.1 hj');obtain⟨h1,h2⟩:=this;simp at h1 h2;exact⟨h1,h2⟩
   obtain⟨v,h1,h2⟩:=hc j a ha;rw[h1];exact h2
 unfold ldA at h;split at h
 .rename_i i off;split at h
  .rename_i cells hi;cases hp with
   |ptr _ _ b hb=>
   obtain⟨b',hb',-,hc⟩:=hr.ob i _ hi;have:b'=b:=by rw[hb]at hb';cases hb';rfl
   subst this;have hl:=(Qa6 h).2.2;obtain⟨vs,h1,h2,h3⟩:=build b' off cs hl λj a ha=>by
    have hj:j<n:=by rw[<-hl];exact(Q11.1 ha).1
    rw[Qfy h j hj]at ha;obtain⟨v,h4,-,h5⟩:=hc _ a ha;exact⟨v,h4,h5⟩
   exact⟨_,vs,rfl,h1,hl,h2,h3⟩
  .cases h
 .rename_i i k off;split at h
  .rename_i sz rows hi;split at h
   .rename_i r hr';cases hp with
    |aptr _ _ _ b sz' hb=>
    obtain⟨b',s',hb',-,hc⟩:=hr.ob i _ hi;obtain⟨rfl,rfl⟩:b'=b/\sz=sz':=by rcases hb with⟨_,hb⟩|hb<;>rw[hb]at hb'<;>cases hb';exact⟨rfl,rfl⟩
    have hl:=(Qa6 h).2.2;obtain⟨vs,h1,h2,h3⟩:=build b' (k*sz+off) cs hl λj a ha=>by
     have hj:j<n:=by rw[<-hl];exact(Q11.1 ha).1
     rw[Qfy h j hj]at ha;obtain⟨v,h4,-,h5⟩:=(hc k r hr').2 _ a ha;exact⟨v,by rw[Q3r];exact h4,h5⟩
    exact⟨_,vs,rfl,h1,hl,h2,h3⟩
   .cases h
  .cases h
 .rename_i cells;simp only[Q13]at h;obtain⟨ds,hds,rfl⟩:=h;cases hp with
  |eptr _ b o f hc hd=>
  have hl:=(Qa6 hds).2.2;obtain⟨vs,h1,h2,h3⟩:=build b o (ds.map .d) (by simpa using hl) λj a ha=>by
   simp only[Q2d,Q13]at ha;obtain⟨x,hx,rfl⟩:=ha;have hj:j<n:=by rw[<-hl];exact(Q11.1 hx).1
   rw[Qfy hds j hj,Q3i]at hx;exact⟨f j,hr.st _ _ _ (hc j x hx),.d (hd j x hx)⟩
  exact⟨_,vs,rfl,h1,by simpa using hl,h2,h3⟩
 .cases h
def ldV_sound{κ:K}{H:Hp}{w:World}(hr:HR κ H w){n:Nat}{p:A}{cs:List A}(h:ldV H n p=some cs){pv:Value}(hp:VR κ pv p):
 ∃(ad:Addr)(vs:List Value),pv=.pointer (some ad)/\vs.length=n/\cs.length=n/\(∀(j:Nat)(v:Value),vs[j]?=some v->w.cell? (ad.add j)=some v)/\
 ∀(j:Nat)(v:Value)(a:A),vs[j]?=some v->cs[j]?=some a->VR κ v a:=by
 have build:∀(b o:Nat)(cs:List A),cs.length=n->(∀(j:Nat)(a:A),cs[j]?=some a->∃v,w.cell? ⟨b,o+j,none⟩=some v/\VR κ v a)->
  ∃(vs:List Value),vs.length=n/\(∀(j:Nat)(v:Value),vs[j]?=some v->w.cell? ((⟨b,o,none⟩:Addr).add j)=some v)/\∀(j:Nat)(v:Value)(a:A),vs[j]?=some v->cs[j]?=some a->VR κ v a:=by
  intro b o cs hl hc;refine⟨(List.range n).map λj=>(w.cell? ⟨b,o+j,none⟩).getD undef,by simp,λj v hv=>?_,λj v a hv ha=>?_⟩
  .simp only[Q2d,Q13]at hv;obtain⟨j',hj',rfl⟩:=hv;obtain⟨hlt,rfl⟩:j<n/\j=j':=by have:=(Q11.1 hj');obtain⟨h1,h2⟩:=this;simp at h1 h2;exact⟨h1,h2⟩
   obtain⟨v,h1,-⟩:=hc j (cs[j]'(by omega)) (Q12 _);rw[Zt,h1];rfl
  .simp only[Q2d,Q13]at hv;obtain⟨j',hj',rfl⟩:=hv;obtain⟨hlt,rfl⟩:j<n/\j=j':=by have:=(Q11.1 hj');obtain⟨h1,h2⟩:=this;simp at h1 h2;exact⟨h1,h2⟩
   obtain⟨v,h1,h2⟩:=hc j a ha;rw[h1];exact h2
 unfold ldV at h;split at h
 .rename_i i k x off;split at h
  .rename_i sz ty k' rows hi;split at h
   .rename_i hk;subst hk;split at h
    .rename_i r hrow;simp only[Q13]at h;obtain⟨ds,hds,rfl⟩:=h;cases hp with
     |vptr _ _ _ _ b o hf=>
     rcases hr.ob i _ hi with⟨h0,-⟩|⟨b',c,cur,hb',-,hheap,-,-,hc⟩
     .rw[h0]at hf;exact hf.elim
     rw[hb']at hf;have he:=hf.2 rfl;cases he;have hl:=(Qa6 hds).2.2;obtain⟨vs,h1,h2,h3⟩:=build b (x*sz+off) (ds.map .d) (by simpa using hl) λj a ha=>by
      simp only[Q2d,Q13]at ha;obtain⟨y,hy,rfl⟩:=ha;have hj:j<n:=by rw[<-hl];exact(Q11.1 hy).1
      rw[Qfy hds j hj]at hy;obtain⟨v,h4,h5⟩:=(hc x r hrow).2 _ y hy;exact⟨v,by rw[Q3r];simp[World.cell?,hheap,h4],.d h5⟩
     exact⟨_,vs,rfl,h1,by simpa using hl,h2,h3⟩
    .cases h
   .cases h
  .cases h
 .cases h
def Qcr{α:Type}:∀(r:List α)(l:List α)(i:Nat),(setL l i r).length=l.length
 |[],_,_=>rfl
 |x::r,l,i=>by rw[setL,Qcr r];simp
def Qan{α:Type}(l:List α)(i:Nat)(a b:α):(l.set i a).set i b=l.set i b:=by simp
def Qps{κ:K}{P:Program}{i b:Nat}{ty:TypeId}(hb:κ.β i=.blk b)(off:Nat):∀(cs:List A)(vs:List Value)(k:Nat)(H:Hp)(w:World)(old:List A),HR κ H w->H[i]?=some (.box ty old)->
 off+k+cs.length<=old.length->vs.length=cs.length->cs.all A.flat=true->(∀(j:Nat)(v:Value)(a:A),vs[j]?=some v->cs[j]?=some a->VR κ v a)->
 ∃w',(storeCells ⟨b,off,none⟩ vs k).run P w=.ok () w'/\HR κ (H.set i (.box ty (setL old (off+k) cs))) w':=by
 intro cs;induction cs with
 |nil=>
  intro vs k H w old hr hi _ hl _ _;have:vs=[]:=Q2b hl;subst this;refine⟨w,rfl,?_⟩;have:H.set i (.box ty (setL old (off+k) []))=H:=by
   simp only[setL];refine Q3e λj=>?_;by_cases hj:i=j
   .subst hj;rw[Q17 (Q11.1 hi).1,hi]
   .rw[Q15 hj]
  rw[this];exact hr
 |cons c cs ih=>
  intro vs k H w old hr hi hle hl hf hv;cases vs with
  |nil=>simp at hl
  |cons v vs=>
   simp only[Q6m,Q2t]at hf;have hvc:VR κ v c:=hv 0 v c rfl rfl;have hlt:off+k<old.length:=by simp at hle;omega
   obtain⟨b',hb',-,hc⟩:=hr.ob i _ hi;have hbb:b'=b:=by rw[hb]at hb';cases hb';rfl
   subst hbb;obtain⟨u,hu1,hu2,-⟩:=hc (off+k) old[off+k] (Q12 hlt);have hr1:=hr.setBox hi hb hlt hf.1 hvc;have hi1:(H.set i (.box ty (old.set (off+k) c)))[i]?=some (.box ty (old.set (off+k) c)):=Q17 (Q11.1 hi).1;obtain⟨w',h1,h2⟩:=ih vs (k+1) _ _ _ hr1 hi1 (by simp at hle⊢;omega) (by simpa using hl) hf.2 (λj v a hv' ha'=>hv (j+1) v a (by simpa using hv') (by simpa using ha'));refine⟨w',?_,?_⟩
   .simp only[storeCells,Q27,Zt];rw[run_store P w _ v _ (hvc.oneCell hf.1)];simp only[hu1,hu2,Q2c,if_false,Q2s];exact h1
   .rw[Qan]at h2;exact h2
def Qpt{κ:K}{P:Program}{i b sz q:Nat}{s:Option (TypeId×Nat)}(hb:κ.β i=.arr b sz s)(off:Nat):∀(cs:List A)(vs:List Value)(k:Nat)(H:Hp)(w:World)(rows:List (List A))(r:List A),HR κ H w->H[i]?=some (.arr sz rows)->rows[q]?=some r->
 off+k+cs.length<=r.length->vs.length=cs.length->cs.all A.flat=true->(∀(j:Nat)(v:Value)(a:A),vs[j]?=some v->cs[j]?=some a->VR κ v a)->
 ∃w',(storeCells ⟨b,q*sz+off,none⟩ vs k).run P w=.ok () w'/\HR κ (H.set i (.arr sz (rows.set q (setL r (off+k) cs)))) w':=by
 intro cs;induction cs with
 |nil=>
  intro vs k H w rows r hr hi hq _ hl _ _;have:vs=[]:=Q2b hl;subst this;refine⟨w,rfl,?_⟩;have:H.set i (.arr sz (rows.set q (setL r (off+k) [])))=H:=by
   simp only[setL];have h0:rows.set q r=rows:=by
    refine Q3e λj=>?_;by_cases hj:q=j
    .subst hj;rw[Q17 (Q11.1 hq).1,hq]
    .rw[Q15 hj]
   rw[h0];refine Q3e λj=>?_;by_cases hj:i=j
   .subst hj;rw[Q17 (Q11.1 hi).1,hi]
   .rw[Q15 hj]
  rw[this];exact hr
 |cons c cs ih=>
  intro vs k H w rows r hr hi hq hle hl hf hv;cases vs with
  |nil=>simp at hl
  |cons v vs=>
   simp only[Q6m,Q2t]at hf;have hvc:VR κ v c:=hv 0 v c rfl rfl;have hlt:off+k<r.length:=by simp at hle;omega
   obtain⟨b',s',hb',-,hc⟩:=hr.ob i _ hi;have hbb:b'=b:=by rw[hb]at hb';cases hb';rfl
   subst hbb;obtain⟨u,hu1,hu2,-⟩:=(hc q r hq).2 (off+k) r[off+k] (Q12 hlt);have hr1:=hr.setArr hi hb hq hlt hf.1 hvc;have hi1:(H.set i (.arr sz (rows.set q (r.set (off+k) c))))[i]?=some (.arr sz (rows.set q (r.set (off+k) c))):=Q17 (Q11.1 hi).1;have hq1:(rows.set q (r.set (off+k) c))[q]?=some (r.set (off+k) c):=Q17 (Q11.1 hq).1;obtain⟨w',h1,h2⟩:=ih vs (k+1) _ _ _ _ hr1 hi1 hq1 (by simp at hle⊢;omega) (by simpa using hl) hf.2 (λj v a hv' ha'=>hv (j+1) v a (by simpa using hv') (by simpa using ha'));refine⟨w',?_,?_⟩
   .simp only[storeCells,Q27,Zt];rw[run_store P w _ v _ (hvc.oneCell hf.1)];rw[Q3r (q*sz) off k];simp only[hu1,hu2,Q2c,if_false,Q2s];exact h1
   .rw[Qan,Qan]at h2;exact h2
def Qng{κ:K}{v:Value}{a:A}{d:D}(h:VR κ v a)(hd:a.toD=some d):DR κ.σ v d:=by
 unfold A.toD at hd;split at hd
 .cases hd;exact h.d_inv
 .cases hd;cases h;assumption
 .cases hd
  cases h with
  |fn f vs1 vs2 _ _ hl1 hl2 _ _=>have e1:vs1=[]:=Q2b (by simpa using hl1);have e2:vs2=[]:=Q2b (by simpa using hl2);subst e1;subst e2;exact .fn _
 .cases hd
def Qpr{κ:K}{P:Program}{i b c sz e kk q n:Nat}(hb:κ.β i=.vec b c n kk sz)(off:Nat):∀(cs:List A)(ds:List D)(vs:List Value)(k:Nat)(H:Hp)(w:World)(rows:List (List D))(r:List D),HR κ H w->H[i]?=some (.vec sz e kk rows)->rows.length=n->rows[q]?=some r->
 cs.mapM A.toD=some ds->off+k+cs.length<=r.length->vs.length=cs.length->cs.all A.flat=true->(∀(j:Nat)(v:Value)(a:A),vs[j]?=some v->cs[j]?=some a->VR κ v a)->
 ∃w',(storeCells ⟨b,q*sz+off,none⟩ vs k).run P w=.ok () w'/\HR κ (H.set i (.vec sz e kk (rows.set q (setL r (off+k) ds)))) w':=by
 intro cs;induction cs with
 |nil=>
  intro ds vs k H w rows r hr hi hn hq hds _ hl _ _;have:vs=[]:=Q2b hl;subst this;have:ds=[]:=by simpa using hds.symm
  subst this;refine⟨w,rfl,?_⟩;have:H.set i (.vec sz e kk (rows.set q (setL r (off+k) [])))=H:=by
   simp only[setL];have h0:rows.set q r=rows:=by
    refine Q3e λj=>?_;by_cases hj:q=j
    .subst hj;rw[Q17 (Q11.1 hq).1,hq]
    .rw[Q15 hj]
   rw[h0];refine Q3e λj=>?_;by_cases hj:i=j
   .subst hj;rw[Q17 (Q11.1 hi).1,hi]
   .rw[Q15 hj]
  rw[this];exact hr
 |cons c' cs ih=>
  intro ds vs k H w rows r hr hi hn hq hds hle hl hf hv;cases vs with
  |nil=>simp at hl
  |cons v vs=>
   simp only[Q3k,Q2h,Q2a,Q2q,somI]at hds;obtain⟨d,hd,ds',hds',rfl⟩:=hds;simp only[Q6m,Q2t]at hf;have hvc:VR κ v c':=hv 0 v c' rfl rfl;have hlt:off+k<r.length:=by simp at hle;omega
   rcases hr.ob i _ hi with⟨h0,-⟩|⟨b',c2,cur,hβ',-,hheap,-,-,hc⟩
   .rw[hb]at h0;cases h0
   have hbb:b'=b/\c2=c:=by rw[hb]at hβ';cases hβ';exact⟨rfl,rfl⟩
   obtain⟨rfl,rfl⟩:=hbb;obtain⟨u,hu1,-⟩:=(hc q r hq).2 (off+k) r[off+k] (Q12 hlt);have hu1':w.cell? ⟨b',q*sz+(off+k),none⟩=some u:=by simp[World.cell?,hheap,hu1]
   have hu2:w.frozen? ⟨b',q*sz+(off+k),none⟩=false:=by simp[World.frozen?,hheap]
   have hr1:=hr.setVec hi (by rw[hn];exact hb) hq hlt (Qng hvc hd);have hi1:(H.set i (.vec sz e kk (rows.set q (r.set (off+k) d))))[i]?=some (.vec sz e kk (rows.set q (r.set (off+k) d))):=Q17 (Q11.1 hi).1;have hq1:(rows.set q (r.set (off+k) d))[q]?=some (r.set (off+k) d):=Q17 (Q11.1 hq).1;obtain⟨w',h1,h2⟩:=ih ds' vs (k+1) _ _ _ _ hr1 hi1 (by rw[Q21];exact hn) hq1 hds' (by simp at hle⊢;omega) (by simpa using hl) hf.2 (λj v a hv' ha'=>hv (j+1) v a (by simpa using hv') (by simpa using ha'));refine⟨w',?_,?_⟩
   .simp only[storeCells,Q27,Zt];rw[run_store P w _ v _ (hvc.oneCell hf.1)];rw[Q3r (q*sz) off k];simp only[hu1',hu2,Q2c,if_false,Q2s];exact h1
   .rw[Qan,Qan]at h2;exact h2
def Qwc{κ:K}{P:Program}{H H':Hp}{w:World}(hr:HR κ H w){cs:List A}{p:A}(h:stA H cs p=some H'){pv:Value}(hp:VR κ pv p)(hf:cs.all A.flat=true)(vs:List Value)(hl:vs.length=cs.length)(hv:∀(j:Nat) (v:Value) (a:A),vs[j]?=some v->cs[j]?=some a->VR κ v a):
 ∃(ad:Addr)(w':World),pv=.pointer (some ad)/\(storeCells ad vs).run P w=.ok () w'/\HR κ H' w':=by
 unfold stA at h;split at h
 .rename_i i off;split at h
  .rename_i old hi;split at h
   .rename_i hle;cases h
    cases hp with
    |ptr _ _ b hb=>
    obtain⟨w',h1,h2⟩:=Qps (P:=P) hb off cs vs 0 H w old hr hi (by simpa using hle) hl hf hv;exact⟨_,w',rfl,h1,h2⟩
   .cases h
  .cases h
 .rename_i i k off;split at h
  .rename_i sz rows hi;split at h
   .rename_i r hq;split at h
    .rename_i hle;cases h
     cases hp with
     |aptr _ _ _ b sz' hb=>
     obtain⟨b',s',hb',-⟩:=hr.ob i _ hi;obtain⟨rfl,rfl⟩:b'=b/\sz=sz':=by rcases hb with⟨_,hb⟩|hb<;>rw[hb]at hb'<;>cases hb';exact⟨rfl,rfl⟩
     obtain⟨w',h1,h2⟩:=Qpt (P:=P) hb' off cs vs 0 H w rows r hr hi hq (by simpa using hle) hl hf hv;exact⟨_,w',rfl,h1,h2⟩
    .cases h
   .cases h
  .cases h
 .rename_i i k x off;split at h
  .rename_i sz e k' rows hi;split at h
   .rename_i hk;subst hk;split at h
    .rename_i r hq;split at h
     .rename_i ds hds;split at h
      .rename_i hle;cases h
       cases hp with
       |vptr _ _ _ _ b o hf'=>
       rcases hr.ob i _ hi with⟨h0,-⟩|⟨b',c,cur,hb',-,-,-,-,-⟩
       .rw[h0]at hf';exact hf'.elim
       rw[hb']at hf';have he:=hf'.2 rfl;cases he;have hdl:ds.length=cs.length:=by
        clear hle hv hf hl hi;revert ds;induction cs with
        |nil=>intro ds h;simp at h;subst h;rfl
        |cons a cs ih=>intro ds h;simp only[Q3k,Q2h,Q2a,Q2q,somI]at h;obtain⟨d,-,ds',h',rfl⟩:=h;simp[ih ds' h']
       obtain⟨w',h1,h2⟩:=Qpr (P:=P) hb' off cs ds vs 0 H w rows r hr hi rfl hq hds (by rw[hdl]at hle;simpa using hle) hl hf hv;exact⟨_,w',rfl,h1,h2⟩
      .cases h
     .cases h
    .cases h
   .cases h
  .cases h
 .cases h
end
section
open Go.RowKit (Below)
def Does(P:Program)(s:Sem Next)(w:World)(κ:K)(H':Hp)(x:A):Prop:=∃u w' κ',(s.run P w=.ok (.value u) w'\/(s.run P w=.ok .skip w'/\u=undef))/\κ.le κ'/\HR κ' H' w'/\VR κ' u x
def Does.same{P:Program}{s:Sem Next}{w:World}{κ:K}{H:Hp}{x:A}{u:Value}(h:s.run P w=.ok (.value u) w)(hr:HR κ H w)(hv:VR κ u x):Does P s w κ H x:=⟨u,w,κ,.inl h,K.le_refl κ,hr,hv⟩
section
variable{P:Program}{κ:K}{nt:NT}{fr:Fr}{H H':Hp}{a:Act}{w:World}{x:A}{tok:List Nat}
def Wg(s:Sem Value)(u:Value)(w':World)(h:s.run P w=.ok u w'):(do pure (Next.value (<-s)):Sem Next).run P w=.ok (.value u) w':=by simp[h]
def Qn3{dst:Option Nat}{ty:TypeId}{pos:String}{aft:Array Edge}{g:Option (Nat×Bool)}{y:Operand}{i:I}(hs:SR κ nt fr H a w)(hc:compI P tok {dst:=dst,op:=.move y,type:=ty,pos:=pos,after:=aft,guard:=g}=some i)(h:Qj fr H i=some (x,H')):
 Does P (pure (.value (a.eval y))) w κ H' x:=by
 simp only[compI]at hc;split at hc
 .simp only[Q13]at hc;obtain⟨z,-,rfl⟩:=hc;split at h
  .simp only[Qj,somI,prdI]at h;obtain⟨rfl,rfl⟩:=h;obtain⟨κ',h1,h2,h3⟩:=hs.hr.pushNilV z.2.size z.1;exact⟨_,w,κ',.inl rfl,h1,h2,h3⟩
  .simp only[Qj,somI,prdI]at h;obtain⟨rfl,rfl⟩:=h;obtain⟨κ',h1,h2,h3⟩:=hs.hr.pushNil z.2.size z.1;exact⟨_,w,κ',.inl rfl,h1,h2,h3⟩
 .simp only[Q13]at hc;obtain⟨z,hz,rfl⟩:=hc;simp only[Qj,somI,prdI]at h;obtain⟨rfl,rfl⟩:=h;exact .same rfl hs.hr (Ql hz hs)
def Qvl{c y z:Operand}{c' y' z':Arg}{t1 t2 t3:TypeId}(hs:SR κ nt fr H a w)(h1:cArg P t1 c=some c')(h2:cArg P t2 y=some y')(h3:cArg P t3 z=some z')(h:Qj fr H (.pick c' y' z')=some (x,H')):
 Does P (do pure (.value (if<-asBool (a.eval c)then a.eval y else a.eval z))) w κ H' x:=by
 simp only[Qj]at h;split at h
 .rename_i t ht;simp only[somI,prdI]at h;obtain⟨rfl,rfl⟩:=h;have hb:=Ql h1 hs;rw[ht]at hb;refine .same (u:=if t then a.eval y else a.eval z) ?_ hs.hr ?_
  .rw[hb.bool_inv];simp[asBool]
  .cases t
   .exact Ql h3 hs
   .exact Ql h2 hs
 .cases h
def Qsv{t:TypeId}{cs:List D}(hs:SR κ nt fr H a w)(hz:Y0 P t=some cs)(h:Qj fr H (.alloc t cs)=some (x,H')):
 Does P (do pure (.value (<-Instr.alloc t true (.tuple #[])))) w κ H' x:=by
 simp only[Qj,somI,prdI]at h;obtain⟨rfl,rfl⟩:=h;unfold Y0 at hz;split at hz
 .rename_i i z hi hzd;split at hz
  .rename_i v hv;split at hz
   .rename_i hok;cases hz
    simp only[Q2t,beq_iff_eq,Q2n]at hok;obtain⟨hl,hall⟩:=hok;obtain⟨κ',h1,h2,h3⟩:=hs.hr.pushBox v.cells.toList (cs.map .d) t (by simpa using hl) (by simp[A.flat]) (λj u b hu hb=>by simp only[Q2d,Q13]at hb;obtain⟨d,hd,rfl⟩:=hb;refine .d (Qi3 (hall (u,d) ?_));refine Q2p (i:=j) ?_;rw[Q5z];exact⟨hu,hd⟩);refine⟨_,_,κ',.inl ?_,h1,h2,h3⟩;refine Wg _ _ _ ?_;simp[Instr.alloc,zeroValue,typeInfo,hi,hv,newVar,newRow]
   .cases hz
  .cases hz
 .cases hz
def Qq8{t:TypeId}{cs:List D}{j sz:Nat}{e:TypeId}(hs:SR κ nt fr H a w)(hz:Y0 P t=some cs)(hj:Qou cs[j]? sz=true)(h:Qj fr H (.allocT t cs j sz e)=some (x,H')):
 Does P (do pure (.value (<-Instr.alloc t true (.tuple #[])))) w κ H' x:=by
 simp only[Qj,somI,prdI]at h;obtain⟨rfl,rfl⟩:=h;have hjc:cs[j]?=some (.sl true sz []):=by
  unfold Qou at hj;split at hj
  .rename_i s n e1;rw[e1];simp only[beq_iff_eq]at hj;subst hj;rfl
  .cases hj
 unfold Y0 at hz;split at hz
 .rename_i i z hi hzd;split at hz
  .rename_i v hv;split at hz
   .rename_i hok;cases hz
    simp only[Q2t,beq_iff_eq,Q2n]at hok;obtain⟨hl,hall⟩:=hok;obtain⟨κ1,p1,p2,p3⟩:=hs.hr.pushNil sz e;obtain⟨κ',h1,h2,h3⟩:=p2.pushBox v.cells.toList ((cs.map .d).set j (.osl true sz [] H.length)) t (by simpa using hl) (by
     refine Q2n.2 λy hy=>?_;rcases Q3z hy with h1|h1
     .obtain⟨d,-,rfl⟩:=Q3c.1 h1;rfl
     .subst h1;rfl) (λk u b hu hb=>by
     have hd:∀d,cs[k]?=some d->DR κ1.σ u d:=λd hd=>by refine Qi3 (hall (u,d) ?_);refine Q2p (i:=k) ?_;rw[Q5z];exact⟨hu,hd⟩
     by_cases hjk:j=k
     .subst hjk;have hlt:=(Q11.1 hjc).1;rw[Q17 (by simpa using hlt)]at hb;cases hb
      have:=hd _ hjc;rcases this.sl_inv with⟨rfl,-⟩|⟨_,_,_,h0,-⟩|⟨_,_,_,_,_,h0,-⟩
      .exact p3
      .cases h0
      .exact absurd rfl (h0 rfl)
     .rw[Q15 hjk]at hb;simp only[Q2d,Q13]at hb;obtain⟨d,hd',rfl⟩:=hb;exact .d (hd d hd'))
    have e1:(H++[Ob.tok 0 sz e]).length=H.length+1:=by simp
    rw[e1]at h3;rw[Q2g]at h2;refine⟨_,_,κ',.inl ?_,p1.trans h1,h2,h3⟩;refine Wg _ _ _ ?_;simp[Instr.alloc,zeroValue,typeInfo,hi,hv,newVar,newRow]
   .cases hz
  .cases hz
 .cases hz
def Qxu{t:TypeId}{n:Nat}{y:Operand}{y':Arg}(hs:SR κ nt fr H a w)(hy:cArg P t y=some y')(h:Qj fr H (.box t n y')=some (x,H')):
 Does P (do pure (.value (<-Instr.box t (a.eval y)))) w κ H' x:=by
 simp only[Qj]at h;split at h
 .rename_i hc;simp only[somI,prdI]at h;obtain⟨rfl,rfl⟩:=h;have hv:=Ql hy hs;obtain⟨h1,h2⟩:=A.cells_of hv hc.2;obtain⟨κ',k1,k2,k3⟩:=hs.hr.pushBox (a.eval y).cells.toList (y'.ev fr).cells t h1 hc.2 h2;refine⟨_,_,κ',.inl ?_,k1,k2,k3⟩;refine Wg _ _ _ ?_;simp[Instr.box,newVar,newRow]
 .cases h
def Qb3{t:TypeId}{d:TypeDesc}(h:P.underlying t=some d)(w:World):(isAgg t).run P w=.ok (Z8 d) w:=by simp only[isAgg,Q27,run_underlying h,Q2s];cases d<;>rfl
def Qn4{t:TypeId}{d:TypeDesc}{i:TypeInfo}{p:Operand}{p':Arg}(hs:SR κ nt fr H a w)(hd:P.underlying t=some d)(hi:P.info? t=some i)(hp:cArg P 0 p=some p')(h:Qj fr H (if Z8 d then .load i.size true p' else .load 1 false p')=some (x,H')):
 Does P (do pure (.value (<-Instr.loadAt t (a.eval p)))) w κ H' x:=by
 have hv:=Ql hp hs;cases hagg:Z8 d with
 |true=>rw[hagg]at h;simp only[if_true,Qj,Q13]at h;obtain⟨cs,hcs,h⟩:=h;simp only[prdI]at h;obtain⟨rfl,rfl⟩:=h;obtain⟨ad,vs,h1,h2,h3,h4,h5⟩:=Qhx hs.hr hcs hv;refine .same (u:=.agg vs.toArray) ?_ hs.hr (.agg vs cs (by omega) h5);refine Wg _ _ _ ?_;rw[h1];have hld:=run_loadCells_list (P:=P) w ad vs h4;rw[h2]at hld;simp[Instr.loadAt,Instr.sureAddr,loadVar,Qb3 hd,hagg,sizeOf,typeInfo,hi,hld]
 |false=>
  rw[hagg]at h;simp only[Q2c,if_false,Qj,Q13]at h;obtain⟨cs,hcs,h⟩:=h;simp only[prdI]at h;obtain⟨rfl,rfl⟩:=h;obtain⟨ad,vs,h1,h2,h3,h4,h5⟩:=Qhx hs.hr hcs hv;match vs,h2,cs,h3 with
  |[v],_,[c],_=>
   refine .same (u:=v) ?_ hs.hr (h5 0 v c rfl rfl);refine Wg _ _ _ ?_;rw[h1];have h40:=h4 0 v rfl;have hadd:ad.add 0=ad:=by simp[Addr.add]
   rw[hadd]at h40;simp[Instr.loadAt,Instr.sureAddr,loadVar,Qb3 hd,hagg,h40]
def Qsp{t:TypeId}{i:TypeInfo}{p v:Operand}{p' v':Arg}(hs:SR κ nt fr H a w)(hi:P.info? t=some i)(hp:cArg P 0 p=some p')(hv:cArg P t v=some v')(h:Qj fr H (.store i.size p' v')=some (x,H')):
 Does P (do Instr.storeAt t (a.eval p) (a.eval v);pure .skip) w κ H' x:=by
 simp only[Qj]at h;split at h
 .rename_i hcs;simp only[Q13]at h;obtain⟨H1,hst,h⟩:=h;simp only[prdI]at h;obtain⟨rfl,rfl⟩:=h;have h1:=Ql hp hs;have h2:=Ql hv hs;obtain⟨hl,hcv⟩:=A.cells_of h2 hcs.2;obtain⟨ad,w',h3,h4,h5⟩:=Qwc (P:=P) hs.hr hst h1 hcs.2 _ hl hcv;refine⟨undef,w',κ,.inr ⟨?_,rfl⟩,K.le_refl κ,h5,.tup [] [] rfl (by simp)⟩;rw[h3];have hsz:(a.eval v).cells.size=i.size:=by rw[<-hcs.1,<-hl];simp
  simp[Instr.storeAt,Instr.sureAddr,storeVar,sizeOf,typeInfo,hi,hsz,h4]
 .cases h
def Qnd{y:Operand}{y':Arg}(hs:SR κ nt fr H a w){o:Oper}(ho:o.op=.nilCheck y)(hy:cArg P 0 y=some y')(h:Qj fr H (.nilCheck y')=some (x,H')):
 Does P (execOp a.eval o) w κ H' x:=by
 simp only[Qj]at h;split at h
 .rename_i hn;simp only[somI,prdI]at h;obtain⟨rfl,rfl⟩:=h;have hv:=Ql hy hs;generalize y'.ev fr=x' at hn hv⊢;refine .same (u:=a.eval y) ?_ hs.hr hv;have key:∀z,z=a.eval y->(execOp a.eval o).run P w=.ok (.value z) w:=by
   intro z hz;simp only[execOp,ho];rw[<-hz];rw[<-hz]at hv;cases hv with
   |d hd=>cases hd<;>first|(simp[Qde]at hn;done)|rfl
   |fn f _ _ _ _ _ _ _ _=>cases f<;>first|(simp[Qde]at hn;done)|rfl
   |ptr=>rfl
   |aptr=>rfl
   |eptr=>rfl
   |vptr=>rfl
   |_=>simp[Qde]at hn
  exact key _ rfl
 .cases h
def Y9(s:ByteArray):s.toList=s.data.toList:=ByteArray.toList_eq s
def Qc9(s:ByteArray):s.size=s.data.toList.length:=by rw[Q5v];rfl
def Qrz(s t:ByteArray):(s++t).data.toList=s.data.toList++t.data.toList:=by simp[ByteArray.data_append]
def Qqo{op:BinOp}{k:IntKind}{m n:Int}{d:D}(h:Qtv op k m n=some d)(t:TypeId)(w:World):
 ∃u,(binOp op t (.int k m) (.int k n)).run P w=.ok u w/\DR κ.σ u d:=by
 unfold Qtv at h;split at h
 .cases h;exact⟨_,by simp[binOp,Op.intArith],.int _ _⟩
 .cases h;exact⟨_,by simp[binOp,Op.intArith],.int _ _⟩
 .cases h;exact⟨_,by simp[binOp,Op.intArith],.int _ _⟩
 .split at h
  .cases h
  .rename_i hb;cases h;exact⟨_,by simp[binOp,Op.intDiv,hb],.int _ _⟩
 .split at h
  .cases h
  .rename_i hb;cases h;exact⟨_,by simp[binOp,Op.intDiv,hb],.int _ _⟩
 .cases h;exact⟨_,by simp[binOp,Op.intBits],.int _ _⟩
 .cases h;exact⟨_,by simp[binOp,Op.intBits],.int _ _⟩
 .cases h;exact⟨_,by simp[binOp,Op.intBits],.int _ _⟩
 .cases h;exact⟨_,by simp[binOp,Op.intBits],.int _ _⟩
 .cases h
  refine⟨.bool (m==n),by simp[binOp,Op.intCmp],?_⟩;have:(m==n)=decide (m=n):=by rw[Q6i];simp
  rw[this];exact .bool _
 .cases h
  refine⟨.bool (m != n),by simp[binOp,Op.intCmp],?_⟩;have:(m != n)=decide (m≠n):=by rw[Q6i];simp
  rw[this];exact .bool _
 .cases h;exact⟨.bool (decide (m<n)),by simp[binOp,Op.intCmp],.bool _⟩
 .cases h;exact⟨.bool (decide (m<=n)),by simp[binOp,Op.intCmp],.bool _⟩
 .cases h;exact⟨.bool (decide (m>n)),by simp[binOp,Op.intCmp],.bool _⟩
 .cases h;exact⟨.bool (decide (m>=n)),by simp[binOp,Op.intCmp],.bool _⟩
 .cases h
def Qlp{op:BinOp}{k yk:IntKind}{m n:Int}{d:D}(h:shOp op k m n=some d)(t:TypeId)(w:World):
 ∃u,(binOp op t (.int k m) (.int yk n)).run P w=.ok u w/\DR κ.σ u d:=by
 unfold shOp at h;split at h
 .cases h
 .rename_i hb;split at h
  .cases h;exact⟨_,by simp[binOp,Op.shift,hb],.int _ _⟩
  .cases h;exact⟨_,by simp[binOp,Op.shift,hb],.int _ _⟩
  .cases h
def Qdx(s t:ByteArray):(s.toList==t.toList)=decide (s.data.toList=t.data.toList):=by rw[Y9,Y9,Q6i];simp
def Qpp{op:BinOp}{s t:ByteArray}{d:D}(h:Qbg op s.data.toList t.data.toList=some d)(ty:TypeId)(w:World):
 ∃u,(binOp op ty (.string s) (.string t)).run P w=.ok u w/\DR κ.σ u d:=by
 have hb:∀op',op'=op->op≠.shl->op≠.shr->binOp op ty (.string s) (.string t)=Op.stringOp op s t:=by intro op' _ _ _;cases op<;>rfl
 unfold Qbg at h;split at h
 .split at h
  .rename_i hl;cases h
   refine⟨.string (s++t),?_,?_⟩
   .rw[hb _ rfl (by simp) (by simp)];rw[<-Qc9,<-Qc9]at hl;have:¬(((s.size+t.size:Nat):Int)>IntKind.i64.max):=by
     have:IntKind.i64.max=9223372036854775807:=by decide
     omega
    simp only[Op.stringOp,this,if_false];rfl
   .rw[<-Qrz];exact .str _
  .cases h
 .cases h;exact⟨_,rfl,by rw[<-Qdx];exact .bool _⟩
 .cases h
  refine⟨_,rfl,?_⟩;have:(!(s.toList==t.toList))=decide (s.data.toList≠t.data.toList):=by rw[Qdx];simp
  rw[<-this];exact .bool _
 .cases h;exact⟨_,rfl,by rw[<-Y9,<-Y9];exact .bool _⟩
 .cases h;exact⟨_,rfl,by rw[<-Qdx,<-Y9,<-Y9];exact .bool _⟩
 .cases h;exact⟨_,rfl,by rw[<-Qdx,<-Y9,<-Y9];exact .bool _⟩
 .cases h;exact⟨_,rfl,by rw[<-Y9,<-Y9];exact .bool _⟩
 .cases h
def Qq5{op:BinOp}{t:TypeId}{y z:Operand}{y' z':Arg}(hs:SR κ nt fr H a w)(hy:cArg P t y=some y')(hz:cArg P t z=some z')(h:Qj fr H (.bin op y' z')=some (x,H')):
 Does P (do pure (.value (<-(do eqGuard op t y z (a.eval y) (a.eval z);binOp op t (a.eval y) (a.eval z))))) w κ H' x:=by
 simp only[Qj,Q13]at h;obtain⟨u,hu,h⟩:=h;simp only[prdI]at h;obtain⟨rfl,rfl⟩:=h;have h1:=Ql hy hs;have h2:=Ql hz hs;unfold binA at hu;split at hu
 .rename_i k m k' n e1 e2;rw[e1]at h1;rw[e2]at h2;rw[h1.int_inv,h2.int_inv];have fin:∀d,u=.d d->(∃v,(binOp op t (.int k m) (.int k' n)).run P w=.ok v w/\DR κ.σ v d)->
   Does P (do pure (.value (<-(do eqGuard op t y z (.int k m) (.int k' n);binOp op t (.int k m) (.int k' n))))) w κ H u:=by
   rintro d rfl ⟨v,hv,hdr⟩;refine .same (u:=v) (Wg _ _ _ ?_) hs.hr (.d hdr);rw[eqGuard_at_int];simp[hv]
  split at hu
  .simp only[Q13]at hu;obtain⟨d,hd,rfl⟩:=hu;exact fin d rfl (Qlp hd t w)
  .simp only[Q13]at hu;obtain⟨d,hd,rfl⟩:=hu;exact fin d rfl (Qlp hd t w)
  .split at hu
   .rename_i hk;subst hk;simp only[Q13]at hu;obtain⟨d,hd,rfl⟩:=hu;exact fin d rfl (Qqo hd t w)
   .cases hu
 .rename_i s1 s2 e1 e2;rw[e1]at h1;rw[e2]at h2;obtain⟨t1,h3,rfl⟩:=h1.str_inv;obtain⟨t2,h4,rfl⟩:=h2.str_inv;rw[h3,h4];simp only[Q13]at hu;obtain⟨d,hd,rfl⟩:=hu;obtain⟨v,hv,hdr⟩:=Qpp (κ:=κ) (P:=P) hd t w;refine .same (u:=v) (Wg _ _ _ ?_) hs.hr (.d hdr);rw[eqGuard_at_string];simp[hv]
 .cases hu
def Qq6{op:BinOp}{neg:Bool}(hop:op=if neg then .neq else .eql){t:TypeId}{y z:Operand}{y' z':Arg}(hs:SR κ nt fr H a w)(ht:P.underlying t=some .bool)(hy:cArg P t y=some y')(hz:cArg P t z=some z')(h:Qj fr H (.beq neg y' z')=some (x,H')):
 Does P (do pure (.value (<-(do eqGuard op t y z (a.eval y) (a.eval z);binOp op t (a.eval y) (a.eval z))))) w κ H' x:=by
 simp only[Qj,Q13]at h;obtain⟨u,hu,h⟩:=h;simp only[prdI]at h;obtain⟨rfl,rfl⟩:=h;have h1:=Ql hy hs;have h2:=Ql hz hs;unfold beqA at hu;split at hu
 .rename_i p q e1 e2;rw[e1]at h1;rw[e2]at h2;rw[h1.bool_inv,h2.bool_inv];cases hu
  refine .same (Wg _ _ _ ?_) hs.hr (.bool _);rw[eqGuard_at_bool];subst hop;have he':∀d,(Op.equalIn (d+1) t (.bool p) (.bool q)).run P w=.ok (p==q) w:=λd=>by simp[Op.equalIn,run_underlying ht]
  have he:(Op.equal t (.bool p) (.bool q)).run P w=.ok (p==q) w:=he' 9999;cases neg
  .simp only[Q2c,if_false,binOp,Q27,Q3u,Q2s,he];cases p<;>cases q<;>rfl
  .simp only[if_true,binOp,Q27,Q3u,Q2s,he];cases p<;>cases q<;>rfl
 .cases hu
def Qsg{neg:Bool}{z u:A}{v:Value}(h:isNilS neg z=some u)(hv:VR κ v z):∃b:Bool,u=.d (.bool b)/\
 ∃ad l c,v=.slice ad l c/\b=if neg then !ad.isNone else ad.isNone:=by
 have sl:∀(zz:Bool)(s:Nat)(rows:List (List D)),DR κ.σ v (.sl zz s rows)->∃ad l c,v=.slice ad l c/\(zz&&rows.isEmpty)=ad.isNone:=by
  intro zz s rows hd;rcases hd.sl_inv with⟨rfl,rfl,rfl⟩|⟨a,c,rfl,rfl,rfl⟩|⟨b,o,cap,f,rfl,hz,-⟩
  .exact⟨none,0,0,rfl,rfl⟩
  .exact⟨_,_,_,rfl,rfl⟩
  .refine⟨_,_,_,rfl,?_⟩;cases zz with
   |false=>rfl
   |true=>have:=hz rfl;simp[this]
 unfold isNilS at h;split at h
 .cases h
  obtain⟨ad,l,c,rfl,hb⟩:=sl _ _ _ hv.d_inv;exact⟨_,rfl,ad,l,c,rfl,by rw[hb]⟩
 .cases h
  cases hv with
  |osl hd ht=>
  obtain⟨ad,l,c,rfl,hb⟩:=sl _ _ _ hd;exact⟨_,rfl,ad,l,c,rfl,by rw[hb]⟩
 .cases h;cases hv;exact⟨_,rfl,_,_,_,rfl,by cases neg<;>rfl⟩
 .cases h
def Qsh{neg:Bool}{z u:A}{v:Value}(h:isNilP neg z=some u)(hv:VR κ v z):∃b:Bool,u=.d (.bool b)/\
 ∃ad,v=.pointer ad/\b=if neg then !ad.isNone else ad.isNone:=by
 unfold isNilP at h;split at h
 .cases h
  cases hv with|d hd=>cases hd;exact⟨_,rfl,none,rfl,by cases neg<;>rfl⟩
 .cases h;cases hv;exact⟨_,rfl,_,rfl,by cases neg<;>rfl⟩
 .cases h;cases hv;exact⟨_,rfl,_,rfl,by cases neg<;>rfl⟩
 .cases h;cases hv;exact⟨_,rfl,_,rfl,by cases neg<;>rfl⟩
 .cases h
def Qkd{op:BinOp}{neg:Bool}(hop:op=if neg then .neq else .eql){t e:TypeId}{y:Operand}{y':Arg}(hs:SR κ nt fr H a w)(ht:P.underlying t=some (.slice e))(hy:cArg P t y=some y')(h:Qj fr H (.isNilS neg y')=some (x,H')):
 Does P (do pure (.value (<-(do eqGuard op t y (.const (.slice none 0 0)) (a.eval y) (.slice none 0 0);binOp op t (a.eval y) (.slice none 0 0))))) w κ H' x:=by
 simp only[Qj,Q13]at h;obtain⟨u,hu,h⟩:=h;simp only[prdI]at h;obtain⟨rfl,rfl⟩:=h;obtain⟨b,rfl,ad,l,c,e1,e2⟩:=Qsg hu (Ql hy hs);refine .same (Wg _ _ _ ?_) hs.hr (.bool b);rw[e1,eqGuard_at_slice];subst hop;have he':∀d,(Op.equalIn (d+1) t (.slice ad l c) (.slice none 0 0)).run P w=.ok ad.isNone w:=λd=>by cases ad<;>simp[Op.equalIn,run_underlying ht]
 have he:(Op.equal t (.slice ad l c) (.slice none 0 0)).run P w=.ok ad.isNone w:=he' 9999;cases neg<;>simp[binOp,he,e2]
def Qke{op:BinOp}{neg:Bool}(hop:op=if neg then .neq else .eql){t e:TypeId}{y:Operand}{y':Arg}(hs:SR κ nt fr H a w)(ht:P.underlying t=some (.pointer e))(hy:cArg P t y=some y')(h:Qj fr H (.isNilP neg y')=some (x,H')):
 Does P (do pure (.value (<-(do eqGuard op t y (.const (.pointer none)) (a.eval y) (.pointer none);binOp op t (a.eval y) (.pointer none))))) w κ H' x:=by
 simp only[Qj,Q13]at h;obtain⟨u,hu,h⟩:=h;simp only[prdI]at h;obtain⟨rfl,rfl⟩:=h;obtain⟨b,rfl,ad,e1,e2⟩:=Qsh hu (Ql hy hs);refine .same (Wg _ _ _ ?_) hs.hr (.bool b);rw[e1,eqGuard_at_pointer];subst hop;have he':∀d,(Op.equalIn (d+1) t (.pointer ad) (.pointer none)).run P w=.ok ad.isNone w:=λd=>by cases ad<;>simp[Op.equalIn,run_underlying ht]
 have he:(Op.equal t (.pointer ad) (.pointer none)).run P w=.ok ad.isNone w:=he' 9999;cases neg<;>simp[binOp,he,e2]
def Qzg{op:UnOp}{y:Operand}{y':Arg}{ty:TypeId}(hs:SR κ nt fr H a w)(hy:cArg P ty y=some y')(h:Qj fr H (.un op y')=some (x,H')):
 Does P (do pure (.value (<-Op.unary op (a.eval y)))) w κ H' x:=by
 simp only[Qj,Q13]at h;obtain⟨u,hu,h⟩:=h;simp only[prdI]at h;obtain⟨rfl,rfl⟩:=h;have hv:=Ql hy hs;unfold unA at hu;split at hu
 .rename_i k n e;rw[e]at hv;rw[hv.int_inv];split at hu
  .cases hu;exact .same (Wg _ _ _ rfl) hs.hr (.int _ _)
  .cases hu
 .rename_i b e;rw[e]at hv;rw[hv.bool_inv];split at hu
  .cases hu;exact .same (Wg _ _ _ rfl) hs.hr (.bool _)
  .cases hu
 .cases hu
def Qxt{s t:TypeId}{k0 k:IntKind}{y:Operand}{y':Arg}(hs:SR κ nt fr H a w)(h1:P.underlying s=some (.int k0))(h2:P.underlying t=some (.int k))(hy:cArg P s y=some y')(h:Qj fr H (.cvt k y')=some (x,H')):
 Does P (do pure (.value (<-convert s t (a.eval y)))) w κ H' x:=by
 simp only[Qj]at h;split at h
 .rename_i k1 n e;cases h
  have hv:=Ql hy hs;rw[e]at hv;rw[hv.int_inv];refine .same (Wg _ _ _ ?_) hs.hr (.int _ _);simp[convert,run_underlying h1,run_underlying h2,Conv.intToInt]
 .cases h
def Qd5.add{x:Bind}{b o k idx off:Nat}(h:Qd5 x ⟨b,o,none⟩ k idx off)(d:Nat):Qd5 x ⟨b,o+d,none⟩ k idx (off+d):=by
 cases x with
 |vec b' c l k' sz=>refine⟨h.1,λe=>?_⟩;have:=h.2 e;injection this with h1 h2;subst h1;subst h2;rw[Q3r]
 |deadT=>trivial
 |_=>exact h.elim
def Qvj{off:Nat}{z u:A}{v:Value}(h:Qo3 off z=some u)(hv:VR κ v z):∃b o,v=.pointer (some ⟨b,o,none⟩)/\VR κ (.pointer (some ⟨b,o+off,none⟩)) u:=by
 unfold Qo3 at h;split at h
 .cases h;cases hv with|ptr i o b hb=>exact⟨_,_,rfl,.ptr _ _ _ hb⟩
 .cases h;cases hv with|aptr i k o b sz hb=>exact⟨_,_,rfl,by rw[Q3r];exact .aptr _ _ _ _ _ hb⟩
 .cases h
  cases hv with
  |eptr cells b o f hc hd=>
   exact⟨_,_,rfl,.eptr _ _ _ (λj=>f (off+j)) (λj x hx=>by rw[Q4d]at hx;rw[Q3r];exact hc _ x hx)
    (λj x hx=>by rw[Q4d]at hx;exact hd _ x hx)⟩
 .cases h
  cases hv with
  |vptr _ _ _ _ b o hf=>exact⟨_,_,rfl,.vptr _ _ _ _ _ _ (hf.add off)⟩
 .cases h
def Qsu{s:TypeId}{fs:Array Field}{f:Nat}{fd:Field}{i:TypeInfo}{y:Operand}{y':Arg}(hs:SR κ nt fr H a w)(h1:P.underlying s=some (.struct fs))(h2:fs[f]?=some fd)(h3:P.info? fd.type=some i)(h4:i.size≠0)(hy:cArg P 0 y=some y')(h:Qj fr H (.faddr fd.offset y')=some (x,H')):
 Does P (do pure (.value (<-Instr.fieldAt s (a.eval y) f))) w κ H' x:=by
 simp only[Qj,Q13]at h;obtain⟨u,hu,h⟩:=h;simp only[prdI]at h;obtain⟨rfl,rfl⟩:=h;obtain⟨b,o,e,hv⟩:=Qvj hu (Ql hy hs);refine .same (Wg _ _ _ ?_) hs.hr hv;rw[e];simp[Instr.fieldAt,run_underlying h1,h2,Instr.sureAddr,fieldPlace,sizeOf,typeInfo,h3,h4,Zt]
def Qq1{s:TypeId}{fs:Array Field}{f:Nat}{fd:Field}{d:TypeDesc}{i:TypeInfo}{y:Operand}{y':Arg}(hs:SR κ nt fr H a w)(h1:P.underlying s=some (.struct fs))(h2:fs[f]?=some fd)(hd:P.underlying fd.type=some d)(h3:P.info? fd.type=some i)(hy:cArg P 0 y=some y')(h:Qj fr H (if Z8 d then .fld fd.offset i.size true y' else .fld fd.offset 1 false y')=some (x,H')):
 Does P (do pure (.value (<-Instr.field s (a.eval y) f))) w κ H' x:=by
 have hv:=Ql hy hs;have main:∀(n:Nat)(agg:Bool),(agg=Z8 d)->(n=if agg then i.size else 1)->Qj fr H (.fld fd.offset n agg y')=some (x,H')->Does P (do pure (.value (<-Instr.field s (a.eval y) f))) w κ H' x:=by
  intro n agg hagg hn h;simp only[Qj]at h;split at h
  .rename_i cs e;rw[e]at hv;simp only[Q13]at h;obtain⟨r,hr,h⟩:=h;simp only[prdI]at h;obtain⟨rfl,rfl⟩:=h;generalize hev:a.eval y=v at hv⊢;cases hv with
   |agg vs ars hl hp=>
   have hlr:=(Qa6 hr).2.2;have hle:=(Qa6 hr).1;have hpt:∀(j:Nat)(u:Value)(c:A),((vs.drop fd.offset).take n)[j]?=some u->r[j]?=some c->VR κ u c:=λj u c hu hc=>by
    have hj:j<n:=by rw[<-hlr];exact(Q11.1 hc).1
    rw[Qfy hr j hj]at hc;rw[Q4c,if_pos hj,Q4d]at hu;exact hp _ u c hu hc
   have hlv:((vs.drop fd.offset).take n).length=n:=by simp;omega
   cases agg with
   |true=>simp only[if_true]at hn;subst hn;refine .same (u:=.agg ((vs.drop fd.offset).take i.size).toArray) (Wg _ _ _ ?_) hs.hr (.agg _ _ (by omega) hpt);simp[Instr.field,run_underlying h1,h2,asAgg,part,Qb3 hd,<-hagg,sizeOf,typeInfo,h3]
   |false=>
    simp only[Q2c,if_false]at hn;subst hn;obtain⟨u,hu⟩:∃u,vs[fd.offset]?=some u:=⟨vs[fd.offset]'(by omega),Q12 _⟩;obtain⟨c,hc⟩:∃c,r[0]?=some c:=⟨r[0]'(by omega),Q12 _⟩;have hrc:r.headD .undef=c:=by cases r with|nil=>simp at hc|cons y ys=>simpa using hc
    refine .same (u:=u) (Wg _ _ _ ?_) hs.hr ?_
    .simp[Instr.field,run_underlying h1,h2,asAgg,part,Qb3 hd,<-hagg,hu]
    .simp only[Q2c,if_false,hrc];exact hpt 0 u c (by rw[Q4c,if_pos (by omega),Q4d];exact hu) hc
  .cases h
 cases hagg:Z8 d with
 |true=>rw[hagg]at h;exact main i.size true hagg.symm rfl h
 |false=>rw[hagg]at h;exact main 1 false hagg.symm rfl h
def DR.row{σ:St}{z:Bool}{sz:Nat}{rows:List (List D)}{b o cap:Nat}(h:DR σ (.slice (some ⟨b,o,none⟩) rows.length cap) (.sl z sz rows)){k:Nat}{r:List D}(hk:rows[k]?=some r):
 r.length=sz/\∃f:Nat->Value,(∀(j:Nat)(x:D),r[j]?=some x->σ b (o+k*sz+j)=some (f j))/\∀(j:Nat)(x:D),r[j]?=some x->DR σ (f j) x:=by
 obtain⟨-,f,-,-,hrow,hc,hd⟩:=h.sl_at
 .exact⟨hrow k r hk,f k,λj x hx=>hc k j r x hk hx,λj x hx=>hd k j r x hk hx⟩
def Qr7{rows:List (List D)}{n:Int}{r:List D}(h:rowAt rows n=some r):0<=n/\n<rows.length/\rows[n.toNat]?=some r:=by
 unfold rowAt at h;split at h
 .rename_i h0;have:=(Q11.1 h).1;exact⟨h0,by omega,h⟩
 .cases h
def Qst{t e:TypeId}{ti:TypeInfo}{y z:Operand}{y' z':Arg}(hs:SR κ nt fr H a w)(h1:Yj P t=some (e,ti))(hy:cArg P t y=some y')(hz:cArg P 0 z=some z')(h:Qj fr H (.iaddr ti.size y' z')=some (x,H')):
 Does P (do pure (.value (<-Instr.indexAt t (a.eval y) (a.eval z)))) w κ H' x:=by
 have ht:P.underlying t=some (.slice e)/\P.info? e=some ti:=by
  unfold Yj at h1;split at h1
  .rename_i e' he;simp only[Q13,prdI]at h1;obtain⟨i,hi,rfl,rfl⟩:=h1;exact⟨he,hi⟩
  .cases h1
 simp only[Qj,Q13]at h;obtain⟨u,hu,h⟩:=h;simp only[prdI]at h;obtain⟨rfl,rfl⟩:=h;have hv:=Ql hy hs;have hi:=Ql hz hs;have fin:∀(k:IntKind)(n:Int)(b o len cap:Nat),a.eval y=.slice (some ⟨b,o,none⟩) len cap->a.eval z=.int k n->0<=n->n<len->VR κ (.pointer (some ⟨b,o+n.toNat*ti.size,none⟩)) u->
  Does P (do pure (.value (<-Instr.indexAt t (a.eval y) (a.eval z)))) w κ H u:=by
  intro k n b o len cap e1 e2 h0 hlt hv;refine .same (Wg _ _ _ ?_) hs.hr hv;rw[e1,e2];simp[Instr.indexAt,asIntOf,run_underlying ht.1,h0,hlt,sizeOf,typeInfo,ht.2,Zt]
 have rowcase:∀(zz:Bool)(s:Nat)(rows:List (List D))(k:IntKind)(n:Int),DR κ.σ (a.eval y) (.sl zz s rows)->a.eval z=.int k n->(if s=ti.size then(rowAt rows n).map A.eptr else none)=some u->
  Does P (do pure (.value (<-Instr.indexAt t (a.eval y) (a.eval z)))) w κ H u:=by
  intro zz s rows k n hd e2 hu;split at hu
  .rename_i hsz;subst hsz;simp only[Q13]at hu;obtain⟨r,hr,rfl⟩:=hu;obtain⟨h0,hlt,hk⟩:=Qr7 hr;rcases hd.sl_inv with⟨-,-,rfl⟩|⟨_,_,-,-,rfl⟩|⟨b,o,cap,f,e1,-⟩
   .simp at hk
   .simp at hk
   .rw[e1]at hd;obtain⟨hl,g,hg1,hg2⟩:=hd.row hk;exact fin k n b o rows.length cap e1 e2 h0 hlt (.eptr r b _ g hg1 hg2)
  .cases hu
 unfold W4 at hu;split at hu
 .rename_i zz s rows k n e1 e2;rw[e1]at hv;rw[e2]at hi;exact rowcase zz s rows k n hv.d_inv hi.int_inv hu
 .rename_i zz s rows tk k n e1 e2;rw[e1]at hv;rw[e2]at hi;refine rowcase zz s rows k n ?_ hi.int_inv hu;generalize a.eval y=v at hv;cases hv with|osl hd _=>exact hd
 .rename_i ar off len k n e1 e2;rw[e1]at hv;rw[e2]at hi;split at hu
  .rename_i s rows hH;split at hu
   .rename_i hc;cases hu
    obtain⟨rfl,h0,hlt⟩:=hc;obtain⟨b',s',hb',-⟩:=hs.hr.ob ar _ hH;generalize hev:a.eval y=v at hv;cases hv with
    |msl _ _ _ b sz o cap hb hl ho hz=>
    obtain⟨rfl,rfl⟩:b'=b/\ti.size=sz:=by rcases hb with⟨_,hb⟩|hb<;>rw[hb]at hb'<;>cases hb';exact⟨rfl,rfl⟩
    have ho':=ho (by omega);rw[<-hev];refine fin k n b' o len cap hev hi.int_inv h0 hlt ?_;have:o+n.toNat*ti.size=(off+n.toNat)*ti.size+0:=by rw[ho',Q29];omega
    rw[this];exact .aptr _ _ _ _ _ hb
   .cases hu
  .cases hu
 .cases hu
def Qvk{t:TypeId}{y z:Operand}{y' z':Arg}(hs:SR κ nt fr H a w)(ht:P.underlying t=some .string)(hy:cArg P t y=some y')(hz:cArg P 0 z=some z')(h:Qj fr H (.sidx y' z')=some (x,H')):
 Does P (do pure (.value (<-Instr.index t (a.eval y) (a.eval z)))) w κ H' x:=by
 simp only[Qj]at h;split at h
 .rename_i s k n e1 e2;simp only[Q13]at h;obtain⟨b,hb,h⟩:=h;simp only[prdI]at h;obtain⟨rfl,rfl⟩:=h;have hv:=Ql hy hs;have hi:=Ql hz hs;rw[e1]at hv;rw[e2]at hi;obtain⟨u,e3,rfl⟩:=hv.str_inv;refine .same (Wg _ _ _ ?_) hs.hr (.int _ _);rw[e3,hi.int_inv];unfold Yc at hb;split at hb
  .rename_i h0;have hlt:=(Q11.1 hb).1;have hget:u[n.toNat]?=some b:=by
    have h2:n.toNat<u.size:=by rw[Qc9];exact hlt
    rw[getElem?_pos u n.toNat h2];have:=(Q11.1 hb).2;rw[<-this];rfl
   simp[Instr.index,asIntOf,run_underlying ht,h0,hget]
  .cases hb
 .cases h
def Qvn{t:TypeId}{ty:TypeId}{xs:Array Operand}{y:Operand}{y':Arg}{ts:Array TypeId}(hs:SR κ nt fr H a w)(ht:P.underlying t=some .string)(h0:ts[0]?=some t)(hx:xs.toList=[y])(hy:cArg P t y=some y')(h:Qj fr H (.lenS y')=some (x,H')):
 Does P (do pure (.value (<-Builtin.len_ ts ty (xs.map a.eval)))) w κ H' x:=by
 have hx':(xs.map a.eval)[0]?=some (a.eval y):=by
  have:xs=#[y]:=by cases xs;simp at hx;subst hx;rfl
  subst this;simp
 simp only[Qj]at h;split at h
 .rename_i s e1;cases h
  have hv:=Ql hy hs;rw[e1]at hv;obtain⟨u,e2,rfl⟩:=hv.str_inv;refine .same (Wg _ _ _ ?_) hs.hr (.int .i64 _);rw[<-Qc9];simp[Builtin.len_,h0,hx',e2,run_underlying ht,goInt]
 .cases h
def Qvo{t e:TypeId}{ty:TypeId}{xs:Array Operand}{y:Operand}{y':Arg}{ts:Array TypeId}(hs:SR κ nt fr H a w)(ht:P.underlying t=some (.slice e))(h0:ts[0]?=some t)(hx:xs.toList=[y])(hy:cArg P t y=some y')(h:Qj fr H (.lenL y')=some (x,H')):
 Does P (do pure (.value (<-Builtin.len_ ts ty (xs.map a.eval)))) w κ H' x:=by
 simp only[Qj,Q13]at h;obtain⟨n,hn,h⟩:=h;simp only[prdI]at h;obtain⟨rfl,rfl⟩:=h;have hv:=Ql hy hs;have hx':(xs.map a.eval)[0]?=some (a.eval y):=by
  have:xs=#[y]:=by cases xs;simp at hx;subst hx;rfl
  subst this;simp
 refine .same (Wg _ _ _ ?_) hs.hr (.int .i64 n);have fin:∀ad m c,a.eval y=.slice ad m c->m=n->(Builtin.len_ ts ty (xs.map a.eval)).run P w=.ok (.int .i64 n) w:=by rintro ad m c e1 rfl;simp[Builtin.len_,h0,hx',e1,run_underlying ht,goInt]
 unfold lenA at hn;split at hn
 .rename_i z s rows e1;cases hn
  rw[e1]at hv;rcases hv.d_inv.sl_inv with⟨e2,-,rfl⟩|⟨_,_,e2,-,rfl⟩|⟨b,o,cap,f,e2,-⟩
  .exact fin _ _ _ e2 rfl
  .exact fin _ _ _ e2 rfl
  .exact fin _ _ _ e2 rfl
 .rename_i z s rows tk e1;cases hn
  rw[e1]at hv;have hdr:DR κ.σ (a.eval y) (.sl z s rows):=by generalize a.eval y=v at hv;cases hv with|osl hd _=>exact hd
  rcases hdr.sl_inv with⟨e2,-,rfl⟩|⟨_,_,e2,-,rfl⟩|⟨b,o,cap,f,e2,-⟩
  .exact fin _ _ _ e2 rfl
  .exact fin _ _ _ e2 rfl
  .exact fin _ _ _ e2 rfl
 .rename_i i off m e1;cases hn
  rw[e1]at hv;generalize hev:a.eval y=v at hv;cases hv with
  |msl _ _ _ b sz o cap hb hl ho hz=>exact fin _ _ _ hev rfl
 .rename_i i off m e1;cases hn
  rw[e1]at hv;generalize hev:a.eval y=v at hv;cases hv with
  |vsl _ _ _ ad cap _ hf=>exact fin _ _ _ hev rfl
 .cases hn
def mmB(isMax:Bool)(ts:Array TypeId)(ty:TypeId)(vs:Array Value):Sem Value:=if isMax then Builtin.max_ ts ty vs else Builtin.min_ ts ty vs
def Qt0{isMax:Bool}{t1 t2 ty:TypeId}{ts:Array TypeId}{xs:Array Operand}{y z:Operand}{y' z':Arg}(hs:SR κ nt fr H a w)(hx:xs.toList=[y,z])(hy:cArg P t1 y=some y')(hz:cArg P t2 z=some z')(h:Qj fr H (.mm isMax y' z')=some (x,H')):
 Does P (do pure (.value (<-mmB isMax ts ty (xs.map a.eval)))) w κ H' x:=by
 simp only[Qj,Q13]at h;obtain⟨u,hu,h⟩:=h;simp only[prdI]at h;obtain⟨rfl,rfl⟩:=h;have hv:=Ql hy hs;have hi:=Ql hz hs;have hxs:xs=#[y,z]:=by cases xs;simp at hx;subst hx;rfl
 unfold mmA at hu;split at hu
 .rename_i k m k' n e1 e2;split at hu
  .rename_i hk;subst hk;cases hu
   rw[e1]at hv;rw[e2]at hi;refine .same (Wg _ _ _ ?_) hs.hr (.int _ _);subst hxs;cases isMax with
   |true=>simp[mmB,Builtin.max_,hv.int_inv,hi.int_inv,Builtin.max2];split<;>omega
   |false=>simp[mmB,Builtin.min_,hv.int_inv,hi.int_inv,Builtin.min2];split<;>omega
  .cases hu
 .cases hu
end
end
section
open Go.RowKit (Below)
section
variable{P:Program}{κ:K}{nt:NT}{fr:Fr}{H H':Hp}{a:Act}{w:World}{x:A}{tok:List Nat}
def Zl(k:IntKind)(i:Nat)(y:Nat)(c:BoundsCode)(h:i<=y):(Instr.sliceBound (.int k i) y c).run P w=.ok i w:=by
 have h1:(i:Int)<=(y:Int):=by omega
 have h2:(0:Int)<=(i:Int):=by omega
 simp only[Instr.sliceBound,asIntOf,Q27,Q3u,Q2s,h1,h2,and_self,if_true,Q31]
def Qlt(isSl:Bool)(len cap:Nat)(lo hi mx:Option Value)(l h m:Nat)(hlo:(lo=none/\l=0)\/∃k,lo=some (.int k l))(hhi:(hi=none/\h=len/\mx=none)\/∃k,hi=some (.int k h))(hmx:(mx=none/\m=cap)\/∃k,mx=some (.int k m))(h1:l<=h)(h2:h<=m)(h3:m<=cap):(Instr.sliceBounds isSl len cap lo hi mx).run P w=.ok (l,h,m) w:=by
 unfold Instr.sliceBounds;rcases hmx with⟨rfl,rfl⟩|⟨km,rfl⟩
 .rcases hhi with⟨rfl,rfl,-⟩|⟨kh,rfl⟩
  .rcases hlo with⟨rfl,rfl⟩|⟨kl,rfl⟩
   .simp
   .simp[Zl,h1]
  .rcases hlo with⟨rfl,rfl⟩|⟨kl,rfl⟩
   .simp[Zl,h2]
   .simp[Zl,h1,h2]
 .rcases hhi with⟨rfl,rfl,hh⟩|⟨kh,rfl⟩
  .cases hh
  .rcases hlo with⟨rfl,rfl⟩|⟨kl,rfl⟩
   .simp[Zl,h2,h3]
   .simp[Zl,h1,h2,h3]
def Qtr(hs:SR κ nt fr H a w){lo:Option Operand}{lo':Option Arg}(h:Qak P lo=some lo'){d:Nat}{n:Int}(hb:Y8 fr d lo'=some n):
 (lo=none/\lo'=none/\n=d)\/∃y k,lo=some y/\lo'.isSome=true/\a.eval y=.int k n:=by
 unfold Qak at h;split at h
 .cases h;simp only[Y8,somI]at hb;exact .inl ⟨rfl,rfl,hb.symm⟩
 .rename_i y;simp only[Q13]at h;obtain⟨y',hy,rfl⟩:=h;have hv:=Ql hy hs;simp only[Y8]at hb;split at hb
  .rename_i k n' e;cases hb
   rw[e]at hv;exact .inr ⟨y,k,rfl,rfl,hv.int_inv⟩
  .cases hb
def Qnh{α:Type}{l r:List α}{lo hi:Int}(h:subL l lo hi=some r):0<=lo/\lo<=hi/\hi<=l.length/\r=(l.drop lo.toNat).take (hi.toNat-lo.toNat):=by
 unfold subL at h;split at h
 .rename_i hc;cases h;exact⟨hc.1,hc.2.1,hc.2.2,rfl⟩
 .cases h
def Qk0{lo:Option Operand}{l:Int}{n:Nat}{b:Bool}(h0:0<=l)(h:(lo=none/\b=false/\l=n)\/∃y k,lo=some y/\b=true/\a.eval y=.int k l):
 (lo.map a.eval=none/\l.toNat=n/\b=false)\/∃k,lo.map a.eval=some (.int k l.toNat):=by
 rcases h with⟨rfl,h1,rfl⟩|⟨y,k,rfl,h1,h2⟩
 .exact .inl ⟨rfl,by simp,h1⟩
 .exact .inr ⟨k,by rw[Int.toNat_of_nonneg h0,<-h2];rfl⟩
def Qhr(hs:SR κ nt fr H a w){lo:Option Operand}{lo':Option Arg}(h:Qak P lo=some lo'){d:Nat}{n:Int}(hb:Y8 fr d lo'=some n):
 (lo=none/\lo'.isSome=false/\n=d)\/∃y k,lo=some y/\lo'.isSome=true/\a.eval y=.int k n:=by
 rcases Qtr hs h hb with⟨h1,rfl,h3⟩|h
 .exact .inl ⟨h1,rfl,h3⟩
 .exact .inr h
def Qq0{t:TypeId}{y:Operand}{lo hi:Option Operand}{y':Arg}{lo' hi':Option Arg}(hs:SR κ nt fr H a w)(ht:P.underlying t=some .string)(hy:cArg P t y=some y')(hl:Qak P lo=some lo')(hh:Qak P hi=some hi')(h:Qj fr H (.sslice y' lo' hi')=some (x,H')):
 Does P (do pure (.value (<-Instr.sliceAt t (a.eval y) (lo.map a.eval) (hi.map a.eval) none))) w κ H' x:=by
 simp only[Qj]at h;split at h
 .rename_i s e;split at h
  .rename_i l r hl1 hh1;simp only[Q13]at h;obtain⟨q,hq,h⟩:=h;simp only[prdI]at h;obtain⟨rfl,rfl⟩:=h;obtain⟨h0,h1,h2,rfl⟩:=Qnh hq;have hv:=Ql hy hs;rw[e]at hv;obtain⟨u,e1,rfl⟩:=hv.str_inv;rw[<-Qc9]at h2;have hb:=Qlt (P:=P) (w:=w) false u.size u.size (lo.map a.eval) (hi.map a.eval) none l.toNat r.toNat u.size
    (by rcases Qk0 h0 (Qhr hs hl hl1)with⟨p1,p2,-⟩|p;.exact .inl ⟨p1,p2⟩
        .exact .inr p)
    (by rcases Qk0 (by omega) (Qhr hs hh hh1)with⟨p1,p2,-⟩|p;.exact .inl ⟨p1,by rw[p2,<-Qc9],rfl⟩
        .exact .inr p)
    (.inl ⟨rfl,rfl⟩) (by omega) (by omega) (Q14 _)
   refine .same (u:=.string (u.extract l.toNat r.toNat)) (Wg _ _ _ ?_) hs.hr (.str' _ (Lib.extract_data _ _ _));rw[e1];simp[Instr.sliceAt,run_underlying ht,Instr.slice,hb]
  .cases h
 .cases h
def Qsq{t e:TypeId}{ti:TypeInfo}{y:Operand}{lo hi mx:Option Operand}{y':Arg}{lo' hi' mx':Option Arg}(hs:SR κ nt fr H a w)(ht:P.underlying t=some (.slice e))(hti:P.info? e=some ti)(hy:cArg P t y=some y')(hl:Qak P lo=some lo')(hh:Qak P hi=some hi')(hm:Qak P mx=some mx')(h:Qj fr H (.slice ti.size y' lo' hi' mx')=some (x,H')):
 Does P (do pure (.value (<-Instr.sliceAt t (a.eval y) (lo.map a.eval) (hi.map a.eval) (mx.map a.eval)))) w κ H' x:=by
 have hv:=Ql hy hs;have core:∀(z:Bool)(s:Nat)(rows:List (List D))(l r:Int)(m:Option Int),DR κ.σ (a.eval y) (.sl z s rows)->Y8 fr 0 lo'=some l->Y8 fr rows.length hi'=some r->
  ((mx'=none/\m=none)\/∃q m0,mx'=some q/\Y8 fr 0 (some q)=some m0/\m=some m0/\hi'.isSome=true)->
  (if s=ti.size/\(∀q,m=some q->r<=q/\q<=rows.length)then(subL rows l r).map λrr=>A.d (.sl (z&&rows.isEmpty) s rr)else none)=some x->
  Does P (do pure (.value (<-Instr.sliceAt t (a.eval y) (lo.map a.eval) (hi.map a.eval) (mx.map a.eval)))) w κ H x:=by
  intro z s rows l r m hd hl1 hh1 hmm hx;split at hx
  ·rename_i hc;obtain⟨rfl,hcm⟩:=hc;simp only[Q13]at hx;obtain⟨rr,hrr,rfl⟩:=hx;obtain⟨h0,h1,h2,rfl⟩:=Qnh hrr;have fin:∀(ad:Option Addr)(cap:Nat),a.eval y=.slice ad rows.length cap->rows.length<=cap->
    (∀m':Nat,r.toNat<=m'->m'<=cap->∃u,u=Value.slice (if m'=l.toNat then ad else ad.map (·.add (l.toNat*ti.size))) (r.toNat-l.toNat) (m'-l.toNat)/\VR κ u (.d (.sl (z&&rows.isEmpty) ti.size ((rows.drop l.toNat).take (r.toNat-l.toNat)))))->
    Does P (do pure (.value (<-Instr.sliceAt t (a.eval y) (lo.map a.eval) (hi.map a.eval) (mx.map a.eval)))) w κ H (.d (.sl (z&&rows.isEmpty) ti.size ((rows.drop l.toNat).take (r.toNat-l.toNat)))):=by
    intro ad cap e1 hcap hval;have go:∀m':Nat,r.toNat<=m'->m'<=cap->((mx.map a.eval=none/\m'=cap)\/∃k,mx.map a.eval=some (.int k m'))->(hi'.isSome=true\/mx.map a.eval=none)->
     Does P (do pure (.value (<-Instr.sliceAt t (a.eval y) (lo.map a.eval) (hi.map a.eval) (mx.map a.eval)))) w κ H (.d (.sl (z&&rows.isEmpty) ti.size ((rows.drop l.toNat).take (r.toNat-l.toNat)))):=by
     intro m' hm1 hm2 hm3 hm4;obtain⟨u,hu,hvr⟩:=hval m' hm1 hm2;have hb:=Qlt (P:=P) (w:=w) true rows.length cap (lo.map a.eval) (hi.map a.eval) (mx.map a.eval) l.toNat r.toNat m'
      (by rcases Qk0 h0 (Qhr hs hl hl1)with⟨p1,p2,-⟩|p;·exact .inl ⟨p1,p2⟩
          ·exact .inr p)
      (by rcases Qk0 (by omega) (Qhr hs hh hh1)with⟨p1,p2,p3⟩|p
          ·exact .inl ⟨p1,p2,hm4.resolve_left (by simp[p3])⟩
          ·exact .inr p)
      hm3 (by omega) hm1 hm2
     refine .same (u:=u) (Wg _ _ _ ?_) hs.hr hvr;rw[e1,hu];simp[Instr.sliceAt,run_underlying ht,Instr.slice,hb,sizeOf,typeInfo,hti]
    rcases hmm with⟨hm1,-⟩|⟨q,m0,hm1,hm2,hm3,hm4⟩
    ·have:mx=none:=by
      subst hm1;unfold Qak at hm;split at hm
      ·rfl
      ·simp at hm
     subst this;exact go cap (by omega) (Q14 _) (.inl ⟨rfl,rfl⟩) (.inr rfl)
    ·have hq:=hcm m0 hm3;subst hm1;rcases Qtr hs hm hm2 with⟨-,hh0,-⟩|⟨y2,k2,rfl,-,he⟩
     ·cases hh0
     ·refine go m0.toNat (by omega) (by omega) (.inr ⟨k2,?_⟩) (.inl hm4);show some (a.eval y2)=_;rw[he,Int.toNat_of_nonneg (by omega)]
   rcases hd.sl_inv with⟨e1,rfl,rfl⟩|⟨ad,cap,e1,rfl,rfl⟩|⟨b,o,cap,f,e1,hz,hcap,hrow,hcc,hdd⟩
   ·refine fin none 0 e1 (Q49 _) λm' hm1 hm2=>⟨_,rfl,?_⟩;have e0:r.toNat=0:=by simp at h2;omega
    have e2:l.toNat=0:=by omega
    have e3:m'=0:=by omega
    simp only[e0,e2,e3,Q68,List.take_nil,List.isEmpty_nil,Bool.and_true,Q6d,if_true];exact .d (.nilsl _)
   ·refine fin (some ad) cap e1 (Q49 _) λm' hm1 hm2=>⟨_,rfl,?_⟩;have e0:r.toNat=0:=by simp at h2;omega
    have e2:l.toNat=0:=by omega
    simp only[e0,e2,Q68,List.take_nil,Q62,Q6d];split<;>exact .d (.emp _ _ _)
   ·refine fin (some ⟨b,o,none⟩) cap e1 hcap λm' hm1 hm2=>⟨_,rfl,?_⟩;have hlen:((rows.drop l.toNat).take (r.toNat-l.toNat)).length=r.toNat-l.toNat:=by simp;omega
    have hgz:(z&&rows.isEmpty)=false:=by
     cases z with
     |false=>rfl
     |true=>have:=hz rfl;simp[this]
    rw[hgz];have hidx:∀(i:Nat)(r0:List D),((rows.drop l.toNat).take (r.toNat-l.toNat))[i]?=some r0->rows[l.toNat+i]?=some r0:=λi r0 hi=>by
     rw[Q4c]at hi;split at hi
     ·rwa[Q4d]at hi
     ·cases hi
    have hg:=DR.sl (σ:=κ.σ) false ti.size ((rows.drop l.toNat).take (r.toNat-l.toNat)) b (if m'=l.toNat then o else o+l.toNat*ti.size) (m'-l.toNat) (λi j=>f (l.toNat+i) j) (by simp) (by omega)
     (λi r0 hi=>hrow _ r0 (hidx i r0 hi))
     (λi j r0 x0 hi hx0=>by
      have:=hcc _ j r0 x0 (hidx i r0 hi) hx0;have hil:i<r.toNat-l.toNat:=by rw[<-hlen];exact(Q11.1 hi).1
      rw[if_neg (by omega)];rw[Q29]at this;rw[show o+l.toNat*ti.size+i*ti.size+j=o+(l.toNat*ti.size+i*ti.size)+j by omega];exact this)
     (λi j r0 x0 hi hx0=>hdd _ j r0 x0 (hidx i r0 hi) hx0)
    rw[hlen]at hg;have:(if m'=l.toNat then some (⟨b,o,none⟩:Addr)else(some (⟨b,o,none⟩:Addr)).map (·.add (l.toNat*ti.size)))=some ⟨b,if m'=l.toNat then o else o+l.toNat*ti.size,none⟩:=by
     split<;>simp[Zt]
    rw[this];exact .d hg
  ·cases hx
 simp only[Qj]at h;split at h
 ·rename_i n hn;have both:∀(z:Bool)(s:Nat)(rows:List (List D)),DR κ.σ (a.eval y) (.sl z s rows)->n=rows.length->
   (∀(l r:Int)(m:Option Int),Qi8 ti.size l r m (y'.ev fr)=if s=ti.size/\(∀q,m=some q->r<=q/\q<=rows.length)then(subL rows l r).map λrr=>A.d (.sl (z&&rows.isEmpty) s rr)else none)->
   Does P (do pure (.value (<-Instr.sliceAt t (a.eval y) (lo.map a.eval) (hi.map a.eval) (mx.map a.eval)))) w κ H' x:=by
   intro z s rows hd hn0 hsl;subst hn0;split at h
   ·rename_i l r hl1 hh1;simp only[Q13]at h;obtain⟨u,hu,h⟩:=h;simp only[prdI]at h;obtain⟨rfl,rfl⟩:=h;rw[hsl]at hu;exact core z s rows l r none hd hl1 hh1 (.inl ⟨rfl,rfl⟩) hu
   ·rename_i l r m hl1 hh1;split at h
    ·rename_i m0 hm0;split at h
     ·rename_i hsome;simp only[Q13]at h;obtain⟨u,hu,h⟩:=h;simp only[prdI]at h;obtain⟨rfl,rfl⟩:=h;rw[hsl]at hu;exact core z s rows l r (some m0) hd hl1 hh1 (.inr ⟨m,m0,rfl,hm0,rfl,hsome⟩) hu
     ·cases h
    ·cases h
   ·cases h
  cases hyv:y'.ev fr with
  |d d0=>
   cases d0 with
   |sl z s rows=>
    rw[hyv]at hv hn;exact both z s rows hv.d_inv (by simpa[lenA]using hn.symm) (λl r m=>by rw[hyv];rfl)
   |_=>
    exfalso
    rw[hyv]at h;simp only[Qi8,Q6x]at h;split at h
    ·cases h
    ·split at h
     ·split at h<;>cases h
     ·cases h
    ·cases h
  |osl z s rows tk=>
   rw[hyv]at hv hn;refine both z s rows ?_ (by simpa[lenA]using hn.symm) (λl r m=>by rw[hyv];rfl);generalize a.eval y=v at hv;cases hv with|osl hd _=>exact hd
  |_=>
   exfalso
   rw[hyv]at h;simp only[Qi8,Q6x]at h;split at h
   ·cases h
   ·split at h
    ·split at h<;>cases h
    ·cases h
   ·cases h
 ·cases h
def Qxs{y:Operand}{y':Arg}{n:Nat}(hs:SR κ nt fr H a w)(hy:cArg P 0 y=some y')(h:Qj fr H (.ext y' n)=some (x,H')):
 Does P (do pure (.value (<-Instr.extract (a.eval y) n))) w κ H' x:=by
 simp only[Qj]at h;split at h
 .rename_i vs e;simp only[Q13]at h;obtain⟨u,hu,h⟩:=h;simp only[prdI]at h;obtain⟨rfl,rfl⟩:=h;have hv:=Ql hy hs;rw[e]at hv;generalize hev:a.eval y=v at hv;cases hv with
  |tup us _ hl hp=>
   have hlt:n<us.length:=by rw[hl];exact(Q11.1 hu).1
   refine .same (u:=us[n]) (Wg _ _ _ ?_) hs.hr (hp n _ _ (Q12 hlt) hu);simp[Instr.extract,hlt]
 .cases h
def Qfc{ty:TypeId}(hs:SR κ nt fr H a w):∀(l:List Operand)(ys:List Arg),l.mapM (cArg P ty)=some ys->
 l.length=ys.length/\∀(i:Nat)(v:Value)(b:A),(l.map a.eval)[i]?=some v->(ys.map (Arg.ev fr))[i]?=some b->VR κ v b:=by
 intro l;induction l with
 |nil=>intro ys h;simp at h;subst h;simp
 |cons x r ih=>
  intro ys h;simp only[Q3k,Q2h,Q2a,Q2q,somI]at h;obtain⟨y,hy,ys',hys',rfl⟩:=h;obtain⟨h1,h2⟩:=ih ys' hys';refine⟨by simp[h1],λi v b hv hb=>?_⟩;cases i with
  |zero=>simp at hv hb;subst hv;subst hb;exact Ql hy hs
  |succ i=>simp at hv hb;exact h2 i v b (by simpa using hv) (by simpa using hb)
def Qvm{fn:Fn}{f1 f2:Array Operand}{y1 y2:List Arg}(hs:SR κ nt fr H a w)(h1:f1.toList.mapM (cArg P 0)=some y1)(h2:f2.toList.mapM (cArg P 0)=some y2)(h:Qj fr H (.mkfn fn y1 y2)=some (x,H')):
 Does P (do pure (.value (<-Instr.makeFunc fn (f1.map a.eval) (f2.map a.eval)))) w κ H' x:=by
 simp only[Qj,somI,prdI]at h;obtain⟨rfl,rfl⟩:=h;obtain⟨l1,p1⟩:=Qfc hs _ _ h1;obtain⟨l2,p2⟩:=Qfc hs _ _ h2;refine .same (u:=.func fn (f1.map a.eval) (f2.map a.eval)) (Wg _ _ _ rfl) hs.hr ?_;have e1:f1.map a.eval=(f1.toList.map a.eval).toArray:=by rw[<-Q6w,Q5n]
 have e2:f2.map a.eval=(f2.toList.map a.eval).toArray:=by rw[<-Q6w,Q5n]
 rw[e1,e2];exact .fn fn _ _ _ _ (by rw[Q2y,Q2y];exact l1) (by rw[Q2y,Q2y];exact l2) p1 p2
end
end
section
open Go.RowKit (Below)
def Qe7{α:Type}:∀(r:List α)(l:List α)(i k:Nat),i+r.length<=l.length->(setL l i r)[k]?=if i<=k/\k<i+r.length then r[k-i]? else l[k]?
 |[],l,i,k,_=>by simp only[setL,Q3b,Q4g];rw[if_neg (by omega)]
 |x::r,l,i,k,h=>by
  simp only[Q2i]at h;rw[setL,Qe7 r (l.set i x) (i+1) k (by simp;omega)];by_cases h1:i+1<=k/\k<i+1+r.length
  .rw[if_pos h1,if_pos (by simp;omega)];have:k-i=(k-(i+1))+1:=by omega
   rw[this];simp
  .rw[if_neg h1];by_cases h2:k=i
   .subst h2;rw[if_pos (by simp),Q17 (by omega)];simp
   .rw[if_neg (by simp;omega),Q15 (by omega)]
def Qn0(off:Nat):∀(vs:List Value)(k:Nat)(cells:Array Value),((vs.zipIdx k).foldl (λcs (p:Value×Nat)=>cs.setIfInBounds (off+p.2) p.1) cells).toList=setL cells.toList (off+k) vs
 |[],_,_=>rfl
 |v::r,k,cells=>by rw[List.zipIdx_cons,Q6e,Qn0 off r (k+1)];simp[setL,Q3r]
def Qnz(off:Nat)(v:Value)(cells:Array Value):(v.cells.zipIdx.foldl (λcs (p:Value×Nat)=>cs.setIfInBounds (off+p.2) p.1) cells).toList=setL cells.toList off v.cells.toList:=by have:=Qn0 off v.cells.toList 0 cells;rw[Q4g]at this;rw[<-this];congr 1;rw[<-Q6o];simp[Array.toList_zipIdx]
section
variable{P:Program}{κ:K}{nt:NT}{fr:Fr}{H H':Hp}{a:Act}{w:World}{x:A}{tok:List Nat}
def Qms(place:Nat->Option (Nat×Nat)):∀(ps:List (Nat×Value))(qs:List (Nat×Nat×A))(cells:Array Value)(cs r:List A),ps.length=qs.length->
 (∀(i:Nat)(p:Nat×Value)(q:Nat×Nat×A),ps[i]?=some p->qs[i]?=some q->place p.1=some (q.1,q.2.1)/\VR κ p.2 q.2.2)->
 cells.size=cs.length->(∀(i:Nat)(v:Value)(b:A),cells.toList[i]?=some v->cs[i]?=some b->VR κ v b)->Qmt qs cs=some r->
 ∃out:Array Value,Instr.fill place cells ps=some out/\out.size=r.length/\∀(i:Nat)(v:Value)(b:A),out.toList[i]?=some v->r[i]?=some b->VR κ v b:=by
 intro ps;induction ps with
 |nil=>
  intro qs cells cs r hl _ hsz hv hf;cases qs with
  |nil=>simp only[Qmt,somI]at hf;subst hf;exact⟨cells,rfl,hsz,hv⟩
  |cons q qs=>simp at hl
 |cons p ps ih=>
  intro qs cells cs r hl hp hsz hv hf;cases qs with
  |nil=>simp at hl
  |cons q qs=>
   obtain⟨off,n,b⟩:=q;obtain⟨i,v⟩:=p;simp only[Qmt]at hf;split at hf
   .rename_i hc;obtain⟨hpl,hvr⟩:=hp 0 (i,v) (off,n,b) rfl rfl;obtain⟨hlc,hcv⟩:=A.cells_of hvr hc.2.1;simp only at hpl hlc;have hvs:v.cells.size=n:=by rw[<-hc.1,<-hlc];simp
    have hfs:=Qnz off v cells;have hsz2:(v.cells.zipIdx.foldl (λcs (p:Value×Nat)=>cs.setIfInBounds (off+p.2) p.1) cells).size=(setL cs off b.cells).length:=by rw[<-Q5v,hfs,Qcr,Qcr];simpa using hsz
    obtain⟨out,h1,h2,h3⟩:=ih qs _ (setL cs off b.cells) r (by simpa using hl) (λk p q hp' hq'=>hp (k+1) p q (by simpa using hp') (by simpa using hq')) hsz2 (λk u c hu hc'=>by
     rw[hfs,Qe7 _ _ _ _ (by simp;omega)]at hu;rw[Qe7 _ _ _ _ (by omega)]at hc';have hbl:v.cells.toList.length=b.cells.length:=hlc;rw[hbl]at hu;split at hu
     .rename_i hk;rw[if_pos hk]at hc';exact hcv _ u c hu hc'
     .rename_i hk;rw[if_neg hk]at hc';exact hv k u c hu hc') hf
    refine⟨out,?_,h2,h3⟩;simp only[Instr.fill,hpl];rw[if_neg (by simp;omega)];exact h1
   .cases hf
def Qj9{P:Program}{w:World}:∀(l:List Field),(∀f∈l,(P.info? f.type).isSome=true)->(l.mapM (λf=>(do pure (f.offset,<-sizeOf f.type):Sem (Nat×Nat)))).run P w=.ok (l.map λf=>(f.offset,((P.info? f.type).map (·.size)).getD 0)) w
 |[],_=>by simp
 |f::r,h=>by
  have ih:=Qj9 (P:=P) (w:=w) r (λg hg=>h g (by simp[hg]));obtain⟨i,hi⟩:=Option.isSome_iff_exists.1 (h f (by simp));simp only[Q3k,Q27,sizeOf,typeInfo,run_program,Q2s,hi,Q3u,Q2w,Q3q,Q4e];simp only[sizeOf,typeInfo]at ih;rw[ih];rfl
def Qbc{t:TypeId}{z:List D}(h:Y0 P t=some z):∃i v,P.info? t=some i/\i.zero=some v/\v.cells.size=z.length/\∀(σ:St)(j:Nat)(u:Value)(b:D),v.cells.toList[j]?=some u->z[j]?=some b->DR σ u b:=by
 unfold Y0 at h;split at h
 .rename_i i z' hi hzd;split at h
  .rename_i v hv;split at h
   .rename_i hok;cases h
    simp only[Q2t,beq_iff_eq,Q2n]at hok;obtain⟨hl,hall⟩:=hok;refine⟨i,v,hi,hv,by simpa using hl,λσ j u b hu hb=>Qi3 (hall (u,b) ?_)⟩;refine Q2p (i:=j) ?_;rw[Q5z];exact⟨hu,hb⟩
   .cases h
  .cases h
 .cases h
def Qb2:∀(l:List (Nat×Nat×TypeId)){κ:K}{H:Hp}{w:World}{vs:List Value}{cs:List A},HR κ H w->VR κ (.agg vs.toArray) (.agg cs)->
 ∃κ',κ.le κ'/\HR κ' (tokA H l cs).2 w/\VR κ' (.agg vs.toArray) (.agg (tokA H l cs).1)
 |[],κ,H,w,vs,cs,hr,hv=>⟨κ,K.le_refl _,hr,hv⟩
 |(j,sz,e)::r,κ,H,w,vs,cs,hr,hv=>by
  simp only[tokA];split
  .rename_i s hj;split
   .rename_i hs;subst hs;obtain⟨κ1,k1,k2,k3⟩:=hr.pushNil s e;have hv1:=hv.mono k1;have:VR κ1 (.agg vs.toArray) (.agg (cs.set j (.osl true s [] H.length))):=by
     cases hv1 with
     |agg vs' xs hl h=>
     refine .agg _ _ (by simpa using hl) λi v a hi ha=>?_;by_cases hij:j=i
     .subst hij;have hjl:=(Q11.1 hj).1;rw[Q17 hjl]at ha;cases ha
      have h2:=h j v _ hi hj;have:v=.slice none 0 0:=by
       rcases h2.d_inv.sl_inv with⟨e1,-⟩|⟨_,_,_,e1,-⟩|⟨b,o,cap,f,e1,hz,-⟩
       .exact e1
       .cases e1
       .exact absurd rfl (hz rfl)
      subst this;exact k3
     .rw[Q15 hij]at ha;exact h i v a hi ha
    obtain⟨κ2,m1,m2,m3⟩:=Qb2 r k2 this;exact⟨κ2,k1.trans m1,m2,m3⟩
   .split
    .rename_i hs;obtain⟨κ1,k1,k2,k3⟩:=hr.pushNilV s e;have hv1:=hv.mono k1;have:VR κ1 (.agg vs.toArray) (.agg (cs.set j (.vsl H.length 0 0))):=by
      cases hv1 with
      |agg vs' xs hl h=>
      refine .agg _ _ (by simpa using hl) λi v a hi ha=>?_;by_cases hij:j=i
      .subst hij;have hjl:=(Q11.1 hj).1;rw[Q17 hjl]at ha;cases ha
       have h2:=h j v _ hi hj;have:v=.slice none 0 0:=by
        rcases h2.d_inv.sl_inv with⟨e1,-⟩|⟨_,_,_,e1,-⟩|⟨b,o,cap,f,e1,hz,-⟩
        .exact e1
        .cases e1
        .exact absurd rfl (hz rfl)
       subst this;exact k3
      .rw[Q15 hij]at ha;exact h i v a hi ha
     obtain⟨κ2,m1,m2,m3⟩:=Qb2 r k2 this;exact⟨κ2,k1.trans m1,m2,m3⟩
    .exact Qb2 r hr hv
  .exact Qb2 r hr hv
def Qex:∀(l:List (Nat×Nat×TypeId))(H:Hp)(cs:List A),cs.all A.flat=true->(tokA H l cs).1.all A.flat=true
 |[],_,_,h=>h
 |(j,sz,e)::r,H,cs,h=>by
  simp only[tokA];split
  .split
   .refine Qex r _ _ (Q2n.2 λy hy=>?_);rcases Q3z hy with h1|h1
    .exact Q2n.1 h y h1
    .subst h1;rfl
   .split
    .refine Qex r _ _ (Q2n.2 λy hy=>?_);rcases Q3z hy with h1|h1
     .exact Q2n.1 h y h1
     .subst h1;rfl
    .exact Qex r _ _ h
  .exact Qex r _ _ h
def Qq7{t:TypeId}{cs:List D}{ts:List (Nat×Nat×TypeId)}(hs:SR κ nt fr H a w)(hz:Y0 P t=some cs)(h:Qj fr H (.allocU t cs ts)=some (x,H')):
 Does P (do pure (.value (<-Instr.alloc t true (.tuple #[])))) w κ H' x:=by
 simp only[Qj,somI,prdI]at h;obtain⟨rfl,rfl⟩:=h;obtain⟨i,v,hi,hv,hl,hall⟩:=Qbc hz;have hv0:VR κ (.agg v.cells.toList.toArray) (.agg (cs.map .d)):=.agg _ _ (by simpa using hl) λj u b hu hb=>by simp only[Q2d,Q13]at hb;obtain⟨d,hd,rfl⟩:=hb;exact .d (hall κ.σ j u d (by simpa using hu) hd)
 obtain⟨κ1,p1,p2,p3⟩:=Qb2 ts hs.hr hv0;have hcell:v.cells.toList.length=(tokA H ts (cs.map .d)).1.length/\∀(j:Nat)(u:Value)(b:A),v.cells.toList[j]?=some u->(tokA H ts (cs.map .d)).1[j]?=some b->VR κ1 u b:=by
  cases p3 with
  |agg vs xs hl h=>exact⟨by simpa using hl,λj u b hu hb=>h j u b (by simpa using hu) hb⟩
 obtain⟨κ',h1,h2,h3⟩:=p2.pushBox v.cells.toList (tokA H ts (cs.map .d)).1 t hcell.1 (Qex _ _ _ (by simp[A.flat])) hcell.2;refine⟨_,_,κ',.inl ?_,p1.trans h1,h2,h3⟩;refine Wg _ _ _ ?_;simp[Instr.alloc,zeroValue,typeInfo,hi,hv,newVar,newRow]
def Does.tokd{m:Sem Next}{κ:K}{H:Hp}{w:World}{cs:List A}(h:Does P m w κ H (.agg cs))(l:List (Nat×Nat×TypeId)):Does P m w κ (tokA H l cs).2 (.agg (tokA H l cs).1):=by
 obtain⟨u,w',κ',h1,h2,h3,h4⟩:=h;obtain⟨vs,rfl⟩:∃vs:List Value,u=.agg vs.toArray:=by
  cases h4 with
  |agg vs _ _ _=>exact⟨vs,rfl⟩
 obtain⟨κ2,m1,m2,m3⟩:=Qb2 l h3 h4;exact⟨_,w',κ2,h1,h2.trans m1,m2,m3⟩
def Qmv{t:TypeId}{fs:Array Field}{z:List D}{parts:Array (Nat×Operand)}{ps:List (Nat×Nat×Arg)}(hs:SR κ nt fr H a w)(ht:P.underlying t=some (.struct fs))(hz:Y0 P t=some z)(hps:parts.toList.mapM (λ(x:Nat×Operand)=>do
 let fd<-fs[x.1]?;let i<-P.info? fd.type;let y<-cArg P fd.type x.2
 pure (fd.offset,i.size,y))=some ps)(hfs:(fs.all λf=>(P.info? f.type).isSome)=true)(h:Qj fr H (.build z ps)=some (x,H')):
 Does P (do pure (.value (<-Instr.build t (parts.map λ(i,x)=>(i,a.eval x))))) w κ H' x:=by
 simp only[Qj,Q13]at h;obtain⟨cs,hcs,h⟩:=h;simp only[prdI]at h;obtain⟨rfl,rfl⟩:=h;obtain⟨ti,zv,h1,h2,h3,h4⟩:=Qbc hz;have hall:∀f∈fs.toList,(P.info? f.type).isSome=true:=λf hf=>Q6p.1 hfs f (by simpa using hf);have hpl:=Qj9 (P:=P) (w:=w) fs.toList hall;have hpl':(fs.mapM (λf=>(do pure (f.offset,<-sizeOf f.type):Sem (Nat×Nat)))).run P w=.ok ((fs.toList.map λf=>(f.offset,((P.info? f.type).map (·.size)).getD 0)).toArray) w:=by
  rw[Q63];simp only[Sem.run_map,hpl,Q2s]
 have key:∀(l:List (Nat×Operand))(ps:List (Nat×Nat×Arg)),l.mapM (λ(x:Nat×Operand)=>do
  let fd<-fs[x.1]?;let i<-P.info? fd.type;let y<-cArg P fd.type x.2
  pure (fd.offset,i.size,y))=some ps->l.length=ps.length/\∀(i:Nat)(p:Nat×Value)(q:Nat×Nat×A),(l.map λx=>(x.1,a.eval x.2))[i]?=some p->(ps.map λx=>(x.1,x.2.1,x.2.2.ev fr))[i]?=some q->
   (((fs.toList.map λf=>(f.offset,((P.info? f.type).map (·.size)).getD 0)).toArray)[p.1]?=some (q.1,q.2.1))/\VR κ p.2 q.2.2:=by
  intro l;induction l with
  |nil=>intro ps h;simp at h;subst h;simp
  |cons y r ih=>
   intro ps h;simp only[Q3k,Q2h,Q2a,Q2q,somI]at h;obtain⟨q,⟨fd,hfd,i,hi,y',hy',rfl⟩,qs,hqs,rfl⟩:=h;obtain⟨i1,i2⟩:=ih qs hqs;refine⟨by simp[i1],λk p q hp hq=>?_⟩;cases k with
   |zero=>
    simp at hp hq;subst hp;subst hq;refine⟨?_,Ql hy' hs⟩;simp[hfd,hi]
   |succ k=>exact i2 k p q (by simpa using hp) (by simpa using hq)
 obtain⟨k1,k2⟩:=key _ _ hps;obtain⟨out,f1,f2,f3⟩:=Qms (κ:=κ) (λi=>((fs.toList.map λf=>(f.offset,((P.info? f.type).map (·.size)).getD 0)).toArray)[i]?) (parts.toList.map λx=>(x.1,a.eval x.2)) _ zv.cells (z.map .d) cs
  (by simpa using k1) k2 (by simpa using h3) (λi v b hv hb=>by
   simp only[Q2d,Q13]at hb;obtain⟨d,hd,rfl⟩:=hb;exact .d (h4 _ i v d hv hd)) hcs
 refine .same (u:=.agg out) (Wg _ _ _ ?_) hs.hr ?_
 ·have e1:(parts.map λ(x:Nat×Operand)=>(x.1,a.eval x.2)).toList=parts.toList.map λx=>(x.1,a.eval x.2):=by simp
  simp only[Instr.build,zeroValue,typeInfo,Q27,run_program,Q2s,h1,Q3u,h2,run_underlying ht];simp only[hpl',Q2s];have e2:(Array.map (λ(x:Nat×Operand)=>match x with|(i,y)=>(i,a.eval y)) parts).toList=parts.toList.map λx=>(x.1,a.eval x.2):=by simp
  rw[e2];rw[f1];rfl
 ·have:out=out.toList.toArray:=by simp
  rw[this];exact .agg _ _ (by simpa using f2) f3
def Qq3{t e:TypeId}{n:Nat}{ei:TypeInfo}{z:List D}{parts:Array (Nat×Operand)}{ps:List (Nat×Nat×Arg)}(hs:SR κ nt fr H a w)(ht:P.underlying t=some (.array n e))(he:P.info? e=some ei)(hz:Y0 P t=some z)(hps:parts.toList.mapM (λ(x:Nat×Operand)=>do
 let y<-cArg P e x.2
 pure (x.1*ei.size,ei.size,y))=some ps)(h:Qj fr H (.build z ps)=some (x,H')):
 Does P (do pure (.value (<-Instr.build t (parts.map λ(i,x)=>(i,a.eval x))))) w κ H' x:=by
 simp only[Qj,Q13]at h;obtain⟨cs,hcs,h⟩:=h;simp only[prdI]at h;obtain⟨rfl,rfl⟩:=h;obtain⟨ti,zv,h1,h2,h3,h4⟩:=Qbc hz;have key:∀(l:List (Nat×Operand))(ps:List (Nat×Nat×Arg)),l.mapM (λ(x:Nat×Operand)=>do
  let y<-cArg P e x.2
  pure (x.1*ei.size,ei.size,y))=some ps->l.length=ps.length/\∀(i:Nat)(p:Nat×Value)(q:Nat×Nat×A),(l.map λx=>(x.1,a.eval x.2))[i]?=some p->(ps.map λx=>(x.1,x.2.1,x.2.2.ev fr))[i]?=some q->
   ((some (p.1*ei.size,ei.size):Option (Nat×Nat))=some (q.1,q.2.1))/\VR κ p.2 q.2.2:=by
  intro l;induction l with
  |nil=>intro ps h;simp at h;subst h;simp
  |cons y r ih=>
   intro ps h;simp only[Q3k,Q2h,Q2a,Q2q,somI]at h;obtain⟨q,⟨y',hy',rfl⟩,qs,hqs,rfl⟩:=h;obtain⟨i1,i2⟩:=ih qs hqs;refine⟨by simp[i1],λk p q hp hq=>?_⟩;cases k with
   |zero=>simp at hp hq;subst hp;subst hq;exact⟨rfl,Ql hy' hs⟩
   |succ k=>exact i2 k p q (by simpa using hp) (by simpa using hq)
 obtain⟨k1,k2⟩:=key _ _ hps;obtain⟨out,f1,f2,f3⟩:=Qms (κ:=κ) (λi=>some (i*ei.size,ei.size)) (parts.toList.map λx=>(x.1,a.eval x.2)) _ zv.cells (z.map .d) cs
  (by simpa using k1) k2 (by simpa using h3) (λi v b hv hb=>by simp only[Q2d,Q13]at hb;obtain⟨d,hd,rfl⟩:=hb;exact .d (h4 _ i v d hv hd)) hcs
 refine .same (u:=.agg out) (Wg _ _ _ ?_) hs.hr ?_
 .have e1:(parts.map λ(x:Nat×Operand)=>(x.1,a.eval x.2)).toList=parts.toList.map λx=>(x.1,a.eval x.2):=by simp
  simp only[Instr.build,zeroValue,sizeOf,typeInfo,Q27,run_program,Q2s,h1,he,Q3u,h2,run_underlying ht];have e2:(Array.map (λ(x:Nat×Operand)=>match x with|(i,y)=>(i,a.eval y)) parts).toList=parts.toList.map λx=>(x.1,a.eval x.2):=by simp
  rw[e2];rw[f1];rfl
 .have:out=out.toList.toArray:=by simp
  rw[this];exact .agg _ _ (by simpa using f2) f3
def DR.cells{σ:St}{z:Bool}{sz:Nat}{rows:List (List D)}{v:Value}(h:DR σ v (.sl z sz rows)){w:World}(hw:∀b o u,σ b o=some u->w.cell? ⟨b,o,none⟩=some u):
 ∃(ad:Option Addr)(cap:Nat)(vs:List Value),v=.slice ad rows.length cap/\rows.length<=cap/\(ad=none->rows=[]/\cap=0/\z=true)/\vs.length=rows.length*sz/\
 (∀q,ad=some q->(rows≠[]->q.spot=none)/\∀(j:Nat)(u:Value),vs[j]?=some u->w.cell? (q.add j)=some u)/\
 (∀(k j:Nat)(r:List D)(x:D),rows[k]?=some r->r[j]?=some x->∃u,vs[k*sz+j]?=some u/\DR σ u x)/\(∀u∈vs,u.oneCell'=true)/\(∀(k:Nat)(r:List D),rows[k]?=some r->r.length=sz):=by
 rcases h.sl_inv with⟨rfl,rfl,rfl⟩|⟨ad,cap,rfl,rfl,rfl⟩|⟨b,o,cap,f,rfl,hz,hcap,hrow,hc,hd⟩
 .exact⟨none,0,[],rfl,Q14 _,λ_=>⟨rfl,rfl,rfl⟩,by simp,λq hq=>by(cases hq),by simp,by simp,by simp⟩
 .exact⟨some ad,cap,[],rfl,Q49 _,λh=>by(cases h),by simp,λq _=>⟨λh=>absurd rfl h,by simp⟩,by simp,by simp,by simp⟩
 .by_cases hsz:sz=0
  .subst hsz;refine⟨_,cap,[],rfl,hcap,λh=>by(cases h),by simp,λq hq=>by cases hq;exact⟨λ_=>rfl,by simp⟩,λk j r x hr hx=>?_,by simp,hrow⟩;have:=hrow k r hr;have:r=[]:=Q2b this;subst this;simp at hx
  .have hat:∀i,i<rows.length*sz->∃r x,rows[i/sz]?=some r/\r[i%sz]?=some x:=λi hi=>by
    have hk:i/sz<rows.length:=Nat.div_lt_of_lt_mul (by rw[Q4s];exact hi);have hr:rows[i/sz]?=some rows[i/sz]:=Q12 hk;have hl:=hrow _ _ hr;have hj:i%sz<rows[i/sz].length:=by rw[hl];exact Nat.mod_lt _ (by omega)
    exact⟨_,_,hr,Q12 hj⟩
   refine⟨_,cap,(List.range (rows.length*sz)).map λi=>f (i/sz) (i%sz),rfl,hcap,λh=>by(cases h),by simp,λq hq=>?_,λk j r x hr hx=>?_,λu hu=>?_,hrow⟩
   .cases hq
    refine⟨λ_=>rfl,λi u hu=>?_⟩;simp only[Q2d,Q13]at hu;obtain⟨i',hi',rfl⟩:=hu;obtain⟨hlt,rfl⟩:i<rows.length*sz/\i=i':=by have h1:=Q11.1 hi';obtain⟨h1,h2⟩:=h1;simp at h1 h2;exact⟨h1,h2⟩
    obtain⟨r,x,hr,hx⟩:=hat i hlt;have:=hc _ _ r x hr hx;rw[Zt];refine hw _ _ _ ?_;rw[<-this,Q3r];congr 2;have:=Nat.div_add_mod i sz;rw[Q4s]at this;omega
   .have hk:k<rows.length:=(Q11.1 hr).1;have hj:j<sz:=by rw[<-hrow k r hr];exact(Q11.1 hx).1
    have hlt:k*sz+j<rows.length*sz:=by have:(k+1)*sz<=rows.length*sz:=Q2z _ hk;rw[Q29]at this;omega
    refine⟨f k j,?_,hd k j r x hr hx⟩;rw[Q2d,List.getElem?_range hlt];simp only[Q3q,somI];have d1:(k*sz+j)/sz=k:=by rw[Q4s,Q5r (by omega),Q5i hj];omega
    have d2:(k*sz+j)%sz=j:=by rw[Q4s,Nat.mul_add_mod];exact Nat.mod_eq_of_lt hj
    rw[d1,d2]
   .obtain⟨i,hi,rfl⟩:=Q3c.1 hu;obtain⟨r,x,hr,hx⟩:=hat i (by simpa using hi);have:=hd _ _ r x hr hx;exact(VR.d (κ:=⟨w,σ,λ_=>.none⟩) this).oneCell rfl
end
end
end Go.Zam
