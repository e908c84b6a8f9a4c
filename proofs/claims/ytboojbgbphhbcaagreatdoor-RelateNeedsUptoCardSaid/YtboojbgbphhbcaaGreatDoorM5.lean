/-
  Texts of one proof, one behind the other.
-/
import Derived.Test.YtboojbgbphhbcaaGreatDoorM4
import Derived.Test.YtboojbgbphhbcaaGreatDoorM3
import Derived.Test.YtboojbgbphhbcaaGreatDoorRows
import Derived.Test.YtboojbgbphhbcaaGreatDoorCards
import Derived.Test.YtboojbgbphhbcaaGreatDoorTie
import Derived.ProofKit
import Derived.OpenShut
import Derived.Deep.DeepHandedRow
import Derived.Lib.LaidTab
import Derived.Lib.LaidU8
import Derived.Stop.LaidErr
import Derived.SevenTiedAt
import Derived.Sort.Row
import Derived.Sort.Grow
import Derived.Sort.EncStr
import Derived.Laws.AppendOwn
import Derived.Lib.SlicesCompact
import Derived.Sort.Walk0
import Derived.KernelRfl
set_option linter.all false
set_option maxRecDepth 100000
set_option maxHeartbeats 4000000
namespace Go.Proofs.YtboojbgbphhbcaaGreatDoor
section
open Go Go.Zam
open Go.ChangeShapes Go.WideShapes Go.ChangeAt Go.RowKit
theorem isBulk (H:Type):IsBulk (X:=H) Rows.uptoBulk Rows.uptoBulkAll where
 str:=fun b=>by simp [Rows.uptoBulk]
 bool:=fun b=>by simp [Rows.uptoBulk]
 int:=fun k n=>by simp [Rows.uptoBulk]
 nil:=by simp [Rows.uptoBulk]
 slice:=fun e s=>by simp only [Rows.uptoBulk]; omega
 agg:=fun p=>by simp only [Rows.uptoBulk]; omega
 cons:=fun d r=>by simp only [Rows.uptoBulkAll]; omega
theorem own:ownKnob Tryz.prog.godebug=none:=by kernel_rfl
theorem laidOut:laidOutB Tryz.prog=true:=by kernel_rfl
def litCell:DataW Unit→Value
 | .lit (.int k n) => .int k n
 | .lit (.string s) => .string ⟨s.toArray⟩
 | _ => .tuple #[]
def litCells:DataW Unit→List Value
 | .agg l=>l.map litCell
 | x=>[litCell x]
def tabCells:DataW Unit→Array Value
 | .agg l=>(l.flatMap litCells).toArray
 | _ => #[]
def put (g:Nat) (cs:Array Value) (h:Array Obj):Array Obj:=h.modify g fun
 | .cells _ t frozen => .cells cs t frozen
 | o=>o
noncomputable def laidWorld (os:Os):World :=
 let w0:=World.holding Tryz.prog os ⟨#[.cells #[.string ⟨#[118,97,108,117,101,32,111,117,116,32,111,102,32,114,97,110,103,101]⟩] 170,.cells #[.string ⟨#[105,110,118,97,108,105,100,32,115,121,110,116,97,120]⟩] 170],#[],[]⟩
 let N:=(World.settled Tryz.prog os).heap.size
 { w0 with heap:=put 4 #[.iface 168 (.pointer (some ⟨N,0,none⟩))] (put 3 #[.iface 168 (.pointer (some ⟨N+1,0,none⟩))] (put 1 (tabCells Rows.laid_unicode_utf8_first) (put 2 (tabCells Rows.laid_unicode_utf8_acceptRanges) (put 5 (tabCells Rows.laid_internal_strconv_uint64pow10) (put 7 (tabCells Rows.laid_math_bits_deBruijn64tab) (put 6 (tabCells Rows.laid_math_bits_deBruijn32tab) w0.heap)))))) }
theorem star : "*" ++ "errors.errorString" = "*errors.errorString":=by decide
theorem rowErr (u:TypeId) (h:Tryz.prog.typeName? 3 u=some "*errors.errorString"):u=168 :=
 typeName_ptr_named (nm := "errors.errorString") (by rw [star]; kernel_rfl) (by kernel_rfl) (by decide) u (by rw [star]; exact h)
set_option maxRecDepth 100000 in
theorem laidOb {W:World} (h:laidMetH Tryz.prog Rows.relateFlowsUptoRow.laid W):∃ H0,LaidOb W H0∧TabsG 1 2 3 4 H0:=by
 have h':laidMet Tryz.prog Rows.relateFlowsUptoRow.laid W:=by
  rw [MakeChecks.laidMetH_plain _ _ _ (by kernel_rfl)] at h
  exact h
 have e1:Rows.laid_unicode_utf8_first=Lib.firstData:=by kernel_rfl
 have e2:Rows.laid_unicode_utf8_acceptRanges=Lib.acceptData:=by kernel_rfl
 have hU:Lib.Utf8Tabs 1 2 W :=
  utf8Tabs_of_reads (ρ:=Tryz.lays260_ren) { Tryz.lays260 with } ⟨by kernel_rfl,by kernel_rfl,by kernel_rfl,by kernel_rfl,by kernel_rfl,by kernel_rfl,by kernel_rfl⟩
   (e1 ▸ Lib.laidMet.reads h' (.tail _ (.tail _ (.tail _ (.tail _ (.tail _ (.tail _ (.head _)))))))) (e2 ▸ Lib.laidMet.reads h' (.tail _ (.tail _ (.tail _ (.head _)))))
 obtain ⟨a1,t1,hv1,-⟩:=laid_sentinel (g:=4) h'.tail.tail.tail.tail (by kernel_rfl) (by kernel_rfl) Tryz.underlying83 rowErr Tryz.underlying168 Tryz.underlying170 rfl rfl Tryz.underlying9 (by kernel_rfl) (by kernel_rfl)
 obtain ⟨a0,t0,hv0,-⟩:=laid_sentinel (g:=3) h'.tail.tail.tail.tail.tail (by kernel_rfl) (by kernel_rfl) Tryz.underlying83 rowErr Tryz.underlying168 Tryz.underlying170 rfl rfl Tryz.underlying9 (by kernel_rfl) (by kernel_rfl)
 obtain ⟨H1,hL1,hG1⟩:=laid_heap hU ⟨_,_,by rw [World.var?_cell (show Tryz.prog.globalNamed "strconv.ErrSyntax"=some 3 by kernel_rfl) hv0 0]; rfl⟩ ⟨_,_,by rw [World.var?_cell (show Tryz.prog.globalNamed "strconv.ErrRange"=some 4 by kernel_rfl) hv1 0]; rfl⟩
 exact ⟨H1,hL1,hG1⟩
theorem met (os:Os) (args:Array Value):laidMet Tryz.prog Rows.relateFlowsUptoRow.laid ((laidWorld os).forCall (fun _ _=>0) ⟨#[],args,[]⟩).memory:=laidMet_of_run' 8 (by kernel_rfl) (by kernel_rfl)
end
end Go.Proofs.YtboojbgbphhbcaaGreatDoor
namespace Go.Zam
section
open Go.RowKit (Below)
open Go.Proofs Go.Sort
def strRows (L:List (List UInt8)):List (List A):=L.map fun x=>[.d (.str x)]
theorem strRows_set (L:List (List UInt8)) (k:Nat) (x:List UInt8):strRows (L.set k x)=(strRows L).set k [.d (.str x)]:=by
 rw [strRows,List.map_set]; rfl
theorem below_ahead (w:World) (n:Nat):Below w.heap.size w (Go.Sort.ahead w n):=⟨rfl,rfl,rfl,Nat.le_refl _,fun _ _=>rfl⟩
theorem below_grow (w:World) (os:Array Obj):Below w.heap.size w (grow w os) :=
 ⟨rfl,rfl,rfl,by simp [grow],fun k hk=>by simp [grow,Array.getElem?_append_left hk]⟩
theorem HR.putRows {κ:K} {H:Hp} {w:World} (h:HR κ H w) {i b:Nat} {s:Option (TypeId × Nat)} {L0 d:List (List UInt8)} (hi:H[i]?=some (.arr 1 (strRows L0))) (hβ : κ.β i = .arr b 1 s) (hd:d.length=L0.length)
 (h0:Holds Go.Proofs.encStr w b 0 L0.toArray):∀ k:Nat,k≤L0.length→HR κ (H.set i (.arr 1 (strRows (d.take k++L0.drop k)))) (putRow Go.Proofs.encStr w b 0 (d.take k++L0.drop k).toArray)
 | 0, _ => by
   have hH:H.set i (.arr 1 (strRows L0))=H:=by
    refine List.ext_getElem? fun j => ?_
    by_cases hj:i=j
    · subst hj; rw [List.getElem?_set_self (List.getElem?_eq_some_iff.1 hi).1,hi]
    · rw [List.getElem?_set_ne hj]
   rw [List.take_zero,List.drop_zero,List.nil_append,hH,putRow_self _ _ _ _ _ h0]
   exact h
 | k + 1, hk => by
   have ih:=HR.putRows h hi hβ hd h0 k (by omega)
   have hil:i < H.length:=(List.getElem?_eq_some_iff.1 hi).1
   have hx:d.take (k+1)++L0.drop (k+1)=(d.take k++L0.drop k).set k (d[k]'(by omega)):=by
    have e1:L0.drop k=L0[k]'(by omega) :: L0.drop (k+1):=List.drop_eq_getElem_cons (by omega)
    have e2:d.take (k+1)=d.take k++[d[k]'(by omega)]:=List.take_succ_eq_append_getElem (by omega)
    have hm:k - (d.take k).length=0:=by simp; omega
    rw [e2,List.set_append_right _ _ (by simp; omega),hm,e1,List.set_cons_zero,List.append_assoc]
    rfl
   have hlen:(d.take k++L0.drop k).length=L0.length:=by simp; omega
   generalize d.take k++L0.drop k=X at ih hx hlen
   rw [hx]
   have hXk:X[k]?=some (X[k]'(by omega)):=List.getElem?_eq_getElem (by omega)
   have hrow:(strRows X)[k]?=some [.d (.str (X[k]'(by omega)))]:=by rw [strRows,List.getElem?_map,hXk]; rfl
   have:=ih.setArr (i:=i) (k:=k) (j:=0) (by rw [List.getElem?_set_self hil]) hβ hrow (by simp) (v:=Go.Proofs.encStr (d[k]'(by omega))) (a := .d (.str (d[k]'(by omega)))) rfl (.d (DR.strOf _))
   rw [List.set_set] at this
   have e3:=putRow_set Go.Proofs.encStr w b 0 X.toArray k (d[k]'(by omega)) (by simp; omega)
   rw [Nat.zero_add] at e3
   rw [Nat.mul_one,Nat.add_zero,e3] at this
   rw [strRows_set]
   simpa using this
def SortStr (P:Program) (f:FuncId):Prop:=∀ (blk off cap:Nat) (ss:List (List UInt8)) (w:World),Holds Go.Proofs.encStr w blk off ss.toArray→blk < w.heap.size→ss.length < 4611686018427387904 →
 Calls P f #[.slice (some ⟨blk,off,none⟩) ss.length cap] w fun e w'=>e = .returned (.tuple #[])∧∃ n os,w'=grow (putRow Go.Proofs.encStr (Go.Sort.ahead w n) blk off (ss.mergeSort fun x y=>decide (x≤y)).toArray) os
theorem sortStr_acall {P:Program} {f:FuncId} (hS:SortStr P f) {L:List (List UInt8)} (hne:L ≠ []) (hl:L.length < 4611686018427387904) {H:Hp} {i:Nat} (hi:H[i]?=some (.arr 1 (strRows L))) :
 ACall P f [.msl i 0 L.length] H (fun r H'=>r = .tup []∧H'=H.set i (.arr 1 (strRows (L.mergeSort fun x y=>decide (x≤y))))):=by
 intro κ w vs hr hvl hv
 match vs,hvl with
 | [v],_ =>
 have hv0:=hv 0 v _ rfl rfl
 have hpos:0 < L.length:=List.length_pos_iff.2 hne
 cases hv0 with
 | msl _ _ _ b sz o cap hb hcl ho hz =>
 obtain ⟨b',s',hβ',hsh,hc⟩:=hr.ob i _ hi
 obtain ⟨rfl,rfl⟩:b=b'∧sz=1:=by
  rcases hb with ⟨s,hb⟩ | hb
  · rw [hβ'] at hb; cases hb; exact ⟨rfl,rfl⟩
  · rw [hβ'] at hb; cases hb
 have ho':o=0:=by have:=ho hpos; omega
 subst ho'
 have hH0:∀ n,Holds Go.Proofs.encStr (Go.Sort.ahead w n) b 0 L.toArray:=fun n j hj=>by
  have hj':j < L.length:=by simpa using hj
  have hrow:(strRows L)[j]?=some [.d (.str L[j])]:=by rw [strRows,List.getElem?_map,List.getElem?_eq_getElem hj']; rfl
  obtain ⟨-,h2⟩:=hc j _ hrow
  obtain ⟨u,u1,u2,u3⟩:=h2 0 _ rfl
  have:=u3.d_inv.str_inv
  subst this
  rw [Nat.mul_one,Nat.add_zero] at u1 u2
  rw [Nat.zero_add]
  refine ⟨?_,u2⟩
  rw [cell?_ahead,u1]
  simp [Go.Proofs.encStr,getElem!_pos,hj']
 have hblk:=(hr.ex i b (by rw [hβ']; rfl)).2
 refine (hS b 0 cap L w (hH0 0) hblk hl).mono ?_
 rintro e w' ⟨rfl,n,os,rfl⟩
 have h1:HR κ H (Go.Sort.ahead w n):=hr.later (below_ahead w n)
 have hml:(L.mergeSort fun x y=>decide (x≤y)).length=L.length:=List.length_mergeSort L
 have h2:=h1.putRows hi hβ' hml (hH0 n) L.length (Nat.le_refl _)
 rw [List.take_of_length_le (by omega),List.drop_of_length_le (Nat.le_refl _),List.append_nil] at h2
 have h3:=h2.later (below_grow _ os)
 exact ⟨_,κ,.tup [],_,rfl,K.le_refl κ,h3,.tup [] [] rfl (by simp),rfl,rfl⟩
end
section
open Go.RowKit (Below)
open Go.Proofs Go.Sort
theorem HR.adopt {κ:K} {H:Hp} {w w':World} (h0:HR κ H w) (hb:Below w.heap.size w w') {g:Nat} (hg:w.heap.size≤g∧g < w'.heap.size) (x:Bind) (y:Ob) (hx:x.block=some g) (hfl:y.flat=true)
 (hy:OR { κ with β:=upd κ.β H.length x } w' H.length y) :
 κ.le { κ with β:=upd κ.β H.length x }∧HR { κ with β:=upd κ.β H.length x } (H++[y]) w':=by
 have h:HR κ H w':=h0.later hb
 have hn : κ.β H.length = .none:=h.dom _ (Nat.le_refl _)
 have hle : κ.le { κ with β:=upd κ.β H.length x }:=K.le_upd hn x
 have hst:∀ b p v,κ.σ b p=some v→b < w.heap.size:=fun b p v hv=>World.block_lt_of_cell? w ⟨b,p,none⟩ (h0.st b p v hv)
 refine ⟨hle,?_⟩
 have hw0 : κ.w0.heap.size≤w.heap.size:=h0.below.size
 refine ⟨h.below,fun b p v hv=>h.st b p v hv,fun i z hz => ?_,fun i hi => ?_,fun i b hb' => ?_,fun i b p hp => ?_,fun i j b hi hj => ?_,fun i z hz => ?_⟩
 · by_cases hi:i < H.length
   · rw [List.getElem?_append_left hi] at hz
     have hbi:upd κ.β H.length x i = κ.β i:=upd_ne _ _ (by omega)
     exact (h.ob i z hz).mono hle hbi fun b _=>rfl
   · have:i=H.length:=by
      have:=(List.getElem?_eq_some_iff.1 hz).1
      simp at this; omega
     subst this
     simp at hz
     subst hz
     exact hy
 · have h1:H.length+1≤i:=by simpa using hi
   show upd κ.β H.length x i=_
   rw [upd_ne _ _ (by omega)]; exact h.dom i (by omega)
 · by_cases hi:i=H.length
   · subst hi
     simp only [upd_same,hx,Option.some.injEq] at hb'
     subst hb'
     exact ⟨by show κ.w0.heap.size≤g; omega,hg.2⟩
   · simp only [upd_ne _ _ hi] at hb'
     exact h.ex i b hb'
 · by_cases hi:i=H.length
   · subst hi
     have hb':=Bind.block_of_owns hp
     simp only [upd_same,hx,Option.some.injEq] at hb'
     show κ.σ b p=none
     cases hs : κ.σ b p with
     | none=>rfl
     | some v=>have:=hst b p v hs; omega
   · simp only [upd_ne _ _ hi] at hp
     exact h.exσ i b p hp
 · have hold:∀ k,k ≠ H.length→∀ c,(κ.β k).block=some c→c < w.heap.size:=fun k _ c hc=>(h0.ex k c hc).2
   by_cases h1:i=H.length<;>by_cases h2:j=H.length
   · omega
   · subst h1
     simp only [upd_same,hx,Option.some.injEq,upd_ne _ _ h2] at hi hj
     have:=hold j h2 b hj; omega
   · subst h2
     simp only [upd_same,hx,Option.some.injEq,upd_ne _ _ h1] at hi hj
     have:=hold i h1 b hi; omega
   · simp only [upd_ne _ _ h1,upd_ne _ _ h2] at hi hj
     exact h.exd i j b hi hj
 · by_cases hi:i < H.length
   · rw [List.getElem?_append_left hi] at hz; exact h.fl i z hz
   · have:i=H.length:=by
      have:=(List.getElem?_eq_some_iff.1 hz).1
      simp at this; omega
     subst this
     simp at hz
     subst hz
     exact hfl
theorem HR.adoptStrs {κ:K} {H:Hp} {w w':World} (h:HR κ H w) (hb:Below w.heap.size w w') {e:TypeId} {v:Value} {L:List (List UInt8)} (hne:L ≠ []) (hr:w'.ownsRow w.heap.size e 1 v L.length (L.map Go.Proofs.encStr)) :
 ∃ κ',κ.le κ'∧HR κ' (H++[.arr 1 (strRows L)]) w'∧VR κ' v (.msl H.length 0 L.length):=by
 have hpos:0 < L.length:=List.length_pos_iff.2 hne
 rcases hr.2 with ⟨-,h0⟩ | ⟨g,cap,cur,rfl,hbase,hgb,r1,r2,r3,r4⟩
 · omega
 have hlt:g < w'.heap.size:=(Array.getElem?_eq_some_iff.1 hgb).1
 have hcell:∀ k,k < L.length→cur[k]?=some (Go.Proofs.encStr (L[k]!)):=fun k hk=>by
  have h1:(cur.toList.take (L.length * 1))[k]?=(L.map Go.Proofs.encStr)[k]?:=by rw [r4]
  rw [List.getElem?_take_of_lt (by omega),List.getElem?_map,List.getElem?_eq_getElem hk] at h1
  simpa [hk,getElem!_pos] using h1
 have:=h.adopt hb ⟨hbase,hlt⟩ (.arr g 1 none) (.arr 1 (strRows L)) rfl (by simp [Ob.flat,strRows,A.flat]) (by
  refine ⟨g,none,upd_same _ _ _,fun _ _ e=>(by cases e),fun k r hk => ?_⟩
  have hkl:k < L.length:=by have:=(List.getElem?_eq_some_iff.1 hk).1; simpa [strRows] using this
  rw [strRows,List.getElem?_map,List.getElem?_eq_getElem hkl] at hk
  cases hk
  refine ⟨rfl,fun j a ha => ?_⟩
  cases j with
  | succ j=>simp at ha
  | zero =>
    simp at ha
    subst ha
    have hc:=hcell k hkl
    refine ⟨Go.Proofs.encStr L[k],?_,?_,.d (DR.strOf _)⟩
    · rw [Nat.mul_one,Nat.add_zero]
      simp [World.cell?,hgb]
      simpa [hkl,getElem!_pos] using hc
    · simp [World.frozen?,hgb])
 exact ⟨_,this.1,this.2,(.msl _ _ _ _ _ _ _ (.inl ⟨_,upd_same _ _ _⟩) r1 (fun _=>by simp) (fun h0=>by omega))⟩
def CollectStr (P:Program) (f g:FuncId):Prop:=∀ (w:World) (Bs:Nat) (sv:Value) (L:List (List UInt8)),w.cell? ⟨Bs,0,none⟩=some sv→L.length≤1048576 →
 ((sv = .slice none 0 0∧L=[])∨∃ ad cap,sv = .slice (some ad) L.length cap∧(L ≠ []→ad.spot=none∧∀ (j:Nat) (x:List UInt8),L[j]?=some x→w.cell? ⟨ad.block,ad.off+j,none⟩=some (Go.Proofs.encStr x))) →
 Calls P f #[.slice none 0 0,.func (.func g) #[] #[.pointer (some ⟨Bs,0,none⟩)]] w fun e w'=>∃ (v:Value) (t:TypeId),e = .returned v∧w'.ownsRow w.heap.size t 1 v L.length (L.map Go.Proofs.encStr)∧(v = .slice none 0 0 ↔ L=[])∧Below w.heap.size w w'
theorem collect_acall {P:Program} {f g:FuncId} (hC:CollectStr P f g) {L:List (List UInt8)} (hl:L.length≤1048576) {H:Hp} {i bt:Nat} {z:Bool} (hi:H[i]?=some (.box bt [.d (.sl z 1 (L.map fun x=>[.str x]))])) :
 ACall P f [.d (.sl true 1 []),.fn (.func g) [] [.ptr i 0]] H (fun r H'=>(L=[]∧r = .d (.sl true 1 [])∧H'=H)∨(L ≠ []∧r = .msl H.length 0 L.length∧H'=H++[.arr 1 (strRows L)])):=by
 intro κ w vs hr hvl hv
 match vs,hvl with
 | [v1,v],_ =>
 have hv1:=(hv 0 v1 _ rfl rfl).d_inv
 have hn1:v1 = .slice none 0 0:=by
  rcases hv1.sl_inv with ⟨h1,-⟩ | ⟨_,_,_,h1,-⟩ | ⟨_,_,_,_,_,h1,-⟩
  · exact h1
  · cases h1
  · exact absurd rfl (h1 rfl)
 subst hn1
 have hv0:=hv 1 v _ rfl rfl
 cases hv0 with
 | fn _ vs1 vs2 _ _ hl1 hl2 h1 h2 =>
 match vs1,hl1,vs2,hl2 with
 | [],_,[u],_ =>
 have hu:=h2 0 u _ rfl rfl
 cases hu with
 | ptr _ _ b hb =>
 obtain ⟨b',hb',hsh,hc⟩:=hr.ob i _ hi
 have hbb:b'=b:=by rw [hb] at hb'; cases hb'; rfl
 subst hbb
 obtain ⟨sv,s1,s2,s3⟩:=hc 0 _ rfl
 have hd:=s3.d_inv
 refine (hC w b' sv L s1 hl ?_).mono ?_
 · rcases hd.sl_inv with ⟨h0,-,e⟩ | ⟨a,c,h0,-,e⟩ | ⟨b2,o,cap,fv,h0,hz,hcap,hrow,hcs,hds⟩
   · exact .inl ⟨h0,by simpa using e⟩
   · have hLe:L=[]:=by simpa using e
     subst hLe
     exact .inr ⟨a,c,h0,fun h=>absurd rfl h⟩
   · refine .inr ⟨⟨b2,o,none⟩,cap,by simpa using h0,fun _=>⟨rfl,fun j x hx => ?_⟩⟩
     have hrw:(L.map fun x=>[D.str x])[j]?=some [.str x]:=by simp [hx]
     have e1:=hr.st _ _ _ (hcs j 0 _ _ hrw rfl)
     have e2:=(hds j 0 _ _ hrw rfl).str_inv
     rw [e2] at e1
     simpa using e1
 rintro e w' ⟨v,t,rfl,hrow,hnil,hB⟩
 by_cases hLe:L=[]
 · have hvn:=hnil.2 hLe
   subst hvn
   exact ⟨_,κ,_,H,rfl,K.le_refl κ,hr.later hB,.d (.nilsl 1),.inl ⟨hLe,rfl,rfl⟩⟩
 · obtain ⟨κ',k1,k2,k3⟩:=hr.adoptStrs hB hLe hrow
   exact ⟨_,κ',_,_,rfl,k1,k2,k3,.inr ⟨hLe,rfl,rfl⟩⟩
end
def irTyFlows (c1 c2 t1 : Nat) : IFn := { nt := 110, res := [.t 4], body := ( .seq (.ops [⟨some 2,none,.box t1 3 (.t 0)⟩,⟨some 3,none,.box t1 3 (.t 1)⟩,⟨some 4,none,.mv (.c (.bool false))⟩] false) (.seq (.blk 0 (.seq (.ops [⟨some 12,none,.faddr 0 (.t 2)⟩,⟨some 13,none,.load 1 false (.t 12)⟩,⟨some 14,none,.bin .eql (.t 13) (.c (.int .i64 0))⟩,⟨some 15,none,.mv (.t 14)⟩,⟨some 16,some (15,false),.faddr 0 (.t 3)⟩,⟨some 17,some (15,false),.load 1 false (.t 16)⟩,⟨some 18,some (15,false),.bin .eql (.t 17) (.c (.int .i64 0))⟩,⟨some 19,none,.pick (.t 15) (.c (.bool true)) (.t 18)⟩,⟨some 11,none,.mv (.t 19)⟩] false) (.cond (.t 11) (.seq (.ops [⟨some 4,none,.mv (.c (.bool true))⟩] false) (.ret)) (.seq (.ops [⟨some 21,none,.faddr 0 (.t 2)⟩,⟨some 22,none,.load 1 false (.t 21)⟩,⟨some 23,none,.faddr 0 (.t 3)⟩,⟨some 24,none,.load 1 false (.t 23)⟩,⟨some 25,none,.bin .neq (.t 22) (.t 24)⟩,⟨some 20,none,.mv (.t 25)⟩] false) (.cond (.t 20) (.seq (.ops [⟨some 4,none,.mv (.c (.bool false))⟩] false) (.ret)) (.seq (.ops [⟨some 27,none,.faddr 0 (.t 2)⟩,⟨some 28,none,.load 1 false (.t 27)⟩,⟨some 29,none,.bin .eql (.t 28) (.c (.int .i64 3))⟩,⟨some 26,none,.mv (.t 29)⟩] false) (.cond (.t 26) (.seq (.ops [⟨some 30,none,.faddr 1 (.t 3)⟩,⟨some 31,none,.load 1 false (.t 30)⟩,⟨some 32,none,.lenL (.t 31)⟩,⟨some 33,none,.mv (.c (.int .i64 0))⟩] false) (.blk 1 (.loop (.seq (.ops [⟨some 34,none,.bin .lss (.t 33) (.t 32)⟩] false) (.seq (.cond (.t 34) (.skip) (.exit 1)) (.seq (.blk 2 (.seq (.ops [⟨some 35,none,.mv (.t 33)⟩,⟨some 36,none,.iaddr 1 (.t 31) (.t 33)⟩,⟨some 37,none,.load 1 false (.t 36)⟩,⟨some 5,none,.mv (.t 35)⟩,⟨some 6,none,.mv (.t 37)⟩] false) (.seq (.ops [⟨some 39,none,.load 3 true (.t 2)⟩,⟨some 40,none,.mv (.t 6)⟩,⟨some 41,none,.call c1 [(.t 39),(.t 40)]⟩,⟨some 38,none,.mv (.t 41)⟩,⟨some 42,none,.ext (.t 38) 0⟩,⟨some 43,none,.ext (.t 38) 1⟩,⟨some 7,none,.alloc t1 [(.int .i64 0),(.sl true 1 []),(.sl true 3 [])]⟩,⟨none,none,.store 3 (.t 7) (.t 42)⟩,⟨some 8,none,.mv (.t 43)⟩] false) (.seq (.ops [⟨some 44,none,.mv (.t 8)⟩,⟨some 45,none,.un .not (.t 44)⟩,⟨some 46,none,.mv (.t 45)⟩,⟨some 47,some (46,false),.mv (.t 5)⟩,⟨some 48,some (46,false),.faddr 2 (.t 3)⟩,⟨some 49,some (46,false),.load 1 false (.t 48)⟩,⟨some 50,some (46,false),.lenL (.t 49)⟩,⟨some 51,some (46,false),.bin .geq (.t 47) (.t 50)⟩,⟨some 52,none,.pick (.t 46) (.c (.bool true)) (.t 51)⟩,⟨some 53,none,.mv (.t 52)⟩,⟨some 54,some (53,false),.load 3 true (.t 7)⟩,⟨some 55,some (53,false),.faddr 2 (.t 3)⟩,⟨some 56,some (53,false),.load 1 false (.t 55)⟩,⟨some 57,some (53,false),.mv (.t 5)⟩,⟨some 58,some (53,false),.iaddr 3 (.t 56) (.t 57)⟩,⟨some 59,some (53,false),.load 3 true (.t 58)⟩,⟨some 60,some (53,false),.call c2 [(.t 54),(.t 59)]⟩,⟨some 61,some (53,false),.un .not (.t 60)⟩,⟨some 62,none,.pick (.t 53) (.c (.bool true)) (.t 61)⟩] true) (.cond (.t 62) (.seq (.ops [⟨some 4,none,.mv (.c (.bool false))⟩] false) (.ret)) (.skip)))))) (.ops [⟨some 63,none,.bin .add (.t 33) (.c (.int .i64 1))⟩,⟨some 33,none,.mv (.t 63)⟩] false))))))) (.seq (.ops [⟨some 65,none,.faddr 0 (.t 2)⟩,⟨some 66,none,.load 1 false (.t 65)⟩,⟨some 67,none,.bin .eql (.t 66) (.c (.int .i64 4))⟩,⟨some 64,none,.mv (.t 67)⟩] false) (.cond (.t 64) (.seq (.ops [⟨some 68,none,.faddr 2 (.t 2)⟩,⟨some 69,none,.load 1 false (.t 68)⟩,⟨some 70,none,.lenL (.t 69)⟩,⟨some 71,none,.bin .sub (.t 70) (.c (.int .i64 1))⟩,⟨some 9,none,.mv (.t 71)⟩] false) (.seq (.seq (.ops [⟨some 72,none,.faddr 2 (.t 3)⟩,⟨some 73,none,.load 1 false (.t 72)⟩,⟨some 74,none,.lenL (.t 73)⟩,⟨some 75,none,.bin .sub (.t 74) (.c (.int .i64 1))⟩,⟨some 76,none,.mv (.t 9)⟩,⟨some 77,none,.bin .neq (.t 75) (.t 76)⟩,⟨some 78,none,.mv (.t 77)⟩,⟨some 79,some (78,false),.mv (.t 9)⟩,⟨some 80,some (78,false),.bin .lss (.t 79) (.c (.int .i64 0))⟩,⟨some 81,none,.pick (.t 78) (.c (.bool true)) (.t 80)⟩] false) (.cond (.t 81) (.seq (.ops [⟨some 4,none,.mv (.c (.bool false))⟩] false) (.ret)) (.skip))) (.seq (.seq (.ops [⟨some 82,none,.mv (.t 9)⟩,⟨some 83,none,.mv (.c (.int .i64 0))⟩] false) (.blk 3 (.loop (.seq (.ops [⟨some 84,none,.bin .lss (.t 83) (.t 82)⟩] false) (.seq (.cond (.t 84) (.skip) (.exit 3)) (.seq (.blk 4 (.seq (.ops [⟨some 85,none,.mv (.t 83)⟩,⟨some 10,none,.mv (.t 85)⟩] false) (.seq (.ops [⟨some 86,none,.faddr 2 (.t 3)⟩,⟨some 87,none,.load 1 false (.t 86)⟩,⟨some 88,none,.mv (.t 10)⟩,⟨some 89,none,.iaddr 3 (.t 87) (.t 88)⟩,⟨some 90,none,.load 3 true (.t 89)⟩,⟨some 91,none,.faddr 2 (.t 2)⟩,⟨some 92,none,.load 1 false (.t 91)⟩,⟨some 93,none,.mv (.t 10)⟩,⟨some 94,none,.iaddr 3 (.t 92) (.t 93)⟩,⟨some 95,none,.load 3 true (.t 94)⟩,⟨some 96,none,.call c2 [(.t 90),(.t 95)]⟩,⟨some 97,none,.un .not (.t 96)⟩] true) (.cond (.t 97) (.seq (.ops [⟨some 4,none,.mv (.c (.bool false))⟩] false) (.ret)) (.skip))))) (.ops [⟨some 98,none,.bin .add (.t 83) (.c (.int .i64 1))⟩,⟨some 83,none,.mv (.t 98)⟩] false))))))) (.seq (.ops [⟨some 99,none,.faddr 2 (.t 2)⟩,⟨some 100,none,.load 1 false (.t 99)⟩,⟨some 101,none,.mv (.t 9)⟩,⟨some 102,none,.iaddr 3 (.t 100) (.t 101)⟩,⟨some 103,none,.load 3 true (.t 102)⟩,⟨some 104,none,.faddr 2 (.t 3)⟩,⟨some 105,none,.load 1 false (.t 104)⟩,⟨some 106,none,.mv (.t 9)⟩,⟨some 107,none,.iaddr 3 (.t 105) (.t 106)⟩,⟨some 108,none,.load 3 true (.t 107)⟩,⟨some 109,none,.call c2 [(.t 103),(.t 108)]⟩,⟨some 4,none,.mv (.t 109)⟩] true) (.ret))))) (.skip)))))))))) (.seq (.ops [⟨some 4,none,.mv (.c (.bool true))⟩] false) (.ret)))) }
def irTyRecord (c1 c2 c3 c4 c5 t1 : Nat) : IFn := { nt := 48, res := [.cell 4 3 true,.t 5], body := ( .seq (.ops [⟨some 4,none,.alloc t1 [(.int .i64 0),(.sl true 1 []),(.sl true 3 [])]⟩,⟨some 5,none,.mv (.c (.int .i64 0))⟩] false) (.seq (.seq (.ops [⟨some 10,none,.mv (.t 0)⟩,⟨some 11,none,.lenL (.t 10)⟩,⟨some 12,none,.mv (.t 1)⟩,⟨some 13,none,.lenL (.t 12)⟩,⟨some 14,none,.bin .neq (.t 11) (.t 13)⟩] false) (.cond (.t 14) (.seq (.ops [⟨some 15,none,.build [(.int .i64 0),(.sl true 1 []),(.sl true 3 [])] []⟩,⟨none,none,.store 3 (.t 4) (.t 15)⟩,⟨some 5,none,.mv (.c (.int .i64 1))⟩] false) (.ret)) (.skip))) (.seq (.ops [⟨some 16,none,.mv (.t 0)⟩,⟨some 17,none,.call c1 [(.t 16)]⟩,⟨some 18,none,.call c2 [(.t 17)]⟩,⟨some 6,none,.mv (.t 18)⟩] false) (.seq (.seq (.ops [⟨some 19,none,.mv (.t 6)⟩,⟨some 20,none,.call c3 [(.t 19)]⟩,⟨some 21,none,.call c4 [(.t 20)]⟩,⟨some 22,none,.lenL (.t 21)⟩,⟨some 23,none,.mv (.t 0)⟩,⟨some 24,none,.lenL (.t 23)⟩,⟨some 25,none,.bin .neq (.t 22) (.t 24)⟩] false) (.cond (.t 25) (.seq (.ops [⟨some 26,none,.build [(.int .i64 0),(.sl true 1 []),(.sl true 3 [])] []⟩,⟨none,none,.store 3 (.t 4) (.t 26)⟩,⟨some 5,none,.mv (.c (.int .i64 40))⟩] false) (.ret)) (.skip))) (.seq (.ops [⟨some 27,none,.mv (.t 6)⟩,⟨some 28,none,.buildT [(2,3, t1)] [(.int .i64 0),(.sl true 1 []),(.sl true 3 [])] [(0,1,(.c (.int .i64 3))),(1,1,(.t 27))]⟩,⟨some 7,none,.alloc t1 [(.int .i64 0),(.sl true 1 []),(.sl true 3 [])]⟩,⟨none,none,.store 3 (.t 7) (.t 28)⟩] false) (.seq (.seq (.ops [⟨some 29,none,.mv (.t 6)⟩,⟨some 30,none,.lenL (.t 29)⟩,⟨some 31,none,.mv (.c (.int .i64 0))⟩] false) (.blk 0 (.loop (.seq (.ops [⟨some 32,none,.bin .lss (.t 31) (.t 30)⟩] false) (.seq (.cond (.t 32) (.skip) (.exit 0)) (.seq (.blk 1 (.seq (.ops [⟨some 33,none,.iaddr 1 (.t 29) (.t 31)⟩,⟨some 34,none,.load 1 false (.t 33)⟩,⟨some 9,none,.mv (.t 34)⟩] false) (.ops [⟨some 35,none,.faddr 2 (.t 7)⟩,⟨some 36,none,.load 1 false (.t 35)⟩,⟨some 37,none,.mv (.t 1)⟩,⟨some 38,none,.mv (.t 0)⟩,⟨some 39,none,.mv (.t 9)⟩,⟨some 40,none,.call c5 [(.t 38),(.t 39)]⟩,⟨some 41,none,.iaddr 3 (.t 37) (.t 40)⟩,⟨some 42,none,.load 3 true (.t 41)⟩,⟨some 43,none,.bslice 3 [(.t 42)]⟩,⟨some 44,none,.app 3 56 t1 (.t 36) (.t 43)⟩,⟨some 45,none,.faddr 2 (.t 7)⟩,⟨none,none,.store 1 (.t 45) (.t 44)⟩] true))) (.ops [⟨some 46,none,.bin .add (.t 31) (.c (.int .i64 1))⟩,⟨some 31,none,.mv (.t 46)⟩] false))))))) (.seq (.ops [⟨some 47,none,.load 3 true (.t 7)⟩,⟨none,none,.store 3 (.t 4) (.t 47)⟩,⟨some 5,none,.mv (.c (.int .i64 0))⟩] false) (.ret)))))))) }
def irTyFunc (c1 t1 : Nat) : IFn := { nt := 11, res := [.cell 4 3 true], body := ( .seq (.ops [⟨some 2,none,.box t1 3 (.t 0)⟩,⟨some 4,none,.alloc t1 [(.int .i64 0),(.sl true 1 []),(.sl true 3 [])]⟩] false) (.seq (.seq (.ops [⟨some 5,none,.mv (.t 1)⟩] false) (.both (.seq (.ops [⟨some 6,none,.call c1 [(.t 5)]⟩] false) (.seq (.ops [⟨some 7,none,.load 3 true (.t 2)⟩] false) (.seq (.ops [⟨some 8,none,.bslice 3 [(.t 7)]⟩] false) (.seq (.ops [⟨some 9,none,.app 3 56 t1 (.t 6) (.t 8)⟩] false) (.seq (.ops [⟨some 10,none,.build [(.int .i64 0),(.sl true 1 []),(.sl true 3 [])] [(0,1,(.c (.int .i64 4))),(2,1,(.t 9))]⟩] false) (.seq (.ops [⟨none,none,.store 3 (.t 4) (.t 10)⟩] false) (.skip))))))) (.seq (.ops [⟨some 7,none,.load 3 true (.t 2)⟩] false) (.seq (.ops [⟨some 8,none,.bslice 3 [(.t 7)]⟩] false) (.seq (.ops [⟨some 6,none,.call c1 [(.t 5)]⟩] false) (.seq (.ops [⟨some 9,none,.app 3 56 t1 (.t 6) (.t 8)⟩] false) (.seq (.ops [⟨some 10,none,.build [(.int .i64 0),(.sl true 1 []),(.sl true 3 [])] [(0,1,(.c (.int .i64 4))),(2,1,(.t 9))]⟩] false) (.seq (.ops [⟨none,none,.store 3 (.t 4) (.t 10)⟩] false) (.skip))))))))) (.ret))) }
def irTyNeeds (c1 t1 : Nat) : IFn := { nt := 14, res := [.t 4], body := ( .seq (.ops [⟨some 2,none,.box t1 3 (.t 0)⟩,⟨some 3,none,.box t1 3 (.t 1)⟩,⟨some 4,none,.mv (.c (.bool false))⟩] false) (.seq (.ops [⟨some 5,none,.faddr 0 (.t 3)⟩,⟨some 6,none,.load 1 false (.t 5)⟩,⟨some 7,none,.bin .neq (.t 6) (.c (.int .i64 0))⟩,⟨some 8,none,.mv (.t 7)⟩,⟨some 9,some (8,true),.load 3 true (.t 2)⟩,⟨some 10,some (8,true),.load 3 true (.t 3)⟩,⟨some 11,some (8,true),.call c1 [(.t 9),(.t 10)]⟩,⟨some 12,some (8,true),.un .not (.t 11)⟩,⟨some 13,none,.pick (.t 8) (.t 12) (.c (.bool false))⟩,⟨some 4,none,.mv (.t 13)⟩] false) (.ret))) }
def irTyDepth (c1 t1 : Nat) : IFn := { nt := 20, res := [.t 2], body := ( .seq (.ops [⟨some 1,none,.box t1 3 (.t 0)⟩,⟨some 2,none,.mv (.c (.int .i64 0))⟩] false) (.seq (.ops [⟨some 3,none,.mv (.c (.int .i64 0))⟩] false) (.seq (.seq (.ops [⟨some 6,none,.faddr 2 (.t 1)⟩,⟨some 7,none,.load 1 false (.t 6)⟩,⟨some 8,none,.lenL (.t 7)⟩,⟨some 9,none,.mv (.c (.int .i64 0))⟩] false) (.blk 0 (.loop (.seq (.ops [⟨some 10,none,.bin .lss (.t 9) (.t 8)⟩] false) (.seq (.cond (.t 10) (.skip) (.exit 0)) (.seq (.blk 1 (.seq (.ops [⟨some 11,none,.iaddr 3 (.t 7) (.t 9)⟩,⟨some 12,none,.load 3 true (.t 11)⟩,⟨some 5,none,.alloc t1 [(.int .i64 0),(.sl true 1 []),(.sl true 3 [])]⟩,⟨none,none,.store 3 (.t 5) (.t 12)⟩] false) (.ops [⟨some 13,none,.mv (.t 3)⟩,⟨some 14,none,.load 3 true (.t 5)⟩,⟨some 15,none,.call c1 [(.t 14)]⟩,⟨some 16,none,.mm true (.t 13) (.t 15)⟩,⟨some 3,none,.mv (.t 16)⟩] false))) (.ops [⟨some 17,none,.bin .add (.t 9) (.c (.int .i64 1))⟩,⟨some 9,none,.mv (.t 17)⟩] false))))))) (.seq (.ops [⟨some 18,none,.mv (.t 3)⟩,⟨some 19,none,.bin .add (.t 18) (.c (.int .i64 1))⟩,⟨some 2,none,.mv (.t 19)⟩] false) (.ret))))) }
def irTyField (c1 t1 : Nat) : IFn := { nt := 34, res := [.cell 4 3 true,.t 5], body := ( .seq (.ops [⟨some 2,none,.box t1 3 (.t 0)⟩,⟨some 4,none,.alloc t1 [(.int .i64 0),(.sl true 1 []),(.sl true 3 [])]⟩,⟨some 5,none,.mv (.c (.bool false))⟩] false) (.seq (.seq (.ops [⟨some 8,none,.faddr 0 (.t 2)⟩,⟨some 9,none,.load 1 false (.t 8)⟩,⟨some 10,none,.bin .neq (.t 9) (.c (.int .i64 3))⟩] false) (.cond (.t 10) (.seq (.ops [⟨some 11,none,.build [(.int .i64 0),(.sl true 1 []),(.sl true 3 [])] []⟩,⟨none,none,.store 3 (.t 4) (.t 11)⟩,⟨some 5,none,.mv (.c (.bool false))⟩] false) (.ret)) (.skip))) (.seq (.ops [⟨some 13,none,.faddr 1 (.t 2)⟩,⟨some 14,none,.load 1 false (.t 13)⟩,⟨some 15,none,.mv (.t 1)⟩,⟨some 16,none,.call c1 [(.t 14),(.t 15)]⟩,⟨some 12,none,.mv (.t 16)⟩,⟨some 17,none,.ext (.t 12) 0⟩,⟨some 18,none,.ext (.t 12) 1⟩,⟨some 6,none,.mv (.t 17)⟩,⟨some 7,none,.mv (.t 18)⟩] false) (.seq (.seq (.ops [⟨some 19,none,.mv (.t 7)⟩,⟨some 20,none,.un .not (.t 19)⟩,⟨some 21,none,.mv (.t 20)⟩,⟨some 22,some (21,false),.mv (.t 6)⟩,⟨some 23,some (21,false),.faddr 2 (.t 2)⟩,⟨some 24,some (21,false),.load 1 false (.t 23)⟩,⟨some 25,some (21,false),.lenL (.t 24)⟩,⟨some 26,some (21,false),.bin .geq (.t 22) (.t 25)⟩,⟨some 27,none,.pick (.t 21) (.c (.bool true)) (.t 26)⟩] false) (.cond (.t 27) (.seq (.ops [⟨some 28,none,.build [(.int .i64 0),(.sl true 1 []),(.sl true 3 [])] []⟩,⟨none,none,.store 3 (.t 4) (.t 28)⟩,⟨some 5,none,.mv (.c (.bool false))⟩] false) (.ret)) (.skip))) (.seq (.ops [⟨some 29,none,.faddr 2 (.t 2)⟩,⟨some 30,none,.load 1 false (.t 29)⟩,⟨some 31,none,.mv (.t 6)⟩,⟨some 32,none,.iaddr 3 (.t 30) (.t 31)⟩,⟨some 33,none,.load 3 true (.t 32)⟩,⟨none,none,.store 3 (.t 4) (.t 33)⟩,⟨some 5,none,.mv (.c (.bool true))⟩] false) (.ret)))))) }
def irTyTwin (c1 c2 t1 : Nat) : IFn := { nt := 28, res := [.cell 2 3 true], body := ( .seq (.ops [⟨some 1,none,.box t1 3 (.t 0)⟩,⟨some 2,none,.alloc t1 [(.int .i64 0),(.sl true 1 []),(.sl true 3 [])]⟩] false) (.seq (.seq (.ops [⟨some 6,none,.faddr 0 (.t 1)⟩] false) (.seq (.ops [⟨some 8,none,.faddr 1 (.t 1)⟩] false) (.both (.seq (.ops [⟨some 7,none,.load 1 false (.t 6)⟩] false) (.both (.seq (.ops [⟨some 9,none,.load 1 false (.t 8)⟩] false) (.both (.seq (.ops [⟨some 10,none,.call c1 [(.t 9)]⟩] false) (.both (.seq (.ops [⟨some 11,none,.buildT [(2,3, t1)] [(.int .i64 0),(.sl true 1 []),(.sl true 3 [])] [(0,1,(.t 7)),(1,1,(.t 10))]⟩] false) (.seq (.ops [⟨some 3,none,.alloc t1 [(.int .i64 0),(.sl true 1 []),(.sl true 3 [])]⟩] false) (.seq (.ops [⟨none,none,.store 3 (.t 3) (.t 11)⟩] false) (.skip)))) (.seq (.ops [⟨some 3,none,.alloc t1 [(.int .i64 0),(.sl true 1 []),(.sl true 3 [])]⟩] false) (.seq (.ops [⟨some 11,none,.buildT [(2,3, t1)] [(.int .i64 0),(.sl true 1 []),(.sl true 3 [])] [(0,1,(.t 7)),(1,1,(.t 10))]⟩] false) (.seq (.ops [⟨none,none,.store 3 (.t 3) (.t 11)⟩] false) (.skip)))))) (.seq (.ops [⟨some 3,none,.alloc t1 [(.int .i64 0),(.sl true 1 []),(.sl true 3 [])]⟩] false) (.seq (.ops [⟨some 10,none,.call c1 [(.t 9)]⟩] false) (.seq (.ops [⟨some 11,none,.buildT [(2,3, t1)] [(.int .i64 0),(.sl true 1 []),(.sl true 3 [])] [(0,1,(.t 7)),(1,1,(.t 10))]⟩] false) (.seq (.ops [⟨none,none,.store 3 (.t 3) (.t 11)⟩] false) (.skip))))))) (.seq (.ops [⟨some 3,none,.alloc t1 [(.int .i64 0),(.sl true 1 []),(.sl true 3 [])]⟩] false) (.seq (.ops [⟨some 9,none,.load 1 false (.t 8)⟩] false) (.seq (.ops [⟨some 10,none,.call c1 [(.t 9)]⟩] false) (.seq (.ops [⟨some 11,none,.buildT [(2,3, t1)] [(.int .i64 0),(.sl true 1 []),(.sl true 3 [])] [(0,1,(.t 7)),(1,1,(.t 10))]⟩] false) (.seq (.ops [⟨none,none,.store 3 (.t 3) (.t 11)⟩] false) (.skip)))))))) (.both (.seq (.ops [⟨some 9,none,.load 1 false (.t 8)⟩] false) (.both (.seq (.ops [⟨some 7,none,.load 1 false (.t 6)⟩] false) (.both (.seq (.ops [⟨some 10,none,.call c1 [(.t 9)]⟩] false) (.both (.seq (.ops [⟨some 11,none,.buildT [(2,3, t1)] [(.int .i64 0),(.sl true 1 []),(.sl true 3 [])] [(0,1,(.t 7)),(1,1,(.t 10))]⟩] false) (.seq (.ops [⟨some 3,none,.alloc t1 [(.int .i64 0),(.sl true 1 []),(.sl true 3 [])]⟩] false) (.seq (.ops [⟨none,none,.store 3 (.t 3) (.t 11)⟩] false) (.skip)))) (.seq (.ops [⟨some 3,none,.alloc t1 [(.int .i64 0),(.sl true 1 []),(.sl true 3 [])]⟩] false) (.seq (.ops [⟨some 11,none,.buildT [(2,3, t1)] [(.int .i64 0),(.sl true 1 []),(.sl true 3 [])] [(0,1,(.t 7)),(1,1,(.t 10))]⟩] false) (.seq (.ops [⟨none,none,.store 3 (.t 3) (.t 11)⟩] false) (.skip)))))) (.seq (.ops [⟨some 3,none,.alloc t1 [(.int .i64 0),(.sl true 1 []),(.sl true 3 [])]⟩] false) (.seq (.ops [⟨some 10,none,.call c1 [(.t 9)]⟩] false) (.seq (.ops [⟨some 11,none,.buildT [(2,3, t1)] [(.int .i64 0),(.sl true 1 []),(.sl true 3 [])] [(0,1,(.t 7)),(1,1,(.t 10))]⟩] false) (.seq (.ops [⟨none,none,.store 3 (.t 3) (.t 11)⟩] false) (.skip))))))) (.both (.seq (.ops [⟨some 10,none,.call c1 [(.t 9)]⟩] false) (.both (.seq (.ops [⟨some 7,none,.load 1 false (.t 6)⟩] false) (.both (.seq (.ops [⟨some 11,none,.buildT [(2,3, t1)] [(.int .i64 0),(.sl true 1 []),(.sl true 3 [])] [(0,1,(.t 7)),(1,1,(.t 10))]⟩] false) (.seq (.ops [⟨some 3,none,.alloc t1 [(.int .i64 0),(.sl true 1 []),(.sl true 3 [])]⟩] false) (.seq (.ops [⟨none,none,.store 3 (.t 3) (.t 11)⟩] false) (.skip)))) (.seq (.ops [⟨some 3,none,.alloc t1 [(.int .i64 0),(.sl true 1 []),(.sl true 3 [])]⟩] false) (.seq (.ops [⟨some 11,none,.buildT [(2,3, t1)] [(.int .i64 0),(.sl true 1 []),(.sl true 3 [])] [(0,1,(.t 7)),(1,1,(.t 10))]⟩] false) (.seq (.ops [⟨none,none,.store 3 (.t 3) (.t 11)⟩] false) (.skip)))))) (.seq (.ops [⟨some 3,none,.alloc t1 [(.int .i64 0),(.sl true 1 []),(.sl true 3 [])]⟩] false) (.seq (.ops [⟨some 7,none,.load 1 false (.t 6)⟩] false) (.seq (.ops [⟨some 11,none,.buildT [(2,3, t1)] [(.int .i64 0),(.sl true 1 []),(.sl true 3 [])] [(0,1,(.t 7)),(1,1,(.t 10))]⟩] false) (.seq (.ops [⟨none,none,.store 3 (.t 3) (.t 11)⟩] false) (.skip))))))) (.seq (.ops [⟨some 3,none,.alloc t1 [(.int .i64 0),(.sl true 1 []),(.sl true 3 [])]⟩] false) (.both (.seq (.ops [⟨some 7,none,.load 1 false (.t 6)⟩] false) (.seq (.ops [⟨some 10,none,.call c1 [(.t 9)]⟩] false) (.seq (.ops [⟨some 11,none,.buildT [(2,3, t1)] [(.int .i64 0),(.sl true 1 []),(.sl true 3 [])] [(0,1,(.t 7)),(1,1,(.t 10))]⟩] false) (.seq (.ops [⟨none,none,.store 3 (.t 3) (.t 11)⟩] false) (.skip))))) (.seq (.ops [⟨some 10,none,.call c1 [(.t 9)]⟩] false) (.seq (.ops [⟨some 7,none,.load 1 false (.t 6)⟩] false) (.seq (.ops [⟨some 11,none,.buildT [(2,3, t1)] [(.int .i64 0),(.sl true 1 []),(.sl true 3 [])] [(0,1,(.t 7)),(1,1,(.t 10))]⟩] false) (.seq (.ops [⟨none,none,.store 3 (.t 3) (.t 11)⟩] false) (.skip)))))))))) (.seq (.ops [⟨some 3,none,.alloc t1 [(.int .i64 0),(.sl true 1 []),(.sl true 3 [])]⟩] false) (.both (.seq (.ops [⟨some 7,none,.load 1 false (.t 6)⟩] false) (.seq (.ops [⟨some 9,none,.load 1 false (.t 8)⟩] false) (.seq (.ops [⟨some 10,none,.call c1 [(.t 9)]⟩] false) (.seq (.ops [⟨some 11,none,.buildT [(2,3, t1)] [(.int .i64 0),(.sl true 1 []),(.sl true 3 [])] [(0,1,(.t 7)),(1,1,(.t 10))]⟩] false) (.seq (.ops [⟨none,none,.store 3 (.t 3) (.t 11)⟩] false) (.skip)))))) (.seq (.ops [⟨some 9,none,.load 1 false (.t 8)⟩] false) (.both (.seq (.ops [⟨some 7,none,.load 1 false (.t 6)⟩] false) (.seq (.ops [⟨some 10,none,.call c1 [(.t 9)]⟩] false) (.seq (.ops [⟨some 11,none,.buildT [(2,3, t1)] [(.int .i64 0),(.sl true 1 []),(.sl true 3 [])] [(0,1,(.t 7)),(1,1,(.t 10))]⟩] false) (.seq (.ops [⟨none,none,.store 3 (.t 3) (.t 11)⟩] false) (.skip))))) (.seq (.ops [⟨some 10,none,.call c1 [(.t 9)]⟩] false) (.seq (.ops [⟨some 7,none,.load 1 false (.t 6)⟩] false) (.seq (.ops [⟨some 11,none,.buildT [(2,3, t1)] [(.int .i64 0),(.sl true 1 []),(.sl true 3 [])] [(0,1,(.t 7)),(1,1,(.t 10))]⟩] false) (.seq (.ops [⟨none,none,.store 3 (.t 3) (.t 11)⟩] false) (.skip))))))))))))) (.seq (.seq (.ops [⟨some 12,none,.faddr 2 (.t 1)⟩,⟨some 13,none,.load 1 false (.t 12)⟩,⟨some 14,none,.lenL (.t 13)⟩,⟨some 15,none,.mv (.c (.int .i64 0))⟩] false) (.blk 0 (.loop (.seq (.ops [⟨some 16,none,.bin .lss (.t 15) (.t 14)⟩] false) (.seq (.cond (.t 16) (.skip) (.exit 0)) (.seq (.blk 1 (.seq (.ops [⟨some 17,none,.iaddr 3 (.t 13) (.t 15)⟩,⟨some 18,none,.load 3 true (.t 17)⟩,⟨some 5,none,.alloc t1 [(.int .i64 0),(.sl true 1 []),(.sl true 3 [])]⟩,⟨none,none,.store 3 (.t 5) (.t 18)⟩] false) (.ops [⟨some 19,none,.faddr 2 (.t 3)⟩,⟨some 20,none,.load 1 false (.t 19)⟩,⟨some 21,none,.load 3 true (.t 5)⟩,⟨some 22,none,.call c2 [(.t 21)]⟩,⟨some 23,none,.bslice 3 [(.t 22)]⟩,⟨some 24,none,.app 3 56 t1 (.t 20) (.t 23)⟩,⟨some 25,none,.faddr 2 (.t 3)⟩,⟨none,none,.store 1 (.t 25) (.t 24)⟩] true))) (.ops [⟨some 26,none,.bin .add (.t 15) (.c (.int .i64 1))⟩,⟨some 15,none,.mv (.t 26)⟩] false))))))) (.seq (.ops [⟨some 27,none,.load 3 true (.t 3)⟩,⟨none,none,.store 3 (.t 2) (.t 27)⟩] false) (.ret))))) }
def irTyParse (c1 c2 t1 t2 : Nat) : IFn := { nt := 19, res := [.cell 2 3 true,.t 3], body := ( .seq (.ops [⟨some 2,none,.alloc t1 [(.int .i64 0),(.sl true 1 []),(.sl true 3 [])]⟩,⟨some 3,none,.mv (.c (.int .i64 0))⟩] false) (.seq (.ops [⟨some 7,none,.mv (.t 0)⟩,⟨some 8,none,.call c1 [(.t 7)]⟩,⟨some 6,none,.mv (.t 8)⟩,⟨some 9,none,.ext (.t 6) 0⟩,⟨some 10,none,.ext (.t 6) 1⟩,⟨some 4,none,.alloc t2 [(.int .i64 0),(.int .i64 0),(.int .i64 0),(.str []),(.int .i64 0),(.sl true 6 [])]⟩,⟨none,none,.store 6 (.t 4) (.t 9)⟩,⟨some 5,none,.mv (.t 10)⟩] false) (.seq (.seq (.ops [⟨some 11,none,.mv (.t 5)⟩,⟨some 12,none,.bin .neq (.t 11) (.c (.int .i64 0))⟩] false) (.cond (.t 12) (.seq (.ops [⟨some 13,none,.build [(.int .i64 0),(.sl true 1 []),(.sl true 3 [])] []⟩,⟨some 14,none,.mv (.t 5)⟩,⟨none,none,.store 3 (.t 2) (.t 13)⟩,⟨some 3,none,.mv (.t 14)⟩] false) (.ret)) (.skip))) (.seq (.ops [⟨some 15,none,.load 6 true (.t 4)⟩,⟨some 16,none,.call c2 [(.t 15)]⟩,⟨some 17,none,.ext (.t 16) 0⟩,⟨some 18,none,.ext (.t 16) 1⟩,⟨none,none,.store 3 (.t 2) (.t 17)⟩,⟨some 3,none,.mv (.t 18)⟩] false) (.ret))))) }
def irTySame (c1 c2 c3 t1 : Nat) : IFn := { nt := 24, res := [.t 4], body := ( .seq (.ops [⟨some 2,none,.box t1 3 (.t 0)⟩,⟨some 3,none,.box t1 3 (.t 1)⟩,⟨some 4,none,.mv (.c (.bool false))⟩] false) (.seq (.ops [⟨some 5,none,.faddr 0 (.t 2)⟩,⟨some 6,none,.load 1 false (.t 5)⟩,⟨some 7,none,.faddr 0 (.t 3)⟩,⟨some 8,none,.load 1 false (.t 7)⟩,⟨some 9,none,.bin .eql (.t 6) (.t 8)⟩,⟨some 10,none,.mv (.t 9)⟩,⟨some 11,some (10,true),.faddr 1 (.t 2)⟩,⟨some 12,some (10,true),.load 1 false (.t 11)⟩,⟨some 13,some (10,true),.faddr 1 (.t 3)⟩,⟨some 14,some (10,true),.load 1 false (.t 13)⟩,⟨some 15,some (10,true),.call c1 [(.t 12),(.t 14)]⟩,⟨some 16,none,.pick (.t 10) (.t 15) (.c (.bool false))⟩,⟨some 17,none,.mv (.t 16)⟩,⟨some 18,some (17,true),.faddr 2 (.t 2)⟩,⟨some 19,some (17,true),.load 1 false (.t 18)⟩,⟨some 20,some (17,true),.faddr 2 (.t 3)⟩,⟨some 21,some (17,true),.load 1 false (.t 20)⟩,⟨some 22,some (17,true),.call c2 [(.t 19),(.t 21),(.c (.fn c3))]⟩,⟨some 23,none,.pick (.t 17) (.t 22) (.c (.bool false))⟩,⟨some 4,none,.mv (.t 23)⟩] false) (.ret))) }
def irSlSorted (c1 c2 : Nat) : IFn := { nt := 9, res := [.t 2], body := ( .seq (.ops [⟨some 2,none,.mv (.c (.sl true 1 []))⟩] false) (.seq (.ops [⟨some 4,none,.mv (.t 0)⟩,⟨some 5,none,.call c1 [(.t 4)]⟩,⟨some 3,none,.mv (.t 5)⟩] false) (.seq (.ops [⟨some 6,none,.mv (.t 3)⟩,⟨some 7,none,.call c2 [(.t 6)]⟩] false) (.seq (.ops [⟨some 8,none,.mv (.t 3)⟩,⟨some 2,none,.mv (.t 8)⟩] false) (.ret))))) }
def irSlValues (c1 t1 : Nat) : IFn := { nt := 4, res := [.t 2], body := ( .seq (.ops [⟨some 1,none,.box t1 1 (.t 0)⟩,⟨some 2,none,.mv (.c .nilf)⟩] false) (.seq (.ops [⟨some 3,none,.mkfn (.func c1) [] [(.t 1)]⟩,⟨some 2,none,.mv (.t 3)⟩] false) (.ret))) }
def irClT (t1 : Nat) : IFn := { nt := 8, res := [.t 2], body := ( .seq (.ops [⟨some 2,none,.nilT 3 t1⟩] false) (.seq (.seq (.ops [⟨some 3,none,.mv (.t 0)⟩,⟨some 4,none,.isNilS false (.t 3)⟩] false) (.cond (.t 4) (.seq (.ops [⟨some 2,none,.nilT 3 t1⟩] false) (.ret)) (.skip))) (.seq (.ops [⟨some 5,none,.bsliceT 3 t1 []⟩,⟨some 6,none,.mv (.t 0)⟩,⟨some 7,none,.app 3 56 t1 (.t 5) (.t 6)⟩,⟨some 2,none,.mv (.t 7)⟩] false) (.ret)))) }
def irTyEqF (t1 : Nat) : IFn := { nt := 32, res := [.t 6], body := ( .seq (.ops [⟨some 6,none,.mv (.c (.bool false))⟩] false) (.seq (.seq (.ops [⟨some 10,none,.mv (.t 0)⟩,⟨some 11,none,.lenL (.t 10)⟩,⟨some 12,none,.mv (.t 1)⟩,⟨some 13,none,.lenL (.t 12)⟩,⟨some 14,none,.bin .neq (.t 11) (.t 13)⟩] false) (.cond (.t 14) (.seq (.ops [⟨some 6,none,.mv (.c (.bool false))⟩] false) (.ret)) (.skip))) (.seq (.seq (.ops [⟨some 15,none,.mv (.t 0)⟩,⟨some 16,none,.lenL (.t 15)⟩,⟨some 17,none,.mv (.c (.int .i64 0))⟩] false) (.blk 0 (.loop (.seq (.ops [⟨some 18,none,.bin .lss (.t 17) (.t 16)⟩] false) (.seq (.cond (.t 18) (.skip) (.exit 0)) (.seq (.blk 1 (.seq (.ops [⟨some 19,none,.mv (.t 17)⟩,⟨some 20,none,.iaddr 3 (.t 15) (.t 17)⟩,⟨some 21,none,.load 3 true (.t 20)⟩,⟨some 8,none,.alloc t1 [(.int .i64 0),(.sl true 1 []),(.sl true 3 [])]⟩,⟨some 7,none,.mv (.t 19)⟩,⟨none,none,.store 3 (.t 8) (.t 21)⟩] false) (.seq (.ops [⟨some 22,none,.mv (.t 1)⟩,⟨some 23,none,.mv (.t 7)⟩,⟨some 24,none,.iaddr 3 (.t 22) (.t 23)⟩,⟨some 25,none,.load 3 true (.t 24)⟩,⟨some 9,none,.alloc t1 [(.int .i64 0),(.sl true 1 []),(.sl true 3 [])]⟩,⟨none,none,.store 3 (.t 9) (.t 25)⟩] false) (.seq (.ops [⟨some 26,none,.mv (.t 2)⟩,⟨some 27,none,.load 3 true (.t 8)⟩,⟨some 28,none,.load 3 true (.t 9)⟩,⟨some 29,none,.callv (.t 26) [(.t 27),(.t 28)]⟩,⟨some 30,none,.un .not (.t 29)⟩] false) (.cond (.t 30) (.seq (.ops [⟨some 6,none,.mv (.c (.bool false))⟩] false) (.ret)) (.skip)))))) (.ops [⟨some 31,none,.bin .add (.t 17) (.c (.int .i64 1))⟩,⟨some 17,none,.mv (.t 31)⟩] false))))))) (.seq (.ops [⟨some 6,none,.mv (.c (.bool true))⟩] false) (.ret))))) }
def irSlBins (c1 c2 : Nat) : IFn := { nt := 54, res := [.t 4,.t 5], body := ( .seq (.ops [⟨some 4,none,.mv (.c (.int .i64 0))⟩,⟨some 5,none,.mv (.c (.bool false))⟩] false) (.seq (.ops [⟨some 10,none,.mv (.t 0)⟩,⟨some 11,none,.lenL (.t 10)⟩,⟨some 6,none,.mv (.t 11)⟩] false) (.seq (.ops [⟨some 12,none,.mv (.t 6)⟩,⟨some 7,none,.mv (.c (.int .i64 0))⟩,⟨some 8,none,.mv (.t 12)⟩] false) (.seq (.blk 0 (.loop (.seq (.seq (.ops [⟨some 13,none,.mv (.t 7)⟩,⟨some 14,none,.mv (.t 8)⟩,⟨some 15,none,.bin .lss (.t 13) (.t 14)⟩] false) (.cond (.t 15) (.skip) (.exit 0))) (.blk 1 (.seq (.ops [⟨some 16,none,.mv (.t 7)⟩,⟨some 17,none,.mv (.t 8)⟩,⟨some 18,none,.bin .add (.t 16) (.t 17)⟩,⟨some 19,none,.cvt .u64 (.t 18)⟩,⟨some 20,none,.bin .shr (.t 19) (.c (.int .u64 1))⟩,⟨some 21,none,.cvt .i64 (.t 20)⟩,⟨some 9,none,.mv (.t 21)⟩] false) (.seq (.ops [⟨some 22,none,.mv (.t 0)⟩,⟨some 23,none,.mv (.t 9)⟩,⟨some 24,none,.iaddr 1 (.t 22) (.t 23)⟩,⟨some 25,none,.load 1 false (.t 24)⟩,⟨some 26,none,.mv (.t 1)⟩,⟨some 27,none,.call c1 [(.t 25),(.t 26)]⟩] false) (.cond (.t 27) (.ops [⟨some 28,none,.mv (.t 9)⟩,⟨some 29,none,.bin .add (.t 28) (.c (.int .i64 1))⟩,⟨some 7,none,.mv (.t 29)⟩] false) (.ops [⟨some 30,none,.mv (.t 9)⟩,⟨some 8,none,.mv (.t 30)⟩] false)))))))) (.seq (.ops [⟨some 31,none,.mv (.t 7)⟩,⟨some 32,none,.mv (.t 7)⟩,⟨some 33,none,.mv (.t 6)⟩,⟨some 34,none,.bin .lss (.t 32) (.t 33)⟩,⟨some 35,none,.mv (.t 34)⟩,⟨some 36,some (35,true),.mv (.t 0)⟩,⟨some 37,some (35,true),.mv (.t 7)⟩,⟨some 38,some (35,true),.iaddr 1 (.t 36) (.t 37)⟩,⟨some 39,some (35,true),.load 1 false (.t 38)⟩,⟨some 40,some (35,true),.mv (.t 1)⟩,⟨some 41,some (35,true),.bin .eql (.t 39) (.t 40)⟩,⟨some 42,some (35,true),.mv (.t 41)⟩,⟨some 43,some (42,false),.mv (.t 0)⟩,⟨some 44,some (42,false),.mv (.t 7)⟩,⟨some 45,some (42,false),.iaddr 1 (.t 43) (.t 44)⟩,⟨some 46,some (42,false),.load 1 false (.t 45)⟩,⟨some 47,some (42,false),.call c2 [(.t 46)]⟩,⟨some 48,some (42,false),.mv (.t 47)⟩,⟨some 49,some (48,true),.mv (.t 1)⟩,⟨some 50,some (48,true),.call c2 [(.t 49)]⟩,⟨some 51,some (42,false),.pick (.t 48) (.t 50) (.c (.bool false))⟩,⟨some 52,some (35,true),.pick (.t 42) (.c (.bool true)) (.t 51)⟩,⟨some 53,none,.pick (.t 35) (.t 52) (.c (.bool false))⟩,⟨some 4,none,.mv (.t 31)⟩,⟨some 5,none,.mv (.t 53)⟩] false) (.ret)))))) }
def irTyOf (c1 c2 t1 t2 : Nat) : IFn := { nt := 22, res := [.cell 2 3 true,.t 3], body := ( .seq (.ops [⟨some 1,none,.box t1 6 (.t 0)⟩,⟨some 2,none,.alloc t2 [(.int .i64 0),(.sl true 1 []),(.sl true 3 [])]⟩,⟨some 3,none,.mv (.c (.int .i64 0))⟩] false) (.seq (.ops [⟨some 7,none,.load 6 true (.t 1)⟩,⟨some 8,none,.call c1 [(.t 7)]⟩,⟨some 6,none,.mv (.t 8)⟩,⟨some 9,none,.ext (.t 6) 0⟩,⟨some 10,none,.ext (.t 6) 1⟩,⟨some 4,none,.alloc t2 [(.int .i64 0),(.sl true 1 []),(.sl true 3 [])]⟩,⟨none,none,.store 3 (.t 4) (.t 9)⟩,⟨some 5,none,.mv (.t 10)⟩] false) (.seq (.blk 0 (.seq (.ops [⟨some 12,none,.mv (.t 5)⟩,⟨some 13,none,.bin .neq (.t 12) (.c (.int .i64 0))⟩,⟨some 11,none,.mv (.t 13)⟩] false) (.cond (.t 11) (.seq (.ops [⟨some 14,none,.build [(.int .i64 0),(.sl true 1 []),(.sl true 3 [])] []⟩,⟨some 15,none,.mv (.t 5)⟩,⟨none,none,.store 3 (.t 2) (.t 14)⟩,⟨some 3,none,.mv (.t 15)⟩] false) (.ret)) (.seq (.ops [⟨some 17,none,.load 3 true (.t 4)⟩,⟨some 18,none,.call c2 [(.t 17)]⟩,⟨some 19,none,.bin .gtr (.t 18) (.c (.int .i64 12))⟩,⟨some 16,none,.mv (.t 19)⟩] false) (.cond (.t 16) (.seq (.ops [⟨some 20,none,.build [(.int .i64 0),(.sl true 1 []),(.sl true 3 [])] []⟩,⟨none,none,.store 3 (.t 2) (.t 20)⟩,⟨some 3,none,.mv (.c (.int .i64 25))⟩] false) (.ret)) (.skip)))))) (.seq (.ops [⟨some 21,none,.load 3 true (.t 4)⟩,⟨none,none,.store 3 (.t 2) (.t 21)⟩,⟨some 3,none,.mv (.c (.int .i64 0))⟩] false) (.ret))))) }
def irSlEqS : IFn := { nt := 26, res := [.t 4], body := ( .seq (.ops [⟨some 4,none,.mv (.c (.bool false))⟩] false) (.seq (.seq (.ops [⟨some 6,none,.mv (.t 0)⟩,⟨some 7,none,.lenL (.t 6)⟩,⟨some 8,none,.mv (.t 1)⟩,⟨some 9,none,.lenL (.t 8)⟩,⟨some 10,none,.bin .neq (.t 7) (.t 9)⟩] false) (.cond (.t 10) (.seq (.ops [⟨some 4,none,.mv (.c (.bool false))⟩] false) (.ret)) (.skip))) (.seq (.seq (.ops [⟨some 11,none,.mv (.t 0)⟩,⟨some 12,none,.lenL (.t 11)⟩,⟨some 13,none,.mv (.c (.int .i64 0))⟩] false) (.blk 0 (.loop (.seq (.ops [⟨some 14,none,.bin .lss (.t 13) (.t 12)⟩] false) (.seq (.cond (.t 14) (.skip) (.exit 0)) (.seq (.blk 1 (.seq (.ops [⟨some 15,none,.mv (.t 13)⟩,⟨some 5,none,.mv (.t 15)⟩] false) (.seq (.ops [⟨some 16,none,.mv (.t 0)⟩,⟨some 17,none,.mv (.t 5)⟩,⟨some 18,none,.iaddr 1 (.t 16) (.t 17)⟩,⟨some 19,none,.load 1 false (.t 18)⟩,⟨some 20,none,.mv (.t 1)⟩,⟨some 21,none,.mv (.t 5)⟩,⟨some 22,none,.iaddr 1 (.t 20) (.t 21)⟩,⟨some 23,none,.load 1 false (.t 22)⟩,⟨some 24,none,.bin .neq (.t 19) (.t 23)⟩] true) (.cond (.t 24) (.seq (.ops [⟨some 4,none,.mv (.c (.bool false))⟩] false) (.ret)) (.skip))))) (.ops [⟨some 25,none,.bin .add (.t 13) (.c (.int .i64 1))⟩,⟨some 13,none,.mv (.t 25)⟩] false))))))) (.seq (.ops [⟨some 4,none,.mv (.c (.bool true))⟩] false) (.ret))))) }
def irCmpLess (c1 : Nat) : IFn := { nt := 17, res := [.t 4], body := ( .seq (.ops [⟨some 4,none,.mv (.c (.bool false))⟩] false) (.seq (.ops [⟨some 5,none,.mv (.t 0)⟩,⟨some 6,none,.call c1 [(.t 5)]⟩,⟨some 7,none,.mv (.t 6)⟩,⟨some 8,some (7,true),.mv (.t 1)⟩,⟨some 9,some (7,true),.call c1 [(.t 8)]⟩,⟨some 10,some (7,true),.un .not (.t 9)⟩,⟨some 11,none,.pick (.t 7) (.t 10) (.c (.bool false))⟩,⟨some 12,none,.mv (.t 11)⟩,⟨some 13,some (12,false),.mv (.t 0)⟩,⟨some 14,some (12,false),.mv (.t 1)⟩,⟨some 15,some (12,false),.bin .lss (.t 13) (.t 14)⟩,⟨some 16,none,.pick (.t 12) (.c (.bool true)) (.t 15)⟩,⟨some 4,none,.mv (.t 16)⟩] false) (.ret))) }
def irSlIsNaN : IFn := { nt := 6, res := [.t 2], body := ( .seq (.ops [⟨some 2,none,.mv (.c (.bool false))⟩] false) (.seq (.ops [⟨some 3,none,.mv (.t 0)⟩,⟨some 4,none,.mv (.t 0)⟩,⟨some 5,none,.bin .neq (.t 3) (.t 4)⟩,⟨some 2,none,.mv (.t 5)⟩] false) (.ret))) }
def irTyOfN (c1 c2 t1 t2 t3 : Nat) : IFn := { nt := 60, res := [.cell 2 3 true,.t 3], body := ( .seq (.ops [⟨some 1,none,.box t1 6 (.t 0)⟩,⟨some 2,none,.alloc t2 [(.int .i64 0),(.sl true 1 []),(.sl true 3 [])]⟩,⟨some 3,none,.mv (.c (.int .i64 0))⟩] false) (.seq (.seq (.ops [⟨some 9,none,.faddr 0 (.t 1)⟩,⟨some 10,none,.load 1 false (.t 9)⟩] false) (.blk 0 (.seq (.seq (.ops [⟨some 12,none,.bin .eql (.t 10) (.c (.int .i64 0))⟩,⟨some 11,none,.mv (.t 12)⟩] false) (.cond (.t 11) (.skip) (.ops [⟨some 13,none,.bin .eql (.t 10) (.c (.int .i64 31))⟩,⟨some 11,none,.mv (.t 13)⟩] false))) (.cond (.t 11) (.seq (.ops [⟨some 14,none,.build [(.int .i64 0),(.sl true 1 []),(.sl true 3 [])] []⟩,⟨none,none,.store 3 (.t 2) (.t 14)⟩,⟨some 3,none,.mv (.c (.int .i64 0))⟩] false) (.ret)) (.seq (.ops [⟨some 16,none,.bin .eql (.t 10) (.c (.int .i64 29))⟩,⟨some 15,none,.mv (.t 16)⟩] false) (.cond (.t 15) (.seq (.ops [⟨some 17,none,.build [(.int .i64 0),(.sl true 1 []),(.sl true 3 [])] [(0,1,(.c (.int .i64 1)))]⟩,⟨none,none,.store 3 (.t 2) (.t 17)⟩,⟨some 3,none,.mv (.c (.int .i64 0))⟩] false) (.ret)) (.seq (.ops [⟨some 19,none,.bin .eql (.t 10) (.c (.int .i64 30))⟩,⟨some 18,none,.mv (.t 19)⟩] false) (.cond (.t 18) (.seq (.ops [⟨some 20,none,.build [(.int .i64 0),(.sl true 1 []),(.sl true 3 [])] [(0,1,(.c (.int .i64 2)))]⟩,⟨none,none,.store 3 (.t 2) (.t 20)⟩,⟨some 3,none,.mv (.c (.int .i64 0))⟩] false) (.ret)) (.seq (.ops [⟨some 22,none,.bin .eql (.t 10) (.c (.int .i64 32))⟩,⟨some 21,none,.mv (.t 22)⟩] false) (.cond (.t 21) (.seq (.ops [⟨some 23,none,.load 6 true (.t 1)⟩,⟨some 24,none,.call c1 [(.t 23)]⟩,⟨some 25,none,.ext (.t 24) 0⟩,⟨some 26,none,.ext (.t 24) 1⟩,⟨none,none,.store 3 (.t 2) (.t 25)⟩,⟨some 3,none,.mv (.t 26)⟩] false) (.ret)) (.seq (.ops [⟨some 28,none,.bin .eql (.t 10) (.c (.int .i64 34))⟩,⟨some 27,none,.mv (.t 28)⟩] false) (.cond (.t 27) (.seq (.ops [⟨some 29,none,.buildT [(1,1, t3),(2,3, t2)] [(.int .i64 0),(.sl true 1 []),(.sl true 3 [])] [(0,1,(.c (.int .i64 4)))]⟩,⟨some 4,none,.alloc t2 [(.int .i64 0),(.sl true 1 []),(.sl true 3 [])]⟩,⟨none,none,.store 3 (.t 4) (.t 29)⟩] false) (.seq (.seq (.ops [⟨some 30,none,.faddr 5 (.t 1)⟩,⟨some 31,none,.load 1 false (.t 30)⟩,⟨some 32,none,.lenL (.t 31)⟩,⟨some 33,none,.mv (.c (.int .i64 0))⟩] false) (.blk 1 (.loop (.seq (.ops [⟨some 34,none,.bin .lss (.t 33) (.t 32)⟩] false) (.seq (.cond (.t 34) (.skip) (.exit 1)) (.seq (.blk 2 (.seq (.ops [⟨some 35,none,.iaddr 6 (.t 31) (.t 33)⟩,⟨some 36,none,.load 6 true (.t 35)⟩,⟨some 6,none,.alloc t1 [(.int .i64 0),(.int .i64 0),(.int .i64 0),(.str []),(.int .i64 0),(.sl true 6 [])]⟩,⟨none,none,.store 6 (.t 6) (.t 36)⟩] false) (.seq (.ops [⟨some 38,none,.load 6 true (.t 6)⟩,⟨some 39,none,.call c2 [(.t 38)]⟩,⟨some 37,none,.mv (.t 39)⟩,⟨some 40,none,.ext (.t 37) 0⟩,⟨some 41,none,.ext (.t 37) 1⟩,⟨some 7,none,.alloc t2 [(.int .i64 0),(.sl true 1 []),(.sl true 3 [])]⟩,⟨none,none,.store 3 (.t 7) (.t 40)⟩,⟨some 8,none,.mv (.t 41)⟩] false) (.seq (.seq (.ops [⟨some 42,none,.mv (.t 8)⟩,⟨some 43,none,.bin .neq (.t 42) (.c (.int .i64 0))⟩] false) (.cond (.t 43) (.seq (.ops [⟨some 44,none,.build [(.int .i64 0),(.sl true 1 []),(.sl true 3 [])] []⟩,⟨some 45,none,.mv (.t 8)⟩,⟨none,none,.store 3 (.t 2) (.t 44)⟩,⟨some 3,none,.mv (.t 45)⟩] false) (.ret)) (.skip))) (.ops [⟨some 46,none,.faddr 2 (.t 4)⟩,⟨some 47,none,.load 1 false (.t 46)⟩,⟨some 48,none,.load 3 true (.t 7)⟩,⟨some 49,none,.bslice 3 [(.t 48)]⟩,⟨some 50,none,.app 3 56 t2 (.t 47) (.t 49)⟩,⟨some 51,none,.faddr 2 (.t 4)⟩,⟨none,none,.store 1 (.t 51) (.t 50)⟩] false))))) (.ops [⟨some 52,none,.bin .add (.t 33) (.c (.int .i64 1))⟩,⟨some 33,none,.mv (.t 52)⟩] false))))))) (.seq (.seq (.ops [⟨some 53,none,.faddr 2 (.t 4)⟩,⟨some 54,none,.load 1 false (.t 53)⟩,⟨some 55,none,.lenL (.t 54)⟩,⟨some 56,none,.bin .eql (.t 55) (.c (.int .i64 0))⟩] false) (.cond (.t 56) (.seq (.ops [⟨some 57,none,.build [(.int .i64 0),(.sl true 1 []),(.sl true 3 [])] []⟩,⟨none,none,.store 3 (.t 2) (.t 57)⟩,⟨some 3,none,.mv (.c (.int .i64 8))⟩] false) (.ret)) (.skip))) (.seq (.ops [⟨some 58,none,.load 3 true (.t 4)⟩,⟨none,none,.store 3 (.t 2) (.t 58)⟩,⟨some 3,none,.mv (.c (.int .i64 0))⟩] false) (.ret))))) (.skip))))))))))))) (.seq (.ops [⟨some 59,none,.build [(.int .i64 0),(.sl true 1 []),(.sl true 3 [])] []⟩,⟨none,none,.store 3 (.t 2) (.t 59)⟩,⟨some 3,none,.mv (.c (.int .i64 8))⟩] false) (.ret)))) }
def irTyRecN (c1 c2 t1 t2 t3 : Nat) : IFn := { nt := 54, res := [.cell 2 3 true,.t 3], body := ( .seq (.ops [⟨some 1,none,.box t1 6 (.t 0)⟩,⟨some 2,none,.alloc t2 [(.int .i64 0),(.sl true 1 []),(.sl true 3 [])]⟩,⟨some 3,none,.mv (.c (.int .i64 0))⟩] false) (.seq (.ops [⟨some 4,none,.nilT 1 t3⟩] false) (.seq (.ops [⟨some 5,none,.nilT 3 t2⟩] false) (.seq (.seq (.ops [⟨some 10,none,.faddr 5 (.t 1)⟩,⟨some 11,none,.load 1 false (.t 10)⟩,⟨some 12,none,.lenL (.t 11)⟩,⟨some 13,none,.mv (.c (.int .i64 0))⟩] false) (.blk 0 (.loop (.seq (.ops [⟨some 14,none,.bin .lss (.t 13) (.t 12)⟩] false) (.seq (.cond (.t 14) (.skip) (.exit 0)) (.seq (.blk 1 (.seq (.ops [⟨some 15,none,.iaddr 6 (.t 11) (.t 13)⟩,⟨some 16,none,.load 6 true (.t 15)⟩,⟨some 7,none,.alloc t1 [(.int .i64 0),(.int .i64 0),(.int .i64 0),(.str []),(.int .i64 0),(.sl true 6 [])]⟩,⟨none,none,.store 6 (.t 7) (.t 16)⟩] false) (.seq (.seq (.ops [⟨some 17,none,.faddr 0 (.t 7)⟩,⟨some 18,none,.load 1 false (.t 17)⟩,⟨some 19,none,.bin .neq (.t 18) (.c (.int .i64 33))⟩,⟨some 20,none,.mv (.t 19)⟩,⟨some 21,some (20,false),.faddr 5 (.t 7)⟩,⟨some 22,some (20,false),.load 1 false (.t 21)⟩,⟨some 23,some (20,false),.lenL (.t 22)⟩,⟨some 24,some (20,false),.bin .neq (.t 23) (.c (.int .i64 1))⟩,⟨some 25,none,.pick (.t 20) (.c (.bool true)) (.t 24)⟩] false) (.cond (.t 25) (.seq (.ops [⟨some 26,none,.build [(.int .i64 0),(.sl true 1 []),(.sl true 3 [])] []⟩,⟨none,none,.store 3 (.t 2) (.t 26)⟩,⟨some 3,none,.mv (.c (.int .i64 8))⟩] false) (.ret)) (.skip))) (.seq (.ops [⟨some 28,none,.faddr 5 (.t 7)⟩,⟨some 29,none,.load 1 false (.t 28)⟩,⟨some 30,none,.iaddr 6 (.t 29) (.c (.int .i64 0))⟩,⟨some 31,none,.load 6 true (.t 30)⟩,⟨some 32,none,.call c1 [(.t 31)]⟩,⟨some 27,none,.mv (.t 32)⟩,⟨some 33,none,.ext (.t 27) 0⟩,⟨some 34,none,.ext (.t 27) 1⟩,⟨some 8,none,.alloc t2 [(.int .i64 0),(.sl true 1 []),(.sl true 3 [])]⟩,⟨none,none,.store 3 (.t 8) (.t 33)⟩,⟨some 9,none,.mv (.t 34)⟩] false) (.seq (.seq (.ops [⟨some 35,none,.mv (.t 9)⟩,⟨some 36,none,.bin .neq (.t 35) (.c (.int .i64 0))⟩] false) (.cond (.t 36) (.seq (.ops [⟨some 37,none,.build [(.int .i64 0),(.sl true 1 []),(.sl true 3 [])] []⟩,⟨some 38,none,.mv (.t 9)⟩,⟨none,none,.store 3 (.t 2) (.t 37)⟩,⟨some 3,none,.mv (.t 38)⟩] false) (.ret)) (.skip))) (.ops [⟨some 39,none,.mv (.t 4)⟩,⟨some 40,none,.faddr 3 (.t 7)⟩,⟨some 41,none,.load 1 false (.t 40)⟩,⟨some 42,none,.bslice 1 [(.t 41)]⟩,⟨some 43,none,.app 1 16 t3 (.t 39) (.t 42)⟩,⟨some 44,none,.mv (.t 5)⟩,⟨some 45,none,.load 3 true (.t 8)⟩,⟨some 46,none,.bslice 3 [(.t 45)]⟩,⟨some 47,none,.app 3 56 t2 (.t 44) (.t 46)⟩,⟨some 4,none,.mv (.t 43)⟩,⟨some 5,none,.mv (.t 47)⟩] true)))))) (.ops [⟨some 48,none,.bin .add (.t 13) (.c (.int .i64 1))⟩,⟨some 13,none,.mv (.t 48)⟩] false))))))) (.seq (.ops [⟨some 49,none,.mv (.t 4)⟩,⟨some 50,none,.mv (.t 5)⟩,⟨some 51,none,.call c2 [(.t 49),(.t 50)]⟩,⟨some 52,none,.ext (.t 51) 0⟩,⟨some 53,none,.ext (.t 51) 1⟩,⟨none,none,.store 3 (.t 2) (.t 52)⟩,⟨some 3,none,.mv (.t 53)⟩] false) (.ret)))))) }
end Go.Zam
namespace Go.Zam
abbrev Str':=List UInt8
inductive Ty where
 | mk (k:Int) (ns:List Str') (ps:List Ty)
namespace Ty
def k:Ty→Int | .mk k _ _=>k
def ns:Ty→List Str' | .mk _ ns _=>ns
def ps:Ty→List Ty | .mk _ _ ps=>ps
mutual
theorem ind {Q:Ty→Prop} (h:∀ k ns ps,(∀ p ∈ ps,Q p)→Q (.mk k ns ps)):∀ v,Q v
 | .mk k ns ps=>h k ns ps (inds h ps)
theorem inds {Q:Ty→Prop} (h:∀ k ns ps,(∀ p ∈ ps,Q p)→Q (.mk k ns ps)):∀ l:List Ty,∀ p ∈ l,Q p
 | []=>fun p hp=>by simp at hp
 | x :: r=>fun p hp=>(List.mem_cons.1 hp).elim (fun e=>e ▸ ind h x) (fun hp=>inds h r p hp)
end
mutual
def size:Ty→Nat
 | .mk _ _ ps=>1+sizes ps
def sizes:List Ty→Nat
 | []=>0
 | p :: r=>size p+sizes r
end
theorem size_mk (k:Int) (ns:List Str') (ps:List Ty):size (.mk k ns ps)=1+sizes ps:=by rw [size]
theorem sizes_mem {l:List Ty} {p:Ty} (h:p ∈ l):size p≤sizes l:=by
 induction l with
 | nil=>cases h
 | cons q l ih =>
   rw [sizes]
   rcases List.mem_cons.1 h with rfl | h
   · omega
   · have:=ih h; omega
theorem size_get {k:Int} {ns:List Str'} {ps:List Ty} {i:Nat} {p:Ty} (h:ps[i]?=some p):p.size < (Ty.mk k ns ps).size:=by
 have:=sizes_mem (List.mem_of_getElem? h)
 rw [size_mk]; omega
inductive Rt:Ty→Prop
 | mk {k:Int} {ns:List Str'} {ps:List Ty} (hk:0≤k∧k≤4) (h2:k≤2→ns=[]∧ps=[]) (h3:k=3→ns.length=ps.length) (h4:k=4→ns=[]∧ps ≠ []) (hn:∀ x ∈ ns,isNameB x=true)
  (hs:∀ (i:Nat) (x y:Str'),ns[i]?=some x→ns[i+1]?=some y→Op.bytesLess x y=true) (hp:∀ p ∈ ps,Rt p):Rt (.mk k ns ps)
inductive Fl:Ty→Ty→Prop
 | dynL {a b:Ty} (h:a.k=0):Fl a b
 | dynR {a b:Ty} (h:b.k=0):Fl a b
 | same {a b:Ty} (h:a.k=b.k) (h3:a.k ≠ 3) (h4:a.k ≠ 4):Fl a b
 | rcd {a b:Ty} (ha:a.k=3) (hb:b.k=3) (g:Nat→Nat) (h1:∀ (j:Nat) (x:Str'),b.ns[j]?=some x→a.ns[g j]?=some x) (h2:∀ (j:Nat) (p q:Ty),a.ps[g j]?=some p→b.ps[j]?=some q→Fl p q):Fl a b
 | fn {a b:Ty} (ha:a.k=4) (hb:b.k=4) (hl:a.ps.length=b.ps.length) (h1:∀ (i:Nat) (p q:Ty),i+1 < a.ps.length→a.ps[i]?=some p→b.ps[i]?=some q→Fl q p)
  (h2:∀ (i:Nat) (p q:Ty),i+1=a.ps.length→a.ps[i]?=some p→b.ps[i]?=some q→Fl p q):Fl a b
theorem Fl.refl {a:Ty}:a.Rt→Fl a a:=by
 refine ind (Q:=fun a=>a.Rt→Fl a a) (fun k ns ps ih => ?_) a
 intro hr
 cases hr with
 | mk hk h2 h3 h4 hn hs hp =>
 by_cases e3:k=3
 · exact .rcd e3 e3 id (fun j x h=>h) fun j p q h1 h2=>by
    have:p=q:=Option.some.inj (h1.symm.trans h2)
    subst this
    have hm:=List.mem_of_getElem? h2
    exact ih p hm (hp p hm)
 by_cases e4:k=4
 · refine .fn e4 e4 rfl (fun i p q _ h1 h2 => ?_) (fun i p q _ h1 h2 => ?_)
   all_goals
    have:p=q:=Option.some.inj (h1.symm.trans h2)
    subst this
    have hm:=List.mem_of_getElem? h2
    exact ih p hm (hp p hm)
 exact .same rfl e3 e4
theorem Fl.step {a b:Ty} (h:Fl a b) (ha:a.k ≠ 0) (hb:b.k ≠ 0):a.k=b.k∧(a.k=3→∃ g:Nat→Nat,(∀ (j:Nat) (x:Str'),b.ns[j]?=some x→a.ns[g j]?=some x)∧∀ (j:Nat) (p q:Ty),a.ps[g j]?=some p→b.ps[j]?=some q→Fl p q) ∧
 (a.k=4→a.ps.length=b.ps.length∧(∀ (i:Nat) (p q:Ty),i+1 < a.ps.length→a.ps[i]?=some p→b.ps[i]?=some q→Fl q p)∧∀ (i:Nat) (p q:Ty),i+1=a.ps.length→a.ps[i]?=some p→b.ps[i]?=some q→Fl p q):=by
 cases h with
 | dynL h=>exact absurd h ha
 | dynR h=>exact absurd h hb
 | same h h3 h4=>exact ⟨h,fun e=>absurd e h3,fun e=>absurd e h4⟩
 | rcd e3 f3 g h1 h2=>exact ⟨by rw [e3,f3],fun _=>⟨g,h1,h2⟩,(fun e=>by rw [e3] at e; exact absurd e (by decide))⟩
 | fn e4 f4 hl h1 h2=>exact ⟨by rw [e4,f4],(fun e=>by rw [e4] at e; exact absurd e (by decide)),fun _=>⟨hl,h1,h2⟩⟩
theorem Rt.len {k:Int} {ns:List Str'} {ps:List Ty} (h:Rt (.mk k ns ps)) (h3:k=3):ns.length=ps.length:=by cases h with | mk _ _ a _ _ _ _=>exact a h3
theorem Rt.part {k:Int} {ns:List Str'} {ps:List Ty} (h:Rt (.mk k ns ps)) {i:Nat} {p:Ty} (hi:ps[i]?=some p):p.Rt:=by cases h with | mk _ _ _ _ _ _ a=>exact a p (List.mem_of_getElem? hi)
theorem get_of_len {α β:Type} {a:List α} {b:List β} (h:a.length=b.length) {i:Nat} {x : α} (hi:a[i]?=some x):∃ y,b[i]?=some y :=
 ⟨b[i]'(by have:=(List.getElem?_eq_some_iff.1 hi).1; omega),List.getElem?_eq_getElem _⟩
def Inc (l:List Str'):Prop:=∀ (i:Nat) (x y:Str'),l[i]?=some x→l[i+1]?=some y→Op.bytesLess x y=true
theorem Rt.inc {k:Int} {ns:List Str'} {ps:List Ty} (h:Rt (.mk k ns ps)):Inc ns:=by cases h with | mk _ _ _ _ _ a _=>exact a
theorem Inc.tail {x:Str'} {l:List Str'} (h:Inc (x :: l)):Inc l:=fun i a b ha hb=>h (i+1) a b ha hb
theorem Inc.lt {l:List Str'}:∀ {x:Str'},Inc (x :: l)→∀ y ∈ l,Op.bytesLess x y=true:=by
 induction l with
 | nil=>intro x _ y hy; cases hy
 | cons z l ih =>
   intro x h y hy
   have hxz:=h 0 x z rfl rfl
   rcases List.mem_cons.1 hy with rfl | hy
   · exact hxz
   · exact bl_trans _ _ _ hxz (ih h.tail y hy)
theorem Inc.notMem {x:Str'} {l:List Str'} (h:Inc (x :: l)):x ∉ l:=fun hm=>by
 have:=h.lt x hm
 rw [bl_irrefl] at this
 cases this
theorem Inc.inj {l:List Str'} (h:Inc l) {i j:Nat} {x:Str'} (hi:l[i]?=some x) (hj:l[j]?=some x):i=j:=by
 induction l generalizing i j with
 | nil=>simp at hi
 | cons z l ih =>
   cases i with
   | zero =>
     cases j with
     | zero=>rfl
     | succ j =>
       simp at hi hj
       subst hi
       exact absurd (List.mem_of_getElem? hj) h.notMem
   | succ i =>
     cases j with
     | zero =>
       simp at hi hj
       subst hj
       exact absurd (List.mem_of_getElem? hi) h.notMem
     | succ j=>exact congrArg (·+1) (ih h.tail (by simpa using hi) (by simpa using hj))
end Ty
end Go.Zam
namespace Go.Zam
open Classical
namespace Ty
end Ty
end Go.Zam
namespace Go.Zam
open Classical
namespace Ty
theorem Fl.fn_iff {x y p q:Ty}:Fl (.mk 4 [] [x,p]) (.mk 4 [] [y,q]) ↔ Fl y x∧Fl p q:=by
 constructor
 · intro h
   obtain ⟨-,-,h⟩:=h.step (by simp [Ty.k]) (by simp [Ty.k])
   obtain ⟨-,h1,h2⟩:=h rfl
   exact ⟨h1 0 x y (by simp [Ty.ps]) rfl rfl,h2 1 p q (by simp [Ty.ps]) rfl rfl⟩
 · rintro ⟨h1,h2⟩
   refine .fn rfl rfl rfl (fun i a b hi ha hb => ?_) (fun i a b hi ha hb => ?_)
   · have:i=0:=by simp [Ty.ps] at hi; omega
     subst this
     simp [Ty.ps] at ha hb
     subst ha; subst hb; exact h1
   · have:i=1:=by simp [Ty.ps] at hi; omega
     subst this
     simp [Ty.ps] at ha hb
     subst ha; subst hb; exact h2
theorem Fl.less {a:Ty} {x:Str'} {ns:List Str'} {p:Ty} {ps:List Ty} (h:Fl a (.mk 3 (x :: ns) (p :: ps))):Fl a (.mk 3 ns ps):=by
 by_cases h0:a.k=0
 · exact .dynL h0
 obtain ⟨e,h,-⟩:=h.step h0 (by simp [Ty.k])
 obtain ⟨g,h1,h2⟩:=h e
 exact .rcd e rfl (fun j=>g (j+1)) (fun j y hy=>h1 (j+1) y (by simpa [Ty.ns] using hy)) fun j p q hp hq=>h2 (j+1) p q hp (by simpa [Ty.ps] using hq)
end Ty
mutual
def T.st:T→Ty
 | .mk k _ ns _ ps => .mk k ns (T.sts ps)
def T.sts:List T→List Ty
 | []=>[]
 | p :: r=>T.st p :: T.sts r
end
theorem T.sts_map:∀ l:List T,T.sts l=l.map T.st
 | []=>rfl
 | p :: r=>by rw [T.sts,T.sts_map r]; rfl
theorem T.st_mk (k:Int) (z:Bool) (ns:List (List UInt8)) (y:Bool) (ps:List T):T.st (.mk k z ns y ps) = .mk k ns (ps.map T.st):=by rw [T.st,T.sts_map]
def T.new (k:Int) (ns:List (List UInt8)) (ps:List T):T := .mk k true ns true ps
theorem T.st_new (k:Int) (ns:List (List UInt8)) (ps:List T):(T.new k ns ps).st = .mk k ns (ps.map T.st):=T.st_mk ..
end Go.Zam
namespace Go.Zam
open Classical
namespace Ty
theorem Fl.rcd_of {k k':Int} {ns ns':List Str'} {ps ps':List Ty} (h3:k=3) (h3':k'=3)
 (h:∀ j:Nat,j < ns'.length→∃ i:Nat,ns[i]?=ns'[j]?∧∀ p q,ps[i]?=some p→ps'[j]?=some q→Fl p q) (hl:ns'.length=ps'.length):Fl (.mk k ns ps) (.mk k' ns' ps'):=by
 refine .rcd h3 h3' (fun j=>if hj:j < ns'.length then (h j hj).choose else 0) (fun j x hx => ?_) (fun j p q hp hq => ?_)
 · simp only [Ty.ns] at hx ⊢
   have hj:j < ns'.length:=(List.getElem?_eq_some_iff.1 hx).1
   rw [dif_pos hj,(h j hj).choose_spec.1,hx]
 · simp only [Ty.ps] at hp hq
   have hj:j < ns'.length:=by rw [hl]; exact (List.getElem?_eq_some_iff.1 hq).1
   rw [dif_pos hj] at hp
   exact (h j hj).choose_spec.2 p q hp hq
theorem Fl.rcd_not {k k':Int} {ns ns':List Str'} {ps ps':List Ty} (h3:k=3) (h3':k'=3) (hl:ns.length=ps.length) {j:Nat} {x:Str'} {q:Ty} (hx:ns'[j]?=some x) (hq:ps'[j]?=some q)
 (h:∀ (i:Nat) (p:Ty),ns[i]?=some x→ps[i]?=some p→¬ Fl p q):¬ Fl (.mk k ns ps) (.mk k' ns' ps'):=by
 intro hf
 obtain ⟨-,hr,-⟩:=hf.step (by simp [Ty.k,h3]) (by simp [Ty.k,h3'])
 obtain ⟨g,h1,h2⟩:=hr (by simpa [Ty.k] using h3)
 have a1:=h1 j x hx
 obtain ⟨p,hp⟩:=get_of_len hl a1
 exact h _ p a1 hp (h2 j p q hp hq)
theorem Fl.fn_of {k k':Int} {ns ns':List Str'} {ps ps':List Ty} (h4:k=4) (h4':k'=4) (hl:ps.length=ps'.length)
 (h1:∀ (i:Nat) (p q:Ty),i+1 < ps.length→ps[i]?=some p→ps'[i]?=some q→Fl q p) (h2:∀ (i:Nat) (p q:Ty),i+1=ps.length→ps[i]?=some p→ps'[i]?=some q→Fl p q):Fl (.mk k ns ps) (.mk k' ns' ps') :=
 .fn h4 h4' hl h1 h2
theorem Fl.fn_len {k k':Int} {ns ns':List Str'} {ps ps':List Ty} (h4:k=4) (h4':k'=4) (hl:ps.length ≠ ps'.length):¬ Fl (.mk k ns ps) (.mk k' ns' ps'):=by
 intro hf
 obtain ⟨-,-,hr⟩:=hf.step (by simp [Ty.k,h4]) (by simp [Ty.k,h4'])
 exact hl (hr (by simpa [Ty.k] using h4)).1
theorem Fl.fn_not {k k':Int} {ns ns':List Str'} {ps ps':List Ty} (h4:k=4) (h4':k'=4) {i:Nat} {p q:Ty} (hp:ps[i]?=some p) (hq:ps'[i]?=some q) (h1:i+1 < ps.length) (h:¬ Fl q p):¬ Fl (.mk k ns ps) (.mk k' ns' ps'):=by
 intro hf
 obtain ⟨-,-,hr⟩:=hf.step (by simp [Ty.k,h4]) (by simp [Ty.k,h4'])
 exact h ((hr (by simpa [Ty.k] using h4)).2.1 i p q h1 hp hq)
theorem Fl.fn_last {k k':Int} {ns ns':List Str'} {ps ps':List Ty} (h4:k=4) (h4':k'=4) {i:Nat} {p q:Ty} (hp:ps[i]?=some p) (hq:ps'[i]?=some q) (h1:i+1=ps.length) (h:¬ Fl p q):¬ Fl (.mk k ns ps) (.mk k' ns' ps'):=by
 intro hf
 obtain ⟨-,-,hr⟩:=hf.step (by simp [Ty.k,h4]) (by simp [Ty.k,h4'])
 exact h ((hr (by simpa [Ty.k] using h4)).2.2 i p q h1 hp hq)
theorem Fl.ne {a b:Ty} (ha:a.k ≠ 0) (hb:b.k ≠ 0) (h:a.k ≠ b.k):¬ Fl a b:=fun hf=>h (hf.step ha hb).1
theorem rt_iff {k:Int} {ns:List Str'} {ps:List Ty}:Rt (.mk k ns ps) ↔ (0≤k∧k≤4)∧(k≤2→ns=[]∧ps=[])∧(k=3→ns.length=ps.length)∧(k=4→ns=[]∧ps ≠ [])∧(∀ x ∈ ns,isNameB x=true)∧Inc ns∧∀ p ∈ ps,Rt p :=
 ⟨fun h=>by cases h with | mk a b c d e f g=>exact ⟨a,b,c,d,e,f,g⟩,fun ⟨a,b,c,d,e,f,g⟩ => .mk a b c d e f g⟩
end Ty
end Go.Zam
namespace Go.Zam
section
open Classical
theorem T.st_eq (k k':Int) (z z':Bool) (ns ns':List (List UInt8)) (y y':Bool) (ps ps':List T) :
 (T.mk k z ns y ps).st=(T.mk k' z' ns' y' ps').st ↔ k=k'∧ns=ns'∧ps.map T.st=ps'.map T.st:=by
 rw [T.st_mk,T.st_mk]; simp
section
variable {P:Program}
theorem Has.slEqS {f:FuncId} (h:Has P f irSlEqS) (H:Hp) (z y:Bool) (a b:List (List UInt8)) (ha:a.length≤1048576):ACall P f [.d (.sl z 1 (a.map encStr)),.d (.sl y 1 (b.map encStr))] H (fun r H'=>r = .d (.bool (decide (a=b)))∧H'=H):=by
 obtain ⟨fn,hf,hcf⟩:=h
 refine acall_fin hf hcf (by simp [irSlEqS]) fun hcl _ => ?_
 simp [irSlEqS]
 refine BrK_split (fun h => ?_) (fun h => ?_)
 · have hne:a ≠ b:=fun e=>by subst e; simp at h
   simp [RetK,cut_self hcl,hne]
 have hl:a.length=b.length:=by simp at h; omega
 simp
 refine RangeK_of H.length a.length (fun i fr H'=>fr 0 = .d (.sl z 1 (a.map encStr))∧fr 1 = .d (.sl y 1 (b.map encStr))∧a.take i=b.take i∧H'=H) (by omega) (by decide) (by simp) (by simp) ?_ ?_ ?_
 · simp [cut_self hcl]
 · rintro i fr H' hi f13 f12 ⟨f0,f1,he,rfl⟩
   have hib:i < b.length:=by omega
   have ra:=rowAt_map encStr hi
   have rb:=rowAt_map encStr hib
   have ta:a.take (i+1)=a.take i++[a[i]]:=List.take_succ_eq_append_getElem hi
   have tb:b.take (i+1)=b.take i++[b[i]]:=List.take_succ_eq_append_getElem hib
   simp only [encStr] at ra rb
   simp [f13,f0,f1,ra,rb]
   refine BrK_split (fun h => ?_) (fun h => ?_)
   · have hne:a ≠ b:=fun e=>by subst e; simp at h
     simp
     simp [RetK,cut_self hcl,hne]
   · simp at h
     have tt:a.take (i+1)=b.take (i+1):=by rw [ta,tb,he,h]
     simp
     refine NextK_of H'.length (Nat.le_refl _) (by simp [f13,f12]) ?_
     simp [f0,f1,cut_self hcl,tt]
 · rintro fr H' f13 f12 ⟨f0,f1,he,rfl⟩
   have:a=b:=by rw [List.take_of_length_le (Nat.le_refl _),hl,List.take_of_length_le (Nat.le_refl _)] at he; exact he
   simp
   simp [RetK,cut_self hcl,this]
def SameT (P:Program) (f:FuncId) (v:T):Prop:=∀ (w:T) (H:Hp),ACall P f [v.a,w.a] H (fun r H'=>r = .d (.bool (decide (v.st=w.st)))∧H'=H)
theorem Has.tyEqF {f g:FuncId} {t:TypeId} (h:Has P f (irTyEqF t)) (hk:callOk P g=true) (H:Hp) (z y:Bool) (a b:List T) (ha:a.length≤1048576) (hs:∀ v ∈ a,SameT P g v) :
 ACall P f [.d (.sl z 3 (a.map T.enc)),.d (.sl y 3 (b.map T.enc)),.d (.fn g)] H (fun r H'=>r = .d (.bool (decide (a.map T.st=b.map T.st)))∧H'=H):=by
 obtain ⟨fn,hf,hcf⟩:=h
 refine acall_fin hf hcf (by simp [irTyEqF]) fun hcl _ => ?_
 simp [irTyEqF]
 refine BrK_split (fun h => ?_) (fun h => ?_)
 · have hne:a.map T.st ≠ b.map T.st:=fun e=>by have:=congrArg List.length e; simp at this h; omega
   simp [RetK,cut_self hcl,hne]
 have hl:a.length=b.length:=by simp at h; omega
 simp
 refine RangeK_of H.length a.length (fun i fr H'=>fr 0 = .d (.sl z 3 (a.map T.enc))∧fr 1 = .d (.sl y 3 (b.map T.enc))∧fr 2 = .d (.fn g)∧fr 15 = .d (.sl z 3 (a.map T.enc))∧(a.map T.st).take i=(b.map T.st).take i∧H'=H) (by omega) (by decide) (by simp) (by simp) ?_ ?_ ?_
 · simp [cut_self hcl]
 · rintro i fr H' hi f17 f16 ⟨f0,f1,f2,f15,he,rfl⟩
   have hib:i < b.length:=by omega
   have ra:=rowAt_map T.enc hi
   have rb:=rowAt_map T.enc hib
   have ta:=take_map_succ T.st hi
   have tb:=take_map_succ T.st hib
   have hx:=hs a[i] (List.getElem_mem hi) b[i]
   have hne:a[i].st ≠ b[i].st→a.map T.st ≠ b.map T.st:=fun h e=>h (by
    have:=congrArg (fun l=>l[i]?) e
    simpa [hi,hib] using this)
   generalize a[i]=p at ra ta hx hne
   generalize b[i]=q at rb tb hx hne
   cases p with | mk k1 z1 ns1 y1 ps1 =>
   cases q with | mk k2 z2 ns2 y2 ps2 =>
   simp only [T.a_mk,T.enc_mk] at ra rb hx
   simp [f17,f15,f0,f1,f2,ra,rb]
   refine ⟨hk,CallK_of' (hx _) ?_⟩
   simp
   refine BrK_split (fun h => ?_) (fun h => ?_)
   · simp at h
     simp [RetK,cut_app hcl,hne h]
   · simp at h
     have tt:(a.map T.st).take (i+1)=(b.map T.st).take (i+1):=by rw [ta,tb,he,h]
     simp
     refine NextK_of H'.length (Nat.le_refl _) (by simp [f17,f16]) ?_
     simp [f0,f1,f2,f15,cut_app hcl]
     simpa using tt
 · rintro fr H' f17 f16 ⟨f0,f1,f2,f15,he,rfl⟩
   have:a.map T.st=b.map T.st:=by
    have e1:(a.map T.st).take a.length=a.map T.st:=by rw [List.take_of_length_le (by simp)]
    have e2:(b.map T.st).take a.length=b.map T.st:=by rw [List.take_of_length_le (by simp [hl])]
    rw [e1,e2] at he; exact he
   simp
   simp [RetK,cut_self hcl,this]
theorem Has.tySame {f fs ff:FuncId} {t:TypeId} (h:Has P f (irTySame fs ff f t)) (hs:Has P fs irSlEqS) (he:Has P ff (irTyEqF t)) (hk:callOk P f=true) (v:T):v.Fit 1048576→SameT P f v:=by
 induction v using T.ind with
 | h k z ns y ps ih =>
 rintro (⟨_,_,_,_,_,b2,b3,b4,b5⟩) w H
 cases w with | mk k' z' ns' y' ps' =>
 have h0:=h
 obtain ⟨fn,hf,hcf⟩:=h
 refine acall_fin hf hcf (by simp [irTySame]) fun hcl _ => ?_
 rw [T.a_mk,T.a_mk]
 by_cases hk':k=k'
 · simp [irTySame,hk']
   refine CallK_of' (hs.slEqS _ z z' ns ns' b2) ?_
   by_cases hns:ns=ns'
   · simp [hns]
     refine CallK_of' (he.tyEqF hk _ y y' ps ps' b3 (fun v hv=>ih v hv (b5 v hv))) ?_
     simp
     simp [RetK,cut_app hcl,T.st_eq,hk',hns]
   · simp [hns]
     simp [RetK,cut_app hcl,T.st_eq,hk',hns]
 · simp [irTySame,hk']
   simp [RetK,cut_app hcl,T.st_eq,hk']
theorem Has.tyNeeds {f fs:FuncId} {t:TypeId} (h:Has P f (irTyNeeds fs t)) (v w:T) (hs:SameT P fs v) (H:Hp):ACall P f [v.a,w.a] H (fun r H'=>r = .d (.bool (decide (w.st.k ≠ 0∧v.st ≠ w.st)))∧H'=H):=by
 obtain ⟨fn,hf,hcf⟩:=h
 refine acall_fin hf hcf (by simp [irTyNeeds]) fun hcl _ => ?_
 have hx:=hs w
 cases v with | mk k1 z1 ns1 y1 ps1 =>
 cases w with | mk k2 z2 ns2 y2 ps2 =>
 rw [T.a_mk,T.a_mk] at hx ⊢
 have e0:(T.mk k2 z2 ns2 y2 ps2).st.k=k2:=by rw [T.st_mk]; rfl
 rw [e0]
 by_cases h0:k2=0
 · simp [irTyNeeds,h0]
   simp [RetK,cut_app hcl]
 · simp [irTyNeeds,h0]
   refine CallK_of' (hx _) ?_
   simp
   simp [RetK,cut_app hcl]
end
end
section
def T.nil:T := .mk 0 true [] true []
abbrev Lt:=Str' × T
def cP (a b:Lt):Int:=cmpStr a.1 b.1
theorem cP_cmp:Cmp cP:=cmpStr_cmp.on Prod.fst
def Dup (S:List Lt):Prop:=∃ (j:Nat) (a b:Lt),S[j]?=some a∧S[j+1]?=some b∧a.1=b.1
theorem cP_lt {a b:Lt}:cP a b < 0 ↔ Op.bytesLess a.1 b.1=true:=cmpStr_lt
theorem cP_zero {a b:Lt}:cP a b=0 ↔ a.1=b.1:=cmpStr_zero
theorem strict_of:∀ {S:List Lt},Sorted cP S→¬ Dup S→(S.map Prod.fst).Nodup
 | [],_,_=>by simp
 | a :: r, hs, hd => by
   obtain ⟨h1,h2⟩:=Sorted.cons.1 hs
   have hd':¬ Dup r:=fun ⟨j,x,y,hx,hy,e⟩=>hd ⟨j+1,x,y,by simpa using hx,by simpa using hy,e⟩
   have ih:=strict_of h2 hd'
   rw [List.map_cons,List.nodup_cons]
   refine ⟨fun hm => ?_,ih⟩
   obtain ⟨y,hy,e⟩:=List.mem_map.1 hm
   cases r with
   | nil=>simp at hy
   | cons b r =>
     have hab:cP a b < 0:=by
      have h3:=h1 b (by simp)
      have h4:cP a b ≠ 0:=fun h=>hd ⟨0,a,b,rfl,rfl,cP_zero.1 h⟩
      omega
     have hay:cP a y < 0:=by
      rcases List.mem_cons.1 hy with rfl | hy'
      · exact hab
      · exact cP_cmp.lt_le hab ((Sorted.cons.1 h2).1 y hy')
     have:=cP_zero.2 (show a.1=y.1 from e.symm)
     omega
theorem dup_iff (L:List Lt):Dup (ssort cP L) ↔ ¬ (L.map Prod.fst).Nodup:=by
 have hp:=(ssort_perm cP_cmp L).map Prod.fst
 constructor
 · rintro ⟨j,a,b,ha,hb,e⟩ hn
   have hn':=(hp.nodup_iff).1 hn
   have h1:((ssort cP L).map Prod.fst)[j]?=some a.1:=by simp [ha]
   have h2:((ssort cP L).map Prod.fst)[j+1]?=some b.1:=by simp [hb]
   obtain ⟨l1,g1⟩:=List.getElem?_eq_some_iff.1 h1
   obtain ⟨l2,g2⟩:=List.getElem?_eq_some_iff.1 h2
   exact List.pairwise_iff_getElem.1 hn' j (j+1) l1 l2 (by omega) (by rw [g1,g2,e])
 · intro hn
   refine Classical.byContradiction fun hd=>hn ?_
   exact (hp.nodup_iff).2 (strict_of (ssort_spec cP_cmp L).1 hd)
open Classical in
noncomputable def recT (ns:List Str') (ps:List T):T × Int :=
 if ns.length=ps.length then
  if Dup (ssort cP (ns.zip ps)) then (T.nil,40) else (.new 3 ((ssort cP (ns.zip ps)).map Prod.fst) ((ssort cP (ns.zip ps)).map Prod.snd),0)
 else (T.nil,1)
end
section
open Classical
section
variable {P:Program}
theorem Has.slIsNaN {f:FuncId} (h:Has P f irSlIsNaN) (s:Str') (H:Hp):ACall P f [.d (.str s)] H (fun r H'=>r = .d (.bool false)∧H'=H):=by
 obtain ⟨fn,hf,hcf⟩:=h
 refine acall_fin hf hcf (by simp [irSlIsNaN]) fun hcl _ => ?_
 simp [irSlIsNaN]
 simp [RetK,cut_self hcl]
theorem Has.cmpLess {f fn:FuncId} (h:Has P f (irCmpLess fn)) (hn:Has P fn irSlIsNaN) (a b:Str') (H:Hp):ACall P f [.d (.str a),.d (.str b)] H (fun r H'=>r = .d (.bool (Op.bytesLess a b))∧H'=H):=by
 obtain ⟨fn,hf,hcf⟩:=h
 refine acall_fin hf hcf (by simp [irCmpLess]) fun hcl _ => ?_
 simp [irCmpLess]
 refine CallK_of' (hn.slIsNaN a _) ?_
 simp
 simp [RetK,cut_self hcl]
theorem inc_lt {ns:List Str'} (h:Ty.Inc ns):∀ {i j:Nat} {x y:Str'},ns[i]?=some x→ns[j]?=some y→i < j→Op.bytesLess x y=true:=by
 induction ns with
 | nil=>intro i j x y hi; simp at hi
 | cons a r ih =>
   intro i j x y hi hj hij
   cases i with
   | zero =>
     simp at hi
     subst hi
     obtain ⟨q,rfl⟩:∃ q,j=q+1:=⟨j - 1,by omega⟩
     exact h.lt y (List.mem_of_getElem? (by simpa using hj))
   | succ i =>
     obtain ⟨q,rfl⟩:∃ q,j=q+1:=⟨j - 1,by omega⟩
     exact ih h.tail (by simpa using hi) (by simpa using hj) (by omega)
def binM:Fr→Hp→Nat:=fun fr _=>match fr 7,fr 8 with | .d (.int _ a),.d (.int _ b)=>(b - a).toNat | _,_=>0
theorem Has.slBins {f fl fn:FuncId} (h:Has P f (irSlBins fl fn)) (hl:∀ a b H,ACall P fl [.d (.str a),.d (.str b)] H (fun r H'=>r = .d (.bool (Op.bytesLess a b))∧H'=H)) (hn:Has P fn irSlIsNaN)
 (z:Bool) (ns:List Str') (x:Str') (hi:Ty.Inc ns) (hlen:ns.length≤1048576) (H:Hp) :
 ACall P f [.d (.sl z 1 (ns.map encStr)),.d (.str x)] H (fun r H'=>(∃ i:Nat,r = .tup [.d (.int .i64 (i:Int)),.d (.bool (decide (x ∈ ns)))]∧(x ∈ ns→ns[i]?=some x))∧H'=H):=by
 obtain ⟨fn,hf,hcf⟩:=h
 refine acall_fin hf hcf (by simp [irSlBins]) fun hcl _ => ?_
 simp [irSlBins]
 refine LoopK_of H.length (fun fr H'=>∃ i j:Nat,i≤j∧j≤ns.length∧fr 0 = .d (.sl z 1 (ns.map encStr))∧fr 1 = .d (.str x)∧fr 6 = .d (.int .i64 (ns.length:Int))∧fr 7 = .d (.int .i64 (i:Int))∧fr 8 = .d (.int .i64 (j:Int)) ∧
  (∀ (k:Nat) (y:Str'),k < i→ns[k]?=some y→Op.bytesLess y x=true)∧(∀ (k:Nat) (y:Str'),j≤k→ns[k]?=some y→Op.bytesLess y x=false)∧H'=H) binM (by simp) ?_ ?_
 · refine ⟨0,ns.length,Nat.zero_le _,Nat.le_refl _,by simp,by simp,by simp,by simp,by simp,fun k y hk=>by omega,fun k y hk e => ?_,cut_self hcl⟩
   have:=(List.getElem?_eq_some_iff.1 e).1
   omega
 rintro fr H' ⟨i,j,hij,hjn,f0,f1,f6,f7,f8,hlo,hhi,rfl⟩
 simp [f7,f8]
 refine BrK_split (fun h => ?_) (fun h => ?_)
 · have hlt:i < j:=by simpa using h
   have hw:IntKind.i64.wrap ((i:Int)+j)=((i+j:Nat):Int):=by rw [wrap_i64 (by omega) (by omega)]; omega
   have hw2:IntKind.u64.wrap ((i+j:Nat):Int)=((i+j:Nat):Int):=wrap_u64 (by omega) (by omega)
   have hs:shOp .shr .u64 (((i+j:Nat):Int)) 1=some (.int .u64 (((i+j) / 2:Nat):Int)):=by
    simp only [shOp,IntKind.bits]
    rw [if_neg (by decide)]
    show some (D.int IntKind.u64 (Int.fdiv ((i+j:Nat):Int) (2 ^ 1)))=_
    rw [Int.fdiv_eq_ediv_of_nonneg _ (by decide)]
    norm_cast
   have hw3:IntKind.i64.wrap (((i+j) / 2:Nat):Int)=(((i+j) / 2:Nat):Int):=wrap_i64 (by omega) (by omega)
   have hm1:(i+j) / 2 < j:=by omega
   have hm2:i≤(i+j) / 2:=by omega
   generalize (i+j) / 2=m at hs hw3 hm1 hm2
   generalize i+j=ij at hw hw2 hs
   have hmn:m < ns.length:=by omega
   have hr:=rowAt_map encStr hmn
   have hg:ns[m]?=some ns[m]:=List.getElem?_eq_getElem hmn
   generalize ns[m]=y at hr hg
   simp only [encStr] at hr
   simp [f0,f1,f7,f8,hw,hw2,hs,hw3,encStr,hr]
   refine CallK_of' (hl _ _ _) ?_
   simp
   refine BrK_split (fun h2 => ?_) (fun h2 => ?_)
   · have hw4:IntKind.i64.wrap ((m:Int)+1)=((m+1:Nat):Int):=by rw [wrap_i64 (by omega) (by omega)]; omega
     simp [hw4]
     refine AgainK_of (m:=H'.length) (by simp) ⟨m+1,j,by omega,hjn,by simp [f0],by simp [f1],by simp [f6],by simp,by simp [f8],fun k y' hk e => ?_,hhi,cut_self hcl⟩ ?_
     · rcases Nat.lt_or_ge k m with hlt' | hge
       · exact bl_trans _ _ _ (inc_lt hi e hg hlt') h2
       · have:k=m:=by omega
         subst this
         rw [hg] at e
         cases e
         exact h2
     · simp [binM,f7,f8]; omega
   · simp
     refine AgainK_of (m:=H'.length) (by simp) ⟨i,m,by omega,by omega,by simp [f0],by simp [f1],by simp [f6],by simp [f7],by simp,hlo,fun k y' hk e => ?_,cut_self hcl⟩ ?_
     · rcases Nat.lt_or_ge m k with hlt' | hge
       · refine Bool.eq_false_iff.2 fun h3 => ?_
         have:=bl_trans _ _ _ (inc_lt hi hg e hlt') h3
         rw [h2] at this; cases this
       · have:k=m:=by omega
         subst this
         rw [hg] at e
         cases e
         exact h2
     · simp [binM,f7,f8]; omega
 · have hij2 : i = j := by have : ¬ i < j := by simpa using h
                           omega
   subst hij2
   simp [f0,f1,f6,f7]
   have hmem:x ∈ ns→ns[i]?=some x:=fun hm=>by
    obtain ⟨q,hq⟩:=List.getElem?_of_mem hm
    rcases Nat.lt_trichotomy q i with h1 | h1 | h1
    · have:=hlo q x h1 hq; rw [bl_irrefl] at this; cases this
    · rw [← h1]; exact hq
    · have hil:i < ns.length:=by have:=(List.getElem?_eq_some_iff.1 hq).1; omega
      have hgi:ns[i]?=some ns[i]:=List.getElem?_eq_getElem hil
      have h2:=inc_lt hi hgi hq h1
      have h3:=hhi i _ (Nat.le_refl _) hgi
      rw [h2] at h3; cases h3
   refine GdK_split (by simp) (fun h1 => ?_) (fun h1 => ?_)
   · have hil:i < ns.length:=by simpa using h1
     have hr:=rowAt_map encStr hil
     have hg:ns[i]?=some ns[i]:=List.getElem?_eq_getElem hil
     generalize ns[i]=y at hr hg
     simp only [encStr] at hr
     simp [f0,f1,f7,encStr,hr]
     by_cases hyx:y=x
     · subst hyx
       have hin:y ∈ ns:=List.mem_of_getElem? hg
       simp
       simp [RetK,cut_self hcl,hin,f7]
       exact ⟨i,rfl,hg⟩
     · have hin:x ∉ ns:=fun hm=>by rw [hmem hm] at hg; cases hg; exact hyx rfl
       simp [hyx,f0,f7,encStr,hr]
       refine CallK_of' (hn.slIsNaN _ _) ?_
       simp
       simp [RetK,cut_self hcl,hin,f7]
       exact ⟨i,rfl⟩
   · have hge:¬ i < ns.length:=by simpa using h1
     have hin:x ∉ ns:=fun hm=>hge (List.getElem?_eq_some_iff.1 (hmem hm)).1
     simp
     simp [RetK,cut_self hcl,hin,f7]
     exact ⟨i,rfl⟩
end
def lookT (x:Str'):List Str'→List T→Option T
 | y :: ns,p :: ps=>if y=x then some p else lookT x ns ps
 | _,_=>none
theorem lookT_at {x:Str'}:∀ {ns:List Str'} {ps:List T} {i:Nat} {p:T},Ty.Inc ns→ns[i]?=some x→ps[i]?=some p→lookT x ns ps=some p
 | [],_,i,_,_,h,_=>by simp at h
 | _ :: _,[],i,_,_,_,h=>by simp at h
 | y :: ns, q :: ps, i, p, hi, h1, h2 => by
   rw [lookT]
   cases i with
   | zero =>
     simp at h1 h2
     rw [if_pos h1,h2]
   | succ i =>
     simp at h1 h2
     rw [if_neg (fun e=>by subst e; exact hi.notMem (List.mem_of_getElem? h1))]
     exact lookT_at hi.tail h1 h2
theorem lookT_none {x:Str'}:∀ {ns:List Str'} {ps:List T},x ∉ ns→lookT x ns ps=none
 | [],_,_=>rfl
 | _ :: _,[],_=>rfl
 | y :: ns, q :: ps, h => by
   rw [lookT,if_neg (fun e=>h (by simp [e]))]
   exact lookT_none fun hm=>h (by simp [hm])
theorem lookT_some {x:Str'} {p:T}:∀ {ns:List Str'} {ps:List T},lookT x ns ps=some p→∃ i:Nat,ns[i]?=some x∧ps[i]?=some p
 | [],_,h=>by simp [lookT] at h
 | _ :: _,[],h=>by simp [lookT] at h
 | y :: ns, q :: ps, h => by
   rw [lookT] at h
   split at h
   · rename_i e
     exact ⟨0,by simp [e],by simpa using h⟩
   · obtain ⟨i,h1,h2⟩:=lookT_some h
     exact ⟨i+1,by simpa using h1,by simpa using h2⟩
def T.fld (x:Str'):T→Option T
 | .mk k _ ns _ ps=>if k=3 then lookT x ns ps else none
theorem T.a_nil:T.nil.a = .agg [.d (.int .i64 0),.d (.sl true 1 []),.d (.sl true 3 [])]:=rfl
def FieldT (P:Program) (f:FuncId):Prop:=∀ (v:T),v.Fit 1048576→v.st.Rt→∀ (x:Str') (H:Hp),ACall P f [v.a,.d (.str x)] H (fun r H'=>r = .tup [((v.fld x).getD T.nil).a,.d (.bool (v.fld x).isSome)]∧H'=H)
section
variable {P:Program}
theorem Has.tyField {f fb:FuncId} {t:TypeId} (h:Has P f (irTyField fb t)) (hb:∀ (z:Bool) (ns:List Str') (x:Str'),Ty.Inc ns→ns.length≤1048576→∀ H,
 ACall P fb [.d (.sl z 1 (ns.map encStr)),.d (.str x)] H (fun r H'=>(∃ i:Nat,r = .tup [.d (.int .i64 (i:Int)),.d (.bool (decide (x ∈ ns)))]∧(x ∈ ns→ns[i]?=some x))∧H'=H)):FieldT P f:=by
 intro v hv hr x H
 obtain ⟨k,z,ns,y,ps⟩:=v
 cases hv with | mk _ _ _ _ _ b2 b3 b4 b5 =>
 rw [T.st_mk] at hr
 obtain ⟨fn,hf,hcf⟩:=h
 refine acall_fin hf hcf (by simp [irTyField]) fun hcl _ => ?_
 rw [T.a_mk]
 by_cases hk:k=3
 case neg =>
  simp [irTyField,hk]
  simp [RetK,cut_app hcl,T.fld,hk,T.a_nil]
 have hlen:ns.length=ps.length:=by simpa using hr.len hk
 simp [irTyField,hk]
 refine CallK_of (hb z ns x hr.inc b2 _) ?_
 rintro r H' ⟨⟨i,rfl,hi⟩,rfl⟩
 by_cases hm:x ∈ ns
 · have hx:=hi hm
   have hil:i < ps.length:=by have:=(List.getElem?_eq_some_iff.1 hx).1; omega
   have hp:ps[i]?=some ps[i]:=List.getElem?_eq_getElem hil
   have hra:=rowAt_map T.enc hil
   have hlk:=lookT_at (ps:=ps) hr.inc hx hp
   have hge:¬ (ps.length:Int)≤(i:Int):=by omega
   generalize ps[i]=p at hp hra hlk
   obtain ⟨k1,z1,ns1,y1,ps1⟩:=p
   rw [T.enc_mk] at hra
   simp [hm,hge,hra]
   simp [RetK,cut_app hcl,T.fld,hlk,T.a_mk]
 · have hlk:=lookT_none (ps:=ps) hm
   simp [hm]
   simp [RetK,cut_app hcl,T.fld,hlk,T.a_nil]
end
end
section
open Go.RowKit (Below)
open Go.Proofs Go.Sort
def CompactStr (P:Program) (f:FuncId):Prop :=
 (∀ (blk off cap:Nat) (ss:List (List UInt8)) (w:World),Holds Go.Proofs.encStr w blk off ss.toArray→ss.length≤9223372036854775807→ss.length≤cap →
  Calls P f #[.slice (some ⟨blk,off,none⟩) ss.length cap] w fun e w'=>e = .returned (.slice (some ⟨blk,off,none⟩) (Lib.compact ss).length cap)∧∃ q,w'=putRow Go.Proofs.encStr (Go.Sort.ahead w q) blk off (Lib.compact ss++List.replicate (ss.length - (Lib.compact ss).length) []).toArray) ∧
 ∀ (a:Option Addr) (cap:Nat) (w:World),Calls P f #[.slice a 0 cap] w fun e w'=>e = .returned (.slice a 0 cap)∧w'=w
theorem compact_len_le (L:List (List UInt8)):(Lib.compact L).length≤L.length:=by
 unfold Lib.compact Lib.compactUpTo
 rw [List.length_map]
 exact Nat.le_trans (List.length_filter_le _ _) (by simp)
theorem compact_pos {L:List (List UInt8)} (h:L ≠ []):0 < (Lib.compact L).length:=by
 have hpos:=List.length_pos_iff.2 h
 unfold Lib.compact Lib.compactUpTo
 rw [List.length_map,List.length_pos_iff]
 intro e
 have:(0:Nat) ∈ (List.range L.length).filter (Lib.keeps L.toArray):=List.mem_filter.2 ⟨List.mem_range.2 hpos,by simp [Lib.keeps]⟩
 rw [e] at this; cases this
theorem compact_acall {P:Program} {f:FuncId} (hC:CompactStr P f) {L:List (List UInt8)} (hne:L ≠ []) (hl:L.length≤1048576) {H:Hp} {i:Nat} (hi:H[i]?=some (.arr 1 (strRows L))) :
 ACall P f [.msl i 0 L.length] H (fun r H'=>r = .msl i 0 (Lib.compact L).length∧∃ rows,H'=H.set i (.arr 1 rows)):=by
 intro κ w vs hr hvl hv
 match vs,hvl with
 | [v],_ =>
 have hv0:=hv 0 v _ rfl rfl
 have hpos:0 < L.length:=List.length_pos_iff.2 hne
 cases hv0 with
 | msl _ _ _ b sz o cap hb hcl ho hz =>
 obtain ⟨b',s',hβ',hsh,hc⟩:=hr.ob i _ hi
 obtain ⟨rfl,rfl⟩:b=b'∧sz=1:=by
  rcases hb with ⟨s,hb⟩ | hb
  · rw [hβ'] at hb; cases hb; exact ⟨rfl,rfl⟩
  · rw [hβ'] at hb; cases hb
 have ho':o=0:=by have:=ho hpos; omega
 subst ho'
 have hH0:∀ n,Holds Go.Proofs.encStr (Go.Sort.ahead w n) b 0 L.toArray:=fun n j hj=>by
  have hj':j < L.length:=by simpa using hj
  have hrow:(strRows L)[j]?=some [.d (.str L[j])]:=by rw [strRows,List.getElem?_map,List.getElem?_eq_getElem hj']; rfl
  obtain ⟨-,h2⟩:=hc j _ hrow
  obtain ⟨u,u1,u2,u3⟩:=h2 0 _ rfl
  have:=u3.d_inv.str_inv
  subst this
  rw [Nat.mul_one,Nat.add_zero] at u1 u2
  rw [Nat.zero_add]
  refine ⟨?_,u2⟩
  rw [cell?_ahead,u1]
  simp [Go.Proofs.encStr,getElem!_pos,hj']
 refine (hC.1 b 0 cap L w (hH0 0) (by omega) hcl).mono ?_
 rintro e w' ⟨rfl,n,rfl⟩
 have h1:HR κ H (Go.Sort.ahead w n):=hr.later (below_ahead w n)
 have hle:=compact_len_le L
 have hml:(Lib.compact L++List.replicate (L.length - (Lib.compact L).length) ([]:List UInt8)).length=L.length:=by simp; omega
 have h2:=h1.putRows hi hβ' hml (hH0 n) L.length (Nat.le_refl _)
 rw [List.take_of_length_le (by omega),List.drop_of_length_le (Nat.le_refl _),List.append_nil] at h2
 have hp:=compact_pos hne
 exact ⟨_,κ,_,_,rfl,K.le_refl κ,h2,.msl _ _ _ b 1 0 cap (.inl ⟨_,hβ'⟩) (by omega) (fun _=>by omega) (fun h0=>by omega),rfl,_,rfl⟩
theorem compact0_acall {P:Program} {f:FuncId} (hC:CompactStr P f) {H:Hp}:ACall P f [.d (.sl true 1 [])] H (fun r H'=>r = .d (.sl true 1 [])∧H'=H):=by
 intro κ w vs hr hvl hv
 match vs,hvl with
 | [v],_ =>
 have hd:=(hv 0 v _ rfl rfl).d_inv
 have hn1:v = .slice none 0 0:=by
  rcases hd.sl_inv with ⟨h1,-⟩ | ⟨_,_,_,h1,-⟩ | ⟨_,_,_,_,_,h1,-⟩
  · exact h1
  · cases h1
  · exact absurd rfl (h1 rfl)
 subst hn1
 refine (hC.2 none 0 w).mono ?_
 rintro e w' ⟨rfl,rfl⟩
 exact ⟨_,κ,_,_,rfl,K.le_refl κ,hr,.d (.nilsl 1),rfl,rfl⟩
theorem sort0_acall {P:Program} {f:FuncId} (hC:∀ (a:Option Addr) (cap:Nat) (w:World),Calls P f #[.slice a 0 cap] w fun e w'=>e = .returned (.tuple #[])∧w'=w) {H:Hp}:ACall P f [.d (.sl true 1 [])] H (fun r H'=>r = .tup []∧H'=H):=by
 intro κ w vs hr hvl hv
 match vs,hvl with
 | [v],_ =>
 have hd:=(hv 0 v _ rfl rfl).d_inv
 have hn1:v = .slice none 0 0:=by
  rcases hd.sl_inv with ⟨h1,-⟩ | ⟨_,_,_,h1,-⟩ | ⟨_,_,_,_,_,h1,-⟩
  · exact h1
  · cases h1
  · exact absurd rfl (h1 rfl)
 subst hn1
 refine (hC none 0 w).mono ?_
 rintro e w' ⟨rfl,rfl⟩
 exact ⟨_,κ,_,_,rfl,K.le_refl κ,hr,.tup [] [] rfl (by simp),rfl,rfl⟩
def msort (L:List Str'):List Str':=L.mergeSort fun x y=>decide (x≤y)
section
variable {P:Program}
def irSlCollect (c1 : Nat) : IFn := { nt := 5, res := [.t 2], body := ( .seq (.ops [⟨some 2,none,.mv (.c (.sl true 1 []))⟩] false) (.seq (.ops [⟨some 3,none,.mv (.t 0)⟩,⟨some 4,none,.call c1 [(.c (.sl true 1 [])),(.t 3)]⟩,⟨some 2,none,.mv (.t 4)⟩] false) (.ret))) }
theorem Has.slValues {f g:FuncId} {t:TypeId} (h:Has P f (irSlValues g t)) (z:Bool) (L:List Str') (H:Hp) :
 ACall P f [.d (.sl z 1 (L.map encStr))] H (fun r H'=>r = .fn (.func g) [] [.ptr H.length 0]∧H'=H++[.box t [.d (.sl z 1 (L.map encStr))]]):=by
 obtain ⟨fn,hf,hcf⟩:=h
 refine acall_fink 1 hf hcf (by simp [irSlValues]) fun hcl _ => ?_
 simp [irSlValues]
 simp [RetK,cut_appk hcl,A.lo]
theorem Has.slCollect {f fa g:FuncId} (h:Has P f (irSlCollect fa)) (hC:CollectStr P fa g) {L:List Str'} (hl:L.length≤1048576) {H:Hp} {i bt:Nat} {z:Bool} (hi:H[i]?=some (.box bt [.d (.sl z 1 (L.map encStr))])) :
 ACall P f [.fn (.func g) [] [.ptr i 0]] H (fun r H'=>(L=[]∧r = .d (.sl true 1 [])∧H'=H)∨(L ≠ []∧r = .msl H.length 0 L.length∧H'=H++[.arr 1 (strRows L)])):=by
 obtain ⟨fn,hf,hcf⟩:=h
 by_cases hL:L=[]
 · refine acall_fin hf hcf (by simp [irSlCollect]) fun hcl _ => ?_
   simp [irSlCollect]
   refine CallK_of (collect_acall hC hl hi) ?_
   rintro x H' (⟨-,rfl,rfl⟩ | ⟨hne,-⟩)
   · simp
     simp [RetK,cut_self hcl,hL]
   · exact absurd hL hne
 · refine acall_fink 1 hf hcf (by simp [irSlCollect]) fun hcl _ => ?_
   simp [irSlCollect]
   refine CallK_of (collect_acall hC hl hi) ?_
   rintro x H' (⟨h0,-⟩ | ⟨hne,rfl,rfl⟩)
   · exact absurd h0 hL
   · simp
     simp [RetK,cut_appk hcl,hL,strRows]
theorem Has.slSorted {f fc fs fa g:FuncId} (h:Has P f (irSlSorted fc fs)) (hc:Has P fc (irSlCollect fa)) (hC:CollectStr P fa g) (hS:SortStr P fs)
 (hS0:∀ (a:Option Addr) (cap:Nat) (w:World),Calls P fs #[.slice a 0 cap] w fun e w'=>e = .returned (.tuple #[])∧w'=w) {L:List Str'} (hl:L.length≤1048576) {H:Hp} {i bt:Nat} {z:Bool} (hi:H[i]?=some (.box bt [.d (.sl z 1 (L.map encStr))])) :
 ACall P f [.fn (.func g) [] [.ptr i 0]] H (fun r H'=>r = .d (.sl L.isEmpty 1 ((msort L).map encStr))∧H'=H):=by
 obtain ⟨fn,hf,hcf⟩:=h
 by_cases hL:L=[]
 · refine acall_fin hf hcf (by simp [irSlSorted]) fun hcl _ => ?_
   simp [irSlSorted]
   refine CallK_of (hc.slCollect hC hl hi) ?_
   rintro x H' (⟨-,rfl,rfl⟩ | ⟨hne,-⟩)
   · simp
     refine CallK_of' (sort0_acall hS0) ?_
     simp
     simp [RetK,cut_self hcl,hL,msort]
   · exact absurd hL hne
 · have hlen:(msort L).length=L.length:=List.length_mergeSort L
   have he:L.isEmpty=false:=by simpa using hL
   rw [he]
   refine ACall.freeze (k:=0) (X:=[.arr 1 (strRows (msort L))]) (by simp [strRows,encStr]) ?_
   refine acall_fink 1 hf hcf (by simp [irSlSorted]) fun hcl _ => ?_
   simp [irSlSorted]
   refine CallK_of (hc.slCollect hC hl hi) ?_
   rintro x H' (⟨h0,-⟩ | ⟨hne,rfl,rfl⟩)
   · exact absurd h0 hL
   · simp
     refine CallK_of' (sortStr_acall hS hL (by omega) (H:=H++[.arr 1 (strRows L)]) (i:=H.length) (by simp)) ?_
     simp
     simp [RetK,cut_appk hcl,strRows,hlen,msort]
theorem Has.idxAt {f:FuncId} (h:Has P f irSlIdx) (z:Bool) (ns:List Str') (x:Str') (hx:x ∈ ns) (hn:ns.length≤1048576) (H:Hp):ACall P f [.d (.sl z 1 (ns.map encStr)),.d (.str x)] H (fun r H'=>r = .d (.int .i64 (ns.idxOf x:Nat))∧H'=H):=by
 obtain ⟨fn,hf,hcf⟩:=h
 refine acall_fin hf hcf (by simp [irSlIdx]) fun hcl _ => ?_
 simp [irSlIdx]
 refine RangeK_of H.length ns.length (fun i fr H'=>fr 0 = .d (.sl z 1 (ns.map encStr))∧fr 1 = .d (.str x)∧x ∉ ns.take i∧H'=H) (by omega) (by decide) (by simp) (by simp) ?_ ?_ ?_
 · simp [cut_self hcl]
 · rintro i fr H' hi f8 f7 ⟨f0,f1,hni,rfl⟩
   have hr:=rowAt_map encStr hi
   have hd:ns.drop i=ns[i] :: ns.drop (i+1):=List.drop_eq_getElem_cons hi
   have ht:ns.take (i+1)=ns.take i++[ns[i]]:=List.take_succ_eq_append_getElem hi
   have hsplit:ns=ns.take i++ns[i] :: ns.drop (i+1):=by rw [← hd,List.take_append_drop]
   generalize ns[i]=y at hr hd ht hsplit
   simp only [encStr] at hr
   by_cases hxy:x=y
   · subst hxy
     have hix:ns.idxOf x=i:=by
      have e1:(ns.take i++x :: ns.drop (i+1)).idxOf x=i:=by
       rw [List.idxOf_append,if_neg hni]
       simp; omega
      rw [← hsplit] at e1; exact e1
     simp [f8,f0,f1,encStr,hr]
     simp [RetK,cut_self hcl,hix]
   · simp [f8,f0,f1,encStr,hr,hxy]
     refine NextK_of H'.length (Nat.le_refl _) (by simp [f8,f7]) ?_
     have:x ∉ ns.take (i+1):=by rw [ht]; simp [hni,hxy]
     simp [f0,f1,cut_self hcl,this]
 · rintro fr H' f8 f7 ⟨f0,f1,hni,rfl⟩
   rw [List.take_of_length_le (Nat.le_refl _)] at hni
   exact absurd hx hni
end
end
section
open Go.Proofs
theorem le_iff {x y:Str'}:x≤y ↔ Op.bytesLess y x=false:=by
 rw [bytesLess_eq,decide_eq_false_iff_not]
 exact Iff.rfl
theorem le_cmp {x y:Str'}:x≤y ↔ cmpStr x y≤0:=by
 rw [le_iff]
 constructor
 · intro h
   refine Classical.byContradiction fun hn => ?_
   have:=cmpStr_gt.1 (show 0 < cmpStr x y by omega)
   rw [h] at this; cases this
 · intro h
   refine Bool.eq_false_iff.2 fun hn => ?_
   have:=cmpStr_gt.2 hn
   omega
theorem msort_sorted (L:List Str'):(msort L).Pairwise fun x y=>cmpStr x y≤0:=by
 have:=List.pairwise_mergeSort (le:=fun x y:Str'=>decide (x≤y)) (fun a b c h1 h2=>by
  simp only [decide_eq_true_eq] at h1 h2 ⊢
  rw [le_cmp] at h1 h2 ⊢
  exact cmpStr_cmp.trans _ _ _ h1 h2) (fun a b=>by
  rw [Bool.or_eq_true,decide_eq_true_eq,decide_eq_true_eq,le_cmp,le_cmp]
  exact cmpStr_cmp.le_total a b) L
 exact this.imp fun h=>le_cmp.1 (of_decide_eq_true h)
theorem msort_perm (L:List Str'):(msort L).Perm L:=List.mergeSort_perm L _
theorem msort_len (L:List Str'):(msort L).length=L.length:=List.length_mergeSort L
theorem sorted_eq {l l':List Str'} (h:l.Pairwise fun x y=>cmpStr x y≤0) (h':l'.Pairwise fun x y=>cmpStr x y≤0) (hp:l.Perm l'):l=l' :=
 List.Perm.eq_of_pairwise (fun a b _ _ h1 h2=>cmpStr_zero.1 (cmpStr_cmp.le_antisymm h1 h2)) h h' hp
theorem msort_zip {ns:List Str'} {ps:List T} (h:ns.length=ps.length):msort ns=(ssort cP (ns.zip ps)).map Prod.fst:=by
 refine sorted_eq (msort_sorted ns) ?_ ?_
 · exact List.pairwise_map.2 (ssort_spec cP_cmp (ns.zip ps)).1
 · have h1:((ns.zip ps).map Prod.fst).Perm ((ssort cP (ns.zip ps)).map Prod.fst):=(ssort_perm cP_cmp (ns.zip ps)).map _
   rw [List.map_fst_zip (by omega)] at h1
   exact (msort_perm ns).trans h1
theorem filter_len {α:Type} {p : α→Bool}:∀ {l:List α},(l.filter p).length=l.length ↔ ∀ x ∈ l,p x=true
 | []=>by simp
 | a :: l => by
   rw [List.filter_cons]
   split
   · rename_i h
     rw [List.length_cons,List.length_cons,Nat.add_right_cancel_iff,filter_len (l:=l)]
     simp [h]
   · rename_i h
     constructor
     · intro e
       have:=List.length_filter_le p l
       simp only [List.length_cons] at e
       omega
     · intro hh; exact absurd (hh a (by simp)) h
theorem compact_dup (S:List Lt):(Lib.compact (S.map Prod.fst)).length=S.length ↔ ¬ Dup S:=by
 have h1:(Lib.compact (S.map Prod.fst)).length=((List.range (S.map Prod.fst).length).filter (Lib.keeps (S.map Prod.fst).toArray)).length:=by
  unfold Lib.compact Lib.compactUpTo
  rw [List.length_map]
 rw [h1]
 have h2:S.length=(List.range (S.map Prod.fst).length).length:=by simp
 rw [h2,filter_len]
 have hget:∀ (j:Nat) (a:Lt),S[j]?=some a→(S.map Prod.fst).toArray[j]! = a.1:=fun j a ha=>by
  obtain ⟨hj,e⟩:=List.getElem?_eq_some_iff.1 ha
  rw [getElem!_pos _ j (by simpa using hj)]
  simp [e]
 constructor
 · rintro h ⟨j,a,b,ha,hb,e⟩
   have hj:j+1 < S.length:=(List.getElem?_eq_some_iff.1 hb).1
   have:=h (j+1) (List.mem_range.2 (by simpa using hj))
   simp only [Lib.keeps,decide_eq_true_eq] at this
   rcases this with h0 | h0
   · omega
   · rw [hget _ _ hb,Nat.add_sub_cancel,hget _ _ ha] at h0
     exact h0 e.symm
 · intro h j hj
   have hj':j < S.length:=by simpa using List.mem_range.1 hj
   simp only [Lib.keeps,decide_eq_true_eq]
   by_cases h0:j=0
   · exact .inl h0
   · refine .inr fun e=>h ⟨j - 1,S[j - 1]'(by omega),S[j],List.getElem?_eq_getElem _,?_,?_⟩
     · rw [show j - 1+1=j by omega]; exact List.getElem?_eq_getElem _
     · rw [hget _ _ (List.getElem?_eq_getElem hj'),hget _ _ (List.getElem?_eq_getElem (by omega))] at e
       exact e.symm
theorem idx_part {ns:List Str'} {ps:List T} (hl:ns.length=ps.length) (hd:¬ Dup (ssort cP (ns.zip ps))) {j:Nat} {x:Lt} (hx:(ssort cP (ns.zip ps))[j]?=some x):x.1 ∈ ns∧ps[ns.idxOf x.1]?=some x.2:=by
 have hm:x ∈ ns.zip ps:=(ssort_perm cP_cmp (ns.zip ps)).mem_iff.2 (List.mem_of_getElem? hx)
 have hnd:((ns.zip ps).map Prod.fst).Nodup:=Classical.byContradiction fun h=>hd ((dup_iff _).2 h)
 rw [List.map_fst_zip (by omega)] at hnd
 obtain ⟨i,hi⟩:=List.getElem?_of_mem hm
 have hi':=List.getElem?_zip_eq_some.1 hi
 obtain ⟨h1,h2⟩:=hi'
 have hmem:=List.mem_of_getElem? h1
 have hlt:=List.idxOf_lt_length_iff.2 hmem
 have hget:ns[ns.idxOf x.1]?=some x.1:=by rw [List.getElem?_eq_getElem hlt]; simp
 have:ns.idxOf x.1=i:=by
  obtain ⟨a1,b1⟩:=List.getElem?_eq_some_iff.1 hget
  obtain ⟨a2,b2⟩:=List.getElem?_eq_some_iff.1 h1
  rcases Nat.lt_trichotomy (ns.idxOf x.1) i with h | h | h
  · exact absurd (b1.trans b2.symm) (List.pairwise_iff_getElem.1 hnd _ _ a1 a2 h)
  · exact h
  · exact absurd (b2.trans b1.symm) (List.pairwise_iff_getElem.1 hnd _ _ a2 a1 h)
 rw [this]
 exact ⟨hmem,h2⟩
theorem DR.flag {σ:St} {v:Value} {z z':Bool} {sz:Nat} {rows:List (List D)} (h:DR σ v (.sl z sz rows)) (hz:rows=[]→z=z'):DR σ v (.sl z' sz rows):=by
 by_cases hr:rows=[]
 · rw [← hz hr]; exact h
 · rcases h.sl_inv with ⟨-,-,e⟩ | ⟨_,_,-,-,e⟩ | ⟨b,o,cap,f,rfl,-,hcap,hrow,hc,hd⟩
   · exact absurd e hr
   · exact absurd e hr
   · exact .sl z' sz rows b o cap f (fun _=>hr) hcap hrow hc hd
theorem nrm_T {k:Int} {z z':Bool} {ns:List Str'} {y y':Bool} {ps:List T} (hz:ns=[]→z=z') (hy:ps=[]→y=y'):Nrm (T.mk k z ns y ps).a (T.mk k z' ns y' ps).a:=by
 intro κ v h
 rw [T.a_mk] at h ⊢
 cases h with
 | agg vs _ hl hh =>
   refine .agg vs _ (by simpa using hl) fun i v a hv ha => ?_
   match i with
   | 0=>exact hh 0 v _ hv ha
   | 1 =>
     simp at ha
     subst ha
     have:=hh 1 v _ hv rfl
     exact .d (this.d_inv.flag fun e=>hz (by simpa using e))
   | 2 =>
     simp at ha
     subst ha
     have:=hh 2 v _ hv rfl
     exact .d (this.d_inv.flag fun e=>hy (by simpa using e))
   | i+3=>simp at ha
theorem nrm_tup {a a' b:A} (h:Nrm a a'):Nrm (.tup [a,b]) (.tup [a',b]):=by
 intro κ v hv
 cases hv with
 | tup vs _ hl hh =>
   refine .tup vs _ (by simpa using hl) fun i v c hv hc => ?_
   match i with
   | 0 =>
     simp at hc
     subst hc
     exact h κ v (hh 0 v _ hv rfl)
   | 1=>exact hh 1 v _ hv hc
   | i+2=>simp at hc
end
section
open Classical
def RecT (P:Program) (f:FuncId):Prop:=∀ (z y:Bool) (ns:List Str') (ps:List T),ns.length≤1048576→ps.length≤1048576→∀ H,
 ACall P f [.d (.sl z 1 (ns.map encStr)),.d (.sl y 3 (ps.map T.enc))] H (fun r H'=>r = .tup [(recT ns ps).1.a,.d (.int .i64 (recT ns ps).2)]∧H'=H)
section
variable {P:Program}
theorem Has.tyRecord {f fv fs fc fk fi fa fo fso g:FuncId} {t bt:TypeId} (h:HasT P [28] f (irTyRecord fv fs fc fk fi bt)) (hv:Has P fv (irSlValues g t))
 (hs:∀ {L:List Str'},L.length≤1048576→∀ {H:Hp} {i bt:Nat} {z:Bool},H[i]?=some (.box bt [.d (.sl z 1 (L.map encStr))])→ACall P fs [.fn (.func g) [] [.ptr i 0]] H (fun r H'=>r = .d (.sl L.isEmpty 1 ((msort L).map encStr))∧H'=H))
 (hc:HasT P [1000005] fc (irCloneM 1 16 fo)) (hk:CompactStr P fk) (hi:Has P fi irSlIdx):RecT P f:=by
 intro z y ns ps h1 h2 H
 obtain ⟨fn,hf,hcf⟩:=h
 obtain ⟨fnc,hcf1,hcf2⟩:=hc
 by_cases hl:ns.length=ps.length
 case neg =>
  have hl':¬ (ns.length:Int)=ps.length:=by omega
  refine acall_fin hf hcf (by simp [irTyRecord]) fun hcl _ => ?_
  simp [irTyRecord,hl,hl']
  simp [RetK,cut_app hcl,recT,hl,T.nil,T.a_mk]
 by_cases hn:ns=[]
 · subst hn
   have hp:ps=[]:=List.eq_nil_of_length_eq_zero (by simpa using hl.symm)
   subst hp
   have hnd:¬ Dup ([]:List Lt):=by rintro ⟨j,a,b,h,-⟩; simp at h
   refine acall_fin hf hcf (by simp [irTyRecord]) fun hcl _ => ?_
   simp [irTyRecord]
   refine CallK_of' (hv.slValues z [] _) ?_
   simp
   refine CallK_of' (hs (L:=[]) (by simp) (bt:=t) (z:=z) (by simp)) ?_
   simp [msort]
   refine CallK_of' (clone0_acall hcf1 hcf2) ?_
   simp
   refine CallK_of' (compact0_acall hk) ?_
   simp
   refine RangeK_of (H.length+4) 0 (fun i fr H'=>fr 4 = .ptr H.length 0∧fr 7 = .ptr (H.length+3) 0∧H'=H++[.box bt [.d (.int .i64 0),.d (.sl true 1 []),.d (.sl true 3 [])],.box t [.d (.sl z 1 [])],.tok 0 3 bt,.box bt [.d (.int .i64 3),.d (.sl true 1 []),.osl true 3 [] (H.length+2)]]) (by omega) (by decide) (by simp) (by simp) ?_ ?_ ?_
   · simp [cut_appk hcl]
   · rintro i fr H' hi; omega
   · rintro fr H' f31 f30 ⟨f4,f7,rfl⟩
     simp [f4,f7]
     simp [RetK,cut_app hcl,recT,ssort,hnd,T.new,T.a_mk,f4]
 have hpos:=List.length_pos_iff.2 hn
 have he:ns.isEmpty=false:=by simpa using hn
 have hS:=msort_zip hl
 have hSl:(ssort cP (ns.zip ps)).length=ns.length:=by rw [ssort_length cP_cmp]; simp; omega
 have hcd:=compact_dup (ssort cP (ns.zip ps))
 have hix:=fun (hd:¬ Dup (ssort cP (ns.zip ps))) (j:Nat) (x:Lt) (hx:(ssort cP (ns.zip ps))[j]?=some x)=>idx_part hl hd hx
 have hrec:recT ns ps=if Dup (ssort cP (ns.zip ps)) then (T.nil,40) else (.new 3 ((ssort cP (ns.zip ps)).map Prod.fst) ((ssort cP (ns.zip ps)).map Prod.snd),0):=by rw [recT,if_pos hl]
 generalize ssort cP (ns.zip ps)=S at hS hSl hcd hix hrec
 rw [hSl] at hcd
 rw [hrec]
 have hml:(msort ns).length=ns.length:=msort_len ns
 have hmne:msort ns ≠ []:=fun e=>by rw [e] at hml; simp at hml; omega
 refine acall_norm ?_
 refine acall_fin hf hcf (by simp [irTyRecord]) fun hcl _ => ?_
 simp [irTyRecord,hl]
 refine CallK_of' (hv.slValues z ns _) ?_
 simp
 refine CallK_of' (hs (L:=ns) h1 (bt:=t) (z:=z) (by simp)) ?_
 have hc':=fun H'=>cloneM_acall (H:=H') (z:=false) hcf1 hcf2 (rows:=(msort ns).map encStr) (by simpa using hmne) (by simp; omega)
 simp only [List.length_map] at hc'
 simp [he]
 refine CallK_of' (hc' _) ?_
 have hk':=compact_acall hk hmne (by omega) (H:=H++[.box bt [.d (.int .i64 0),.d (.sl true 1 []),.d (.sl true 3 [])],.box t [.d (.sl z 1 (ns.map encStr))],.arr 1 [],.arr 1 (strRows (msort ns))]) (i:=H.length+3) (by simp)
 have hrr:((msort ns).map encStr).map (List.map A.d)=strRows (msort ns):=by simp [strRows,encStr]
 simp at hrr hk'
 simp [hrr]
 refine CallK_of hk' ?_
 rintro r H' ⟨rfl,rows,rfl⟩
 rw [hS] at hml ⊢
 by_cases hd:Dup S
 · have hne:¬ (Lib.compact (S.map Prod.fst)).length=ns.length:=fun e=>hcd.1 e hd
   have hne2:¬ ((Lib.compact (S.map Prod.fst)).length:Int)=ns.length:=by omega
   simp [hne,hne2]
   simp [RetK,cut_app hcl,hd]
   rw [T.a_nil]
   exact fun _ _ h=>h
 have heq:(Lib.compact (S.map Prod.fst)).length=ns.length:=hcd.2 hd
 simp [heq]
 refine RangeK_of (H.length+6) ns.length (fun i fr H'=>fr 0 = .d (.sl z 1 (ns.map encStr))∧fr 1 = .d (.sl y 3 (ps.map T.enc))∧fr 4 = .ptr H.length 0∧fr 7 = .ptr (H.length+5) 0∧fr 29 = .d (.sl false 1 ((S.map Prod.fst).map encStr)) ∧
  ∃ X,X.length=3∧H'=H++(.box bt [.d (.int .i64 0),.d (.sl true 1 []),.d (.sl true 3 [])] :: (X++[.tok i 3 bt,.box bt [.d (.int .i64 3),.d (.sl false 1 ((S.map Prod.fst).map encStr)),.osl true 3 ((S.map (T.enc ∘ Prod.snd)).take i) (H.length+4)]]))) (by omega) (by decide) (by simp) (by simp [hSl]) ?_ ?_ ?_
 · simp [cut_appk hcl,hml]
   exact ⟨[_,_,_],rfl,rfl⟩
 · rintro i fr H' hilt f31 f30 ⟨f0,f1,f4,f7,f29,X,hXl,rfl⟩
   match X,hXl with
   | [x1,x2,x3],_ =>
   have hiS:i < S.length:=by omega
   have hgS:S[i]?=some S[i]:=List.getElem?_eq_getElem hiS
   have ta:=take_map_succ (T.enc ∘ Prod.snd) hiS
   obtain ⟨hm1,hm2⟩:=hix hd i _ hgS
   have ra:Zam.rowAt ((S.map Prod.fst).map encStr) (i:Int)=some [.str S[i].1]:=by simp [Zam.rowAt,hiS,encStr]
   have rb:Zam.rowAt (ps.map T.enc) ((ns.idxOf S[i].1:Nat):Int)=some S[i].2.enc:=rowAt_get hm2
   generalize S[i]=q at ta hgS hm1 hm2 ra rb
   obtain ⟨x,v⟩:=q
   obtain ⟨k',z',ns',y',ps'⟩:=v
   simp only [T.enc_mk,Function.comp_apply] at ra rb ta
   have hm:min i S.length=i:=by omega
   have hcap:(i+1) * 56≤140737488355328:=by omega
   simp only [List.map_map] at ra f29
   simp [f31,f29,ra,f7,f0,f1]
   refine CallD_of (hi.idxAt z ns x hm1 h1 _) ?_
   simp [rb,f7,appA,hm,hcap,f31]
   refine NextK_of (H.length+6) (Nat.le_refl _) (by simp [f31,f30]) ?_
   simp [f0,f1,f4,f7,f29,cut_appk hcl,ta]
   exact ⟨[_,_,_],rfl,rfl⟩
 · rintro fr H' f31 f30 ⟨f0,f1,f4,f7,f29,X,hXl,rfl⟩
   match X,hXl with
   | [x1,x2,x3],_ =>
   have hfull:(S.map (T.enc ∘ Prod.snd)).take ns.length=S.map (T.enc ∘ Prod.snd):=List.take_of_length_le (by simp [hSl])
   simp [f4,f7,hfull]
   have hnl:¬ H.length+4 < H.length:=by omega
   have hne:S.map Prod.fst ≠ []:=by rw [← hS]; exact hmne
   have:=nrm_tup (b := .d (.int .i64 0)) (nrm_T (k:=3) (z:=false) (z':=true) (ns:=S.map Prod.fst) (y:=true) (y':=true) (ps:=S.map Prod.snd) (fun e=>absurd e hne) (fun _=>rfl))
   rw [T.a_mk,List.map_map,List.map_map] at this
   simp [RetK,cut_app hcl,hd,hnl]
   exact this
end
end
def badE:List (T × Int)→Int
 | []=>0
 | p :: r=>if p.2 ≠ 0 then p.2 else badE r
theorem badE_zero:∀ {l:List (T × Int)},badE l=0 ↔ ∀ p ∈ l,p.2=0
 | []=>by simp [badE]
 | p :: r => by
   rw [badE]
   split
   · rename_i h
     exact ⟨fun e=>absurd e h,fun e=>absurd (e p (by simp)) h⟩
   · rename_i h
     rw [badE_zero (l:=r)]
     exact ⟨fun e q hq=>(List.mem_cons.1 hq).elim (fun g=>by subst g; exact Classical.not_not.1 h) (e q),fun e q hq=>e q (by simp [hq])⟩
theorem badE_at:∀ {l:List (T × Int)} {i:Nat} {p:T × Int},(∀ q ∈ l.take i,q.2=0)→l[i]?=some p→p.2 ≠ 0→badE l=p.2
 | [],i,p,_,h,_=>by simp at h
 | q :: r, 0, p, _, h, hp => by
   simp at h
   subst h
   rw [badE,if_pos hp]
 | q :: r, i + 1, p, h0, h, hp => by
   have hq:q.2=0:=h0 q (by simp)
   rw [badE,if_neg (by simp [hq])]
   exact badE_at (i:=i) (fun x hx=>h0 x (by simp [hx])) (by simpa using h) hp
mutual
noncomputable def N.ty:N→T × Int
 | .mk k _ _ _ _ _ ks =>
   if k=0∨k=31 then (T.nil,0)
   else if k=29 then (T.new 1 [] [],0)
   else if k=30 then (T.new 2 [] [],0)
   else if k=32 then if badE (N.ftys ks) ≠ 0 then (T.nil,badE (N.ftys ks)) else recT (ks.map N.w) ((N.ftys ks).map Prod.fst)
   else if k=34 then if badE (N.tys ks) ≠ 0 then (T.nil,badE (N.tys ks)) else if ks=[] then (T.nil,8) else (T.new 4 [] ((N.tys ks).map Prod.fst),0)
   else (T.nil,8)
noncomputable def N.fty:N→T × Int
 | .mk k _ _ _ _ _ ks=>if k=33∧ks.length=1 then (N.tys ks).headD (T.nil,8) else (T.nil,8)
noncomputable def N.tys:List N→List (T × Int)
 | []=>[]
 | n :: r=>N.ty n :: N.tys r
noncomputable def N.ftys:List N→List (T × Int)
 | []=>[]
 | n :: r=>N.fty n :: N.ftys r
end
theorem N.tys_map:∀ l:List N,N.tys l=l.map N.ty
 | []=>by rw [N.tys]; rfl
 | p :: r=>by rw [N.tys,N.tys_map r]; rfl
theorem N.ftys_map:∀ l:List N,N.ftys l=l.map N.fty
 | []=>by rw [N.ftys]; rfl
 | p :: r=>by rw [N.ftys,N.ftys_map r]; rfl
theorem N.ty_mk (k f t:Int) (w:Bs) (a:Int) (z:Bool) (ks:List N):N.ty (.mk k f t w a z ks) =
 if k=0∨k=31 then (T.nil,0)
 else if k=29 then (T.new 1 [] [],0)
 else if k=30 then (T.new 2 [] [],0)
 else if k=32 then if badE (ks.map N.fty) ≠ 0 then (T.nil,badE (ks.map N.fty)) else recT (ks.map N.w) ((ks.map N.fty).map Prod.fst)
 else if k=34 then if badE (ks.map N.ty) ≠ 0 then (T.nil,badE (ks.map N.ty)) else if ks=[] then (T.nil,8) else (T.new 4 [] ((ks.map N.ty).map Prod.fst),0)
 else (T.nil,8):=by rw [N.ty,N.tys_map,N.ftys_map]
theorem N.fty_one {k f t:Int} {w:Bs} {a:Int} {z:Bool} {n:N} (h:k=33):N.fty (.mk k f t w a z [n])=N.ty n:=by rw [N.fty,N.tys_map]; simp [h]
theorem N.fty_not {k f t:Int} {w:Bs} {a:Int} {z:Bool} {ks:List N} (h:¬ (k=33∧ks.length=1)):N.fty (.mk k f t w a z ks)=(T.nil,8):=by rw [N.fty,if_neg h]
mutual
def T.dep:T→Nat
 | .mk _ _ _ _ ps=>T.deps ps+1
def T.deps:List T→Nat
 | []=>0
 | p :: r=>max (T.dep p) (T.deps r)
end
theorem T.dep_mk (k:Int) (z:Bool) (ns:List Str') (y:Bool) (ps:List T):T.dep (.mk k z ns y ps)=T.deps ps+1:=by rw [T.dep]
theorem T.deps_le:∀ {l:List T} {n:Nat},T.deps l≤n ↔ ∀ p ∈ l,p.dep≤n
 | [],n=>by simp [T.deps]
 | p :: r,n=>by rw [T.deps,Nat.max_le,T.deps_le (l:=r)]; simp
theorem T.deps_snoc:∀ {l:List T} {p:T},T.deps (l++[p])=max (T.deps l) p.dep
 | [],p=>by simp [T.deps]
 | q :: r,p=>by rw [List.cons_append,T.deps,T.deps,T.deps_snoc]; omega
noncomputable def N.typ (n:N):T × Int:=if n.ty.2 ≠ 0 then (T.nil,n.ty.2) else if 12 < n.ty.1.dep then (T.nil,25) else n.ty
section
open Classical
def T.fn (v:T) (z:Bool) (ps:List T):T := .mk 4 true [] (z && ps.isEmpty) (ps++[v])
theorem T.fn_st (v:T) (z:Bool) (ps:List T):(T.fn v z ps).st = .mk 4 [] (ps.map T.st++[v.st]):=by rw [T.fn,T.st_mk,List.map_append]; rfl
mutual
def T.twin:T→T
 | .mk k z ns _ ps => .mk k (z && ns.isEmpty) ns true (T.twins ps)
def T.twins:List T→List T
 | []=>[]
 | p :: r=>T.twin p :: T.twins r
end
theorem T.twins_map:∀ l:List T,T.twins l=l.map T.twin
 | []=>rfl
 | p :: r=>by rw [T.twins,T.twins_map r]; rfl
theorem T.twin_mk (k:Int) (z:Bool) (ns:List Str') (y:Bool) (ps:List T):T.twin (.mk k z ns y ps) = .mk k (z && ns.isEmpty) ns true (ps.map T.twin):=by rw [T.twin,T.twins_map]
theorem T.deps_take_succ {ps:List T} {i:Nat} (h:i < ps.length):T.deps (ps.take (i+1))=max (T.deps (ps.take i)) ps[i].dep:=by
 rw [List.take_succ_eq_append_getElem h,T.deps_snoc]
section
variable {P:Program}
theorem Has.clT {f:FuncId} {t:TypeId} (h:HasT P [2,5] f (irClT t)) (z:Bool) (rows:List (List D)) (hb:rows.length * 56≤140737488355328) (H:Hp) :
 ACall P f [.d (.sl z 3 rows)] H (fun r H'=>r = .osl (z && rows.isEmpty) 3 rows (H.length+1)∧H'=H++[.tok 0 3 t,.tok rows.length 3 t]):=by
 obtain ⟨fn,hf,hcf⟩:=h
 refine acall_fink 2 hf hcf (by simp [irClT]) fun hcl _ => ?_
 by_cases hz:(z && rows.isEmpty)=true
 · obtain ⟨rfl,h2⟩:z=true∧rows.isEmpty=true:=by simpa using hz
   have:rows=[]:=by simpa using h2
   subst this
   simp [irClT]
   simp [RetK,cut_appk hcl]
 · have hz':(z && rows.isEmpty)=false:=by simpa using hz
   simp [irClT,hz']
   simp [appA,hb,Nat.add_assoc]
   simp [RetK,cut_appk hcl,hz']
theorem Has.tyFunc {f fc:FuncId} {t:TypeId} (h:HasT P [4000000] f (irTyFunc fc t)) (hc:HasT P [2,5] fc (irClT t)) (v:T) (z:Bool) (ps:List T) (hb:(ps.length+1) * 56≤140737488355328) (H:Hp) :
 ACall P f [v.a,.d (.sl z 3 (ps.map T.enc))] H (fun r H'=>r=(T.fn v z ps).a∧H'=H):=by
 obtain ⟨fn,hf,hcf⟩:=h
 refine acall_fin hf hcf (by simp [irTyFunc]) fun hcl _ => ?_
 have hc':=fun H'=>Has.clT hc z (ps.map T.enc) (by simp; omega) H'
 simp only [List.length_map] at hc'
 obtain ⟨k,zn,ns,y,qs⟩:=v
 rw [T.a_mk,T.fn,T.a_mk]
 simp [irTyFunc]
 refine ⟨?_,?_⟩
 all_goals
  refine CallK_of' (hc' _) ?_
  simp [appA,hb,Nat.add_assoc]
  simp [RetK,cut_app hcl,T.enc_mk]
theorem Has.tyTwin {f fc:FuncId} {t fo:TypeId} (h:HasT P [11] f (irTyTwin fc f t)) (hc:HasT P [1000005] fc (irCloneM 1 16 fo)) (v:T):v.Fit 1048576→∀ H,ACall P f [v.a] H (fun r H'=>r=v.twin.a∧H'=H):=by
 induction v using T.ind with
 | h k z ns y ps ih =>
 rintro (⟨_,_,_,_,_,b2,b3,b4,b5⟩) H
 have h0:=h
 obtain ⟨fn,hf,hcf⟩:=h
 obtain ⟨fnc,hcf1,hcf2⟩:=hc
 have hc':=fun H'=>cloneD_acall (H:=H') (z:=z) hcf1 hcf2 (rows:=ns.map encStr) (by simp; omega)
 simp only [List.isEmpty_map] at hc'
 refine acall_fin hf hcf (by simp [irTyTwin]) fun hcl _ => ?_
 rw [T.a_mk,T.twin_mk,T.a_mk]
 simp only [irTyTwin]
 refine Seq_out (fun fr H'=>fr 1 = .ptr H.length 0∧fr 2 = .ptr (H.length+1) 0∧H'=H++[.box t [.d (.int .i64 k),.d (.sl z 1 (ns.map encStr)),.d (.sl y 3 (ps.map T.enc))],.box t [.d (.int .i64 0),.d (.sl true 1 []),.d (.sl true 3 [])]]) (fun _ _=>False) (by simp) (fun _ _ h=>h.elim) ?_
 rintro fr H' ⟨f1,f2,rfl⟩
 refine Seq_out (fun fr H'=>fr 1 = .ptr H.length 0∧fr 2 = .ptr (H.length+1) 0 ∧
  ((fr 3 = .ptr (H.length + 3) 0 ∧ H' = H ++ [.box t [.d (.int .i64 k), .d (.sl z 1 (ns.map encStr)), .d (.sl y 3 (ps.map T.enc))], .box t [.d (.int .i64 0), .d (.sl true 1 []), .d (.sl true 3 [])],
   .tok 0 3 t,.box t [.d (.int .i64 k),.d (.sl (z && ns.isEmpty) 1 (ns.map encStr)),.osl true 3 [] (H.length+2)]]) ∨
   (fr 3 = .ptr (H.length+2) 0∧H'=H++[.box t [.d (.int .i64 k),.d (.sl z 1 (ns.map encStr)),.d (.sl y 3 (ps.map T.enc))],.box t [.d (.int .i64 0),.d (.sl true 1 []),.d (.sl true 3 [])],
    .box t [.d (.int .i64 k),.d (.sl (z && ns.isEmpty) 1 (ns.map encStr)),.osl true 3 [] (H.length+3)],.tok 0 3 t]))) (fun _ _=>False) ?_ (fun _ _ h=>h.elim) ?_
 · simp [f1]
   repeat' apply And.intro
   all_goals
    refine CallK_of' (hc' _) ?_
    simp [f1,f2]
 rintro fr H' ⟨f1,f2,hor⟩
 rcases hor with ⟨f3,rfl⟩ | ⟨f3,rfl⟩
 · simp [f1]
   refine RangeK_of (H.length+4) ps.length (fun i fr H'=>fr 2 = .ptr (H.length+1) 0∧fr 3 = .ptr (H.length+3) 0∧fr 13 = .d (.sl y 3 (ps.map T.enc))∧H'=H++[.box t [.d (.int .i64 k),.d (.sl z 1 (ns.map encStr)),.d (.sl y 3 (ps.map T.enc))],.box t [.d (.int .i64 0),.d (.sl true 1 []),.d (.sl true 3 [])],
    .tok i 3 t,.box t [.d (.int .i64 k),.d (.sl (z && ns.isEmpty) 1 (ns.map encStr)),.osl true 3 ((ps.map (T.enc ∘ T.twin)).take i) (H.length+2)]]) (by omega) (by decide) (by simp) (by simp) ?_ ?_ ?_
   · simp [f2,f3,cut_appk hcl]
   · rintro i fr H' hi f15 f14 ⟨f2,f3,f13,rfl⟩
     have hr:=rowAt_map T.enc hi
     have hx:=ih ps[i] (List.getElem_mem hi) (b5 _ (List.getElem_mem hi))
     have ht:=take_map_succ (T.enc ∘ T.twin) hi
     generalize ps[i]=p at hr hx ht
     obtain ⟨k',z',ns',y',ps'⟩:=p
     simp only [T.enc_mk,T.a_mk,T.twin_mk,Function.comp_apply] at hr hx ht
     have hm:min i ps.length=i:=by omega
     have hcap:(i+1) * 56≤140737488355328:=by omega
     simp [f15,f13,hr,f3]
     refine CallD_of (hx _) ?_
     simp [f3,appA,hm,hcap,f15]
     refine NextK_of (H.length+4) (Nat.le_refl _) (by simp [f15,f14]) ?_
     simp [f2,f3,f13,cut_appk hcl,ht]
   · rintro fr H' f15 f14 ⟨f2,f3,f13,rfl⟩
     have hfull:(ps.map (T.enc ∘ T.twin)).take ps.length=ps.map (T.enc ∘ T.twin):=List.take_of_length_le (by simp)
     simp [f2,f3,hfull]
     simp [RetK,cut_app hcl,f2]
 · simp [f1]
   refine RangeK_of (H.length+4) ps.length (fun i fr H'=>fr 2 = .ptr (H.length+1) 0∧fr 3 = .ptr (H.length+2) 0∧fr 13 = .d (.sl y 3 (ps.map T.enc))∧H'=H++[.box t [.d (.int .i64 k),.d (.sl z 1 (ns.map encStr)),.d (.sl y 3 (ps.map T.enc))],.box t [.d (.int .i64 0),.d (.sl true 1 []),.d (.sl true 3 [])],
    .box t [.d (.int .i64 k),.d (.sl (z && ns.isEmpty) 1 (ns.map encStr)),.osl true 3 ((ps.map (T.enc ∘ T.twin)).take i) (H.length+3)],.tok i 3 t]) (by omega) (by decide) (by simp) (by simp) ?_ ?_ ?_
   · simp [f2,f3,cut_appk hcl]
   · rintro i fr H' hi f15 f14 ⟨f2,f3,f13,rfl⟩
     have hr:=rowAt_map T.enc hi
     have hx:=ih ps[i] (List.getElem_mem hi) (b5 _ (List.getElem_mem hi))
     have ht:=take_map_succ (T.enc ∘ T.twin) hi
     generalize ps[i]=p at hr hx ht
     obtain ⟨k',z',ns',y',ps'⟩:=p
     simp only [T.enc_mk,T.a_mk,T.twin_mk,Function.comp_apply] at hr hx ht
     have hm:min i ps.length=i:=by omega
     have hcap:(i+1) * 56≤140737488355328:=by omega
     simp [f15,f13,hr,f3]
     refine CallD_of (hx _) ?_
     simp [f3,appA,hm,hcap,f15]
     refine NextK_of (H.length+4) (Nat.le_refl _) (by simp [f15,f14]) ?_
     simp [f2,f3,f13,cut_appk hcl,ht]
   · rintro fr H' f15 f14 ⟨f2,f3,f13,rfl⟩
     have hfull:(ps.map (T.enc ∘ T.twin)).take ps.length=ps.map (T.enc ∘ T.twin):=List.take_of_length_le (by simp)
     simp [f2,f3,hfull]
     simp [RetK,cut_app hcl,f2]
theorem Has.tyDepth {f:FuncId} {t:TypeId} (h:Has P f (irTyDepth f t)) (v:T):v.Fit 1048576→v.dep≤1125899906842624→∀ H,ACall P f [v.a] H (fun r H'=>r = .d (.int .i64 (v.dep:Int))∧H'=H):=by
 induction v using T.ind with
 | h k z ns y ps ih =>
 rintro (⟨_,_,_,_,_,b2,b3,b4,b5⟩) hd H
 have h0:=h
 obtain ⟨fn,hf,hcf⟩:=h
 refine acall_fin hf hcf (by simp [irTyDepth]) fun hcl _ => ?_
 rw [T.a_mk,T.dep_mk]
 rw [T.dep_mk] at hd
 have hdp:∀ p ∈ ps,p.dep≤T.deps ps:=T.deps_le.1 (Nat.le_refl _)
 simp [irTyDepth]
 refine RangeK_of (H.length+1) ps.length (fun i fr H'=>fr 3 = .d (.int .i64 (T.deps (ps.take i):Int))∧fr 7 = .d (.sl y 3 (ps.map T.enc))∧H'=H++[.box t [.d (.int .i64 k),.d (.sl z 1 (ns.map encStr)),.d (.sl y 3 (ps.map T.enc))]]) (by omega) (by decide) (by simp) (by simp) ?_ ?_ ?_
 · simp [T.deps,cut_appk hcl]
 · rintro i fr H' hi f9 f8 ⟨f3,f7,rfl⟩
   have hr:=rowAt_map T.enc hi
   have hmem:=List.getElem_mem hi
   have hx:=ih ps[i] hmem (b5 _ hmem) (by have:=hdp _ hmem; omega)
   have ht:=T.deps_take_succ hi
   generalize ps[i]=p at hr hx ht
   obtain ⟨k',z',ns',y',ps'⟩:=p
   generalize hdd:(T.mk k' z' ns' y' ps').dep=dd at hx ht
   simp only [T.enc_mk,T.a_mk] at hr hx
   simp [f9,f7,hr,f3]
   refine CallK_of' (hx _) ?_
   simp
   refine NextK_of (H.length+1) (Nat.le_refl _) (by simp [f9,f8]) ?_
   simp [f7,cut_appk hcl,ht]
   omega
 · rintro fr H' f9 f8 ⟨f3,f7,rfl⟩
   rw [List.take_of_length_le (Nat.le_refl _)] at f3
   have hw:IntKind.i64.wrap ((T.deps ps:Int)+1)=(T.deps ps:Int)+1:=wrap_i64 (by omega) (by omega)
   simp [f3,hw]
   simp [RetK,cut_app hcl]
end
end
inductive Utf:Bs→Prop
 | nil:Utf []
 | step {s:Bs} (h:s ≠ []) (hd:decU s ≠ (65533,1)) (hr:Utf (s.drop (decU s).2)):Utf s
theorem badF_ge:∀ (f:Nat) (s:Bs) (n:Nat),badF f s n = -1∨0≤badF f s n
 | 0,_,_ => .inl rfl
 | f + 1, s, n => by
   rw [badF]
   split
   · exact .inl rfl
   · split
     · exact .inr (by omega)
     · exact badF_ge f _ _
theorem badF_utf:∀ (f:Nat) (s:Bs) (n:Nat),s.length≤f→(badF f s n = -1 ↔ Utf s)
 | 0, s, n, h => by
   have:s=[]:=List.eq_nil_of_length_eq_zero (by omega)
   subst this
   exact ⟨fun _ => .nil,fun _=>rfl⟩
 | f + 1, s, n, h => by
   rw [badF]
   by_cases hs:s=[]
   · rw [if_pos hs]; subst hs; exact ⟨fun _ => .nil,fun _=>rfl⟩
   rw [if_neg hs]
   by_cases hd:decU s=(65533,1)
   · rw [if_pos hd]
     constructor
     · intro e; omega
     · intro hu
       cases hu with
       | nil=>exact absurd rfl hs
       | step _ h2 _=>exact absurd hd h2
   · rw [if_neg hd]
     have hl:=decU_len hs
     rw [badF_utf f _ _ (by simp; omega)]
     constructor
     · exact fun h => .step hs hd h
     · intro hu
       cases hu with
       | nil=>exact absurd rfl hs
       | step _ _ h3=>exact h3
theorem badS_utf (s:Bs):¬ 0≤badS s ↔ Utf s:=by
 rw [← badF_utf s.length s 0 (Nat.le_refl _)]
 have:=badF_ge s.length s 0
 unfold badS
 omega
inductive Toks:Bs→Nat→List Tk→Prop
 | fin {s:Bs} {n:Nat} (h:(tokN (s.drop (leadS false s))).1=0) (h0:s.drop (leadS false s)=[]):Toks s n [⟨0,n+leadS false s,s.take (leadS false s),[]⟩]
 | tok {s:Bs} {n:Nat} {l:List Tk} (h:(tokN (s.drop (leadS false s))).1=0) (h0:s.drop (leadS false s) ≠ []) (hr:Toks ((s.drop (leadS false s)).drop (tokN (s.drop (leadS false s))).2.2) (n+leadS false s+(tokN (s.drop (leadS false s))).2.2) l) :
  Toks s n (⟨(tokN (s.drop (leadS false s))).2.1,n+leadS false s,s.take (leadS false s),(s.drop (leadS false s)).take (tokN (s.drop (leadS false s))).2.2⟩ :: l)
theorem lexF_toks:∀ (f:Nat) (s:Bs) (n c:Nat),s.length < f→((lexF f s n c).2.1=0 ↔ ∃ l,Toks s n l∧c+l.length≤4000)∧((lexF f s n c).2.1=0→Toks s n (lexF f s n c).1∧c+(lexF f s n c).1.length≤4000)
 | 0,s,n,c,h=>by omega
 | f + 1, s, n, c, h => by
   have htl:=tokN_len (s.drop (leadS false s))
   obtain ⟨t1,t2,t3,t4⟩:=htl
   rw [lexF]
   by_cases he:(tokN (s.drop (leadS false s))).1=0
   case neg =>
    rw [if_pos he]
    refine ⟨⟨fun e=>absurd e he,?_⟩,fun e=>absurd e he⟩
    rintro ⟨l,hl,-⟩
    cases hl with
    | fin h1 h2=>exact absurd h1 he
    | tok h1 h2 h3=>exact absurd h1 he
   rw [if_neg (by simp [he])]
   by_cases hc:4000≤c
   case pos =>
    rw [if_pos hc]
    refine ⟨⟨fun e=>absurd e (by simp),?_⟩,fun e=>absurd e (by simp)⟩
    rintro ⟨l,hl,hlc⟩
    cases hl with
    | fin h1 h2=>simp at hlc; omega
    | tok h1 h2 h3=>simp at hlc; omega
   rw [if_neg hc]
   by_cases hk:(tokN (s.drop (leadS false s))).2.1=0
   · rw [if_pos hk]
     have hnil:=t2 he hk
     have hT:Toks s n [⟨(tokN (s.drop (leadS false s))).2.1,n+leadS false s,s.take (leadS false s),(s.drop (leadS false s)).take (tokN (s.drop (leadS false s))).2.2⟩]:=by
      have:=Toks.fin (n:=n) he hnil
      rw [hk,hnil]
      simpa using this
     exact ⟨⟨fun _=>⟨_,hT,by simp; omega⟩,fun _=>rfl⟩,fun _=>⟨hT,by simp; omega⟩⟩
   · rw [if_neg hk]
     have hne:s.drop (leadS false s) ≠ []:=fun e=>hk (t4 e)
     have hm:=t3 he hne
     have hlen:((s.drop (leadS false s)).drop (tokN (s.drop (leadS false s))).2.2).length < f:=by
      simp only [List.length_drop] at t1 ⊢
      have:leadS false s < s.length:=by
       rcases Nat.lt_or_ge (leadS false s) s.length with h' | h'
       · exact h'
       · exact absurd (List.drop_eq_nil_of_le h') hne
      omega
     obtain ⟨i1,i2⟩:=lexF_toks f _ (n+leadS false s+(tokN (s.drop (leadS false s))).2.2) (c+1) hlen
     generalize lexF f ((s.drop (leadS false s)).drop (tokN (s.drop (leadS false s))).2.2) (n+leadS false s+(tokN (s.drop (leadS false s))).2.2) (c+1)=R at i1 i2
     by_cases hR:R.2.1=0
     · rw [if_pos hR]
       obtain ⟨j1,j2⟩:=i2 hR
       have hT:=Toks.tok (n:=n) he hne j1
       exact ⟨⟨fun _=>⟨_,hT,by simp; omega⟩,fun _=>rfl⟩,fun _=>⟨hT,by simp; omega⟩⟩
     · rw [if_neg hR]
       refine ⟨⟨fun e=>absurd e hR,?_⟩,fun e=>absurd e hR⟩
       rintro ⟨l,hl,hlc⟩
       exfalso
       cases hl with
       | fin h1 h2=>exact hne h2
       | tok h1 h2 h3=>exact hR (i1.2 ⟨_,h3,by simp at hlc; omega⟩)
theorem lexS_ok (s:Bs):((lexS s).2.1=0 ↔ s.length≤16384∧Utf s∧∃ l,Toks s 0 l∧l.length≤4000)∧((lexS s).2.1=0→Toks s 0 (lexS s).1∧(lexS s).1.length≤4000):=by
 have hu:=badS_utf s
 unfold lexS
 by_cases h1:16384 < s.length
 · rw [if_pos h1]
   exact ⟨⟨fun e=>absurd e (by simp),fun e=>by omega⟩,fun e=>absurd e (by simp)⟩
 rw [if_neg h1]
 by_cases h2:0≤badS s
 · rw [if_pos h2]
   exact ⟨⟨fun e=>absurd e (by simp),fun e=>absurd e.2.1 fun q=>hu.2 q h2⟩,fun e=>absurd e (by simp)⟩
 rw [if_neg h2]
 obtain ⟨i1,i2⟩:=lexF_toks (s.length+1) s 0 0 (by omega)
 refine ⟨?_,fun e=>by simpa using i2 e⟩
 rw [i1]
 simp only [Nat.zero_add]
 exact ⟨fun ⟨l,a,b⟩=>⟨by omega,hu.1 h2,l,a,b⟩,fun ⟨_,_,q⟩=>q⟩
section
def EndsL (L:List Tk):Prop:=∀ i,i+1=L.length→kdT L i=0
section
variable {L:List Tk}
end
theorem tokN_key (s:Bs):(tokN s).1=0→(tokN s).2.1=2→s.take (tokN s).2.2 ∈ keysL:=by
 cases s with
 | nil=>intro _ h; cases h
 | cons b r =>
   rw [tokN]
   (repeat' split)<;>simp_all
theorem Toks.like {s:Bs} {n:Nat} {l:List Tk} (h:Toks s n l):l ≠ []∧EndsL l∧(∀ i,i+1 < l.length→kdT l i ≠ 0)∧∀ t ∈ l,t.k=2→t.x ∈ keysL:=by
 induction h with
 | fin h h0 =>
   refine ⟨by simp,fun i hi => ?_,fun i hi=>by simp at hi,?_⟩
   · have:i=0:=by simp at hi; omega
     subst this; rfl
   · intro t ht hk
     simp at ht; subst ht
     simp at hk
 | @tok s n l h h0 hr ih =>
   obtain ⟨i1,i2,i3,i4⟩:=ih
   have htl:=tokN_len (s.drop (leadS false s))
   obtain ⟨t1,t2,t3,t4⟩:=htl
   have hl:0 < l.length:=List.length_pos_iff.2 i1
   refine ⟨by simp,fun i hi => ?_,fun i hi => ?_,?_⟩
   · cases i with
     | zero=>exact absurd hi (by simp only [List.length_cons]; omega)
     | succ i=>exact i2 i (by simpa using hi)
   · cases i with
     | zero =>
       show (tokN (s.drop (leadS false s))).2.1 ≠ 0
       exact fun e=>h0 (t2 h e)
     | succ i=>exact i3 i (by simpa using hi)
   · intro t ht hk
     rcases List.mem_cons.1 ht with rfl | ht
     · exact tokN_key _ h hk
     · exact i4 t ht hk
theorem noEq_of {l:List Tk} (h:∀ t ∈ l,t.k=2→t.x ∈ keysL) (i:Nat) (hi:isT l i [61]=true):kdT l i=5:=by
 unfold isT at hi
 unfold kdT
 cases hg:l[i]? with
 | none=>rw [hg] at hi; cases hi
 | some t =>
   rw [hg] at hi
   simp at hi ⊢
   rcases hi.1 with e | e
   · have:=h t (List.mem_of_getElem? hg) e
     rw [hi.2] at this
     exact absurd this (by decide)
   · exact e
theorem lexS_like {s:Bs} (h:(lexS s).2.1=0):(lexS s).1 ≠ []∧EndsL (lexS s).1∧(∀ i,i+1 < (lexS s).1.length→kdT (lexS s).1 i ≠ 0)∧(∀ i,isT (lexS s).1 i [61]=true→kdT (lexS s).1 i=5)∧(lexS s).1.length≤4000:=by
 obtain ⟨h1,h2⟩:=(lexS_ok s).2 h
 obtain ⟨a1,a2,a3,a4⟩:=h1.like
 exact ⟨a1,a2,a3,noEq_of a4,h2⟩
section
variable {P:Program}
end
end
section
def typeF (L:List Tk):PR:=pp L (16 * L.length+8) .kind 0
def typeP (L:List Tk):N × Int:=match typeF L with
 | .ok n k=>if kdT L k=0 then if 60 < n.depth then (N.none,25) else (n,0) else (N.none,24)
 | _=>(N.none,24)
def typeO (s:Bs):N × Int:=if (lexS s).2.1 ≠ 0 then (N.none,(lexS s).2.1) else typeP (lexS s).1
section
variable {P:Program} {F:PF}
theorem KHas.kinds (hF:KHas P F) {z:Bool} {L:List Tk} (hL:L.length≤1048576):∀ n,n≤1099511627776→UC P F.tp z L n .kind F.kind∧UCc P F.tp F.tb z L n .tfield F.tfield:=by
 intro n
 induction n using Nat.strongRecOn with
 | ind n ih =>
 intro hn
 cases n with
 | zero=>exact ⟨UC_zero (by decide),UCc_zero (by decide)⟩
 | succ n =>
   exact ⟨hF.kind' hL n (by omega) (fun m hm=>(ih m (by omega) (by omega)).2) (fun m hm=>(ih m hm (by omega)).1),hF.tfield' hL n (by omega) (ih n (by omega) (by omega)).1⟩
theorem Has.type_ {f fl fd} (h:Has P f (irPType fl F.kind F.now F.fail fd F.tn F.tp)) (hF:KHas P F) (hd:Has P fd (irTDepth fd F.tn)) {H0:Hp}
 (hl:∀ (s:Bs),s.length≤1048576→∀ H,Pre0 H0 H→ACall P fl [.d (.str s)] H (fun r H'=>r = .tup [.d (.sl true 4 ((lexS s).1.map encTk)),.d (.int .i64 (lexS s).2.1),.d (.int .i64 (lexS s).2.2)]∧H'=H))
 (s:Bs) (hs:s.length≤1048576) (H:Hp) (hH:Pre0 H0 H):ACall P f [.d (.str s)] H (fun r H'=>r = .tup [(typeO s).1.v,.d (.int .i64 (typeO s).2)]∧H'=H):=by
 obtain ⟨fn,hf,hcf⟩:=h
 refine acall_fin hf hcf (by simp [irPType]) fun hcl _ => ?_
 obtain ⟨Q,hQ⟩:∃ Q:A→Hp→Prop,Q=fun r H'=>r = .tup [(typeO s).1.v,.d (.int .i64 (typeO s).2)]∧H'=H:=⟨_,rfl⟩
 rw [← hQ]
 have hnone:∀ e:Int,typeO s=(N.none,e)→Q (.tup [.agg [.d (.int .i64 0),.d (.int .i64 0),.d (.int .i64 0),.d (.str []),.d (.int .i64 0),.d (.sl true 6 [])],.d (.int .i64 e)]) H:=fun e h=>by
  subst hQ
  rw [h]
  exact ⟨rfl,rfl⟩
 have hO:typeO s=if (lexS s).2.1 ≠ 0 then (N.none,(lexS s).2.1) else typeP (lexS s).1:=rfl
 have hlk:=lexS_like (s:=s)
 obtain ⟨r0,hr0⟩:∃ r0:Ob,r0 = .box F.tn [.d (.int .i64 0),.d (.int .i64 0),.d (.int .i64 0),.d (.str []),.d (.int .i64 0),.d (.sl true 6 [])]:=⟨_,rfl⟩
 have g1:=hl s hs _ (hH.app [r0])
 generalize lexS s=LS at hO hlk g1
 obtain ⟨L,e,b⟩:=LS
 simp only at hO hlk g1
 rw [hr0] at g1
 simp [irPType]
 refine CallK_of' g1 ?_
 by_cases he:e=0
 case neg =>
  rw [if_pos he] at hO
  simp [he]
  simp [RetK,cut_app hcl]
  exact hnone e hO
 rw [if_neg (by simp [he])] at hO
 obtain ⟨l1,l2,l3,l4,l5⟩:=hlk he
 simp [he]
 have hA:=(hF.kinds (z:=true) (L:=L) (by omega) (16 * L.length+8) (by omega)).1
 have g:=hA (H++[r0,pst F.tp true L (0,none)]) [] (H.length+1) (0,none) (by simp) ⟨by simp only [G.c]; omega,by simp only [G.c]; omega,fun _=>⟨Nat.zero_le _,by simp only [G.c]; omega⟩⟩
 have e1:∀ s,(H++[r0,pst F.tp true L (0,none)]).set (H.length+1) (pst F.tp true L s)++[]=H++[r0,pst F.tp true L s]:=fun s=>by simp
 rw [e1] at g
 rw [hr0] at g
 refine CallK_of g ?_
 rintro _ _ ⟨m,s',rfl,rfl,hrel⟩
 rw [← hr0,e1]
 rcases hrel.none' with ⟨q,b,hq,rfl,e3⟩ | ⟨k',hk,rfl⟩
 · have hq':typeF L = .bad q:=hq
   have hP:typeP L=(N.none,24):=by unfold typeP; rw [hq']
   rw [hP] at hO
   obtain ⟨k2,f2,t2,w2,a2,z2,ks2⟩:=m
   rw [N.v_mk,hr0]
   simp [pst]
   repeat' apply And.intro
   all_goals
    simp [RetK,cut_app hcl]
    try exact hnone 24 hO
 have hk':typeF L = .ok m k':=hk
 have hsz:=pp_size (L:=L) (16 * L.length+8) .kind 0 trivial
 rw [show pp L (16 * L.length+8) .kind 0 = .ok m k' from hk] at hsz
 simp only [Sz,G.k1,G.sz,N.sizes_nil] at hsz
 have hadv:=pp_adv (L:=L) (16 * L.length+8) .kind 0
 rw [show pp L (16 * L.length+8) .kind 0 = .ok m k' from hk] at hadv
 obtain ⟨v1,-,v3⟩:=hadv
 have hdep:=N.depth_size m
 have hd':=hd.depth m (by omega)
 have hnow:∀ X,ACall P F.now [.ptr (H.length+1) 0] (H++(r0 :: pst F.tp true L (k',none) :: X)) (fun r H'=>r=tokA_ L k'∧H'=H++(r0 :: pst F.tp true L (k',none) :: X)):=fun X=>hF.now' (z:=true) (s:=(k',none)) (by simp)
 have hfail:∀ X,ACall P F.fail [.ptr (H.length+1) 0,.d (.int .i64 24)] (H++(r0 :: pst F.tp true L (k',none) :: X)) (fun r H'=>r = .tup []∧H'=H++(r0 :: pst F.tp true L (k',some k') :: X)):=fun X=>by
  have:=hF.fail' (z:=true) (L:=L) (H:=H++(r0 :: pst F.tp true L (k',none) :: X)) (i:=H.length+1) (s:=(k',none)) (by simp)
  simpa [failS] using this
 obtain ⟨k2,f2,t2,w2,a2,z2,ks2⟩:=m
 rw [N.v_mk] at hd'
 have hnk:=hnow [.box F.tn [.d (.int .i64 k2),.d (.int .i64 f2),.d (.int .i64 t2),.d (.str w2),.d (.int .i64 a2),.d (.sl z2 6 (ks2.map N.enc))]]
 have hfk:=hfail [.box F.tn [.d (.int .i64 k2),.d (.int .i64 f2),.d (.int .i64 t2),.d (.str w2),.d (.int .i64 a2),.d (.sl z2 6 (ks2.map N.enc))]]
 rw [hr0] at hnk hfk
 rw [N.v_mk,hr0]
 simp only [pst] at hnk hfk
 simp [pst]
 simp at hnk hfk
 obtain ⟨ta,tl,htk⟩:=tokA_k L k'
 rw [htk] at hnk
 refine CallK_of' hnk ?_
 by_cases hkd:kdT L k'=0
 · simp [hkd]
   refine CallK_of' (hd' _) ?_
   by_cases hdp:60 < (N.mk k2 f2 t2 w2 a2 z2 ks2).depth
   · have hP:typeP L=(N.none,25):=by unfold typeP; rw [hk']; simp [hkd,hdp]
     rw [hP] at hO
     have hdi:(60:Int) < ((N.mk k2 f2 t2 w2 a2 z2 ks2).depth:Int):=by omega
     simp [hdi]
     simp [RetK,cut_app hcl]
     exact hnone 25 hO
   · have hP:typeP L=(N.mk k2 f2 t2 w2 a2 z2 ks2,0):=by unfold typeP; rw [hk']; simp [hkd,hdp]
     rw [hP] at hO
     have hdi:¬ (60:Int) < ((N.mk k2 f2 t2 w2 a2 z2 ks2).depth:Int):=by omega
     simp [hdi]
     simp [RetK,cut_app hcl]
     subst hQ
     rw [hO,N.v_mk]
     exact ⟨rfl,rfl⟩
 · have hP:typeP L=(N.none,24):=by unfold typeP; rw [hk']; simp [hkd]
   rw [hP] at hO
   simp [hkd]
   refine CallK_of' hfk ?_
   simp
   repeat' apply And.intro
   all_goals
    simp [RetK,cut_app hcl]
    try exact hnone 24 hO
end
end
section
open Classical
theorem N.sizes_get {k f t:Int} {w:Bs} {a:Int} {z:Bool} {ks:List N} {i:Nat} {p:N} (h:ks[i]?=some p):p.size < (N.mk k f t w a z ks).size:=by
 have:=N.sizes_mem (List.mem_of_getElem? h)
 rw [N.size_mk]; omega
def OfT (P:Program) (f:FuncId) (n:N):Prop:=∀ (H:Hp),ACall P f [n.v] H (fun r H'=>r = .tup [n.ty.1.a,.d (.int .i64 n.ty.2)]∧H'=H)
noncomputable def recNR (ks:List N):T × Int:=if badE (ks.map N.fty) ≠ 0 then (T.nil,badE (ks.map N.fty)) else recT (ks.map N.w) ((ks.map N.fty).map Prod.fst)
section
variable {P:Program}
theorem Has.tyRecN {f fo fr_:FuncId} {t1 t2 t3:TypeId} (h:HasT P [4,5] f (irTyRecN fo fr_ t1 t2 t3)) (hR:RecT P fr_) (n:N) (hs:n.size≤1048576) (hO:∀ p ∈ n.ks,∀ q ∈ p.ks,OfT P fo q) (H:Hp) :
 ACall P f [n.v] H (fun r H'=>r = .tup [(recNR n.ks).1.a,.d (.int .i64 (recNR n.ks).2)]∧H'=H):=by
 obtain ⟨fn,hf,hcf⟩:=h
 obtain ⟨k,f0,t0,w,a,z,ks⟩:=n
 have hlen:ks.length≤1048576:=by
  have:=N.sizes_len ks
  rw [N.size_mk] at hs; omega
 simp only [N.ks] at hO ⊢
 refine acall_fin hf hcf (by simp [irTyRecN]) fun hcl _ => ?_
 obtain ⟨Q,hQ⟩:∃ Q:A→Hp→Prop,Q=fun r H'=>r = .tup [(recNR ks).1.a,.d (.int .i64 (recNR ks).2)]∧H'=H:=⟨_,rfl⟩
 rw [← hQ]
 have hbad:∀ (i:Nat) (p:T × Int),(∀ q ∈ (ks.map N.fty).take i,q.2=0)→(ks.map N.fty)[i]?=some p→p.2 ≠ 0→Q (.tup [.agg [.d (.int .i64 0),.d (.sl true 1 []),.d (.sl true 3 [])],.d (.int .i64 p.2)]) H:=fun i p h1 h2 h3=>by
  have:=badE_at h1 h2 h3
  subst hQ
  have e:recNR ks=(T.nil,p.2):=by rw [recNR,if_pos (by rw [this]; exact h3),this]
  rw [e]
  exact ⟨rfl,rfl⟩
 rw [N.v_mk]
 simp [irTyRecN]
 refine RangeK_of (H.length+4) ks.length (fun i fr H'=>fr 2 = .ptr (H.length+1) 0∧fr 11 = .d (.sl z 6 (ks.map N.enc))∧fr 4 = .osl true 1 ((ks.map (encStr ∘ N.w)).take i) (H.length+2)∧fr 5 = .osl true 3 ((ks.map (T.enc ∘ (Prod.fst ∘ N.fty))).take i) (H.length+3) ∧
  (∀ q ∈ (ks.map N.fty).take i,q.2=0) ∧
  H'=H++[.box t1 [.d (.int .i64 k),.d (.int .i64 f0),.d (.int .i64 t0),.d (.str w),.d (.int .i64 a),.d (.sl z 6 (ks.map N.enc))],.box t2 [.d (.int .i64 0),.d (.sl true 1 []),.d (.sl true 3 [])],.tok i 1 t3,.tok i 3 t2]) (by omega) (by decide) (by simp) (by simp) ?_ ?_ ?_
 · simp [cut_appk hcl,A.lo]
 · rintro i fr H' hi f13 f12 ⟨f2,f11,f4,f5,hz,rfl⟩
   have hr:=rowAt_map N.enc hi
   have hg:ks[i]?=some ks[i]:=List.getElem?_eq_getElem hi
   have hmem:=List.getElem_mem hi
   have ta:=take_map_succ (encStr ∘ N.w) hi
   have tb:=take_map_succ (T.enc ∘ (Prod.fst ∘ N.fty)) hi
   have tc:=take_map_succ N.fty hi
   have hm:min i ks.length=i:=by omega
   have hc1:(i+1) * 16≤140737488355328:=by omega
   have hc2:(i+1) * 56≤140737488355328:=by omega
   have hO':=hO _ hmem
   generalize ks[i]=p at hr hg hmem ta tb tc hO'
   have hgf:(ks.map N.fty)[i]?=some p.fty:=by simp [hg]
   obtain ⟨k1,f1,t1',w1,a1,z1,ks1⟩:=p
   rw [N.enc_mk] at hr
   by_cases hk:k1=33
   case neg =>
    have hno:(N.mk k1 f1 t1' w1 a1 z1 ks1).fty=(T.nil,8):=N.fty_not fun h=>hk h.1
    rw [hno] at hgf
    simp [f13,f11,hr,hk,f2]
    simp [RetK,cut_app hcl,f2]
    exact hbad i _ hz hgf (by decide)
   by_cases hl:ks1.length=1
   case neg =>
    have hno:(N.mk k1 f1 t1' w1 a1 z1 ks1).fty=(T.nil,8):=N.fty_not fun h=>hl h.2
    rw [hno] at hgf
    have hl':¬ (ks1.length:Int)=1:=by omega
    simp [f13,f11,hr,hk,f2,hl,hl']
    simp [RetK,cut_app hcl,f2]
    exact hbad i _ hz hgf (by decide)
   obtain ⟨m,rfl⟩:=List.length_eq_one_iff.1 hl
   have hyes:(N.mk k1 f1 t1' w1 a1 z1 [m]).fty=m.ty:=N.fty_one hk
   have hx:=hO' m (by simp [N.ks])
   simp only [Function.comp_apply,hyes] at tb tc
   rw [hyes] at hgf
   have hwd:N.w (.mk k1 f1 t1' w1 a1 z1 [m])=w1:=rfl
   simp only [Function.comp_apply,hwd,encStr] at ta
   unfold OfT at hx
   generalize m.ty=ty at hx hgf tb tc
   obtain ⟨v,e⟩:=ty
   obtain ⟨k2,f2',t2',w2,a2,z2,ks2⟩:=m
   have hr0:Zam.rowAt [(N.mk k2 f2' t2' w2 a2 z2 ks2).enc] 0=some [.int .i64 k2,.int .i64 f2',.int .i64 t2',.str w2,.int .i64 a2,.sl z2 6 (ks2.map N.enc)]:=by rw [N.enc_mk]; rfl
   obtain ⟨kv,zv,nv,yv,pv⟩:=v
   rw [N.v_mk] at hx
   simp only [T.a_mk] at hx
   simp [f13,f11,hr,hk,f2,hr0]
   refine CallK_of' (hx _) ?_
   by_cases he:e=0
   case neg =>
    simp [he,f2]
    simp [RetK,cut_app hcl,f2]
    exact hbad i _ hz hgf he
   subst he
   simp only [T.enc_mk] at tb
   simp [f4,f5,appA,hm,hc1,hc2,f13]
   refine NextK_of (H.length+4) (Nat.le_refl _) (by simp [f13,f12]) ?_
   simp [f2,f11,cut_appk hcl,ta,tb,A.lo]
   rw [tc]
   intro q q2 hq
   rcases List.mem_append.1 hq with h | h
   · exact hz _ h
   · simp at h; exact h.2
 · rintro fr H' f13 f12 ⟨f2,f11,f4,f5,hz,rfl⟩
   have fa:(ks.map (encStr ∘ N.w)).take ks.length=ks.map (encStr ∘ N.w):=List.take_of_length_le (by simp)
   have fb:(ks.map (T.enc ∘ (Prod.fst ∘ N.fty))).take ks.length=ks.map (T.enc ∘ (Prod.fst ∘ N.fty)):=List.take_of_length_le (by simp)
   have fc:(ks.map N.fty).take ks.length=ks.map N.fty:=List.take_of_length_le (by simp)
   rw [fa] at f4
   rw [fb] at f5
   rw [fc] at hz
   have hb0:badE (ks.map N.fty)=0:=badE_zero.2 hz
   have hrec:=fun H=>hR true true (ks.map N.w) ((ks.map N.fty).map Prod.fst) (by simpa using hlen) (by simpa using hlen) H
   simp only [List.map_map] at hrec
   have hfin:∀ (v:T) (e:Int),(v,e)=recT (ks.map N.w) ((ks.map N.fty).map Prod.fst)→Q (.tup [v.a,.d (.int .i64 e)]) H:=fun v e he=>by
    subst hQ
    have e2:recNR ks=(v,e):=by rw [recNR,if_neg (by simp [hb0]),he]
    rw [e2]
    exact ⟨rfl,rfl⟩
   simp only [List.map_map] at hfin
   generalize recT (ks.map N.w) (ks.map (Prod.fst ∘ N.fty))=rt at hrec hfin
   obtain ⟨v,e⟩:=rt
   have hfin:=hfin v e rfl
   obtain ⟨kv,zv,nv,yv,pv⟩:=v
   simp only [T.a_mk] at hrec hfin
   simp [f4,f5]
   refine CallK_shut (by simpa [A.shut] using hrec _) ?_
   simp [f2]
   simp [RetK,cut_app hcl,f2]
   exact hfin
theorem Has.tyOfN {f fr_ fR:FuncId} {t1 t2 t3 u1 u2 u3:TypeId} (h:HasT P [29] f (irTyOfN fr_ f t1 t2 t3)) (hr:HasT P [4,5] fr_ (irTyRecN f fR u1 u2 u3)) (hR:RecT P fR) (n:N):n.size≤1048576→OfT P f n∧∀ p ∈ n.ks,OfT P f p:=by
 refine N.ind (Q:=fun n=>n.size≤1048576→OfT P f n∧∀ p ∈ n.ks,OfT P f p) (fun k f0 t0 w a z ks ih => ?_) n
 intro hs
 have hsz:∀ p ∈ ks,p.size≤1048576:=fun p hp=>by
  obtain ⟨i,hi⟩:=List.getElem?_of_mem hp
  have:=N.sizes_get (k:=k) (f:=f0) (t:=t0) (w:=w) (a:=a) (z:=z) hi
  omega
 have hkids:∀ p ∈ ks,OfT P f p:=fun p hp=>(ih p hp (hsz p hp)).1
 have hgrand:∀ p ∈ ks,∀ q ∈ p.ks,OfT P f q:=fun p hp=>(ih p hp (hsz p hp)).2
 refine ⟨?_,hkids⟩
 have hlen:ks.length≤1048576:=by
  have:=N.sizes_len ks
  rw [N.size_mk] at hs; omega
 intro H
 have hrec:=fun H=>Has.tyRecN hr hR (.mk k f0 t0 w a z ks) hs hgrand H
 obtain ⟨fn,hf,hcf⟩:=h
 refine acall_fin hf hcf (by simp [irTyOfN]) fun hcl _ => ?_
 have hty:=N.ty_mk k f0 t0 w a z ks
 have hty2:k=32→(N.mk k f0 t0 w a z ks).ty=recNR ks:=fun hk=>by
  rw [hty,if_neg (by omega),if_neg (by omega),if_neg (by omega),if_pos hk]; rfl
 obtain ⟨Q,hQ⟩:∃ Q:A→Hp→Prop,Q=fun r H'=>r = .tup [(N.mk k f0 t0 w a z ks).ty.1.a,.d (.int .i64 (N.mk k f0 t0 w a z ks).ty.2)]∧H'=H:=⟨_,rfl⟩
 rw [← hQ]
 have hfin:∀ (v:T) (e:Int),(N.mk k f0 t0 w a z ks).ty=(v,e)→Q (.tup [v.a,.d (.int .i64 e)]) H:=fun v e he=>by
  subst hQ
  rw [he]; exact ⟨rfl,rfl⟩
 rw [N.v_mk] at hrec ⊢
 by_cases c1:k=0
 · have:=hfin T.nil 0 (by rw [hty,if_pos (.inl c1)])
   rw [T.a_nil] at this
   simp [irTyOfN,c1]
   simp [RetK,cut_app hcl]
   exact this
 by_cases c2:k=31
 · have:=hfin T.nil 0 (by rw [hty,if_pos (.inr c2)])
   rw [T.a_nil] at this
   simp [irTyOfN,c2]
   simp [RetK,cut_app hcl]
   exact this
 by_cases c3:k=29
 · have:=hfin (T.new 1 [] []) 0 (by rw [hty,if_neg (by omega),if_pos c3])
   rw [T.new,T.a_mk] at this
   simp [irTyOfN,c3]
   simp [RetK,cut_app hcl]
   simpa using this
 by_cases c4:k=30
 · have:=hfin (T.new 2 [] []) 0 (by rw [hty,if_neg (by omega),if_neg c3,if_pos c4])
   rw [T.new,T.a_mk] at this
   simp [irTyOfN,c4]
   simp [RetK,cut_app hcl]
   simpa using this
 by_cases c5:k=32
 · have:=fun v e (he:recNR ks=(v,e))=>hfin v e ((hty2 c5).trans he)
   simp only [N.ks] at hrec
   generalize recNR ks=rk at hrec this
   obtain ⟨v,e⟩:=rk
   have:=this v e rfl
   obtain ⟨kv,zv,nv,yv,pv⟩:=v
   simp only [T.a_mk] at hrec this
   subst c5
   simp [irTyOfN]
   refine CallK_of' (hrec _) ?_
   simp
   simp [RetK,cut_app hcl]
   exact this
 by_cases c6:k=34
 case neg =>
  have:=hfin T.nil 8 (by rw [hty,if_neg (by omega),if_neg c3,if_neg c4,if_neg c5,if_neg c6])
  rw [T.a_nil] at this
  simp [irTyOfN,c1,c2,c3,c4,c5,c6]
  simp [RetK,cut_app hcl]
  exact this
 have hty3:(N.mk k f0 t0 w a z ks).ty=if badE (ks.map N.ty) ≠ 0 then (T.nil,badE (ks.map N.ty)) else if ks=[] then (T.nil,8) else (T.new 4 [] ((ks.map N.ty).map Prod.fst),0):=by
  rw [hty,if_neg (by omega),if_neg c3,if_neg c4,if_neg c5,if_pos c6]
 have hbad:∀ (i:Nat) (p:T × Int),(∀ q ∈ (ks.map N.ty).take i,q.2=0)→(ks.map N.ty)[i]?=some p→p.2 ≠ 0→Q (.tup [.agg [.d (.int .i64 0),.d (.sl true 1 []),.d (.sl true 3 [])],.d (.int .i64 p.2)]) H:=fun i p h1 h2 h3=>by
  have:=badE_at h1 h2 h3
  exact hfin T.nil p.2 (by rw [hty3,if_pos (by rw [this]; exact h3),this])
 subst c6
 simp [irTyOfN]
 refine RangeK_of (H.length+5) ks.length (fun i fr H'=>fr 2 = .ptr (H.length+1) 0∧fr 31 = .d (.sl z 6 (ks.map N.enc))∧fr 4 = .ptr (H.length+4) 0 ∧
  (∀ q ∈ (ks.map N.ty).take i,q.2=0) ∧
  H'=H++[.box t1 [.d (.int .i64 34),.d (.int .i64 f0),.d (.int .i64 t0),.d (.str w),.d (.int .i64 a),.d (.sl z 6 (ks.map N.enc))],.box t2 [.d (.int .i64 0),.d (.sl true 1 []),.d (.sl true 3 [])],.tok 0 1 t3,.tok i 3 t2,
   .box t2 [.d (.int .i64 4),.osl true 1 [] (H.length+2),.osl true 3 ((ks.map (T.enc ∘ (Prod.fst ∘ N.ty))).take i) (H.length+3)]]) (by omega) (by decide) (by simp) (by simp) ?_ ?_ ?_
 · simp [cut_appk hcl]
 · rintro i fr H' hi f33 f32 ⟨f2,f31,f4,hz,rfl⟩
   have hr:=rowAt_map N.enc hi
   have hg:ks[i]?=some ks[i]:=List.getElem?_eq_getElem hi
   have hmem:=List.getElem_mem hi
   have tb:=take_map_succ (T.enc ∘ (Prod.fst ∘ N.ty)) hi
   have tc:=take_map_succ N.ty hi
   have hm:min i ks.length=i:=by omega
   have hc2:(i+1) * 56≤140737488355328:=by omega
   have hx:=hkids _ hmem
   generalize ks[i]=p at hr hg hmem tb tc hx
   have hgf:(ks.map N.ty)[i]?=some p.ty:=by simp [hg]
   unfold OfT at hx
   simp only [Function.comp_apply] at tb
   generalize p.ty=ty at hx hgf tb tc
   obtain ⟨v,e⟩:=ty
   obtain ⟨k1,f1,t1',w1,a1,z1,ks1⟩:=p
   obtain ⟨kv,zv,nv,yv,pv⟩:=v
   rw [N.enc_mk] at hr
   rw [N.v_mk] at hx
   simp only [T.a_mk] at hx
   simp [f33,f31,hr]
   refine CallK_of' (hx _) ?_
   by_cases he:e=0
   case neg =>
    simp [he,f2]
    simp [RetK,cut_app hcl,f2]
    exact hbad i _ hz hgf he
   subst he
   simp only [T.enc_mk] at tb
   simp [f4,appA,hm,hc2,f33]
   refine NextK_of (H.length+5) (Nat.le_refl _) (by simp [f33,f32]) ?_
   simp [f2,f4,f31,cut_appk hcl,tb]
   rw [tc]
   intro q q2 hq
   rcases List.mem_append.1 hq with h | h
   · exact hz _ h
   · simp at h; exact h.2
 · rintro fr H' f33 f32 ⟨f2,f31,f4,hz,rfl⟩
   have fb:(ks.map (T.enc ∘ (Prod.fst ∘ N.ty))).take ks.length=ks.map (T.enc ∘ (Prod.fst ∘ N.ty)):=List.take_of_length_le (by simp)
   have fc:(ks.map N.ty).take ks.length=ks.map N.ty:=List.take_of_length_le (by simp)
   rw [fc] at hz
   have hb0:badE (ks.map N.ty)=0:=badE_zero.2 hz
   by_cases hks:ks=[]
   · have:=hfin T.nil 8 (by rw [hty3,if_neg (by simp [hb0]),if_pos hks])
     rw [T.a_nil] at this
     simp [f4,fb,hks,f2]
     simp [RetK,cut_app hcl,f2]
     exact this
   · have:=hfin (T.new 4 [] ((ks.map N.ty).map Prod.fst)) 0 (by rw [hty3,if_neg (by simp [hb0]),if_neg hks])
     have hkl:¬ ks.length=0:=by simpa using hks
     rw [T.new,T.a_mk,List.map_map,List.map_map] at this
     have n2:¬ H.length+2 < H.length:=by omega
     have n3:¬ H.length+3 < H.length:=by omega
     simp [f4,fb,hks,f2]
     simp [RetK,cut_app hcl,f2,n2,n3]
     exact this
theorem Has.tyOf {f fo fd:FuncId} {t1 t2:TypeId} (h:Has P f (irTyOf fo fd t1 t2)) (n:N) (ho:OfT P fo n) (hd:∀ H,ACall P fd [n.ty.1.a] H (fun r H'=>r = .d (.int .i64 (n.ty.1.dep:Int))∧H'=H)) (H:Hp) :
 ACall P f [n.v] H (fun r H'=>r = .tup [n.typ.1.a,.d (.int .i64 n.typ.2)]∧H'=H):=by
 obtain ⟨fn,hf,hcf⟩:=h
 refine acall_fin hf hcf (by simp [irTyOf]) fun hcl _ => ?_
 unfold OfT at ho
 have ht:n.typ=if n.ty.2 ≠ 0 then (T.nil,n.ty.2) else if 12 < n.ty.1.dep then (T.nil,25) else n.ty:=rfl
 generalize n.typ=ny at ht
 generalize n.ty=ty at ho hd ht
 obtain ⟨v,e⟩:=ty
 generalize hdd:v.dep=dd at hd ht
 simp only at ho hd ht hdd
 obtain ⟨kv,zv,nv,yv,pv⟩:=v
 obtain ⟨k1,f1,t1',w1,a1,z1,ks1⟩:=n
 rw [N.v_mk] at ho ⊢
 simp only [T.a_mk] at ho hd
 subst ht
 simp [irTyOf]
 refine CallK_of' (ho _) ?_
 by_cases he:e=0
 case neg =>
  simp [he]
  simp [RetK,cut_app hcl,he,T.a_nil]
 subst he
 simp
 refine CallK_of' (hd _) ?_
 by_cases hd12:12 < dd
 · have:(12:Int) < (dd:Int):=by omega
   simp [hd12,this]
   simp [RetK,cut_app hcl,hd12,T.a_nil]
 · have:¬ (12:Int) < (dd:Int):=by omega
   simp [hd12,this]
   simp [RetK,cut_app hcl,hd12,T.a_mk]
noncomputable def typO (s:Bs):T × Int:=if (typeO s).2 ≠ 0 then (T.nil,(typeO s).2) else (typeO s).1.typ
theorem Has.tyParse {f fp fo:FuncId} {t1 t2:TypeId} (h:Has P f (irTyParse fp fo t1 t2)) (s:Bs) (H:Hp) {H0:Hp} (hH:Pre0 H0 H) (hp:∀ H,Pre0 H0 H→ACall P fp [.d (.str s)] H (fun r H'=>r = .tup [(typeO s).1.v,.d (.int .i64 (typeO s).2)]∧H'=H))
 (ho:∀ H,ACall P fo [(typeO s).1.v] H (fun r H'=>r = .tup [(typeO s).1.typ.1.a,.d (.int .i64 (typeO s).1.typ.2)]∧H'=H)):ACall P f [.d (.str s)] H (fun r H'=>r = .tup [(typO s).1.a,.d (.int .i64 (typO s).2)]∧H'=H):=by
 obtain ⟨fn,hf,hcf⟩:=h
 refine acall_fin hf hcf (by simp [irTyParse]) fun hcl _ => ?_
 have ht:typO s=if (typeO s).2 ≠ 0 then (T.nil,(typeO s).2) else (typeO s).1.typ:=rfl
 generalize typO s=ty at ht
 generalize typeO s=ts at hp ho ht
 obtain ⟨n,e⟩:=ts
 simp only at hp ho ht
 generalize n.typ=ny at ho ht
 obtain ⟨v,e2⟩:=ny
 obtain ⟨kv,zv,nv,yv,pv⟩:=v
 obtain ⟨k1,f1,t1',w1,a1,z1,ks1⟩:=n
 rw [N.v_mk] at hp ho
 simp only [T.a_mk] at ho
 subst ht
 have hp':=hp _ (hH.app [.box t1 [.d (.int .i64 0),.d (.sl true 1 []),.d (.sl true 3 [])]])
 simp [irTyParse]
 refine CallK_of' hp' ?_
 by_cases he:e=0
 case neg =>
  simp [he]
  simp [RetK,cut_app hcl,he,T.a_nil]
 subst he
 simp
 refine CallK_of' (ho _) ?_
 simp
 simp [RetK,cut_app hcl,T.a_mk]
end
end
section
open Go.Proofs
open Classical
theorem T.nil_fit (b:Nat):T.nil.Fit b := .mk _ _ _ _ _ (Nat.zero_le _) (Nat.zero_le _) (by simp) (by simp)
theorem T.nil_dep:T.nil.dep=1:=rfl
inductive N.Wd (b:Nat):N→Prop
 | mk {k f t:Int} {w:Bs} {a:Int} {z:Bool} {ks:List N} (hw:w.length≤b) (h:∀ p ∈ ks,N.Wd b p):N.Wd b (.mk k f t w a z ks)
theorem recT_fit {b:Nat} {ns:List Str'} {ps:List T} (h1:ns.length≤b) (h2:∀ x ∈ ns,x.length≤b) (h3:∀ p ∈ ps,p.Fit b):(recT ns ps).1.Fit b:=by
 unfold recT
 split
 · rename_i hl
   split
   · exact T.nil_fit b
   · have hp:=ssort_perm cP_cmp (ns.zip ps)
     have hlen:=ssort_length cP_cmp (ns.zip ps)
     refine .mk _ _ _ _ _ (by simp [hlen]; omega) (by simp [hlen]; omega) (fun x hx => ?_) (fun p hq => ?_)
     · obtain ⟨y,hy,rfl⟩:=List.mem_map.1 hx
       exact h2 _ (List.of_mem_zip (hp.mem_iff.2 hy)).1
     · obtain ⟨y,hy,rfl⟩:=List.mem_map.1 hq
       exact h3 _ (List.of_mem_zip (hp.mem_iff.2 hy)).2
 · exact T.nil_fit b
theorem recT_dep {ns:List Str'} {ps:List T} {d:Nat} (h:∀ p ∈ ps,p.dep≤d):(recT ns ps).1.dep≤d+1:=by
 unfold recT
 split
 · split
   · rw [T.nil_dep]; omega
   · rw [T.new,T.dep_mk]
     have:=T.deps_le (l:=(ssort cP (ns.zip ps)).map Prod.snd) (n:=d)
     have:=this.2 fun p hq=>by
      obtain ⟨y,hy,rfl⟩:=List.mem_map.1 hq
      exact h _ (List.of_mem_zip ((ssort_perm cP_cmp (ns.zip ps)).mem_iff.2 hy)).2
     omega
 · rw [T.nil_dep]; omega
theorem N.ty_ok (n:N):n.size≤1048576→n.Wd 1048576→(n.ty.1.Fit 1048576∧n.ty.1.dep≤n.size)∧∀ p ∈ n.ks,p.ty.1.Fit 1048576∧p.ty.1.dep≤p.size:=by
 refine N.ind (Q:=fun n=>n.size≤1048576→n.Wd 1048576→(n.ty.1.Fit 1048576∧n.ty.1.dep≤n.size)∧∀ p ∈ n.ks,p.ty.1.Fit 1048576∧p.ty.1.dep≤p.size) (fun k f t w a z ks ih => ?_) n
 intro hs hw
 have hsz:∀ p ∈ ks,p.size < (N.mk k f t w a z ks).size:=fun p hp=>by
  obtain ⟨i,hi⟩:=List.getElem?_of_mem hp
  exact N.sizes_get hi
 have hwk:∀ p ∈ ks,p.Wd 1048576:=fun p hp=>by cases hw with | mk _ h=>exact h p hp
 have hk:∀ p ∈ ks,p.ty.1.Fit 1048576∧p.ty.1.dep≤p.size:=fun p hp=>(ih p hp (by have:=hsz p hp; omega) (hwk p hp)).1
 have hg:∀ p ∈ ks,∀ q ∈ p.ks,q.ty.1.Fit 1048576∧q.ty.1.dep≤q.size:=fun p hp=>(ih p hp (by have:=hsz p hp; omega) (hwk p hp)).2
 have hlen:ks.length≤1048576:=by
  have:=N.sizes_len ks
  rw [N.size_mk] at hs; omega
 have h1:1≤(N.mk k f t w a z ks).size:=by rw [N.size_mk]; omega
 refine ⟨?_,hk⟩
 rw [N.ty_mk]
 split
 · exact ⟨T.nil_fit _,by rw [T.nil_dep]; exact h1⟩
 split
 · exact ⟨.mk _ _ _ _ _ (Nat.zero_le _) (Nat.zero_le _) (by simp) (by simp),h1⟩
 split
 · exact ⟨.mk _ _ _ _ _ (Nat.zero_le _) (Nat.zero_le _) (by simp) (by simp),h1⟩
 split
 · split
   · exact ⟨T.nil_fit _,by rw [T.nil_dep]; exact h1⟩
   · have hf:∀ p ∈ ks,p.fty.1.Fit 1048576∧p.fty.1.dep+1≤(N.mk k f t w a z ks).size:=fun p hp=>by
      have hpz:=hsz p hp
      obtain ⟨k1,f1,t1,w1,a1,z1,ks1⟩:=p
      have h1':1≤(N.mk k1 f1 t1 w1 a1 z1 ks1).size:=by rw [N.size_mk]; omega
      by_cases hc:k1=33∧ks1.length=1
      · obtain ⟨m,rfl⟩:=List.length_eq_one_iff.1 hc.2
        rw [N.fty_one hc.1]
        have:=hg _ hp m (by simp [N.ks])
        have hmz:m.size < (N.mk k1 f1 t1 w1 a1 z1 [m]).size:=N.sizes_get (i:=0) rfl
        exact ⟨this.1,by omega⟩
      · rw [N.fty_not hc]
        exact ⟨T.nil_fit _,by show 1+1≤_; omega⟩
     refine ⟨recT_fit (by simpa using hlen) (fun x hx => ?_) (fun p hp => ?_),?_⟩
     · obtain ⟨p,hp,rfl⟩:=List.mem_map.1 hx
       have:=hwk p hp
       cases this with | mk h _=>exact h
     · obtain ⟨q,hq,rfl⟩:=List.mem_map.1 hp
       obtain ⟨r,hr,rfl⟩:=List.mem_map.1 hq
       exact (hf r hr).1
     · have:=recT_dep (ns:=ks.map N.w) (ps:=(ks.map N.fty).map Prod.fst) (d:=(N.mk k f t w a z ks).size - 1) fun p hp=>by
        obtain ⟨q,hq,rfl⟩:=List.mem_map.1 hp
        obtain ⟨r,hr,rfl⟩:=List.mem_map.1 hq
        have:=(hf r hr).2; omega
       omega
 split
 · split
   · exact ⟨T.nil_fit _,by rw [T.nil_dep]; exact h1⟩
   split
   · exact ⟨T.nil_fit _,by rw [T.nil_dep]; exact h1⟩
   · refine ⟨.mk _ _ _ _ _ (Nat.zero_le _) (by simpa using hlen) (by simp) (fun p hp => ?_),?_⟩
     · obtain ⟨q,hq,rfl⟩:=List.mem_map.1 hp
       obtain ⟨r,hr,rfl⟩:=List.mem_map.1 hq
       exact (hk r hr).1
     · rw [T.new,T.dep_mk]
       have:=(T.deps_le (l:=(ks.map N.ty).map Prod.fst) (n:=(N.mk k f t w a z ks).size - 1)).2 fun p hp=>by
        obtain ⟨q,hq,rfl⟩:=List.mem_map.1 hp
        obtain ⟨r,hr,rfl⟩:=List.mem_map.1 hq
        have h1:=(hk r hr).2
        have h2:=hsz r hr
        omega
       omega
 · exact ⟨T.nil_fit _,by rw [T.nil_dep]; exact h1⟩
def WdR (b:Nat):PR→Prop
 | .ok m _=>m.Wd b
 | _=>True
def G.Wd (b:Nat):G→Prop
 | .file ks | .stmts ks=>∀ p ∈ ks,N.Wd b p
 | .list o _=>G.Wd b o
 | .listL o _ ks=>G.Wd b o∧∀ p ∈ ks,N.Wd b p
 | .sumL a | .termL a | .postL a=>N.Wd b a
 | _=>True
section
variable {L:List Tk} {b:Nat}
theorem WdR.want {k:Nat} {x:Bs} {h:Nat→PR} (hh:WdR b (h (k+1))):WdR b (wantR L k x h):=by
 unfold wantR
 split
 · exact hh
 · trivial
theorem WdR.word (hL:∀ t ∈ L,t.x.length≤b) {k:Nat} {h:Bs→Nat→PR} (hh:∀ w:Bs,w.length≤b→WdR b (h w (k+1))):WdR b (wordR L k h):=by
 unfold wordR
 split
 · refine hh _ ?_
   unfold txT
   cases hg:L[k]? with
   | none=>simp
   | some t=>exact hL t (List.mem_of_getElem? hg)
 · trivial
theorem WdR.ite {c:Prop} [Decidable c] {x y:PR} (hx:WdR b x) (hy:WdR b y):WdR b (if c then x else y):=by
 split
 · exact hx
 · exact hy
theorem WdR.thenG {r:PR} {h:N→Nat→PR} (hr:WdR b r) (hh:∀ m j,m.Wd b→WdR b (h m j)):WdR b (r.then h):=by
 cases r with
 | out=>trivial
 | bad j=>trivial
 | ok m j=>exact hh m j hr
theorem txT_len (hL:∀ t ∈ L,t.x.length≤b) (k:Nat):(txT L k).length≤b:=by
 unfold txT
 cases hg:L[k]? with
 | none=>simp
 | some t=>exact hL t (List.mem_of_getElem? hg)
theorem N.Wd.ks {n:N} (h:n.Wd b):∀ p ∈ n.ks,N.Wd b p:=by cases h with | mk _ h=>exact h
theorem N.Wd.nil {k f t a:Int} {z:Bool}:N.Wd b (.mk k f t [] a z []) := .mk (Nat.zero_le _) (by simp)
theorem wd_snoc {ks:List N} {m:N} (h:∀ p ∈ ks,N.Wd b p) (hm:m.Wd b):∀ p ∈ ks++[m],N.Wd b p:=fun p hp=>by
 rcases List.mem_append.1 hp with h1 | h1
 · exact h p h1
 · simp at h1; subst h1; exact hm
theorem wd_cons {ks:List N} {m:N} (hm:m.Wd b) (h:∀ p ∈ ks,N.Wd b p):∀ p ∈ m :: ks,N.Wd b p:=fun p hp=>by
 rcases List.mem_cons.1 hp with h1 | h1
 · subst h1; exact hm
 · exact h p h1
theorem wd_nil:∀ p ∈ ([]:List N),N.Wd b p:=fun p hp=>by cases hp
theorem pp_wd (hL:∀ t ∈ L,t.x.length≤b):∀ (n:Nat) (g:G) (i:Nat),g.Wd b→WdR b (pp L n g i)
 | 0,g,i,_=>trivial
 | n + 1, g, i, hg => by
   have ih:=pp_wd hL n
   have hx:=txT_len hL
   have h0:([]:Bs).length≤b:=Nat.zero_le _
   cases g
   all_goals simp only [pp,G.Wd] at hg ⊢
   all_goals
    repeat' first
     | trivial
     | assumption
     | (refine WdR.want ?_)
     | (refine WdR.word hL fun w hw => ?_)
     | (refine WdR.ite ?_ ?_)
     | (refine WdR.thenG (ih _ _ ?_) fun m j hm => ?_)
     | (refine ih _ _ ?_)
     | (exact N.Wd.nil)
     | (exact wd_nil)
     | (exact N.Wd.ks (by assumption))
     | (exact hx _)
     | (refine wd_snoc ?_ ?_)
     | (refine wd_cons ?_ ?_)
     | (exact (by assumption:N.Wd b _))
     | (exact hg.1)
     | (exact hg.2)
     | (exact ⟨hg,wd_nil⟩)
     | (refine ⟨hg.1,wd_snoc hg.2 ?_⟩)
     | (refine N.Wd.mk ?_ ?_)
end
theorem Toks.wd {s:Bs} {n:Nat} {l:List Tk} (h:Toks s n l):∀ t ∈ l,t.x.length≤s.length:=by
 induction h with
 | fin h h0=>intro t ht; simp at ht; subst ht; simp
 | @tok s n l h h0 hr ih =>
   intro t ht
   rcases List.mem_cons.1 ht with rfl | ht
   · simp; omega
   · have:=ih t ht
     simp at this; omega
theorem lexS_wd (s:Bs) (h:(lexS s).2.1=0):∀ t ∈ (lexS s).1,t.x.length≤s.length:=((lexS_ok s).2 h).1.wd
theorem N.none_wd (b:Nat):N.none.Wd b:=N.Wd.nil
theorem typeO_ok (s:Bs) (hs:s.length≤1048576):(typeO s).1.size≤1048576∧(typeO s).1.Wd 1048576:=by
 unfold typeO
 split
 · exact ⟨by rw [N.size_none]; decide,N.none_wd _⟩
 · rename_i h
   have h0:(lexS s).2.1=0:=by simpa using h
   have hwd:=lexS_wd s h0
   have hl:=(lexS_like h0).2.2.2.2
   unfold typeP
   cases hF:typeF (lexS s).1 with
   | out=>exact ⟨by simp [N.size_none],N.none_wd _⟩
   | bad q=>exact ⟨by simp [N.size_none],N.none_wd _⟩
   | ok m j =>
     simp only
     split
     · split
       · exact ⟨by simp [N.size_none],N.none_wd _⟩
       · have hsz:=pp_size (L:=(lexS s).1) (16 * (lexS s).1.length+8) .kind 0 trivial
         have hw:=pp_wd (b:=1048576) (L:=(lexS s).1) (fun t ht=>by have:=hwd t ht; omega) (16 * (lexS s).1.length+8) .kind 0 trivial
         have hadv:=pp_adv (L:=(lexS s).1) (16 * (lexS s).1.length+8) .kind 0
         rw [show pp (lexS s).1 (16 * (lexS s).1.length+8) .kind 0 = .ok m j from hF] at hsz hw hadv
         simp only [Sz,G.k1,G.sz,N.sizes_nil] at hsz
         obtain ⟨v1,-,v3⟩:=hadv
         exact ⟨by simp only; omega,hw⟩
     · exact ⟨by simp [N.size_none],N.none_wd _⟩
theorem recT_one (x:Str') (p:T):recT [x] [p]=(.new 3 [x] [p],0):=by
 have hs:ssort cP [(x,p)]=[(x,p)]:=ssort_sorted cP_cmp (by simp [Sorted])
 have hd:¬ Dup [(x,p)]:=by
  rintro ⟨j,a,b,-,h,-⟩
  simp at h
 unfold recT
 rw [if_pos (show [x].length=[p].length from rfl),show [x].zip [p]=[(x,p)] from rfl,hs,if_neg hd]
 rfl
theorem recT_two {x y:Str'} (p q:T) (h:Op.bytesLess x y=true):recT [x,y] [p,q]=(.new 3 [x,y] [p,q],0):=by
 have hs:ssort cP [(x,p),(y,q)]=[(x,p),(y,q)]:=ssort_sorted cP_cmp (by
  have:cP (x,p) (y,q) < 0:=cP_lt.2 h
  simp [Sorted]; omega)
 have hd:¬ Dup [(x,p),(y,q)]:=by
  rintro ⟨j,a,b,h1,h2,e⟩
  match j with
  | 0 =>
    simp at h1 h2
    subst h1; subst h2
    simp only at e
    subst e
    rw [bl_irrefl] at h; cases h
  | j+1=>simp at h2
 unfold recT
 rw [if_pos (show [x,y].length=[p,q].length from rfl),show [x,y].zip [p,q]=[(x,p),(y,q)] from rfl,hs,if_neg hd]
 rfl
def sAB:Bs:=[123,97,58,32,105,110,116,44,32,98,58,32,115,116,114,125]
def sB:Bs:=[123,98,58,32,100,121,110,125]
def sC:Bs:=[123,98,58,32,115,116,114,125]
def sD:Bs:=[123,97,58,32,105,110,116,125]
def nFld (f t:Int) (w:Bs) (k:Int):N:=N.new 33 f t w f [N.new k (f+2) (f+3) [] 0 []]
theorem ex_AB:typeO sAB=(N.new 32 0 9 [] 0 [nFld 1 4 [97] 29,nFld 5 8 [98] 30],0):=by kernel_rfl
theorem ex_B:typeO sB=(N.new 32 0 5 [] 0 [nFld 1 4 [98] 31],0):=by kernel_rfl
theorem ex_C:typeO sC=(N.new 32 0 5 [] 0 [nFld 1 4 [98] 30],0):=by kernel_rfl
theorem ex_D:typeO sD=(N.new 32 0 5 [] 0 [nFld 1 4 [97] 29],0):=by kernel_rfl
theorem fld_ty {f t:Int} {w:Bs} {k:Int}:(nFld f t w k).fty=(N.new k (f+2) (f+3) [] 0 []).ty:=N.fty_one rfl
theorem leaf_ty (f t:Int):(N.new 29 f t [] 0 []).ty=(T.new 1 [] [],0)∧(N.new 30 f t [] 0 []).ty=(T.new 2 [] [],0)∧(N.new 31 f t [] 0 []).ty=(T.nil,0):=by
 refine ⟨?_,?_,?_⟩<;>(rw [N.new,N.ty_mk]; simp)
theorem typ_one {a b f t:Int} {w:Bs} {k:Int} {v:T} (h:(N.new k (f+2) (f+3) [] 0 []).ty=(v,0)) (hv:v.dep=1):(N.new 32 a b [] 0 [nFld f t w k]).typ=(T.new 3 [w] [v],0):=by
 have e:(N.new 32 a b [] 0 [nFld f t w k]).ty=(T.new 3 [w] [v],0):=by
  rw [N.new,N.ty_mk]
  have hb:badE ([nFld f t w k].map N.fty)=0:=by simp [fld_ty,h,badE]
  rw [if_neg (by decide),if_neg (by decide),if_neg (by decide),if_pos rfl,if_neg (by rw [hb]; exact fun h=>h rfl)]
  simp only [List.map_cons,List.map_nil,fld_ty,h]
  exact recT_one w v
 unfold N.typ
 rw [e,if_neg (by simp),if_neg (by rw [T.new,T.dep_mk]; simp [T.deps,hv])]
theorem typ_two {a b f t f' t':Int} {w w':Bs} {k k':Int} {v v':T} (h:(N.new k (f+2) (f+3) [] 0 []).ty=(v,0)) (h':(N.new k' (f'+2) (f'+3) [] 0 []).ty=(v',0)) (hv:v.dep=1) (hv':v'.dep=1) (hw:Op.bytesLess w w'=true) :
 (N.new 32 a b [] 0 [nFld f t w k,nFld f' t' w' k']).typ=(T.new 3 [w,w'] [v,v'],0):=by
 have e:(N.new 32 a b [] 0 [nFld f t w k,nFld f' t' w' k']).ty=(T.new 3 [w,w'] [v,v'],0):=by
  rw [N.new,N.ty_mk]
  have hb:badE ([nFld f t w k,nFld f' t' w' k'].map N.fty)=0:=by simp [fld_ty,h,h',badE]
  rw [if_neg (by decide),if_neg (by decide),if_neg (by decide),if_pos rfl,if_neg (by rw [hb]; exact fun h=>h rfl)]
  simp only [List.map_cons,List.map_nil,fld_ty,h,h']
  exact recT_two v v' hw
 unfold N.typ
 rw [e,if_neg (by simp),if_neg (by rw [T.new,T.dep_mk]; simp [T.deps,hv,hv'])]
def tI:T := .new 1 [] []
def tS:T := .new 2 [] []
theorem typ_AB:typO sAB=(T.new 3 [[97],[98]] [tI,tS],0):=by
 unfold typO
 rw [ex_AB]
 exact typ_two (leaf_ty _ _).1 (leaf_ty _ _).2.1 rfl rfl (by decide)
theorem typ_B:typO sB=(T.new 3 [[98]] [T.nil],0):=by
 unfold typO
 rw [ex_B]
 exact typ_one (leaf_ty _ _).2.2 rfl
theorem typ_C:typO sC=(T.new 3 [[98]] [tS],0):=by
 unfold typO
 rw [ex_C]
 exact typ_one (leaf_ty _ _).2.1 rfl
theorem typ_D:typO sD=(T.new 3 [[97]] [tI],0):=by
 unfold typO
 rw [ex_D]
 exact typ_one (leaf_ty _ _).1 rfl
end
end Go.Zam
namespace Go.Proofs.Zy
section
open Go Go.Zam Go.Proofs
theorem tfit_of {b:Nat} (v:T):D.bulkC v.enc≤b→v.Fit b:=by
 induction v using T.ind with
 | h k z ns y ps ih =>
 intro hb
 simp only [T.enc_mk,D.bulkC,D.bulk] at hb
 have l1:=bulkR_len (enc:=Go.Zam.encStr) (fun m=>by simp only [Go.Zam.encStr,D.bulkC,D.bulk]; omega) ns
 have l2:=bulkR_len (enc:=T.enc) (fun m=>by cases m; simp only [T.enc_mk,D.bulkC,D.bulk]; omega) ps
 refine .mk _ _ _ _ _ (by omega) (by omega) (fun x hx => ?_) (fun p hp=>ih p hp ?_)
 · have:=bulkR_mem (List.mem_map_of_mem (f:=Go.Zam.encStr) hx)
   simp only [Go.Zam.encStr,D.bulkC,D.bulk] at this
   omega
 · have:=bulkR_mem (List.mem_map_of_mem (f:=T.enc) hp)
   omega
theorem ty25:∀ n ds,Typed Tryz.prog n 25 ds→∃ v:T,ds=v.enc∧True:=by
 intro n
 induction n using Nat.strongRecOn with
 | ind n ih =>
 intro ds h
 obtain ⟨m,rfl,h⟩:=typed_structR Tryz.underlying25 h
 obtain ⟨a,r,rfl,ha,d,r,rfl,hd,e,r,rfl,he,rfl⟩:=h
 obtain ⟨k,rfl,-⟩:=typed_i64 Tryz.underlying3 ha
 obtain ⟨z,ns,rfl⟩:=typed_sl (sz:=1) (enc:=Go.Zam.encStr) Tryz.underlying22 (by kernel_rfl) (fun n ds h=>by
  obtain ⟨x,rfl⟩:=typed_str Tryz.underlying9 h
  exact ⟨x,rfl⟩) hd
 obtain ⟨y,ps,rfl,hp⟩:=typed_slR (sz:=3) (enc:=T.enc) (R:=fun _=>True) Tryz.underlying23 (by kernel_rfl) (fun q hq ds h=>ih q (by omega) ds h) he
 exact ⟨.mk k z ns y ps,by rw [T.enc_mk]; rfl,trivial⟩
theorem arg_typ {n:Nat} {ds:List D} {a:A} (h:Typed Tryz.prog n 25 ds) (ha:ArgOf Tryz.prog 25 ds a):∃ v:T,a=v.a∧D.bulkC v.enc=D.bulkC ds:=by
 obtain ⟨v,rfl,-⟩:=ty25 n ds h
 refine ⟨v,?_,rfl⟩
 unfold ArgOf at ha
 rw [Tryz.underlying25] at ha
 exact ha
end
end Go.Proofs.Zy
namespace Go.Zam
section
open Classical
def FlowsT (P:Program) (f:FuncId) (v w:T):Prop:=∀ (H:Hp),ACall P f [v.a,w.a] H (fun r H'=>r = .d (.bool (decide (Ty.Fl v.st w.st)))∧H'=H)
theorem T.fit_get {b:Nat} {k:Int} {z:Bool} {ns:List Str'} {y:Bool} {ps:List T} (h:T.Fit b (.mk k z ns y ps)) {i:Nat} {p:T} (hp:ps[i]?=some p):p.Fit b:=by
 cases h with | mk _ _ _ _ _ _ _ _ h4=>exact h4 p (List.mem_of_getElem? hp)
theorem T.size_get {k:Int} {z:Bool} {ns:List Str'} {y:Bool} {ps:List T} {i:Nat} {p:T} (hp:ps[i]?=some p):p.st.size < (T.mk k z ns y ps).st.size:=by
 rw [T.st_mk]
 exact Ty.size_get (i:=i) (by simp [hp])
section
variable {P:Program}
theorem Has.tyFlows {f ff:FuncId} {t:TypeId} (h:Has P f (irTyFlows ff f t)) (hF:FieldT P ff):∀ (n:Nat) (v w:T),v.st.size+w.st.size≤n→v.Fit 1048576→w.Fit 1048576→v.st.Rt→w.st.Rt→FlowsT P f v w:=by
 intro n
 induction n with
 | zero =>
   intro v w hn
   have:1≤v.st.size:=by
    obtain ⟨k,z,ns,y,ps⟩:=v
    rw [T.st_mk,Ty.size_mk]; omega
   omega
 | succ n ih =>
 intro v w hn hv hw rv rw' H
 have hvF:=hv
 have hwF:=hw
 have hfl:=hF v hv rv
 have rv0:=rv
 obtain ⟨k,z,ns,y,ps⟩:=v
 obtain ⟨k',z',ns',y',ps'⟩:=w
 have h0:=h
 obtain ⟨fn,hf,hcf⟩:=h
 refine acall_fin hf hcf (by simp [irTyFlows]) fun hcl _ => ?_
 have hst:Ty.Fl (T.mk k z ns y ps).st (T.mk k' z' ns' y' ps').st ↔ Ty.Fl (.mk k ns (ps.map T.st)) (.mk k' ns' (ps'.map T.st)):=by rw [T.st_mk,T.st_mk]
 rw [T.st_mk] at rv rw'
 cases hv with | mk _ _ _ _ _ b2 b3 b4 b5 =>
 cases hw with | mk _ _ _ _ _ c2 c3 c4 c5 =>
 simp only [hst]
 rw [T.a_mk,T.a_mk]
 rw [T.a_mk] at hfl
 by_cases e0:k=0
 · have hd:Ty.Fl (.mk k ns (ps.map T.st)) (.mk k' ns' (ps'.map T.st)) := .dynL e0
   simp [irTyFlows,e0]
   simp [RetK,cut_app hcl]
   simpa [e0] using hd
 by_cases e0':k'=0
 · have hd:Ty.Fl (.mk k ns (ps.map T.st)) (.mk k' ns' (ps'.map T.st)) := .dynR e0'
   simp [irTyFlows,e0,e0']
   simp [RetK,cut_app hcl]
   simpa [e0'] using hd
 by_cases ek:k=k'
 case neg =>
  have hd:¬ Ty.Fl (.mk k ns (ps.map T.st)) (.mk k' ns' (ps'.map T.st)):=Ty.Fl.ne e0 e0' ek
  simp [irTyFlows,e0,e0',ek]
  simp [RetK,cut_app hcl,hd]
 subst ek
 by_cases e3:k=3
 · subst e3
   have hlen:ns.length=ps.length:=by simpa using rv.len rfl
   have hlen':ns'.length=ps'.length:=by simpa using rw'.len rfl
   simp [irTyFlows]
   refine RangeK_of (H.length+2) ns'.length (fun i fr H'=>fr 2 = .ptr H.length 0∧fr 3 = .ptr (H.length+1) 0∧fr 31 = .d (.sl z' 1 (ns'.map encStr)) ∧
    (∀ j:Nat,j < i→∃ q:Nat,ns[q]?=ns'[j]?∧∀ a b,(ps.map T.st)[q]?=some a→(ps'.map T.st)[j]?=some b→Ty.Fl a b) ∧
    H'=H++[.box t [.d (.int .i64 3),.d (.sl z 1 (ns.map encStr)),.d (.sl y 3 (ps.map T.enc))],.box t [.d (.int .i64 3),.d (.sl z' 1 (ns'.map encStr)),.d (.sl y' 3 (ps'.map T.enc))]]) (by omega) (by decide) (by simp) (by simp) ?_ ?_ ?_
   · simp [cut_appk hcl]
   · rintro i fr H' hi f33 f32 ⟨f2,f3,f31,hJ,rfl⟩
     have ra:=rowAt_map encStr hi
     have hgx:ns'[i]?=some ns'[i]:=List.getElem?_eq_getElem hi
     have hi':i < ps'.length:=by omega
     have rb:=rowAt_map T.enc hi'
     have hgp:ps'[i]?=some ps'[i]:=List.getElem?_eq_getElem hi'
     generalize ns'[i]=x at ra hgx
     generalize ps'[i]=w at rb hgp
     simp only [encStr] at ra
     have hge:¬ (ps'.length:Int)≤(i:Int):=by omega
     have hstop:(∀ (q:Nat) (a:Ty),ns[q]?=some x→(ps.map T.st)[q]?=some a→¬ Ty.Fl a w.st)→¬ Ty.Fl (.mk 3 ns (ps.map T.st)) (.mk 3 ns' (ps'.map T.st)):=fun h=>Ty.Fl.rcd_not rfl rfl (by simpa using hlen) hgx (by simp [hgp]) h
     simp [f33,f31,f2,encStr,ra]
     refine CallK_of' (hfl x _) ?_
     cases hlk:(T.mk 3 z ns y ps).fld x with
     | none =>
       have hno:lookT x ns ps=none:=by simpa [T.fld] using hlk
       have hd:=hstop fun q a hq ha=>by
        simp only [List.getElem?_map,Option.map_eq_some_iff] at ha
        obtain ⟨a,ha,-⟩:=ha
        rw [lookT_at rv.inc hq ha] at hno
        cases hno
       simp [T.a_nil]
       simp [RetK,cut_app hcl,hd]
     | some p =>
       have hso:lookT x ns ps=some p:=by simpa [T.fld] using hlk
       obtain ⟨q,hq1,hq2⟩:=lookT_some hso
       have s1:=T.size_get (k:=3) (z:=z) (ns:=ns) (y:=y) hq2
       have s2:=T.size_get (k:=3) (z:=z') (ns:=ns') (y:=y') hgp
       have hx:=ih p w (by omega) (T.fit_get hvF hq2) (T.fit_get hwF hgp) (rv.part (i:=q) (by simp [hq2])) (rw'.part (i:=i) (by simp [hgp]))
       have hdF:¬ Ty.Fl p.st w.st→¬ Ty.Fl (.mk 3 ns (ps.map T.st)) (.mk 3 ns' (ps'.map T.st)):=fun hn=>hstop fun q' a hq' ha=>by
        have:q'=q:=rv.inc.inj hq' hq1
        subst this
        simp [hq2] at ha
        subst ha
        exact hn
       have hstep:Ty.Fl p.st w.st→∀ j:Nat,j < i+1→∃ q:Nat,ns[q]?=ns'[j]?∧∀ a b,(ps.map T.st)[q]?=some a→(ps'.map T.st)[j]?=some b→Ty.Fl a b:=fun hp j hj=>by
        by_cases e:j=i
        · subst e
          refine ⟨q,by rw [hq1,hgx],fun a b ha hb => ?_⟩
          simp [hq2] at ha
          simp [hgp] at hb
          subst ha; subst hb
          exact hp
        · exact hJ j (by omega)
       have hxx:=hx
       generalize hfp:(Ty.Fl p.st w.st)=FP at hx hdF hstep
       obtain ⟨k1,z1,ns1,y1,ps1⟩:=p
       obtain ⟨k2,z2,ns2,y2,ps2⟩:=w
       rw [T.enc_mk] at rb
       unfold FlowsT at hx
       rw [T.a_mk,T.a_mk,hfp] at hx
       simp [T.a_mk,f3,hge,rb]
       refine CallD_of (hx _) ?_
       simp
       by_cases hFP:FP
       · simp [hFP]
         refine NextK_of (H.length+2) (Nat.le_refl _) (by simp [f33,f32]) ?_
         have:=hstep hFP
         simp [f2,f3,f31,cut_appk hcl]
         simpa using this
       · simp [hFP]
         simp [RetK,cut_app hcl,hdF hFP]
   · rintro fr H' f33 f32 ⟨f2,f3,f31,hJ,rfl⟩
     have hd:Ty.Fl (.mk 3 ns (ps.map T.st)) (.mk 3 ns' (ps'.map T.st)):=Ty.Fl.rcd_of rfl rfl hJ (by simpa using hlen')
     simp
     simp [RetK,cut_app hcl,hd]
 by_cases e4:k=4
 · subst e4
   obtain ⟨m,hm⟩:∃ m,ps.length=m+1:=by
    have:ps ≠ []:=fun e=>by
     rw [Ty.rt_iff] at rv
     exact (rv.2.2.2.1 rfl).2 (by simp [e])
    have:=List.length_pos_iff.2 this
    exact ⟨ps.length - 1,by omega⟩
   obtain ⟨m',hm'⟩:∃ m,ps'.length=m+1:=by
    have:ps' ≠ []:=fun e=>by
     rw [Ty.rt_iff] at rw'
     exact (rw'.2.2.2.1 rfl).2 (by simp [e])
    have:=List.length_pos_iff.2 this
    exact ⟨ps'.length - 1,by omega⟩
   have hw1:IntKind.i64.wrap ((ps.length:Int) - 1)=(m:Int):=by rw [wrap_i64 (by omega) (by omega)]; omega
   have hw2:IntKind.i64.wrap ((ps'.length:Int) - 1)=(m':Int):=by rw [wrap_i64 (by omega) (by omega)]; omega
   have hneg:¬ (m:Int) < 0:=by omega
   have ihp:∀ (i:Nat) (p q:T),ps[i]?=some p→ps'[i]?=some q→FlowsT P f p q∧FlowsT P f q p:=fun i p q hp hq=>by
    have s1:=T.size_get (k:=4) (z:=z) (ns:=ns) (y:=y) hp
    have s2:=T.size_get (k:=4) (z:=z') (ns:=ns') (y:=y') hq
    have r1:=rv.part (i:=i) (p:=p.st) (by simp [hp])
    have r2:=rw'.part (i:=i) (p:=q.st) (by simp [hq])
    exact ⟨ih p q (by omega) (T.fit_get hvF hp) (T.fit_get hwF hq) r1 r2,ih q p (by omega) (T.fit_get hwF hq) (T.fit_get hvF hp) r2 r1⟩
   by_cases hmm:m=m'
   case neg =>
    have hd:¬ Ty.Fl (.mk 4 ns (ps.map T.st)) (.mk 4 ns' (ps'.map T.st)):=Ty.Fl.fn_len rfl rfl (by simp; omega)
    have hne:¬ (m':Int)=(m:Int):=by omega
    simp [irTyFlows,hw1,hw2,hne]
    simp [RetK,cut_app hcl,hd]
   subst hmm
   simp [irTyFlows,hw1,hw2,hneg]
   refine RangeK_of (H.length+2) m (fun i fr H'=>fr 2 = .ptr H.length 0∧fr 3 = .ptr (H.length+1) 0∧fr 9 = .d (.int .i64 (m:Int)) ∧
    (∀ (j:Nat) (a b:T),j < i→ps[j]?=some a→ps'[j]?=some b→Ty.Fl b.st a.st) ∧
    H'=H++[.box t [.d (.int .i64 4),.d (.sl z 1 (ns.map encStr)),.d (.sl y 3 (ps.map T.enc))],.box t [.d (.int .i64 4),.d (.sl z' 1 (ns'.map encStr)),.d (.sl y' 3 (ps'.map T.enc))]]) (by omega) (by decide) (by simp) (by simp) ?_ ?_ ?_
   · simp [cut_appk hcl]
   · rintro i fr H' hi f83 f82 ⟨f2,f3,f9,hJ,rfl⟩
     have h1:i < ps.length:=by omega
     have h2:i < ps'.length:=by omega
     have ra:=rowAt_map T.enc h1
     have rb:=rowAt_map T.enc h2
     have ga:ps[i]?=some ps[i]:=List.getElem?_eq_getElem h1
     have gb:ps'[i]?=some ps'[i]:=List.getElem?_eq_getElem h2
     generalize ps[i]=p at ra ga
     generalize ps'[i]=q at rb gb
     have hx:=(ihp i p q ga gb).2
     have hdF:¬ Ty.Fl q.st p.st→¬ Ty.Fl (.mk 4 ns (ps.map T.st)) (.mk 4 ns' (ps'.map T.st)):=fun hn=>Ty.Fl.fn_not rfl rfl (i:=i) (p:=p.st) (q:=q.st) (by simp [ga]) (by simp [gb]) (by simp; omega) hn
     have hstep:Ty.Fl q.st p.st→∀ (j:Nat) (a b:T),j < i+1→ps[j]?=some a→ps'[j]?=some b→Ty.Fl b.st a.st:=fun hp j a b hj ha hb=>by
      by_cases e:j=i
      · subst e
        rw [ga] at ha; rw [gb] at hb
        cases ha; cases hb
        exact hp
      · exact hJ j a b (by omega) ha hb
     generalize hfp:(Ty.Fl q.st p.st)=FP at hdF hstep
     obtain ⟨k1,z1,ns1,y1,ps1⟩:=p
     obtain ⟨k2,z2,ns2,y2,ps2⟩:=q
     rw [T.enc_mk] at ra rb
     unfold FlowsT at hx
     rw [T.a_mk,T.a_mk,hfp] at hx
     simp [f83,f2,f3,ra,rb]
     refine CallD_of (hx _) ?_
     simp
     by_cases hFP:FP
     · simp [hFP]
       refine NextK_of (H.length+2) (Nat.le_refl _) (by simp [f83,f82]) ?_
       simp [f2,f3,f9,cut_appk hcl]
       exact hstep hFP
     · simp [hFP]
       simp [RetK,cut_app hcl,hdF hFP]
   · rintro fr H' f83 f82 ⟨f2,f3,f9,hJ,rfl⟩
     have h1:m < ps.length:=by omega
     have h2:m < ps'.length:=by omega
     have ra:=rowAt_map T.enc h1
     have rb:=rowAt_map T.enc h2
     have ga:ps[m]?=some ps[m]:=List.getElem?_eq_getElem h1
     have gb:ps'[m]?=some ps'[m]:=List.getElem?_eq_getElem h2
     generalize ps[m]=p at ra ga
     generalize ps'[m]=q at rb gb
     have hx:=(ihp m p q ga gb).1
     have hfin:Ty.Fl (.mk 4 ns (ps.map T.st)) (.mk 4 ns' (ps'.map T.st)) ↔ Ty.Fl p.st q.st:=by
      constructor
      · intro hf
        exact Classical.byContradiction fun hn=>Ty.Fl.fn_last rfl rfl (i:=m) (p:=p.st) (q:=q.st) (by simp [ga]) (by simp [gb]) (by simp; omega) hn hf
      · intro hp
        refine Ty.Fl.fn_of rfl rfl (by simp; omega) (fun i a b hi ha hb => ?_) (fun i a b hi ha hb => ?_)
        · simp only [List.getElem?_map,Option.map_eq_some_iff,List.length_map] at ha hb hi
          obtain ⟨a,ha,rfl⟩:=ha
          obtain ⟨b,hb,rfl⟩:=hb
          exact hJ i a b (by omega) ha hb
        · simp only [List.length_map] at hi
          have:i=m:=by omega
          subst this
          simp [ga] at ha
          simp [gb] at hb
          subst ha; subst hb
          exact hp
     generalize hfp:(Ty.Fl p.st q.st)=FP at hfin
     obtain ⟨k1,z1,ns1,y1,ps1⟩:=p
     obtain ⟨k2,z2,ns2,y2,ps2⟩:=q
     rw [T.enc_mk] at ra rb
     unfold FlowsT at hx
     rw [T.a_mk,T.a_mk,hfp] at hx
     simp [f9,f2,f3,ra,rb]
     refine CallD_of (hx _) ?_
     simp
     simp [RetK,cut_app hcl,hfin]
 · have hd:Ty.Fl (.mk k ns (ps.map T.st)) (.mk k ns' (ps'.map T.st)) := .same rfl e3 e4
   simp [irTyFlows,e0,e3,e4]
   simp [RetK,cut_app hcl,hd]
end
end
section
open Classical
section
variable {P:Program}
end
end
section
open Classical
def RightT (P:Program) (f:FuncId) (v:T):Prop:=∀ (H:Hp),ACall P f [v.a] H (fun r H'=>r = .d (.bool (decide v.st.Rt))∧H'=H)
def UpTo (ns:List Str') (i:Nat):Prop:=(∀ (j:Nat) (x:Str'),j < i→ns[j]?=some x→isNameB x=true)∧∀ (j:Nat) (x y:Str'),j+1 < i→ns[j]?=some x→ns[j+1]?=some y→Op.bytesLess x y=true
theorem UpTo.all {ns:List Str'} (h:UpTo ns ns.length):(∀ x ∈ ns,isNameB x=true)∧Ty.Inc ns :=
 ⟨fun x hx=>by
  obtain ⟨i,hi⟩:=List.getElem?_of_mem hx
  exact h.1 i x (List.getElem?_eq_some_iff.1 hi).1 hi,fun i x y hx hy=>h.2 i x y (List.getElem?_eq_some_iff.1 hy).1 hx hy⟩
theorem UpTo.zero (ns:List Str'):UpTo ns 0:=⟨fun j x h=>by omega,fun j x y h=>by omega⟩
theorem UpTo.succ {ns:List Str'} {i:Nat} {y:Str'} (h:UpTo ns i) (hy:ns[i]?=some y) (hn:isNameB y=true) (hp:∀ x,0 < i→ns[i - 1]?=some x→Op.bytesLess x y=true):UpTo ns (i+1):=by
 refine ⟨fun j x hj hx => ?_,fun j x z hj hx hz => ?_⟩
 · by_cases e:j=i
   · subst e; rw [hy] at hx; cases hx; exact hn
   · exact h.1 j x (by omega) hx
 · by_cases e:j+1=i
   · subst e; rw [hy] at hz; cases hz; exact hp x (by omega) (by simpa using hx)
   · exact h.2 j x z (by omega) hx hz
section
variable {P:Program} {bt:Nat}
theorem Has.rRight {f fi:FuncId} (h:Has P f (irTRight bt f fi)) (hn:∀ s H,ACall P fi [.d (.str s)] H (fun r H'=>r = .d (.bool (isNameB s))∧H'=H)) (v:T):v.Fit 1048576→RightT P f v:=by
 induction v using T.ind with
 | h k z ns y ps ih =>
 rintro (⟨_,_,_,_,_,b2,b3,b4,b5⟩) H
 have h0:=h
 obtain ⟨fn,hf,hcf⟩:=h
 refine acall_fin hf hcf (by simp [irTRight]) fun hcl _ => ?_
 rw [T.st_mk]
 rw [T.a_mk]
 generalize hB:H++[Ob.box bt [A.d (D.int IntKind.i64 k),A.d (D.sl z 1 (List.map encStr ns)),A.d (D.sl y 3 (List.map T.enc ps))]]=B
 have hB0:B[H.length]?=some (Ob.box bt [A.d (D.int IntKind.i64 k),A.d (D.sl z 1 (List.map encStr ns)),A.d (D.sl y 3 (List.map T.enc ps))]):=by rw [← hB]; simp
 have hBl:B.length=H.length+1:=by rw [← hB]; simp
 have hBc:Hp.cut (H.length+1) B=B:=by rw [← hB,cut_appk hcl]; simp
 have hBz:Hp.cut H.length B=H:=by rw [← hB,cut_app hcl]
 have hno:∀ fr H',(¬ (Ty.mk k ns (ps.map T.st)).Rt∧fr 2 = .d (.bool false)∧H'=B)→Zam.Fin [Res.t 2] H.length (fun r H'=>r = .d (.bool (decide (Ty.mk k ns (ps.map T.st)).Rt))∧H'=H) .ret fr H':=by
  rintro fr H' ⟨hd,f2,rfl⟩
  simp [RetK,hBz,hBl,f2,hd]
 have hrt := @Ty.rt_iff k ns (ps.map T.st)
 by_cases c1:0≤k∧k≤4
 case neg =>
  have hd:¬ (Ty.mk k ns (ps.map T.st)).Rt:=fun h=>c1 (hrt.1 h).1
  by_cases k0:k < 0
  · simp [irTRight,hB,hB0,k0]
    simp [RetK,hBz,hBl,hd]
  · have k4:4 < k:=by omega
    simp [irTRight,hB,hB0,k0,k4]
    simp [RetK,hBz,hBl,hd]
 have k0:¬ k < 0:=by omega
 have k4:¬ 4 < k:=by omega
 by_cases c2:k≤2→ns=[]∧ps=[]
 case neg =>
  have hd:¬ (Ty.mk k ns (ps.map T.st)).Rt:=fun h=>c2 fun hk=>by have:=(hrt.1 h).2.1 hk; simpa using this
  have hk:k≤2:=Classical.byContradiction fun hk=>c2 fun h=>absurd h hk
  by_cases hns:ns=[]
  · have hps:ps ≠ []:=fun e=>c2 fun _=>⟨hns,e⟩
    have hpl:=List.length_pos_iff.2 hps
    simp [irTRight,hB,hB0,k0,k4,hk,hns,hpl]
    simp [RetK,hBz,hBl,cut_app hcl]
    simpa [hns] using hd
  · have hnl:=List.length_pos_iff.2 hns
    simp [irTRight,hB,hB0,k0,k4,hk,hnl]
    simp [RetK,hBz,hBl,hd]
 by_cases c3:k=3→ns.length=ps.length
 case neg =>
  have hd:¬ (Ty.mk k ns (ps.map T.st)).Rt:=fun h=>c3 fun hk=>by have:=(hrt.1 h).2.2.1 hk; simpa using this
  have hk:k=3:=Classical.byContradiction fun hk=>c3 fun h=>absurd h hk
  have hl:¬ ns.length=ps.length:=fun e=>c3 fun _=>e
  have hl':¬ (ns.length:Int)=ps.length:=by omega
  subst hk
  simp [irTRight,hB,hB0,hl,hl']
  simp [RetK,hBz,hBl,hd]
 by_cases c4:k=4→ns=[]∧ps ≠ []
 case neg =>
  have hd:¬ (Ty.mk k ns (ps.map T.st)).Rt:=fun h=>c4 fun hk=>by have:=(hrt.1 h).2.2.2.1 hk; simpa using this
  have hk:k=4:=Classical.byContradiction fun hk=>c4 fun h=>absurd h hk
  subst hk
  by_cases hns:ns=[]
  · have hps:ps=[]:=Classical.byContradiction fun e=>c4 fun _=>⟨hns,e⟩
    simp [irTRight,hB,hB0,hns,hps]
    simp [RetK,hBz,hBl,cut_app hcl]
    simpa [hns,hps] using hd
  · have hnl:=List.length_pos_iff.2 hns
    simp [irTRight,hB,hB0,hnl]
    simp [RetK,hBz,hBl,hd]
 have hmain:(Ty.mk k ns (ps.map T.st)).Rt ↔ UpTo ns ns.length∧∀ p ∈ ps,p.st.Rt:=by
  rw [hrt]
  constructor
  · rintro ⟨-,-,-,-,a,b,c⟩
    exact ⟨⟨fun j x _ hx=>a x (List.mem_of_getElem? hx),fun j x y _ hx hy=>b j x y hx hy⟩,fun p hp=>c _ (List.mem_map_of_mem hp)⟩
  · rintro ⟨a,b⟩
    refine ⟨c1,fun h=>by simpa using c2 h,fun h=>by simpa using c3 h,fun h=>by simpa using c4 h,a.all.1,a.all.2,fun p hp => ?_⟩
    obtain ⟨q,hq,rfl⟩:=List.mem_map.1 hp
    exact b q hq
 simp only [irTRight]
 refine Seq_out (fun fr H'=>fr 1 = .ptr H.length 0∧H'=B) (fun _ _=>False) (by simp [hB]) (fun _ _ h=>h.elim) ?_
 rintro fr H' ⟨f1,rfl⟩
 refine Seq_out (fun fr H2=>fr 1 = .ptr H.length 0∧H2=H') (fun _ _=>False) ?_ (fun _ _ h=>h.elim) ?_
 · simp [f1,hB0,k0,k4]
 rintro fr H2 ⟨f1,rfl⟩
 refine Seq_out (fun fr H3=>fr 1 = .ptr H.length 0∧H3=H2) (fun _ _=>False) ?_ (fun _ _ h=>h.elim) ?_
 · by_cases hk:k≤2
   · obtain ⟨e1,e2⟩:=c2 hk
     subst e1; subst e2
     simp [f1,hB0,hk]
   · simp [f1,hB0,hk]
 rintro fr H3 ⟨f1,rfl⟩
 refine Seq_out (fun fr H4=>fr 1 = .ptr H.length 0∧H4=H3) (fun _ _=>False) ?_ (fun _ _ h=>h.elim) ?_
 · by_cases hk3:k=3
   · have e:=c3 hk3
     subst hk3
     simp [f1,hB0,e]
   · by_cases hk4:k=4
     · obtain ⟨e1,e2⟩:=c4 hk4
       have hpl:=List.length_pos_iff.2 e2
       subst hk4
       subst e1
       simp [f1,hB0,e2]
     · simp [f1,hB0,hk3,hk4]
 rintro fr H4 ⟨f1,rfl⟩
 refine Seq_out (fun fr H5=>fr 1 = .ptr H.length 0∧UpTo ns ns.length∧H5=H4) (fun fr H5=>¬ (Ty.mk k ns (ps.map T.st)).Rt∧fr 2 = .d (.bool false)∧H5=H4) ?_ hno ?_
 · simp
   refine LoopK_outR 0 (fun fr H5=>fr 1 = .ptr H.length 0∧UpTo ns ns.length∧H5=H4) (fun fr H5=>¬ (Ty.mk k ns (ps.map T.st)).Rt∧fr 2 = .d (.bool false)∧H5=H4) ?_ (fun fr H h=>by simpa using h) (fun fr H h=>by simpa using h)
   refine ForK_of (H.length+1) ns.length (fun i fr H5=>fr 1 = .ptr H.length 0∧UpTo ns i∧H5=H4) (by omega) (by decide) (by simp [hBl]) (by simp) ?_ ?_
   · simp [hBc,f1,UpTo.zero]
   rintro i fr H5 hi f3 ⟨f1,hU,rfl⟩
   simp [f3,f1,hB0]
   refine BrK_split (fun h => ?_) (fun h => ?_)
   · have hlt:i < ns.length:=by simpa using h
     have hr:=rowAt_map encStr hlt
     have hg:ns[i]?=some ns[i]:=List.getElem?_eq_getElem hlt
     generalize ns[i]=x at hr hg
     simp only [encStr] at hr
     simp [f3,f1,hB0,encStr,hr]
     refine CallD_of (hn _ _) ?_
     by_cases hnx:isNameB x=true
     case neg =>
      have hnx':isNameB x=false:=by simpa using hnx
      have hd:¬ (Ty.mk k ns (ps.map T.st)).Rt:=fun h=>hnx ((hmain.1 h).1.1 i x hlt hg)
      simp [hnx',hd]
     simp [hnx,f3]
     refine GdK_split (by simp) (fun h => ?_) (fun h => ?_)
     · have hpos:0 < i:=by simpa using h
       have hwm:IntKind.i64.wrap ((i:Int) - 1)=((i - 1:Nat):Int):=by rw [wrap_i64 (by omega) (by omega)]; omega
       have hj:i - 1 < ns.length:=by omega
       have rj:=rowAt_map encStr hj
       have gj:ns[i - 1]?=some ns[i - 1]:=List.getElem?_eq_getElem hj
       generalize ns[i - 1]=w at rj gj
       simp only [encStr] at rj
       simp [f3,f1,hB0,encStr,hr,hwm,rj]
       refine BrK_split (fun h => ?_) (fun h => ?_)
       · have hd:¬ (Ty.mk k ns (ps.map T.st)).Rt:=fun hR=>by
          have hwx:=(hmain.1 hR).1.2 (i - 1) w x (by omega) gj (by rw [show i - 1+1=i by omega]; exact hg)
          simp at h
          rcases h with h | h
          · rw [bl_asymm hwx] at h; cases h
          · subst h; rw [bl_irrefl] at hwx; cases hwx
         simp [hd]
       · have hwx:Op.bytesLess w x=true:=by
          simp at h
          by_cases hb:Op.bytesLess w x=true
          · exact hb
          · exact absurd (bl_total x w h.1 (by simpa using hb)) h.2
         simp
         refine NextF_of (H.length+1) (Nat.le_refl _) hlt (by simp [hBl,f3]) ?_
         simp [f1,hBc]
         exact hU.succ hg hnx fun x' _ hx'=>by rw [gj] at hx'; cases hx'; exact hwx
     · have hz:i=0:=by simpa using h
       simp
       refine NextF_of (H.length+1) (Nat.le_refl _) hlt (by simp [hBl,f3]) ?_
       simp [f1,hBc]
       exact hU.succ hg hnx fun x' h0 _=>by omega
   · have hin : i = ns.length := by have : ¬ i < ns.length := by simpa using h
                                    omega
     subst hin
     simp [f1,hU]
 rintro fr H5 ⟨f1,hU,rfl⟩
 simp
 refine LoopK_outR 2 (fun fr H6=>(∀ p ∈ ps,p.st.Rt)∧H6=H5) (fun fr H6=>¬ (Ty.mk k ns (ps.map T.st)).Rt∧fr 2 = .d (.bool false)∧H6=H5) ?_ (fun fr H h=>hno fr H h) ?_
 · refine ForK_of (H.length+1) ps.length (fun i fr H6=>fr 1 = .ptr H.length 0∧(∀ (j:Nat) (p:T),j < i→ps[j]?=some p→p.st.Rt)∧H6=H5) (by omega) (by decide) (by simp [hBl]) (by simp) ?_ ?_
   · simp [hBc,f1]
   rintro i fr H6 hi f4 ⟨f1,hJ,rfl⟩
   simp [f4,f1,hB0]
   refine BrK_split (fun h => ?_) (fun h => ?_)
   · have hlt:i < ps.length:=by simpa using h
     have hr:=rowAt_map T.enc hlt
     have hx:=ih ps[i] (List.getElem_mem hlt) (b5 _ (List.getElem_mem hlt))
     have hg:ps[i]?=some ps[i]:=List.getElem?_eq_getElem hlt
     have hmem:=List.getElem_mem hlt
     generalize ps[i]=p at hr hx hg hmem
     have hnR:¬ p.st.Rt→¬ (Ty.mk k ns (ps.map T.st)).Rt:=fun hn hR=>hn ((hmain.1 hR).2 p hmem)
     have hyR:p.st.Rt→∀ (j:Nat) (q:T),j < i+1→ps[j]?=some q→q.st.Rt:=fun hp j q hj hq=>by
      by_cases e:j=i
      · subst e; rw [hg] at hq; cases hq; exact hp
      · exact hJ j q (by omega) hq
     generalize hRp:p.st.Rt=RP at hnR hyR
     unfold RightT at hx
     rw [hRp] at hx
     cases p with | mk k1 z1 ns1 y1 ps1 =>
     simp only [T.a_mk,T.enc_mk] at hr hx
     simp [f4,f1,hB0,hr]
     refine CallK_of' (hx _) ?_
     by_cases hRP:RP
     · simp [hRP]
       refine NextF_of (H.length+1) (Nat.le_refl _) hlt (by simp [hBl,f4]) ?_
       simp [f1,hBc]
       exact hyR hRP
     · simp [hRP]
       exact hnR hRP
   · have hin : i = ps.length := by have : ¬ i < ps.length := by simpa using h
                                    omega
     subst hin
     simp
     intro p hp
     obtain ⟨j,hj⟩:=List.getElem?_of_mem hp
     exact hJ j p (List.getElem?_eq_some_iff.1 hj).1 hj
 · rintro fr H6 ⟨hall,rfl⟩
   have hd:(Ty.mk k ns (ps.map T.st)).Rt:=hmain.2 ⟨hU,hall⟩
   simp
   simp [RetK,hBz,hBl,hd]
end
end
section
open Classical
def irTFits (fl fr t : Nat) : IFn := { nt := 20, res := [.t 2], body := ( .seq (.ops [⟨some 2,none,.mv (.c (.bool false))⟩] false) (.seq (.seq (.ops [⟨some 5,none,.mv (.t 0)⟩,⟨some 6,none,.lenL (.t 5)⟩,⟨some 7,none,.mv (.c (.int .i64 0))⟩] false) (.blk 0 (.loop (.seq (.ops [⟨some 8,none,.bin .lss (.t 7) (.t 6)⟩] false) (.seq (.cond (.t 8) (.skip) (.exit 0)) (.seq (.blk 1 (.seq (.ops [⟨some 9,none,.iaddr 3 (.t 5) (.t 7)⟩,⟨some 10,none,.load 3 true (.t 9)⟩,⟨some 4,none,.alloc t [(.int .i64 0),(.sl true 1 []),(.sl true 3 [])]⟩,⟨none,none,.store 3 (.t 4) (.t 10)⟩] false) (.seq (.ops [⟨some 11,none,.load 3 true (.t 4)⟩,⟨some 12,none,.call fl [(.t 11)]⟩,⟨some 13,none,.un .not (.t 12)⟩,⟨some 14,none,.mv (.t 13)⟩,⟨some 15,some (14,false),.load 3 true (.t 4)⟩,⟨some 16,some (14,false),.call fr [(.t 15)]⟩,⟨some 17,some (14,false),.un .not (.t 16)⟩,⟨some 18,none,.pick (.t 14) (.c (.bool true)) (.t 17)⟩] false) (.cond (.t 18) (.seq (.ops [⟨some 2,none,.mv (.c (.bool false))⟩] false) (.ret)) (.skip))))) (.ops [⟨some 19,none,.bin .add (.t 7) (.c (.int .i64 1))⟩,⟨some 7,none,.mv (.t 19)⟩] false))))))) (.seq (.ops [⟨some 2,none,.mv (.c (.bool true))⟩] false) (.ret)))) }
def irTAwake (fp ff t : Nat) : IFn := { nt := 34, res := [.t 0], body := ( .seq (.ops [⟨some 0,none,.mv (.c (.bool false))⟩] false) (.seq (.ops [⟨some 10,none,.call fp [(.c (.str [123,97,58,32,105,110,116,44,32,98,58,32,115,116,114,125]))]⟩,⟨some 9,none,.mv (.t 10)⟩,⟨some 11,none,.ext (.t 9) 0⟩,⟨some 12,none,.ext (.t 9) 1⟩,⟨some 1,none,.alloc t [(.int .i64 0),(.sl true 1 []),(.sl true 3 [])]⟩,⟨none,none,.store 3 (.t 1) (.t 11)⟩,⟨some 2,none,.mv (.t 12)⟩] false) (.seq (.ops [⟨some 14,none,.call fp [(.c (.str [123,98,58,32,100,121,110,125]))]⟩,⟨some 13,none,.mv (.t 14)⟩,⟨some 15,none,.ext (.t 13) 0⟩,⟨some 16,none,.ext (.t 13) 1⟩,⟨some 3,none,.alloc t [(.int .i64 0),(.sl true 1 []),(.sl true 3 [])]⟩,⟨none,none,.store 3 (.t 3) (.t 15)⟩,⟨some 4,none,.mv (.t 16)⟩] false) (.seq (.ops [⟨some 18,none,.call fp [(.c (.str [123,98,58,32,115,116,114,125]))]⟩,⟨some 17,none,.mv (.t 18)⟩,⟨some 19,none,.ext (.t 17) 0⟩,⟨some 20,none,.ext (.t 17) 1⟩,⟨some 5,none,.alloc t [(.int .i64 0),(.sl true 1 []),(.sl true 3 [])]⟩,⟨none,none,.store 3 (.t 5) (.t 19)⟩,⟨some 6,none,.mv (.t 20)⟩] false) (.seq (.ops [⟨some 22,none,.call fp [(.c (.str [123,97,58,32,105,110,116,125]))]⟩,⟨some 21,none,.mv (.t 22)⟩,⟨some 23,none,.ext (.t 21) 0⟩,⟨some 24,none,.ext (.t 21) 1⟩,⟨some 7,none,.alloc t [(.int .i64 0),(.sl true 1 []),(.sl true 3 [])]⟩,⟨none,none,.store 3 (.t 7) (.t 23)⟩,⟨some 8,none,.mv (.t 24)⟩] false) (.seq (.ops [⟨some 25,none,.load 3 true (.t 1)⟩,⟨some 26,none,.load 3 true (.t 3)⟩,⟨some 27,none,.call ff [(.t 25),(.t 26)]⟩,⟨some 28,none,.mv (.t 27)⟩,⟨some 29,some (28,true),.load 3 true (.t 5)⟩,⟨some 30,some (28,true),.load 3 true (.t 7)⟩,⟨some 31,some (28,true),.call ff [(.t 29),(.t 30)]⟩,⟨some 32,some (28,true),.un .not (.t 31)⟩,⟨some 33,none,.pick (.t 28) (.t 32) (.c (.bool false))⟩,⟨some 0,none,.mv (.t 33)⟩] false) (.ret))))))) }
section
variable {P:Program} {t:Nat}
theorem Has.tFits {f fl fr:FuncId} (h:Has P f (irTFits fl fr t)) (l:List T) (hl:l.length≤1048576) (hL:∀ v ∈ l,∀ H,ACall P fl [v.a] H (fun r H'=>(∃ c:Bool,r = .d (.bool c))∧H'=H)) (hR:∀ v ∈ l,RightT P fr v) (z:Bool) (H:Hp) :
 ACall P f [.d (.sl z 3 (l.map T.enc))] H (fun r H'=>(∃ c:Bool,r = .d (.bool c)∧(c=true→∀ v ∈ l,v.st.Rt))∧H'=H):=by
 obtain ⟨fn,hf,hcf⟩:=h
 refine acall_fin hf hcf (by simp [irTFits]) fun hcl _ => ?_
 simp [irTFits]
 refine RangeK_of H.length l.length (fun i fr H'=>fr 5 = .d (.sl z 3 (l.map T.enc))∧(∀ (j:Nat) (p:T),j < i→l[j]?=some p→p.st.Rt)∧H'=H) (by omega) (by decide) (by simp) (by simp) ?_ ?_ ?_
 · simp [cut_self hcl]
 · rintro i fr H' hi f7 f6 ⟨f5,hJ,rfl⟩
   have hr:=rowAt_map T.enc hi
   have hx:=hR l[i] (List.getElem_mem hi)
   have hy:=hL l[i] (List.getElem_mem hi)
   have hg:l[i]?=some l[i]:=List.getElem?_eq_getElem hi
   generalize l[i]=p at hr hx hy hg
   have hyR:p.st.Rt→∀ (j:Nat) (q:T),j < i+1→l[j]?=some q→q.st.Rt:=fun hp j q hj hq=>by
    by_cases e:j=i
    · subst e; rw [hg] at hq; cases hq; exact hp
    · exact hJ j q (by omega) hq
   generalize hRp:p.st.Rt=RP at hyR
   unfold RightT at hx
   rw [hRp] at hx
   cases p with | mk k1 z1 ns1 y1 ps1 =>
   simp only [T.a_mk,T.enc_mk] at hr hx hy
   simp [f7,f5,hr]
   refine CallK_of (hy _) ?_
   rintro r H2 ⟨⟨c,rfl⟩,rfl⟩
   cases c
   · simp
     simp [RetK,cut_app hcl]
   simp
   refine CallK_of' (hx _) ?_
   by_cases hRP:RP
   · simp [hRP]
     refine NextK_of H'.length (Nat.le_refl _) (by simp [f7,f6]) ?_
     simp [f5,cut_app hcl]
     exact hyR hRP
   · simp [hRP]
     simp [RetK,cut_app hcl]
 · rintro fr H' f7 f6 ⟨f5,hJ,rfl⟩
   simp
   simp [RetK,cut_self hcl]
   intro p hp
   obtain ⟨j,hj⟩:=List.getElem?_of_mem hp
   exact hJ j p (List.getElem?_eq_some_iff.1 hj).1 hj
end
end
end Go.Zam
namespace Go.Zam
open Classical
namespace Ty
theorem rt1:Rt (.mk 1 [] []):=rt_iff.2 ⟨by decide,by simp,by simp,by simp,by simp,fun i x y hx=>by simp at hx,by simp⟩
theorem rt2:Rt (.mk 2 [] []):=rt_iff.2 ⟨by decide,by simp,by simp,by simp,by simp,fun i x y hx=>by simp at hx,by simp⟩
theorem rt0:Rt (.mk 0 [] []):=rt_iff.2 ⟨by decide,by simp,by simp,by simp,by simp,fun i x y hx=>by simp at hx,by simp⟩
theorem rtOne {w:Str'} {p:Ty} (hw:isNameB w=true) (hp:p.Rt):Rt (.mk 3 [w] [p]) :=
 rt_iff.2 ⟨by decide,by simp,by simp,by simp,by simpa using hw,fun i x y hx hy=>by simp at hy,by simpa using hp⟩
theorem rtTwo {w w':Str'} {p p':Ty} (hw:isNameB w=true) (hw':isNameB w'=true) (hl:Op.bytesLess w w'=true) (hp:p.Rt) (hp':p'.Rt):Rt (.mk 3 [w,w'] [p,p']) :=
 rt_iff.2 ⟨by decide,by simp,by simp,by simp,by simpa using ⟨hw,hw'⟩,fun i x y hx hy=>by
  cases i with
  | zero=>simp at hx hy; subst hx; subst hy; exact hl
  | succ i=>simp at hy,by simpa using ⟨hp,hp'⟩⟩
theorem flB {a b:Str'} {p q:Ty}:Fl (.mk 3 [a,b] [p,q]) (.mk 3 [b] [.mk 0 [] []]) :=
 .rcd rfl rfl (fun j=>j+1) (fun j x h=>by
  cases j with
  | zero=>exact h
  | succ j=>cases h) (fun j p' q' h1 h2=>by
  cases j with
  | zero=>cases h2; exact .dynR rfl
  | succ j=>cases h2)
theorem flNo {a b:Str'} {p q:Ty} (h:a ≠ b):¬ Fl (.mk 3 [b] [q]) (.mk 3 [a] [p]):=fun hf=>by
 obtain ⟨-,g,-⟩:=hf.step (show (3:Int) ≠ 0 by decide) (show (3:Int) ≠ 0 by decide)
 obtain ⟨g,h1,-⟩:=g rfl
 have:=h1 0 a rfl
 have hm:a ∈ [b]:=List.mem_of_getElem? this
 simp at hm
 exact h hm
end Ty
theorem tI_fit:tI.Fit 1048576 := .mk _ _ _ _ _ (by simp) (by simp) (by simp) (by simp)
theorem tS_fit:tS.Fit 1048576 := .mk _ _ _ _ _ (by simp) (by simp) (by simp) (by simp)
theorem nil_fit:T.nil.Fit 1048576 := .mk _ _ _ _ _ (by simp) (by simp) (by simp) (by simp)
theorem one_fit {w:Str'} {v:T} (hw:w.length≤1048576) (hv:v.Fit 1048576):(T.new 3 [w] [v]).Fit 1048576 := .mk _ _ _ _ _ (by simp) (by simp) (by simpa using hw) (by simpa using hv)
theorem two_fit {w w':Str'} {v v':T} (hw:w.length≤1048576) (hw':w'.length≤1048576) (hv:v.Fit 1048576) (hv':v'.Fit 1048576):(T.new 3 [w,w'] [v,v']).Fit 1048576 := .mk _ _ _ _ _ (by simp) (by simp) (by simpa using ⟨hw,hw'⟩) (by simpa using ⟨hv,hv'⟩)
section
variable {P:Program} {t:Nat} {H0:Hp}
def AwakeT (P:Program) (H0:Hp) (f:FuncId):Prop:=∀ H,Pre0 H0 H→ACall P f [] H (fun r H'=>r = .d (.bool true)∧H'=H)
theorem Has.tAwake {f fp ff:FuncId} (h:Has P f (irTAwake fp ff t))
 (hp:∀ s,s.length≤1048576→∀ H,Pre0 H0 H→ACall P fp [.d (.str s)] H (fun r H'=>r = .tup [(typO s).1.a,.d (.int .i64 (typO s).2)]∧H'=H))
 (hF:∀ v w:T,v.Fit 1048576→w.Fit 1048576→v.st.Rt→w.st.Rt→FlowsT P ff v w):AwakeT P H0 f:=by
 intro H hH
 obtain ⟨fn,hf,hcf⟩:=h
 refine acall_fin hf hcf (by simp [irTAwake]) fun hcl _ => ?_
 have p1:=fun H hH=>hp sAB (by decide) H hH
 have p2:=fun H hH=>hp sB (by decide) H hH
 have p3:=fun H hH=>hp sC (by decide) H hH
 have p4:=fun H hH=>hp sD (by decide) H hH
 rw [typ_AB] at p1
 rw [typ_B] at p2
 rw [typ_C] at p3
 rw [typ_D] at p4
 simp only [sAB,sB,sC,sD] at p1 p2 p3 p4
 simp [irTAwake]
 refine CallK_of' (p1 _ hH) ?_
 simp [T.new,T.a_mk]
 refine CallK_of' (p2 _ (hH.app _)) ?_
 simp [T.new,T.nil,T.a_mk,T.enc_mk]
 refine CallK_of' (p3 _ (hH.app _)) ?_
 simp [T.new,tS,T.a_mk,T.enc_mk]
 refine CallK_of' (p4 _ (hH.app _)) ?_
 simp [T.new,tI,tS,T.nil,T.a_mk,T.enc_mk]
 have x1:=hF (T.new 3 [[97],[98]] [tI,tS]) (T.new 3 [[98]] [T.nil]) (two_fit (by decide) (by decide) tI_fit tS_fit) (one_fit (by decide) nil_fit)
  (by rw [T.st_new]; exact Ty.rtTwo (by decide) (by decide) (by decide) Ty.rt1 Ty.rt2) (by rw [T.st_new]; exact Ty.rtOne (by decide) Ty.rt0)
 have x2:=hF (T.new 3 [[98]] [tS]) (T.new 3 [[97]] [tI]) (one_fit (by decide) tS_fit) (one_fit (by decide) tI_fit)
  (by rw [T.st_new]; exact Ty.rtOne (by decide) Ty.rt2) (by rw [T.st_new]; exact Ty.rtOne (by decide) Ty.rt1)
 have y1:Ty.Fl (T.new 3 [[97],[98]] [tI,tS]).st (T.new 3 [[98]] [T.nil]).st:=by rw [T.st_new,T.st_new]; exact Ty.flB
 have y2:¬ Ty.Fl (T.new 3 [[98]] [tS]).st (T.new 3 [[97]] [tI]).st:=by rw [T.st_new,T.st_new]; exact Ty.flNo (by decide)
 unfold FlowsT at x1 x2
 simp only [y1,y2,decide_true,decide_false] at x1 x2
 simp only [T.new,tI,tS,T.nil,T.a_mk,T.enc_mk,List.map_cons,List.map_nil] at x1 x2
 refine CallK_of' (x1 _) ?_
 simp
 refine CallK_of' (x2 _) ?_
 simp
 simp [RetK,cut_appk hcl,cut_app hcl]
end
end Go.Zam
