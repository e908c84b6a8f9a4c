/-
  Texts of one proof, one behind the other.
-/
import Derived.Test.YtjcdfgakgipkoaaGreatDoorM5
import Derived.Test.YtjcdfgakgipkoaaGreatDoorM3
import Derived.Test.YtjcdfgakgipkoaaGreatDoorProg
import Derived.Test.YtjcdfgakgipkoaaGreatDoorM4
set_option linter.all false
set_option maxRecDepth 100000
set_option maxHeartbeats 4000000
namespace Go.Proofs
open Go.Shelf Go.RowKit
variable {P:Program} {ρ:Ren}
set_option maxHeartbeats 1000000 in
set_option maxRecDepth 100000 in
theorem copyFresh (L:Lays.n240 P ρ) (X:Builder.X72 P ρ) (b:Nat) (w:World) {e cells:Nat} (h0:w.cell? ⟨b,0,none⟩=some (.pointer none)) (hsh:w.shape? b=some (e,cells)) (hfz:w.frozen? ⟨b,0,none⟩=false) (h1:0 < cells)
 (hli:liesAt P P.depth e (cells / P.cellsOf e) 0 (ρ.t 72) 1=true) :
 Calls P (ρ.f 240) #[.pointer (some ⟨b,0,none⟩)] w fun e w'=>e = .returned (.tuple #[])∧w'=w.setCell ⟨b,0,none⟩ (.pointer (some ⟨b,0,none⟩)):=by
 obtain ⟨j,hj,hjs⟩:=Option.map_eq_some_iff.1 X.sizeBuilder
 have mixed:=L.mixed
 have t72:=L.t72; have a72:=L.a72; have z72:=L.z72; have v72:=L.v72; have u72:=run_underlying L.t72
 have t70:=L.t70; have a70:=L.a70; have z70:=L.z70; have v70:=L.v70; have u70:=run_underlying L.t70
 have t9:=L.t9; have a9:=L.a9; have z9:=L.z9; have v9:=L.v9; have u9:=run_underlying L.t9
 have t4:=L.t4; have a4:=L.a4; have z4:=L.z4; have v4:=L.v4; have u4:=run_underlying L.t4
 have t164:=L.t164; have a164:=L.a164; have z164:=L.z164; have v164:=L.v164; have u164:=run_underlying L.t164
 go_enter L.f240,Body.n240_ntmps ρ
 go_wp2
 rw [Lib.run_to_unsafe w ⟨b,0,none⟩ L.t70 L.t164 hj (by rw [hjs]; decide) hsh h1]
 simp only [Result.andThen]
 rw [Oper.upon_value]
 go_wp2
 rw [run_callFunc_extern L.f276 (by kernel_rfl) (by kernel_rfl) (by kernel_rfl) (e:=Extern.AbiNoEscape.same) (by kernel_rfl)]
 rw [Lib.run_noEscape]
 simp only [Result.andThen]
 rw [Oper.upon_value]
 go_wp2
 rw [Lib.run_from_unsafe w ⟨b,0,none⟩ L.t164 L.t70 hj hsh hli]
 simp only [Result.andThen]
 rw [Oper.upon_value]
 go_wp2
 go_end0
 exact ⟨rfl,rfl⟩
end Go.Proofs
namespace Go.Zam
open Go.RowKit Go.Proofs Go.Shelf
section
variable {P:Program} {ρ:Ren}
def CopyOk3 (P:Program) (cc:FuncId) (tp:TypeId):Prop:=∀ (H:Hp) (i:Nat) (x y a:A),H[i]?=some (.box tp [a,x,y])→(a = .d .nilp∨a = .ptr i 0)→ACall P cc [.ptr i 0] H (fun r H'=>r = .tup []∧H'=H.set i (.box tp [.ptr i 0,x,y]))
def StringOk3 (P:Program) (st:FuncId) (tp:TypeId):Prop:=∀ (H:Hp) (i t:Nat) (a y:A) (s:List UInt8),H[i]?=some (.box tp [a,.osl true 1 (byteRows s) t,y])→H[t]?=some (.tok s.length 1 5)→s.length≤140737488355328→ACall P st [.ptr i 0] H (fun r H'=>r = .d (.str s)∧H'=H)
theorem copy3 (L:Lays.n240 P ρ) (X:Builder.X72 P ρ) {tp:TypeId} (hli:liesAt P P.depth tp (3 / P.cellsOf tp) 0 (ρ.t 72) 1=true):CopyOk3 P (ρ.f 240) tp:=by
 intro H i x y a hi ha κ w vs hr hl hv
 match vs,hl with
 | [v],_ =>
 have hv0:=hv 0 v _ rfl rfl
 cases hv0 with
 | ptr _ _ b hb =>
 obtain ⟨b',hb',hsh,hc⟩:=hr.ob i _ hi
 have hbb:b'=b:=by rw [hb] at hb'; cases hb'; rfl
 subst hbb
 obtain ⟨u,hu1,hu2,hu3⟩:=hc 0 a rfl
 rcases ha with rfl | rfl
 · have hu:u = .pointer none:=by cases hu3 with | d h=>cases h; rfl
   subst hu
   refine (Go.Proofs.copyFresh L X b' w hu1 hsh hu2 (by simp) hli).mono fun e w' ⟨he,hw⟩ => ?_
   subst hw
   exact ⟨_,κ,.tup [],_,he,K.le_refl κ,hr.setBox (j:=0) hi hb (by simp) rfl (.ptr i 0 b' hb),.tup [] [] rfl (by simp),rfl,rfl⟩
 · have hu:u = .pointer (some ⟨b',0,none⟩):=by
    cases hu3 with | ptr _ _ b2 h2=>rw [hb] at h2; cases h2; rfl
   subst hu
   refine (Any.Builder_copyCheck_used L X b' w hu1).mono fun e w' ⟨he,hw⟩ => ?_
   subst hw
   refine ⟨_,κ,.tup [],H,he,K.le_refl κ,hr,.tup [] [] rfl (by simp),rfl,?_⟩
   refine List.ext_getElem? fun j => ?_
   by_cases hj:i=j
   · subst hj; rw [List.getElem?_set_self (List.getElem?_eq_some_iff.1 hi).1,hi]
   · rw [List.getElem?_set_ne hj]
theorem string3 (L:Lays.n169 P ρ) (X:Builder.Extra P ρ) {tp:TypeId} (h5 : ρ.t 5=5):StringOk3 P (ρ.f 169) tp:=by
 intro H i t a y s hi ht hlen κ w vs hr hl hv
 rw [← h5] at ht
 match vs,hl with
 | [v],_ =>
 have hv0:=hv 0 v _ rfl rfl
 cases hv0 with
 | ptr _ _ b hb =>
 obtain ⟨b',hb',hsh,hc⟩:=hr.ob i _ hi
 have hbb:b'=b:=by rw [hb] at hb'; cases hb'; rfl
 subst hbb
 obtain ⟨u,hu1,hu2,hu3⟩:=hc 1 _ rfl
 have hrl:(byteRows s).length=s.length:=by simp [byteRows]
 cases hu3 with
 | osl hd hf =>
 have hstr:∀ κ':K,VR κ' (.string ⟨s.toArray⟩) (.d (.str s)):=fun κ'=>by
  have:=DR.str (σ := κ'.σ) ⟨s.toArray⟩
  exact .d (by simpa using this)
 by_cases h0:s=[]
 · subst h0
   have hu:u = .slice none 0 0:=by
    rcases hd.sl_inv with ⟨h1,-⟩ | ⟨_,_,_,h1,-⟩ | ⟨_,_,_,_,_,h1,-⟩
    · exact h1
    · cases h1
    · exact absurd rfl (h1 rfl)
   subst hu
   refine (Builder_String_nil' L X b' w hu1).mono fun e w' ⟨he,hw⟩ => ?_
   subst hw
   exact ⟨_,κ,_,H,he,K.le_refl κ,hr.drew,hstr κ,rfl,rfl⟩
 · rcases hr.ob t _ ht with ⟨-,h1⟩ | ⟨g,e,c,cur,lo,hi',h1,h2,h3,h4⟩
   · exact absurd (List.eq_nil_of_length_eq_zero h1) h0
   rw [h1,hrl] at hf
   obtain ⟨-,hf⟩:=hf
   obtain ⟨o,cap,hu,hcap,he,hcc,ho⟩:=hf rfl
   subst ho; subst hu
   obtain ⟨-,f,-,-,-,hcs,hds⟩:=hd.sl_at
   refine (Builder_String_row L X b' g cap cur.size s w h0 hu1 hcap (by omega) (by simp [World.shape?,h2]) (by omega) (fun j x hx => ?_)).mono fun e' w' ⟨he',hw⟩ => ?_
   · have hrow:(byteRows s)[j]?=some [.int .u8 x.toNat]:=by simp [byteRows,hx]
     have h5:=hcs j 0 _ _ hrow rfl
     have h6:=hds j 0 _ _ hrow rfl
     have h7:=hr.st _ _ _ h5
     cases h7':f j 0<;>rw [h7'] at h6<;>cases h6
     rw [h7'] at h7
     simpa using h7
   · subst hw
     refine ⟨_,κ,_,H,he',K.le_refl κ,?_,hstr κ,rfl,rfl⟩
     exact hr.drew.freeze ht h1 (by omega) rfl rfl
theorem ACall.ghost {f:FuncId} {args:List A} {H:Hp} {b tp e:Nat} {a y:A} {Q:A→Hp→Prop} (hb:H[b]?=some (.box tp [a,.d (.sl true 1 []),y]))
 (h:ACall P f args (H.set b (.box tp [a,.osl true 1 [] H.length,y])++[Ob.tok 0 1 e]) Q):ACall P f args H Q:=by
 intro κ w vs hr hl hv
 obtain ⟨κ1,k1,k2,k3⟩:=hr.pushNil 1 e
 have hbl:=(List.getElem?_eq_some_iff.1 hb).1
 obtain ⟨b',hb',hsh,hc⟩:=k2.ob b _ (by rw [List.getElem?_append_left hbl]; exact hb)
 obtain ⟨u,hu1,hu2,hu3⟩:=hc 1 _ rfl
 have hu:u = .slice none 0 0:=by
  rcases hu3.d_inv.sl_inv with ⟨e1,-⟩ | ⟨_,_,_,e1,-⟩ | ⟨b,o,cap,f,e1,hz,-⟩
  · exact e1
  · cases e1
  · exact absurd rfl (hz rfl)
 subst hu
 have hset:HR κ1 (H.set b (.box tp [a,.osl true 1 [] H.length,y])++[Ob.tok 0 1 e]) w:=by
  have hne:∀ i,i ≠ b→(H.set b (.box tp [a,.osl true 1 [] H.length,y])++[Ob.tok 0 1 e])[i]?=(H++[Ob.tok 0 1 e])[i]?:=fun i hi=>by
   rw [← List.set_append_left b (Ob.box tp [a,.osl true 1 [] H.length,y]) hbl,List.getElem?_set_ne (Ne.symm hi)]
  have heq:(H.set b (.box tp [a,.osl true 1 [] H.length,y])++[Ob.tok 0 1 e])[b]?=some (.box tp [a,.osl true 1 [] H.length,y]):=by
   rw [← List.set_append_left b (Ob.box tp [a,.osl true 1 [] H.length,y]) hbl,List.getElem?_set_self (by simp; omega)]
  have hlen:(H.set b (.box tp [a,.osl true 1 [] H.length,y])++[Ob.tok 0 1 e]).length=(H++[Ob.tok 0 1 e]).length:=by simp
  refine ⟨k2.below,k2.st,fun i x hx => ?_,fun i hi=>k2.dom i (by rw [← hlen]; exact hi),k2.ex,k2.exσ,k2.exd,fun i x hx => ?_⟩
  · by_cases hi:i=b
    · subst hi
      rw [heq] at hx; cases hx
      refine ⟨b',hb',hsh,fun k z hz => ?_⟩
      match k,hz with
      | 0,hz=>exact hc 0 z hz
      | 1,hz=>cases hz; exact ⟨_,hu1,hu2,k3⟩
      | 2,hz=>exact hc 2 z hz
    · rw [hne i hi] at hx; exact k2.ob i x hx
  · by_cases hi:i=b
    · subst hi
      rw [heq] at hx; cases hx
      have:=k2.fl i _ (by rw [List.getElem?_append_left hbl]; exact hb)
      simpa [Ob.flat,A.flat] using this
    · rw [hne i hi] at hx; exact k2.fl i x hx
 refine (h κ1 w vs hset hl fun i v a hi ha=>(hv i v a hi ha).mono k1).mono ?_
 rintro e' w' ⟨v,κ',r,H',h1,h2,h3,h4,h5⟩
 exact ⟨v,κ',r,H',h1,k1.trans h2,h3,h4,h5⟩
end
end Go.Zam
namespace Go.Zam
section
open Go.Proofs
def irLyPrints (of7 awake print Right same6 tsame tn:Nat):IFn:=by
 have h:=Ix.J [] Tryz.f3 [(4,of7),(5,awake),(6,print),(7,Right),(8,same6),(9,tsame)] [(25,tn)];conv at h=>arg 1;reduce
 exact h.p
def irLyAwake (of print lex4 same8 tn:Nat):IFn:=by
 have h:=Ix.J [] Tryz.f5 [(12,of),(6,print),(10,lex4),(13,same8)] [(25,tn)];conv at h=>arg 1;reduce
 exact h.p
def irLyPrint (Right node str tn tp:Nat):IFn:=by
 have h:=Ix.J [] Tryz.f6 [(7,Right),(14,node),(15,str)] [(25,tn),(52,tp)];conv at h=>arg 1;reduce
 exact h.p
def irLyRight (depth right tn:Nat):IFn:=by
 have h:=Ix.J [] Tryz.f7 [(16,depth),(17,right)] [(25,tn)];conv at h=>arg 1;reduce
 exact h.p
def irLyTSame (eqf tsame tn:Nat):IFn:=by
 have h:=Ix.J [] Tryz.f9 [(18,eqf),(9,tsame)] [(25,tn)];conv at h=>arg 1;reduce
 exact h.p
def irLySame (comments:Nat):IFn:=by
 have h:=Ix.J [] Tryz.f13 [(26,comments)] [];conv at h=>arg 1;reduce
 exact h.p
def irLyNode (node wb ws closed typed block stmt expr tn:Nat):IFn:=by
 have h:=Ix.J [6000045,6000054,6000074,6000093,6000113] Tryz.f14 [(14,node),(27,wb),(28,ws),(29,closed),(30,typed),(31,block),(32,stmt),(33,expr)] [(25,tn)];conv at h=>arg 1;reduce
 exact h.p
def irLyR (worded right rclosed all rtyped rstmt rexpr rblock re tn:Nat):IFn:=by
 have h:=Ix.J [] Tryz.f17 [(34,worded),(17,right),(35,rclosed),(36,all),(37,rtyped),(38,rstmt),(39,rexpr),(40,rblock),(41,re)] [(25,tn)];conv at h=>arg 1;reduce
 exact h.p
def irLyEqf (tn:Nat):IFn:=by
 have h:=Ix.J [] Tryz.f18 [] [(25,tn)];conv at h=>arg 1;reduce
 exact h.p
def irLyClosed (list typed wb node:Nat):IFn:=by
 have h:=Ix.J [] Tryz.f29 [(56,list),(30,typed),(27,wb),(14,node)] [];conv at h=>arg 1;reduce
 exact h.p
def irLyTyped (ws node tn:Nat):IFn:=by
 have h:=Ix.J [] Tryz.f30 [(28,ws),(14,node)] [(25,tn)];conv at h=>arg 1;reduce
 exact h.p
def irLyBlock (wb line node tn:Nat):IFn:=by
 have h:=Ix.J [] Tryz.f31 [(27,wb),(57,line),(14,node)] [(25,tn)];conv at h=>arg 1;reduce
 exact h.p
def irLyStmt (ws node wb tn:Nat):IFn:=by
 have h:=Ix.J [] Tryz.f32 [(28,ws),(14,node),(27,wb)] [(25,tn)];conv at h=>arg 1;reduce
 exact h.p
def irLyExpr (two node ws list kind tn:Nat):IFn:=by
 have h:=Ix.J [6000053,6000074,6000095,6000014] Tryz.f33 [(58,two),(14,node),(28,ws),(56,list),(59,kind)] [(25,tn)];conv at h=>arg 1;reduce
 exact h.p
def irLyWorded (named one isname tn:Nat):IFn:=by
 have h:=Ix.J [] Tryz.f34 [(60,named),(61,one),(62,isname)] [(25,tn)];conv at h=>arg 1;reduce
 exact h.p
def irLyRClosed (right rtyped:Nat):IFn:=by
 have h:=Ix.J [] Tryz.f35 [(17,right),(37,rtyped)] [];conv at h=>arg 1;reduce
 exact h.p
def irLyAll (right tn:Nat):IFn:=by
 have h:=Ix.J [] Tryz.f36 [(17,right)] [(25,tn)];conv at h=>arg 1;reduce
 exact h.p
def irLyRTyped (istype right tn:Nat):IFn:=by
 have h:=Ix.J [] Tryz.f37 [(63,istype),(17,right)] [(25,tn)];conv at h=>arg 1;reduce
 exact h.p
def irLyRStmt (right tn:Nat):IFn:=by
 have h:=Ix.J [] Tryz.f38 [(17,right)] [(25,tn)];conv at h=>arg 1;reduce
 exact h.p
def irLyRExpr (isexpr height right tn:Nat):IFn:=by
 have h:=Ix.J [] Tryz.f39 [(64,isexpr),(65,height),(17,right)] [(25,tn)];conv at h=>arg 1;reduce
 exact h.p
def irLyRBlock (right tn:Nat):IFn:=by
 have h:=Ix.J [] Tryz.f40 [(17,right)] [(25,tn)];conv at h=>arg 1;reduce
 exact h.p
def irLyRE (rtwo rexpr all istype right tn:Nat):IFn:=by
 have h:=Ix.J [] Tryz.f41 [(66,rtwo),(39,rexpr),(36,all),(63,istype),(17,right)] [(25,tn)];conv at h=>arg 1;reduce
 exact h.p
def irLyList (ws node tn:Nat):IFn:=by
 have h:=Ix.J [] Tryz.f56 [(28,ws),(14,node)] [(25,tn)];conv at h=>arg 1;reduce
 exact h.p
def irLyLine (wb ws:Nat):IFn:=by
 have h:=Ix.J [] Tryz.f57 [(27,wb),(28,ws)] [];conv at h=>arg 1;reduce
 exact h.p
def irLyTwo (node ws:Nat):IFn:=by
 have h:=Ix.J [] Tryz.f58 [(14,node),(28,ws)] [];conv at h=>arg 1;reduce
 exact h.p
def irLyNamed :IFn:=by
 have h:=Ix.J [] Tryz.f60 [] [];conv at h=>arg 1;reduce
 exact h.p
def irLyOne (lex:Nat):IFn:=by
 have h:=Ix.J [] Tryz.f61 [(24,lex)] [];conv at h=>arg 1;reduce
 exact h.p
def irLyIsType (tn:Nat):IFn:=by
 have h:=Ix.J [] Tryz.f63 [] [(25,tn)];conv at h=>arg 1;reduce
 exact h.p
def irLyIsExpr (tn:Nat):IFn:=by
 have h:=Ix.J [] Tryz.f64 [] [(25,tn)];conv at h=>arg 1;reduce
 exact h.p
def irLyHeight (tn:Nat):IFn:=by
 have h:=Ix.J [] Tryz.f65 [] [(25,tn)];conv at h=>arg 1;reduce
 exact h.p
def irLyRTwo (rexpr:Nat):IFn:=by
 have h:=Ix.J [] Tryz.f66 [(39,rexpr)] [];conv at h=>arg 1;reduce
 exact h.p
def irLyComments (tS:Nat):IFn:=by
 have h:=Ix.J [3] Tryz.f26 [] [(9,tS)];conv at h=>arg 1;reduce
 exact h.p
end
abbrev Us:=List (Int × Bs)
def spU:Int × Bs:=(-1,[32])
def txU (us:Us):Bs:=us.flatMap (·.2)
def tkU (us:Us):Us:=us.filter fun u=>decide (u.1 ≠ -1)
theorem txU_nil:txU []=[]:=rfl
theorem txU_cons (u:Int × Bs) (r:Us):txU (u :: r)=u.2++txU r:=by simp [txU]
theorem txU_app (a b:Us):txU (a++b)=txU a++txU b:=by simp [txU]
theorem tkU_app (a b:Us):tkU (a++b)=tkU a++tkU b:=by simp [tkU]
def EndW (r:Bs):Prop:=r=[]∨∃ b t,r=b :: t∧wordB b=false∧b ≠ 61
structure Gd (k:Int) (x:Bs):Prop where
 k0:k ≠ 0∧k ≠ -1
 hd:∃ b u,x=b :: u∧blankB b=false∧hashB b=false
 tok:∀ r,EndW r→tokN (x++r)=(0,k,x.length)
 utf:Utf x
 len:x.length≤16384
def GdS (k:Int) (x:Bs):Prop:=∀ r,tokN (x++r)=(0,k,x.length)
def endB:Bs→Bool
 | []=>false
 | b :: _ => !wordB b && !decide (b=61)
def EndU:Us→Prop
 | []=>True
 | u :: _=>endB u.2=true
theorem EndU.app {a b:Us} (ha:EndU a) (hb:EndU b):EndU (a++b):=by
 cases a with
 | nil=>exact hb
 | cons u r=>exact ha
theorem EndU.tx {a:Us} (ha:EndU a):EndW (txU a):=by
 cases a with
 | nil=>exact .inl rfl
 | cons u r =>
   obtain ⟨k,x⟩:=u
   cases x with
   | nil=>simp [EndU,endB] at ha
   | cons b t =>
     simp [EndU,endB] at ha
     exact .inr ⟨b,t++txU r,by simp [txU],ha.1,ha.2⟩
def Fit:Us→Prop
 | []=>True
 | u :: r=>((u.1 = -1∧∀ c ∈ u.2,blankB c=true)∨(Gd u.1 u.2∧(EndU r∨GdS u.1 u.2)))∧Fit r
theorem Fit.app:∀ {a b:Us},Fit a→Fit b→EndU b→Fit (a++b)
 | [],b,_,hb,_=>hb
 | u :: r, b, ha, hb, he => by
   obtain ⟨h1,h2⟩:=ha
   refine ⟨?_,Fit.app h2 hb he⟩
   rcases h1 with h1 | ⟨h1,h3⟩
   · exact .inl h1
   · refine .inr ⟨h1,?_⟩
     rcases h3 with h3 | h3
     · exact .inl (h3.app he)
     · exact .inr h3
theorem lead_bl:∀ {lead:Bs},(∀ c ∈ lead,blankB c=true)→∀ r,leadS false (lead++r)=lead.length+leadS false r
 | [],_,r=>by simp
 | b :: l, h, r => by
   rw [List.cons_append,leadS,if_pos (h b (by simp)),lead_bl (fun c hc=>h c (by simp [hc]))]
   simp; omega
theorem toks_lead {lead x rest:Bs} {k:Int} {n:Nat} {l:List Tk} (hlead:∀ c ∈ lead,blankB c=true) {b:UInt8} {u:Bs} (hx:x=b :: u) (hb:blankB b=false) (hh:hashB b=false) (ht:tokN (x++rest)=(0,k,x.length))
 (hl:Toks rest (n+lead.length+x.length) l):∃ t,kx t=(k,x)∧t.l=lead∧Toks (lead++(x++rest)) n (t :: l):=by
 have hls:leadS false (lead++(x++rest))=lead.length:=by
  rw [lead_bl hlead,hx]
  simp [leadS,hb,hh]
 have hd:(lead++(x++rest)).drop (leadS false (lead++(x++rest)))=x++rest:=by rw [hls,List.drop_left]
 have hne:x++rest ≠ []:=by rw [hx]; simp
 have:=Toks.tok (s:=lead++(x++rest)) (n:=n) (l:=l) (by rw [hd,ht]) (by rw [hd]; exact hne) (by
  rw [hd,ht,hls]
  simp only
  rw [List.drop_left]
  exact hl)
 rw [hd,ht,hls] at this
 simp only at this
 refine ⟨_,?_,?_,this⟩
 · simp [kx]
 · simp
theorem Fit.toks:∀ {us:Us},Fit us→∀ (lead:Bs) (n:Nat),(∀ c ∈ lead,blankB c=true)→∃ l,Toks (lead++txU us) n l∧l.map kx=tkU us++[(0,[])]∧∀ t ∈ l,∀ c ∈ t.l,blankB c=true
 | [], _, lead, n, hb => by
   have hls:leadS false lead=lead.length:=by simpa [leadS] using lead_bl hb []
   have hd:lead.drop (leadS false lead)=[]:=by rw [hls]; simp
   have:=Toks.fin (s:=lead) (n:=n) (by rw [hd]; rfl) hd
   refine ⟨_,by simpa [txU] using this,rfl,fun t ht => ?_⟩
   rw [List.mem_singleton.1 ht,hls]
   simpa using hb
 | u :: r, ⟨h1, h2⟩, lead, n, hb => by
   rw [txU_cons]
   rcases h1 with ⟨h0,h1⟩ | ⟨h1,h3⟩
   · obtain ⟨l,t,e,e2⟩:=Fit.toks h2 (lead++u.2) n (fun c hc=>(List.mem_append.1 hc).elim (hb c) (h1 c))
     refine ⟨l,by simpa using t,?_,e2⟩
     rw [e]; simp [tkU,h0]
   · obtain ⟨l,t,e,e2⟩:=Fit.toks h2 [] (n+lead.length+u.2.length) (by simp)
     obtain ⟨b,w,hx,hb1,hb2⟩:=h1.hd
     have ht:tokN (u.2++txU r)=(0,u.1,u.2.length):=h3.elim (fun h=>h1.tok _ h.tx) (fun h=>h _)
     obtain ⟨t',g1,g3,g2⟩:=toks_lead hb hx hb1 hb2 ht (by simpa using t)
     refine ⟨t' :: l,g2,?_,fun q hq => ?_⟩
     rotate_left
     · rcases List.mem_cons.1 hq with rfl | hq
       · rw [g3]; exact hb
       · exact e2 q hq
     have:u.1 ≠ -1:=h1.k0.2
     simp [tkU,this,g1]
     simpa [tkU] using e
theorem blank_ascii {b:UInt8} (h:blankB b=true):b.toNat < 128:=by
 simp [blankB] at h
 omega
theorem Fit.utf:∀ {us:Us},Fit us→Utf (txU us)
 | [],_ => .nil
 | u :: r, ⟨h1, h2⟩ => by
   rw [txU_cons]
   refine Utf.app ?_ (Fit.utf h2)
   rcases h1 with ⟨_,h1⟩ | ⟨h1,_⟩
   · exact Utf.ascii fun c hc=>blank_ascii (h1 c hc)
   · exact h1.utf
theorem Fit.lex {us:Us} (h:Fit us) (hl:(txU us).length≤16384) (ht:(tkU us).length+1≤4000):(lexS (txU us)).2.1=0∧(lexS (txU us)).1.map kx=tkU us++[(0,[])]∧∀ t ∈ (lexS (txU us)).1,∀ c ∈ t.l,blankB c=true:=by
 obtain ⟨l,t,e,e2⟩:=h.toks [] 0 (by simp)
 rw [List.nil_append] at t
 obtain ⟨l1,l2⟩:=lexS_ok (txU us)
 have hlen:l.length=(tkU us).length+1:=by
  have:=congrArg List.length e
  simpa using this
 have h0:=l1.2 ⟨hl,h.utf,l,t,by omega⟩
 refine ⟨h0,?_⟩
 rw [(l2 h0).1.uniq t]
 exact ⟨e,e2⟩
theorem Utf.behind {a:Bs} (ha:Utf a):∀ {b:Bs},Utf (a++b)→Utf b:=by
 induction ha with
 | nil=>exact fun h=>h
 | @step s h hd hr ih =>
   intro b hb
   have hne:s++b ≠ []:=by simp [h]
   obtain ⟨-,h2⟩:=hb.inv hne
   have hloc:=(decU_loc h hd (s.drop (decU s).2++b)).1
   rw [← List.append_assoc,List.take_append_drop] at hloc
   rw [hloc] at h2
   have hle:=(decU_len h).2
   rw [List.drop_append_of_le_length hle] at h2
   exact ih h2
theorem Utf.split {a b:Bs} (h:Utf (a++b)) (hl:∀ x,a.getLast?=some x→x.toNat < 128):Utf a∧Utf b :=
 have h1:=Utf.ahead a.length (Nat.le_refl _) h hl
 ⟨h1,h1.behind h⟩
theorem lead_last:∀ (c:Bool) (s:Bs) (x:UInt8),s.drop (leadS c s) ≠ []→(s.take (leadS c s)).getLast?=some x→x.toNat < 128
 | c,[],x,h,_=>absurd (by simp) h
 | false, b :: r, x, h, hx => by
   rw [leadS] at h hx
   by_cases h1:blankB b=true
   · rw [if_pos h1] at h hx
     rw [List.drop_succ_cons] at h
     rw [List.take_succ_cons,List.getLast?_cons] at hx
     cases hT:(r.take (leadS false r)).getLast? with
     | none=>rw [hT] at hx; simp at hx; rw [← hx]; exact blank_ascii h1
     | some y=>rw [hT] at hx; simp at hx; rw [← hx]; exact lead_last false r y h hT
   rw [if_neg h1] at h hx
   by_cases h2:hashB b=true
   · rw [if_pos h2] at h hx
     rw [List.drop_succ_cons] at h
     rw [List.take_succ_cons,List.getLast?_cons] at hx
     cases hT:(r.take (leadS true r)).getLast? with
     | none =>
       rw [hT] at hx; simp at hx; rw [← hx]
       simp [hashB] at h2; omega
     | some y=>rw [hT] at hx; simp at hx; rw [← hx]; exact lead_last true r y h hT
   rw [if_neg h2] at hx
   simp at hx
 | true, b :: r, x, h, hx => by
   rw [leadS] at h hx
   by_cases h1:noNlB b=true
   · rw [if_pos h1] at h hx
     rw [List.drop_succ_cons] at h
     rw [List.take_succ_cons,List.getLast?_cons] at hx
     cases hT:(r.take (leadS true r)).getLast? with
     | none =>
       exfalso
       rw [List.getLast?_eq_none_iff] at hT
       cases r with
       | nil=>exact h (by simp)
       | cons y r =>
         rw [leadS] at hT
         split at hT<;>simp at hT
     | some y=>rw [hT] at hx; simp at hx; rw [← hx]; exact lead_last true r y h hT
   rw [if_neg h1] at h hx
   rw [List.drop_succ_cons] at h
   rw [List.take_succ_cons,List.getLast?_cons] at hx
   cases hT:(r.take (leadS false r)).getLast? with
   | none =>
     rw [hT] at hx; simp at hx; rw [← hx]
     simp [noNlB] at h1; omega
   | some y=>rw [hT] at hx; simp at hx; rw [← hx]; exact lead_last false r y h hT
theorem tok_kind {s:Bs} (hs:s ≠ []) (h0:(tokN s).1=0):(tokN s).2.1 ≠ 0∧(tokN s).2.1 ≠ -1:=by
 cases s with
 | nil=>exact absurd rfl hs
 | cons b r =>
   rw [tokN_cons] at h0 ⊢
   revert h0
   repeat' split
   all_goals simp
theorem Toks.gd {s:Bs} {n:Nat} {l:List Tk} (h:Toks s n l) (hu:Utf s) (hl:s.length≤16384):∀ t ∈ l,t.k ≠ 0→Gd t.k t.x:=by
 induction h with
 | fin h h0=>intro t ht hk; simp at ht; subst ht; exact absurd rfl hk
 | @tok s n l h h0 hr ih =>
   intro t ht hk
   have hlast:=lead_last false s
   have hu':Utf (s.drop (leadS false s)):=by
    have e:=List.take_append_drop (leadS false s) s
    rw [← e] at hu
    exact (hu.split fun x hx=>hlast x h0 hx).2
   have hlen:(s.drop (leadS false s)).length≤16384:=by simp only [List.length_drop]; omega
   obtain ⟨b,u,hbu⟩:∃ b u,s.drop (leadS false s)=b :: u:=by
    cases e:s.drop (leadS false s) with
    | nil=>exact absurd e h0
    | cons b u=>exact ⟨b,u,rfl⟩
   obtain ⟨g1,g2,-⟩:=lead_app false s hbu
   generalize s.drop (leadS false s)=w at *
   have hlast2:∀ x,(w.take (tokN w).2.2).getLast?=some x→x.toNat < 128:=fun x hx=>tok_last h0 h hx
   have e:=List.take_append_drop (tokN w).2.2 w
   have hu2:Utf (w.take (tokN w).2.2++w.drop (tokN w).2.2):=by rw [e]; exact hu'
   obtain ⟨hu3,hu4⟩:=hu2.split hlast2
   rcases List.mem_cons.1 ht with rfl | ht
   · have hm:=(tokN_len w).2.2.1 h h0
     have hml:=(tokN_len w).1
     have hxl:(w.take (tokN w).2.2).length=(tokN w).2.2:=by simp only [List.length_take]; omega
     refine ⟨tok_kind h0 h,?_,fun r hr => ?_,hu3,by simp only [hxl]; omega⟩
     · obtain ⟨q,hq⟩:∃ q,(tokN w).2.2=q+1:=⟨(tokN w).2.2 - 1,by omega⟩
       refine ⟨b,u.take q,?_,g1,g2⟩
       simp only
       rw [hq,hbu,List.take_succ_cons]
     · have:=tok_loc h0 h (r':=r) (by
        rcases hr with rfl | ⟨c,t,rfl,h1,h2⟩
        · exact .inl rfl
        · exact .inr ⟨c,t,rfl,.inr ⟨h1,h2⟩⟩)
       simp only [hxl]
       rw [this]
       rw [← h]
   · exact ih hu4 (by simp only [List.length_drop]; omega) t ht hk
def spc:Nat→Bs
 | 0=>[]
 | d+1=>spc d++[32,32]
def nlU (d:Nat):Int × Bs:=(-1,10 :: spc d)
def sepU:List Us→Us
 | []=>[]
 | [u]=>u
 | u :: r=>u++((5,[44]) :: spU :: sepU r)
def blkU (d:Nat) (l:List Us):Us:=(5,[123]) :: ((l.flatMap fun u=>nlU (d+1) :: u)++((if l=[] then [] else [nlU d])++[(5,[125])]))
def hgt (k:Int):Int:=if k=14∨k=15 then 3 else if k=16∨k=17 then 2 else if k=18 then 1 else 0
def Wn (w:Bs):Prop:=Gd 1 w∧isNameB w=true
inductive Cl where
 | file | item | params | param | typed | kind | tfield | block | stmt | expr | entry
deriving DecidableEq
def binT:List (Int × Bs × Int × Int):=[(14,[60],2,2),(15,[61,61],2,2),(16,[43],2,1),(17,[45],2,1),(18,[42],1,0)]
def wordT:List (Int × Bs):=[(24,kInput),(29,kInt),(30,kStr),(31,kDyn)]
def sayT:List (Int × Us):=[(11,[(2,kPrint),spU]),(12,[(2,kReturn),spU]),(13,[])]
inductive Tr:Cl→Nat→N→Us→Prop
 | file {d:Nat} {f t a:Int} {z:Bool} (ps:List (N × Us)) (h:∀ p ∈ ps,Tr .item d p.1 p.2):Tr .file d (.mk 1 f t [] a z (ps.map (·.1))) (ps.flatMap fun p=>p.2++[(-1,[10])])
 | use {d:Nat} {f t a f' t' a':Int} {z z':Bool} {w m:Bs} (hw:Wn w) (hm:Wn m):Tr .item d (.mk 2 f t w a z [.mk 23 f' t' m a' z' []]) [(2,kUse),spU,(1,m),(5,[46]),(1,w),(5,[59])]
 | defn {d:Nat} {f t a:Int} {z:Bool} {w:Bs} {p y b:N} {up uy ub:Us} (hw:Wn w) (hp:Tr .params d p up) (hy:Tr .typed d y uy) (hb:Tr .block d b ub):Tr .item d (.mk 3 f t w a z [p,y,b]) ((2,kDef) :: spU :: (1,w) :: (up++(uy++(spU :: ub))))
 | lambda {d:Nat} {f t a:Int} {z:Bool} {p y b:N} {up uy ub:Us} (hp:Tr .params d p up) (hy:Tr .typed d y uy) (hb:Tr .block d b ub):Tr .expr d (.mk 28 f t [] a z [p,y,b]) ((2,kFn) :: (up++(uy++(spU :: ub))))
 | params {d:Nat} {f t a:Int} {z:Bool} (ps:List (N × Us)) (h:∀ p ∈ ps,Tr .param d p.1 p.2):Tr .params d (.mk 4 f t [] a z (ps.map (·.1))) ((5,[40]) :: (sepU (ps.map (·.2))++[(5,[41])]))
 | param {d:Nat} {f t a:Int} {z:Bool} {w:Bs} {y:N} {uy:Us} (hw:Wn w) (hy:Tr .typed d y uy):Tr .param d (.mk 5 f t w a z [y]) ((1,w) :: uy)
 | none {d:Nat} {f t a:Int} {z:Bool}:Tr .typed d (.mk 0 f t [] a z []) []
 | some {d:Nat} {n:N} {us:Us} (h:Tr .kind d n us):Tr .typed d n ((5,[58]) :: spU :: us)
 | block {d:Nat} {f t a:Int} {z:Bool} (ps:List (N × Us)) (h:∀ p ∈ ps,Tr .stmt (d+1) p.1 p.2):Tr .block d (.mk 6 f t [] a z (ps.map (·.1))) (blkU d (ps.map (·.2)))
 | let_ {d:Nat} {f t a:Int} {z:Bool} {w:Bs} {y x:N} {uy ux:Us} (hw:Wn w) (hy:Tr .typed d y uy) (hx:Tr .expr d x ux):Tr .stmt d (.mk 7 f t w a z [y,x]) ((2,kLet) :: spU :: (1,w) :: (uy++(spU :: (5,[61]) :: spU :: (ux++[(5,[59])]))))
 | set {d:Nat} {f t a:Int} {z:Bool} {w:Bs} {x:N} {ux:Us} (hw:Wn w) (hx:Tr .expr d x ux):Tr .stmt d (.mk 8 f t w a z [x]) ((1,w) :: spU :: (5,[61]) :: spU :: (ux++[(5,[59])]))
 | if0 {d:Nat} {f t a f' t' a':Int} {z z':Bool} {c b:N} {uc ub:Us} (hc:Tr .expr d c uc) (hb:Tr .block d b ub):Tr .stmt d (.mk 9 f t [] a z [c,b,.mk 0 f' t' [] a' z' []]) ((2,kIf) :: spU :: (uc++(spU :: ub)))
 | if1 {d:Nat} {f t a:Int} {z:Bool} {c b o:N} {uc ub uo:Us} (hc:Tr .expr d c uc) (hb:Tr .block d b ub) (ho:Tr .block d o uo):Tr .stmt d (.mk 9 f t [] a z [c,b,o]) ((2,kIf) :: spU :: (uc++(spU :: (ub++(spU :: (2,kElse) :: spU :: uo)))))
 | while_ {d:Nat} {f t a:Int} {z:Bool} {c b:N} {uc ub:Us} (hc:Tr .expr d c uc) (hb:Tr .block d b ub):Tr .stmt d (.mk 10 f t [] a z [c,b]) ((2,kWhile) :: spU :: (uc++(spU :: ub)))
 | say {d:Nat} {k f t a:Int} {z:Bool} {x:N} {u ux:Us} (hk:(k,u) ∈ sayT) (hx:Tr .expr d x ux):Tr .stmt d (.mk k f t [] a z [x]) (u++(ux++[(5,[59])]))
 | bin {d:Nat} {k f t a p q:Int} {z:Bool} {x y:N} {ux uy:Us} {sg:Bs} (hk:(k,sg,p,q) ∈ binT) (hx:Tr .expr d x ux) (hy:Tr .expr d y uy) (hp:hgt x.k≤p) (hq:hgt y.k≤q):Tr .expr d (.mk k f t [] a z [x,y]) (ux++(spU :: (5,sg) :: spU :: uy))
 | field {d:Nat} {f t a:Int} {z:Bool} {w:Bs} {x:N} {ux:Us} (hw:Wn w) (hx:Tr .expr d x ux) (hp:hgt x.k≤0):Tr .expr d (.mk 19 f t w a z [x]) (ux++[(5,[46]),(1,w)])
 | call {d:Nat} {f t a:Int} {z:Bool} {x:N} {ux:Us} (ps:List (N × Us)) (hx:Tr .expr d x ux) (hp:hgt x.k≤0) (h:∀ p ∈ ps,Tr .expr d p.1 p.2):Tr .expr d (.mk 20 f t [] a z (x :: ps.map (·.1))) (ux++((5,[40]) :: (sepU (ps.map (·.2))++[(5,[41])])))
 | num {d:Nat} {f t a:Int} {z:Bool} {w:Bs} (hw:Gd 3 w):Tr .expr d (.mk 21 f t w a z []) [(3,w)]
 | str {d:Nat} {f t a:Int} {z:Bool} {w:Bs} (hw:Gd 4 w):Tr .expr d (.mk 22 f t w a z []) [(4,w)]
 | name {d:Nat} {f t a:Int} {z:Bool} {w:Bs} (hw:Wn w):Tr .expr d (.mk 23 f t w a z []) [(1,w)]
 | input {d:Nat} {f t a:Int} {z:Bool}:Tr .expr d (.mk 24 f t [] a z []) [(2,kInput)]
 | group {d:Nat} {f t a:Int} {z:Bool} {x:N} {ux:Us} (hx:Tr .expr d x ux):Tr .expr d (.mk 25 f t [] a z [x]) ((5,[40]) :: (ux++[(5,[41])]))
 | record {d:Nat} {f t a:Int} {z:Bool} (ps:List (N × Us)) (h:∀ p ∈ ps,Tr .entry d p.1 p.2):Tr .expr d (.mk 26 f t [] a z (ps.map (·.1))) ((5,[123]) :: (sepU (ps.map (·.2))++[(5,[125])]))
 | entry {d:Nat} {f t a:Int} {z:Bool} {w:Bs} {x:N} {ux:Us} (hw:Wn w) (hx:Tr .expr d x ux):Tr .entry d (.mk 27 f t w a z [x]) ((1,w) :: (5,[58]) :: spU :: ux)
 | word {d:Nat} {k f t a:Int} {z:Bool} {w:Bs} (hk:(k,w) ∈ wordT) (h24:k ≠ 24):Tr .kind d (.mk k f t [] a z []) [(2,w)]
 | trec {d:Nat} {f t a:Int} {z:Bool} (ps:List (N × Us)) (h:∀ p ∈ ps,Tr .tfield d p.1 p.2):Tr .kind d (.mk 32 f t [] a z (ps.map (·.1))) ((5,[123]) :: (sepU (ps.map (·.2))++[(5,[125])]))
 | tfield {d:Nat} {f t a:Int} {z:Bool} {w:Bs} {x:N} {ux:Us} (hw:Wn w) (hx:Tr .kind d x ux):Tr .tfield d (.mk 33 f t w a z [x]) ((1,w) :: (5,[58]) :: spU :: ux)
 | tfn {d:Nat} {f t a:Int} {z:Bool} {y:N} {uy:Us} (ps:List (N × Us)) (h:∀ p ∈ ps,Tr .kind d p.1 p.2) (hy:Tr .kind d y uy):Tr .kind d (.mk 34 f t [] a z (ps.map (·.1)++[y])) ((2,kFn) :: (5,[40]) :: (sepU (ps.map (·.2))++((5,[41]) :: (5,[58]) :: spU :: uy)))
theorem runN_wordE {w rest:Bs} (hw:∀ c ∈ w,wordB c=true) (he:EndW rest):runN wordB (w++rest)=w.length:=by
 unfold runN
 rw [List.takeWhile_append_of_pos hw]
 rcases he with rfl | ⟨b,t,rfl,hb,-⟩
 · simp
 · simp [hb]
theorem key_gd:∀ w ∈ keysL,Gd 2 w:=by
 intro w hw
 have hall:∀ w ∈ keysL,(∀ c ∈ w,wordB c=true)∧w.length≤40∧letterB (w.headD 0)=true∧w ≠ []:=by decide
 obtain ⟨h1,h2,h3,h4⟩:=hall w hw
 cases w with
 | nil=>exact absurd rfl h4
 | cons b u =>
 have hb:letterB b=true:=h3
 obtain ⟨n1,n2,-,-⟩:=letter_ne hb
 refine ⟨by decide,⟨b,u,rfl,n1,n2⟩,fun r hr => ?_,Utf.ascii fun c hc=>word_ascii (h1 c hc),by omega⟩
 have hrn:=runN_wordE h1 hr
 rw [List.cons_append] at hrn ⊢
 rw [tokN,hrn,if_pos hb]
 have hw':(b :: (u++r)).take (b :: u).length=b :: u:=by rw [← List.cons_append,List.take_left]
 rw [hw',if_pos hw]
def signsS:Bs:=[40,41,123,125,44,59,58,46,43,45,42,60]
theorem sign_gs (b:UInt8) (h:b ∈ signsS):GdS 5 [b]:=by
 have hall:∀ b ∈ signsS,letterB b=false∧digitB b=false∧b ≠ 34∧b ≠ 61∧b ∈ ([40,41,123,125,44,59,58,46,61,43,45,42,60]:List UInt8):=by decide
 obtain ⟨h1,h2,h3,h4,h5⟩:=hall b h
 intro rest
 have hs:signV (b :: rest)=[b]:=by
  cases rest with
  | nil=>rw [signV_1,if_pos h5]
  | cons c r=>rw [signV_cc,if_neg (fun e=>h4 e.1),if_pos h5]
 show tokN (b :: rest)=_
 rw [tokN,if_neg (by simp [h1]),if_neg (by simp [h2]),if_neg h3,hs,if_neg (by simp)]
theorem sign_gd (b:UInt8) (h:b ∈ signsS):Gd 5 [b]:=by
 have hall:∀ b ∈ signsS,blankB b=false∧hashB b=false∧b.toNat < 128:=by decide
 obtain ⟨h1,h2,h3⟩:=hall b h
 exact ⟨by decide,⟨b,[],rfl,h1,h2⟩,fun r _=>sign_gs b h r,Utf.ascii fun c hc=>by rw [List.mem_singleton.1 hc]; exact h3,by simp⟩
theorem is_gd:Gd 5 [61]:=by
 refine ⟨by decide,⟨61,[],rfl,by decide,by decide⟩,fun r hr => ?_,Utf.ascii (by decide),by simp⟩
 have hs:signV (61 :: r)=[61]:=by
  rcases hr with rfl | ⟨b,t,rfl,h1,h2⟩
  · rw [signV_1,if_pos (by decide)]
  · rw [signV_cc,if_neg (fun e=>h2 e.2),if_pos (by decide)]
 show tokN (61 :: r)=_
 rw [tokN,if_neg (by decide),if_neg (by decide),if_neg (by decide),hs,if_neg (by simp)]
theorem eq_gd:Gd 5 [61,61]:=by
 refine ⟨by decide,⟨61,[61],rfl,by decide,by decide⟩,fun r hr => ?_,Utf.ascii (by decide),by simp⟩
 have hs:signV (61 :: 61 :: r)=[61,61]:=by rw [signV_cc,if_pos ⟨rfl,rfl⟩]
 show tokN (61 :: 61 :: r)=_
 rw [tokN,if_neg (by decide),if_neg (by decide),if_neg (by decide),hs,if_neg (by simp)]
theorem Fit.tok {k:Int} {x:Bs} {r:Us} (h:Gd k x) (he:EndU r) (hr:Fit r):Fit ((k,x) :: r):=⟨.inr ⟨h,.inl he⟩,hr⟩
theorem Fit.sg {b:UInt8} {r:Us} (h:b ∈ signsS) (hr:Fit r):Fit ((5,[b]) :: r):=⟨.inr ⟨sign_gd b h,.inr (sign_gs b h)⟩,hr⟩
theorem Fit.sp {r:Us} (hr:Fit r):Fit (spU :: r):=⟨.inl ⟨rfl,by decide⟩,hr⟩
theorem spc_blank:∀ d,∀ c ∈ spc d,blankB c=true
 | 0=>by simp [spc]
 | d + 1 => fun c hc => by
   rw [spc] at hc
   rcases List.mem_append.1 hc with hc | hc
   · exact spc_blank d c hc
   · have:c=32:=by simpa using hc
     subst this; decide
theorem Fit.nl {d:Nat} {r:Us} (hr:Fit r):Fit (nlU d :: r):=⟨.inl ⟨rfl,fun c hc=>by
 rcases List.mem_cons.1 hc with rfl | hc
 · decide
 · exact spc_blank d c hc⟩,hr⟩
theorem Fit.key {x:Bs} {r:Us} (h:x ∈ keysL) (he:EndU r) (hr:Fit r):Fit ((2,x) :: r):=Fit.tok (key_gd x h) he hr
theorem endU_sp {r:Us}:EndU (spU :: r):=by show endB [32]=true; decide
theorem endU_nl {d:Nat} {r:Us}:EndU (nlU d :: r):=by show endB (10 :: spc d)=true; rfl
theorem endU_sg {k:Int} {b:UInt8} {r:Us} (h:b ∈ signsS):EndU ((k,[b]) :: r):=by
 show endB [b]=true
 revert b; decide
theorem sepU_fit:∀ {l:List Us} {r:Us},(∀ u ∈ l,Fit u)→Fit r→EndU r→Fit (sepU l++r)
 | [],r,_,hr,_=>hr
 | [u],r,h,hr,he=>Fit.app (h u (by simp)) hr he
 | u :: v :: l, r, h, hr, he => by
   have:=sepU_fit (l:=v :: l) (fun u hu=>h u (by simp [hu])) hr he
   rw [sepU,List.append_assoc,List.cons_append,List.cons_append]
   · exact Fit.app (h u (by simp)) (Fit.sg (by decide) (Fit.sp this)) (endU_sg (by decide))
   · simp
theorem nls_fit {d:Nat}:∀ {l:List Us} {r:Us},(∀ u ∈ l,Fit u)→Fit r→EndU r→Fit ((l.flatMap fun u=>nlU d :: u)++r)∧EndU ((l.flatMap fun u=>nlU d :: u)++r)
 | [],r,_,hr,he=>⟨hr,he⟩
 | u :: l, r, h, hr, he => by
   have:=nls_fit (d:=d) (l:=l) (fun u hu=>h u (by simp [hu])) hr he
   rw [List.flatMap_cons,List.append_assoc,List.cons_append]
   exact ⟨Fit.nl (Fit.app (h u (by simp)) this.1 this.2),endU_nl⟩
theorem blkU_fit {d:Nat} {l:List Us} (h:∀ u ∈ l,Fit u):Fit (blkU d l):=by
 refine Fit.sg (by decide) (nls_fit h ?_ ?_).1
 · split
   · exact Fit.sg (by decide) trivial
   · exact Fit.nl (Fit.sg (by decide) trivial)
 · split
   · exact endU_sg (by decide)
   · exact endU_nl
theorem Tr.fit {c:Cl} {d:Nat} {n:N} {us:Us} (h:Tr c d n us):Fit us∧(c = .params∨c = .typed→EndU us):=by
 induction h with
 | @file d f t a z ps h ih =>
   refine ⟨?_,by simp⟩
   clear h
   induction ps with
   | nil=>trivial
   | cons p r ihr =>
     rw [List.flatMap_cons,List.append_assoc]
     have hr:=ihr fun p hp=>ih p (by simp [hp])
     refine Fit.app (ih p (by simp)).1 ⟨.inl ⟨rfl,by decide⟩,hr⟩ ?_
     show endB [10]=true
     decide
 | use hw hm=>exact ⟨Fit.key (by decide) endU_sp (Fit.sp (Fit.tok hm.1 (endU_sg (by decide)) (Fit.sg (by decide) (Fit.tok hw.1 (endU_sg (by decide)) (Fit.sg (by decide) trivial))))),by simp⟩
 | @defn d f t a z w p y b up uy ub hw hp hy hb ip iy ib =>
   have h3:=Fit.app iy.1 (Fit.sp ib.1) endU_sp
   have e3:EndU (uy++(spU :: ub)):=EndU.app (iy.2 (.inr rfl)) endU_sp
   exact ⟨Fit.key (by decide) endU_sp (Fit.sp (Fit.tok hw.1 (EndU.app (ip.2 (.inl rfl)) e3) (Fit.app ip.1 h3 e3))),by simp⟩
 | @lambda d f t a z p y b up uy ub hp hy hb ip iy ib =>
   have h3:=Fit.app iy.1 (Fit.sp ib.1) endU_sp
   have e3:EndU (uy++(spU :: ub)):=EndU.app (iy.2 (.inr rfl)) endU_sp
   exact ⟨Fit.key (by decide) (EndU.app (ip.2 (.inl rfl)) e3) (Fit.app ip.1 h3 e3),by simp⟩
 | params ps h ih =>
   exact ⟨Fit.sg (by decide) (sepU_fit (fun u hu=>by obtain ⟨p,hp,rfl⟩:=List.mem_map.1 hu; exact (ih p hp).1) (Fit.sg (by decide) trivial) (endU_sg (by decide))),fun _=>endU_sg (by decide)⟩
 | param hw hy iy=>exact ⟨Fit.tok hw.1 (iy.2 (.inr rfl)) iy.1,by simp⟩
 | none=>exact ⟨trivial,fun _=>trivial⟩
 | some h ih=>exact ⟨Fit.sg (by decide) (Fit.sp ih.1),fun _=>endU_sg (by decide)⟩
 | block ps h ih=>exact ⟨blkU_fit fun u hu=>by obtain ⟨p,hp,rfl⟩:=List.mem_map.1 hu; exact (ih p hp).1,by simp⟩
 | let_ hw hy hx iy ix =>
   have h1:=Fit.app ix.1 (Fit.sg (b:=59) (by decide) (r:=[]) trivial) (endU_sg (by decide))
   exact ⟨Fit.key (by decide) endU_sp (Fit.sp (Fit.tok hw.1 (EndU.app (iy.2 (.inr rfl)) endU_sp) (Fit.app iy.1 (Fit.sp (Fit.tok is_gd endU_sp (Fit.sp h1))) endU_sp))),by simp⟩
 | set hw hx ix =>
   have h1:=Fit.app ix.1 (Fit.sg (b:=59) (by decide) (r:=[]) trivial) (endU_sg (by decide))
   exact ⟨Fit.tok hw.1 endU_sp (Fit.sp (Fit.tok is_gd endU_sp (Fit.sp h1))),by simp⟩
 | if0 hc hb ic ib=>exact ⟨Fit.key (by decide) endU_sp (Fit.sp (Fit.app ic.1 (Fit.sp ib.1) endU_sp)),by simp⟩
 | if1 hc hb ho ic ib io=>exact ⟨Fit.key (by decide) endU_sp (Fit.sp (Fit.app ic.1 (Fit.sp (Fit.app ib.1 (Fit.sp (Fit.key (by decide) endU_sp (Fit.sp io.1))) endU_sp)) endU_sp)),by simp⟩
 | while_ hc hb ic ib=>exact ⟨Fit.key (by decide) endU_sp (Fit.sp (Fit.app ic.1 (Fit.sp ib.1) endU_sp)),by simp⟩
 | say hk hx ix =>
   have h1:=Fit.app ix.1 (Fit.sg (b:=59) (by decide) (r:=[]) trivial) (endU_sg (by decide))
   refine ⟨?_,by simp⟩
   simp only [sayT,List.mem_cons,Prod.mk.injEq,List.not_mem_nil,or_false] at hk
   rcases hk with ⟨-,rfl⟩ | ⟨-,rfl⟩ | ⟨-,rfl⟩
   · exact Fit.key (by decide) endU_sp (Fit.sp h1)
   · exact Fit.key (by decide) endU_sp (Fit.sp h1)
   · exact h1
 | bin hk hx hy hp hq ix iy =>
   refine ⟨Fit.app ix.1 (Fit.sp ?_) endU_sp,by simp⟩
   simp only [binT,List.mem_cons,Prod.mk.injEq,List.not_mem_nil,or_false] at hk
   rcases hk with ⟨-,rfl,-⟩ | ⟨-,rfl,-⟩ | ⟨-,rfl,-⟩ | ⟨-,rfl,-⟩ | ⟨-,rfl,-⟩
   · exact Fit.sg (by decide) (Fit.sp iy.1)
   · exact Fit.tok eq_gd endU_sp (Fit.sp iy.1)
   · exact Fit.sg (by decide) (Fit.sp iy.1)
   · exact Fit.sg (by decide) (Fit.sp iy.1)
   · exact Fit.sg (by decide) (Fit.sp iy.1)
 | field hw hx hp ix=>exact ⟨Fit.app ix.1 (Fit.sg (by decide) (Fit.tok hw.1 trivial trivial)) (endU_sg (by decide)),by simp⟩
 | call ps hx hp h ix ih =>
   exact ⟨Fit.app ix.1 (Fit.sg (by decide) (sepU_fit (fun u hu=>by obtain ⟨p,hp,rfl⟩:=List.mem_map.1 hu; exact (ih p hp).1) (Fit.sg (by decide) trivial) (endU_sg (by decide)))) (endU_sg (by decide)),by simp⟩
 | num hw=>exact ⟨Fit.tok hw trivial trivial,by simp⟩
 | str hw=>exact ⟨Fit.tok hw trivial trivial,by simp⟩
 | name hw=>exact ⟨Fit.tok hw.1 trivial trivial,by simp⟩
 | input=>exact ⟨Fit.key (by decide) trivial trivial,by simp⟩
 | group hx ix=>exact ⟨Fit.sg (by decide) (Fit.app ix.1 (Fit.sg (by decide) trivial) (endU_sg (by decide))),by simp⟩
 | record ps h ih =>
   exact ⟨Fit.sg (by decide) (sepU_fit (fun u hu=>by obtain ⟨p,hp,rfl⟩:=List.mem_map.1 hu; exact (ih p hp).1) (Fit.sg (by decide) trivial) (endU_sg (by decide))),by simp⟩
 | entry hw hx ix=>exact ⟨Fit.tok hw.1 (endU_sg (by decide)) (Fit.sg (by decide) (Fit.sp ix.1)),by simp⟩
 | word hk h24 =>
   refine ⟨?_,by simp⟩
   simp only [wordT,List.mem_cons,Prod.mk.injEq,List.not_mem_nil,or_false] at hk
   rcases hk with ⟨-,rfl⟩ | ⟨-,rfl⟩ | ⟨-,rfl⟩ | ⟨-,rfl⟩
   all_goals exact Fit.key (by decide) trivial trivial
 | trec ps h ih =>
   exact ⟨Fit.sg (by decide) (sepU_fit (fun u hu=>by obtain ⟨p,hp,rfl⟩:=List.mem_map.1 hu; exact (ih p hp).1) (Fit.sg (by decide) trivial) (endU_sg (by decide))),by simp⟩
 | tfield hw hx ix=>exact ⟨Fit.tok hw.1 (endU_sg (by decide)) (Fit.sg (by decide) (Fit.sp ix.1)),by simp⟩
 | tfn ps h hy ih iy =>
   exact ⟨Fit.key (by decide) (endU_sg (by decide)) (Fit.sg (by decide) (sepU_fit (fun u hu=>by obtain ⟨p,hp,rfl⟩:=List.mem_map.1 hu; exact (ih p hp).1) (Fit.sg (by decide) (Fit.sg (by decide) (Fit.sp iy.1))) (endU_sg (by decide)))),by simp⟩
section
def ApR (P:N→Nat→Prop):PR→Prop
 | .ok m j=>P m j
 | _=>True
def G.one:G→Bool
 | .param | .tfield | .kind | .expr | .entry=>true
 | _=>false
section
variable {L:List Tk} {P:N→Nat→Prop}
end
end
section
def DL (L:List Tk) (i:Nat):Us:=(L.map kx).drop i
def Rr (L:List Tk) (c:Cl) (i:Nat) (m:N) (j:Nat):Prop:=∀ d,∃ us,Tr c d m us∧DL L i=tkU us++DL L j
def Re (L:List Tk) (q:Int) (i:Nat) (m:N) (j:Nat):Prop:=hgt m.k≤q∧Rr L .expr i m j
def G.cl:G→Cl
 | .param => .param | .tfield => .tfield | .kind => .kind | .entry => .entry
 | _ => .expr
def TrP (L:List Tk) (i:Nat):G→N→Nat→Prop
 | .use,m,j | .defn,m,j=>Rr L .item i m j
 | .params,m,j=>Rr L .params i m j
 | .param,m,j=>Rr L .param i m j
 | .typed,m,j=>Rr L .typed i m j
 | .kind,m,j=>Rr L .kind i m j
 | .tfield,m,j=>Rr L .tfield i m j
 | .block,m,j=>Rr L .block i m j
 | .stmt,m,j=>Rr L .stmt i m j
 | .entry,m,j=>Rr L .entry i m j
 | .expr,m,j=>Re L 3 i m j
 | .sum,m,j=>Re L 2 i m j
 | .term,m,j=>Re L 1 i m j
 | .post,m,j | .atom,m,j=>Re L 0 i m j
 | .sumL a,m,j=>∀ i0,Re L 2 i0 a i→Re L 2 i0 m j
 | .termL a,m,j=>∀ i0,Re L 1 i0 a i→Re L 1 i0 m j
 | .postL a,m,j=>∀ i0,Re L 0 i0 a i→Re L 0 i0 m j
 | .list o e,m,j=>∀ d,∃ ps:List (N × Us),m.ks=ps.map (·.1)∧(∀ p ∈ ps,Tr o.cl d p.1 p.2)∧DL L i=tkU (sepU (ps.map (·.2)))++(5,e) :: DL L j
 | .listL o e ks,m,j=>∀ d,∃ ps:List (N × Us),m.ks=ks++ps.map (·.1)∧ps ≠ []∧(∀ p ∈ ps,Tr o.cl d p.1 p.2)∧DL L i=tkU (sepU (ps.map (·.2)))++(5,e) :: DL L j
 | .stmts ks,m,j=>∀ d,∃ ps:List (N × Us),m.ks=ks++ps.map (·.1)∧(∀ p ∈ ps,Tr .stmt d p.1 p.2)∧DL L i=(ps.flatMap fun p=>tkU p.2)++(5,[125]) :: DL L j
 | .file ks,m,j=>kdT L j=0∧∀ d,∃ ps:List (N × Us),m=N.new 1 0 j [] 0 (ks++ps.map (·.1))∧(∀ p ∈ ps,Tr .item d p.1 p.2)∧DL L i=(ps.flatMap fun p=>tkU p.2)++DL L j
def G.flt:G→Prop
 | .list o e | .listL o e _=>o.one=true∧(e=[41]∨e=[125])
 | _=>True
theorem TrP.one {L:List Tk} {o:G} (h:o.one=true) {i:Nat} {m:N} {j:Nat} (hp:TrP L i o m j):Rr L o.cl i m j:=by
 cases o<;>simp [G.one] at h
 case expr=>exact hp.2
 all_goals exact hp
theorem G.one_flt {o:G} (h:o.one=true):o.flt:=by cases o<;>simp [G.one] at h<;>trivial
section
variable {L:List Tk} {P:N→Nat→Prop}
theorem Q.want {k:Nat} {x:Bs} {h:Nat→PR} (hh:isT L k x=true→ApR P (h (k+1))):ApR P (wantR L k x h):=by
 unfold wantR
 split
 · rename_i e; exact hh e
 · trivial
theorem Q.word {k:Nat} {h:Bs→Nat→PR} (hh:kdT L k=1→ApR P (h (txT L k) (k+1))):ApR P (wordR L k h):=by
 unfold wordR
 split
 · rename_i e; exact hh e
 · trivial
theorem Q.ite {c:Prop} [Decidable c] {a b:PR} (ha:c→ApR P a) (hb:¬ c→ApR P b):ApR P (if c then a else b):=by
 split
 · rename_i e; exact ha e
 · rename_i e; exact hb e
theorem Q.last {n:Nat} (ih:∀ g i,g.flt→ApR (TrP L i g) (pp L n g i)) {g:G} {k:Nat} (hg:g.flt) (hh:∀ m j,TrP L k g m j→P m j):ApR P (pp L n g k):=by
 have h1:=ih g k hg
 generalize pp L n g k=r at h1
 cases r with
 | out=>trivial
 | bad j=>trivial
 | ok m j=>exact hh _ j h1
theorem Q.thenG {n:Nat} (ih:∀ g i,g.flt→ApR (TrP L i g) (pp L n g i)) {g:G} {k:Nat} {h:N→Nat→PR} (hg:g.flt) (hh:∀ m j,TrP L k g m j→ApR P (h m j)):ApR P ((pp L n g k).then h):=by
 have h1:=ih g k hg
 generalize pp L n g k=r at h1
 cases r with
 | out=>trivial
 | bad j=>trivial
 | ok m j=>exact hh m j h1
theorem Q.ok {m:N} {j:Nat} (h:P m j):ApR P (.ok m j):=h
theorem DL_succ {i:Nat} {t:Tk} (h:L[i]?=some t):DL L i=kx t :: DL L (i+1):=by
 unfold DL
 rw [List.drop_eq_getElem_cons (by simpa using (List.getElem?_eq_some_iff.1 h).1)]
 simp [(List.getElem?_eq_some_iff.1 h).2]
def Good (L:List Tk):Prop:=∀ t ∈ L,(t.k ≠ 0→Gd t.k t.x)∧(t.k=1→isNameB t.x=true)
theorem isT_D (hG:Good L) {i:Nat} {x:Bs} (h:isT L i x=true):DL L i=((tokN x).2.1,x) :: DL L (i+1):=by
 unfold isT at h
 cases hg:L[i]? with
 | none=>rw [hg] at h; cases h
 | some t =>
   rw [hg] at h
   simp at h
   rw [DL_succ hg]
   obtain ⟨h1,h2⟩:=h
   have hgd:=(hG t (List.mem_of_getElem? hg)).1 (by rcases h1 with h1 | h1<;>omega)
   have:=hgd.tok [] (.inl rfl)
   rw [List.append_nil] at this
   simp only [kx]
   rw [← h2,this]
theorem kdT_D (hG:Good L) {i:Nat} {k:Int} (h:kdT L i=k) (hk:k ≠ 0):DL L i=(k,txT L i) :: DL L (i+1)∧Gd k (txT L i)∧(k=1→isNameB (txT L i)=true):=by
 unfold kdT at h
 cases hg:L[i]? with
 | none=>rw [hg] at h; exact absurd h.symm hk
 | some t =>
   rw [hg] at h
   simp only at h
   have ht:=hG t (List.mem_of_getElem? hg)
   rw [DL_succ hg]
   have hx:txT L i=t.x:=by unfold txT; rw [hg]
   rw [hx]
   subst h
   exact ⟨rfl,ht.1 hk,ht.2⟩
theorem name_D (hG:Good L) {i:Nat} (h:kdT L i=1):DL L i=(1,txT L i) :: DL L (i+1)∧Wn (txT L i):=by
 obtain ⟨h1,h2,h3⟩:=kdT_D hG h (by decide)
 exact ⟨h1,h2,h3 rfl⟩
theorem sepU_cons2 (u:Us) {r:List Us} (h:r ≠ []):sepU (u :: r)=u++((5,[44]) :: spU :: sepU r):=by
 cases r with
 | nil=>exact absurd rfl h
 | cons v r=>rw [sepU]; simp
theorem tkU_blk (d:Nat) (l:List Us):tkU (blkU d l)=(5,[123]) :: (l.flatMap tkU++[(5,[125])]):=by
 have h1:∀ l:List Us,tkU (l.flatMap fun u=>nlU (d+1) :: u)=l.flatMap tkU:=fun l=>by
  induction l with
  | nil=>rfl
  | cons u l ih=>rw [List.flatMap_cons,List.flatMap_cons,tkU_app,ih]; simp [tkU,nlU]
 have h2:tkU (if l=[] then [] else [nlU d])=[]:=by split<;>simp [tkU,nlU]
 have h3:blkU d l=[(5,[123])]++((l.flatMap fun u=>nlU (d+1) :: u)++((if l=[] then [] else [nlU d])++[(5,[125])])):=rfl
 rw [h3,tkU_app,tkU_app,tkU_app,h1,h2]
 simp [tkU]
theorem tkU_cons (k:Int) (x:Bs) (r:Us):tkU ((k,x) :: r)=if k = -1 then tkU r else (k,x) :: tkU r:=by
 by_cases h:k = -1<;>simp [tkU,h]
theorem tkU_sp (r:Us):tkU (spU :: r)=tkU r:=by simp [tkU,spU]
theorem tkU_nil:tkU []=[]:=rfl
theorem ks_new (k f t:Int) (w:Bs) (a:Int) (ks:List N):(N.new k f t w a ks).k=k:=rfl
theorem pp_tr (hG:Good L):∀ (n:Nat) (g:G) (i:Nat),g.flt→ApR (TrP L i g) (pp L n g i)
 | 0,g,i,_=>trivial
 | n + 1, g, i, hg => by
   have ih:=pp_tr hG n
   have hbin:∀ {k:Int} {sg:Bs} {p q:Int} {i0 i j:Nat} {a b:N},(k,sg,p,q) ∈ binT→Re L p i0 a i→isT L i sg=true→Re L q (i+1) b j→(tokN sg).2.1=5→Rr L .expr i0 (N.new k a.f j [] 0 [a,b]) j:=fun hk ha hi hb h5 d=>by
    obtain ⟨ua,ta,ea⟩:=ha.2 d
    obtain ⟨ub,tb,eb⟩:=hb.2 d
    refine ⟨_,.bin hk ta tb ha.1 hb.1,?_⟩
    rw [ea,isT_D hG hi,eb,h5]
    simp [tkU_app,tkU_cons,tkU_sp]
   cases g
   case listL one e ks =>
    simp only [pp]
    have he:(tokN e).2.1=5:=by rcases hg.2 with rfl | rfl<;>decide
    refine Q.thenG ih (G.one_flt hg.1) fun m j h3 => ?_
    have h3:=TrP.one hg.1 h3
    refine Q.ite (fun h=>Q.ok fun d => ?_) (fun _=>Q.want fun h=>Q.last ih hg fun x j' h4 d => ?_)
    · obtain ⟨us,t,e1⟩:=h3 d
      refine ⟨[(m,us)],rfl,by simp,by simpa using t,?_⟩
      rw [e1,isT_D hG h,he]
      simp [sepU]
    · obtain ⟨us,t,e1⟩:=h3 d
      obtain ⟨ps,k1,k2,k3,k4⟩:=h4 d
      refine ⟨(m,us) :: ps,by rw [k1]; simp,by simp,fun p hp => ?_,?_⟩
      · rcases List.mem_cons.1 hp with rfl | hp
        · exact t
        · exact k3 p hp
      · rw [e1,isT_D hG h,k4,List.map_cons,sepU_cons2 _ (by simpa using k2)]
        rw [show (tokN [44]).2.1=5 from by decide]
        simp [tkU_app,tkU_cons,tkU_sp]
   case list one e =>
    simp only [pp]
    have he:(tokN e).2.1=5:=by rcases hg.2 with rfl | rfl<;>decide
    refine Q.ite (fun h=>Q.ok fun d => ?_) (fun _=>Q.last ih hg fun x j h4 d => ?_)
    · refine ⟨[],rfl,by simp,?_⟩
      rw [isT_D hG h,he]
      simp [sepU,tkU]
    · obtain ⟨ps,k1,k2,k3,k4⟩:=h4 d
      exact ⟨ps,by simpa using k1,k3,k4⟩
   case stmts ks =>
    simp only [pp]
    refine Q.ite (fun h=>Q.ok fun d => ?_) (fun _=>Q.thenG ih trivial fun m j h3=>Q.last ih trivial fun x j' h4 d => ?_)
    · refine ⟨[],by simp [N.bag,N.new,N.ks],by simp,?_⟩
      rw [isT_D hG h,show (tokN [125]).2.1=5 from by decide]
      simp
    · obtain ⟨us,t,e1⟩:=h3 d
      obtain ⟨ps,k1,k3,k4⟩:=h4 d
      refine ⟨(m,us) :: ps,by rw [k1]; simp,fun p hp => ?_,?_⟩
      · rcases List.mem_cons.1 hp with rfl | hp
        · exact t
        · exact k3 p hp
      · rw [e1,k4]; simp
   case file ks =>
    simp only [pp]
    refine Q.ite (fun h=>Q.ok ⟨h,fun d=>⟨[],by simp,by simp,by simp⟩⟩) (fun _=>Q.ite (fun _ => ?_) (fun _ => ?_))
    all_goals
     refine Q.thenG ih trivial fun m j h3=>Q.last ih trivial fun x j' h4=>⟨h4.1,fun d => ?_⟩
     obtain ⟨us,t,e1⟩:=h3 d
     obtain ⟨ps,k1,k3,k4⟩:=h4.2 d
     refine ⟨(m,us) :: ps,by rw [k1]; simp,fun p hp => ?_,?_⟩
     · rcases List.mem_cons.1 hp with rfl | hp
       · exact t
       · exact k3 p hp
     · rw [e1,k4]; simp
   case use =>
    simp only [pp]
    refine Q.want fun h1=>Q.word fun h2=>Q.want fun h3=>Q.word fun h4=>Q.want fun h5=>Q.ok fun d => ?_
    obtain ⟨e2,w2⟩:=name_D hG h2
    obtain ⟨e4,w4⟩:=name_D hG h4
    refine ⟨_,.use w4 w2,?_⟩
    rw [isT_D hG h1,e2,isT_D hG h3,e4,isT_D hG h5]
    simp [tkU_cons,tkU_sp,tkU_nil]
    exact ⟨by decide,by decide,by decide⟩
   case defn =>
    simp only [pp]
    refine Q.want fun h1=>Q.word fun h2=>Q.thenG ih trivial fun p j h3=>Q.thenG ih trivial fun y j' h4=>Q.thenG ih trivial fun b j'' h5=>Q.ok fun d => ?_
    obtain ⟨e2,w2⟩:=name_D hG h2
    obtain ⟨u3,t3,e3⟩:=h3 d
    obtain ⟨u4,t4,e4⟩:=h4 d
    obtain ⟨u5,t5,e5⟩:=h5 d
    refine ⟨_,.defn w2 t3 t4 t5,?_⟩
    rw [isT_D hG h1,e2,e3,e4,e5,show (tokN kDef).2.1=2 from by decide]
    simp [tkU_app,tkU_cons,tkU_sp]
   case params =>
    simp only [pp]
    refine Q.want fun h1=>Q.thenG ih ⟨rfl,.inl rfl⟩ fun m j h3=>Q.ok fun d => ?_
    obtain ⟨ps,k1,k3,k4⟩:=h3 d
    rw [k1]
    refine ⟨_,.params ps k3,?_⟩
    rw [isT_D hG h1,k4,show (tokN [40]).2.1=5 from by decide]
    simp [tkU_app,tkU_cons,tkU_nil]
   case param =>
    simp only [pp]
    refine Q.word fun h2=>Q.thenG ih trivial fun y j h4=>Q.ok fun d => ?_
    obtain ⟨e2,w2⟩:=name_D hG h2
    obtain ⟨u4,t4,e4⟩:=h4 d
    refine ⟨_,.param w2 t4,?_⟩
    rw [e2,e4]
    simp [tkU_cons]
   case typed =>
    simp only [pp]
    refine Q.ite (fun h=>Q.last ih trivial fun m j h4 d => ?_) (fun _=>Q.ok fun d=>⟨[],.none,rfl⟩)
    obtain ⟨u4,t4,e4⟩:=h4 d
    refine ⟨_,.some t4,?_⟩
    rw [isT_D hG h,e4,show (tokN [58]).2.1=5 from by decide]
    simp [tkU_cons,tkU_sp]
   case kind =>
    simp only [pp]
    refine Q.ite (fun h=>Q.ok fun d=>⟨_,.word (k:=29) (w:=kInt) (by decide) (by decide),?_⟩) (fun _=>Q.ite (fun h=>Q.ok fun d=>⟨_,.word (k:=30) (w:=kStr) (by decide) (by decide),?_⟩) (fun _=>Q.ite (fun h=>Q.ok fun d=>⟨_,.word (k:=31) (w:=kDyn) (by decide) (by decide),?_⟩) (fun _=>Q.ite (fun h => ?_) (fun _ => ?_))))
    · rw [isT_D hG h,show (tokN kInt).2.1=2 from by decide]; simp [tkU_cons,tkU_nil]
    · rw [isT_D hG h,show (tokN kStr).2.1=2 from by decide]; simp [tkU_cons,tkU_nil]
    · rw [isT_D hG h,show (tokN kDyn).2.1=2 from by decide]; simp [tkU_cons,tkU_nil]
    · refine Q.thenG ih ⟨rfl,.inr rfl⟩ fun m j h3=>Q.ok fun d => ?_
      obtain ⟨ps,k1,k3,k4⟩:=h3 d
      rw [k1]
      refine ⟨_,.trec ps k3,?_⟩
      rw [isT_D hG h,k4,show (tokN [123]).2.1=5 from by decide]
      simp [tkU_app,tkU_cons,tkU_nil]
    · refine Q.want fun h1=>Q.want fun h2=>Q.thenG ih ⟨rfl,.inl rfl⟩ fun m j h3=>Q.want fun h4=>Q.thenG ih trivial fun y j' h5=>Q.ok fun d => ?_
      obtain ⟨ps,k1,k3,k4⟩:=h3 d
      obtain ⟨u5,t5,e5⟩:=h5 d
      rw [k1]
      refine ⟨_,.tfn ps k3 t5,?_⟩
      rw [isT_D hG h1,isT_D hG h2,k4,isT_D hG h4,e5,show (tokN [40]).2.1=5 from by decide,show (tokN kFn).2.1=2 from by decide,show (tokN [58]).2.1=5 from by decide]
      simp [tkU_app,tkU_cons,tkU_sp,tkU_nil]
   case tfield =>
    simp only [pp]
    refine Q.word fun h2=>Q.want fun h3=>Q.thenG ih trivial fun y j h4=>Q.ok fun d => ?_
    obtain ⟨e2,w2⟩:=name_D hG h2
    obtain ⟨u4,t4,e4⟩:=h4 d
    refine ⟨_,.tfield w2 t4,?_⟩
    rw [e2,isT_D hG h3,e4,show (tokN [58]).2.1=5 from by decide]
    simp [tkU_cons,tkU_sp]
   case entry =>
    simp only [pp]
    refine Q.word fun h2=>Q.want fun h3=>Q.thenG ih trivial fun y j h4=>Q.ok fun d => ?_
    obtain ⟨e2,w2⟩:=name_D hG h2
    obtain ⟨u4,t4,e4⟩:=h4.2 d
    refine ⟨_,.entry w2 t4,?_⟩
    rw [e2,isT_D hG h3,e4,show (tokN [58]).2.1=5 from by decide]
    simp [tkU_cons,tkU_sp]
   case block =>
    simp only [pp]
    refine Q.want fun h1=>Q.thenG ih trivial fun m j h3=>Q.ok fun d => ?_
    obtain ⟨ps,k1,k3,k4⟩:=h3 (d+1)
    rw [List.nil_append] at k1
    rw [k1]
    refine ⟨_,.block ps k3,?_⟩
    rw [isT_D hG h1,k4,show (tokN [123]).2.1=5 from by decide,tkU_blk]
    simp [List.flatMap_map]
   case expr =>
    simp only [pp]
    refine Q.thenG ih trivial fun a j h3=>Q.ite (fun h => ?_) (fun _=>Q.ite (fun h => ?_) (fun _=>Q.ok ⟨by have:=h3.1; omega,h3.2⟩))
    · exact Q.thenG ih trivial fun b j' h4=>Q.ok ⟨by rw [ks_new]; decide,hbin (k:=14) (by decide) h3 h h4 (by decide)⟩
    · exact Q.thenG ih trivial fun b j' h4=>Q.ok ⟨by rw [ks_new]; decide,hbin (k:=15) (by decide) h3 h h4 (by decide)⟩
   case sum =>
    simp only [pp]
    exact Q.thenG ih trivial fun a j h3=>Q.last ih trivial fun x j' h4=>h4 _ ⟨by have:=h3.1; omega,h3.2⟩
   case term =>
    simp only [pp]
    exact Q.thenG ih trivial fun a j h3=>Q.last ih trivial fun x j' h4=>h4 _ ⟨by have:=h3.1; omega,h3.2⟩
   case post =>
    simp only [pp]
    exact Q.thenG ih trivial fun a j h3=>Q.last ih trivial fun x j' h4=>h4 _ h3
   case sumL a =>
    simp only [pp]
    refine Q.ite (fun h => ?_) (fun _=>Q.ite (fun h => ?_) (fun _=>Q.ok fun i0 ha=>ha))
    · exact Q.thenG ih trivial fun b j h3=>Q.last ih trivial fun x j' h4 i0 ha=>h4 _ ⟨by rw [ks_new]; decide,hbin (k:=16) (by decide) ha h h3 (by decide)⟩
    · exact Q.thenG ih trivial fun b j h3=>Q.last ih trivial fun x j' h4 i0 ha=>h4 _ ⟨by rw [ks_new]; decide,hbin (k:=17) (by decide) ha h h3 (by decide)⟩
   case termL a =>
    simp only [pp]
    refine Q.ite (fun h => ?_) (fun _=>Q.ok fun i0 ha=>ha)
    exact Q.thenG ih trivial fun b j h3=>Q.last ih trivial fun x j' h4 i0 ha=>h4 _ ⟨by rw [ks_new]; decide,hbin (k:=18) (by decide) ha h h3 (by decide)⟩
   case postL a =>
    simp only [pp]
    refine Q.ite (fun h=>Q.word fun h2=>Q.last ih trivial fun x j' h4 i0 ha=>h4 _ ⟨by rw [ks_new]; decide,fun d => ?_⟩) (fun _=>Q.ite (fun h => ?_) (fun _=>Q.ok fun i0 ha=>ha))
    · obtain ⟨e2,w2⟩:=name_D hG h2
      obtain ⟨ua,ta,ea⟩:=ha.2 d
      refine ⟨_,.field w2 ta ha.1,?_⟩
      rw [ea,isT_D hG h,e2,show (tokN [46]).2.1=5 from by decide]
      simp [tkU_app,tkU_cons,tkU_nil]
    · refine Q.thenG ih ⟨rfl,.inl rfl⟩ fun m j h3=>Q.last ih trivial fun x j' h4 i0 ha=>h4 _ ⟨by rw [ks_new]; decide,fun d => ?_⟩
      obtain ⟨ua,ta,ea⟩:=ha.2 d
      obtain ⟨ps,k1,k3,k4⟩:=h3 d
      rw [k1]
      refine ⟨_,.call ps ta ha.1 k3,?_⟩
      rw [ea,isT_D hG h,k4,show (tokN [40]).2.1=5 from by decide]
      simp [tkU_app,tkU_cons,tkU_nil]
   case atom =>
    simp only [pp]
    refine Q.ite (fun h=>Q.ok ⟨by rw [ks_new]; decide,fun d => ?_⟩) (fun _=>Q.ite (fun h=>Q.ok ⟨by rw [ks_new]; decide,fun d => ?_⟩) (fun _=>Q.ite (fun h=>Q.ok ⟨by rw [ks_new]; decide,fun d => ?_⟩) (fun _=>Q.ite (fun h=>Q.ok ⟨by rw [ks_new]; decide,fun d => ?_⟩) (fun _=>Q.ite (fun h => ?_) (fun _=>Q.ite (fun h => ?_) (fun _ => ?_))))))
    · obtain ⟨e2,w2,-⟩:=kdT_D hG h (by decide)
      exact ⟨_,.num w2,by rw [e2]; simp [tkU_cons,tkU_nil]⟩
    · obtain ⟨e2,w2,-⟩:=kdT_D hG h (by decide)
      exact ⟨_,.str w2,by rw [e2]; simp [tkU_cons,tkU_nil]⟩
    · obtain ⟨e2,w2⟩:=name_D hG h
      exact ⟨_,.name w2,by rw [e2]; simp [tkU_cons,tkU_nil]⟩
    · exact ⟨_,.input,by rw [isT_D hG h,show (tokN kInput).2.1=2 from by decide]; simp [tkU_cons,tkU_nil]⟩
    · refine Q.thenG ih trivial fun x j h3=>Q.want fun h4=>Q.ok ⟨by rw [ks_new]; decide,fun d => ?_⟩
      obtain ⟨u3,t3,e3⟩:=h3.2 d
      refine ⟨_,.group t3,?_⟩
      rw [isT_D hG h,e3,isT_D hG h4,show (tokN [40]).2.1=5 from by decide,show (tokN [41]).2.1=5 from by decide]
      simp [tkU_app,tkU_cons,tkU_nil]
    · refine Q.thenG ih ⟨rfl,.inr rfl⟩ fun m j h3=>Q.ok ⟨by rw [ks_new]; decide,fun d => ?_⟩
      obtain ⟨ps,k1,k3,k4⟩:=h3 d
      rw [k1]
      refine ⟨_,.record ps k3,?_⟩
      rw [isT_D hG h,k4,show (tokN [123]).2.1=5 from by decide]
      simp [tkU_app,tkU_cons,tkU_nil]
    · refine Q.want fun h1=>Q.thenG ih trivial fun p j h3=>Q.thenG ih trivial fun y j' h4=>Q.thenG ih trivial fun b j'' h5=>Q.ok ⟨by rw [ks_new]; decide,fun d => ?_⟩
      obtain ⟨u3,t3,e3⟩:=h3 d
      obtain ⟨u4,t4,e4⟩:=h4 d
      obtain ⟨u5,t5,e5⟩:=h5 d
      refine ⟨_,.lambda t3 t4 t5,?_⟩
      rw [isT_D hG h1,e3,e4,e5,show (tokN kFn).2.1=2 from by decide]
      simp [tkU_app,tkU_cons,tkU_sp]
   case stmt =>
    simp only [pp]
    have hsay:∀ {k:Int} {u:Us} {i i' j:Nat} {x:N},(k,u) ∈ sayT→DL L i=tkU u++DL L i'→Re L 3 i' x j→isT L j [59]=true→Rr L .stmt i (N.new k i (j+1) [] 0 [x]) (j+1):=fun hk he hx hj d=>by
     obtain ⟨u3,t3,e3⟩:=hx.2 d
     refine ⟨_,.say hk t3,?_⟩
     rw [he,e3,isT_D hG hj,show (tokN [59]).2.1=5 from by decide]
     simp [tkU_app,tkU_cons,tkU_nil]
    refine Q.ite (fun h => ?_) (fun _=>Q.ite (fun h => ?_) (fun _=>Q.ite (fun h => ?_) (fun _=>Q.ite (fun h => ?_) (fun _=>Q.ite (fun h => ?_) (fun _=>Q.ite (fun h => ?_) (fun _ => ?_))))))
    · refine Q.word fun h2=>Q.thenG ih trivial fun y j h3=>Q.want fun h4=>Q.thenG ih trivial fun x j' h5=>Q.want fun h6=>Q.ok fun d => ?_
      obtain ⟨e2,w2⟩:=name_D hG h2
      obtain ⟨u3,t3,e3⟩:=h3 d
      obtain ⟨u5,t5,e5⟩:=h5.2 d
      refine ⟨_,.let_ w2 t3 t5,?_⟩
      rw [isT_D hG h,e2,e3,isT_D hG h4,e5,isT_D hG h6,show (tokN kLet).2.1=2 from by decide,show (tokN [61]).2.1=5 from by decide,show (tokN [59]).2.1=5 from by decide]
      simp [tkU_app,tkU_cons,tkU_sp,tkU_nil]
    · refine Q.thenG ih trivial fun c j h3=>Q.thenG ih trivial fun b j' h4=>Q.ite (fun h5=>Q.thenG ih trivial fun o j'' h6=>Q.ok fun d => ?_) (fun _=>Q.ok fun d => ?_)
      · obtain ⟨u3,t3,e3⟩:=h3.2 d
        obtain ⟨u4,t4,e4⟩:=h4 d
        obtain ⟨u6,t6,e6⟩:=h6 d
        refine ⟨_,.if1 t3 t4 t6,?_⟩
        rw [isT_D hG h,e3,e4,isT_D hG h5,e6,show (tokN kIf).2.1=2 from by decide,show (tokN kElse).2.1=2 from by decide]
        simp [tkU_app,tkU_cons,tkU_sp]
      · obtain ⟨u3,t3,e3⟩:=h3.2 d
        obtain ⟨u4,t4,e4⟩:=h4 d
        refine ⟨_,.if0 t3 t4,?_⟩
        rw [isT_D hG h,e3,e4,show (tokN kIf).2.1=2 from by decide]
        simp [tkU_app,tkU_cons,tkU_sp]
    · refine Q.thenG ih trivial fun c j h3=>Q.thenG ih trivial fun b j' h4=>Q.ok fun d => ?_
      obtain ⟨u3,t3,e3⟩:=h3.2 d
      obtain ⟨u4,t4,e4⟩:=h4 d
      refine ⟨_,.while_ t3 t4,?_⟩
      rw [isT_D hG h,e3,e4,show (tokN kWhile).2.1=2 from by decide]
      simp [tkU_app,tkU_cons,tkU_sp]
    · exact Q.thenG ih trivial fun x j h3=>Q.want fun h4=>Q.ok (hsay (k:=11) (u:=[(2,kPrint),spU]) (by decide) (by rw [isT_D hG h,show (tokN kPrint).2.1=2 from by decide]; rfl) h3 h4)
    · exact Q.thenG ih trivial fun x j h3=>Q.want fun h4=>Q.ok (hsay (k:=12) (u:=[(2,kReturn),spU]) (by decide) (by rw [isT_D hG h,show (tokN kReturn).2.1=2 from by decide]; rfl) h3 h4)
    · refine Q.thenG ih trivial fun x j h3=>Q.want fun h4=>Q.ok fun d => ?_
      obtain ⟨e2,w2⟩:=name_D hG h.1
      obtain ⟨u3,t3,e3⟩:=h3.2 d
      refine ⟨_,.set w2 t3,?_⟩
      rw [e2,isT_D hG h.2,e3,isT_D hG h4,show (tokN [61]).2.1=5 from by decide,show (tokN [59]).2.1=5 from by decide]
      simp [tkU_app,tkU_cons,tkU_sp,tkU_nil]
    · exact Q.thenG ih trivial fun x j h3=>Q.want fun h4=>Q.ok (hsay (k:=13) (u:=[]) (by decide) rfl h3 h4)
end
end
section
section
variable {P:Program}
theorem write3 {f cc tp:FuncId} (h:Has P f (irWrite cc)) (hcc:CopyOk3 P cc tp) (H:Hp) (i t:Nat) (a:A) (n:Int) (bs s:List UInt8) (hi:H[i]?=some (.box tp [a,.osl true 1 (byteRows bs) t,.d (.int .i64 n)])) (ha:a = .d .nilp∨a = .ptr i 0) (ht:H[t]?=some (.tok bs.length 1 5))
 (hb:bs.length+s.length≤140737488355328):ACall P f [.ptr i 0,.d (.str s)] H (fun r H'=>r = .tup [.d (.int .i64 s.length),.d .nili]∧H'=(H.set i (.box tp [.ptr i 0,.osl true 1 (byteRows (bs++s)) t,.d (.int .i64 n)])).set t (.tok (bs++s).length 1 5)):=by
 obtain ⟨fn,hf,hcf⟩:=h
 have hit:i ≠ t:=fun e=>by subst e; rw [hi] at ht; cases ht
 have hil:i < H.length:=(List.getElem?_eq_some_iff.1 hi).1
 have htl:t < H.length:=(List.getElem?_eq_some_iff.1 ht).1
 refine acall_fin hf hcf (by simp [irWrite]) fun hcl hlo => ?_
 simp [irWrite]
 refine CallK_of' (hcc _ _ _ _ _ hi ha) ?_
 have ht':(H.set i (.box tp [.ptr i 0,.osl true 1 (byteRows bs) t,.d (.int .i64 n)]))[t]?=some (.tok (byteRows bs).length 1 5):=by
  rw [List.getElem?_set_ne hit,ht,byteRows_length]
 have happ:=appA_osl (z:=true) (b:=1) (new:=byteRows s) ht' (by simp; omega)
 simp [hil,htl,hit,ht,happ,Ne.symm hit]
 simp [RetK,Hp.cut_set,cut_self hcl,hil,htl,byteRows_append]
 rw [List.set_comm _ _ hit,List.set_comm _ _ hit,List.set_set]
theorem writeB3 {f cc tp:FuncId} (h:Has P f (irWriteByte cc 5)) (hcc:CopyOk3 P cc tp) (H:Hp) (i t:Nat) (a:A) (n:Int) (bs:List UInt8) (c:UInt8) (hi:H[i]?=some (.box tp [a,.osl true 1 (byteRows bs) t,.d (.int .i64 n)])) (ha:a = .d .nilp∨a = .ptr i 0) (ht:H[t]?=some (.tok bs.length 1 5))
 (hb:bs.length+1≤140737488355328):ACall P f [.ptr i 0,.d (.int .u8 c.toNat)] H (fun r H'=>r = .d .nili∧H'=(H.set i (.box tp [.ptr i 0,.osl true 1 (byteRows (bs++[c])) t,.d (.int .i64 n)])).set t (.tok (bs++[c]).length 1 5)):=by
 obtain ⟨fn,hf,hcf⟩:=h
 have hit:i ≠ t:=fun e=>by subst e; rw [hi] at ht; cases ht
 have hil:i < H.length:=(List.getElem?_eq_some_iff.1 hi).1
 have htl:t < H.length:=(List.getElem?_eq_some_iff.1 ht).1
 refine acall_fin hf hcf (by simp [irWriteByte]) fun hcl hlo => ?_
 simp [irWriteByte]
 refine CallK_of' (hcc _ _ _ _ _ hi ha) ?_
 have hbl:(byteRows bs).length=bs.length:=by simp [byteRows]
 have ht':(H.set i (.box tp [.ptr i 0,.osl true 1 (byteRows bs) t,.d (.int .i64 n)]))[t]?=some (.tok (byteRows bs).length 1 5):=by
  rw [List.getElem?_set_ne hit,ht,hbl]
 have htv:H[t]=Ob.tok bs.length 1 5:=(List.getElem?_eq_some_iff.1 ht).2
 have hb':bs.length≤140737488355327:=by omega
 simp [hil,htl,hit,htv,hb',appA,hbl,Ne.symm hit]
 simp [RetK,Hp.cut_set,cut_self hcl,hil,htl,byteRows]
 rw [List.set_comm _ _ hit,List.set_comm _ _ hit,List.set_set]
end
def PB (tp:TypeId) (H:Hp) (b t:Nat) (a:A) (n:Nat) (bs:Bs):Hp:=(H.set b (.box tp [a,.osl true 1 (byteRows bs) t,.d (.int .i64 (n:Int))])).set t (.tok bs.length 1 5)
structure PC (H0 H:Hp) (b t:Nat) (a:A) (m:Nat):Prop where
 pre:Pre0 H0 H
 b0:H0.length≤b
 t0:H0.length≤t
 hb:b < H.length
 ht:t < H.length
 ne:t ≠ b
 ha:a = .d .nilp∨a = .ptr b 0
 hm:m≤1000000000000
section
variable {tp:TypeId} {H0 H X:Hp} {b t:Nat} {a a':A} {n n':Nat} {bs bs':Bs} {m m':Nat}
theorem PB_len:(PB tp H b t a n bs).length=H.length:=by simp [PB]
theorem PB_b (hb:b < H.length) (ht:t ≠ b):(PB tp H b t a n bs)[b]?=some (.box tp [a,.osl true 1 (byteRows bs) t,.d (.int .i64 (n:Int))]):=by
 unfold PB
 rw [List.getElem?_set_ne ht]; simp [hb]
theorem PB_t (hl:t < H.length):(PB tp H b t a n bs)[t]?=some (.tok bs.length 1 5):=by
 unfold PB
 simp [hl]
theorem PB_PB (ht:t ≠ b):PB tp (PB tp H b t a n bs) b t a' n' bs'=PB tp H b t a' n' bs':=by
 unfold PB
 rw [List.set_comm (i:=t) (j:=b) _ _ ht]
 simp
theorem PB_app (hb:b < H.length) (hl:t < H.length):PB tp (H++X) b t a n bs=PB tp H b t a n bs++X:=by
 unfold PB
 rw [List.set_append_left _ _ hb,List.set_append_left _ _ (by simpa using hl)]
theorem PC.app (h:PC H0 H b t a m) (X:Hp):PC H0 (H++X) b t a m:=⟨h.pre.app X,h.b0,h.t0,by have:=h.hb; simp; omega,by have:=h.ht; simp; omega,h.ne,h.ha,h.hm⟩
theorem PC.ptr (h:PC H0 H b t a m) (hm:m'≤m):PC H0 H b t (.ptr b 0) m':=⟨h.pre,h.b0,h.t0,h.hb,h.ht,h.ne,.inr rfl,Nat.le_trans hm h.hm⟩
theorem PC.le (h:PC H0 H b t a m) (hm:m'≤m):PC H0 H b t a m':=⟨h.pre,h.b0,h.t0,h.hb,h.ht,h.ne,h.ha,Nat.le_trans hm h.hm⟩
theorem PB_pre (h:PC H0 H b t a' m):Pre0 H0 (PB tp H b t a n bs):=by
 obtain ⟨Y,hY⟩:=h.pre
 have h1:=h.b0; have h2:=h.t0
 subst hY
 unfold PB
 rw [List.set_append_right _ _ h1,List.set_append_right _ _ h2]
 exact ⟨_,rfl⟩
theorem PB_cut (h:PC H0 H b t a m) (hcl:(PB tp H b t a n bs).Closed) (k:Nat) (Y:Hp) (hk:Y.length=k) (hY:∀ o ∈ Y,o.clr (H.length+k)=o) (n':Nat) (bs':Bs) (X:Hp):Hp.cut (H.length+k) (PB tp H b t (.ptr b 0) n' bs'++(Y++X))=PB tp H b t (.ptr b 0) n' bs'++Y:=by
 have hb:=h.hb; have ht:=h.ht
 have e:=cut_appk hcl k (Y++X)
 rw [PB_len] at e
 rw [← PB_PB (a:=a) (n:=n) (bs:=bs) h.ne]
 have e2:∀ Z:Hp,PB tp (PB tp H b t a n bs) b t (.ptr b 0) n' bs'++Z=PB tp (PB tp H b t a n bs++Z) b t (.ptr b 0) n' bs':=fun Z=>(PB_app (by rw [PB_len]; exact hb) (by rw [PB_len]; exact ht)).symm
 rw [e2,e2]
 have e3:∀ Z,PB tp Z b t (.ptr b 0) n' bs'=(Z.set b (.box tp [.ptr b 0,.osl true 1 (byteRows bs') t,.d (.int .i64 (n':Int))])).set t (.tok bs'.length 1 5):=fun Z=>rfl
 rw [e3,e3,Hp.cut_set,Hp.cut_set,e]
 have h1:b < H.length+k:=by omega
 have h2:t < H.length+k:=by omega
 have hm:(List.take k (Y++X)).map (Ob.clr (H.length+k))=Y:=by
  rw [← hk,List.take_left]
  rw [List.map_congr_left (g:=id) fun o ho=>by rw [hk]; exact hY o ho]
  simp
 rw [hm]
 simp [h1,h2]
theorem PB_cut0 (h:PC H0 H b t a m) (hcl:(PB tp H b t a n bs).Closed) (n':Nat) (bs':Bs) (X:Hp):Hp.cut H.length (PB tp H b t (.ptr b 0) n' bs'++X)=PB tp H b t (.ptr b 0) n' bs':=by
 simpa using PB_cut h hcl 0 [] rfl (by simp) n' bs' X
theorem PB_cut0' (h:PC H0 H b t a m) (hcl:(PB tp H b t a n bs).Closed) (n':Nat) (bs':Bs):Hp.cut H.length (PB tp H b t (.ptr b 0) n' bs')=PB tp H b t (.ptr b 0) n' bs':=by
 simpa using PB_cut0 h hcl n' bs' []
theorem PB_get (o:Ob):(PB tp H b t a n bs++o :: X)[H.length]?=some o:=by
 rw [List.getElem?_append_right (by rw [PB_len]; exact Nat.le_refl _),PB_len]; simp
end
def Wr (P:Program) (tp:TypeId) (H0:Hp) (f:FuncId) (args:List A) (r0:A) (d:Nat) (out:Bs):Prop :=
 ∀ (H:Hp) (b t:Nat) (a:A) (bs:Bs),PC H0 H b t a (bs.length+out.length)→ACall P f (.ptr b 0 :: args) (PB tp H b t a d bs) (fun r H'=>r=r0∧H'=PB tp H b t (.ptr b 0) d (bs++out))
theorem Wr.at {P:Program} {tp:TypeId} {H0:Hp} {f:FuncId} {args:List A} {r0:A} {d:Nat} {out:Bs} (h:Wr P tp H0 f args r0 d out) {H:Hp} {b t:Nat} {a:A} {bs:Bs} (hp:PC H0 H b t a (bs.length+out.length)) (X:Hp) :
 ACall P f (.ptr b 0 :: args) (PB tp H b t a d bs++X) (fun r H'=>r=r0∧H'=PB tp H b t (.ptr b 0) d (bs++out)++X):=by
 have:=h _ _ _ _ _ (hp.app X)
 rw [PB_app hp.hb hp.ht,PB_app hp.hb hp.ht] at this
 exact this
theorem Wr.at0 {P:Program} {tp:TypeId} {H0:Hp} {f:FuncId} {args:List A} {r0:A} {d:Nat} {out:Bs} (h:Wr P tp H0 f args r0 d out) {H:Hp} {b t:Nat} {a:A} {bs:Bs} (hp:PC H0 H b t a (bs.length+out.length)) :
 ACall P f (.ptr b 0 :: args) (PB tp H b t a d bs) (fun r H'=>r=r0∧H'=PB tp H b t (.ptr b 0) d (bs++out)):=h _ _ _ _ _ hp
section
variable {P:Program} {tp tn:TypeId} {H0:Hp}
theorem Has.ws3 {f cc} (h:Has P f (irWrite cc)) (hcc:CopyOk3 P cc tp) (d:Nat) (s:Bs):Wr P tp H0 f [.d (.str s)] (.tup [.d (.int .i64 s.length),.d .nili]) d s:=by
 intro H b t a bs hp
 have:=write3 h hcc (PB tp H b t a d bs) b t a (d:Int) bs s (PB_b hp.hb hp.ne) hp.ha (PB_t hp.ht) (by have:=hp.hm; omega)
 rw [show ((PB tp H b t a d bs).set b (.box tp [.ptr b 0,.osl true 1 (byteRows (bs++s)) t,.d (.int .i64 (d:Int))])).set t (.tok (bs++s).length 1 5)=PB tp (PB tp H b t a d bs) b t (.ptr b 0) d (bs++s) from rfl,PB_PB hp.ne] at this
 exact this
theorem Has.wb3 {f cc} (h:Has P f (irWriteByte cc 5)) (hcc:CopyOk3 P cc tp) (d:Nat) (c:UInt8):Wr P tp H0 f [.d (.int .u8 c.toNat)] (.d .nili) d [c]:=by
 intro H b t a bs hp
 have:=writeB3 h hcc (PB tp H b t a d bs) b t a (d:Int) bs c (PB_b hp.hb hp.ne) hp.ha (PB_t hp.ht) (by have:=hp.hm; simp at this; omega)
 rw [show ((PB tp H b t a d bs).set b (.box tp [.ptr b 0,.osl true 1 (byteRows (bs++[c])) t,.d (.int .i64 (d:Int))])).set t (.tok (bs++[c]).length 1 5)=PB tp (PB tp H b t a d bs) b t (.ptr b 0) d (bs++[c]) from rfl,PB_PB hp.ne] at this
 exact this
def WsOk (P:Program) (tp:TypeId) (H0:Hp) (f:FuncId):Prop:=∀ d s,Wr P tp H0 f [.d (.str s)] (.tup [.d (.int .i64 (s.length:Int)),.d .nili]) d s
def WbOk (P:Program) (tp:TypeId) (H0:Hp) (f:FuncId):Prop:=∀ d (c:UInt8),Wr P tp H0 f [.d (.int .u8 c.toNat)] (.d .nili) d [c]
theorem spc_len:∀ d,(spc d).length=2 * d
 | 0=>rfl
 | d+1=>by rw [spc,List.length_append,spc_len d]; simp; omega
theorem Has.lyLine {f wb ws} (h:Has P f (irLyLine wb ws)) (hwb:WbOk P tp H0 wb) (hws:WsOk P tp H0 ws) (d:Nat):Wr P tp H0 f [] (.tup []) d (10 :: spc d):=by
 intro H b t a bs hp
 obtain ⟨fn,hf,hcf⟩:=h
 refine acall_fin hf hcf (by simp [irLyLine]) fun hcl _ => ?_
 have hm:=hp.hm
 simp only [List.length_cons,spc_len] at hm
 have hbl:=hp.hb
 simp [irLyLine]
 refine CallK_of' ((hwb d 10).at0 (hp.le (by simp))) ?_
 have hg:=PB_b (tp:=tp) (a := .ptr b 0) (n:=d) (bs:=bs++[10]) hp.hb hp.ne
 simp [hg]
 refine LoopK_out 0 (fun fr H'=>H'=PB tp H b t (.ptr b 0) d (bs++10 :: spc d)) ?_ ?_
 · refine RangeK_of H.length d (fun i fr H'=>fr 0 = .ptr b 0∧H'=PB tp H b t (.ptr b 0) d (bs++10 :: spc i)) (by omega) (by decide) (by simp [PB_len]) (by simp) ?_ ?_ ?_
   · simp [hbl,PB_cut0' hp hcl,spc]
   · rintro i fr H' hi f10 f9 ⟨f0,rfl⟩
     simp [f0]
     refine CallK_of' ((hws d [32,32]).at0 (hp.ptr (by simp [spc_len]; omega))) ?_
     simp
     refine NextK_of H.length (Nat.le_refl _) (by simp [f10,f9,PB_len]) ?_
     simp [f0,hbl,PB_cut0' hp hcl,spc]
   · rintro fr H' f10 f9 ⟨f0,rfl⟩
     simp
 · rintro fr H' rfl
   simp [RetK,PB_len,PB_cut0' hp hcl]
end
end
section
def Wp (P:Program) (tp:TypeId) (H0:Hp) (f:FuncId) (args:List A) (d:Nat) (out:Bs):Prop :=
 ∀ (H:Hp) (b t:Nat) (bs:Bs),PC H0 H b t (.ptr b 0) (bs.length+out.length)→ACall P f (.ptr b 0 :: args) (PB tp H b t (.ptr b 0) d bs) (fun r H'=>r = .tup []∧H'=PB tp H b t (.ptr b 0) d (bs++out))
theorem Wp.at {P:Program} {tp:TypeId} {H0:Hp} {f:FuncId} {args:List A} {d:Nat} {out:Bs} (h:Wp P tp H0 f args d out) {H:Hp} {b t:Nat} {bs:Bs} (hp:PC H0 H b t (.ptr b 0) (bs.length+out.length)) (X:Hp) :
 ACall P f (.ptr b 0 :: args) (PB tp H b t (.ptr b 0) d bs++X) (fun r H'=>r = .tup []∧H'=PB tp H b t (.ptr b 0) d (bs++out)++X):=by
 have:=h _ _ _ _ (hp.app X)
 rw [PB_app hp.hb hp.ht,PB_app hp.hb hp.ht] at this
 exact this
def NodeOk (P:Program) (tp:TypeId) (H0:Hp) (f:FuncId) (n:N):Prop:=∀ c d us,c ≠ .file→c ≠ .params→c ≠ .typed→Tr c d n us→n.size≤1048576→d+n.depth≤1000→Wr P tp H0 f [n.v] (.tup []) d (txU us)
theorem Tr.kind_k {d:Nat} {n:N} {us:Us} (h:Tr .kind d n us):n.k ≠ 0:=by
 cases h with
 | word hk h24 =>
   simp only [wordT,List.mem_cons,Prod.mk.injEq,List.not_mem_nil,or_false] at hk
   simp only [N.k]
   omega
 | _=>simp [N.k]
theorem Tr.block_k {d:Nat} {n:N} {us:Us} (h:Tr .block d n us):n.k=6:=by cases h; rfl
theorem rowAt_0 (x:List D) (r:List (List D)):Zam.rowAt (x :: r) 0=some x:=rfl
theorem rowAt_1 (x y:List D) (r:List (List D)):Zam.rowAt (x :: y :: r) 1=some y:=rfl
theorem rowAt_2 (x y u:List D) (r:List (List D)):Zam.rowAt (x :: y :: u :: r) 2=some u:=rfl
section
variable {P:Program} {tp tn:TypeId} {H0:Hp}
theorem Has.lyTyped {f ws node} (h:Has P f (irLyTyped ws node tn)) (hws:WsOk P tp H0 ws) (x:N) (d:Nat) (us:Us) (ht:Tr .typed d x us) (hsz:x.size≤1048576) (hdp:d+x.depth≤1000) (hn:NodeOk P tp H0 node x):Wp P tp H0 f [x.v] d (txU us):=by
 intro H b t bs hp
 obtain ⟨fn,hf,hcf⟩:=h
 refine acall_fin hf hcf (by simp [irLyTyped]) fun hcl _ => ?_
 have hbl:=hp.hb
 cases ht with
 | none =>
   rw [N.v_mk]
   simp [irLyTyped,PB_len,PB_get]
   simp [RetK,PB_len,PB_cut0 hp hcl,txU]
 | some hk =>
   have hk0:=hk.kind_k
   have hN:=hn _ _ _ (by simp) (by simp) (by simp) hk hsz hdp
   cases x with
   | mk k f' t' w a' z ks =>
   simp only [N.k] at hk0
   rw [N.v_mk] at hN ⊢
   rw [txU_cons,txU_cons] at hp ⊢
   simp [spU] at hp ⊢
   simp [irLyTyped,PB_len,PB_get,hk0]
   refine CallK_of' ((hws d [58,32]).at (hp.le (by simp)) _) ?_
   simp [PB_get]
   refine CallK_of' (hN.at (hp.le (by simp; omega)) _) ?_
   simp [RetK,PB_len,PB_cut0 hp hcl]
theorem Has.lyStmt {f ws node wb} (h:Has P f (irLyStmt ws node wb tn)) (hws:WsOk P tp H0 ws) (hwb:WbOk P tp H0 wb) (s:Bs) (x:N) (d:Nat) (out:Bs) (hn:Wr P tp H0 node [x.v] (.tup []) d out):Wr P tp H0 f [.d (.str s),x.v] (.tup []) d (s++out++[59]):=by
 intro H b t a bs hp
 obtain ⟨fn,hf,hcf⟩:=h
 refine acall_fin hf hcf (by simp [irLyStmt]) fun hcl _ => ?_
 have hbl:=hp.hb
 cases x with
 | mk k f' t' w a' z ks =>
 rw [N.v_mk] at hn ⊢
 simp [irLyStmt,PB_len,PB_get]
 refine CallK_of' ((hws d s).at (hp.le (by simp)) _) ?_
 simp [PB_get]
 refine CallK_of' (hn.at (hp.ptr (by simp; omega)) _) ?_
 simp
 refine CallK_of' ((hwb d 59).at (hp.ptr (by simp; omega)) _) ?_
 simp [RetK,PB_len,PB_cut0 hp hcl]
theorem Has.lyTwo {f node ws} (h:Has P f (irLyTwo node ws)) (hws:WsOk P tp H0 ws) (s:Bs) (hs:s.length≤100) (x y:N) (z:Bool) (d:Nat) (ox oy:Bs) (hx:Wr P tp H0 node [x.v] (.tup []) d ox) (hy:Wr P tp H0 node [y.v] (.tup []) d oy):Wr P tp H0 f [.d (.sl z 6 ([x,y].map N.enc)),.d (.str s)] (.tup []) d (ox++([32]++s++[32])++oy):=by
 intro H b t a bs hp
 obtain ⟨fn,hf,hcf⟩:=h
 refine acall_fin hf hcf (by simp [irLyTwo]) fun hcl _ => ?_
 have hbl:=hp.hb
 cases x with
 | mk k1 f1 t1 w1 a1 z1 ks1 =>
 cases y with
 | mk k2 f2 t2 w2 a2 z2 ks2 =>
 rw [N.v_mk] at hx hy
 have h1:strOp .add [32] s=some (.str ([32]++s)):=strOp_add' (by simp; omega)
 have h2:strOp .add ([32]++s) [32]=some (.str ([32]++s++[32])):=strOp_add' (by simp; omega)
 simp only [List.map_cons,List.map_nil,N.enc_mk]
 simp [irLyTwo,rowAt_0,rowAt_1]
 refine CallK_of' (hx.at0 (hp.le (by simp))) ?_
 simp [-strOp,h1]
 simp [-strOp] at h2
 simp [-strOp,h2]
 refine CallK_of' ((hws d (32 :: (s++[32]))).at0 (hp.ptr (by simp; omega))) ?_
 simp [rowAt_1]
 refine CallK_of' (hy.at0 (hp.ptr (by simp; omega))) ?_
 simp [RetK,PB_len,PB_cut0' hp hcl]
theorem sepU_take (l:List Us) (i:Nat) (h:i < l.length):txU (sepU (l.take (i+1)))=txU (sepU (l.take i))++(if i=0 then [] else [44,32])++txU l[i]:=by
 have key:∀ (a:List Us) (u:Us),txU (sepU (a++[u]))=txU (sepU a)++(if a=[] then [] else [44,32])++txU u:=fun a u=>by
  induction a with
  | nil=>simp [sepU,txU]
  | cons v r ih =>
    rw [List.cons_append,sepU_cons2 _ (by simp),txU_app,txU_cons,txU_cons,ih]
    by_cases hr:r=[]
    · subst hr; simp [sepU,spU,txU]
    · rw [sepU_cons2 _ hr,txU_app,txU_cons,txU_cons]; simp [hr]
 rw [List.take_succ_eq_append_getElem h,key]
 congr 2
 cases l with
 | nil=>simp at h
 | cons v r=>cases i<;>simp
theorem sepU_take_le (l:List Us):∀ i,i≤l.length→(txU (sepU (l.take i))).length≤(txU (sepU l)).length:=by
 have step:∀ k i,i+k=l.length→(txU (sepU (l.take i))).length≤(txU (sepU l)).length:=fun k=>by
  induction k with
  | zero=>intro i hi; rw [List.take_of_length_le (by omega)]; exact Nat.le_refl _
  | succ k ih =>
    intro i hi
    have h1:=ih (i+1) (by omega)
    rw [sepU_take l i (by omega)] at h1
    simp only [List.length_append] at h1
    omega
 exact fun i hi=>step (l.length - i) i (by omega)
theorem Has.lyList {f ws node} (h:Has P f (irLyList ws node tn)) (hws:WsOk P tp H0 ws) (op en:Bs) (z:Bool) (d:Nat) (ps:List (N × Us)) (hps:ps.length≤1048576) (hn:∀ p ∈ ps,Wr P tp H0 node [p.1.v] (.tup []) d (txU p.2)) :
 Wr P tp H0 f [.d (.str op),.d (.sl z 6 ((ps.map (·.1)).map N.enc)),.d (.str en)] (.tup []) d (op++txU (sepU (ps.map (·.2)))++en):=by
 intro H b t a bs hp
 obtain ⟨fn,hf,hcf⟩:=h
 refine acall_fin hf hcf (by simp [irLyList]) fun hcl _ => ?_
 have hbl:=hp.hb
 obtain ⟨R,hR⟩:∃ R,R=(ps.map (·.1)).map N.enc:=⟨_,rfl⟩
 have hRl:R.length=ps.length:=by rw [hR]; simp
 obtain ⟨S,hS⟩:∃ S,S=ps.map (·.2):=⟨_,rfl⟩
 have hSl:S.length=ps.length:=by rw [hS]; simp
 rw [← hR]
 rw [← hS] at hp ⊢
 simp [irLyList]
 refine CallK_of' ((hws d op).at0 (hp.le (by simp))) ?_
 simp [hRl]
 refine LoopK_out 0 (fun fr H'=>fr 0 = .ptr b 0∧fr 3 = .d (.str en)∧H'=PB tp H b t (.ptr b 0) d (bs++op++txU (sepU S))) ?_ ?_
 · refine RangeK_of H.length ps.length (fun i fr H'=>fr 0 = .ptr b 0∧fr 3 = .d (.str en)∧fr 15 = .d (.sl z 6 R)∧H'=PB tp H b t (.ptr b 0) d (bs++op++txU (sepU (S.take i)))) (by omega) (by decide) (by simp [PB_len]) (by simp) ?_ ?_ ?_
   · simp [hbl,PB_cut0' hp hcl,sepU,txU_nil]
   · rintro i fr H' hi f17 f16 ⟨f0,f3,f15,rfl⟩
     have hr:Zam.rowAt R i=some (ps[i].1.enc):=by
      rw [hR,List.map_map]
      exact rowAt_map (N.enc ∘ (·.1)) hi
     have hst:=sepU_take S i (by omega)
     have hsl:=sepU_take_le S (i+1) (by omega)
     have hSi:S[i]=ps[i].2:=by simp [hS]
     rw [hSi] at hst
     have hN:=hn ps[i] (List.getElem_mem hi)
     generalize ps[i]=q at hr hst hN
     obtain ⟨x,us⟩:=q
     cases x with
     | mk k f' t' w a' z' ks =>
     simp only at hr hst hN
     rw [N.enc_mk] at hr
     rw [N.v_mk] at hN
     rw [hst] at hsl
     by_cases h0:i=0
     · subst h0
       simp [sepU,txU_nil] at hsl hst hr f17 ⊢
       simp [f17,f15,hr,f0,PB_len]
       refine CallK_of' (hN.at (hp.ptr (by simp; omega)) _) ?_
       simp
       refine NextK_of H.length (Nat.le_refl _) (by simp [f17,f16,PB_len]) ?_
       simp [f0,f3,f15,hbl,PB_cut0 hp hcl,hst]
     · have h0':0 < i:=by omega
       simp [h0] at hsl hst ⊢
       simp [f17,f15,hr,f0,PB_len,h0']
       refine CallK_of' ((hws d [44,32]).at (hp.ptr (by simp; omega)) _) ?_
       simp [PB_get,f0]
       refine CallK_of' (hN.at (hp.ptr (by simp; omega)) _) ?_
       simp
       refine NextK_of H.length (Nat.le_refl _) (by simp [f17,f16,PB_len]) ?_
       simp [f0,f3,f15,hbl,PB_cut0 hp hcl,hst]
   · rintro fr H' f17 f16 ⟨f0,f3,f15,rfl⟩
     rw [List.take_of_length_le (by omega)]
     simp [f0,f3]
 · rintro fr H' ⟨f0,f3,rfl⟩
   simp [f0,f3]
   refine CallK_of' ((hws d en).at0 (hp.ptr (by simp; omega))) ?_
   simp [RetK,PB_len,PB_cut0' hp hcl]
end
end
section
theorem PB_set {tp:TypeId} {H:Hp} {b t:Nat} {a a':A} {n m:Nat} {bs:Bs} (ne:t ≠ b):(PB tp H b t a n bs).set b (.box tp [a',.osl true 1 (byteRows bs) t,.d (.int .i64 (m:Int))])=PB tp H b t a' m bs:=by
 unfold PB
 rw [List.set_comm (i:=t) (j:=b) _ _ ne,List.set_set]
def nlsT (d:Nat) (S:List Us):Bs:=txU (S.flatMap fun u=>nlU d :: u)
theorem nlsT_take (d:Nat) (S:List Us) (i:Nat) (h:i < S.length):nlsT d (S.take (i+1))=nlsT d (S.take i)++(10 :: spc d)++txU S[i]:=by
 unfold nlsT
 rw [List.take_succ_eq_append_getElem h,List.flatMap_append,txU_app]
 simp [txU_cons,nlU]
theorem nlsT_le (d:Nat) (S:List Us) (i:Nat):(nlsT d (S.take i)).length≤(nlsT d S).length:=by
 have h:nlsT d S=nlsT d (S.take i)++nlsT d (S.drop i):=by
  unfold nlsT
  rw [← txU_app,← List.flatMap_append,List.take_append_drop]
 rw [h]; simp
theorem blkU_tx (d:Nat) (S:List Us):txU (blkU d S)=123 :: (nlsT (d+1) S++((if S=[] then [] else 10 :: spc d)++[125])):=by
 unfold blkU nlsT
 rw [txU_cons,txU_app,txU_app]
 by_cases h:S=[]<;>simp [h,txU_cons,txU_nil,nlU]
section
variable {P:Program} {tp tn:TypeId} {H0:Hp}
theorem Has.lyBlock {f wb line node} (h:Has P f (irLyBlock wb line node tn)) (hwb:WbOk P tp H0 wb) (hline:∀ d,Wr P tp H0 line [] (.tup []) d (10 :: spc d)) (z:Bool) (d:Nat) (hd:d≤1000000) (ps:List (N × Us)) (hps:ps.length≤1048576)
 (hn:∀ p ∈ ps,Wr P tp H0 node [p.1.v] (.tup []) (d+1) (txU p.2)) :
 Wr P tp H0 f [.d (.sl z 6 ((ps.map (·.1)).map N.enc))] (.tup []) d (txU (blkU d (ps.map (·.2)))):=by
 intro H b t a bs hp
 obtain ⟨fn,hf,hcf⟩:=h
 refine acall_fin hf hcf (by simp [irLyBlock]) fun hcl _ => ?_
 have hbl:=hp.hb
 obtain ⟨R,hR⟩:∃ R,R=(ps.map (·.1)).map N.enc:=⟨_,rfl⟩
 have hRl:R.length=ps.length:=by rw [hR]; simp
 obtain ⟨S,hS⟩:∃ S,S=ps.map (·.2):=⟨_,rfl⟩
 have hSl:S.length=ps.length:=by rw [hS]; simp
 rw [← hR]
 rw [← hS] at hp ⊢
 rw [blkU_tx] at hp ⊢
 have w1:IntKind.i64.wrap ((d:Int)+1)=((d+1:Nat):Int):=by rw [wrap_i64 (by omega) (by omega)]; simp
 have w2:IntKind.i64.wrap (d:Int)=(d:Int):=wrap_i64 (by omega) (by omega)
 simp only [List.length_cons,List.length_append,List.length_nil] at hp
 simp [irLyBlock]
 refine CallK_of' ((hwb d 123).at0 (hp.le (by simp))) ?_
 have hg:=PB_b (tp:=tp) (a := .ptr b 0) (n:=d) (bs:=bs++[123]) hp.hb hp.ne
 have hs1:=PB_set (tp:=tp) (H:=H) (b:=b) (t:=t) (a := .ptr b 0) (a' := .ptr b 0) (n:=d) (m:=d+1) (bs:=bs++[123]) hp.ne
 simp only [Int.natCast_add,Int.cast_ofNat_Int] at hs1 w1
 simp [hg,w1,hs1,hRl]
 have hpl:=fun m=>hp.ptr (m':=m)
 refine LoopK_out 0 (fun fr H'=>fr 0 = .ptr b 0∧fr 1 = .d (.sl z 6 R)∧H'=PB tp H b t (.ptr b 0) (d+1) (bs++[123]++nlsT (d+1) S)) ?_ ?_
 · refine RangeK_of H.length ps.length (fun i fr H'=>fr 0 = .ptr b 0∧fr 1 = .d (.sl z 6 R)∧fr 17 = .d (.sl z 6 R)∧H'=PB tp H b t (.ptr b 0) (d+1) (bs++[123]++nlsT (d+1) (S.take i))) (by omega) (by decide) (by simp [PB_len]) (by simp) ?_ ?_ ?_
   · simp [hbl,PB_cut0' hp hcl,nlsT,txU_nil]
   · rintro i fr H' hi f19 f18 ⟨f0,f1,f17,rfl⟩
     have hr:Zam.rowAt R i=some (ps[i].1.enc):=by
      rw [hR,List.map_map]
      exact rowAt_map (N.enc ∘ (·.1)) hi
     have hst:=nlsT_take (d+1) S i (by omega)
     have hsl:=nlsT_le (d+1) S (i+1)
     have hSi:S[i]=ps[i].2:=by simp [hS]
     rw [hSi] at hst
     have hN:=hn ps[i] (List.getElem_mem hi)
     generalize ps[i]=q at hr hst hN
     obtain ⟨x,us⟩:=q
     cases x with
     | mk k f' t' w a' z' ks =>
     simp only at hr hst hN
     rw [N.enc_mk] at hr
     rw [N.v_mk] at hN
     rw [hst] at hsl
     simp at hsl hst
     simp [f19,f17,hr,f0,PB_len]
     refine CallK_of' ((hline (d+1)).at (hp.ptr (by simp; omega)) _) ?_
     simp [PB_get,f0]
     refine CallK_of' (hN.at (hp.ptr (by simp; omega)) _) ?_
     simp
     refine NextK_of H.length (Nat.le_refl _) (by simp [f19,f18,PB_len]) ?_
     simp [f0,f1,f17,hbl,PB_cut0 hp hcl,hst]
   · rintro fr H' f19 f18 ⟨f0,f1,f17,rfl⟩
     rw [List.take_of_length_le (by omega)]
     simp [f0,f1]
 · rintro fr H' ⟨f0,f1,rfl⟩
   have hg2:=PB_b (tp:=tp) (H:=H) (b:=b) (t:=t) (a := .ptr b 0) (n:=d+1) (bs:=bs++[123]++nlsT (d+1) S) hp.hb hp.ne
   have hs2:=PB_set (tp:=tp) (H:=H) (b:=b) (t:=t) (a := .ptr b 0) (a' := .ptr b 0) (n:=d+1) (m:=d) (bs:=bs++[123]++nlsT (d+1) S) hp.ne
   simp only [Int.natCast_add,Int.cast_ofNat_Int] at hg2
   simp only [List.append_assoc,List.singleton_append] at hg2 hs2
   simp [f0,f1,hg2,hs2,w2,hRl]
   by_cases h0:S=[]
   · have hp0:ps.length=0:=by rw [← hSl,h0]; rfl
     rw [if_pos h0] at hp ⊢
     simp [hp0,f0]
     refine CallK_of' ((hwb d 125).at0 (hp.ptr (by simp; omega))) ?_
     simp [RetK,PB_len,PB_cut0' hp hcl]
   · have hp0:0 < ps.length:=by rw [← hSl]; exact List.length_pos_iff.2 h0
     rw [if_neg h0] at hp ⊢
     simp [hp0,f0]
     refine CallK_of' ((hline d).at0 (hp.ptr (by simp; omega))) ?_
     simp [f0]
     refine CallK_of' ((hwb d 125).at0 (hp.ptr (by simp; omega))) ?_
     simp [RetK,PB_len,PB_cut0' hp hcl]
theorem Has.lyClosed {f list typed wb node ws} (h:Has P f (irLyClosed list typed wb node)) (hlist:Has P list (irLyList ws node tn)) (htyped:Has P typed (irLyTyped ws node tn)) (hws:WsOk P tp H0 ws) (hwb:WbOk P tp H0 wb) (p y x:N) (up uy ux:Us) (z:Bool) (d:Nat)
 (tp':Tr .params d p up) (ty:Tr .typed d y uy) (hsp:p.size≤1048576) (hsy:y.size≤1048576) (hdy:d+y.depth≤1000) (hp':∀ k ∈ p.ks,∀ us,Tr .param d k us→Wr P tp H0 node [k.v] (.tup []) d (txU us)) (hy:NodeOk P tp H0 node y) (hx:Wr P tp H0 node [x.v] (.tup []) d (txU ux)) :
 Wr P tp H0 f [.d (.sl z 6 ([p,y,x].map N.enc))] (.tup []) d (txU (up++(uy++(spU :: ux)))):=by
 intro H b t a bs hp
 obtain ⟨fn,hf,hcf⟩:=h
 refine acall_fin hf hcf (by simp [irLyClosed]) fun hcl _ => ?_
 have hbl:=hp.hb
 have hT:=htyped.lyTyped hws y d uy ty hsy hdy hy
 cases tp' with
 | @params d f0 t0 a0 z0 ps hps =>
 rw [N.size_mk] at hsp
 have hl:=N.sizes_len (ps.map (·.1))
 have hL:=hlist.lyList hws [40] [41] z0 d ps (by simp at hl; omega) fun q hq=>hp' q.1 (List.mem_map_of_mem hq) q.2 (hps q hq)
 cases y with
 | mk k1 f1 t1 w1 a1 z1 ks1 =>
 cases x with
 | mk k2 f2 t2 w2 a2 z2 ks2 =>
 rw [N.v_mk] at hT hx
 simp only [List.map_cons,List.map_nil,N.enc_mk]
 rw [txU_app,txU_app,txU_cons,txU_cons,txU_app,txU_cons,txU_nil] at hp ⊢
 generalize (ps.map (·.1)).map N.enc=R at *
 simp [spU] at hp hL ⊢
 simp [irLyClosed,rowAt_0,rowAt_1,rowAt_2]
 refine CallK_of' (hL.at0 (hp.le (by simp))) ?_
 simp [rowAt_0,rowAt_1,rowAt_2]
 refine CallK_of' (hT _ _ _ _ (hp.ptr (by simp; omega))) ?_
 simp
 refine CallK_of' ((hwb d 32).at0 (hp.ptr (by simp; omega))) ?_
 simp [rowAt_0,rowAt_1,rowAt_2]
 refine CallK_of' (hx.at0 (hp.ptr (by simp; omega))) ?_
 simp [RetK,PB_len,PB_cut0' hp hcl]
end
end
section
theorem kid_facts {ks:List N} {k:N} (h:k ∈ ks):k.size≤N.sizes ks∧k.depth≤N.depths ks:=by
 refine ⟨N.sizes_mem h,?_⟩
 induction ks with
 | nil=>simp at h
 | cons p r ih =>
   rw [N.depths_cons]
   rcases List.mem_cons.1 h with rfl | h
   · omega
   · have:=ih h; omega
section
variable {P:Program} {tp tn:TypeId} {H0:Hp}
theorem HasT.lyExpr {f two node ws list kind} (h:HasT P [6000053,6000074,6000095,6000014] f (irLyExpr two node ws list kind tn)) (htwo:Has P two (irLyTwo node ws)) (hlist:Has P list (irLyList ws node tn)) (hws:WsOk P tp H0 ws) (hkind:KindOk P H0 kind)
 (n:N) (c:Cl) (d:Nat) (us:Us) (ht:Tr c d n us) (hc:c = .expr∨c = .kind∨c = .tfield∨c = .entry) (h28:n.k ≠ 28) (hq:∀ k ∈ n.ks,NodeOk P tp H0 node k) (hsz:n.size≤1048576) (hdp:d+n.depth≤1000):Wr P tp H0 f [n.v] (.tup []) d (txU us):=by
 have hK:∀ k ∈ n.ks,∀ c us,c ≠ .file→c ≠ .params→c ≠ .typed→Tr c d k us→Wr P tp H0 node [k.v] (.tup []) d (txU us):=fun k hk c us h1 h2 h3 h4=>by
  have hf:=kid_facts hk
  cases n with
  | mk kk ff tt ww aa zz kks =>
  rw [N.size_mk] at hsz
  rw [N.depth_mk] at hdp
  simp only [N.ks] at hf
  exact hq k hk c d us h1 h2 h3 h4 (by omega) (by omega)
 have hlen:n.ks.length≤1048576:=by
  cases n with
  | mk kk ff tt ww aa zz kks =>
  rw [N.size_mk] at hsz
  have:=N.sizes_len kks
  simp only [N.ks]; omega
 intro H b t a bs hp
 obtain ⟨fn,hf,hcf⟩:=h
 refine acall_fin hf hcf (by simp [irLyExpr]) fun hcl _ => ?_
 have hbl:=hp.hb
 cases ht with
 | @bin d k f' t' a' p q z x y ux uy sg hk hx hy hp' hq' =>
   simp only [N.ks] at hK
   have hX:=hK x (by simp) _ _ (by simp) (by simp) (by simp) hx
   have hY:=hK y (by simp) _ _ (by simp) (by simp) (by simp) hy
   have hsl:sg.length≤100:=by
    simp only [binT,List.mem_cons,Prod.mk.injEq,List.not_mem_nil,or_false] at hk
    rcases hk with ⟨-,rfl,-⟩ | ⟨-,rfl,-⟩ | ⟨-,rfl,-⟩ | ⟨-,rfl,-⟩ | ⟨-,rfl,-⟩<;>simp
   have hT:=htwo.lyTwo hws sg hsl x y z d _ _ hX hY
   have he:txU (ux++(spU :: (5,sg) :: spU :: uy))=txU ux++([32]++sg++[32])++txU uy:=by simp [txU_app,txU_cons,spU]
   rw [he] at hp ⊢
   rw [N.v_mk]
   simp only [binT,List.mem_cons,Prod.mk.injEq,List.not_mem_nil,or_false] at hk
   rcases hk with ⟨rfl,rfl,-⟩ | ⟨rfl,rfl,-⟩ | ⟨rfl,rfl,-⟩ | ⟨rfl,rfl,-⟩ | ⟨rfl,rfl,-⟩
   all_goals
    simp only [List.map_cons,List.map_nil] at hT ⊢
    simp [irLyExpr,PB_len,PB_get]
    refine CallK_of' (hT.at hp _) ?_
    simp [RetK,PB_len,PB_cut0 hp hcl]
 | @field d f' t' a' z w x ux hw hx hp' =>
   simp only [N.ks] at hK
   have hX:=hK x (by simp) _ _ (by simp) (by simp) (by simp) hx
   have h1:strOp .add [46] w=some (.str ([46]++w)):=strOp_add' (by have:=hw.1.len; simp; omega)
   rw [N.v_mk]
   cases x with
   | mk k2 f2 t2 w2 a2 z2 ks2 =>
   rw [N.v_mk] at hX
   simp only [List.map_cons,List.map_nil,N.enc_mk]
   rw [txU_app,txU_cons,txU_cons,txU_nil] at hp ⊢
   simp at hp ⊢
   simp [irLyExpr,PB_len,PB_get,rowAt_0]
   refine CallK_of' (hX.at (hp.le (by simp)) _) ?_
   simp [PB_get,-strOp,h1]
   refine CallE_of ((hws d (46 :: w)).at (hp.ptr (by simp; omega)) _) ?_
   simp [RetK,PB_len,PB_cut0 hp hcl]
 | @call d f' t' a' z x ux ps hx hp' hps =>
   simp only [N.ks] at hK hlen
   have hX:=hK x (by simp) _ _ (by simp) (by simp) (by simp) hx
   have hL:=hlist.lyList hws [40] [41] false d ps (by simp at hlen; omega) fun q hq=>hK q.1 (List.mem_cons_of_mem _ (List.mem_map_of_mem hq)) _ q.2 (by simp) (by simp) (by simp) (hps q hq)
   rw [N.v_mk]
   cases x with
   | mk k2 f2 t2 w2 a2 z2 ks2 =>
   rw [N.v_mk] at hX
   simp only [List.map_cons,N.enc_mk]
   rw [txU_app,txU_cons,txU_app,txU_cons,txU_nil] at hp ⊢
   generalize hR:(ps.map (·.1)).map N.enc=R at *
   have hsub:subL ([.int .i64 k2,.int .i64 f2,.int .i64 t2,.str w2,.int .i64 a2,.sl z2 6 (ks2.map N.enc)] :: R) 1 ((R.length:Int)+1)=some R:=by
    rw [subL_ok ⟨by omega,by omega,by simp⟩]
    have:(((R.length:Int)+1).toNat - (1:Int).toNat)=R.length:=by omega
    rw [this]; simp
   simp at hp hL ⊢
   simp [irLyExpr,PB_len,PB_get,rowAt_0]
   refine CallK_of' (hX.at (hp.le (by simp)) _) ?_
   simp [PB_get,hsub]
   refine CallK_of' (hL.at (hp.ptr (by simp; omega)) _) ?_
   simp [RetK,PB_len,PB_cut0 hp hcl]
 | @num d f' t' a' z w hw =>
   rw [N.v_mk,txU_cons,txU_nil,List.append_nil] at *
   simp [irLyExpr,PB_len,PB_get]
   refine CallE_of ((hws d w).at hp _) ?_
   simp [RetK,PB_len,PB_cut0 hp hcl]
 | @str d f' t' a' z w hw =>
   rw [N.v_mk,txU_cons,txU_nil,List.append_nil] at *
   simp [irLyExpr,PB_len,PB_get]
   refine CallE_of ((hws d w).at hp _) ?_
   simp [RetK,PB_len,PB_cut0 hp hcl]
 | @name d f' t' a' z w hw =>
   rw [N.v_mk,txU_cons,txU_nil,List.append_nil] at *
   simp [irLyExpr,PB_len,PB_get]
   refine CallE_of ((hws d w).at hp _) ?_
   simp [RetK,PB_len,PB_cut0 hp hcl]
 | @input d f' t' a' z =>
   have hk:=fun X=>hkind (.mk 24 f' t' [] a' z []) (PB tp H b t a d bs++X) ((PB_pre hp).app X) ⟨by simp [N.k],by simp [N.k]⟩
   rw [N.v_mk] at hk
   rw [N.v_mk,txU_cons,txU_nil,List.append_nil] at *
   simp [irLyExpr,PB_len,PB_get]
   refine CallD_of (hk _) ?_
   simp
   refine CallE_of ((hws d kInput).at hp _) ?_
   simp [RetK,PB_len,PB_cut0 hp hcl]
 | @group d f' t' a' z x ux hx =>
   simp only [N.ks] at hK hlen
   have hL:=hlist.lyList hws [40] [41] z d [(x,ux)] (by simp) fun q hq=>by
    obtain rfl:q=(x,ux):=by simpa using hq
    exact hK x (by simp) _ _ (by simp) (by simp) (by simp) hx
   rw [N.v_mk]
   simp only [List.map_cons,List.map_nil] at hL ⊢
   rw [txU_cons,txU_app,txU_cons,txU_nil] at hp ⊢
   simp [sepU] at hp hL ⊢
   simp [irLyExpr,PB_len,PB_get]
   refine CallK_of' (hL.at (hp.le (by simp)) _) ?_
   simp [RetK,PB_len,PB_cut0 hp hcl]
 | @record d f' t' a' z ps hps =>
   simp only [N.ks] at hK hlen
   have hL:=hlist.lyList hws [123] [125] z d ps (by simpa using hlen) fun q hq=>hK q.1 (List.mem_map_of_mem hq) _ q.2 (by simp) (by simp) (by simp) (hps q hq)
   rw [N.v_mk]
   rw [txU_cons,txU_app,txU_cons,txU_nil] at hp ⊢
   generalize (ps.map (·.1)).map N.enc=R at *
   simp at hp hL ⊢
   simp [irLyExpr,PB_len,PB_get]
   refine CallK_of' (hL.at (hp.le (by simp)) _) ?_
   simp [RetK,PB_len,PB_cut0 hp hcl]
 | @entry d f' t' a' z w x ux hw hx =>
   simp only [N.ks] at hK
   have hX:=hK x (by simp) _ _ (by simp) (by simp) (by simp) hx
   have h1:strOp .add w [58,32]=some (.str (w++[58,32])):=strOp_add' (by have:=hw.1.len; simp; omega)
   rw [N.v_mk]
   cases x with
   | mk k2 f2 t2 w2 a2 z2 ks2 =>
   rw [N.v_mk] at hX
   simp only [List.map_cons,List.map_nil,N.enc_mk]
   rw [txU_cons,txU_cons,txU_cons] at hp ⊢
   simp [spU] at hp ⊢
   simp [irLyExpr,PB_len,PB_get,-strOp,h1]
   refine CallE_of ((hws d (w++[58,32])).at (hp.le (by simp)) _) ?_
   simp [PB_get,rowAt_0]
   refine CallK_of' (hX.at (hp.ptr (by simp; omega)) _) ?_
   simp [RetK,PB_len,PB_cut0 hp hcl]
 | @tfield d f' t' a' z w x ux hw hx =>
   simp only [N.ks] at hK
   have hX:=hK x (by simp) _ _ (by simp) (by simp) (by simp) hx
   have h1:strOp .add w [58,32]=some (.str (w++[58,32])):=strOp_add' (by have:=hw.1.len; simp; omega)
   rw [N.v_mk]
   cases x with
   | mk k2 f2 t2 w2 a2 z2 ks2 =>
   rw [N.v_mk] at hX
   simp only [List.map_cons,List.map_nil,N.enc_mk]
   rw [txU_cons,txU_cons,txU_cons] at hp ⊢
   simp [spU] at hp ⊢
   simp [irLyExpr,PB_len,PB_get,-strOp,h1]
   refine CallE_of ((hws d (w++[58,32])).at (hp.le (by simp)) _) ?_
   simp [PB_get,rowAt_0]
   refine CallK_of' (hX.at (hp.ptr (by simp; omega)) _) ?_
   simp [RetK,PB_len,PB_cut0 hp hcl]
 | @word d k f' t' a' z w hk24 h24 =>
   rw [txU_cons,txU_nil,List.append_nil] at *
   simp only [wordT,List.mem_cons,Prod.mk.injEq,List.not_mem_nil,or_false] at hk24
   rcases hk24 with ⟨rfl,rfl⟩ | ⟨rfl,rfl⟩ | ⟨rfl,rfl⟩ | ⟨rfl,rfl⟩
   · exact absurd rfl h24
   · have hk:=fun X=>hkind (.mk 29 f' t' [] a' z []) (PB tp H b t a d bs++X) ((PB_pre hp).app X) ⟨by simp [N.k],by simp [N.k]⟩
     rw [N.v_mk] at *
     simp [irLyExpr,PB_len,PB_get]
     refine CallD_of (hk _) ?_
     simp
     refine CallE_of ((hws d kInt).at hp _) ?_
     simp [RetK,PB_len,PB_cut0 hp hcl]
   · have hk:=fun X=>hkind (.mk 30 f' t' [] a' z []) (PB tp H b t a d bs++X) ((PB_pre hp).app X) ⟨by simp [N.k],by simp [N.k]⟩
     rw [N.v_mk] at *
     simp [irLyExpr,PB_len,PB_get]
     refine CallD_of (hk _) ?_
     simp
     refine CallE_of ((hws d kStr).at hp _) ?_
     simp [RetK,PB_len,PB_cut0 hp hcl]
   · have hk:=fun X=>hkind (.mk 31 f' t' [] a' z []) (PB tp H b t a d bs++X) ((PB_pre hp).app X) ⟨by simp [N.k],by simp [N.k]⟩
     rw [N.v_mk] at *
     simp [irLyExpr,PB_len,PB_get]
     refine CallD_of (hk _) ?_
     simp
     refine CallE_of ((hws d kDyn).at hp _) ?_
     simp [RetK,PB_len,PB_cut0 hp hcl]
 | @trec d f' t' a' z ps hps =>
   simp only [N.ks] at hK hlen
   have hL:=hlist.lyList hws [123] [125] z d ps (by simpa using hlen) fun q hq=>hK q.1 (List.mem_map_of_mem hq) _ q.2 (by simp) (by simp) (by simp) (hps q hq)
   rw [N.v_mk]
   rw [txU_cons,txU_app,txU_cons,txU_nil] at hp ⊢
   generalize (ps.map (·.1)).map N.enc=R at *
   simp at hp hL ⊢
   simp [irLyExpr,PB_len,PB_get]
   refine CallK_of' (hL.at (hp.le (by simp)) _) ?_
   simp [RetK,PB_len,PB_cut0 hp hcl]
 | @tfn d f' t' a' z y uy ps hps hy =>
   simp only [N.ks] at hK hlen
   have hY:=hK y (by simp) _ _ (by simp) (by simp) (by simp) hy
   have hL:=hlist.lyList hws [40] [41,58,32] false d ps (by simp at hlen; omega) fun q hq=>hK q.1 (List.mem_append_left _ (List.mem_map_of_mem hq)) _ q.2 (by simp) (by simp) (by simp) (hps q hq)
   rw [N.v_mk]
   cases y with
   | mk k2 f2 t2 w2 a2 z2 ks2 =>
   rw [N.v_mk] at hY
   have hRl:((ps.map (·.1)).map N.enc).length≤1048576:=by simp at hlen ⊢; omega
   simp only [List.map_append,List.map_cons,List.map_nil,N.enc_mk]
   rw [txU_cons,txU_cons,txU_app,txU_cons,txU_cons,txU_cons] at hp ⊢
   generalize (ps.map (·.1)).map N.enc=R at *
   have w1:IntKind.i64.wrap (R.length:Int)=(R.length:Int):=wrap_i64 (by omega) (by omega)
   have hsub:subL (R++[[.int .i64 k2,.int .i64 f2,.int .i64 t2,.str w2,.int .i64 a2,.sl z2 6 (ks2.map N.enc)]]) 0 (R.length:Int)=some R:=by
    rw [subL_ok ⟨by omega,by omega,by simp; omega⟩]; simp
   have hz:(R++[[D.int .i64 k2,.int .i64 f2,.int .i64 t2,.str w2,.int .i64 a2,.sl z2 6 (ks2.map N.enc)]]).isEmpty=false:=by cases R<;>rfl
   have hrow:Zam.rowAt (R++[[.int .i64 k2,.int .i64 f2,.int .i64 t2,.str w2,.int .i64 a2,.sl z2 6 (ks2.map N.enc)]]) (R.length:Int)=some [.int .i64 k2,.int .i64 f2,.int .i64 t2,.str w2,.int .i64 a2,.sl z2 6 (ks2.map N.enc)]:=by
    unfold Zam.rowAt
    rw [if_pos (by omega)]; simp
   simp [spU] at hp hL ⊢
   simp [irLyExpr,PB_len,PB_get]
   refine CallK_of' ((hws d kFn).at (hp.le (by simp)) _) ?_
   simp [PB_get,w1,hsub,hz]
   refine CallK_of' (hL.at (hp.ptr (by simp; omega)) _) ?_
   simp [PB_get,w1,hrow]
   refine CallK_of' (hY.at (hp.ptr (by simp; omega)) _) ?_
   simp [RetK,PB_len,PB_cut0 hp hcl]
 | lambda=>exact absurd rfl h28
 | _=>simp at hc
end
end
section
theorem Tr.expr_k {c:Cl} {d:Nat} {n:N} {us:Us} (h:Tr c d n us) (hc:c = .expr∨c = .kind∨c = .tfield∨c = .entry):14≤n.k:=by
 cases h with
 | bin hk hx hy hp hq =>
   simp only [binT,List.mem_cons,Prod.mk.injEq,List.not_mem_nil,or_false] at hk
   simp only [N.k]; omega
 | word hk h24 =>
   simp only [wordT,List.mem_cons,Prod.mk.injEq,List.not_mem_nil,or_false] at hk
   simp only [N.k]; omega
 | _=>first | (simp at hc; done) | (simp [N.k]; done)
section
variable {P:Program} {tp tn:TypeId} {H0:Hp}
theorem HasT.lyNode {f wb ws closed typed block stmt expr list line two kind} (h:HasT P [6000045,6000054,6000074,6000093,6000113] f (irLyNode f wb ws closed typed block stmt expr tn)) (hclosed:Has P closed (irLyClosed list typed wb f)) (htyped:Has P typed (irLyTyped ws f tn)) (hblock:Has P block (irLyBlock wb line f tn)) (hline:Has P line (irLyLine wb ws))
 (hstmt:Has P stmt (irLyStmt ws f wb tn)) (hexpr:HasT P [6000053,6000074,6000095,6000014] expr (irLyExpr two f ws list kind tn)) (htwo:Has P two (irLyTwo f ws)) (hlist:Has P list (irLyList ws f tn)) (hws:WsOk P tp H0 ws) (hwb:WbOk P tp H0 wb) (hkind:KindOk P H0 kind) :
 ∀ n:N,NodeOk P tp H0 f n∧∀ k ∈ n.ks,NodeOk P tp H0 f k:=by
 refine N.ind fun k0 f0 t0 w0 a0 z0 ks0 ih=>⟨?_,fun k hk=>(ih k hk).1⟩
 intro c d us c1 c2 c3 ht hsz hdp H b t a bs hp
 have hsz0:=hsz
 have hdp0:=hdp
 rw [N.size_mk] at hsz
 rw [N.depth_mk] at hdp
 have hK:∀ k ∈ ks0,∀ c us,c ≠ .file→c ≠ .params→c ≠ .typed→Tr c d k us→Wr P tp H0 f [k.v] (.tup []) d (txU us):=fun k hk c us h1 h2 h3 h4=>by
  have hf:=kid_facts hk
  exact (ih k hk).1 c d us h1 h2 h3 h4 (by omega) (by omega)
 have hlen:ks0.length≤1048576:=by have:=N.sizes_len ks0; omega
 have hbl:=hp.hb
 by_cases hex:(c = .expr∨c = .kind∨c = .tfield∨c = .entry)∧k0 ≠ 28
 · have h14:=ht.expr_k hex.1
   simp only [N.k] at h14
   have hE:=hexpr.lyExpr htwo hlist hws hkind (.mk k0 f0 t0 w0 a0 z0 ks0) c d us ht hex.1 hex.2 (fun k hk=>(ih k hk).1) hsz0 hdp0
   obtain ⟨fn,hf,hcf⟩:=h
   refine acall_fin hf hcf (by simp [irLyNode]) fun hcl _ => ?_
   have n1:k0 ≠ 1:=by omega
   have n2:k0 ≠ 2:=by omega
   have n3:k0 ≠ 3:=by omega
   have n5:k0 ≠ 5:=by omega
   have n6:k0 ≠ 6:=by omega
   have n7:k0 ≠ 7:=by omega
   have n8:k0 ≠ 8:=by omega
   have n9:k0 ≠ 9:=by omega
   have n10:k0 ≠ 10:=by omega
   have n11:k0 ≠ 11:=by omega
   have n12:k0 ≠ 12:=by omega
   have n13:k0 ≠ 13:=by omega
   have n28:=hex.2
   rw [N.v_mk] at hE ⊢
   simp [irLyNode,PB_len,PB_get,n1,n2,n3,n5,n6,n7,n8,n9,n10,n11,n12,n13,n28]
   refine CallK_of' (hE.at hp _) ?_
   simp [RetK,PB_len,PB_cut0 hp hcl]
 cases ht with
 | @use d f1 t1 a1 f2 t2 a2 z1 z2 w m hw hm =>
   obtain ⟨fn,hf,hcf⟩:=h
   refine acall_fin hf hcf (by simp [irLyNode]) fun hcl _ => ?_
   have hwl:=hw.1.len
   have hml:=hm.1.len
   have s1:strOp .add [117,115,101,32] m=some (.str ([117,115,101,32]++m)):=strOp_add' (by simp; omega)
   have s2:strOp .add ([117,115,101,32]++m) [46]=some (.str ([117,115,101,32]++m++[46])):=strOp_add' (by simp; omega)
   have s3:strOp .add ([117,115,101,32]++m++[46]) w0=some (.str ([117,115,101,32]++m++[46]++w0)):=strOp_add' (by simp; omega)
   have s4:strOp .add ([117,115,101,32]++m++[46]++w0) [59]=some (.str ([117,115,101,32]++m++[46]++w0++[59])):=strOp_add' (by simp; omega)
   simp [-strOp] at s1 s2 s3 s4
   have he:txU [(2,kUse),spU,(1,m),(5,[46]),(1,w0),(5,[59])]=117 :: 115 :: 101 :: 32 :: (m++46 :: (w0++[59])):=by simp [txU,spU,kUse]
   rw [he] at hp ⊢
   rw [N.v_mk]
   simp only [List.map_cons,List.map_nil,N.enc_mk]
   simp [irLyNode,PB_len,PB_get,rowAt_0,-strOp,s1,s2,s3,s4]
   refine CallE_of ((hws d _).at hp _) ?_
   simp [RetK,PB_len,PB_cut0 hp hcl]
 | @defn d f1 t1 a1 z1 w p y x up uy ub hw h1 h2 h3 =>
   have hP:=kid_facts (ks:=[p,y,x]) (k:=p) (by simp)
   have hY:=kid_facts (ks:=[p,y,x]) (k:=y) (by simp)
   have hC:=hclosed.lyClosed hlist htyped hws hwb p y x up uy ub z0 d h1 h2 (by omega) (by omega) (by omega) (fun k hk us' ht'=>by
    have hkf:=kid_facts hk
    cases p with
    | mk pk pf pt pw pa pz pks =>
    rw [N.size_mk,N.depth_mk] at hP
    simp only [N.ks] at hkf
    exact (ih _ (by simp)).2 k hk _ _ _ (by simp) (by simp) (by simp) ht' (by omega) (by omega)) (ih y (by simp)).1 (hK x (by simp) _ _ (by simp) (by simp) (by simp) h3)
   obtain ⟨fn,hf,hcf⟩:=h
   refine acall_fin hf hcf (by simp [irLyNode]) fun hcl _ => ?_
   have hwl:=hw.1.len
   have s1:strOp .add [100,101,102,32] w0=some (.str ([100,101,102,32]++w0)):=strOp_add' (by simp; omega)
   rw [txU_cons,txU_cons,txU_cons] at hp ⊢
   simp [spU,kDef] at hp ⊢
   rw [N.v_mk]
   generalize [p,y,x].map N.enc=R at *
   simp [spU,kDef] at hC
   simp [irLyNode,PB_len,PB_get,-strOp,s1]
   refine CallE_of ((hws d (100 :: 101 :: 102 :: 32 :: w0)).at (hp.le (by simp)) _) ?_
   simp [PB_get]
   refine CallK_of' (hC.at (hp.ptr (by simp; omega)) _) ?_
   simp [RetK,PB_len,PB_cut0 hp hcl]
 | @lambda d f1 t1 a1 z1 p y x up uy ub h1 h2 h3 =>
   have hP:=kid_facts (ks:=[p,y,x]) (k:=p) (by simp)
   have hY:=kid_facts (ks:=[p,y,x]) (k:=y) (by simp)
   have hC:=hclosed.lyClosed hlist htyped hws hwb p y x up uy ub z0 d h1 h2 (by omega) (by omega) (by omega) (fun k hk us' ht'=>by
    have hkf:=kid_facts hk
    cases p with
    | mk pk pf pt pw pa pz pks =>
    rw [N.size_mk,N.depth_mk] at hP
    simp only [N.ks] at hkf
    exact (ih _ (by simp)).2 k hk _ _ _ (by simp) (by simp) (by simp) ht' (by omega) (by omega)) (ih y (by simp)).1 (hK x (by simp) _ _ (by simp) (by simp) (by simp) h3)
   obtain ⟨fn,hf,hcf⟩:=h
   refine acall_fin hf hcf (by simp [irLyNode]) fun hcl _ => ?_
   rw [txU_cons] at hp ⊢
   simp [spU,kFn] at hp ⊢
   rw [N.v_mk]
   generalize [p,y,x].map N.enc=R at *
   simp [spU,kFn] at hC
   simp [irLyNode,PB_len,PB_get]
   refine CallK_of' ((hws d [102,110]).at (hp.le (by simp)) _) ?_
   simp [PB_get]
   refine CallK_of' (hC.at (hp.ptr (by simp; omega)) _) ?_
   simp [RetK,PB_len,PB_cut0 hp hcl]
 | @param d f1 t1 a1 z1 w y uy hw h2 =>
   have hY:=kid_facts (ks:=[y]) (k:=y) (by simp)
   have hT:=htyped.lyTyped hws y d uy h2 (by omega) (by omega) (ih y (by simp)).1
   obtain ⟨fn,hf,hcf⟩:=h
   refine acall_fin hf hcf (by simp [irLyNode]) fun hcl _ => ?_
   rw [txU_cons] at hp ⊢
   simp at hp ⊢
   rw [N.v_mk]
   cases y with
   | mk k2 f2 t2 w2 a2 z2 ks2 =>
   rw [N.v_mk] at hT
   simp only [List.map_cons,List.map_nil,N.enc_mk]
   simp [irLyNode,PB_len,PB_get]
   refine CallE_of ((hws d w0).at (hp.le (by simp)) _) ?_
   simp [PB_get,rowAt_0]
   refine CallK_of' (hT.at (hp.ptr (by simp; omega)) _) ?_
   simp [RetK,PB_len,PB_cut0 hp hcl]
 | @block d f1 t1 a1 z1 ps hps =>
   have hB:=hblock.lyBlock hwb (fun d=>hline.lyLine hwb hws d) z0 d (by omega) ps (by simpa using hlen) fun q hq=>by
    have hf:=kid_facts (List.mem_map_of_mem (f:=(·.1)) hq)
    exact (ih q.1 (List.mem_map_of_mem hq)).1 _ _ _ (by simp) (by simp) (by simp) (hps q hq) (by omega) (by omega)
   obtain ⟨fn,hf,hcf⟩:=h
   refine acall_fin hf hcf (by simp [irLyNode]) fun hcl _ => ?_
   rw [N.v_mk]
   generalize (ps.map (·.1)).map N.enc=R at *
   simp [irLyNode,PB_len,PB_get]
   refine CallK_of' (hB.at hp _) ?_
   simp [RetK,PB_len,PB_cut0 hp hcl]
 | @let_ d f1 t1 a1 z1 w y x uy ux hw h2 h3 =>
   have hY:=kid_facts (ks:=[y,x]) (k:=y) (by simp)
   have hT:=htyped.lyTyped hws y d uy h2 (by omega) (by omega) (ih y (by simp)).1
   have hX:=hK x (by simp) _ _ (by simp) (by simp) (by simp) h3
   have hS:=hstmt.lyStmt hws hwb [32,61,32] x d _ hX
   have hwl:=hw.1.len
   have s1:strOp .add [108,101,116,32] w0=some (.str ([108,101,116,32]++w0)):=strOp_add' (by simp; omega)
   obtain ⟨fn,hf,hcf⟩:=h
   refine acall_fin hf hcf (by simp [irLyNode]) fun hcl _ => ?_
   have he:txU ((2,kLet) :: spU :: (1,w0) :: (uy++(spU :: (5,[61]) :: spU :: (ux++[(5,[59])]))))=(108 :: 101 :: 116 :: 32 :: w0)++(txU uy++([32,61,32]++txU ux++[59])):=by simp [txU_cons,txU_app,txU_nil,spU,kLet]
   rw [he] at hp ⊢
   rw [N.v_mk]
   cases y with
   | mk k2 f2 t2 w2 a2 z2 ks2 =>
   cases x with
   | mk k3 f3 t3 w3 a3 z3 ks3 =>
   rw [N.v_mk] at hT hS
   simp only [List.map_cons,List.map_nil,N.enc_mk]
   simp at hp hS ⊢
   simp [irLyNode,PB_len,PB_get,-strOp,s1]
   refine CallE_of ((hws d (108 :: 101 :: 116 :: 32 :: w0)).at (hp.le (by simp)) _) ?_
   simp [PB_get,rowAt_0]
   refine CallK_of' (hT.at (hp.ptr (by simp; omega)) _) ?_
   simp [PB_get,rowAt_1]
   refine CallK_of' (hS.at (hp.ptr (by simp; omega)) _) ?_
   simp [RetK,PB_len,PB_cut0 hp hcl]
 | @set d f1 t1 a1 z1 w x ux hw h3 =>
   have hX:=hK x (by simp) _ _ (by simp) (by simp) (by simp) h3
   have hS:=hstmt.lyStmt hws hwb (w0++[32,61,32]) x d _ hX
   have hwl:=hw.1.len
   have s1:strOp .add w0 [32,61,32]=some (.str (w0++[32,61,32])):=strOp_add' (by simp; omega)
   obtain ⟨fn,hf,hcf⟩:=h
   refine acall_fin hf hcf (by simp [irLyNode]) fun hcl _ => ?_
   have he:txU ((1,w0) :: spU :: (5,[61]) :: spU :: (ux++[(5,[59])]))=w0++[32,61,32]++txU ux++[59]:=by simp [txU_cons,txU_app,txU_nil,spU]
   rw [he] at hp ⊢
   rw [N.v_mk]
   cases x with
   | mk k3 f3 t3 w3 a3 z3 ks3 =>
   rw [N.v_mk] at hS
   simp only [List.map_cons,List.map_nil,N.enc_mk]
   simp [irLyNode,PB_len,PB_get,-strOp,s1,rowAt_0]
   refine CallE_of (hS.at hp _) ?_
   simp [RetK,PB_len,PB_cut0 hp hcl]
 | @if0 d f1 t1 a1 f2 t2 a2 z1 z2 x y ux uy hx hy =>
   have hX:=hK x (by simp) _ _ (by simp) (by simp) (by simp) hx
   have hY:=hK y (by simp) _ _ (by simp) (by simp) (by simp) hy
   obtain ⟨fn,hf,hcf⟩:=h
   refine acall_fin hf hcf (by simp [irLyNode]) fun hcl _ => ?_
   have he:txU ((2,kIf) :: spU :: (ux++(spU :: uy)))=[105,102,32]++(txU ux++(32 :: txU uy)):=by simp [txU_cons,txU_app,spU,kIf]
   rw [he] at hp ⊢
   rw [N.v_mk]
   cases x with
   | mk k3 f3 t3 w3 a3 z3 ks3 =>
   cases y with
   | mk k4 f4 t4 w4 a4 z4 ks4 =>
   rw [N.v_mk] at hX hY
   simp only [List.map_cons,List.map_nil,N.enc_mk]
   simp at hp ⊢
   simp [irLyNode,PB_len,PB_get]
   refine CallK_of' ((hws d [105,102,32]).at (hp.le (by simp)) _) ?_
   simp [PB_get,rowAt_0]
   refine CallK_of' (hX.at (hp.ptr (by simp; omega)) _) ?_
   simp
   refine CallK_of' ((hwb d 32).at (hp.ptr (by simp; omega)) _) ?_
   simp [PB_get,rowAt_1]
   refine CallK_of' (hY.at (hp.ptr (by simp; omega)) _) ?_
   simp [PB_get,rowAt_2]
   simp [RetK,PB_len,PB_cut0 hp hcl]
 | @if1 d f1 t1 a1 z1 x y o ux uy uo hx hy ho =>
   have hX:=hK x (by simp) _ _ (by simp) (by simp) (by simp) hx
   have hY:=hK y (by simp) _ _ (by simp) (by simp) (by simp) hy
   have hO:=hK o (by simp) _ _ (by simp) (by simp) (by simp) ho
   have hok:=ho.block_k
   obtain ⟨fn,hf,hcf⟩:=h
   refine acall_fin hf hcf (by simp [irLyNode]) fun hcl _ => ?_
   have he:txU ((2,kIf) :: spU :: (ux++(spU :: (uy++(spU :: (2,kElse) :: spU :: uo)))))=[105,102,32]++(txU ux++(32 :: (txU uy++([32,101,108,115,101,32]++txU uo)))):=by simp [txU_cons,txU_app,spU,kIf,kElse]
   rw [he] at hp ⊢
   rw [N.v_mk]
   cases x with
   | mk k3 f3 t3 w3 a3 z3 ks3 =>
   cases y with
   | mk k4 f4 t4 w4 a4 z4 ks4 =>
   cases o with
   | mk k5 f5 t5 w5 a5 z5 ks5 =>
   rw [N.v_mk] at hX hY hO
   simp only [N.k] at hok
   subst hok
   simp only [List.map_cons,List.map_nil,N.enc_mk]
   simp at hp ⊢
   simp [irLyNode,PB_len,PB_get]
   refine CallK_of' ((hws d [105,102,32]).at (hp.le (by simp)) _) ?_
   simp [PB_get,rowAt_0]
   refine CallK_of' (hX.at (hp.ptr (by simp; omega)) _) ?_
   simp
   refine CallK_of' ((hwb d 32).at (hp.ptr (by simp; omega)) _) ?_
   simp [PB_get,rowAt_1]
   refine CallK_of' (hY.at (hp.ptr (by simp; omega)) _) ?_
   simp [PB_get,rowAt_2]
   refine CallK_of' ((hws d [32,101,108,115,101,32]).at (hp.ptr (by simp; omega)) _) ?_
   simp [PB_get,rowAt_2]
   refine CallK_of' (hO.at (hp.ptr (by simp; omega)) _) ?_
   simp [RetK,PB_len,PB_cut0 hp hcl]
 | @while_ d f1 t1 a1 z1 x y ux uy hx hy =>
   have hX:=hK x (by simp) _ _ (by simp) (by simp) (by simp) hx
   have hY:=hK y (by simp) _ _ (by simp) (by simp) (by simp) hy
   obtain ⟨fn,hf,hcf⟩:=h
   refine acall_fin hf hcf (by simp [irLyNode]) fun hcl _ => ?_
   have he:txU ((2,kWhile) :: spU :: (ux++(spU :: uy)))=[119,104,105,108,101,32]++(txU ux++(32 :: txU uy)):=by simp [txU_cons,txU_app,spU,kWhile]
   rw [he] at hp ⊢
   rw [N.v_mk]
   cases x with
   | mk k3 f3 t3 w3 a3 z3 ks3 =>
   cases y with
   | mk k4 f4 t4 w4 a4 z4 ks4 =>
   rw [N.v_mk] at hX hY
   simp only [List.map_cons,List.map_nil,N.enc_mk]
   simp at hp ⊢
   simp [irLyNode,PB_len,PB_get]
   refine CallK_of' ((hws d [119,104,105,108,101,32]).at (hp.le (by simp)) _) ?_
   simp [PB_get,rowAt_0]
   refine CallK_of' (hX.at (hp.ptr (by simp; omega)) _) ?_
   simp
   refine CallK_of' ((hwb d 32).at (hp.ptr (by simp; omega)) _) ?_
   simp [PB_get,rowAt_1]
   refine CallK_of' (hY.at (hp.ptr (by simp; omega)) _) ?_
   simp [RetK,PB_len,PB_cut0 hp hcl]
 | @say d k1 f1 t1 a1 z1 x u ux hk hx =>
   have hX:=hK x (by simp) _ _ (by simp) (by simp) (by simp) hx
   have hS:=fun s=>hstmt.lyStmt hws hwb s x d _ hX
   obtain ⟨fn,hf,hcf⟩:=h
   refine acall_fin hf hcf (by simp [irLyNode]) fun hcl _ => ?_
   have he:txU (u++(ux++[(5,[59])]))=txU u++txU ux++[59]:=by simp [txU_cons,txU_app,txU_nil]
   rw [he] at hp ⊢
   rw [N.v_mk]
   cases x with
   | mk k3 f3 t3 w3 a3 z3 ks3 =>
   rw [N.v_mk] at hS
   simp only [List.map_cons,List.map_nil,N.enc_mk]
   simp only [sayT,List.mem_cons,Prod.mk.injEq,List.not_mem_nil,or_false] at hk
   rcases hk with ⟨rfl,rfl⟩ | ⟨rfl,rfl⟩ | ⟨rfl,rfl⟩
   all_goals
    simp [irLyNode,PB_len,PB_get,rowAt_0]
    refine CallK_of' ((hS _).at hp _) ?_
    simp [RetK,PB_len,PB_cut0 hp hcl]
 | file=>exact absurd rfl c1
 | params=>exact absurd rfl c2
 | none=>exact absurd rfl c3
 | some=>exact absurd rfl c3
 | bin hk hx hy h1 h2 =>
   simp only [binT,List.mem_cons,Prod.mk.injEq,List.not_mem_nil,or_false] at hk
   exact absurd ⟨by simp,by omega⟩ hex
 | word hk h24 =>
   simp only [wordT,List.mem_cons,Prod.mk.injEq,List.not_mem_nil,or_false] at hk
   exact absurd ⟨by simp,by omega⟩ hex
 | _=>exact absurd ⟨by simp,by decide⟩ hex
end
end
section
def Tt (P:Program) (H0:Hp) (f:FuncId) (args:List A) (v:D):Prop:=∀ H,Pre0 H0 H→ACall P f args H (fun r H'=>r = .d v∧H'=H)
def namedT:List Int:=[2,3,5,7,8,19,21,22,23,27,33]
def Wo (k:Int) (w:Bs):Prop:=(k ∉ namedT∧w=[])∨(k=21∧Gd 3 w)∨(k=22∧Gd 4 w)∨(k ∈ namedT∧k ≠ 21∧k ≠ 22∧isNameB w=true)
theorem Tr.wo {c:Cl} {d:Nat} {n:N} {us:Us} (h:Tr c d n us):Wo n.k n.w:=by
 induction h with
 | some h ih=>exact ih
 | num hw=>exact .inr (.inl ⟨rfl,hw⟩)
 | str hw=>exact .inr (.inr (.inl ⟨rfl,hw⟩))
 | use hw hm=>exact .inr (.inr (.inr ⟨by simp [N.k,namedT],by simp [N.k],by simp [N.k],hw.2⟩))
 | defn hw hp hy hb=>exact .inr (.inr (.inr ⟨by simp [N.k,namedT],by simp [N.k],by simp [N.k],hw.2⟩))
 | param hw hy=>exact .inr (.inr (.inr ⟨by simp [N.k,namedT],by simp [N.k],by simp [N.k],hw.2⟩))
 | let_ hw hy hx=>exact .inr (.inr (.inr ⟨by simp [N.k,namedT],by simp [N.k],by simp [N.k],hw.2⟩))
 | set hw hx=>exact .inr (.inr (.inr ⟨by simp [N.k,namedT],by simp [N.k],by simp [N.k],hw.2⟩))
 | field hw hx hp=>exact .inr (.inr (.inr ⟨by simp [N.k,namedT],by simp [N.k],by simp [N.k],hw.2⟩))
 | name hw=>exact .inr (.inr (.inr ⟨by simp [N.k,namedT],by simp [N.k],by simp [N.k],hw.2⟩))
 | entry hw hx=>exact .inr (.inr (.inr ⟨by simp [N.k,namedT],by simp [N.k],by simp [N.k],hw.2⟩))
 | tfield hw hx=>exact .inr (.inr (.inr ⟨by simp [N.k,namedT],by simp [N.k],by simp [N.k],hw.2⟩))
 | say hk hx =>
   simp only [sayT,List.mem_cons,Prod.mk.injEq,List.not_mem_nil,or_false] at hk
   refine .inl ⟨?_,rfl⟩
   rcases hk with ⟨rfl,-⟩ | ⟨rfl,-⟩ | ⟨rfl,-⟩<;>simp [N.k,namedT]
 | bin hk hx hy hp hq =>
   simp only [binT,List.mem_cons,Prod.mk.injEq,List.not_mem_nil,or_false] at hk
   refine .inl ⟨?_,rfl⟩
   rcases hk with ⟨rfl,-⟩ | ⟨rfl,-⟩ | ⟨rfl,-⟩ | ⟨rfl,-⟩ | ⟨rfl,-⟩<;>simp [N.k,namedT]
 | word hk h24 =>
   simp only [wordT,List.mem_cons,Prod.mk.injEq,List.not_mem_nil,or_false] at hk
   refine .inl ⟨?_,rfl⟩
   rcases hk with ⟨rfl,-⟩ | ⟨rfl,-⟩ | ⟨rfl,-⟩ | ⟨rfl,-⟩<;>simp [N.k,namedT]
 | _=>exact .inl ⟨by simp [N.k,namedT],rfl⟩
section
variable {P:Program} {tn:TypeId} {H0:Hp}
theorem Has.lyNamed {f} (h:Has P f irLyNamed) (k:Int):Tt P H0 f [.d (.int .i64 k)] (.bool (decide (k ∈ namedT))):=by
 intro H hH
 obtain ⟨fn,hf,hcf⟩:=h
 refine acall_fin hf hcf (by simp [irLyNamed]) fun hcl _ => ?_
 by_cases hk:k ∈ namedT
 · rw [decide_eq_true hk]
   simp only [namedT,List.mem_cons,List.not_mem_nil,or_false] at hk
   rcases hk with rfl | rfl | rfl | rfl | rfl | rfl | rfl | rfl | rfl | rfl | rfl<;>simp [irLyNamed,RetK,cut_self hcl]
 · rw [decide_eq_false hk]
   simp only [namedT,List.mem_cons,List.not_mem_nil,or_false,not_or] at hk
   obtain ⟨a1,a2,a3,a4,a5,a6,a7,a8,a9,a10,a11⟩:=hk
   simp [irLyNamed,a1,a2,a3,a4,a5,a6,a7,a8,a9,a10,a11]
   simp [RetK,cut_self hcl]
theorem Has.lyHeight {f} (h:Has P f (irLyHeight tn)) (n:N):Tt P H0 f [n.v] (.int .i64 (hgt n.k)):=by
 intro H hH
 obtain ⟨fn,hf,hcf⟩:=h
 refine acall_fin hf hcf (by simp [irLyHeight]) fun hcl _ => ?_
 cases n with
 | mk k f' t' w a' z ks =>
 rw [N.v_mk]
 simp only [N.k]
 by_cases h1:k=14
 · subst h1; simp [irLyHeight,RetK,cut_app hcl,hgt]
 by_cases h2:k=15
 · subst h2; simp [irLyHeight,RetK,cut_app hcl,hgt]
 by_cases h3:k=16
 · subst h3; simp [irLyHeight,RetK,cut_app hcl,hgt]
 by_cases h4:k=17
 · subst h4; simp [irLyHeight,RetK,cut_app hcl,hgt]
 by_cases h5:k=18
 · subst h5; simp [irLyHeight,RetK,cut_app hcl,hgt]
 simp [irLyHeight,h1,h2,h3,h4,h5]
 simp [RetK,cut_app hcl,hgt,h1,h2,h3,h4,h5]
theorem Has.lyIsType {f} (h:Has P f (irLyIsType tn)) (n:N) (hk:(29≤n.k∧n.k≤32)∨n.k=34):Tt P H0 f [n.v] (.bool true):=by
 intro H hH
 obtain ⟨fn,hf,hcf⟩:=h
 refine acall_fin hf hcf (by simp [irLyIsType]) fun hcl _ => ?_
 cases n with
 | mk k f' t' w a' z ks =>
 rw [N.v_mk]
 simp only [N.k] at hk
 rcases hk with ⟨h1,h2⟩ | rfl
 · simp [irLyIsType,h1,h2]
   simp [RetK,cut_app hcl]
 · simp [irLyIsType]
   simp [RetK,cut_app hcl]
theorem Has.lyIsExpr {f} (h:Has P f (irLyIsExpr tn)) (n:N) (hk:(14≤n.k∧n.k≤26)∨n.k=28):Tt P H0 f [n.v] (.bool true):=by
 intro H hH
 obtain ⟨fn,hf,hcf⟩:=h
 refine acall_fin hf hcf (by simp [irLyIsExpr]) fun hcl _ => ?_
 cases n with
 | mk k f' t' w a' z ks =>
 rw [N.v_mk]
 simp only [N.k] at hk
 rcases hk with ⟨h1,h2⟩ | rfl
 · simp [irLyIsExpr,h1,h2]
   simp [RetK,cut_app hcl]
 · simp [irLyIsExpr]
   simp [RetK,cut_app hcl]
def LexT (P:Program) (H0:Hp) (f:FuncId):Prop:=∀ (s:Bs),s.length≤1048576→∀ H,Pre0 H0 H→ACall P f [.d (.str s)] H (fun r H'=>r = .tup [.d (.sl true 4 ((lexS s).1.map encTk)),.d (.int .i64 (lexS s).2.1),.d (.int .i64 (lexS s).2.2)]∧H'=H)
theorem Has.lyOne {f lex} (h:Has P f (irLyOne lex)) (hl:LexT P H0 lex) (k:Int) (w:Bs) (hw:Gd k w):Tt P H0 f [.d (.str w),.d (.int .i64 k)] (.bool true):=by
 intro H hH
 obtain ⟨fn,hf,hcf⟩:=h
 refine acall_fin hf hcf (by simp [irLyOne]) fun hcl _ => ?_
 have hfit:Fit [(k,w)]:=Fit.tok hw trivial trivial
 have htx:txU [(k,w)]=w:=by simp [txU]
 have htk:tkU [(k,w)]=[(k,w)]:=by simp [tkU,hw.k0.2]
 have hlx:=hfit.lex (by rw [htx]; exact hw.len) (by rw [htk]; simp)
 rw [htx,htk] at hlx
 have hL:=hl w (by have:=hw.len; omega) H hH
 obtain ⟨h0,hm,-⟩:=hlx
 rw [h0] at hL
 generalize (lexS w).1=L at *
 obtain ⟨t1,t2,rfl⟩:∃ t1 t2,L=[t1,t2]:=by
  have h2:=congrArg List.length hm
  match L,h2 with
  | [t1,t2],_=>exact ⟨t1,t2,rfl⟩
 simp [kx] at hm
 obtain ⟨⟨m1,m2⟩,-⟩:=hm
 simp only [List.map_cons,List.map_nil,encTk,m1,m2] at hL
 simp [irLyOne]
 refine CallK_of' hL ?_
 have r0:∀ (x:List D) (r:List (List D)),Zam.rowAt (x :: r) 0=some x:=fun x r=>rfl
 simp [r0]
 simp [RetK,cut_self hcl]
def IsNameT (P:Program) (f:FuncId):Prop:=∀ (s:Bs) H,ACall P f [.d (.str s)] H (fun r H'=>r = .d (.bool (isNameB s))∧H'=H)
theorem Has.lyWorded {f named one isname lex} (h:Has P f (irLyWorded named one isname tn)) (hn:Has P named irLyNamed) (ho:Has P one (irLyOne lex)) (hl:LexT P H0 lex) (hi:IsNameT P isname) (n:N) (hw:Wo n.k n.w):Tt P H0 f [n.v] (.bool true):=by
 intro H hH
 obtain ⟨fn,hf,hcf⟩:=h
 refine acall_fin hf hcf (by simp [irLyWorded]) fun hcl _ => ?_
 cases n with
 | mk k f' t' w a' z ks =>
 rw [N.v_mk]
 simp only [N.k,N.w] at hw
 have hN:=fun X=>hn.lyNamed (H0:=H0) k (H++X) (hH.app X)
 simp [irLyWorded]
 refine CallK_of' (hN _) ?_
 rcases hw with ⟨h1,rfl⟩ | ⟨rfl,h1⟩ | ⟨rfl,h1⟩ | ⟨h1,h2,h3,h4⟩
 · simp [h1]
   simp [RetK,cut_app hcl]
 · have hO:=fun X=>ho.lyOne hl 3 w h1 (H++X) (hH.app X)
   simp [namedT]
   refine CallK_of' (hO _) ?_
   simp [RetK,cut_app hcl]
 · have hO:=fun X=>ho.lyOne hl 4 w h1 (H++X) (hH.app X)
   simp [namedT]
   refine CallK_of' (hO _) ?_
   simp [RetK,cut_app hcl]
 · simp [h1,h2,h3]
   refine CallK_of' (hi w _) ?_
   simp [RetK,cut_app hcl,h4]
end
end
section
def RtOk (P:Program) (H0:Hp) (f:FuncId) (n:N):Prop:=∀ c d us,Tr c d n us→n.k ≠ 0→n.size≤1048576→Tt P H0 f [n.v] (.bool true)
theorem Tr.expr_r {d:Nat} {n:N} {us:Us} (h:Tr .expr d n us):(14≤n.k∧n.k≤26)∨n.k=28:=by
 cases h with
 | bin hk hx hy hp hq =>
   simp only [binT,List.mem_cons,Prod.mk.injEq,List.not_mem_nil,or_false] at hk
   simp only [N.k]; omega
 | _=>simp [N.k]
theorem Tr.kind_r {d:Nat} {n:N} {us:Us} (h:Tr .kind d n us):(29≤n.k∧n.k≤32)∨n.k=34:=by
 cases h with
 | word hk h24 =>
   simp only [wordT,List.mem_cons,Prod.mk.injEq,List.not_mem_nil,or_false] at hk
   simp only [N.k]; omega
 | _=>simp [N.k]
theorem Tr.stmt_r {d:Nat} {n:N} {us:Us} (h:Tr .stmt d n us):7≤n.k∧n.k≤13:=by
 cases h with
 | say hk hx =>
   simp only [sayT,List.mem_cons,Prod.mk.injEq,List.not_mem_nil,or_false] at hk
   simp only [N.k]; omega
 | _=>simp [N.k]
section
variable {P:Program} {tn:TypeId} {H0:Hp}
theorem Has.lyRTyped {f istype right} (h:Has P f (irLyRTyped istype right tn)) (hi:Has P istype (irLyIsType tn)) (x:N) (d:Nat) (us:Us) (ht:Tr .typed d x us) (hr:RtOk P H0 right x) (hsz:x.size≤1048576):Tt P H0 f [x.v] (.bool true):=by
 intro H hH
 obtain ⟨fn,hf,hcf⟩:=h
 refine acall_fin hf hcf (by simp [irLyRTyped]) fun hcl _ => ?_
 cases ht with
 | none =>
   rw [N.v_mk]
   simp [irLyRTyped]
   simp [RetK,cut_app hcl]
 | some hk =>
   have hk0:=hk.kind_k
   have hI:=fun X=>hi.lyIsType (H0:=H0) x hk.kind_r (H++X) (hH.app X)
   have hR:=fun X=>hr _ _ _ hk hk0 hsz (H++X) (hH.app X)
   cases x with
   | mk k f' t' w a' z ks =>
   simp only [N.k] at hk0
   rw [N.v_mk] at hI hR ⊢
   simp [irLyRTyped,hk0]
   refine CallK_of' (hI _) ?_
   simp
   refine CallK_of' (hR _) ?_
   simp [RetK,cut_app hcl]
theorem Has.lyRStmt {f right} (h:Has P f (irLyRStmt right tn)) (x:N) (d:Nat) (us:Us) (ht:Tr .stmt d x us) (hr:RtOk P H0 right x) (hsz:x.size≤1048576):Tt P H0 f [x.v] (.bool true):=by
 intro H hH
 obtain ⟨fn,hf,hcf⟩:=h
 refine acall_fin hf hcf (by simp [irLyRStmt]) fun hcl _ => ?_
 obtain ⟨h1,h2⟩:=ht.stmt_r
 have hR:=fun X=>hr _ _ _ ht (by omega) hsz (H++X) (hH.app X)
 cases x with
 | mk k f' t' w a' z ks =>
 simp only [N.k] at h1 h2
 rw [N.v_mk] at hR ⊢
 simp [irLyRStmt,h1,h2]
 refine CallK_of' (hR _) ?_
 simp [RetK,cut_app hcl]
theorem Has.lyRExpr {f isexpr height right} (h:Has P f (irLyRExpr isexpr height right tn)) (hi:Has P isexpr (irLyIsExpr tn)) (hh:Has P height (irLyHeight tn)) (x:N) (d:Nat) (us:Us) (m:Int) (ht:Tr .expr d x us) (hm:hgt x.k≤m) (hr:RtOk P H0 right x) (hsz:x.size≤1048576):Tt P H0 f [x.v,.d (.int .i64 m)] (.bool true):=by
 intro H hH
 obtain ⟨fn,hf,hcf⟩:=h
 refine acall_fin hf hcf (by simp [irLyRExpr]) fun hcl _ => ?_
 have hk:=ht.expr_r
 have hI:=fun X=>hi.lyIsExpr (H0:=H0) x hk (H++X) (hH.app X)
 have hG:=fun X=>hh.lyHeight (H0:=H0) x (H++X) (hH.app X)
 have hR:=fun X=>hr _ _ _ ht (by omega) hsz (H++X) (hH.app X)
 cases x with
 | mk k f' t' w a' z ks =>
 simp only [N.k] at hm hG
 rw [N.v_mk] at hI hG hR ⊢
 simp [irLyRExpr]
 refine CallK_of' (hI _) ?_
 simp
 refine CallK_of' (hG _) ?_
 simp [hm]
 refine CallK_of' (hR _) ?_
 simp [RetK,cut_app hcl]
theorem Has.lyRBlock {f right} (h:Has P f (irLyRBlock right tn)) (x:N) (d:Nat) (us:Us) (ht:Tr .block d x us) (hr:RtOk P H0 right x) (hsz:x.size≤1048576):Tt P H0 f [x.v] (.bool true):=by
 intro H hH
 obtain ⟨fn,hf,hcf⟩:=h
 refine acall_fin hf hcf (by simp [irLyRBlock]) fun hcl _ => ?_
 have hk:=ht.block_k
 have hR:=fun X=>hr _ _ _ ht (by omega) hsz (H++X) (hH.app X)
 cases x with
 | mk k f' t' w a' z ks =>
 simp only [N.k] at hk
 subst hk
 rw [N.v_mk] at hR ⊢
 simp [irLyRBlock]
 refine CallK_of' (hR _) ?_
 simp [RetK,cut_app hcl]
theorem Has.lyRBlockN {f right} (h:Has P f (irLyRBlock right tn)) (x:N) (hk:x.k=0):Tt P H0 f [x.v] (.bool false):=by
 intro H hH
 obtain ⟨fn,hf,hcf⟩:=h
 refine acall_fin hf hcf (by simp [irLyRBlock]) fun hcl _ => ?_
 cases x with
 | mk k f' t' w a' z ks =>
 simp only [N.k] at hk
 subst hk
 rw [N.v_mk]
 simp [irLyRBlock]
 simp [RetK,cut_app hcl]
theorem Has.lyAll {f right} (h:Has P f (irLyAll right tn)) (n:N) (q:Int) (hk:∀ k ∈ n.ks,k.k=q) (hR:∀ k ∈ n.ks,Tt P H0 right [k.v] (.bool true)) (hlen:n.ks.length≤1048576):Tt P H0 f [n.v,.d (.int .i64 q)] (.bool true):=by
 intro H hH
 obtain ⟨fn,hf,hcf⟩:=h
 refine acall_fin hf hcf (by simp [irLyAll]) fun hcl _ => ?_
 cases n with
 | mk k f' t' w a' z ks =>
 simp only [N.ks] at hk hR hlen
 rw [N.v_mk]
 simp [irLyAll]
 refine LoopK_out 0 (fun fr H'=>∃ o,H'=H++[o]) ?_ ?_
 · refine RangeK_of (H.length+1) ks.length (fun i fr H'=>fr 1 = .d (.int .i64 q)∧fr 8 = .d (.sl z 6 (ks.map N.enc))∧∃ o,H'=H++[o]) (by omega) (by decide) (by simp) (by simp) ?_ ?_ ?_
   · simp [cut_appk hcl]
   · rintro i fr H' hi f10 f9 ⟨f1,f8,o,rfl⟩
     have hr:=rowAt_map N.enc hi
     have hm:=List.getElem_mem hi
     have hk':=hk _ hm
     have hR':=fun X=>hR _ hm (H++X) (hH.app X)
     generalize ks[i]=x at hr hk' hR'
     obtain ⟨k2,f2,t2,w2,a2,z2,ks2⟩:=x
     simp only [N.k] at hk'
     subst hk'
     rw [N.enc_mk] at hr
     rw [N.v_mk] at hR'
     simp [f10,f8,hr,f1]
     refine CallK_of' (hR' _) ?_
     simp
     refine NextK_of (H.length+1) (Nat.le_refl _) (by simp [f10,f9]) ?_
     simp [f1,f8,cut_appk hcl]
   · rintro fr H' f10 f9 ⟨f1,f8,o,rfl⟩
     simp
 · rintro fr H' ⟨o,rfl⟩
   simp [RetK,cut_app hcl]
theorem Has.lyRClosed {f right rtyped} (h:Has P f (irLyRClosed right rtyped)) (p y x:N) (z:Bool) (hp:p.k=4) (hx:x.k=6) (hP:Tt P H0 right [p.v] (.bool true)) (hY:Tt P H0 rtyped [y.v] (.bool true)) (hX:Tt P H0 right [x.v] (.bool true)):Tt P H0 f [.d (.sl z 6 ([p,y,x].map N.enc))] (.bool true):=by
 intro H hH
 obtain ⟨fn,hf,hcf⟩:=h
 refine acall_fin hf hcf (by simp [irLyRClosed]) fun hcl _ => ?_
 cases p with
 | mk k1 f1 t1 w1 a1 z1 ks1 =>
 cases y with
 | mk k2 f2 t2 w2 a2 z2 ks2 =>
 cases x with
 | mk k3 f3 t3 w3 a3 z3 ks3 =>
 simp only [N.k] at hp hx
 subst hp
 subst hx
 have hP:=hP H hH
 have hY:=hY H hH
 have hX:=hX H hH
 rw [N.v_mk] at hP hY hX
 simp only [List.map_cons,List.map_nil,N.enc_mk]
 simp [irLyRClosed,rowAt_0,rowAt_1,rowAt_2]
 refine CallK_of' hP ?_
 simp [rowAt_0,rowAt_1,rowAt_2]
 refine CallK_of' hY ?_
 simp [rowAt_0,rowAt_1,rowAt_2]
 refine CallK_of' hX ?_
 simp [RetK,cut_self hcl]
theorem Has.lyRTwo {f rexpr} (h:Has P f (irLyRTwo rexpr)) (x y:N) (z:Bool) (p q:Int) (hX:Tt P H0 rexpr [x.v,.d (.int .i64 p)] (.bool true)) (hY:Tt P H0 rexpr [y.v,.d (.int .i64 q)] (.bool true)):Tt P H0 f [.d (.sl z 6 ([x,y].map N.enc)),.d (.int .i64 p),.d (.int .i64 q)] (.bool true):=by
 intro H hH
 obtain ⟨fn,hf,hcf⟩:=h
 refine acall_fin hf hcf (by simp [irLyRTwo]) fun hcl _ => ?_
 cases x with
 | mk k1 f1 t1 w1 a1 z1 ks1 =>
 cases y with
 | mk k2 f2 t2 w2 a2 z2 ks2 =>
 have hX:=hX H hH
 have hY:=hY H hH
 rw [N.v_mk] at hX hY
 simp only [List.map_cons,List.map_nil,N.enc_mk]
 simp [irLyRTwo,rowAt_0,rowAt_1]
 refine CallK_of' hX ?_
 simp [rowAt_0,rowAt_1]
 refine CallK_of' hY ?_
 simp [RetK,cut_self hcl]
end
end
section
theorem Tr.entry_k {d:Nat} {n:N} {us:Us} (h:Tr .entry d n us):n.k=27:=by cases h; rfl
theorem Tr.tfield_k {d:Nat} {n:N} {us:Us} (h:Tr .tfield d n us):n.k=33:=by cases h; rfl
theorem Tr.param_k {d:Nat} {n:N} {us:Us} (h:Tr .param d n us):n.k=5:=by cases h; rfl
theorem Tr.params_k {d:Nat} {n:N} {us:Us} (h:Tr .params d n us):n.k=4:=by cases h; rfl
theorem Tr.item_k {d:Nat} {n:N} {us:Us} (h:Tr .item d n us):n.k=2∨n.k=3:=by cases h<;>simp [N.k]
section
variable {P:Program} {tn:TypeId} {H0:Hp}
theorem Has.lyRE {f rtwo rexpr all istype right isexpr height} (h:Has P f (irLyRE rtwo rexpr all istype right tn)) (htwo:Has P rtwo (irLyRTwo rexpr)) (hexpr:Has P rexpr (irLyRExpr isexpr height right tn)) (hall:Has P all (irLyAll right tn)) (hit:Has P istype (irLyIsType tn)) (hie:Has P isexpr (irLyIsExpr tn)) (hh:Has P height (irLyHeight tn))
 (n:N) (c:Cl) (d:Nat) (us:Us) (ht:Tr c d n us) (hc:c = .expr∨c = .kind∨c = .tfield) (hn:n.k ≠ 25∧n.k ≠ 28) (hq:∀ k ∈ n.ks,RtOk P H0 right k) (hsz:n.size≤1048576):Tt P H0 f [n.v] (.bool true):=by
 have hS:∀ k ∈ n.ks,k.size≤1048576:=fun k hk=>by
  have hf:=(kid_facts hk).1
  cases n with
  | mk kk ff tt ww aa zz kks =>
  rw [N.size_mk] at hsz
  simp only [N.ks] at hf
  omega
 have hK:∀ k ∈ n.ks,∀ c us,Tr c d k us→k.k ≠ 0→Tt P H0 right [k.v] (.bool true):=fun k hk c us h4 h0=>hq k hk c d us h4 h0 (hS k hk)
 have hE:∀ k ∈ n.ks,∀ us m,Tr .expr d k us→hgt k.k≤m→Tt P H0 rexpr [k.v,.d (.int .i64 m)] (.bool true):=fun k hk us m h4 hm=>hexpr.lyRExpr hie hh k d us m h4 hm (hq k hk) (hS k hk)
 have hlen:n.ks.length≤1048576:=by
  cases n with
  | mk kk ff tt ww aa zz kks =>
  rw [N.size_mk] at hsz
  have:=N.sizes_len kks
  simp only [N.ks]; omega
 have h3:∀ k:Int,hgt k≤3:=fun k=>by unfold hgt; (repeat' split)<;>decide
 intro H hH
 obtain ⟨fn,hf,hcf⟩:=h
 refine acall_fin hf hcf (by simp [irLyRE]) fun hcl _ => ?_
 cases ht with
 | @bin d k f' t' a' p q z x y ux uy sg hk hx hy hp' hq' =>
   simp only [N.ks] at hE
   have hT:=fun X=>htwo.lyRTwo x y z p q (hE x (by simp) _ _ hx hp') (hE y (by simp) _ _ hy hq') (H++X) (hH.app X)
   rw [N.v_mk]
   simp only [binT,List.mem_cons,Prod.mk.injEq,List.not_mem_nil,or_false] at hk
   rcases hk with ⟨rfl,rfl,rfl,rfl⟩ | ⟨rfl,rfl,rfl,rfl⟩ | ⟨rfl,rfl,rfl,rfl⟩ | ⟨rfl,rfl,rfl,rfl⟩ | ⟨rfl,rfl,rfl,rfl⟩
   all_goals
    simp only [List.map_cons,List.map_nil] at hT ⊢
    simp [irLyRE]
    refine CallK_of' (hT _) ?_
    simp [RetK,cut_app hcl]
 | @field d f' t' a' z w x ux hw hx hp' =>
   simp only [N.ks] at hE
   have hX:=fun X=>hE x (by simp) _ _ hx hp' (H++X) (hH.app X)
   rw [N.v_mk]
   cases x with
   | mk k2 f2 t2 w2 a2 z2 ks2 =>
   rw [N.v_mk] at hX
   simp only [List.map_cons,List.map_nil,N.enc_mk]
   simp [irLyRE,rowAt_0]
   refine CallK_of' (hX _) ?_
   simp [RetK,cut_app hcl]
 | @call d f' t' a' z x ux ps hx hp' hps =>
   simp only [N.ks] at hE hlen
   have hX:=fun X=>hE x (by simp) _ _ hx hp' (H++X) (hH.app X)
   have hPs:∀ i (hi:i < ps.length),Tt P H0 rexpr [ps[i].1.v,.d (.int .i64 3)] (.bool true):=fun i hi=>hE _ (List.mem_cons_of_mem _ (List.mem_map_of_mem (List.getElem_mem hi))) _ _ (hps _ (List.getElem_mem hi)) (h3 _)
   rw [N.v_mk]
   cases x with
   | mk k2 f2 t2 w2 a2 z2 ks2 =>
   rw [N.v_mk] at hX
   obtain ⟨R,hR⟩:∃ R,R=(ps.map (·.1)).map N.enc:=⟨_,rfl⟩
   have hRl:R.length=ps.length:=by rw [hR]; simp
   have hpl:ps.length≤1048576:=by simp at hlen; omega
   simp only [List.map_cons,N.enc_mk]
   rw [← hR]
   have hsub:subL ([.int .i64 k2,.int .i64 f2,.int .i64 t2,.str w2,.int .i64 a2,.sl z2 6 (ks2.map N.enc)] :: R) 1 ((R.length:Int)+1)=some R:=by
    rw [subL_ok ⟨by omega,by omega,by simp⟩]
    have:(((R.length:Int)+1).toNat - (1:Int).toNat)=R.length:=by omega
    rw [this]; simp
   have h1:¬ ((R.length:Int)+1 < 1):=by omega
   have h1':¬ ((ps.length:Int)+1 < 1):=by omega
   rw [hRl] at hsub
   simp [irLyRE,rowAt_0,hRl,h1']
   refine CallK_of' (hX _) ?_
   simp [hRl,hsub]
   refine LoopK_out 1 (fun fr H'=>∃ o,H'=H++[o]) ?_ ?_
   · refine RangeK_of (H.length+1) ps.length (fun i fr H'=>fr 50 = .d (.sl false 6 R)∧∃ o,H'=H++[o]) (by omega) (by decide) (by simp) (by simp) ?_ ?_ ?_
     · simp [cut_appk hcl]
     · rintro i fr H' hi f52 f51 ⟨f50,o,rfl⟩
       have hr:Zam.rowAt R i=some (ps[i].1.enc):=by
        rw [hR,List.map_map]
        exact rowAt_map (N.enc ∘ (·.1)) hi
       have hR':=fun X=>hPs i hi (H++X) (hH.app X)
       generalize ps[i].1=y at hr hR'
       obtain ⟨k3,f3,t3,w3,a3,z3,ks3⟩:=y
       rw [N.enc_mk] at hr
       rw [N.v_mk] at hR'
       simp [f52,f50,hr]
       refine CallK_of' (hR' _) ?_
       simp
       refine NextK_of (H.length+1) (Nat.le_refl _) (by simp [f52,f51]) ?_
       simp [f50,cut_appk hcl]
     · rintro fr H' f52 f51 ⟨f50,o,rfl⟩
       simp
   · rintro fr H' ⟨o,rfl⟩
     simp [RetK,cut_app hcl]
 | @num d f' t' a' z w hw =>
   rw [N.v_mk]
   simp [irLyRE]
   simp [RetK,cut_app hcl]
 | @str d f' t' a' z w hw =>
   rw [N.v_mk]
   simp [irLyRE]
   simp [RetK,cut_app hcl]
 | @name d f' t' a' z w hw =>
   rw [N.v_mk]
   simp [irLyRE]
   simp [RetK,cut_app hcl]
 | @input d f' t' a' z =>
   rw [N.v_mk]
   simp [irLyRE]
   simp [RetK,cut_app hcl]
 | @group d f' t' a' z x ux hx=>exact absurd rfl hn.1
 | @record d f' t' a' z ps hps =>
   simp only [N.ks] at hK hlen
   have hA:=fun X=>hall.lyAll (.mk 26 f' t' [] a' z (ps.map fun q:N × Us=>q.1)) 27 (fun k hk=>by
    obtain ⟨q,hq,rfl⟩:=List.mem_map.1 hk
    exact (hps q hq).entry_k) (fun k hk=>by
    obtain ⟨q,hq,rfl⟩:=List.mem_map.1 hk
    exact hK _ (List.mem_map_of_mem hq) _ _ (hps q hq) (by rw [(hps q hq).entry_k]; decide)) hlen (H++X) (hH.app X)
   rw [N.v_mk] at hA ⊢
   generalize (ps.map (·.1)).map N.enc=R at *
   simp [irLyRE]
   refine CallK_of' (hA _) ?_
   simp [RetK,cut_app hcl]
 | @word d k f' t' a' z w hk24 h24 =>
   rw [N.v_mk]
   simp only [wordT,List.mem_cons,Prod.mk.injEq,List.not_mem_nil,or_false] at hk24
   rcases hk24 with ⟨rfl,rfl⟩ | ⟨rfl,rfl⟩ | ⟨rfl,rfl⟩ | ⟨rfl,rfl⟩
   · exact absurd rfl h24
   all_goals
    simp [irLyRE]
    simp [RetK,cut_app hcl]
 | @trec d f' t' a' z ps hps =>
   simp only [N.ks] at hK hlen
   have hA:=fun X=>hall.lyAll (.mk 32 f' t' [] a' z (ps.map fun q:N × Us=>q.1)) 33 (fun k hk=>by
    obtain ⟨q,hq,rfl⟩:=List.mem_map.1 hk
    exact (hps q hq).tfield_k) (fun k hk=>by
    obtain ⟨q,hq,rfl⟩:=List.mem_map.1 hk
    exact hK _ (List.mem_map_of_mem hq) _ _ (hps q hq) (by rw [(hps q hq).tfield_k]; decide)) hlen (H++X) (hH.app X)
   rw [N.v_mk] at hA ⊢
   generalize (ps.map (·.1)).map N.enc=R at *
   simp [irLyRE]
   refine CallK_of' (hA _) ?_
   simp [RetK,cut_app hcl]
 | @tfield d f' t' a' z w x ux hw hx =>
   simp only [N.ks] at hK
   have hI:=fun X=>hit.lyIsType (H0:=H0) x hx.kind_r (H++X) (hH.app X)
   have hX:=fun X=>hK x (by simp) _ _ hx hx.kind_k (H++X) (hH.app X)
   rw [N.v_mk]
   cases x with
   | mk k2 f2 t2 w2 a2 z2 ks2 =>
   rw [N.v_mk] at hX hI
   simp only [List.map_cons,List.map_nil,N.enc_mk]
   simp [irLyRE,rowAt_0]
   refine CallK_of' (hI _) ?_
   simp [rowAt_0]
   refine CallK_of' (hX _) ?_
   simp [RetK,cut_app hcl]
 | @tfn d f' t' a' z y uy ps hps hy =>
   simp only [N.ks] at hK hlen
   obtain ⟨L,hL⟩:∃ L,L=ps.map (·.1)++[y]:=⟨_,rfl⟩
   have hA:∀ k ∈ L,((29≤k.k∧k.k≤32)∨k.k=34)∧Tt P H0 right [k.v] (.bool true):=fun k hk=>by
    have hk':k ∈ ps.map (·.1)++[y]:=hL ▸ hk
    rcases List.mem_append.1 (hL ▸ hk) with h1 | h1
    · obtain ⟨q,hq,rfl⟩:=List.mem_map.1 h1
      exact ⟨(hps q hq).kind_r,hK _ hk' _ _ (hps q hq) (hps q hq).kind_k⟩
    · obtain rfl:k=y:=by simpa using h1
      exact ⟨hy.kind_r,hK _ hk' _ _ hy hy.kind_k⟩
   have hLp:0 < L.length:=by rw [hL]; simp
   rw [← hL] at hlen
   rw [N.v_mk,← hL]
   simp [irLyRE]
   refine LoopK_out 3 (fun fr H'=>fr 3 = .d (.sl z 6 (L.map N.enc))∧∃ o,H'=H++[o]) ?_ ?_
   · refine RangeK_of (H.length+1) L.length (fun i fr H'=>fr 3 = .d (.sl z 6 (L.map N.enc))∧fr 98 = .d (.sl z 6 (L.map N.enc))∧∃ o,H'=H++[o]) (by omega) (by decide) (by simp) (by simp) ?_ ?_ ?_
     · simp [cut_appk hcl]
     · rintro i fr H' hi f100 f99 ⟨f3,f98,o,rfl⟩
       have hr:=rowAt_map N.enc hi
       obtain ⟨hA1,hA2⟩:=hA _ (List.getElem_mem hi)
       have hI:=fun X=>hit.lyIsType (H0:=H0) L[i] hA1 (H++X) (hH.app X)
       have hR':=fun X=>hA2 (H++X) (hH.app X)
       generalize L[i]=x at hr hI hR'
       obtain ⟨k3,f4,t3,w3,a3,z3,ks3⟩:=x
       rw [N.enc_mk] at hr
       rw [N.v_mk] at hR' hI
       simp [f100,f98,hr]
       refine CallK_of' (hI _) ?_
       simp
       refine CallK_of' (hR' _) ?_
       simp
       refine NextK_of (H.length+1) (Nat.le_refl _) (by simp [f100,f99]) ?_
       simp [f3,f98,cut_appk hcl]
     · rintro fr H' f100 f99 ⟨f3,f98,o,rfl⟩
       simp [f3]
   · rintro fr H' ⟨f3,o,rfl⟩
     simp [f3]
     simp [RetK,cut_app hcl,hLp]
 | lambda=>exact absurd rfl hn.2
 | _=>simp at hc
end
end
section
structure LyF where
 (worded rclosed all rtyped rstmt rexpr rblock re istype isexpr height rtwo named one isname lex:Nat)
structure LyHas (P:Program) (H0:Hp) (f:FuncId) (F:LyF) (tn:TypeId):Prop where
 right:Has P f (irLyR F.worded f F.rclosed F.all F.rtyped F.rstmt F.rexpr F.rblock F.re tn)
 worded:Has P F.worded (irLyWorded F.named F.one F.isname tn)
 rclosed:Has P F.rclosed (irLyRClosed f F.rtyped)
 all:Has P F.all (irLyAll f tn)
 rtyped:Has P F.rtyped (irLyRTyped F.istype f tn)
 rstmt:Has P F.rstmt (irLyRStmt f tn)
 rexpr:Has P F.rexpr (irLyRExpr F.isexpr F.height f tn)
 rblock:Has P F.rblock (irLyRBlock f tn)
 re:Has P F.re (irLyRE F.rtwo F.rexpr F.all F.istype f tn)
 istype:Has P F.istype (irLyIsType tn)
 isexpr:Has P F.isexpr (irLyIsExpr tn)
 height:Has P F.height (irLyHeight tn)
 rtwo:Has P F.rtwo (irLyRTwo F.rexpr)
 named:Has P F.named irLyNamed
 one:Has P F.one (irLyOne F.lex)
 isname:IsNameT P F.isname
 lex:LexT P H0 F.lex
section
variable {P:Program} {tn:TypeId} {H0:Hp}
theorem LyHas.ok {f:FuncId} {F:LyF} (hF:LyHas P H0 f F tn):∀ n:N,RtOk P H0 f n:=by
 refine N.ind fun k0 f0 t0 w0 a0 z0 ks0 ih => ?_
 intro c d us ht hk0 hsz H hH
 have hwo:=hF.worded.lyWorded hF.named hF.one hF.lex hF.isname (.mk k0 f0 t0 w0 a0 z0 ks0) ht.wo
 have hsz0:=hsz
 rw [N.size_mk] at hsz
 have hS:∀ k ∈ ks0,k.size≤1048576:=fun k hk=>by
  have hf:=(kid_facts hk).1
  omega
 have hlen:ks0.length≤1048576:=by have:=N.sizes_len ks0; omega
 have h3:∀ k:Int,hgt k≤3:=fun k=>by unfold hgt; (repeat' split)<;>decide
 have hK:∀ k ∈ ks0,∀ c d us,Tr c d k us→k.k ≠ 0→Tt P H0 f [k.v] (.bool true):=fun k hk c d us h4 h0=>ih k hk c d us h4 h0 (hS k hk)
 have hE:∀ k ∈ ks0,∀ d us,Tr .expr d k us→Tt P H0 F.rexpr [k.v,.d (.int .i64 3)] (.bool true):=fun k hk d us h4=>hF.rexpr.lyRExpr hF.isexpr hF.height k d us 3 h4 (h3 _) (ih k hk) (hS k hk)
 have hY:∀ k ∈ ks0,∀ d us,Tr .typed d k us→Tt P H0 F.rtyped [k.v] (.bool true):=fun k hk d us h4=>hF.rtyped.lyRTyped hF.istype k d us h4 (ih k hk) (hS k hk)
 have hB:∀ k ∈ ks0,∀ d us,Tr .block d k us→Tt P H0 F.rblock [k.v] (.bool true):=fun k hk d us h4=>hF.rblock.lyRBlock k d us h4 (ih k hk) (hS k hk)
 have hSt:∀ k ∈ ks0,∀ d us,Tr .stmt d k us→Tt P H0 F.rstmt [k.v] (.bool true):=fun k hk d us h4=>hF.rstmt.lyRStmt k d us h4 (ih k hk) (hS k hk)
 have hW:=fun X=>hwo (H++X) (hH.app X)
 obtain ⟨fn,hf,hcf⟩:=hF.right
 refine acall_fin hf hcf (by simp [irLyR]) fun hcl _ => ?_
 have hdef:∀ {c:Cl} {d:Nat} {us:Us},Tr c d (.mk k0 f0 t0 w0 a0 z0 ks0) us→(c = .expr∨c = .kind∨c = .tfield)→14≤k0→k0 ≠ 25→k0 ≠ 27→k0 ≠ 28 →
  AWp P H.length (irLyR F.worded f F.rclosed F.all F.rtyped F.rstmt F.rexpr F.rblock F.re tn).body (Fin (irLyR F.worded f F.rclosed F.all F.rtyped F.rstmt F.rexpr F.rblock F.re tn).res H.length fun r H'=>r = .d (.bool true)∧H'=H) (Fr.init [(N.mk k0 f0 t0 w0 a0 z0 ks0).v]) H:=fun ht hc h14 n25 n27 n28=>by
  have hR:=fun X=>hF.re.lyRE hF.rtwo hF.rexpr hF.all hF.istype hF.isexpr hF.height (.mk k0 f0 t0 w0 a0 z0 ks0) _ _ _ ht hc ⟨n25,n28⟩ ih hsz0 (H++X) (hH.app X)
  have n1:k0 ≠ 1:=by omega
  have n2:k0 ≠ 2:=by omega
  have n3:k0 ≠ 3:=by omega
  have n4:k0 ≠ 4:=by omega
  have n5:k0 ≠ 5:=by omega
  have n6:k0 ≠ 6:=by omega
  have n7:k0 ≠ 7:=by omega
  have n8:k0 ≠ 8:=by omega
  have n9:k0 ≠ 9:=by omega
  have n10:k0 ≠ 10:=by omega
  have n11:k0 ≠ 11:=by omega
  have n12:k0 ≠ 12:=by omega
  have n13:k0 ≠ 13:=by omega
  rw [N.v_mk] at hW hR ⊢
  simp [irLyR]
  refine CallK_of' (hW _) ?_
  simp [n1,n2,n3,n4,n5,n6,n7,n8,n9,n10,n11,n12,n13,n25,n27,n28]
  refine CallK_of' (hR _) ?_
  simp [RetK,cut_app hcl]
 cases ht with
 | @file d f1 t1 a1 z1 ps hps =>
   obtain ⟨L,hL⟩:∃ L,L=ps.map (·.1):=⟨_,rfl⟩
   have hA:∀ k ∈ L,(k.k=2∨k.k=3)∧Tt P H0 f [k.v] (.bool true):=fun k hk=>by
    have hk':k ∈ ps.map (·.1):=hL ▸ hk
    obtain ⟨q,hq,rfl⟩:=List.mem_map.1 hk'
    exact ⟨(hps q hq).item_k,hK _ hk' _ _ _ (hps q hq) (by have:=(hps q hq).item_k; omega)⟩
   rw [← hL] at hlen
   rw [N.v_mk] at hW ⊢
   rw [← hL] at hW ⊢
   simp [irLyR]
   refine CallK_of' (hW _) ?_
   simp
   refine LoopK_out 1 (fun fr H'=>∃ o,H'=H++[o]) ?_ ?_
   · refine RangeK_of (H.length+1) L.length (fun i fr H'=>fr 17 = .d (.sl z0 6 (L.map N.enc))∧∃ o,H'=H++[o]) (by omega) (by decide) (by simp) (by simp) ?_ ?_ ?_
     · simp [cut_appk hcl]
     · rintro i fr H' hi f19 f18 ⟨f17,o,rfl⟩
       have hr:=rowAt_map N.enc hi
       obtain ⟨hA1,hA2⟩:=hA _ (List.getElem_mem hi)
       have hR':=fun X=>hA2 (H++X) (hH.app X)
       generalize L[i]=x at hr hA1 hR'
       obtain ⟨k3,f4,t3,w3,a3,z3,ks3⟩:=x
       simp only [N.k] at hA1
       rw [N.enc_mk] at hr
       rw [N.v_mk] at hR'
       rcases hA1 with rfl | rfl
       all_goals
        simp [f19,f17,hr]
        refine CallK_of' (hR' _) ?_
        simp
        refine NextK_of (H.length+1) (Nat.le_refl _) (by simp [f19,f18]) ?_
        simp [f17,cut_appk hcl]
     · rintro fr H' f19 f18 ⟨f17,o,rfl⟩
       simp
   · rintro fr H' ⟨o,rfl⟩
     simp [RetK,cut_app hcl]
 | @use d f1 t1 a1 f2 t2 a2 z1 z2 w m hw hm =>
   have hN:Tr .expr 0 (.mk 23 f2 t2 m a2 z2 []) _ := .name hm
   have hX:=fun X=>hK (.mk 23 f2 t2 m a2 z2 []) (by simp) _ _ _ hN (by simp [N.k]) (H++X) (hH.app X)
   rw [N.v_mk] at hW hX ⊢
   simp only [List.map_cons,List.map_nil,N.enc_mk] at hW hX ⊢
   simp [irLyR]
   refine CallK_of' (hW _) ?_
   simp [rowAt_0]
   refine CallK_of' (hX _) ?_
   simp [RetK,cut_app hcl]
 | @defn d f1 t1 a1 z1 w p y x up uy ub hw h1 h2 h4 =>
   have hC:=fun X=>hF.rclosed.lyRClosed p y x z0 h1.params_k h4.block_k (hK p (by simp) _ _ _ h1 (by rw [h1.params_k]; decide)) (hY y (by simp) _ _ h2) (hK x (by simp) _ _ _ h4 (by rw [h4.block_k]; decide)) (H++X) (hH.app X)
   rw [N.v_mk] at hW ⊢
   generalize [p,y,x].map N.enc=R at *
   simp [irLyR]
   refine CallK_of' (hW _) ?_
   simp
   refine CallK_of' (hC _) ?_
   simp [RetK,cut_app hcl]
 | @lambda d f1 t1 a1 z1 p y x up uy ub h1 h2 h4 =>
   have hC:=fun X=>hF.rclosed.lyRClosed p y x z0 h1.params_k h4.block_k (hK p (by simp) _ _ _ h1 (by rw [h1.params_k]; decide)) (hY y (by simp) _ _ h2) (hK x (by simp) _ _ _ h4 (by rw [h4.block_k]; decide)) (H++X) (hH.app X)
   rw [N.v_mk] at hW ⊢
   generalize [p,y,x].map N.enc=R at *
   simp [irLyR]
   refine CallK_of' (hW _) ?_
   simp
   refine CallK_of' (hC _) ?_
   simp [RetK,cut_app hcl]
 | @params d f1 t1 a1 z1 ps hps =>
   have hA:=fun X=>hF.all.lyAll (.mk 4 f0 t0 [] a0 z0 (ps.map fun q:N × Us=>q.1)) 5 (fun k hk=>by
    obtain ⟨q,hq,rfl⟩:=List.mem_map.1 hk
    exact (hps q hq).param_k) (fun k hk=>by
    obtain ⟨q,hq,rfl⟩:=List.mem_map.1 hk
    exact hK _ (List.mem_map_of_mem hq) _ _ _ (hps q hq) (by rw [(hps q hq).param_k]; decide)) hlen (H++X) (hH.app X)
   rw [N.v_mk] at hA hW ⊢
   generalize (ps.map fun q:N × Us=>q.1).map N.enc=R at *
   simp [irLyR]
   refine CallK_of' (hW _) ?_
   simp
   refine CallK_of' (hA _) ?_
   simp [RetK,cut_app hcl]
 | @param d f1 t1 a1 z1 w y uy hw h2 =>
   have hT:=fun X=>hY y (by simp) _ _ h2 (H++X) (hH.app X)
   rw [N.v_mk] at hW ⊢
   cases y with
   | mk k2 f2 t2 w2 a2 z2 ks2 =>
   rw [N.v_mk] at hT
   simp only [List.map_cons,List.map_nil,N.enc_mk] at hW ⊢
   simp [irLyR]
   refine CallK_of' (hW _) ?_
   simp [rowAt_0]
   refine CallK_of' (hT _) ?_
   simp [RetK,cut_app hcl]
 | @block d f1 t1 a1 z1 ps hps =>
   obtain ⟨L,hL⟩:∃ L,L=ps.map (·.1):=⟨_,rfl⟩
   have hA:∀ k ∈ L,Tt P H0 F.rstmt [k.v] (.bool true):=fun k hk=>by
    have hk':k ∈ ps.map (·.1):=hL ▸ hk
    obtain ⟨q,hq,rfl⟩:=List.mem_map.1 hk'
    exact hSt _ hk' _ _ (hps q hq)
   rw [← hL] at hlen
   rw [N.v_mk] at hW ⊢
   rw [← hL] at hW ⊢
   simp [irLyR]
   refine CallK_of' (hW _) ?_
   simp
   refine LoopK_out 3 (fun fr H'=>∃ o,H'=H++[o]) ?_ ?_
   · refine RangeK_of (H.length+1) L.length (fun i fr H'=>fr 77 = .d (.sl z0 6 (L.map N.enc))∧∃ o,H'=H++[o]) (by omega) (by decide) (by simp) (by simp) ?_ ?_ ?_
     · simp [cut_appk hcl]
     · rintro i fr H' hi f79 f78 ⟨f77,o,rfl⟩
       have hr:=rowAt_map N.enc hi
       have hA2:=hA _ (List.getElem_mem hi)
       have hR':=fun X=>hA2 (H++X) (hH.app X)
       generalize L[i]=x at hr hR'
       obtain ⟨k3,f4,t3,w3,a3,z3,ks3⟩:=x
       rw [N.enc_mk] at hr
       rw [N.v_mk] at hR'
       simp [f79,f77,hr]
       refine CallK_of' (hR' _) ?_
       simp
       refine NextK_of (H.length+1) (Nat.le_refl _) (by simp [f79,f78]) ?_
       simp [f77,cut_appk hcl]
     · rintro fr H' f79 f78 ⟨f77,o,rfl⟩
       simp
   · rintro fr H' ⟨o,rfl⟩
     simp [RetK,cut_app hcl]
 | @let_ d f1 t1 a1 z1 w y x uy ux hw h2 h4 =>
   have hT:=fun X=>hY y (by simp) _ _ h2 (H++X) (hH.app X)
   have hX:=fun X=>hE x (by simp) _ _ h4 (H++X) (hH.app X)
   rw [N.v_mk] at hW ⊢
   cases y with
   | mk k2 f2 t2 w2 a2 z2 ks2 =>
   cases x with
   | mk k3 f3 t3 w3 a3 z3 ks3 =>
   rw [N.v_mk] at hT hX
   simp only [List.map_cons,List.map_nil,N.enc_mk] at hW ⊢
   simp [irLyR]
   refine CallK_of' (hW _) ?_
   simp [rowAt_0,rowAt_1]
   refine CallK_of' (hT _) ?_
   simp [rowAt_0,rowAt_1]
   refine CallK_of' (hX _) ?_
   simp [RetK,cut_app hcl]
 | @set d f1 t1 a1 z1 w x ux hw h4 =>
   have hX:=fun X=>hE x (by simp) _ _ h4 (H++X) (hH.app X)
   rw [N.v_mk] at hW ⊢
   cases x with
   | mk k3 f3 t3 w3 a3 z3 ks3 =>
   rw [N.v_mk] at hX
   simp only [List.map_cons,List.map_nil,N.enc_mk] at hW ⊢
   simp [irLyR]
   refine CallK_of' (hW _) ?_
   simp [rowAt_0]
   refine CallK_of' (hX _) ?_
   simp [RetK,cut_app hcl]
 | @group d f1 t1 a1 z1 x ux h4 =>
   have hX:=fun X=>hE x (by simp) _ _ h4 (H++X) (hH.app X)
   rw [N.v_mk] at hW ⊢
   cases x with
   | mk k3 f3 t3 w3 a3 z3 ks3 =>
   rw [N.v_mk] at hX
   simp only [List.map_cons,List.map_nil,N.enc_mk] at hW ⊢
   simp [irLyR]
   refine CallK_of' (hW _) ?_
   simp [rowAt_0]
   refine CallK_of' (hX _) ?_
   simp [RetK,cut_app hcl]
 | @entry d f1 t1 a1 z1 w x ux hw h4 =>
   have hX:=fun X=>hE x (by simp) _ _ h4 (H++X) (hH.app X)
   rw [N.v_mk] at hW ⊢
   cases x with
   | mk k3 f3 t3 w3 a3 z3 ks3 =>
   rw [N.v_mk] at hX
   simp only [List.map_cons,List.map_nil,N.enc_mk] at hW ⊢
   simp [irLyR]
   refine CallK_of' (hW _) ?_
   simp [rowAt_0]
   refine CallK_of' (hX _) ?_
   simp [RetK,cut_app hcl]
 | @say d k1 f1 t1 a1 z1 x u ux hk h4 =>
   have hX:=fun X=>hE x (by simp) _ _ h4 (H++X) (hH.app X)
   simp only [sayT,List.mem_cons,Prod.mk.injEq,List.not_mem_nil,or_false] at hk
   rw [N.v_mk] at hW ⊢
   cases x with
   | mk k3 f3 t3 w3 a3 z3 ks3 =>
   rw [N.v_mk] at hX
   simp only [List.map_cons,List.map_nil,N.enc_mk] at hW ⊢
   rcases hk with ⟨rfl,rfl⟩ | ⟨rfl,rfl⟩ | ⟨rfl,rfl⟩
   all_goals
    simp [irLyR]
    refine CallK_of' (hW _) ?_
    simp [rowAt_0]
    refine CallK_of' (hX _) ?_
    simp [RetK,cut_app hcl]
 | @if0 d f1 t1 a1 f2 t2 a2 z1 z2 x y ux uy h4 h5 =>
   have hX:=fun X=>hE x (by simp) _ _ h4 (H++X) (hH.app X)
   have hY':=fun X=>hB y (by simp) _ _ h5 (H++X) (hH.app X)
   have hN:=fun X=>hF.rblock.lyRBlockN (H0:=H0) (.mk 0 f2 t2 [] a2 z2 []) rfl (H++X) (hH.app X)
   have hT:=fun X=>hY (.mk 0 f2 t2 [] a2 z2 []) (by simp) 0 [] .none (H++X) (hH.app X)
   rw [N.v_mk] at hW hN hT ⊢
   cases x with
   | mk k3 f3 t3 w3 a3 z3 ks3 =>
   cases y with
   | mk k4 f4 t4 w4 a4 z4 ks4 =>
   rw [N.v_mk] at hX hY'
   simp only [List.map_cons,List.map_nil,N.enc_mk] at hW hN hT ⊢
   simp [irLyR]
   refine CallK_of' (hW _) ?_
   simp [rowAt_0,rowAt_1,rowAt_2]
   refine CallK_of' (hX _) ?_
   simp [rowAt_0,rowAt_1,rowAt_2]
   refine CallK_of' (hY' _) ?_
   simp [rowAt_0,rowAt_1,rowAt_2]
   refine CallK_of' (hN _) ?_
   simp [rowAt_0,rowAt_1,rowAt_2]
   refine CallK_of' (hT _) ?_
   simp [RetK,cut_app hcl]
 | @if1 d f1 t1 a1 z1 x y o ux uy uo h4 h5 h6 =>
   have hX:=fun X=>hE x (by simp) _ _ h4 (H++X) (hH.app X)
   have hY':=fun X=>hB y (by simp) _ _ h5 (H++X) (hH.app X)
   have hO:=fun X=>hB o (by simp) _ _ h6 (H++X) (hH.app X)
   rw [N.v_mk] at hW ⊢
   cases x with
   | mk k3 f3 t3 w3 a3 z3 ks3 =>
   cases y with
   | mk k4 f4 t4 w4 a4 z4 ks4 =>
   cases o with
   | mk k5 f5 t5 w5 a5 z5 ks5 =>
   rw [N.v_mk] at hX hY' hO
   simp only [List.map_cons,List.map_nil,N.enc_mk] at hW ⊢
   simp [irLyR]
   refine CallK_of' (hW _) ?_
   simp [rowAt_0,rowAt_1,rowAt_2]
   refine CallK_of' (hX _) ?_
   simp [rowAt_0,rowAt_1,rowAt_2]
   refine CallK_of' (hY' _) ?_
   simp [rowAt_0,rowAt_1,rowAt_2]
   refine CallK_of' (hO _) ?_
   simp [RetK,cut_app hcl]
 | @while_ d f1 t1 a1 z1 x y ux uy h4 h5 =>
   have hX:=fun X=>hE x (by simp) _ _ h4 (H++X) (hH.app X)
   have hY':=fun X=>hB y (by simp) _ _ h5 (H++X) (hH.app X)
   rw [N.v_mk] at hW ⊢
   cases x with
   | mk k3 f3 t3 w3 a3 z3 ks3 =>
   cases y with
   | mk k4 f4 t4 w4 a4 z4 ks4 =>
   rw [N.v_mk] at hX hY'
   simp only [List.map_cons,List.map_nil,N.enc_mk] at hW ⊢
   simp [irLyR]
   refine CallK_of' (hW _) ?_
   simp [rowAt_0,rowAt_1]
   refine CallK_of' (hX _) ?_
   simp [rowAt_0,rowAt_1]
   refine CallK_of' (hY' _) ?_
   simp [RetK,cut_app hcl]
 | none=>exact absurd rfl hk0
 | @some d n us h =>
   have:=h.kind_r
   simp only [N.k] at this
   exact hdef h (by simp) (by omega) (by omega) (by omega) (by omega)
 | bin hk hx hy h1 h2 =>
   have hk':=hk
   simp only [binT,List.mem_cons,Prod.mk.injEq,List.not_mem_nil,or_false] at hk'
   exact hdef (.bin (d:=d) hk hx hy h1 h2) (by simp) (by omega) (by omega) (by omega) (by omega)
 | word hk h24 =>
   have hk':=hk
   simp only [wordT,List.mem_cons,Prod.mk.injEq,List.not_mem_nil,or_false] at hk'
   exact hdef (.word (d:=d) hk h24) (by simp) (by omega) (by omega) (by omega) (by omega)
 | field hw hx hp=>exact hdef (.field hw hx hp) (by simp) (by decide) (by decide) (by decide) (by decide)
 | call ps hx hp h=>exact hdef (.call ps hx hp h) (by simp) (by decide) (by decide) (by decide) (by decide)
 | num hw=>exact hdef (.num (d:=d) hw) (by simp) (by decide) (by decide) (by decide) (by decide)
 | str hw=>exact hdef (.str (d:=d) hw) (by simp) (by decide) (by decide) (by decide) (by decide)
 | name hw=>exact hdef (.name (d:=d) hw) (by simp) (by decide) (by decide) (by decide) (by decide)
 | input=>exact hdef (.input (d:=d)) (by simp) (by decide) (by decide) (by decide) (by decide)
 | record ps h=>exact hdef (.record ps h) (by simp) (by decide) (by decide) (by decide) (by decide)
 | trec ps h=>exact hdef (.trec ps h) (by simp) (by decide) (by decide) (by decide) (by decide)
 | tfield hw hx=>exact hdef (.tfield hw hx) (by simp) (by decide) (by decide) (by decide) (by decide)
 | tfn ps h hy=>exact hdef (.tfn ps h hy) (by simp) (by decide) (by decide) (by decide) (by decide)
end
end
section
section
variable {tp tn:TypeId} {H0 H X:Hp} {b t:Nat} {a a':A} {n n':Nat} {bs bs':Bs} {m m':Nat}
theorem PB_cutA (h:PC H0 H b t a m) (hcl:(PB tp H b t a n bs).Closed) (ha':a' = .d .nilp∨a' = .ptr b 0) (k:Nat) (Y:Hp) (hk:Y.length=k) (hY:∀ o ∈ Y,o.clr (H.length+k)=o) (n':Nat) (bs':Bs) (X:Hp):Hp.cut (H.length+k) (PB tp H b t a' n' bs'++(Y++X))=PB tp H b t a' n' bs'++Y:=by
 have hb:=h.hb; have ht:=h.ht
 have e:=cut_appk hcl k (Y++X)
 rw [PB_len] at e
 rw [← PB_PB (a:=a) (n:=n) (bs:=bs) h.ne]
 have e2:∀ Z:Hp,PB tp (PB tp H b t a n bs) b t a' n' bs'++Z=PB tp (PB tp H b t a n bs++Z) b t a' n' bs':=fun Z=>(PB_app (by rw [PB_len]; exact hb) (by rw [PB_len]; exact ht)).symm
 rw [e2,e2]
 have e3:∀ Z,PB tp Z b t a' n' bs'=(Z.set b (.box tp [a',.osl true 1 (byteRows bs') t,.d (.int .i64 (n':Int))])).set t (.tok bs'.length 1 5):=fun Z=>rfl
 rw [e3,e3,Hp.cut_set,Hp.cut_set,e]
 have h1:b < H.length+k:=by omega
 have h2:t < H.length+k:=by omega
 have hm:(List.take k (Y++X)).map (Ob.clr (H.length+k))=Y:=by
  rw [← hk,List.take_left]
  rw [List.map_congr_left (g:=id) fun o ho=>by rw [hk]; exact hY o ho]
  simp
 rw [hm]
 rcases ha' with rfl | rfl<;>simp [h1,h2]
end
section
variable {P:Program} {tp tn:TypeId} {H0:Hp}
def OkA (b:Nat) (a:A):Prop:=a = .d .nilp∨a = .ptr b 0
def filT (ps:List (N × Us)):Bs:=txU (ps.flatMap fun p=>p.2++[(-1,[10])])
theorem filT_take (ps:List (N × Us)) (i:Nat) (h:i < ps.length):filT (ps.take (i+1))=filT (ps.take i)++(txU ps[i].2++[10]):=by
 unfold filT
 rw [List.take_succ_eq_append_getElem h,List.flatMap_append,txU_app]
 simp [txU_cons,txU_app,txU_nil]
theorem filT_le (ps:List (N × Us)) (i:Nat):(filT (ps.take i)).length≤(filT ps).length:=by
 have h:filT ps=filT (ps.take i)++filT (ps.drop i):=by
  unfold filT
  rw [← txU_app,← List.flatMap_append,List.take_append_drop]
 rw [h]; simp
theorem HasT.lyFile {f wb ws closed typed block stmt expr} (h:HasT P [6000045,6000054,6000074,6000093,6000113] f (irLyNode f wb ws closed typed block stmt expr tn)) (hwb:WbOk P tp H0 wb) (hn:∀ n:N,NodeOk P tp H0 f n) (n:N) (d:Nat) (us:Us) (ht:Tr .file d n us) (hsz:n.size≤1048576) (hdp:d+n.depth≤1000)
 (H:Hp) (b t:Nat) (a:A) (bs:Bs) (hp:PC H0 H b t a (bs.length+(txU us).length)):ACall P f [.ptr b 0,n.v] (PB tp H b t a d bs) (fun r H'=>r = .tup []∧∃ a',OkA b a'∧H'=PB tp H b t a' d (bs++txU us)):=by
 obtain ⟨fn,hf,hcf⟩:=h
 refine acall_fin hf hcf (by simp [irLyNode]) fun hcl _ => ?_
 have hbl:=hp.hb
 cases ht with
 | @file d f1 t1 a1 z1 ps hps =>
 rw [N.size_mk] at hsz
 rw [N.depth_mk] at hdp
 have hlen:=N.sizes_len (ps.map (·.1))
 have hpl:ps.length≤1048576:=by simp at hlen; omega
 obtain ⟨R,hR⟩:∃ R,R=(ps.map (·.1)).map N.enc:=⟨_,rfl⟩
 have hRl:R.length=ps.length:=by rw [hR]; simp
 rw [N.v_mk,← hR]
 have he:txU (ps.flatMap fun p=>p.2++[(-1,[10])])=filT ps:=rfl
 rw [he] at hp ⊢
 obtain ⟨nb,hnb⟩:∃ nb:Ob,nb=Ob.box tn [.d (.int .i64 1),.d (.int .i64 f1),.d (.int .i64 t1),.d (.str []),.d (.int .i64 a1),.d (.sl z1 6 R)]:=⟨_,rfl⟩
 have hnbc:∀ n,nb.clr n=nb:=fun n=>by rw [hnb]; rfl
 have hc1:∀ a' bs' X,(a' = .d .nilp∨a' = .ptr b 0)→Hp.cut (H.length+1) (PB tp H b t a' d bs'++nb :: X)=PB tp H b t a' d bs'++[nb]:=fun a' bs' X ha'=>PB_cutA hp hcl ha' 1 [nb] rfl (fun o ho=>by rw [List.mem_singleton.1 ho]; exact hnbc _) d bs' X
 have hc0:∀ a' bs' X,(a' = .d .nilp∨a' = .ptr b 0)→Hp.cut H.length (PB tp H b t a' d bs'++X)=PB tp H b t a' d bs':=fun a' bs' X ha'=>PB_cutA hp hcl ha' 0 [] rfl (fun o ho=>by cases ho) d bs' X |>.trans (List.append_nil _)
 simp [irLyNode,PB_len,PB_get,hRl]
 rw [← hnb]
 refine LoopK_out 1 (fun fr H'=>∃ a',OkA b a'∧H'=PB tp H b t a' d (bs++filT ps)++[nb]) ?_ ?_
 · refine RangeK_of (H.length+1) ps.length (fun i fr H'=>fr 0 = .ptr b 0∧fr 16 = .d (.sl z1 6 R)∧∃ a',OkA b a'∧H'=PB tp H b t a' d (bs++filT (ps.take i))++[nb]) (by omega) (by decide) (by simp [PB_len]) (by simp) ?_ ?_ ?_
   · have hb1:b < H.length+1:=by omega
     refine ⟨by simp [hb1],by simp,a,hp.ha,?_⟩
     rw [hc1 a bs [] hp.ha]
     simp [filT,txU_nil]
   · rintro i fr H' hi f18 f17 ⟨f0,f16,a',ha',rfl⟩
     have hr:Zam.rowAt R i=some (ps[i].1.enc):=by
      rw [hR,List.map_map]
      exact rowAt_map (N.enc ∘ (·.1)) hi
     have hst:=filT_take ps i hi
     have hsl:=filT_le ps (i+1)
     have hm:=List.getElem_mem hi
     have hkf:=kid_facts (List.mem_map_of_mem (f:=(·.1)) hm)
     have hN:=hn ps[i].1 _ _ _ (by simp) (by simp) (by simp) (hps _ hm) (by omega) (by omega)
     generalize ps[i]=q at hr hst hN
     obtain ⟨x,us⟩:=q
     cases x with
     | mk k f' t' w a2 z' ks =>
     simp only at hr hst hN
     rw [N.enc_mk] at hr
     rw [N.v_mk] at hN
     rw [hst] at hsl
     simp at hsl hst
     have hpc:∀ m',m'≤bs.length+(filT ps).length→PC H0 H b t a' m':=fun m' h=>⟨hp.pre,hp.b0,hp.t0,hp.hb,hp.ht,hp.ne,ha',by have:=hp.hm; omega⟩
     have hb1:b < H.length+1:=by omega
     simp [f18,f16,hr,f0,PB_len]
     refine CallK_of' (hN.at (hpc _ (by simp; omega)) _) ?_
     simp [f0]
     refine CallK_of' ((hwb d 10).at (hp.ptr (by simp; omega)) _) ?_
     simp
     refine NextK_of (H.length+1) (Nat.le_refl _) (by simp [f18,f17,PB_len]) ?_
     refine ⟨by simp [f0,hb1],by simp [f16],.ptr b 0,.inr rfl,?_⟩
     rw [hc1 _ _ _ (.inr rfl),hst]
   · rintro fr H' f18 f17 ⟨f0,f16,a',ha',rfl⟩
     rw [List.take_of_length_le (by omega)]
     simp
     exact ⟨a',ha',rfl⟩
 · rintro fr H' ⟨a',ha',rfl⟩
   simp [RetK,PB_len,hc0 _ _ _ ha']
   exact ⟨a',ha',rfl⟩
theorem Has.lyRight {f depth right} (h:Has P f (irLyRight depth right tn)) (hd:Has P depth (irTDepth depth tn)) (n:N) (hk:n.k=1) (hr:Tt P H0 right [n.v] (.bool true)) (hdp:n.depth≤60) (hsz:n.size≤1048576):Tt P H0 f [n.v] (.bool true):=by
 intro H hH
 obtain ⟨fn,hf,hcf⟩:=h
 refine acall_fin hf hcf (by simp [irLyRight]) fun hcl _ => ?_
 have hD:=fun X=>hd.depth n (by omega) (H++X)
 have hR:=fun X=>hr (H++X) (hH.app X)
 have h60:(n.depth:Int)≤60:=by omega
 generalize n.depth=D at *
 cases n with
 | mk k f' t' w a' z ks =>
 simp only [N.k] at hk
 subst hk
 rw [N.v_mk] at hD hR ⊢
 simp [irLyRight]
 refine CallK_of' (hD _) ?_
 have h60':D≤60:=by omega
 simp [h60,h60']
 refine CallK_of' (hR _) ?_
 simp [RetK,cut_app hcl]
theorem PB_tail {H Y:Hp} {b t:Nat} {a:A} {n:Nat} {bs:Bs} (hb:H.length≤b) (ht:H.length≤t):∃ Z,PB tp (H++Y) b t a n bs=H++Z:=by
 unfold PB
 rw [List.set_append_right _ _ hb,List.set_append_right _ _ ht]
 exact ⟨_,rfl⟩
theorem Has.lyPrint {f Right node str} (h:Has P f (irLyPrint Right node str tn tp)) (hR:∀ n:N,n.k=1→(∃ us,Tr .file 0 n us)→n.depth≤60→n.size≤1048576→Tt P H0 Right [n.v] (.bool true)) (hstr:StringOk3 P str tp)
 (hnode:∀ (n:N) (us:Us),Tr .file 0 n us→n.size≤1048576→n.depth≤60→∀ (H:Hp) (b t:Nat) (a:A) (bs:Bs),PC H0 H b t a (bs.length+(txU us).length)→ACall P node [.ptr b 0,n.v] (PB tp H b t a 0 bs) (fun r H'=>r = .tup []∧∃ a',OkA b a'∧H'=PB tp H b t a' 0 (bs++txU us)))
 (n:N) (us:Us) (ht:Tr .file 0 n us) (hsz:n.size≤1048576) (hdp:n.depth≤60) (hlen:(txU us).length≤1000000000) (H:Hp) (hH:Pre0 H0 H):ACall P f [n.v] H (fun r H'=>r = .tup [.d (.str (txU us)),.d (.int .i64 0)]∧H'=H):=by
 obtain ⟨fn,hf,hcf⟩:=h
 refine acall_fin hf hcf (by simp [irLyPrint]) fun hcl _ => ?_
 have hk1:n.k=1:=by cases ht; rfl
 have hR:=fun X=>hR n hk1 ⟨us,ht⟩ hdp hsz (H++X) (hH.app X)
 have hN:=hnode n us ht hsz hdp
 have hHl:H0.length≤H.length:=by obtain ⟨Y,rfl⟩:=hH; simp
 cases n with
 | mk k f' t' w a' z ks =>
 rw [N.v_mk] at hR hN ⊢
 simp [irLyPrint]
 refine CallK_of' (hR _) ?_
 obtain ⟨nb,hnb⟩:∃ nb:Ob,nb=Ob.box tn [.d (.int .i64 k),.d (.int .i64 f'),.d (.int .i64 t'),.d (.str w),.d (.int .i64 a'),.d (.sl z 6 (ks.map N.enc))]:=⟨_,rfl⟩
 have hN2:=hN (H++[nb,.tok 0 1 5,.tok 0 1 5]) (H.length+1) (H.length+2) (.d .nilp) [] ⟨hH.app _,by omega,by omega,by simp,by simp,by omega,.inl rfl,by simp; omega⟩
 have e1:PB tp (H++[nb,.tok 0 1 5,.tok 0 1 5]) (H.length+1) (H.length+2) (.d .nilp) 0 []=(H++[nb,.box tp [.d .nilp,.d (.sl true 1 []),.d (.int .i64 0)]]).set (H.length+1) (.box tp [.d .nilp,.osl true 1 [] (H++[nb,.box tp [.d .nilp,.d (.sl true 1 []),.d (.int .i64 0)]]).length,.d (.int .i64 0)])++[.tok 0 1 5]:=by
  unfold PB
  simp [byteRows]
 rw [e1] at hN2
 have hN3:=ACall.ghost (by simp) hN2
 simp
 rw [← hnb]
 refine CallK_of hN3 ?_
 rintro r H' ⟨rfl,a2,ha2,rfl⟩
 have hS:=hstr (PB tp (H++[nb,.tok 0 1 5,.tok 0 1 5]) (H.length+1) (H.length+2) a2 0 ([]++txU us)) (H.length+1) (H.length+2) a2 (.d (.int .i64 0)) ([]++txU us) (PB_b (by simp) (by omega)) (PB_t (by simp)) (by simp; omega)
 obtain ⟨Z,hZ⟩:=PB_tail (tp:=tp) (H:=H) (Y:=[nb,.tok 0 1 5,.tok 0 1 5]) (b:=H.length+1) (t:=H.length+2) (a:=a2) (n:=0) (bs:=[]++txU us) (by omega) (by omega)
 rw [hZ] at hS ⊢
 simp only [List.nil_append] at hS
 simp
 refine CallK_of' hS ?_
 simp [RetK,cut_app hcl]
end
end
section
inductive N.Sm (p:Bool):N→N→Prop
 | mk {k f t f' t':Int} {w:Bs} {a a':Int} {z z':Bool} {ks ks':List N} (hp:p=true→f=f'∧t=t'∧a=a') (hl:ks.length=ks'.length) (hk:∀ (i:Nat) (x y:N),ks[i]?=some x→ks'[i]?=some y→N.Sm p x y) :
  N.Sm p (.mk k f t w a z ks) (.mk k f' t' w a' z' ks')
theorem N.Sm.refl (p:Bool):∀ n:N,N.Sm p n n:=by
 refine N.ind fun k f t w a z ks ih => ?_
 refine .mk (fun _=>⟨rfl,rfl,rfl⟩) rfl fun i x y hx hy => ?_
 rw [hx] at hy
 cases hy
 exact ih x (List.mem_of_getElem? hx)
section
variable {P:Program}
theorem Has.same6 {f tn} (h:Has P f (irR6Same f tn)) (p:Bool) {n m:N} (hs:N.Sm p n m):n.size≤1125899906842624→∀ (H:Hp),ACall P f [n.v,m.v,.d (.bool p)] H (fun r H'=>r = .d (.bool true)∧H'=H):=by
 induction hs with
 | @mk k f' t f'' t' w a a' z z' ks ks' hp hl hk ih =>
 intro hsz H
 obtain ⟨fn,hf,hcf⟩:=h
 refine acall_fin hf hcf (by simp [irR6Same]) fun hcl _ => ?_
 rw [N.size_mk] at hsz
 have hlen:=N.sizes_len ks
 rw [N.v_mk,N.v_mk]
 obtain ⟨b1,hb1⟩:∃ b1:Ob,b1 = .box tn [.d (.int .i64 k),.d (.int .i64 f'),.d (.int .i64 t),.d (.str w),.d (.int .i64 a),.d (.sl z 6 (ks.map N.enc))]:=⟨_,rfl⟩
 obtain ⟨b2,hb2⟩:∃ b2:Ob,b2 = .box tn [.d (.int .i64 k),.d (.int .i64 f''),.d (.int .i64 t'),.d (.str w),.d (.int .i64 a'),.d (.sl z' 6 (ks'.map N.enc))]:=⟨_,rfl⟩
 have hg1:∀ X,(H++b1 :: b2 :: X)[H.length]?=some (.box tn [.d (.int .i64 k),.d (.int .i64 f'),.d (.int .i64 t),.d (.str w),.d (.int .i64 a),.d (.sl z 6 (ks.map N.enc))]):=fun X=>by rw [hb1]; simp
 have hg2:∀ X,(H++b1 :: b2 :: X)[H.length+1]?=some (.box tn [.d (.int .i64 k),.d (.int .i64 f''),.d (.int .i64 t'),.d (.str w),.d (.int .i64 a'),.d (.sl z' 6 (ks'.map N.enc))]):=fun X=>by rw [hb2]; simp
 have hcut2:Hp.cut (H.length+2) (H++[b1,b2])=H++[b1,b2]:=by rw [cut_appk hcl,hb1,hb2]; rfl
 cases p with
 | false =>
   simp [irR6Same,hl]
   rw [← hb1,← hb2]
   refine LoopK_out 0 (fun fr H'=>H'=H++[b1,b2]) ?_ ?_
   · refine ForK_of (H.length+2) ks.length (fun i fr H'=>fr 2 = .d (.bool false)∧fr 3 = .ptr H.length 0∧fr 4 = .ptr (H.length+1) 0∧H'=H++[b1,b2]) (by omega) (by decide) (by simp) (by simp) ?_ ?_
     · simp [hcut2]
     · rintro i fr H' hi f7 ⟨f2,f3,f4,rfl⟩
       subst hb1
       subst hb2
       simp [f7,f3]
       refine BrK_split (fun hlt => ?_) (fun hlt => ?_)
       · have hlt:i < ks.length:=by simpa using hlt
         have hlt':i < ks'.length:=by omega
         have hr:=rowAt_map N.enc hlt
         have hr':=rowAt_map N.enc hlt'
         have hx:ks[i]?=some ks[i]:=List.getElem?_eq_getElem hlt
         have hy:ks'[i]?=some ks'[i]:=List.getElem?_eq_getElem hlt'
         have hxs:=N.sizes_mem (List.getElem_mem hlt)
         generalize ks[i]=x at hr hx hxs
         generalize ks'[i]=y at hr' hy
         have ih':=ih i x y hx hy (by omega)
         obtain ⟨k1,f1,t1,w1,a1,z1,l1⟩:=x
         obtain ⟨k2,f2',t2,w2,a2,z2,l2⟩:=y
         rw [N.enc_mk] at hr hr'
         rw [N.v_mk,N.v_mk] at ih'
         simp [f7,f3,f4,f2,hr,hr']
         refine CallD_of (ih' _) ?_
         simp
         refine NextF_of (H.length+2) (Nat.le_refl _) hlt (by simp [f7]) ?_
         simp [f2,f3,f4]
         exact hcut2
       · simp
   · rintro fr H' rfl
     simp
     simp [RetK,cut_app hcl]
 | true =>
   obtain ⟨rfl,rfl,rfl⟩:=hp rfl
   simp [irR6Same,hl]
   rw [← hb1,← hb2]
   refine LoopK_out 0 (fun fr H'=>H'=H++[b1,b2]) ?_ ?_
   · refine ForK_of (H.length+2) ks.length (fun i fr H'=>fr 2 = .d (.bool true)∧fr 3 = .ptr H.length 0∧fr 4 = .ptr (H.length+1) 0∧H'=H++[b1,b2]) (by omega) (by decide) (by simp) (by simp) ?_ ?_
     · simp [hcut2]
     · rintro i fr H' hi f7 ⟨f2,f3,f4,rfl⟩
       subst hb1
       subst hb2
       simp [f7,f3]
       refine BrK_split (fun hlt => ?_) (fun hlt => ?_)
       · have hlt:i < ks.length:=by simpa using hlt
         have hlt':i < ks'.length:=by omega
         have hr:=rowAt_map N.enc hlt
         have hr':=rowAt_map N.enc hlt'
         have hx:ks[i]?=some ks[i]:=List.getElem?_eq_getElem hlt
         have hy:ks'[i]?=some ks'[i]:=List.getElem?_eq_getElem hlt'
         have hxs:=N.sizes_mem (List.getElem_mem hlt)
         generalize ks[i]=x at hr hx hxs
         generalize ks'[i]=y at hr' hy
         have ih':=ih i x y hx hy (by omega)
         obtain ⟨k1,f1,t1,w1,a1,z1,l1⟩:=x
         obtain ⟨k2,f2',t2,w2,a2,z2,l2⟩:=y
         rw [N.enc_mk] at hr hr'
         rw [N.v_mk,N.v_mk] at ih'
         simp [f7,f3,f4,f2,hr,hr']
         refine CallD_of (ih' _) ?_
         simp
         refine NextF_of (H.length+2) (Nat.le_refl _) hlt (by simp [f7]) ?_
         simp [f2,f3,f4]
         exact hcut2
       · simp
   · rintro fr H' rfl
     simp
     simp [RetK,cut_app hcl]
end
end
section
section
variable {L:List Tk}
end
section
variable {L L':List Tk} {d b lo c:Nat}
end
end
section
section
variable {L L':List Tk} {d b:Nat}
end
end
section
section
variable {L L':List Tk} {d b:Nat}
end
theorem parseO_ok {s:Bs} (h:(parseO s).2.2.1=0):(lexS s).2.1=0∧(parseP (lexS s).1).2.1=0∧(parseO s).2.1=(parseP (lexS s).1).1∧(parseO s).1=(lexS s).1:=by
 unfold parseO at h ⊢
 by_cases h1:(lexS s).2.1 ≠ 0
 · rw [if_pos h1] at h; exact absurd h h1
 rw [if_neg h1] at h ⊢
 by_cases h2:(parseP (lexS s).1).2.1 ≠ 0
 · rw [if_pos h2] at h; exact absurd h h2
 rw [if_neg h2]
 exact ⟨by simpa using h1,by simpa using h2,rfl,rfl⟩
theorem parseO_of {s:Bs} (h:(lexS s).2.1=0) (h2:(parseP (lexS s).1).2.1=0):(parseO s).2.2.1=0∧(parseO s).2.1=(parseP (lexS s).1).1:=by
 unfold parseO
 rw [if_neg (by simp [h]),if_neg (by simp [h2])]
 exact ⟨rfl,rfl⟩
theorem parseP_ok {L:List Tk} (h:(parseP L).2.1=0):∃ j,parseF L = .ok (parseP L).1 j∧(parseP L).1.depth≤60:=by
 unfold parseP at h ⊢
 by_cases h1:L=[]∨kdT L (L.length - 1) ≠ 0∨4000 < L.length
 · rw [if_pos h1] at h; exact absurd h (by simp)
 rw [if_neg h1] at h ⊢
 cases hF:parseF L with
 | out=>rw [hF] at h; simp at h
 | bad q=>rw [hF] at h; simp at h
 | ok m j =>
   rw [hF] at h
   simp only at h ⊢
   by_cases h6:60 < m.depth
   · rw [if_pos h6] at h; simp at h
   · rw [if_neg h6]; exact ⟨j,rfl,by simp only; omega⟩
end
theorem parseP_size (L:List Tk):(parseP L).1.size≤1+4 * L.length:=by
 have hn:N.none.size=1:=N.size_none
 unfold parseP
 split
 · simp only; omega
 · cases hF:parseF L with
   | out=>simp only; omega
   | bad q=>simp only; omega
   | ok m j =>
     simp only
     split
     · simp only; omega
     · have hsz:=pp_size (L:=L) (16 * L.length+8) (.file []) 0 trivial
       rw [show pp L (16 * L.length+8) (.file []) 0 = .ok m j from hF] at hsz
       simp only [Sz,G.k1,G.sz,N.sizes_nil] at hsz
       have hadv:=pp_adv (L:=L) (16 * L.length+8) (.file []) 0
       rw [show pp L (16 * L.length+8) (.file []) 0 = .ok m j from hF] at hadv
       obtain ⟨v1,-,v3⟩:=hadv
       simp only; omega
theorem parseO_size (s:Bs):(parseO s).2.1.size≤16001:=by
 unfold parseO
 split
 · simp only [N.size_none]; omega
 · rename_i h
   split
   · simp only [N.size_none]; omega
   · have:=parseP_size (lexS s).1
     have:=(lexS_like (s:=s) (by simpa using h)).2.2.2.2
     simp only; omega
section
section
variable {L L':List Tk}
theorem kx_at (h:L.map kx=L'.map kx) (i:Nat):(L[i]?).map kx=(L'[i]?).map kx:=by
 rw [← List.getElem?_map,← List.getElem?_map,h]
theorem isT_kx (h:L.map kx=L'.map kx):isT L=isT L':=by
 funext i x
 have:=kx_at h i
 unfold isT
 cases h1:L[i]? with
 | none =>
   cases h2:L'[i]? with
   | none=>rfl
   | some b=>rw [h1,h2] at this; cases this
 | some a =>
   cases h2:L'[i]? with
   | none=>rw [h1,h2] at this; cases this
   | some b =>
     rw [h1,h2] at this
     simp [kx] at this ⊢
     rw [this.1,this.2]
theorem kdT_kx (h:L.map kx=L'.map kx):kdT L=kdT L':=by
 funext i
 have:=kx_at h i
 unfold kdT
 cases h1:L[i]? with
 | none =>
   cases h2:L'[i]? with
   | none=>rfl
   | some b=>rw [h1,h2] at this; cases this
 | some a =>
   cases h2:L'[i]? with
   | none=>rw [h1,h2] at this; cases this
   | some b =>
     rw [h1,h2] at this
     simp [kx] at this ⊢
     exact this.1
theorem txT_kx (h:L.map kx=L'.map kx):txT L=txT L':=by
 funext i
 have:=kx_at h i
 unfold txT
 cases h1:L[i]? with
 | none =>
   cases h2:L'[i]? with
   | none=>rfl
   | some b=>rw [h1,h2] at this; cases this
 | some a =>
   cases h2:L'[i]? with
   | none=>rw [h1,h2] at this; cases this
   | some b =>
     rw [h1,h2] at this
     simp [kx] at this ⊢
     exact this.2
theorem pp_kx (h:L.map kx=L'.map kx):∀ (n:Nat) (g:G) (i:Nat),pp L n g i=pp L' n g i
 | 0,g,i=>rfl
 | n + 1, g, i => by
   have ih:pp L n=pp L' n:=by funext g i; exact pp_kx h n g i
   cases g<;>simp only [pp,wantR,wordR,isT_kx h,kdT_kx h,txT_kx h,ih]
theorem parseP_kx (h:L.map kx=L'.map kx):parseP L=parseP L':=by
 have hl:L.length=L'.length:=by simpa using congrArg List.length h
 have h0:L=[] ↔ L'=[]:=by rw [← List.length_eq_zero_iff,← List.length_eq_zero_iff,hl]
 unfold parseP parseF
 simp only [pp_kx h,kdT_kx h,hl,h0]
end
theorem Tr.len {c:Cl} {d:Nat} {n:N} {us:Us} (h:Tr c d n us):d+n.depth≤200→(txU us).length+600≤40000 * n.size+(if c = .typed then 2 else 0):=by
 have hspc:∀ d,(spc d).length=2 * d:=fun d=>by
  induction d with
  | zero=>rfl
  | succ d ih=>rw [spc,List.length_append,ih]; simp; omega
 have hl:∀ (q:Nat→Us→Us) (ps:List (N × Us)),(∀ p ∈ ps,(txU p.2).length+600≤40000 * p.1.size)→(txU (sepU (ps.map (·.2)))).length≤40000 * N.sizes (ps.map (·.1))∧∀ u:Int × Bs,u.2.length≤600→(txU ((ps.map (·.2)).flatMap fun us=>u :: us)).length≤40000 * N.sizes (ps.map (·.1))∧(txU (ps.flatMap fun p=>p.2++[u])).length≤40000 * N.sizes (ps.map (·.1)):=fun _ ps=>by
  induction ps with
  | nil=>intro _; simp [sepU,txU]
  | cons p r ih =>
    intro h
    obtain ⟨i1,i2⟩:=ih fun p hp=>h p (by simp [hp])
    have hp:=h p (by simp)
    rw [List.map_cons,List.map_cons,N.sizes_cons]
    refine ⟨?_,fun u hu=>⟨?_,?_⟩⟩
    · by_cases hr:r.map (·.2)=[]
      · rw [hr,sepU]; omega
      · rw [sepU_cons2 _ hr,txU_app,txU_cons,txU_cons]
        simp [spU]; omega
    · rw [List.flatMap_cons,txU_app,txU_cons,List.length_append,List.length_append]
      have:=(i2 u hu).1
      omega
    · rw [List.flatMap_cons,txU_app,txU_app,txU_cons,List.length_append,List.length_append,List.length_append]
      have:=(i2 u hu).2
      simp [txU_nil]
      omega
 have hl:=hl (fun _ u=>u)
 have hsz:∀ {ks:List N} {p:N},p ∈ ks→p.depth≤N.depths ks:=fun {ks}=>by
  induction ks with
  | nil=>simp
  | cons q r ih =>
    intro p hp
    rw [N.depths_cons]
    rcases List.mem_cons.1 hp with rfl | hp
    · omega
    · have:=ih hp; omega
 induction h with
 | @file d f t a z ps h ih =>
   intro hd
   rw [N.depth_mk] at hd
   rw [N.size_mk]
   have:=((hl ps fun p hp=>by
    have:=ih p hp (by have:=hsz (List.mem_map_of_mem (f:=(·.1)) hp); omega)
    simpa using this).2 (-1,[10]) (by simp)).2
   simp; omega
 | use hw hm =>
   intro _
   rw [N.size_mk]
   have:=hw.1.len; have:=hm.1.len
   simp [txU,spU,kUse]; omega
 | defn hw hp hy hb ip iy ib =>
   intro hd
   rw [N.depth_mk,N.depths_cons,N.depths_cons,N.depths_cons] at hd
   rw [N.size_mk,N.sizes_cons,N.sizes_cons,N.sizes_cons]
   have:=hw.1.len
   have:=ip (by omega); have:=iy (by omega); have:=ib (by omega)
   simp [txU_app,txU_cons,spU,kDef] at *; omega
 | lambda hp hy hb ip iy ib =>
   intro hd
   rw [N.depth_mk,N.depths_cons,N.depths_cons,N.depths_cons] at hd
   rw [N.size_mk,N.sizes_cons,N.sizes_cons,N.sizes_cons]
   have:=ip (by omega); have:=iy (by omega); have:=ib (by omega)
   simp [txU_app,txU_cons,spU,kFn] at *; omega
 | params ps h ih =>
   intro hd
   rw [N.depth_mk] at hd
   rw [N.size_mk]
   have:=(hl ps fun p hp=>by
    have:=ih p hp (by have:=hsz (List.mem_map_of_mem (f:=(·.1)) hp); omega)
    simpa using this).1
   simp [txU_app,txU_cons,txU_nil] at *; omega
 | param hw hy iy =>
   intro hd
   rw [N.depth_mk,N.depths_cons] at hd
   rw [N.size_mk,N.sizes_cons]
   have:=hw.1.len
   have:=iy (by omega)
   simp [txU_app,txU_cons,spU] at *; omega
 | none=>intro _; rw [N.size_mk]; simp [txU]; omega
 | some h ih =>
   intro hd
   have:=ih hd
   simp [txU_app,txU_cons,spU] at *; omega
 | @block d f t a z ps h ih =>
   intro hd
   rw [N.depth_mk] at hd
   rw [N.size_mk]
   have:=((hl ps fun p hp=>by
    have:=ih p hp (by have:=hsz (List.mem_map_of_mem (f:=(·.1)) hp); omega)
    simpa using this).2 (nlU (d+1)) (by simp [nlU,hspc]; omega)).1
   unfold blkU
   rw [txU_cons,txU_app,txU_app]
   have h2:(txU (if ps.map (·.2)=[] then [] else [nlU d])).length≤401:=by
    split
    · simp [txU]
    · simp [txU,nlU,hspc]; omega
   generalize (if ps.map (·.2)=[] then ([]:Us) else [nlU d])=W at *
   rw [List.length_append,List.length_append,List.length_append]
   simp [txU_cons,txU_nil]
   omega
 | let_ hw hy hx iy ix =>
   intro hd
   rw [N.depth_mk,N.depths_cons,N.depths_cons] at hd
   rw [N.size_mk,N.sizes_cons,N.sizes_cons]
   have:=hw.1.len
   have:=ix (by omega); have:=iy (by omega)
   simp [txU_app,txU_cons,txU_nil,spU,kLet] at *; omega
 | set hw hx ix =>
   intro hd
   rw [N.depth_mk,N.depths_cons] at hd
   rw [N.size_mk,N.sizes_cons]
   have:=hw.1.len
   have:=ix (by omega)
   simp [txU_app,txU_cons,txU_nil,spU] at *; omega
 | if0 hc hb ic ib =>
   intro hd
   rw [N.depth_mk,N.depths_cons,N.depths_cons] at hd
   rw [N.size_mk,N.sizes_cons,N.sizes_cons]
   have:=ic (by omega); have:=ib (by omega)
   simp [txU_app,txU_cons,txU_nil,spU,kIf] at *; omega
 | if1 hc hb ho ic ib io =>
   intro hd
   rw [N.depth_mk,N.depths_cons,N.depths_cons,N.depths_cons] at hd
   rw [N.size_mk,N.sizes_cons,N.sizes_cons,N.sizes_cons]
   have:=ic (by omega); have:=ib (by omega); have:=io (by omega)
   simp [txU_app,txU_cons,txU_nil,spU,kIf,kElse] at *; omega
 | while_ hc hb ic ib =>
   intro hd
   rw [N.depth_mk,N.depths_cons,N.depths_cons] at hd
   rw [N.size_mk,N.sizes_cons,N.sizes_cons]
   have:=ic (by omega); have:=ib (by omega)
   simp [txU_app,txU_cons,txU_nil,spU,kWhile] at *; omega
 | @say d k f t a z x u ux hk hx ix =>
   intro hd
   rw [N.depth_mk,N.depths_cons] at hd
   rw [N.size_mk,N.sizes_cons]
   have:=ix (by omega)
   have hu:(txU u).length≤10:=by
    simp only [sayT,List.mem_cons,Prod.mk.injEq,List.not_mem_nil,or_false] at hk
    rcases hk with ⟨-,rfl⟩ | ⟨-,rfl⟩ | ⟨-,rfl⟩<;>simp [txU,kPrint,kReturn,spU]
   simp [txU_app,txU_cons,txU_nil,spU] at *; omega
 | @bin d k f t a p q z x y ux uy sg hk hx hy hp hq ix iy =>
   intro hd
   rw [N.depth_mk,N.depths_cons,N.depths_cons] at hd
   rw [N.size_mk,N.sizes_cons,N.sizes_cons]
   have:=ix (by omega); have:=iy (by omega)
   have hu:sg.length≤10:=by
    simp only [binT,List.mem_cons,Prod.mk.injEq,List.not_mem_nil,or_false] at hk
    rcases hk with ⟨-,rfl,-⟩ | ⟨-,rfl,-⟩ | ⟨-,rfl,-⟩ | ⟨-,rfl,-⟩ | ⟨-,rfl,-⟩<;>simp
   simp [txU_app,txU_cons,txU_nil,spU] at *; omega
 | field hw hx hp ix =>
   intro hd
   rw [N.depth_mk,N.depths_cons] at hd
   rw [N.size_mk,N.sizes_cons]
   have:=hw.1.len
   have:=ix (by omega)
   simp [txU_app,txU_cons,txU_nil,spU] at *; omega
 | call ps hx hp h ix ih =>
   intro hd
   rw [N.depth_mk,N.depths_cons] at hd
   rw [N.size_mk,N.sizes_cons]
   have:=ix (by omega)
   have:=(hl ps fun p hp=>by
    have:=ih p hp (by have:=hsz (List.mem_map_of_mem (f:=(·.1)) hp); omega)
    simpa using this).1
   simp [txU_app,txU_cons,txU_nil] at *; omega
 | num hw=>intro _; rw [N.size_mk]; have:=hw.len; simp [txU]; omega
 | str hw=>intro _; rw [N.size_mk]; have:=hw.len; simp [txU]; omega
 | name hw=>intro _; rw [N.size_mk]; have:=hw.1.len; simp [txU]; omega
 | input=>intro _; rw [N.size_mk]; simp [txU,kInput]; omega
 | group hx ix =>
   intro hd
   rw [N.depth_mk,N.depths_cons] at hd
   rw [N.size_mk,N.sizes_cons]
   have:=ix (by omega)
   simp [txU_app,txU_cons,txU_nil,spU] at *; omega
 | record ps h ih =>
   intro hd
   rw [N.depth_mk] at hd
   rw [N.size_mk]
   have:=(hl ps fun p hp=>by
    have:=ih p hp (by have:=hsz (List.mem_map_of_mem (f:=(·.1)) hp); omega)
    simpa using this).1
   simp [txU_app,txU_cons,txU_nil] at *; omega
 | entry hw hx ix =>
   intro hd
   rw [N.depth_mk,N.depths_cons] at hd
   rw [N.size_mk,N.sizes_cons]
   have:=hw.1.len
   have:=ix (by omega)
   simp [txU_app,txU_cons,txU_nil,spU] at *; omega
 | @word d k f t a z w hk h24 =>
   intro _
   rw [N.size_mk]
   have hu:w.length≤10:=by
    simp only [wordT,List.mem_cons,Prod.mk.injEq,List.not_mem_nil,or_false] at hk
    rcases hk with ⟨-,rfl⟩ | ⟨-,rfl⟩ | ⟨-,rfl⟩ | ⟨-,rfl⟩<;>decide
   simp [txU]; omega
 | trec ps h ih =>
   intro hd
   rw [N.depth_mk] at hd
   rw [N.size_mk]
   have:=(hl ps fun p hp=>by
    have:=ih p hp (by have:=hsz (List.mem_map_of_mem (f:=(·.1)) hp); omega)
    simpa using this).1
   simp [txU_app,txU_cons,txU_nil] at *; omega
 | tfield hw hx ix =>
   intro hd
   rw [N.depth_mk,N.depths_cons] at hd
   rw [N.size_mk,N.sizes_cons]
   have:=hw.1.len
   have:=ix (by omega)
   simp [txU_app,txU_cons,txU_nil,spU] at *; omega
 | @tfn d f t a z y uy ps h hy ih iy =>
   intro hd
   rw [N.depth_mk] at hd
   rw [N.size_mk,N.sizes_app,N.sizes_cons]
   have hyd:=hsz (ks:=ps.map (·.1)++[y]) (p:=y) (by simp)
   have:=iy (by omega)
   have:=(hl ps fun p hp=>by
    have:=ih p hp (by have:=hsz (ks:=ps.map (·.1)++[y]) (p:=p.1) (List.mem_append_left _ (List.mem_map_of_mem (f:=(·.1)) hp)); omega)
    simpa using this).1
   simp [txU_app,txU_cons,txU_nil,spU,kFn] at *; omega
theorem Toks.nms {s:Bs} {n:Nat} {l:List Tk} (h:Toks s n l):∀ t ∈ l,t.k=1→isNameB t.x=true:=by
 induction h with
 | fin h h0=>intro t ht hk; simp at ht; subst ht; cases hk
 | @tok s n l h h0 hr ih =>
   intro t ht hk
   rcases List.mem_cons.1 ht with rfl | ht
   · simp only at hk ⊢
     generalize s.drop (leadS false s)=w at *
     cases w with
     | nil=>exact absurd rfl h0
     | cons b r =>
       rw [tokN_cons] at h hk ⊢
       by_cases hb:letterB b=true
       · rw [if_pos hb] at h hk ⊢
         by_cases hkey:(b :: r).take (runN wordB (b :: r)) ∈ keysL
         · rw [if_pos hkey] at hk; cases hk
         rw [if_neg hkey] at h hk ⊢
         by_cases h40:40 < runN wordB (b :: r)
         · rw [if_pos h40] at h; cases h
         rw [if_neg h40]
         simp only
         have hall:=takeWhile_all wordB (b :: r)
         have hlen:((b :: r).take (runN wordB (b :: r))).length≤40:=by rw [List.length_take]; omega
         have hpos:1≤runN wordB (b :: r):=runN_pos (by simp [wordB,hb])
         obtain ⟨q,hq⟩:∃ q,runN wordB (b :: r)=q+1:=⟨runN wordB (b :: r) - 1,by omega⟩
         rw [hq,List.take_succ_cons] at hkey hlen hall ⊢
         have hN:isNameB (b :: r.take q)=(decide ((b :: r.take q).length≤40) && !decide ((b :: r.take q) ∈ keysL) && !digitB b && (b :: r.take q).all fun c=>letterB c || digitB c):=rfl
         rw [hN]
         obtain ⟨-,-,n3,-⟩:=letter_ne hb
         simp only [Bool.and_eq_true,decide_eq_true_eq,Bool.not_eq_true',decide_eq_false_iff_not]
         exact ⟨⟨⟨hlen,hkey⟩,n3⟩,List.all_eq_true.2 fun c hc=>hall c hc⟩
       · rw [if_neg hb] at hk
         split at hk
         · split at hk<;>cases hk
         · split at hk
           · split at hk<;>cases hk
           · split at hk<;>cases hk
   · exact ih t ht hk
theorem tkU_file (ps:List (N × Us)):tkU (ps.flatMap fun p=>p.2++[(-1,[10])])=ps.flatMap fun p=>tkU p.2:=by
 induction ps with
 | nil=>rfl
 | cons p r ih=>rw [List.flatMap_cons,List.flatMap_cons,tkU_app,tkU_app,ih]; simp [tkU]
theorem print_back {s:Bs} (h:(parseO s).2.2.1=0):∃ us,Tr .file 0 (parseO s).2.1 us∧(parseO s).2.1.depth≤60∧(txU us).length≤700000000 ∧
 ((txU us).length≤16384→(parseO (txU us)).2.2.1=0∧(parseO (txU us)).2.1=(parseO s).2.1∧(parseO (txU us)).1.map kx=(parseO s).1.map kx):=by
 obtain ⟨h1,h2,h3,h4⟩:=parseO_ok h
 obtain ⟨l1,l2⟩:=lexS_ok s
 obtain ⟨hs,hu,-⟩:=l1.1 h1
 obtain ⟨hT,hlen⟩:=l2 h1
 obtain ⟨k1,k2,k3,k4⟩:=hT.like
 have hG:Good (lexS s).1:=fun t ht=>⟨hT.gd hu hs t ht,hT.nms t ht⟩
 obtain ⟨j,hj,hd⟩:=parseP_ok h2
 have hsz:=parseO_size s
 rw [h3] at hsz ⊢
 rw [h4]
 have hJ:=hT.join.2.2
 generalize (lexS s).1=L at *
 have hpos:0 < L.length:=List.length_pos_iff.2 k1
 have hp:=pp_tr hG (16 * L.length+8) (.file []) 0 trivial
 have hb:=pp_bd k2 (16 * L.length+8) (.file []) 0 hpos
 unfold parseF at hj
 rw [hj] at hp hb
 obtain ⟨hk,hf⟩:=hp
 obtain ⟨ps,e1,e2,e3⟩:=hf 0
 have hb:j < L.length:=hb
 have hend:DL L j=[(0,[])]:=by
  have hj1:j+1=L.length:=by
   rcases Nat.lt_or_ge (j+1) L.length with h' | h'
   · exact absurd hk (k3 j h')
   · omega
  obtain ⟨t,ht⟩:∃ t,L[j]?=some t:=⟨L[j],by simp [hb]⟩
  rw [DL_succ ht]
  have h0:t.k=0:=by unfold kdT at hk; rw [ht] at hk; exact hk
  have hx:=((hJ j t ht).2.2).2 h0
  have:DL L (j+1)=[]:=by unfold DL; rw [hj1]; simp
  rw [this]
  simp [kx,h0,hx]
 have htr:Tr .file 0 (parseP L).1 (ps.flatMap fun p=>p.2++[(-1,[10])]):=by
  rw [e1,List.nil_append]
  exact .file ps e2
 have hall:L.map kx=tkU (ps.flatMap fun p=>p.2++[(-1,[10])])++[(0,[])]:=by
  rw [tkU_file,← hend,← e3]
  unfold DL
  simp
 refine ⟨_,htr,hd,?_,fun hle => ?_⟩
 · have:=htr.len (by omega)
   simp at this
   omega
 · have hlt:=congrArg List.length hall
   simp only [List.length_map,List.length_append,List.length_cons,List.length_nil] at hlt
   obtain ⟨x1,x2,-⟩:=htr.fit.1.lex hle (by omega)
   rw [← hall] at x2
   have hP:=parseP_kx x2
   have y2:(parseP (lexS (txU (ps.flatMap fun p=>p.2++[(-1,[10])]))).1).2.1=0:=by rw [hP]; exact h2
   obtain ⟨z1,z2⟩:=parseO_of x1 y2
   obtain ⟨-,-,-,z3⟩:=parseO_ok z1
   refine ⟨z1,?_,?_⟩
   · rw [z2,hP]
   · rw [z3,x2]
end
section
section
variable {P:Program} {tn tS:TypeId}
theorem Has.lyEqf {f g} (h:Has P f (irLyEqf tn)) (hg:callOk P g=true) (ks:List N) (z:Bool) (hk:∀ k ∈ ks,∀ H,ACall P g [k.v,k.v] H (fun r H'=>r = .d (.bool true)∧H'=H)) (hlen:ks.length≤1048576) (H:Hp) :
 ACall P f [.d (.sl z 6 (ks.map N.enc)),.d (.sl z 6 (ks.map N.enc)),.d (.fn g)] H (fun r H'=>r = .d (.bool true)∧H'=H):=by
 obtain ⟨fn,hf,hcf⟩:=h
 refine acall_fin hf hcf (by simp [irLyEqf]) fun hcl _ => ?_
 simp [irLyEqf]
 refine LoopK_out 0 (fun fr H'=>H'=H) ?_ ?_
 · refine RangeK_of H.length ks.length (fun i fr H'=>fr 1 = .d (.sl z 6 (ks.map N.enc))∧fr 2 = .d (.fn g)∧fr 15 = .d (.sl z 6 (ks.map N.enc))∧H'=H) (by omega) (by decide) (by simp) (by simp) ?_ ?_ ?_
   · simp [cut_self hcl]
   · rintro i fr H' hi f17 f16 ⟨f1,f2,f15,rfl⟩
     have hr:=rowAt_map N.enc hi
     have hR':=fun X=>hk _ (List.getElem_mem hi) (H'++X)
     generalize ks[i]=x at hr hR'
     obtain ⟨k3,f4,t3,w3,a3,z3,ks3⟩:=x
     rw [N.enc_mk] at hr
     rw [N.v_mk] at hR'
     simp [f17,f15,f1,f2,hr]
     refine ⟨hg,CallK_of' (hR' _) ?_⟩
     simp
     refine NextK_of H'.length (Nat.le_refl _) (by simp [f17,f16]) ?_
     simp [f1,f2,f15,cut_app hcl]
   · rintro fr H' f17 f16 ⟨f1,f2,f15,rfl⟩
     simp
 · rintro fr H' rfl
   simp [RetK,cut_self hcl]
theorem Has.lyTSame {f eqf} (h:Has P f (irLyTSame eqf f tn)) (he:Has P eqf (irLyEqf tn)) (hg:callOk P f=true):∀ n:N,n.size≤1048576→∀ H,ACall P f [n.v,n.v] H (fun r H'=>r = .d (.bool true)∧H'=H):=by
 refine N.ind fun k f' t w a z ks ih => ?_
 intro hs H
 rw [N.size_mk] at hs
 have hlen:=N.sizes_len ks
 have hE:=fun X=>he.lyEqf (g:=f) hg ks z (fun k hk H=>ih k hk (by have:=N.sizes_mem hk; omega) H) (by omega) (H++X)
 obtain ⟨fn,hf,hcf⟩:=h
 refine acall_fin hf hcf (by simp [irLyTSame]) fun hcl _ => ?_
 rw [N.v_mk]
 simp [irLyTSame]
 refine CallK_of' (hE _) ?_
 simp [RetK,cut_app hcl]
theorem HasT.lyComments {f} (h:HasT P [3] f (irLyComments tS)) (z:Bool) (l:List Tk) (hl:l.length≤1048576) (hb:∀ t ∈ l,(∀ c ∈ t.l,blankB c=true)∧t.l.length≤1048576) (H:Hp) :
 ACall P f [.d (.sl z 4 (l.map encTk))] H (fun r H'=>r = .d (.sl true 1 [])∧H'=H):=by
 obtain ⟨fn,hf,hcf⟩:=h
 refine acall_fin hf hcf (by simp [irLyComments]) fun hcl _ => ?_
 simp [irLyComments]
 refine LoopK_out 0 (fun fr H'=>fr 3 = .osl true 1 [] H.length∧H'=H++[.tok 0 1 tS]) ?_ ?_
 · refine ForK_of (H.length+1) l.length (fun i fr H'=>fr 0 = .d (.sl z 4 (l.map encTk))∧fr 3 = .osl true 1 [] H.length∧H'=H++[.tok 0 1 tS]) (by omega) (by decide) (by simp) (by simp) ?_ ?_
   · simp [cut_appk hcl]
   · rintro i fr H' hi f4 ⟨f0,f3,rfl⟩
     simp [f4,f0]
     refine BrK_split (fun h => ?_) (fun h => ?_)
     · have hi':i < l.length:=by simpa using h
       have hr:=rowAt_map encTk hi'
       obtain ⟨hb1,hb2⟩:=hb _ (List.getElem_mem hi')
       generalize l[i]=t at hr hb1 hb2
       simp only [encTk] at hr
       simp [f4,f0,hr]
       refine LoopK_out 2 (fun fr H'=>fr 0 = .d (.sl z 4 (l.map encTk))∧fr 4 = .d (.int .i64 (i:Int))∧fr 3 = .osl true 1 [] H.length∧H'=H++[.tok 0 1 tS]) ?_ ?_
       · refine ForK_of (H.length+1) t.l.length (fun j fr H'=>fr 0 = .d (.sl z 4 (l.map encTk))∧fr 4 = .d (.int .i64 (i:Int))∧fr 5 = .d (.str t.l)∧fr 3 = .osl true 1 [] H.length∧H'=H++[.tok 0 1 tS]) (by omega) (by decide) (by simp) (by simp) ?_ ?_
         · simp [cut_appk hcl,f0,f3,f4]
         · rintro j fr H' hj f6 ⟨f0,f4,f5,f3,rfl⟩
           simp [f6,f5]
           refine BrK_split (fun h => ?_) (fun h => ?_)
           · have hj':j < t.l.length:=by simpa using h
             have hbj:=hb1 _ (List.getElem_mem hj')
             have h35:t.l[j].toNat ≠ 35:=by
              intro e
              simp [blankB,e] at hbj
             have hat:byteAt t.l (j:Int)=some t.l[j]:=by
              unfold byteAt
              simp [hj']
             have h35':¬ ((t.l[j].toNat:Int)=35):=by omega
             simp [f6,f5,hat,h35,h35']
             refine NextF_of (H.length+1) (Nat.le_refl _) hj' (by simp [f6]) ?_
             simp [cut_appk hcl,f0,f3,f4,f5]
           · simp [f0,f4,f3]
       · rintro fr H' ⟨f0,f4,f3,rfl⟩
         simp
         refine NextF_of (H.length+1) (Nat.le_refl _) hi' (by simp [f4]) ?_
         simp [cut_appk hcl,f0,f3]
     · simp [f3]
 · rintro fr H' ⟨f3,rfl⟩
   simp [f3]
   simp [RetK,cut_app hcl]
theorem Has.lySame {f comments} (h:Has P f (irLySame comments)) (hc:HasT P [3] comments (irLyComments tS)) (z y:Bool) (l:List Tk) (ws:List Bs) (hl:l.length=ws.length+1) (hw:ws.length≤1000) (hx:∀ i (hi:i < ws.length),∃ t,l[i]?=some t∧t.x=ws[i])
 (hb:∀ t ∈ l,(∀ c ∈ t.l,blankB c=true)∧t.l.length≤1048576) (H:Hp):ACall P f [.d (.sl z 4 (l.map encTk)),.d (.sl y 1 (ws.map encStr))] H (fun r H'=>r = .d (.bool true)∧H'=H):=by
 obtain ⟨fn,hf,hcf⟩:=h
 refine acall_fin hf hcf (by simp [irLySame]) fun hcl _ => ?_
 have w1:IntKind.i64.wrap ((ws.length:Int)+1)=(ws.length:Int)+1:=wrap_i64 (by omega) (by omega)
 simp [irLySame,hl,w1]
 refine CallK_of' (hc.lyComments z l (by omega) hb H) ?_
 simp
 refine LoopK_out 0 (fun fr H'=>H'=H) ?_ ?_
 · refine RangeK_of H.length ws.length (fun i fr H'=>fr 0 = .d (.sl z 4 (l.map encTk))∧fr 1 = .d (.sl y 1 (ws.map encStr))∧H'=H) (by omega) (by decide) (by simp) (by simp) ?_ ?_ ?_
   · simp [cut_self hcl]
   · rintro i fr H' hi f20 f19 ⟨f0,f1,rfl⟩
     obtain ⟨t,ht,hx⟩:=hx i hi
     have hil:i < l.length:=by omega
     have hr:=rowAt_map encTk hil
     have ht':l[i]=t:=(List.getElem?_eq_some_iff.1 ht).2
     rw [ht'] at hr
     have hr2:=rowAt_map encStr hi
     rw [← hx] at hr2
     simp only [encTk] at hr
     simp only [encStr] at hr2
     simp [f20,f0,f1,hr,hr2]
     refine NextK_of H'.length (Nat.le_refl _) (by simp [f20,f19]) ?_
     simp [f0,f1,cut_self hcl]
   · rintro fr H' f20 f19 ⟨f0,f1,rfl⟩
     simp
 · rintro fr H' rfl
   simp [RetK,cut_self hcl]
end
end
section
def exT:Bs:=[100,101,102,32,102,40,41,123,112,114,105,110,116,32,49,59,125]
def exN:N:=N.new 1 0 9 [] 0 [N.new 3 0 9 [102] 1 [N.new 4 2 4 [] 0 [],N.none,N.new 6 4 9 [] 0 [N.new 11 5 8 [] 0 [N.new 21 6 7 [49] 6 []]]]]
theorem ex_lex:(lexS exT).1.map kx=[(2,kDef),(1,[102]),(5,[40]),(5,[41]),(5,[123]),(2,kPrint),(3,[49]),(5,[59]),(5,[125]),(0,[])]∧(lexS exT).2=(0,0):=by constructor<;>kernel_rfl
theorem ex_parse:(parseO exT).2.1=exN∧(parseO exT).2.2.1=0:=by constructor<;>kernel_rfl
def exU:Us:=[(2,kDef),spU,(1,[102]),(5,[40]),(5,[41]),spU,(5,[123]),nlU 1,(2,kPrint),spU,(3,[49]),(5,[59]),nlU 0,(5,[125]),(-1,[10])]
theorem ex_tr:Tr .file 0 exN exU:=by
 obtain ⟨l1,l2⟩:=lexS_ok exT
 obtain ⟨e1,e2⟩:=ex_lex
 have h0:(lexS exT).2.1=0:=by rw [e2]
 obtain ⟨hs,hu,-⟩:=l1.1 h0
 obtain ⟨hT,-⟩:=l2 h0
 have hgd:∀ k x,(k,x) ∈ (lexS exT).1.map kx→k ≠ 0→Gd k x∧(k=1→isNameB x=true):=fun k x hm hk=>by
  obtain ⟨t,ht,he⟩:=List.mem_map.1 hm
  simp only [kx,Prod.mk.injEq] at he
  obtain ⟨rfl,rfl⟩:=he
  exact ⟨hT.gd hu hs t ht hk,hT.nms t ht⟩
 rw [e1] at hgd
 have hf:Wn [102]:=⟨(hgd 1 [102] (by decide) (by decide)).1,(hgd 1 [102] (by decide) (by decide)).2 rfl⟩
 have hn:Gd 3 [49]:=(hgd 3 [49] (by decide) (by decide)).1
 have t1:Tr .expr 1 (N.new 21 6 7 [49] 6 []) [(3,[49])] := .num hn
 have t2:Tr .stmt 1 (N.new 11 5 8 [] 0 [N.new 21 6 7 [49] 6 []]) ([(2,kPrint),spU]++([(3,[49])]++[(5,[59])])) := .say (by decide) t1
 have t3:Tr .block 0 (N.new 6 4 9 [] 0 [N.new 11 5 8 [] 0 [N.new 21 6 7 [49] 6 []]]) (blkU 0 [[(2,kPrint),spU]++([(3,[49])]++[(5,[59])])]) := .block [(N.new 11 5 8 [] 0 [N.new 21 6 7 [49] 6 []],[(2,kPrint),spU]++([(3,[49])]++[(5,[59])]))] (fun p hp=>by rw [List.mem_singleton.1 hp]; exact t2)
 have t4:Tr .params 0 (N.new 4 2 4 [] 0 []) ((5,[40]) :: ([]++[(5,[41])])) := .params [] (by simp)
 have t5:Tr .typed 0 N.none [] := .none
 have t6:=Tr.defn (d:=0) (f:=0) (t:=9) (a:=1) (z:=false) hf t4 t5 t3
 have t7:=Tr.file (d:=0) (f:=0) (t:=9) (a:=0) (z:=false) [(_,_)] (fun p hp=>by rw [List.mem_singleton.1 hp]; exact t6)
 exact t7
section
variable {P:Program} {tn tS:TypeId} {H0:Hp}
def OfT (P:Program) (H0:Hp) (f:FuncId):Prop:=∀ (s:Bs),s.length≤1048576→∀ H,Pre0 H0 H→ACall P f [.d (.str s)] H (fun r H'=>r = .tup [.d (.sl true 4 ((parseO s).1.map encTk)),(parseO s).2.1.v,.d (.int .i64 (parseO s).2.2.1),.d (.int .i64 (parseO s).2.2.2)]∧H'=H)
def PrT (P:Program) (H0:Hp) (f:FuncId):Prop:=∀ (n:N) (us:Us),Tr .file 0 n us→n.size≤1048576→n.depth≤60→(txU us).length≤1000000000→∀ H,Pre0 H0 H→ACall P f [n.v] H (fun r H'=>r = .tup [.d (.str (txU us)),.d (.int .i64 0)]∧H'=H)
theorem Has.lyAwake {f of print lex4 same8 comments} (h:Has P f (irLyAwake of print lex4 same8 tn)) (ho:OfT P H0 of) (hp:PrT P H0 print) (h4:LexT P H0 lex4) (hs:Has P same8 (irLySame comments)) (hc:HasT P [3] comments (irLyComments tS)):Tt P H0 f [] (.bool true):=by
 intro H hH
 obtain ⟨fn,hf,hcf⟩:=h
 refine acall_fin hf hcf (by simp [irLyAwake]) fun hcl _ => ?_
 have hO:=ho exT (by decide) H hH
 obtain ⟨p1,p2⟩:=ex_parse
 rw [p1,p2] at hO
 have hP:=fun X=>hp exN exU ex_tr (by decide) (by decide) (by decide) (H++X) (hH.app X)
 have hlen:(txU exU).length≤16384:=by decide
 have hL:=fun X=>h4 (txU exU) (by omega) (H++X) (hH.app X)
 obtain ⟨x1,x2,x3⟩:=ex_tr.fit.1.lex hlen (by decide)
 have x4:tkU exU++[(0,[])]=[(2,kDef),(1,[102]),(5,[40]),(5,[41]),(5,[123]),(2,kPrint),(3,[49]),(5,[59]),(5,[125]),(0,[])]:=by decide
 rw [x4] at x2
 rw [x1] at hL
 obtain ⟨l1,l2⟩:=lexS_ok (txU exU)
 have hj:=((l2 x1).1).join.1
 have hll:∀ t ∈ (lexS (txU exU)).1,t.l.length≤1048576:=fun t ht=>by
  have:t.l.length≤(joinS (lexS (txU exU)).1).length:=by
   unfold joinS
   obtain ⟨i,hi,he⟩:=List.mem_iff_getElem.1 ht
   rw [← List.take_append_drop i (lexS (txU exU)).1,List.drop_eq_getElem_cons hi,List.flatMap_append,List.flatMap_cons,he]
   simp; omega
  rw [hj] at this
  omega
 generalize (lexS (txU exU)).1=L at *
 have hLl:L.length=10:=by
  have:=congrArg List.length x2
  simpa using this
 have hS:=fun z y X=>hs.lySame hc z y L [kDef,[102],[40],[41],[123],kPrint,[49],[59],[125]] (by rw [hLl]; rfl) (by decide) (fun i hi=>by
  have hi':i < L.length:=by rw [hLl]; simp at hi; omega
  refine ⟨L[i],by simp [hi'],?_⟩
  have h1:(L.map kx)[i]?=some (kx L[i]):=by simp [hi']
  rw [x2] at h1
  have h9:i=0∨i=1∨i=2∨i=3∨i=4∨i=5∨i=6∨i=7∨i=8:=by simp at hi; omega
  rcases h9 with rfl | rfl | rfl | rfl | rfl | rfl | rfl | rfl | rfl<;>exact (congrArg Prod.snd (Option.some.inj h1)).symm) (fun t ht=>⟨x3 t ht,hll t ht⟩) (H++X)
 have hev:exN.v = .agg [.d (.int .i64 1),.d (.int .i64 0),.d (.int .i64 9),.d (.str []),.d (.int .i64 0),.d (.sl false 6 ([N.new 3 0 9 [102] 1 [N.new 4 2 4 [] 0 [],N.none,N.new 6 4 9 [] 0 [N.new 11 5 8 [] 0 [N.new 21 6 7 [49] 6 []]]]].map N.enc))]:=N.v_new ..
 rw [hev] at hO hP
 generalize ([N.new 3 0 9 [102] 1 [N.new 4 2 4 [] 0 [],N.none,N.new 6 4 9 [] 0 [N.new 11 5 8 [] 0 [N.new 21 6 7 [49] 6 []]]]].map N.enc)=R at *
 generalize (parseO exT).1=L0 at *
 generalize (parseO exT).2.2.2=q0 at *
 generalize txU exU=T at *
 simp only [exT] at hO
 simp only [List.map_cons,List.map_nil,encStr,kDef,kPrint] at hS
 simp [irLyAwake]
 refine CallK_of' hO ?_
 simp
 refine CallK_of' (hP _) ?_
 simp
 refine CallK_of' (hL _) ?_
 simp
 refine CallK_of' (hS _ _ _) ?_
 simp [RetK,cut_app hcl]
end
end
section
theorem Tr.file_k {d:Nat} {n:N} {us:Us} (h:Tr .file d n us):n.k=1:=by cases h; rfl
section
variable {P:Program} {tn tS:TypeId} {H0:Hp}
theorem Has.lyPrints {f of7 awake print Right same6 tsame eqf} (h:Has P f (irLyPrints of7 awake print Right same6 tsame tn)) (ho:OfT P H0 of7) (ha:Tt P H0 awake [] (.bool true)) (hp:PrT P H0 print)
 (hR:∀ n:N,n.k=1→(∃ us,Tr .file 0 n us)→n.depth≤60→n.size≤1048576→Tt P H0 Right [n.v] (.bool true)) (hs:Has P same6 (irR6Same same6 tn)) (ht:Has P tsame (irLyTSame eqf tsame tn)) (he:Has P eqf (irLyEqf tn)) (hg:callOk P tsame=true)
 (s:Bs) (hlen:s.length≤1048576):Tt P H0 f [.d (.str s)] (.bool true):=by
 intro H hH
 obtain ⟨fn,hf,hcf⟩:=h
 refine acall_fin hf hcf (by simp [irLyPrints]) fun hcl _ => ?_
 have hO:=ho s hlen H hH
 have hA:=fun X=>ha (H++X) (hH.app X)
 by_cases h0:(parseO s).2.2.1=0
 · obtain ⟨us,tr,hd,hl,hback⟩:=print_back h0
   have hsz:=parseO_size s
   have hP:=fun X=>hp _ us tr (by omega) hd (by omega) (H++X) (hH.app X)
   have hk1:(parseO s).2.1.k=1:=tr.file_k
   have hRi:=fun X=>hR _ hk1 ⟨us,tr⟩ hd (by omega) (H++X) (hH.app X)
   have hS:=fun X=>Has.same6 hs false (N.Sm.refl false (parseO s).2.1) (by omega) (H++X)
   have hT:=fun X=>ht.lyTSame he hg (parseO s).2.1 (by omega) (H++X)
   have hLl:(parseO s).1.length≤4000:=by
    obtain ⟨h1,h2,h3,h4⟩:=parseO_ok h0
    rw [h4]
    exact ((lexS_ok s).2 h1).2
   rw [h0] at hO
   by_cases hbig:16384 < (txU us).length
   · generalize (parseO s).2.1=n at *
     generalize (parseO s).1=L at *
     generalize (parseO s).2.2.2=q at *
     generalize txU us=T at *
     obtain ⟨k,f',t',w,a,z,ks⟩:=n
     rw [N.v_mk] at hO hP hRi
     simp [irLyPrints]
     refine CallK_of' hO ?_
     simp
     refine CallK_of' (hP _) ?_
     simp
     refine CallK_of' (hRi _) ?_
     have hb2:(16384:Int) < (T.length:Int):=by omega
     simp [hbig,hb2]
     refine CallK_of' (hA _) ?_
     simp [RetK,cut_app hcl]
   · obtain ⟨b1,b2,b3⟩:=hback (by omega)
     have hO2:=fun X=>ho (txU us) (by omega) (H++X) (hH.app X)
     rw [b1,b2] at hO2
     have hb2:¬ (16384:Int) < ((txU us).length:Int):=by omega
     have hxs:∀ i (hi:i < (parseO s).1.length),∃ t,(parseO (txU us)).1[i]?=some t∧t.x=(parseO s).1[i].x:=fun i hi=>by
      have h1:((parseO s).1.map kx)[i]?=some (kx (parseO s).1[i]):=by simp [hi]
      rw [← b3,List.getElem?_map] at h1
      cases hg':(parseO (txU us)).1[i]? with
      | none=>rw [hg'] at h1; cases h1
      | some t =>
        rw [hg'] at h1
        exact ⟨t,rfl,congrArg Prod.snd (Option.some.inj h1)⟩
     have hml:(parseO (txU us)).1.length=(parseO s).1.length:=by simpa using congrArg List.length b3
     generalize (parseO s).2.1=n at *
     generalize (parseO s).1=L at *
     generalize (parseO s).2.2.2=q at *
     generalize (parseO (txU us)).1=M at *
     generalize (parseO (txU us)).2.2.2=q2 at *
     generalize txU us=T at *
     obtain ⟨k,f',t',w,a,z,ks⟩:=n
     rw [N.v_mk] at hO hP hRi hS hT hO2
     simp [irLyPrints]
     refine CallK_of' hO ?_
     simp
     refine CallK_of' (hP _) ?_
     simp
     refine CallK_of' (hRi _) ?_
     simp [hbig,hb2]
     refine CallK_of' (hO2 _) ?_
     simp
     refine CallK_of' (hS _) ?_
     simp [hml]
     obtain ⟨nb,hnb⟩:∃ nb:Ob,nb=Ob.box tn [.d (.int .i64 k),.d (.int .i64 f'),.d (.int .i64 t'),.d (.str w),.d (.int .i64 a),.d (.sl z 6 (ks.map N.enc))]:=⟨_,rfl⟩
     have hnbc:∀ n,nb.clr n=nb:=fun n=>by rw [hnb]; rfl
     rw [← hnb]
     have hc2:∀ X,Hp.cut (H.length+2) (H++nb :: nb :: X)=H++[nb,nb]:=fun X=>by
      have:=cut_appk hcl 2 (nb :: nb :: X)
      rw [this]
      simp only [List.take,List.map,hnbc]
     refine LoopK_out 0 (fun fr H'=>fr 4 = .ptr H.length 0∧fr 10 = .ptr (H.length+1) 0∧fr 7 = .d (.str T)∧H'=H++[nb,nb]) ?_ ?_
     · refine RangeK_of (H.length+2) L.length (fun i fr H'=>fr 4 = .ptr H.length 0∧fr 10 = .ptr (H.length+1) 0∧fr 7 = .d (.str T)∧fr 3 = .d (.sl true 4 (L.map encTk))∧fr 9 = .d (.sl true 4 (M.map encTk))∧H'=H++[nb,nb]) (by omega) (by decide) (by simp) (by simp) ?_ ?_ ?_
       · simp [hc2]
       · rintro i fr H' hi f66 f65 ⟨f4,f10,f7,f3,f9,rfl⟩
         obtain ⟨t,ht1,ht2⟩:=hxs i hi
         have him:i < M.length:=by omega
         have hr:=rowAt_map encTk hi
         have hr2:=rowAt_map encTk him
         have ht':M[i]=t:=(List.getElem?_eq_some_iff.1 ht1).2
         rw [ht'] at hr2
         generalize L[i]=u at hr ht2
         simp only [encTk] at hr hr2
         rw [ht2] at hr2
         simp [f66,f3,f9,hr,hr2]
         refine NextK_of (H.length+2) (Nat.le_refl _) (by simp [f66,f65]) ?_
         simp [f3,f4,f7,f9,f10,hc2]
       · rintro fr H' f66 f65 ⟨f4,f10,f7,f3,f9,rfl⟩
         simp [f4,f10,f7]
     · rintro fr H' ⟨f4,f10,f7,rfl⟩
       simp [f4,f10,hnb]
       refine CallK_of' (hP _) ?_
       simp
       refine CallK_of' (hA _) ?_
       simp [f7,f4,f10]
       refine CallK_of' (hT _) ?_
       simp [RetK,cut_app hcl]
 · generalize (parseO s).2.1=n at *
   generalize (parseO s).1=L at *
   generalize (parseO s).2.2.2=q at *
   generalize (parseO s).2.2.1=e at *
   obtain ⟨k,f',t',w,a,z,ks⟩:=n
   rw [N.v_mk] at hO
   simp [irLyPrints]
   refine CallK_of' hO ?_
   simp [h0]
   refine CallK_of' (hA _) ?_
   simp [RetK,cut_app hcl]
end
end
end Go.Zam
