/-
  Texts of one proof, one behind the other.
-/
import Derived.Test.YthhlbefhanplhaaGreatDoorM5
import Derived.Test.YthhlbefhanplhaaGreatDoorM4
import Derived.Test.YthhlbefhanplhaaGreatDoorM3
import Derived.Lib.LaidU8
import Derived.Shelf.Strings.Builder1
import Derived.Shelf.Small.Bits
import Derived.Shelf.Small.Strs
import Derived.Shelf.Strings.BuilderF
import Derived.Shelf.Strings.BuilderK
import Derived.Shelf.Strconv.Itoa0
import Derived.Shelf.Strconv.Itoa1
import Derived.Shelf.LaysM
import Derived.Shelf.Strconv.Itoa2
import Derived.Shelf.Strconv.Itoa3
import Derived.Shelf.Strconv.Clone
import Derived.Shelf.Strconv.Lower
import Derived.Shelf.Strconv.ParseUint10
import Derived.Shelf.Strconv.ParseUint10Empty
import Derived.Shelf.Strconv.RangeError
import Derived.Shelf.Strconv.ParseUintEmpty
import Derived.Shelf.Strconv.ParseUint10b64
import Derived.Shelf.Strconv.ParseUint10b32
import Derived.Shelf.Strconv.ParseUint10b16
import Derived.Shelf.Strconv.ParseUint10b8
import Derived.Ground.MpProg
import Derived.Shelf.Pu.ParseUintPublic10
import Derived.Shelf.Pu.ErrVarParseUint
import Derived.Shelf.Strings.Search1
import Derived.Shelf.Strings.Prefix
import Derived.Shelf.Unicode.Decode
import Derived.Shelf.Unicode.DecodeSlow
import Derived.Shelf.Unicode.DecodeAny
import Derived.Ground.Names2Prog
import Derived.Shelf.Slices.SearchI
import Derived.Test.YthhlbefhanplhaaGreatDoorProg
import Derived.Test.YthhlbefhanplhaaGreatDoorRows
import Derived.Test.YthhlbefhanplhaaGreatDoorCards
import Derived.Test.YthhlbefhanplhaaGreatDoorTie
import Derived.ProofKit
import Derived.OpenShut
import Derived.Deep.DeepHandedRow
import Derived.Lib.LaidTab
import Derived.Stop.LaidErr
import Derived.SevenTiedAt
import Derived.Defers
set_option linter.all false
set_option maxRecDepth 100000
set_option maxHeartbeats 4000000
namespace Go.Zam
section
mutual
def N.size:N→Nat
 | .mk _ _ _ _ _ _ ks=>1+N.sizes ks
def N.sizes:List N→Nat
 | []=>0
 | p :: r=>N.size p+N.sizes r
end
mutual
def N.depth:N→Nat
 | .mk _ _ _ _ _ _ ks=>1+N.depths ks
def N.depths:List N→Nat
 | []=>0
 | p :: r=>max (N.depth p) (N.depths r)
end
theorem N.size_mk (k f t:Int) (w:Bs) (a:Int) (z:Bool) (ks:List N):N.size (.mk k f t w a z ks)=1+N.sizes ks:=by rw [N.size]
theorem N.depth_mk (k f t:Int) (w:Bs) (a:Int) (z:Bool) (ks:List N):N.depth (.mk k f t w a z ks)=1+N.depths ks:=by rw [N.depth]
theorem N.size_new (k f t:Int) (w:Bs) (a:Int) (ks:List N):N.size (.new k f t w a ks)=1+N.sizes ks:=N.size_mk ..
theorem N.size_ks (m:N):N.size m=1+N.sizes m.ks:=by cases m; rw [N.size]; rfl
theorem N.size_bag (ks:List N):N.size (.bag ks)=1+N.sizes ks:=N.size_mk ..
theorem N.size_none:N.size .none=1:=by rw [N.none,N.size_new]; rfl
theorem N.sizes_nil:N.sizes []=0:=rfl
theorem N.sizes_cons (p:N) (r:List N):N.sizes (p :: r)=N.size p+N.sizes r:=by rw [N.sizes]
theorem N.sizes_app:∀ (l r:List N),N.sizes (l++r)=N.sizes l+N.sizes r
 | [],r=>by simp [N.sizes_nil]
 | p :: l,r=>by rw [List.cons_append,N.sizes_cons,N.sizes_cons,N.sizes_app l r]; omega
theorem N.sizes_mem {l:List N} {p:N} (h:p ∈ l):N.size p≤N.sizes l:=by
 induction l with
 | nil=>cases h
 | cons q l ih =>
   rw [N.sizes_cons]
   rcases List.mem_cons.1 h with rfl | h
   · omega
   · have:=ih h; omega
theorem N.size_pos (p:N):1≤N.size p:=by cases p; rw [N.size]; omega
theorem N.sizes_len (l:List N):l.length≤N.sizes l:=by
 induction l with
 | nil=>simp
 | cons q l ih=>rw [N.sizes_cons,List.length_cons]; have:=N.size_pos q; omega
theorem N.depths_cons (p:N) (r:List N):N.depths (p :: r)=max (N.depth p) (N.depths r):=by rw [N.depths]
theorem N.depths_le {b:Nat} (l:List N) (h:∀ p ∈ l,N.depth p≤b):N.depths l≤b:=by
 induction l with
 | nil=>simp [N.depths]
 | cons q l ih =>
   rw [N.depths_cons]
   have h1:=h q (by simp)
   have h2:=ih fun p hp=>h p (by simp [hp])
   omega
theorem N.depth_size:∀ n:N,N.depth n≤N.size n:=by
 refine N.ind fun k f t w a z ks ih => ?_
 rw [N.depth_mk,N.size_mk]
 have:N.depths ks≤N.sizes ks:=N.depths_le ks fun p hp=>Nat.le_trans (ih p hp) (N.sizes_mem hp)
 omega
theorem N.depths_take_succ {l:List N} {i:Nat} (h:i < l.length):N.depths (l.take (i+1))=max (N.depths (l.take i)) (N.depth l[i]):=by
 have app:∀ a b:List N,N.depths (a++b)=max (N.depths a) (N.depths b):=by
  intro a b
  induction a with
  | nil=>simp [N.depths]
  | cons q a ih=>rw [List.cons_append,N.depths_cons,N.depths_cons,ih]; omega
 rw [List.take_succ_eq_append_getElem h,app,N.depths_cons]
 simp [N.depths]
def G.k1:G→Nat
 | .typed | .file _ | .sumL _ | .termL _ | .postL _=>0
 | .listL .. | .stmts _=>4
 | _=>2
def G.sz:G→Nat
 | .typed=>1
 | .file ks | .listL _ _ ks | .stmts ks=>1+N.sizes ks
 | .sumL a | .termL a | .postL a=>N.size a
 | _=>0
def G.nice:G→Prop
 | .list o _ | .listL o _ _=>o.k1=2∧o.sz=0∧o.strict=true∧o.nice
 | _=>True
def Sz (i A B:Nat):PR→Prop
 | .ok m j=>m.size+A≤B+4 * (j - i)
 | _=>True
section
variable {L:List Tk} {i A B:Nat}
theorem Sz.want {k:Nat} {x:Bs} {h:Nat→PR} (hh:Sz i A B (h (k+1))):Sz i A B (wantR L k x h):=by
 unfold wantR
 split
 · exact hh
 · trivial
theorem Sz.word {k:Nat} {h:Bs→Nat→PR} (hh:Sz i A B (h (txT L k) (k+1))):Sz i A B (wordR L k h):=by
 unfold wordR
 split
 · exact hh
 · trivial
theorem Sz.ite {c:Prop} [Decidable c] {a b:PR} (ha:Sz i A B a) (hb:Sz i A B b):Sz i A B (if c then a else b):=by
 split
 · exact ha
 · exact hb
theorem Sz.last {n:Nat} (ih:∀ g i,g.nice→Sz i g.k1 g.sz (pp L n g i)) {g:G} {k:Nat} (hg:g.nice) (hh:∀ x j,k≤j→(g.strict=true→k < j)→x+g.k1≤g.sz+4 * (j - k)→x+A≤B+4 * (j - i)):Sz i A B (pp L n g k):=by
 have h1:=ih g k hg
 have h2:=pp_adv (L:=L) n g k
 generalize pp L n g k=r at h1 h2
 cases r with
 | out=>trivial
 | bad j=>trivial
 | ok m j=>exact hh _ j h2.1 h2.2.1 h1
theorem Sz.thenG {n:Nat} (ih:∀ g i,g.nice→Sz i g.k1 g.sz (pp L n g i)) {g:G} {k:Nat} {h:N→Nat→PR} (hg:g.nice) (hh:∀ m j,k≤j→(g.strict=true→k < j)→m.size+g.k1≤g.sz+4 * (j - k)→Sz i A B (h m j)):Sz i A B ((pp L n g k).then h):=by
 have h1:=ih g k hg
 have h2:=pp_adv (L:=L) n g k
 generalize pp L n g k=r at h1 h2
 cases r with
 | out=>trivial
 | bad j=>trivial
 | ok m j=>exact hh m j h2.1 h2.2.1 h1
theorem Sz.ok {m:N} {j:Nat} (h:m.size+A≤B+4 * (j - i)):Sz i A B (.ok m j):=h
theorem pp_size:∀ (n:Nat) (g:G) (i:Nat),g.nice→Sz i g.k1 g.sz (pp L n g i)
 | 0,g,i,_=>trivial
 | n + 1, g, i, hg => by
   have ih:=pp_size n
   cases g
   case listL one e ks =>
    obtain ⟨g1,g2,g3,g4⟩:=hg
    simp only [pp,G.k1,G.sz]
    refine Sz.thenG ih g4 fun m j h1 h2 h3 => ?_
    have h2:=h2 g3
    rw [g1,g2] at h3
    refine Sz.ite ?_ (Sz.want ?_)
    · refine Sz.ok ?_
      simp only [N.size_bag,N.sizes_nil,N.sizes_cons,N.sizes_app]; omega
    · refine Sz.last ih ⟨g1,g2,g3,g4⟩ fun x j h1 h2 h3 => ?_
      simp only [G.strict,G.k1,G.sz,true_implies,N.sizes_nil,N.sizes_cons,N.sizes_app] at h2 h3
      omega
   case list one e =>
    simp only [pp,G.k1,G.sz]
    refine Sz.ite ?_ ?_
    · refine Sz.ok ?_
      simp only [N.size_bag,N.sizes_nil]; omega
    · refine Sz.last ih hg fun x j h1 h2 h3 => ?_
      simp only [G.strict,G.k1,G.sz,true_implies,N.sizes_nil] at h2 h3
      omega
   all_goals simp only [pp,G.k1,G.sz]
   all_goals
    repeat' first
     | exact Sz.bad
     | (refine Sz.want ?_)
     | (refine Sz.word ?_)
     | (refine Sz.ite ?_ ?_)
     | (refine Sz.thenG ih (by simp [G.nice,G.k1,G.sz,G.strict]) fun m j h1 h2 h3 => ?_; have h4:=N.size_ks m; simp only [G.strict,G.k1,G.sz,Bool.false_eq_true,false_implies,true_implies,N.sizes_nil,N.sizes_cons,N.sizes_app] at h2 h3)
     | (refine Sz.ok ?_; (try simp only [N.size_new,N.size_bag,N.size_none,N.sizes_nil,N.sizes_cons,N.sizes_app]); omega)
     | (refine Sz.last ih (by simp [G.nice]) fun x j h1 h2 h3 => ?_; simp only [G.strict,G.k1,G.sz,Bool.false_eq_true,false_implies,true_implies,N.size_new,N.size_bag,N.size_none,N.sizes_nil,N.sizes_cons,N.sizes_app] at h2 h3; omega)
end
end
section
section
variable {P:Program}
theorem Has.depth {f:FuncId} {tn:TypeId} (h:Has P f (irTDepth f tn)):∀ (n:N),n.size≤1125899906842624→∀ H,ACall P f [n.v] H (fun r H'=>r = .d (.int .i64 (n.depth:Int))∧H'=H):=by
 refine N.ind fun k f' t w a z ks ih => ?_
 intro hs H
 obtain ⟨fn,hf,hcf⟩:=h
 refine acall_fin hf hcf (by simp [irTDepth]) fun hcl _ => ?_
 rw [N.size_mk] at hs
 rw [N.v_mk,N.depth_mk]
 have hlen:=N.sizes_len ks
 have hds:∀ i,N.depths (ks.take i)≤1125899906842624:=fun i=>by
  refine N.depths_le _ fun p hp => ?_
  have:=N.depth_size p
  have:=N.sizes_mem (List.mem_of_mem_take hp)
  omega
 simp [irTDepth]
 refine LoopK_out 0 (fun fr H'=>fr 3 = .d (.int .i64 (N.depths ks:Int))∧∃ X,H'=H++X) ?_ ?_
 · refine RangeK_of (H.length+1) ks.length (fun i fr H'=>fr 3 = .d (.int .i64 (N.depths (ks.take i):Int))∧fr 7 = .d (.sl z 6 (ks.map N.enc))∧∃ o,H'=H++[o]) (by omega) (by decide) (by simp) (by simp) ?_ ?_ ?_
   · simp [N.depths,cut_appk hcl]
   · rintro i fr H' hi f9 f8 ⟨f3,f7,o,rfl⟩
     have hr:=rowAt_map N.enc hi
     have hm:=List.getElem_mem hi
     have ih':=ih _ hm (by have:=N.sizes_mem hm; omega)
     have hdt:=N.depths_take_succ hi
     have hd1:=hds (i+1)
     generalize ks[i]=x at hr ih' hdt
     obtain ⟨k2,f2,t2,w2,a2,z2,ks2⟩:=x
     rw [N.enc_mk] at hr
     rw [N.v_mk] at ih'
     simp [f9,f7,hr,f3]
     refine CallK_of' (ih' _) ?_
     simp
     refine NextK_of (H.length+1) (Nat.le_refl _) (by simp [f9,f8]) ?_
     simp [f7,hdt,cut_appk hcl]
     omega
   · rintro fr H' f9 f8 ⟨f3,f7,o,rfl⟩
     rw [List.take_of_length_le (Nat.le_refl _)] at f3
     simp [f3]
 · rintro fr H' ⟨f3,X,rfl⟩
   have:=hds ks.length
   rw [List.take_of_length_le (Nat.le_refl _)] at this
   have hw:IntKind.i64.wrap ((N.depths ks:Int)+1)=(1:Int)+N.depths ks:=by rw [wrap_i64 (by omega) (by omega)]; omega
   simp [f3,hw]
   simp [RetK,cut_app hcl]
end
def parseF (L:List Tk):PR:=pp L (16 * L.length+8) (.file []) 0
def parseP (L:List Tk):N × Int × Int :=
 if L=[]∨kdT L (L.length - 1) ≠ 0∨4000 < L.length then (N.none,1,0) else
 match parseF L with
 | .ok n _=>if 60 < n.depth then (N.none,25,0) else (n,0,0)
 | .bad q=>(N.none,24,(q:Int))
 | .out=>(N.none,24,0)
section
variable {P:Program} {F:PF} {z:Bool} {L:List Tk}
theorem Has.parse {f fd} (h:Has P f (irPParse F.file fd F.tn F.tp)) (hF:PHas P F) (hd:Has P fd (irTDepth fd F.tn)) (hL:L.length≤1048576) (hEq:∀ i,isT L i [61]=true→kdT L i=5) (H:Hp) :
 ACall P f [.d (.sl z 4 (L.map encTk))] H (fun r H'=>r = .tup [(parseP L).1.v,.d (.int .i64 (parseP L).2.1),.d (.int .i64 (parseP L).2.2)]∧H'=H):=by
 obtain ⟨fn,hf,hcf⟩:=h
 refine acall_fin hf hcf (by simp [irPParse]) fun hcl _ => ?_
 obtain ⟨Q,hQ⟩:∃ Q:A→Hp→Prop,Q=fun r H'=>r = .tup [(parseP L).1.v,.d (.int .i64 (parseP L).2.1),.d (.int .i64 (parseP L).2.2)]∧H'=H:=⟨_,rfl⟩
 rw [← hQ]
 have hnone:∀ e b:Int,parseP L=(N.none,e,b)→Q (.tup [.agg [.d (.int .i64 0),.d (.int .i64 0),.d (.int .i64 0),.d (.str []),.d (.int .i64 0),.d (.sl true 6 [])],.d (.int .i64 e),.d (.int .i64 b)]) H:=fun e b h=>by
  subst hQ
  rw [h]
  exact ⟨rfl,rfl⟩
 by_cases h0:L=[]
 · subst h0
   simp [irPParse]
   simp [RetK,cut_app hcl]
   exact hnone 1 0 (by simp [parseP])
 have hl0:0 < L.length:=List.length_pos_iff.2 h0
 have h0':¬ (L.length:Int)=0:=by omega
 have hw:IntKind.i64.wrap ((L.length:Int) - 1)=((L.length - 1:Nat):Int):=by rw [wrap_i64 (by omega) (by omega)]; omega
 have hr:=rowAt_map encTk (l:=L) (i:=L.length - 1) (by omega)
 have hg:L[L.length - 1]?=some (L[L.length - 1]'(by omega)):=List.getElem?_eq_getElem (by omega)
 have hkd:kdT L (L.length - 1)=(L[L.length - 1]'(by omega)).k:=by unfold kdT; rw [hg]
 generalize L[L.length - 1]'(by omega)=tk at hr hkd
 obtain ⟨k,a,l,x⟩:=tk
 simp only [encTk] at hr hkd
 by_cases h1:k=0
 case neg =>
  simp [irPParse,h0,h0',hw,hr,h1]
  simp [RetK,cut_app hcl]
  exact hnone 1 0 (by simp [parseP,hkd,h1])
 by_cases h2:4000 < L.length
 case pos =>
  have h2':(4000:Int) < L.length:=by omega
  simp [irPParse,h0,h0',hw,hr,h1,h2']
  simp [RetK,cut_app hcl]
  exact hnone 1 0 (by simp [parseP,h2])
 have h2':¬ (4000:Int) < L.length:=by omega
 have hpp:parseP L=match parseF L with
  | .ok n _=>if 60 < n.depth then (N.none,25,0) else (n,0,0)
  | .bad q=>(N.none,24,(q:Int))
  | .out=>(N.none,24,0):=by
  unfold parseP
  rw [if_neg]
  rw [hkd,h1]
  rintro (h | h | h)
  · exact h0 h
  · exact h rfl
  · exact h2 h
 simp [irPParse,h0,h0',hw,hr,h1,h2']
 obtain ⟨r0,hr0⟩:∃ r0:Ob,r0 = .box F.tn [.d (.int .i64 0),.d (.int .i64 0),.d (.int .i64 0),.d (.str []),.d (.int .i64 0),.d (.sl true 6 [])]:=⟨_,rfl⟩
 have g:=hF.fileA (z:=z) hL hEq (H:=H++[r0,pst F.tp z L (0,none)]) (X:=[]) (i:=H.length+1) (by simp)
 have e1:∀ s,(H++[r0,pst F.tp z L (0,none)]).set (H.length+1) (pst F.tp z L s)++[]=H++[r0,pst F.tp z L s]:=fun s=>by simp
 rw [e1] at g
 rw [hr0] at g
 refine CallK_of g ?_
 rintro _ _ ⟨m,s',rfl,rfl,hrel⟩
 rw [← hr0,e1]
 rw [hr0]
 rcases hrel.none' with ⟨q,b,hq,rfl,e3⟩ | ⟨k',hk,rfl⟩
 · have hq':parseF L = .bad q:=hq
   rw [hq'] at hpp
   obtain ⟨k2,f2,t2,w2,a2,z2,ks2⟩:=m
   rw [N.v_mk]
   simp [pst]
   repeat' apply And.intro
   all_goals
    simp [RetK,cut_app hcl]
    try exact hnone 24 q hpp
 · have hk':parseF L = .ok m k':=hk
   rw [hk'] at hpp
   have hsz:=pp_size (L:=L) (16 * L.length+8) (.file []) 0 trivial
   rw [show pp L (16 * L.length+8) (.file []) 0 = .ok m k' from hk] at hsz
   simp only [Sz,G.k1,G.sz,N.sizes_nil] at hsz
   have hadv:=pp_adv (L:=L) (16 * L.length+8) (.file []) 0
   rw [show pp L (16 * L.length+8) (.file []) 0 = .ok m k' from hk] at hadv
   obtain ⟨v1,-,v3⟩:=hadv
   have hdep:=N.depth_size m
   have hd':=hd.depth m (by omega)
   obtain ⟨k2,f2,t2,w2,a2,z2,ks2⟩:=m
   rw [N.v_mk] at hd'
   rw [N.v_mk]
   simp [pst]
   refine CallK_of' (hd' _) ?_
   by_cases h60:60 < N.depth (.mk k2 f2 t2 w2 a2 z2 ks2)
   · have h60':(60:Int) < N.depth (.mk k2 f2 t2 w2 a2 z2 ks2):=by omega
     simp [h60']
     simp [RetK,cut_app hcl]
     exact hnone 25 0 (by rw [hpp]; simp [h60])
   · have h60':¬ (60:Int) < N.depth (.mk k2 f2 t2 w2 a2 z2 ks2):=by omega
     simp [h60']
     simp [RetK,cut_app hcl]
     subst hQ
     rw [hpp]
     simp [h60,N.v_mk]
end
end
section
section
variable {bt:TypeId} {H X:Hp} {b t:Nat} {bs bs':Bs}
end
section
variable {P:Program}
end
end
section
open Go Go.Proofs Go.Lib
open Go.RowKit (Below)
open Go.ChangeShapes Go.RowKit
theorem arg_str_of {P:Program} {t:TypeId} (hu:P.underlying t=some .string):∀ {n:Nat} {ds:List D} {a:A} (h:Typed P n t ds) (ha:ArgOf P t ds a),∃ s:List UInt8,a = .d (.str s)∧s.length≤D.bulkC ds∧s.length+1≤D.bulkC ds:=by
 intro n ds a h ha
 obtain ⟨x,rfl⟩:=typed_str hu h
 exact ⟨x,argOf_one (by rw [hu]; simp) ha,by simp only [D.bulkC,D.bulk]; omega,by simp only [D.bulkC,D.bulk]; omega⟩
end
end Go.Zam
namespace Go.Proofs
section
open Go.Shelf
def Tryz.lays137_ren:Go.Shelf.Ren:=⟨fun | 137=>217 | 217=>238 | 266=>248 | n=>n,fun | 9=>9 | 5=>5 | 3=>3 | n=>n,fun | n=>n⟩
theorem Tryz.lays137:Go.Proofs.Lays.n137 Tryz.prog Tryz.lays137_ren := {
 mixed:=by kernel_rfl
 f137:=Tryz.func217.trans (congrArg some (by kernel_rfl))
 f217:=Tryz.func238.trans (congrArg some (by kernel_rfl))
 f266:=Tryz.func248.trans (congrArg some (by kernel_rfl))
 t3:=Tryz.underlying3
 a3:=Tryz.isAgg3
 z3:=Tryz.sizeOf3
 v3:=Tryz.zeroValue3
 t5:=Tryz.underlying5
 a5:=Tryz.isAgg5
 z5:=Tryz.sizeOf5
 v5:=Tryz.zeroValue5
 t9:=Tryz.underlying9
 a9:=Tryz.isAgg9
 z9:=Tryz.sizeOf9
 v9:=Tryz.zeroValue9 }
open Go.RowKit in
theorem Tryz.strings_IndexByte (s:ByteArray) (c:Int) (w:World) :
 Calls Tryz.prog 217 #[.string s,.int .u8 c] w fun e w'=>e = .returned (.int .i64 (Lib.indexByte s.data.toList c.toNat.toUInt8))∧w'=w:=Any.strings_IndexByte Tryz.lays137 s c w
def Tryz.laysPu14_ren:Go.Shelf.Ren:=⟨fun | 14=>191 | 16=>215 | 17=>216 | 19=>232 | 20=>233 | 21=>234 | 22=>235 | 23=>236 | 24=>237 | 25=>245 | 27=>247 | 26=>246 | 28=>253 | 29=>256 | 30=>259 | 31=>260 | 32=>261 | 33=>262 | 35=>179 | 34=>265 | 36=>266 | 37=>267 | 38=>268 | 39=>271 | 40=>272 | n=>n,fun | 9=>9 | 3=>3 | 22=>247 | 24=>272 | 25=>273 | 4=>4 | 34=>308 | 5=>5 | 36=>160 | 37=>299 | 0=>0 | 39=>310 | 21=>21 | 44=>316 | 47=>313 | 50=>324 | 48=>322 | 2=>2 | 52=>326 | 55=>328 | 59=>331 | 60=>264 | 20=>20 | 61=>332 | 65=>333 | 66=>334 | 67=>200 | n=>n,fun | 0=>2 | 1=>3 | 2=>5 | 3=>6 | 4=>7 | n=>n⟩
theorem Tryz.laysPu14:Go.Proofs.LaysPu.n14 Tryz.prog Tryz.laysPu14_ren := {
 mixed:=by kernel_rfl
 f14:=Tryz.func191.trans (congrArg some (by kernel_rfl))
 f16:=Tryz.func215.trans (congrArg some (by kernel_rfl))
 f17:=Tryz.func216.trans (congrArg some (by kernel_rfl))
 f19:=Tryz.func232.trans (congrArg some (by kernel_rfl))
 f20:=Tryz.func233.trans (congrArg some (by kernel_rfl))
 f21:=Tryz.func234.trans (congrArg some (by kernel_rfl))
 f22:=Tryz.func235.trans (congrArg some (by kernel_rfl))
 f23:=Tryz.func236.trans (congrArg some (by kernel_rfl))
 f24:=Tryz.func237.trans (congrArg some (by kernel_rfl))
 f25:=Tryz.func245.trans (congrArg some (by kernel_rfl))
 f26:=Tryz.func246.trans (congrArg some (by kernel_rfl))
 f27:=Tryz.func247.trans (congrArg some (by kernel_rfl))
 f28:=Tryz.func253.trans (congrArg some (by kernel_rfl))
 f29:=Tryz.func256.trans (congrArg some (by kernel_rfl))
 f30:=Tryz.func259.trans (congrArg some (by kernel_rfl))
 f31:=Tryz.func260.trans (congrArg some (by kernel_rfl))
 f32:=Tryz.func261.trans (congrArg some (by kernel_rfl))
 f33:=Tryz.func262.trans (congrArg some (by kernel_rfl))
 f34:=Tryz.func265.trans (congrArg some (by kernel_rfl))
 f35:=Tryz.func179.trans (congrArg some (by kernel_rfl))
 f36:=Tryz.func266.trans (congrArg some (by kernel_rfl))
 f37:=Tryz.func267.trans (congrArg some (by kernel_rfl))
 f38:=Tryz.func268.trans (congrArg some (by kernel_rfl))
 f39:=Tryz.func271.trans (congrArg some (by kernel_rfl))
 f40:=Tryz.func272.trans (congrArg some (by kernel_rfl))
 t0:=Tryz.underlying0
 a0:=Tryz.isAgg0
 z0:=Tryz.sizeOf0
 v0:=Tryz.zeroValue0
 i0:=by kernel_rfl
 t2:=Tryz.underlying2
 a2:=Tryz.isAgg2
 z2:=Tryz.sizeOf2
 v2:=Tryz.zeroValue2
 i2:=by kernel_rfl
 t3:=Tryz.underlying3
 a3:=Tryz.isAgg3
 z3:=Tryz.sizeOf3
 v3:=Tryz.zeroValue3
 i3:=by kernel_rfl
 t4:=Tryz.underlying4
 a4:=Tryz.isAgg4
 z4:=Tryz.sizeOf4
 v4:=Tryz.zeroValue4
 i4:=by kernel_rfl
 t5:=Tryz.underlying5
 a5:=Tryz.isAgg5
 z5:=Tryz.sizeOf5
 v5:=Tryz.zeroValue5
 i5:=by kernel_rfl
 t9:=Tryz.underlying9
 a9:=Tryz.isAgg9
 z9:=Tryz.sizeOf9
 v9:=Tryz.zeroValue9
 i9:=by kernel_rfl
 t20:=Tryz.underlying20
 a20:=Tryz.isAgg20
 z20:=Tryz.sizeOf20
 v20:=Tryz.zeroValue20
 i20:=by kernel_rfl
 t21:=Tryz.underlying21
 a21:=Tryz.isAgg21
 z21:=Tryz.sizeOf21
 v21:=Tryz.zeroValue21
 i21:=by kernel_rfl
 t22:=Tryz.underlying247
 a22:=Tryz.isAgg247
 z22:=Tryz.sizeOf247
 v22:=Tryz.zeroValue247
 i22:=by kernel_rfl
 t24:=Tryz.underlying272
 a24:=Tryz.isAgg272
 z24:=Tryz.sizeOf272
 v24:=Tryz.zeroValue272
 i24:=by kernel_rfl
 t25:=Tryz.underlying273
 a25:=Tryz.isAgg273
 z25:=Tryz.sizeOf273
 v25:=Tryz.zeroValue273
 i25:=by kernel_rfl
 t34:=Tryz.underlying308
 a34:=Tryz.isAgg308
 z34:=Tryz.sizeOf308
 v34:=Tryz.zeroValue308
 i34:=by kernel_rfl
 c34:=by kernel_rfl
 t36:=Tryz.underlying160
 a36:=Tryz.isAgg160
 z36:=Tryz.sizeOf160
 v36:=Tryz.zeroValue160
 i36:=by kernel_rfl
 t37:=Tryz.underlying299
 a37:=Tryz.isAgg299
 z37:=Tryz.sizeOf299
 v37:=Tryz.zeroValue299
 i37:=by kernel_rfl
 t39:=Tryz.underlying310
 a39:=Tryz.isAgg310
 z39:=Tryz.sizeOf310
 v39:=Tryz.zeroValue310
 i39:=by kernel_rfl
 t44:=Tryz.underlying316
 a44:=Tryz.isAgg316
 z44:=Tryz.sizeOf316
 v44:=Tryz.zeroValue316
 i44:=by kernel_rfl
 t47:=Tryz.underlying313
 a47:=Tryz.isAgg313
 z47:=Tryz.sizeOf313
 v47:=Tryz.zeroValue313
 i47:=by kernel_rfl
 t48:=Tryz.underlying322
 a48:=Tryz.isAgg322
 z48:=Tryz.sizeOf322
 v48:=Tryz.zeroValue322
 i48:=by kernel_rfl
 t50:=Tryz.underlying324
 a50:=Tryz.isAgg324
 z50:=Tryz.sizeOf324
 v50:=Tryz.zeroValue324
 i50:=by kernel_rfl
 t52:=Tryz.underlying326
 a52:=Tryz.isAgg326
 z52:=Tryz.sizeOf326
 v52:=Tryz.zeroValue326
 i52:=by kernel_rfl
 t55:=Tryz.underlying328
 a55:=Tryz.isAgg328
 z55:=Tryz.sizeOf328
 v55:=Tryz.zeroValue328
 i55:=by kernel_rfl
 t59:=Tryz.underlying331
 a59:=Tryz.isAgg331
 z59:=Tryz.sizeOf331
 v59:=Tryz.zeroValue331
 i59:=by kernel_rfl
 t60:=Tryz.underlying264
 a60:=Tryz.isAgg264
 z60:=Tryz.sizeOf264
 v60:=Tryz.zeroValue264
 i60:=by kernel_rfl
 t61:=Tryz.underlying332
 a61:=Tryz.isAgg332
 z61:=Tryz.sizeOf332
 t65:=Tryz.underlying333
 a65:=Tryz.isAgg333
 z65:=Tryz.sizeOf333
 v65:=Tryz.zeroValue333
 i65:=by kernel_rfl
 t66:=Tryz.underlying334
 a66:=Tryz.isAgg334
 z66:=Tryz.sizeOf334
 v66:=Tryz.zeroValue334
 i66:=by kernel_rfl
 t67:=Tryz.underlying200
 a67:=Tryz.isAgg200
 z67:=Tryz.sizeOf200
 v67:=Tryz.zeroValue200
 i67:=by kernel_rfl
 g0:=by kernel_rfl
 m0:=by kernel_rfl
 g1:=by kernel_rfl
 m1:=by kernel_rfl
 g2:=by kernel_rfl
 m2:=by kernel_rfl
 g3:=by kernel_rfl
 m3:=by kernel_rfl
 g4:=by kernel_rfl
 m4:=by kernel_rfl }
def Tryz.lays99_ren:Go.Shelf.Ren:=⟨fun | 99=>194 | 206=>220 | n=>n,fun | 9=>9 | 4=>4 | 3=>3 | n=>n,fun | n=>n⟩
theorem Tryz.lays99:Go.Proofs.Lays.n99 Tryz.prog Tryz.lays99_ren := {
 mixed:=by kernel_rfl
 f99:=Tryz.func194.trans (congrArg some (by kernel_rfl))
 f206:=Tryz.func220.trans (congrArg some (by kernel_rfl))
 t3:=Tryz.underlying3
 a3:=Tryz.isAgg3
 z3:=Tryz.sizeOf3
 v3:=Tryz.zeroValue3
 t4:=Tryz.underlying4
 a4:=Tryz.isAgg4
 z4:=Tryz.sizeOf4
 v4:=Tryz.zeroValue4
 t9:=Tryz.underlying9
 a9:=Tryz.isAgg9
 z9:=Tryz.sizeOf9
 v9:=Tryz.zeroValue9 }
open Go.RowKit Go.Lib in
theorem Tryz.strings_HasPrefix (s p:ByteArray) (w:World) :
 Calls Tryz.prog 194 #[.string s,.string p] w fun e w'=>e = .returned (.bool (Lib.hasPrefix s.data.toList p.data.toList))∧w'=w:=Any.strings_HasPrefix Tryz.lays99 s p w
def Tryz.lays197_ren:Go.Shelf.Ren:=⟨fun | 197=>137 | 260=>189 | n=>n,fun | 9=>9 | 21=>21 | 3=>3 | 4=>4 | 5=>5 | 105=>230 | 119=>293 | 0=>0 | 46=>160 | 139=>296 | 138=>295 | n=>n,fun | 3=>0 | 4=>1 | n=>n⟩
theorem Tryz.lays197:Go.Proofs.Lays.n197 Tryz.prog Tryz.lays197_ren := {
 mixed:=by kernel_rfl
 f197:=Tryz.func137.trans (congrArg some (by kernel_rfl))
 f260:=Tryz.func189.trans (congrArg some (by kernel_rfl))
 t0:=Tryz.underlying0
 a0:=Tryz.isAgg0
 z0:=Tryz.sizeOf0
 v0:=Tryz.zeroValue0
 t3:=Tryz.underlying3
 a3:=Tryz.isAgg3
 z3:=Tryz.sizeOf3
 v3:=Tryz.zeroValue3
 t4:=Tryz.underlying4
 a4:=Tryz.isAgg4
 z4:=Tryz.sizeOf4
 v4:=Tryz.zeroValue4
 t5:=Tryz.underlying5
 a5:=Tryz.isAgg5
 z5:=Tryz.sizeOf5
 v5:=Tryz.zeroValue5
 t9:=Tryz.underlying9
 a9:=Tryz.isAgg9
 z9:=Tryz.sizeOf9
 v9:=Tryz.zeroValue9
 t21:=Tryz.underlying21
 a21:=Tryz.isAgg21
 z21:=Tryz.sizeOf21
 v21:=Tryz.zeroValue21
 t46:=Tryz.underlying160
 a46:=Tryz.isAgg160
 z46:=Tryz.sizeOf160
 v46:=Tryz.zeroValue160
 t105:=Tryz.underlying230
 a105:=Tryz.isAgg230
 z105:=Tryz.sizeOf230
 v105:=Tryz.zeroValue230
 t119:=Tryz.underlying293
 a119:=Tryz.isAgg293
 z119:=Tryz.sizeOf293
 t138:=Tryz.underlying295
 a138:=Tryz.isAgg295
 z138:=Tryz.sizeOf295
 v138:=Tryz.zeroValue295
 t139:=Tryz.underlying296
 a139:=Tryz.isAgg296
 z139:=Tryz.sizeOf296
 v139:=Tryz.zeroValue296
 g3:=by kernel_rfl
 g4:=by kernel_rfl }
def Tryz.lays260_ren:Go.Shelf.Ren:=⟨fun | 260=>189 | n=>n,fun | 9=>9 | 21=>21 | 3=>3 | 4=>4 | 5=>5 | 119=>293 | 0=>0 | 46=>160 | 139=>296 | 138=>295 | n=>n,fun | 3=>0 | 4=>1 | n=>n⟩
theorem Tryz.lays260:Go.Proofs.Lays.n260 Tryz.prog Tryz.lays260_ren := {
 mixed:=by kernel_rfl
 f260:=Tryz.func189.trans (congrArg some (by kernel_rfl))
 t0:=Tryz.underlying0
 a0:=Tryz.isAgg0
 z0:=Tryz.sizeOf0
 v0:=Tryz.zeroValue0
 t3:=Tryz.underlying3
 a3:=Tryz.isAgg3
 z3:=Tryz.sizeOf3
 v3:=Tryz.zeroValue3
 t4:=Tryz.underlying4
 a4:=Tryz.isAgg4
 z4:=Tryz.sizeOf4
 v4:=Tryz.zeroValue4
 t5:=Tryz.underlying5
 a5:=Tryz.isAgg5
 z5:=Tryz.sizeOf5
 v5:=Tryz.zeroValue5
 t9:=Tryz.underlying9
 a9:=Tryz.isAgg9
 z9:=Tryz.sizeOf9
 v9:=Tryz.zeroValue9
 t21:=Tryz.underlying21
 a21:=Tryz.isAgg21
 z21:=Tryz.sizeOf21
 v21:=Tryz.zeroValue21
 t46:=Tryz.underlying160
 a46:=Tryz.isAgg160
 z46:=Tryz.sizeOf160
 v46:=Tryz.zeroValue160
 t119:=Tryz.underlying293
 a119:=Tryz.isAgg293
 z119:=Tryz.sizeOf293
 t138:=Tryz.underlying295
 a138:=Tryz.isAgg295
 z138:=Tryz.sizeOf295
 v138:=Tryz.zeroValue295
 t139:=Tryz.underlying296
 a139:=Tryz.isAgg296
 z139:=Tryz.sizeOf296
 v139:=Tryz.zeroValue296
 g3:=by kernel_rfl
 g4:=by kernel_rfl }
open Go.RowKit Go.Lib in
theorem Tryz.utf8_DecodeRuneInString (s:ByteArray) (w:World) (hT:Lib.Utf8Tabs 0 1 w) :
 Calls Tryz.prog 137 #[.string s] w fun e w'=>e = .returned (.tuple #[.int .i32 (Lib.decodeGo s).1,.int .i64 (Lib.decodeGo s).2])∧Below w.heap.size w w':=Any.utf8_DecodeRuneInString Tryz.lays197 s w hT
end
end Go.Proofs
namespace Go.Proofs.YthhlbefhanplhaaGreatDoor
section
open Go Go.Zam
open Go.ChangeShapes Go.WideShapes Go.ChangeAt Go.RowKit
theorem isBulk (H:Type):IsBulk (X:=H) Rows.uptoBulk Rows.uptoBulkAll where
 str:=fun b=>by simp [Rows.uptoBulk]
 bool:=fun b=>by simp [Rows.uptoBulk]
 int:=fun k n=>by simp [Rows.uptoBulk]
 nil:=by simp [Rows.uptoBulk]
 slice:=fun e s=>by simp only [Rows.uptoBulk]; omega
 agg:=fun p=>by simp only [Rows.uptoBulk]; omega
 cons:=fun d r=>by simp only [Rows.uptoBulkAll]; omega
theorem own:ownKnob Tryz.prog.godebug=none:=by kernel_rfl
theorem laidOut:laidOutB Tryz.prog=true:=by kernel_rfl
def litCell:DataW Unit→Value
 | .lit (.int k n) => .int k n
 | .lit (.string s) => .string ⟨s.toArray⟩
 | _ => .tuple #[]
def litCells:DataW Unit→List Value
 | .agg l=>l.map litCell
 | x=>[litCell x]
def tabCells:DataW Unit→Array Value
 | .agg l=>(l.flatMap litCells).toArray
 | _ => #[]
def put (g:Nat) (cs:Array Value) (h:Array Obj):Array Obj:=h.modify g fun
 | .cells _ t frozen => .cells cs t frozen
 | o=>o
noncomputable def laidWorld (os:Os):World :=
 let w0:=World.holding Tryz.prog os ⟨#[.cells #[.string ⟨#[118,97,108,117,101,32,111,117,116,32,111,102,32,114,97,110,103,101]⟩] 324,.cells #[.string ⟨#[105,110,118,97,108,105,100,32,115,121,110,116,97,120]⟩] 324],#[],[]⟩
 let N:=(World.settled Tryz.prog os).heap.size
 { w0 with heap:=put 3 #[.iface 322 (.pointer (some ⟨N,0,none⟩))] (put 2 #[.iface 322 (.pointer (some ⟨N+1,0,none⟩))] (put 0 (tabCells Rows.laid_unicode_utf8_first) (put 1 (tabCells Rows.laid_unicode_utf8_acceptRanges) (put 5 (tabCells Rows.laid_internal_strconv_uint64pow10) (put 7 (tabCells Rows.laid_math_bits_deBruijn64tab) (put 6 (tabCells Rows.laid_math_bits_deBruijn32tab) w0.heap)))))) }
theorem star : "*" ++ "errors.errorString" = "*errors.errorString":=by decide
theorem rowErr (u:TypeId) (h:Tryz.prog.typeName? 3 u=some "*errors.errorString"):u=322 :=
 typeName_ptr_named (nm := "errors.errorString") (by rw [star]; kernel_rfl) (by kernel_rfl) (by decide) u (by rw [star]; exact h)
set_option maxRecDepth 100000 in
theorem laidOb {W:World} (h:laidMetH Tryz.prog Rows.projectLoadsUptoRow.laid W):∃ H0,LaidOb W H0∧TabsG 0 1 2 3 H0:=by
 have h':laidMet Tryz.prog Rows.projectLoadsUptoRow.laid W:=by
  rw [MakeChecks.laidMetH_plain _ _ _ (by kernel_rfl)] at h
  exact h
 have e1:Rows.laid_unicode_utf8_first=Lib.firstData:=by kernel_rfl
 have e2:Rows.laid_unicode_utf8_acceptRanges=Lib.acceptData:=by kernel_rfl
 have hU:Lib.Utf8Tabs 0 1 W :=
  utf8Tabs_of_reads (ρ:=Tryz.lays260_ren) { Tryz.lays260 with } ⟨by kernel_rfl,by kernel_rfl,by kernel_rfl,by kernel_rfl,by kernel_rfl,by kernel_rfl,by kernel_rfl⟩
   (e1 ▸ Lib.laidMet.reads h' (.tail _ (.tail _ (.tail _ (.tail _ (.tail _ (.tail _ (.head _)))))))) (e2 ▸ Lib.laidMet.reads h' (.tail _ (.tail _ (.tail _ (.head _)))))
 obtain ⟨a1,t1,hv1,-⟩:=laid_sentinel (g:=3) h'.tail.tail.tail.tail (by kernel_rfl) (by kernel_rfl) Tryz.underlying272 rowErr Tryz.underlying322 Tryz.underlying324 rfl rfl Tryz.underlying9 (by kernel_rfl) (by kernel_rfl)
 obtain ⟨a0,t0,hv0,-⟩:=laid_sentinel (g:=2) h'.tail.tail.tail.tail.tail (by kernel_rfl) (by kernel_rfl) Tryz.underlying272 rowErr Tryz.underlying322 Tryz.underlying324 rfl rfl Tryz.underlying9 (by kernel_rfl) (by kernel_rfl)
 obtain ⟨H1,hL1,hG1⟩:=laid_heap hU ⟨_,_,by rw [World.var?_cell (show Tryz.prog.globalNamed "strconv.ErrSyntax"=some 2 by kernel_rfl) hv0 0]; rfl⟩ ⟨_,_,by rw [World.var?_cell (show Tryz.prog.globalNamed "strconv.ErrRange"=some 3 by kernel_rfl) hv1 0]; rfl⟩
 exact ⟨H1,hL1,hG1⟩
theorem met (os:Os) (args:Array Value):laidMet Tryz.prog Rows.projectLoadsUptoRow.laid ((laidWorld os).forCall (fun _ _=>0) ⟨#[],args,[]⟩).memory:=laidMet_of_run' 8 (by kernel_rfl) (by kernel_rfl)
theorem arg_str:∀ {n:Nat} {ds:List D} {a:A} (h:Typed Tryz.prog n 9 ds) (ha:ArgOf Tryz.prog 9 ds a),∃ s:List UInt8,a = .d (.str s)∧s.length≤D.bulkC ds∧s.length+1≤D.bulkC ds :=
 @arg_str_of Tryz.prog 9 Tryz.underlying9
end
end Go.Proofs.YthhlbefhanplhaaGreatDoor
namespace Go.Zam
def irPjLSorts (awake sort rsort same tD tE:Nat):IFn:=⟨37,[.t 2],Jq [Jp 2 (.mv (.c (.bool false)))] (.seq (Jk [Jm 6 0,Jh 7 6,JB 8 .gtr 7 200] 8 (Jq [Jc 9 awake [],Jm 2 9] .ret) .skip) (Jq [Jp 3 (.nilT 3 tE)] (.seq (Jq [Jm 10 0,Jh 11 10,Ji 12 0] (.blk 0 (.loop (Jr 12 11 13 28 0 1 (Jq [JA 14 3 10 12,JL 15 3 14,Jy 5 tD [JS,J0,J0],Js 3 5 15] (Jz [Jm 16 3,Jf 17 0 5,Jf 18 0 17,Jl 19 18,Jf 20 0 5,Jf 21 1 20,Jl 22 21,Jf 23 2 5,Jl 24 23,Jp 25 (.build [JS,J0,J0] [(0,1,.t 19),(1,1,.t 22),(2,1,.t 24)]),Jp 26 (.bslice 3 [.t 25]),Jp 27 (.app 3 32 tE (.t 16) (.t 26)),Jm 3 27])))))) (Jq [Jc 29 awake [],Jm 30 29,Jg 31 30 true (Km 0),Jg 32 30 true (.call sort [.t 31]),Jg 33 30 true (Km 3),Jg 34 30 true (.call rsort [.t 33]),Jg 35 30 true (.call same [.t 32,.t 34]),Ja 36 30 35,Jm 2 36] .ret))))⟩
def irPjAwake (load unit diags tU:Nat):IFn:=⟨33,[.t 0],Jq [Jp 0 (.mv (.c (.bool false)))] (Jq [Jp 6 (.build [JS,JS] [(0,1,.c (.str [109,97,105,110])),(1,1,.c (.str [100,101,102,32,109,97,105,110,40,41,32,123,125]))]),Jp 7 (.bslice 2 [.t 6]),Jc 8 load [.t 7],Jm 5 8,Je 9 5 0,Je 10 5 1,Jm 1 9,Jm 2 10] (Jq [Jm 12 1,Jc 13 unit [.t 12,.c (.str [109,97,105,110])],Jm 11 13,Je 14 11 0,Je 15 11 1,Jy 3 tU [JS,JS,.sl true 4 [],J0,J0,J0,JS,J0,.sl true 6 [],.sl true 4 [],.sl true 4 [],.sl true 2 [],J0,J0],Js 14 3 14,Jm 4 15] (Jq [Jm 16 2,JB 17 .eql 16 0,Jm 18 17,Jg 19 18 true (Km 1),Jg 20 18 true (.call diags [.t 19]),Jg 21 18 true (.lenL (.t 20)),Jg 22 18 true (KB .eql 21 0),Ja 23 18 22,Jm 24 23,Jg 25 24 true (Km 4),Ja 26 24 25,Jm 27 26,Jg 28 27 true (Kh 3 3),Jg 29 27 true (Kh 0 28),Jg 30 27 true (Kl 29),Jg 31 27 true (KB .eql 30 1),Ja 32 27 31,Jm 0 32] .ret)))⟩
def irPjLoad (read of_ tM tU:Nat):IFn:=⟨26,[.t 2,.t 3],Jq [Jp 2 (.mv (.c .nilp)),Ji 3 0] (.seq (Jk [Jm 7 0,Jh 8 7,JB 9 .gtr 8 8] 9 (Jq [Jp 2 (.mv (.c .nilp)),Ji 3 5] .ret) .skip) (Jq [Jp 4 (.nilT 14 tU)] (.seq (Jq [Jm 10 0,Jh 11 10,Ji 12 0] (.blk 0 (.loop (Jr 12 11 13 21 0 1 (Jq [JA 14 2 10 12,JL 15 2 14,Jy 6 tM [JS,JS],Js 2 6 15] (Jz [Jm 16 4,JL 17 2 6,Jc 18 read [.t 17],Jp 19 (.bslice 14 [.t 18]),Jp 20 (.app 14 216 tU (.t 16) (.t 19)),Jm 4 20])))))) (Jq [Jm 22 4,Jc 23 of_ [.t 22],Je 24 23 0,Je 25 23 1,Jm 2 24,Jm 3 25] .ret))))⟩
def irPjUnit (bins cmpUS tU:Nat):IFn:=⟨30,[.cell 4 14 true,.t 5],Jq [Jy 4 tU [JS,JS,.sl true 4 [],J0,J0,J0,JS,J0,.sl true 6 [],.sl true 4 [],.sl true 4 [],.sl true 2 [],J0,J0],Jp 5 (.mv (.c (.bool false)))] (.seq (Jk [Jm 8 0,Jp 9 (.isNilP false (.t 8))] 9 (Jq [Jp 10 (.build [JS,JS,.sl true 4 [],J0,J0,J0,JS,J0,.sl true 6 [],.sl true 4 [],.sl true 4 [],.sl true 2 [],J0,J0] []),Js 14 4 10,Jp 5 (.mv (.c (.bool false)))] .ret) .skip) (Jq [Jm 12 0,Jn 13 12,Jf 14 0 13,Jl 15 14,Jm 16 1,Jc 17 bins [.t 15,.t 16,.c (.fn cmpUS)],Jm 11 17,Je 18 11 0,Je 19 11 1,Jm 6 18,Jm 7 19] (.seq (Jk [Jm 20 7,Jp 21 (.un .not (.t 20))] 21 (Jq [Jp 22 (.build [JS,JS,.sl true 4 [],J0,J0,J0,JS,J0,.sl true 6 [],.sl true 4 [],.sl true 4 [],.sl true 2 [],J0,J0] []),Js 14 4 22,Jp 5 (.mv (.c (.bool false)))] .ret) .skip) (Jq [Jm 23 0,Jn 24 23,Jf 25 0 24,Jl 26 25,Jm 27 6,JA 28 14 26 27,JL 29 14 28,Js 14 4 29,Jp 5 (.mv (.c (.bool true)))] .ret))))⟩
def irPjImp (unit item tU tBd tIm:Nat):IFn:=⟨61,[.cell 6 2 true],Jq [Jp 4 (.box tU 14 (.t 1)),Jp 5 (.box tBd 4 (.t 2)),Jy 6 tIm [JS,J0]] (.seq (Jk [Jf 10 1 5,Jl 11 10,JB 12 .neq 11 1,Jm 13 12,Jg 14 13 false (Kh 3 5),Jg 15 13 false (Kl 14),Jg 16 13 false (Kh 3 4),Jg 17 13 false (Kh 5 16),Jg 18 13 false (Kl 17),Jg 19 13 false (.lenL (.t 18)),Jg 20 13 false (Kb .geq 15 19),Jo 21 13 20,Jm 22 21,Jg 23 22 false (Kh 3 4),Jg 24 22 false (Kh 5 23),Jg 25 22 false (Kl 24),Jg 26 22 false (Kh 3 5),Jg 27 22 false (Kl 26),Jg 28 22 false (KA 6 25 27),Jg 29 22 false (Kh 5 28),Jg 30 22 false (Kl 29),Jg 31 22 false (.lenL (.t 30)),Jg 32 22 false (KB .neq 31 1),Jo 33 22 32] 33 (Jq [Jp 34 (.build [JS,J0] [(1,1,JI (-1))]),Js 2 6 34] .ret) .skip) (Jq [Jf 35 3 4,Jf 36 5 35,Jl 37 36,Jf 38 3 5,Jl 39 38,JA 40 6 37 39,Jf 41 5 40,Jl 42 41,Jp 43 (.iaddr 6 (.t 42) (JI 0)),Jf 44 3 43,Jl 45 44,Jp 46 (.build [JS,J0] [(0,1,.t 45),(1,1,JI (-1))]),Jy 7 tIm [JS,J0],Js 2 7 46] (.seq (Jq [Jm 48 0,Jf 49 0 7,Jl 50 49,Jc 51 unit [.t 48,.t 50],Jm 47 51,Je 52 47 0,Je 53 47 1,Jy 8 tU [JS,JS,.sl true 4 [],J0,J0,J0,JS,J0,.sl true 6 [],.sl true 4 [],.sl true 4 [],.sl true 2 [],J0,J0],Js 14 8 52,Jm 9 53] (Jk [Jm 54 9] 54 (Jz [JL 55 14 8,Jf 56 2 5,Jl 57 56,Jc 58 item [.t 55,.t 57],Jf 59 1 7,Js 1 59 58]) .skip)) (Jq [JL 60 2 7,Js 2 6 60] .ret))))⟩
def irPjSame (tD:Nat):IFn:=⟨50,[.t 4],Jq [Jp 4 (.mv (.c (.bool false)))] (.seq (Jk [Jm 7 0,Jh 8 7,Jm 9 1,Jh 10 9,Jb 11 .neq 8 10] 11 (Jq [Jp 4 (.mv (.c (.bool false)))] .ret) .skip) (.seq (Jq [Jm 12 0,Jh 13 12,Ji 14 0] (.blk 0 (.loop (Jr 14 13 15 49 0 1 (Jq [Jm 16 14,JA 17 3 12 14,JL 18 3 17,Jy 6 tD [JS,J0,J0],Jm 5 16,Js 3 6 18] (.seq (.ops [Jf 19 0 6,Jf 20 0 19,Jl 21 20,Jm 22 1,Jm 23 5,JA 24 3 22 23,Jf 25 0 24,Jl 26 25,Jb 27 .neq 21 26,Jm 28 27,Jg 29 28 false (Kh 0 6),Jg 30 28 false (Kh 1 29),Jg 31 28 false (Kl 30),Jg 32 28 false (Km 1),Jg 33 28 false (Km 5),Jg 34 28 false (KA 3 32 33),Jg 35 28 false (Kh 1 34),Jg 36 28 false (Kl 35),Jg 37 28 false (Kb .neq 31 36),Jo 38 28 37,Jm 39 38,Jg 40 39 false (Kh 2 6),Jg 41 39 false (Kl 40),Jg 42 39 false (Km 1),Jg 43 39 false (Km 5),Jg 44 39 false (KA 3 42 43),Jg 45 39 false (Kh 2 44),Jg 46 39 false (Kl 45),Jg 47 39 false (Kb .neq 41 46),Jo 48 39 47] true) (.cond (.t 48) (Jq [Jp 4 (.mv (.c (.bool false)))] .ret) .skip))))))) (Jq [Jp 4 (.mv (.c (.bool true)))] .ret)))⟩
def irPjDiags (spot imps entry sort tU tB tD:Nat):IFn:=⟨68,[.t 2],Jq [Jp 2 (.mv (.c (.sl true 3 [])))] (.seq (Jk [Jm 8 0,Jp 9 (.isNilP false (.t 8))] 9 (Jq [Jp 2 (.mv (.c (.sl true 3 [])))] .ret) .skip) (Jq [Jp 3 (.nilT 3 tD)] (.seq (Jq [Jm 10 0,Jn 11 10,Jf 12 0 11,Jl 13 12,Jh 14 13,Ji 15 0] (.blk 0 (.loop (Jr 15 14 16 57 0 1 (Jq [JA 17 14 13 15,JL 18 14 17,Jy 5 tU [JS,JS,.sl true 4 [],J0,J0,J0,JS,J0,.sl true 6 [],.sl true 4 [],.sl true 4 [],.sl true 2 [],J0,J0],Js 14 5 18] (.seq (Jk [Jf 19 12 5,Jl 20 19,JB 21 .neq 20 0] 21 (Jq [Jm 22 3,Jf 23 0 5,Jl 24 23,Jf 25 13 5,Jl 26 25,Jp 27 (.build [JS,J0] [(0,1,.t 24),(1,1,.t 26)]),Jf 28 12 5,Jl 29 28,Jp 30 (.build [JS,J0,J0] [(0,2,.t 27),(2,1,.t 29)]),Jp 31 (.bslice 3 [.t 30]),Jp 32 (.app 3 32 tD (.t 22) (.t 31)),Jm 3 32] (.exit 1)) .skip) (.seq (Jq [Jf 33 9 5,Jf 34 2 33,Jl 35 34,Jh 36 35,Ji 37 0] (.blk 2 (.loop (Jr 37 36 38 51 2 3 (Jq [JA 39 2 35 37,JL 40 2 39,Jy 7 tB [J0,J0],Js 2 7 40] (.ops [Jm 41 3,JL 42 14 5,Jf 43 0 7,Jl 44 43,Jc 45 spot [.t 42,.t 44],Jf 46 1 7,Jl 47 46,Jp 48 (.build [JS,J0,J0] [(0,2,.t 45),(2,1,.t 47)]),Jp 49 (.bslice 3 [.t 48]),Jp 50 (.app 3 32 tD (.t 41) (.t 49)),Jm 3 50] true)))))) (Jz [Jm 52 3,Jm 53 0,JL 54 14 5,Jc 55 imps [.t 53,.t 54],Jp 56 (.app 3 32 tD (.t 52) (.t 55)),Jm 3 56])))))))) (.seq (Jk [Jm 58 0,Jc 59 entry [.t 58],Jp 60 (.un .not (.t 59))] 60 (Jz [Jm 61 3,Jp 62 (.build [JS,J0] [(0,1,.c (.str [109,97,105,110]))]),Jp 63 (.build [JS,J0,J0] [(0,2,.t 62),(2,1,JI 34)]),Jp 64 (.bslice 3 [.t 63]),Jp 65 (.app 3 32 tD (.t 61) (.t 64)),Jm 3 65]) .skip) (Jq [Jm 66 3,Jc 67 sort [.t 66],Jm 2 67] .ret)))))⟩
def irPjSort (cloneD srtD cmpD:Nat):IFn:=⟨9,[.t 2],Jq [Jp 2 (.mv (.c (.sl true 3 [])))] (Jq [Jm 4 0,Jc 5 cloneD [.t 4],Jm 3 5] (Jq [Jm 6 3,Jc 7 srtD [.t 6,.c (.fn cmpD)]] (Jq [Jm 8 3,Jm 2 8] .ret)))⟩
def irPjRsort (ahead tE:Nat):IFn:=⟨49,[.t 2],Jq [Jp 2 (.mv (.c (.sl true 3 [])))] (Jq [Jp 3 (.nilT 3 tE)] (.seq (Jq [Ji 4 0] (.blk 0 (.loop (.seq (Jk [Jm 7 4,Jm 8 0,Jh 9 8,Jb 10 .lss 7 9] 10 .skip (.exit 0)) (.seq (.blk 1 (Jq [Jm 13 3,Jh 14 13,Jm 5 14] (.seq (.blk 2 (.loop (.seq (.seq (.ops [Jm 15 5,JB 16 .gtr 15 0,Jm 17 16,Jg 18 17 true (Km 0),Jg 19 17 true (Km 4),Jg 20 17 true (KA 3 18 19),Jg 21 17 true (KL 3 20),Jg 22 17 true (Km 3),Jg 23 17 true (Km 5),Jg 24 17 true (KB .sub 23 1),Jg 25 17 true (KA 3 22 24),Jg 26 17 true (KL 3 25),Jg 27 17 true (.call ahead [.t 21,.t 26]),Ja 28 17 27] true) (.cond (.t 28) .skip (.exit 2))) (.blk 3 (Jz [Jm 29 5,JB 30 .sub 29 1,Jm 5 30]))))) (Jq [Jp 6 (.nilT 3 tE)] (Jq [Jm 31 6,Jm 32 3,Jm 33 5,Jp 34 (.slice 3 (.t 32) none (some (.t 33)) none),Jp 35 (.app 3 32 tE (.t 31) (.t 34)),Jm 6 35] (Jq [Jm 36 6,Jm 37 0,Jm 38 4,JA 39 3 37 38,JL 40 3 39,Jp 41 (.bslice 3 [.t 40]),Jp 42 (.app 3 32 tE (.t 36) (.t 41)),Jm 6 42] (Jz [Jm 43 6,Jm 44 3,Jm 45 5,Jp 46 (.slice 3 (.t 44) (some (.t 45)) none none),Jp 47 (.app 3 32 tE (.t 43) (.t 46)),Jm 3 47]))))))) (Jz [Jm 11 4,JB 12 .add 11 1,Jm 4 12])))))) (Jq [Jm 48 3,Jm 2 48] .ret)))⟩
def irPjRead (pof sof tM tU:Nat):IFn:=⟨29,[.cell 2 14 true],Jq [Jp 1 (.box tM 2 (.t 0)),Jy 2 tU [JS,JS,.sl true 4 [],J0,J0,J0,JS,J0,.sl true 6 [],.sl true 4 [],.sl true 4 [],.sl true 2 [],J0,J0]] (Jq [Jf 4 0 1,Jl 5 4,Jf 6 1 1,Jl 7 6,Jp 8 (.build [JS,JS,.sl true 4 [],J0,J0,J0,JS,J0,.sl true 6 [],.sl true 4 [],.sl true 4 [],.sl true 2 [],J0,J0] [(0,1,.t 5),(1,1,.t 7)]),Jy 3 tU [JS,JS,.sl true 4 [],J0,J0,J0,JS,J0,.sl true 6 [],.sl true 4 [],.sl true 4 [],.sl true 2 [],J0,J0],Js 14 3 8] (Jq [Jf 10 1 1,Jl 11 10,Jc 12 pof [.t 11],Jm 9 12,Je 13 9 0,Je 14 9 1,Je 15 9 2,Je 16 9 3,Jf 17 2 3,Js 1 17 13,Jf 18 3 3,Js 6 18 14,Jf 19 12 3,Js 1 19 15,Jf 20 13 3,Js 1 20 16] (.seq (Jk [Jf 21 12 3,Jl 22 21,JB 23 .eql 22 0] 23 (Jz [Jf 24 3 3,JL 25 6 24,Jc 26 sof [.t 25],Jf 27 9 3,Js 3 27 26]) .skip) (Jq [JL 28 14 3,Js 14 2 28] .ret))))⟩
def irPjOf (cloneU srtU isName cmpU tP tU:Nat):IFn:=⟨53,[.t 2,.t 3],Jq [Jp 2 (.mv (.c .nilp)),Ji 3 0] (.seq (Jk [Jm 7 0,Jh 8 7,JB 9 .gtr 8 8] 9 (Jq [Jp 2 (.mv (.c .nilp)),Ji 3 5] .ret) .skip) (Jq [Jm 10 0,Jc 11 cloneU [.t 10],Jp 12 (.build [.sl true 14 []] [(0,1,.t 11)]),Jp 13 (.box tP 1 (.t 12)),Jm 4 13] (Jq [Jm 14 4,Jn 15 14,Jf 16 0 15,Jl 17 16,Jc 18 srtU [.t 17,.c (.fn cmpU)]] (.seq (Jq [Jm 19 4,Jn 20 19,Jf 21 0 20,Jl 22 21,Jh 23 22,Ji 24 0] (.blk 0 (.loop (Jr 24 23 25 51 0 1 (Jq [Jm 26 24,JA 27 14 22 24,JL 28 14 27,Jy 6 tU [JS,JS,.sl true 4 [],J0,J0,J0,JS,J0,.sl true 6 [],.sl true 4 [],.sl true 4 [],.sl true 2 [],J0,J0],Jm 5 26,Js 14 6 28] (.blk 2 (Jk [Jf 30 0 6,Jl 31 30,Jc 32 isName [.t 31],Jp 33 (.un .not (.t 32)),Jm 29 33] 29 (Jq [Jp 2 (.mv (.c .nilp)),Ji 3 1] .ret) (.seq (.ops [Jm 35 5,JB 36 .gtr 35 0,Jm 37 36,Jg 38 37 true (Km 4),Jg 39 37 true (.nilCheck (.t 38)),Jg 40 37 true (Kh 0 39),Jg 41 37 true (Kl 40),Jg 42 37 true (Km 5),Jg 43 37 true (KB .sub 42 1),Jg 44 37 true (KA 14 41 43),Jg 45 37 true (Kh 0 44),Jg 46 37 true (Kl 45),Jg 47 37 true (Kh 0 6),Jg 48 37 true (Kl 47),Jg 49 37 true (Kb .eql 46 48),Ja 50 37 49,Jm 34 50] true) (.cond (.t 34) (Jq [Jp 2 (.mv (.c .nilp)),Ji 3 4] .ret) .skip))))))))) (Jq [Jm 52 4,Jm 2 52,Ji 3 0] .ret)))))⟩
def irPjNames (tU tS:Nat):IFn:=⟨24,[.t 2],Jq [Jp 2 (.mv (.c (.sl true 1 [])))] (.seq (Jk [Jm 6 0,Jp 7 (.isNilP false (.t 6))] 7 (Jq [Jp 2 (.mv (.c (.sl true 1 [])))] .ret) .skip) (Jq [Jp 3 (.nilT 1 tS)] (.seq (Jq [Jm 8 0,Jn 9 8,Jf 10 0 9,Jl 11 10,Jh 12 11,Ji 13 0] (.blk 0 (.loop (Jr 13 12 14 22 0 1 (Jq [JA 15 14 11 13,JL 16 14 15,Jy 5 tU [JS,JS,.sl true 4 [],J0,J0,J0,JS,J0,.sl true 6 [],.sl true 4 [],.sl true 4 [],.sl true 2 [],J0,J0],Js 14 5 16] (Jz [Jm 17 3,Jf 18 0 5,Jl 19 18,Jp 20 (.bslice 1 [.t 19]),Jp 21 (.app 1 16 tS (.t 17) (.t 20)),Jm 3 21])))))) (Jq [Jm 23 3,Jm 2 23] .ret))))⟩
def irPjMods (tU tM:Nat):IFn:=⟨27,[.t 2],Jq [Jp 2 (.mv (.c (.sl true 2 [])))] (.seq (Jk [Jm 6 0,Jp 7 (.isNilP false (.t 6))] 7 (Jq [Jp 2 (.mv (.c (.sl true 2 [])))] .ret) .skip) (Jq [Jp 3 (.nilT 2 tM)] (.seq (Jq [Jm 8 0,Jn 9 8,Jf 10 0 9,Jl 11 10,Jh 12 11,Ji 13 0] (.blk 0 (.loop (Jr 13 12 14 25 0 1 (Jq [JA 15 14 11 13,JL 16 14 15,Jy 5 tU [JS,JS,.sl true 4 [],J0,J0,J0,JS,J0,.sl true 6 [],.sl true 4 [],.sl true 4 [],.sl true 2 [],J0,J0],Js 14 5 16] (Jz [Jm 17 3,Jf 18 0 5,Jl 19 18,Jf 20 1 5,Jl 21 20,Jp 22 (.build [JS,JS] [(0,1,.t 19),(1,1,.t 21)]),Jp 23 (.bslice 2 [.t 22]),Jp 24 (.app 2 32 tM (.t 17) (.t 23)),Jm 3 24])))))) (Jq [Jm 26 3,Jm 2 26] .ret))))⟩
def irPjBins :IFn:=⟨49,[.t 6,.t 7],Jq [Ji 6 0,Jp 7 (.mv (.c (.bool false)))] (Jq [Jm 12 0,Jh 13 12,Jm 8 13] (Jq [Jm 14 8,Ji 9 0,Jm 10 14] (.seq (.blk 0 (.loop (.seq (Jk [Jm 15 9,Jm 16 10,Jb 17 .lss 15 16] 17 .skip (.exit 0)) (.blk 1 (Jq [Jm 18 9,Jm 19 10,Jb 20 .add 18 19,Jp 21 (.cvt .u64 (.t 20)),Jp 22 (.bin .shr (.t 21) (.c (.int .u64 1))),Jp 23 (.cvt .i64 (.t 22)),Jm 11 23] (Jk [Jm 24 2,Jm 25 0,Jm 26 11,JA 27 14 25 26,JL 28 14 27,Jm 29 1,Jp 30 (.callv (.t 24) [.t 28,.t 29]),JB 31 .lss 30 0] 31 (Jz [Jm 32 11,JB 33 .add 32 1,Jm 9 33]) (Jz [Jm 34 11,Jm 10 34]))))))) (Jq [Jm 35 9,Jm 36 9,Jm 37 8,Jb 38 .lss 36 37,Jm 39 38,Jg 40 39 true (Km 2),Jg 41 39 true (Km 0),Jg 42 39 true (Km 9),Jg 43 39 true (KA 14 41 42),Jg 44 39 true (KL 14 43),Jg 45 39 true (Km 1),Jg 46 39 true (.callv (.t 40) [.t 44,.t 45]),Jg 47 39 true (KB .eql 46 0),Ja 48 39 47,Jm 6 35,Jm 7 48] .ret))))⟩
def irPjCmpUS (cmpS tU:Nat):IFn:=⟨9,[.t 4],Jq [Jp 2 (.box tU 14 (.t 0)),Ji 4 0] (Jq [Jf 5 0 2,Jl 6 5,Jm 7 1,Jc 8 cmpS [.t 6,.t 7],Jm 4 8] .ret)⟩
def irPjSpot (tU tSp:Nat):IFn:=⟨26,[.cell 4 2 true],Jq [Jp 2 (.box tU 14 (.t 0)),Jy 4 tSp [JS,J0]] (Jq [Jf 6 0 2,Jl 7 6,Jp 8 (.build [JS,J0] [(0,1,.t 7)]),Jy 5 tSp [JS,J0],Js 2 5 8] (.seq (Jk [Jm 9 1,JB 10 .geq 9 0,Jm 11 10,Jg 12 11 true (Km 1),Jg 13 11 true (Kh 2 2),Jg 14 11 true (Kl 13),Jg 15 11 true (.lenL (.t 14)),Jg 16 11 true (Kb .lss 12 15),Ja 17 11 16] 17 (Jz [Jf 18 2 2,Jl 19 18,Jm 20 1,JA 21 4 19 20,Jf 22 1 21,Jl 23 22,Jf 24 1 5,Js 1 24 23]) .skip) (Jq [JL 25 2 5,Js 2 4 25] .ret)))⟩
def irPjImps (imp unit spot tU tBd tN tIm tD:Nat):IFn:=⟨76,[.t 4],Jq [Jp 3 (.box tU 14 (.t 1)),Jp 4 (.mv (.c (.sl true 3 [])))] (Jq [Jp 5 (.nilT 3 tD)] (.seq (Jq [Jf 12 9 3,Jf 13 0 12,Jl 14 13,Jh 15 14,Ji 16 0] (.blk 0 (.loop (Jr 16 15 17 74 0 1 (Jq [JA 18 4 14 16,JL 19 4 18,Jy 7 tBd [J0,J0,JS,J0],Js 4 7 19] (.seq (Jk [Jf 20 1 7,Jl 21 20,JB 22 .neq 21 1] 22 (.exit 1) .skip) (Jq [Jf 23 3 3,Jf 24 5 23,Jl 25 24,Jf 26 3 7,Jl 27 26,JA 28 6 25 27,Jf 29 5 28,Jl 30 29,Jp 31 (.iaddr 6 (.t 30) (JI 0)),JL 32 6 31,Jy 8 tN JN,Js 6 8 32] (Jq [Jm 33 0,JL 34 14 3,JL 35 4 7,Jc 36 imp [.t 33,.t 34,.t 35],Jy 9 tIm [JS,J0],Js 2 9 36] (Jq [Jm 38 0,Jf 39 0 9,Jl 40 39,Jc 41 unit [.t 38,.t 40],Jm 37 41,Je 42 37 0,Je 43 37 1,Jy 10 tU [JS,JS,.sl true 4 [],J0,J0,J0,JS,J0,.sl true 6 [],.sl true 4 [],.sl true 4 [],.sl true 2 [],J0,J0],Js 14 10 42,Jm 11 43] (.blk 2 (Jk [Jm 45 11,Jp 46 (.un .not (.t 45)),Jm 47 46,Jg 48 47 false (Kh 0 9),Jg 49 47 false (Kl 48),Jg 50 47 false (Kh 0 3),Jg 51 47 false (Kl 50),Jg 52 47 false (Kb .eql 49 51),Jo 53 47 52,Jm 44 53] 44 (Jz [Jm 54 5,JL 55 14 3,Jf 56 4 8,Jl 57 56,Jc 58 spot [.t 55,.t 57],Jp 59 (.build [JS,J0,J0] [(0,2,.t 58),(2,1,JI 32)]),Jp 60 (.bslice 3 [.t 59]),Jp 61 (.app 3 32 tD (.t 54) (.t 60)),Jm 5 61]) (Jk [Jf 63 1 9,Jl 64 63,JB 65 .lss 64 0,Jm 62 65] 62 (Jz [Jm 66 5,JL 67 14 3,Jf 68 0 7,Jl 69 68,Jc 70 spot [.t 67,.t 69],Jp 71 (.build [JS,J0,J0] [(0,2,.t 70),(2,1,JI 33)]),Jp 72 (.bslice 3 [.t 71]),Jp 73 (.app 3 32 tD (.t 66) (.t 72)),Jm 5 73]) .skip)))))))))))) (Jq [Jm 75 5,Jm 4 75] .ret)))⟩
def irPjEntry (unit item tU tN:Nat):IFn:=⟨39,[.t 2],Jq [Jp 2 (.mv (.c (.bool false)))] (Jq [Jm 8 0,Jc 9 unit [.t 8,.c (.str [109,97,105,110])],Jm 7 9,Je 10 7 0,Je 11 7 1,Jy 3 tU [JS,JS,.sl true 4 [],J0,J0,J0,JS,J0,.sl true 6 [],.sl true 4 [],.sl true 4 [],.sl true 2 [],J0,J0],Js 14 3 10,Jm 4 11] (Jq [JL 12 14 3,Jc 13 item [.t 12,.c (.str [109,97,105,110])],Jm 5 13] (.seq (Jk [Jm 14 4,Jp 15 (.un .not (.t 14)),Jm 16 15,Jg 17 16 false (Km 5),Jg 18 16 false (KB .lss 17 0),Jo 19 16 18] 19 (Jq [Jp 2 (.mv (.c (.bool false)))] .ret) .skip) (.seq (.ops [Jf 20 3 3,Jf 21 5 20,Jl 22 21,Jf 23 9 3,Jf 24 0 23,Jl 25 24,Jm 26 5,JA 27 4 25 26,Jf 28 3 27,Jl 29 28,JA 30 6 22 29,Jf 31 5 30,Jl 32 31,Jp 33 (.iaddr 6 (.t 32) (JI 0)),JL 34 6 33,Jy 6 tN JN,Js 6 6 34] true) (Jq [Jf 35 5 6,Jl 36 35,Jh 37 36,JB 38 .eql 37 0,Jm 2 38] .ret)))))⟩
def irPjCmpD (cmpS cmpI cmpE or_ tD:Nat):IFn:=⟨26,[.t 4],Jq [Jp 2 (.box tD 3 (.t 0)),Jp 3 (.box tD 3 (.t 1)),Ji 4 0] (.seq (.ops [Jf 5 0 2,Jf 6 0 5,Jl 7 6,Jf 8 0 3,Jf 9 0 8,Jl 10 9,Jc 11 cmpS [.t 7,.t 10],Jf 12 0 2,Jf 13 1 12,Jl 14 13,Jf 15 0 3,Jf 16 1 15,Jl 17 16,Jc 18 cmpI [.t 14,.t 17],Jf 19 2 2,Jl 20 19,Jf 21 2 3,Jl 22 21,Jc 23 cmpE [.t 20,.t 22],Jp 24 (.bslice 1 [.t 11,.t 18,.t 23]),Jc 25 or_ [.t 24],Jm 4 25] true) .ret)⟩
def irPjAhead (tE:Nat):IFn:=⟨30,[.t 4],Jq [Jp 2 (.box tE 3 (.t 0)),Jp 3 (.box tE 3 (.t 1)),Jp 4 (.mv (.c (.bool false)))] (.seq (Jk [Jf 5 0 2,Jl 6 5,Jf 7 0 3,Jl 8 7,Jb 9 .neq 6 8] 9 (Jq [Jf 10 0 2,Jl 11 10,Jf 12 0 3,Jl 13 12,Jb 14 .lss 11 13,Jm 4 14] .ret) .skip) (.seq (Jk [Jf 15 1 2,Jl 16 15,Jf 17 1 3,Jl 18 17,Jb 19 .neq 16 18] 19 (Jq [Jf 20 1 2,Jl 21 20,Jf 22 1 3,Jl 23 22,Jb 24 .lss 21 23,Jm 4 24] .ret) .skip) (Jq [Jf 25 2 2,Jl 26 25,Jf 27 2 3,Jl 28 27,Jb 29 .lss 26 28,Jm 4 29] .ret)))⟩
def irPjCmpU (cmpS tU:Nat):IFn:=⟨10,[.t 4],Jq [Jp 2 (.box tU 14 (.t 0)),Jp 3 (.box tU 14 (.t 1)),Ji 4 0] (Jq [Jf 5 0 2,Jl 6 5,Jf 7 0 3,Jl 8 7,Jc 9 cmpS [.t 6,.t 8],Jm 4 9] .ret)⟩
theorem HR.vecArr {κ:K} {H:Hp} {w:World} (hr:HR κ H w) {i k sz e:Nat} {rows:List (List D)} (hi:H[i]?=some (.vec sz e k rows)) (hne:rows ≠ []) :
 ∃ κs,κ.le κs∧HR κs (H.set i .dead++[.arr sz (rows.map (List.map .d))]) w∧(∀ v,VR κ v (.vsl i k rows.length)→VR κs v (.msl H.length 0 rows.length))∧∀ m,m ≠ i→m ≠ H.length → κs.β m = κ.β m:=by
 have hil:i < H.length:=(List.getElem?_eq_some_iff.1 hi).1
 rcases hr.ob i _ hi with ⟨-,-,h0⟩ | ⟨b,c,cur,hβ,-,hheap,hle0,hsz,hcells⟩
 · exact absurd h0 hne
 have hpos:0 < rows.length:=List.length_pos_iff.2 hne
 have hbx:=hr.ex i b (by rw [hβ]; rfl)
 have hn : κ.β H.length = .none:=hr.dom _ (Nat.le_refl _)
 let κs:K := { κ with β:=upd (upd κ.β i .deadT) H.length (.arr b sz (some (e,cur.size))) }
 have hsβ:∀ m,m ≠ i→m ≠ H.length → κs.β m = κ.β m:=fun m h1 h2=>by
  show upd (upd κ.β i _) H.length _ m=_
  rw [upd_ne _ _ h2,upd_ne _ _ h1]
 have hsi : κs.β i = .deadT:=by
  show upd (upd κ.β i _) H.length _ i=_
  rw [upd_ne _ _ (by omega),upd_same]
 have hsn : κs.β H.length = .arr b sz (some (e,cur.size)):=upd_same _ _ _
 have hks : κ.le κs:=⟨rfl,fun _ _ _ h=>h,fun m=>by
  by_cases h1:m=i
  · subst h1; rw [hsi,hβ]; exact .inr (.inl rfl)
  · by_cases h2:m=H.length
    · subst h2; rw [hn]; trivial
    · rw [hsβ m h1 h2]; exact Bind.le_refl _⟩
 have hblk:∀ m b',(κs.β m).block=some b'→(m=H.length∧b'=b)∨(m ≠ H.length∧m ≠ i∧(κ.β m).block=some b'):=fun m b' hm=>by
  by_cases h2:m=H.length
  · subst h2; rw [hsn] at hm; cases hm; exact .inl ⟨rfl,rfl⟩
  · by_cases h1:m=i
    · subst h1; rw [hsi] at hm; cases hm
    · rw [hsβ m h1 h2] at hm; exact .inr ⟨h2,h1,hm⟩
 refine ⟨κs,hks,⟨hr.below,hr.st,fun m x hx => ?_,fun m hm => ?_,fun m b' hb' => ?_,fun m b' o ho => ?_,fun m q b' h1 h2 => ?_,fun m x hx => ?_⟩,fun v hv => ?_,hsβ⟩
 · by_cases h2:m=H.length
   · subst h2
     rw [show H.length=(H.set i Ob.dead).length by simp,getElem?_app0] at hx
     cases hx
     refine ⟨b,_,hsn,fun ty n he=>by cases he; exact ⟨cur,hheap,rfl⟩,fun q r hq => ?_⟩
     simp only [List.getElem?_map,Option.map_eq_some_iff] at hq
     obtain ⟨r0,hr0,rfl⟩:=hq
     refine ⟨by simpa using (hcells q r0 hr0).1,fun y a ha => ?_⟩
     simp only [List.getElem?_map,Option.map_eq_some_iff] at ha
     obtain ⟨x0,hx0,rfl⟩:=ha
     obtain ⟨u,u1,u2⟩:=(hcells q r0 hr0).2 y x0 hx0
     exact ⟨u,by rw [cell_cells hheap]; exact u1,by simp [World.frozen?,hheap],.d u2⟩
   · have hm:m < (H.set i Ob.dead).length:=by
      have:=(List.getElem?_eq_some_iff.1 hx).1
      simp at this ⊢; omega
     rw [List.getElem?_append_left hm] at hx
     by_cases h1:i=m
     · subst h1
       rw [List.getElem?_set_self hil] at hx
       cases hx; trivial
     · rw [List.getElem?_set_ne h1] at hx
       exact (hr.ob m x hx).mono hks (hsβ m (Ne.symm h1) h2) fun _ _=>rfl
 · have:H.length+1≤m:=by simpa using hm
   rw [hsβ m (by omega) (by omega)]; exact hr.dom m (by omega)
 · rcases hblk m b' hb' with ⟨-,rfl⟩ | ⟨-,-,h3⟩
   · exact hbx
   · exact hr.ex m b' h3
 · rcases hblk m b' (Bind.block_of_owns ho) with ⟨rfl,rfl⟩ | ⟨h1,h2,h3⟩
   · exact hr.exσ i b' o (by rw [hβ]; rfl)
   · rw [hsβ m h2 h1] at ho; exact hr.exσ m b' o ho
 · rcases hblk m b' h1 with ⟨rfl,rfl⟩ | ⟨a1,a2,a3⟩
   · rcases hblk q b' h2 with ⟨rfl,-⟩ | ⟨c1,c2,c3⟩
     · rfl
     · exact absurd (hr.exd q i b' c3 (by rw [hβ]; rfl)) c2
   · rcases hblk q b' h2 with ⟨rfl,rfl⟩ | ⟨c1,c2,c3⟩
     · exact absurd (hr.exd m i b' a3 (by rw [hβ]; rfl)) a2
     · exact hr.exd m q b' a3 c3
 · by_cases h2:m=H.length
   · subst h2
     rw [show H.length=(H.set i Ob.dead).length by simp,getElem?_app0] at hx
     cases hx
     simp [Ob.flat,A.flat]
   · have hm:m < (H.set i Ob.dead).length:=by
      have:=(List.getElem?_eq_some_iff.1 hx).1
      simp at this ⊢; omega
     rw [List.getElem?_append_left hm] at hx
     by_cases h1:i=m
     · subst h1
       rw [List.getElem?_set_self hil] at hx
       cases hx; rfl
     · rw [List.getElem?_set_ne h1] at hx
       exact hr.fl m x hx
 · cases hv with
   | vsl _ _ _ ad cap hlc hf =>
   rw [hβ] at hf
   have:=(hf.2 rfl).2
   cases this
   exact .msl _ _ _ b sz 0 c (.inl ⟨_,hsn⟩) hlc (fun _=>by simp) (fun h0=>by omega)
theorem HR.recell {κ:K} {H:Hp} {w:World} (h:HR κ H w) {j:Nat} {ty:TypeId} {cs cs':List A} (hj:H[j]?=some (.box ty cs)) (hl:cs'.length=cs.length) (hfl:cs'.all A.flat=true)
 (hv:∀ (b q:Nat) (a':A) (v:Value),κ.β j = .blk b→cs'[q]?=some a'→w.cell? ⟨b,q,none⟩=some v→VR κ v a'):HR κ (H.set j (.box ty cs')) w:=by
 have hjl:j < H.length:=(List.getElem?_eq_some_iff.1 hj).1
 refine ⟨h.below,h.st,fun m x hx => ?_,fun m hm=>h.dom m (by simpa using hm),h.ex,h.exσ,h.exd,fun m x hx => ?_⟩
 · by_cases hm:j=m
   · subst hm
     rw [List.getElem?_set_self hjl] at hx
     cases hx
     obtain ⟨b,h1,h2,h3⟩:=h.ob j _ hj
     refine ⟨b,h1,by rw [h2,hl],fun q a ha => ?_⟩
     have hq:q < cs.length:=by rw [← hl]; exact (List.getElem?_eq_some_iff.1 ha).1
     obtain ⟨v,v1,v2,-⟩:=h3 q cs[q] (List.getElem?_eq_getElem hq)
     exact ⟨v,v1,v2,hv b q a v h1 ha v1⟩
   · rw [List.getElem?_set_ne hm] at hx
     exact h.ob m x hx
 · by_cases hm:j=m
   · subst hm
     rw [List.getElem?_set_self hjl] at hx
     cases hx; exact hfl
   · rw [List.getElem?_set_ne hm] at hx
     exact h.fl m x hx
theorem ACall.vecArr {P:Program} {f:FuncId} {H:Hp} {i j q k sz e:Nat} {rows:List (List D)} {ty:TypeId} {cs args:List A} {Q:A→Hp→Prop} (hi:H[i]?=some (.vec sz e k rows)) (hne:rows ≠ []) (hj:H[j]?=some (.box ty cs)) (hq:cs[q]?=some (.vsl i k rows.length))
 (h:ACall P f (.msl H.length 0 rows.length :: args) ((H.set i .dead).set j (.box ty (cs.set q (.msl H.length 0 rows.length)))++[.arr sz (rows.map (List.map .d))]) Q):ACall P f (.vsl i k rows.length :: args) H Q:=by
 intro κ w vs hr hl hv
 have hij:i ≠ j:=fun e=>by subst e; rw [hi] at hj; cases hj
 have hjl:j < H.length:=(List.getElem?_eq_some_iff.1 hj).1
 obtain ⟨κs,h1,h2,h3,h4⟩:=hr.vecArr hi hne
 have hj2:(H.set i .dead++[.arr sz (rows.map (List.map .d))])[j]?=some (.box ty cs):=by
  rw [List.getElem?_append_left (by simpa using hjl),List.getElem?_set_ne hij]; exact hj
 have hr2:=h2.recell (cs':=cs.set q (.msl H.length 0 rows.length)) hj2 (by simp) (by
  have:=hr.fl j _ hj
  simp only [Ob.flat,List.all_eq_true] at this ⊢
  intro x hx
  rcases List.mem_or_eq_of_mem_set hx with h5 | h5
  · exact this x h5
  · subst h5; rfl) (fun b p a' v hb ha hc=>by
  obtain ⟨b',b1,-,b2⟩:=hr.ob j _ hj
  have hbb:b'=b:=by
   have:=h4 j (Ne.symm hij) (by omega)
   rw [this,b1] at hb
   cases hb; rfl
  subst hbb
  by_cases hpq:q=p
  · subst hpq
    rw [List.getElem?_set_self (List.getElem?_eq_some_iff.1 hq).1] at ha
    cases ha
    obtain ⟨u,u1,-,u2⟩:=b2 q _ hq
    rw [hc] at u1; cases u1
    exact h3 v u2
  · rw [List.getElem?_set_ne hpq] at ha
    obtain ⟨u,u1,-,u2⟩:=b2 p _ ha
    rw [hc] at u1; cases u1
    exact u2.mono h1)
 rw [List.set_append_left _ _ (by simpa using hjl)] at hr2
 refine (h κs w vs hr2 (by simpa using hl) fun m v a hm ha => ?_).mono ?_
 · cases m with
   | zero=>simp at ha; subst ha; exact h3 v (hv 0 v _ hm rfl)
   | succ m=>exact (hv (m+1) v a hm (by simpa using ha)).mono h1
 · rintro ev w' ⟨v,κ',x,H',e1,e2,e3,e4,e5⟩
   exact ⟨v,κ',x,H',e1,h1.trans e2,e3,e4,e5⟩
theorem HR.vecNil {κ:K} {H:Hp} {w:World} (hr:HR κ H w) {i sz e:Nat} (hi:H[i]?=some (.vec sz e 0 [])) {v:Value} (hv:VR κ v (.vsl i 0 0)):VR κ v (.d (.sl true sz [])):=by
 rcases hr.ob i _ hi with ⟨hβ,-,-⟩ | ⟨b,c,cur,hβ,hk,-⟩
 · cases hv with
   | vsl _ _ _ ad cap hlc hf =>
   rw [hβ] at hf
   obtain ⟨-,-,hf⟩:=hf
   rw [hf]
   exact .d (.nilsl sz)
 · exact absurd rfl (hk rfl)
theorem ACall.vecNil {P:Program} {f:FuncId} {H:Hp} {i sz e:Nat} {args:List A} {Q:A→Hp→Prop} (hi:H[i]?=some (.vec sz e 0 [])) (h:ACall P f (.d (.sl true sz []) :: args) H Q):ACall P f (.vsl i 0 0 :: args) H Q:=by
 intro κ w vs hr hl hv
 refine h κ w vs hr (by simpa using hl) fun m v a hm ha => ?_
 cases m with
 | zero=>simp at ha; subst ha; exact hr.vecNil hi (hv 0 v _ hm rfl)
 | succ m=>exact hv (m+1) v a hm (by simpa using ha)
theorem nrm_osl {sz t:Nat} {rows:List (List D)}:Nrm (.osl true sz rows t) (.d (.sl rows.isEmpty sz rows)):=fun κ v h=>by
 cases h with
 | osl hd ht=>exact .d (hd.isE fun _=>rfl)
theorem vr3 {κ:K} {v:Value} {x y z:A} (h:VR κ v (.agg [x,y,z])):∃ a b c,v = .agg #[a,b,c]∧VR κ a x∧VR κ b y∧VR κ c z:=by
 cases h with
 | agg vs _ hl h =>
   match vs,hl with
   | [a,b,c],_=>exact ⟨a,b,c,rfl,h 0 a x rfl rfl,h 1 b y rfl rfl,h 2 c z rfl rfl⟩
theorem vr3_of {κ:K} {a b c:Value} {x y z:A} (h1:VR κ a x) (h2:VR κ b y) (h3:VR κ c z):VR κ (.agg #[a,b,c]) (.agg [x,y,z]):=by
 refine .agg [a,b,c] _ rfl fun i v u hv hu => ?_
 match i with
 | 0=>simp at hv hu; subst hv; subst hu; exact h1
 | 1=>simp at hv hu; subst hv; subst hu; exact h2
 | 2=>simp at hv hu; subst hv; subst hu; exact h3
 | i+3=>simp at hv
theorem ACall.freeze3 {P:Program} {f:FuncId} {args:List A} {H:Hp} {k sz:Nat} {rows:List (List D)} {x y:A} {x' y':D} (hx:Nrm x (.d x')) (hy:Nrm y (.d y'))
 (h:ACall P f args H (fun r H'=>∃ X:Hp,X[k]?=some (.arr sz (rows.map (List.map .d)))∧r = .agg [x,y,.msl (H.length+k) 0 rows.length]∧H'=H++X)):ACall P f args H (fun r H'=>r = .agg [.d x',.d y',.d (.sl false sz rows)]∧H'=H):=by
 intro κ w vs hr hl hv
 refine (h κ w vs hr hl hv).mono ?_
 rintro e w' ⟨v,κ',r,H',h1,h2,h3,h4,X,hX,rfl,rfl⟩
 obtain ⟨a,b,c,rfl,a1,a2,a3⟩:=vr3 h4
 obtain ⟨κ2,k1,k2,k3⟩:=h3.freezeArr (i:=H.length+k) (sz:=sz) (rows:=rows) (by rw [getElem?_appk]; exact hX) a3
 rw [set_appk] at k2
 exact ⟨_,κ2.cut H.length,.agg [.d x',.d y',.d (.sl false sz rows)],Hp.cut H.length (H++X.set k .dead),h1,K.le_cut (h2.trans k1) hr.dom,k2.cut _ (by simp),VR.clr H.length (vr3_of ((hx _ _ a1).mono k1) ((hy _ _ a2).mono k1) k3),rfl,cut_app hr.closed _⟩
theorem ACall.freeze3n {P:Program} {f:FuncId} {args:List A} {H:Hp} {k sz e:Nat} {x y:A} {x' y':D} (hx:Nrm x (.d x')) (hy:Nrm y (.d y'))
 (h:ACall P f args H (fun r H'=>∃ X:Hp,X[k]?=some (.vec sz e 0 [])∧r = .agg [x,y,.vsl (H.length+k) 0 0]∧H'=H++X)):ACall P f args H (fun r H'=>r = .agg [.d x',.d y',.d (.sl true sz [])]∧H'=H):=by
 intro κ w vs hr hl hv
 refine (h κ w vs hr hl hv).mono ?_
 rintro ev w' ⟨v,κ',r,H',h1,h2,h3,h4,X,hX,rfl,rfl⟩
 obtain ⟨a,b,c,rfl,a1,a2,a3⟩:=vr3 h4
 have k3:=h3.vecNil (i:=H.length+k) (by rw [getElem?_appk]; exact hX) a3
 exact ⟨_,κ'.cut H.length,.agg [.d x',.d y',.d (.sl true sz [])],Hp.cut H.length (H++X),h1,K.le_cut h2 hr.dom,h3.cut _ (by simp),VR.clr H.length (vr3_of (hx _ _ a1) (hy _ _ a2) k3),rfl,cut_app hr.closed _⟩

theorem HR.reval {κ:K} {H:Hp} {w:World} (h:HR κ H w) {i ty:Nat} {cs cs':List A} (hi:H[i]?=some (.box ty cs)) (hl:cs'.length=cs.length) (hfl:cs'.all A.flat=true)
 (hc:∀ b,κ.β i = .blk b→∀ (j:Nat) (a a':A) (v:Value),cs[j]?=some a→cs'[j]?=some a'→w.cell? ⟨b,j,none⟩=some v→VR κ v a→VR κ v a'):HR κ (H.set i (.box ty cs')) w:=by
 have hil:i < H.length:=(List.getElem?_eq_some_iff.1 hi).1
 refine ⟨h.below,h.st,fun m x hm => ?_,fun m hm=>h.dom m (by simpa using hm),h.ex,h.exσ,h.exd,fun m x hm => ?_⟩
 · by_cases hmi:i=m
   · subst hmi
     rw [List.getElem?_set_self hil] at hm
     cases hm
     obtain ⟨b,b1,b2,b3⟩:=h.ob i _ hi
     refine ⟨b,b1,by rw [hl]; exact b2,fun j a' ha' => ?_⟩
     have hj:j < cs.length:=by rw [← hl]; exact (List.getElem?_eq_some_iff.1 ha').1
     obtain ⟨v,v1,v2,v3⟩:=b3 j cs[j] (List.getElem?_eq_getElem hj)
     exact ⟨v,v1,v2,hc b b1 j _ a' v (List.getElem?_eq_getElem hj) ha' v1 v3⟩
   · rw [List.getElem?_set_ne hmi] at hm
     exact h.ob m x hm
 · by_cases hmi:i=m
   · subst hmi
     rw [List.getElem?_set_self hil] at hm
     cases hm; exact hfl
   · rw [List.getElem?_set_ne hmi] at hm
     exact h.fl m x hm
theorem HR.boxSl {κ:K} {H:Hp} {w:World} (h:HR κ H w) {i b sz ty:Nat} {rows:List (List D)} (hi:H[i]?=some (.arr sz (rows.map (List.map .d)))) (hb:H[b]?=some (.box ty [.msl i 0 rows.length])) :
 ∃ κ',κ.le κ'∧HR κ' ((H.set i .dead).set b (.box ty [.d (.sl false sz rows)])) w:=by
 obtain ⟨bb,b1,b2,b3⟩:=h.ob b _ hb
 obtain ⟨v,v1,v2,v3⟩:=b3 0 _ rfl
 obtain ⟨κ',k1,k2,k3⟩:=h.freezeArr hi v3
 have hne:i ≠ b:=fun e=>by subst e; rw [hi] at hb; cases hb
 have hb':(H.set i .dead)[b]?=some (.box ty [.msl i 0 rows.length]):=by rw [List.getElem?_set_ne hne]; exact hb
 refine ⟨κ',k1,k2.reval hb' rfl rfl fun b' hb2 j a a' u ha ha' hu hv => ?_⟩
 have hle:=k1.β b
 rw [b1,hb2] at hle
 have hbb:b'=bb:=by
  simp only [Bind.le] at hle
  rcases hle with hle | hle<;>first | rfl | (cases hle; done) | (cases hle; rfl)
 subst hbb
 cases j with
 | zero =>
   rw [v1] at hu; cases hu
   cases ha'; exact k3
 | succ j=>cases ha'
theorem HR.frzBox {κ:K} {H1 X:Hp} {w:World} (q3:HR κ (H1++X) w) (hcl:H1.Closed) {j ty:Nat} {cs:List D} (hj:X[j]?=some (.box ty (cs.map .d))) :
 ∃ κ2,(∀ κ0:K,κ0.le κ→(∀ m,H1.length≤m → κ0.β m = .none) → κ0.le κ2)∧HR κ2 H1 w∧(∀ v,VR κ v (.ptr (H1.length+j) 0)→VR κ2 v (.eptr cs))∧∀ v x,VR κ v (.d x)→VR κ2 v (.d x):=by
 have a1:(H1++X)[H1.length+j]?=some (.box ty (cs.map .d)):=by rw [getElem?_appk]; exact hj
 obtain ⟨b,b1,b2,b3⟩:=q3.ob _ _ a1
 have hcut:=q3.cut H1.length (by simp)
 rw [cut_app hcl _] at hcut
 have hσ:∀ o,κ.σ b o=none:=fun o=>q3.exσ (H1.length+j) b o (by rw [b1]; rfl)
 let κ2:K := { κ.cut H1.length with σ:=frzSt κ.σ b w cs.length }
 have hle2:(κ.cut H1.length).le κ2:=⟨rfl,fun b2 o2 u hu=>by
  show frzSt κ.σ b w _ b2 o2=some u
  have hu' : κ.σ b2 o2=some u:=hu
  by_cases hbb:b2=b
  · subst hbb; rw [hσ] at hu'; cases hu'
  · simp only [frzSt,hbb,if_false]; exact hu',fun j=>Bind.le_refl _⟩
 have hcne:∀ m,((κ.cut H1.length).β m).block ≠ some b:=fun m hm=>by
  by_cases hlt:m < H1.length
  · have e1:(κ.cut H1.length).β m = κ.β m:=if_pos hlt
    rw [e1] at hm
    have:=q3.exd m (H1.length+j) b hm (by rw [b1]; rfl)
    omega
  · have e1:(κ.cut H1.length).β m = .none:=if_neg hlt
    rw [e1] at hm; cases hm
 have hcell:∀ (q:Nat) (x:D),cs[q]?=some x→∃ v,w.cell? ⟨b,q,none⟩=some v∧VR κ v (.d x):=fun q x hq=>by
  obtain ⟨v,v1,-,v3⟩:=b3 q (.d x) (by rw [List.getElem?_map,hq]; rfl)
  exact ⟨v,v1,v3⟩
 refine ⟨κ2,fun κ0 h0 hn=>(?_ : κ0.le (κ.cut H1.length)).trans hle2,⟨hcut.below,fun b2 o2 u hu => ?_,fun m x hx=>(hcut.ob m x hx).mono hle2 rfl fun _ _=>rfl,hcut.dom,hcut.ex,fun m b' o ho => ?_,hcut.exd,hcut.fl⟩,fun v hv => ?_,fun v x hv => ?_⟩
 · exact K.le_cut h0 hn
 · have hu':frzSt κ.σ b w cs.length b2 o2=some u:=hu
   simp only [frzSt] at hu'
   split at hu'
   · rename_i e; subst e
     split at hu'
     · exact hu'
     · cases hu'
   · exact q3.st b2 o2 u hu'
 · have hbb:b' ≠ b:=fun e=>by
    subst e
    exact hcne m (Bind.block_of_owns ho)
   show frzSt κ.σ b w cs.length b' o=none
   simp only [frzSt,hbb,if_false]
   exact hcut.exσ m b' o ho
 · cases hv with
   | ptr _ _ b' hb =>
     rw [b1] at hb; cases hb
     refine .eptr cs b 0 (fun j=>(w.cell? ⟨b,j,none⟩).getD (.tuple #[])) (fun q x hq => ?_) (fun q x hq => ?_)
     · obtain ⟨v,v1,v2⟩:=hcell q x hq
       have hlt:=(List.getElem?_eq_some_iff.1 hq).1
       show frzSt κ.σ b w cs.length b (0+q)=_
       rw [Nat.zero_add]
       simp only [frzSt,if_true,hlt,v1,Option.getD_some]
     · obtain ⟨v,v1,v2⟩:=hcell q x hq
       simp only [v1,Option.getD_some]
       exact v2.d_inv.mono hle2.σ
 · exact .d (hv.d_inv.mono hle2.σ)
theorem ACall.freezeBox {P:Program} {f:FuncId} {args:List A} {H:Hp} {i b sz ty:Nat} {rows:List (List D)} {x:D} {X:Hp} (hi:X[i]?=some (.arr sz (rows.map (List.map .d)))) (hb:X[b]?=some (.box ty [.msl (H.length+i) 0 rows.length]))
 (h:ACall P f args H (fun r H'=>r = .tup [.ptr (H.length+b) 0,.d x]∧H'=H++X)):ACall P f args H (fun r H'=>r = .tup [.eptr [.sl false sz rows],.d x]∧H'=H):=by
 intro κ w vs hr hl hv
 refine (h κ w vs hr hl hv).mono ?_
 rintro ev w' ⟨v,κ',r,H',h1,h2,h3,h4,rfl,rfl⟩
 obtain ⟨κs,k1,k2⟩:=h3.boxSl (i:=H.length+i) (b:=H.length+b) (by rw [getElem?_appk]; exact hi) (by rw [getElem?_appk]; exact hb)
 have hbl:b < X.length:=(List.getElem?_eq_some_iff.1 hb).1
 rw [set_appk,set_appk] at k2
 obtain ⟨κ2,g1,g2,g3,g4⟩:=k2.frzBox hr.closed (j:=b) (ty:=ty) (cs:=[.sl false sz rows]) (by rw [List.getElem?_set_self (by simpa using hbl)]; rfl)
 refine ⟨v,κ2,_,H,h1,g1 κ (h2.trans k1) hr.dom,g2,?_,rfl,rfl⟩
 have h4':=h4.mono k1
 cases h4' with
 | tup us _ hl0 h0 =>
   refine .tup us _ (by simpa using hl0) fun m u a hu ha => ?_
   match m with
   | 0=>cases ha; exact g3 _ (h0 0 u _ hu rfl)
   | 1=>cases ha; exact g4 _ _ (h0 1 u _ hu rfl)
   | m+2=>simp at ha
theorem ACall.freezeBoxD {P:Program} {f:FuncId} {args:List A} {H:Hp} {b ty:Nat} {cs:List D} {x:D} {X:Hp} (hb:X[b]?=some (.box ty (cs.map .d)))
 (h:ACall P f args H (fun r H'=>r = .tup [.ptr (H.length+b) 0,.d x]∧H'=H++X)):ACall P f args H (fun r H'=>r = .tup [.eptr cs,.d x]∧H'=H):=by
 intro κ w vs hr hl hv
 refine (h κ w vs hr hl hv).mono ?_
 rintro ev w' ⟨v,κ',r,H',h1,h2,h3,h4,rfl,rfl⟩
 obtain ⟨κ2,g1,g2,g3,g4⟩:=h3.frzBox hr.closed hb
 refine ⟨v,κ2,_,H,h1,g1 κ h2 hr.dom,g2,?_,rfl,rfl⟩
 cases h4 with
 | tup us _ hl0 h0 =>
   refine .tup us _ (by simpa using hl0) fun m u a hu ha => ?_
   match m with
   | 0=>cases ha; exact g3 _ (h0 0 u _ hu rfl)
   | 1=>cases ha; exact g4 _ _ (h0 1 u _ hu rfl)
   | m+2=>simp at ha
def irChLight (tM:Nat):IFn:=⟨30,[.t 4],Jq [Jp 4 (.mv (.c (.bool false)))] (Jq [Ji 5 0] (.seq (Jq [Jm 8 0,Jh 9 8,Ji 10 0] (.blk 0 (.loop (Jr 10 9 11 26 0 1 (Jq [JA 12 2 8 10,JL 13 2 12,Jy 7 tM [JS,JS],Js 2 7 13] (Jq [Jm 14 5,Jf 15 0 7,Jl 16 15,Jp 17 (.lenS (.t 16)),Jf 18 1 7,Jl 19 18,Jp 20 (.lenS (.t 19)),Jb 21 .add 17 20,Jb 22 .add 14 21,Jm 5 22] (Jk [Jm 23 5,Jm 24 1,Jb 25 .gtr 23 24] 25 (Jq [Jp 4 (.mv (.c (.bool false)))] .ret) .skip))))))) (Jq [Jm 27 0,Jh 28 27,JB 29 .leq 28 20,Jm 4 29] .ret)))⟩
def irChApply (clone find apply tC:Nat):IFn:=⟨58,[.t 4,.t 5],Jq [Jp 4 (.mv (.c (.sl true 2 []))),Ji 5 0] (Jq [Jm 13 0,Jc 14 clone [.t 13],Jm 6 14] (Jq [Jp 15 .mkMap,Jm 7 15] (.seq (Jq [Jm 16 1,Jh 17 16,Ji 18 0] (.blk 0 (.loop (Jr 18 17 19 56 0 1 (Jq [JA 20 2 16 18,JL 21 2 20,Jy 9 tC [JS,.sl true 3 []],Js 2 9 21] (Jq [Jm 22 6,Jf 23 0 9,Jl 24 23,Jc 25 find [.t 22,.t 24],Jm 10 25] (.seq (.blk 2 (Jk [Jm 27 10,JB 28 .lss 27 0,Jm 26 28] 26 (Jq [Jp 4 (.mv (.c (.sl true 2 []))),Ji 5 32] .ret) (Jk [Jm 30 7,Jf 31 0 9,Jl 32 31,Jp 33 (.lkp false JS false [.bool false] (.t 30) (.t 32)),Jm 29 33] 29 (Jq [Jp 4 (.mv (.c (.sl true 2 []))),Ji 5 4] .ret) .skip))) (Jq [Jm 34 7,Jf 35 0 9,Jl 36 35,Jv (.mpUpd JS (.t 34) (.t 36) (.c (.bool true)))] (.seq (.ops [Jm 38 6,Jm 39 10,JA 40 2 38 39,Jf 41 1 40,Jl 42 41,Jf 43 1 9,Jl 44 43,Jc 45 apply [.t 42,.t 44],Jm 37 45,Je 46 37 0,Je 47 37 1,Jm 11 46,Jm 12 47] true) (.seq (Jk [Jm 48 12,JB 49 .neq 48 0] 49 (Jq [Jm 50 12,Jp 4 (.mv (.c (.sl true 2 []))),Jm 5 50] .ret) .skip) (Jz [Jm 51 6,Jm 52 10,Jm 53 11,JA 54 2 51 52,Jf 55 1 54,Js 1 55 53]))))))))))) (Jq [Jm 57 6,Jm 4 57,Ji 5 0] .ret))))⟩
def irChSort (clone srt cmpM:Nat):IFn:=⟨9,[.t 2],Jq [Jp 2 (.mv (.c (.sl true 2 [])))] (Jq [Jm 4 0,Jc 5 clone [.t 4],Jm 3 5] (Jq [Jm 6 3,Jc 7 srt [.t 6,.c (.fn cmpM)]] (Jq [Jm 8 3,Jm 2 8] .ret)))⟩
def irChFind (idxF find1 ts:Nat):IFn:=⟨8,[.t 4],Jq [Jp 3 (.box ts 1 (.t 1)),Ji 4 0] (Jq [Jm 5 0,Jp 6 (.mkfn (.func find1) [] [.t 3]),Jc 7 idxF [.t 5,.t 6],Jm 4 7] .ret)⟩
def irChCmp (cmpS tM:Nat):IFn:=⟨10,[.t 4],Jq [Jp 2 (.box tM 2 (.t 0)),Jp 3 (.box tM 2 (.t 1)),Ji 4 0] (Jq [Jf 5 0 2,Jl 6 5,Jf 7 0 3,Jl 8 7,Jc 9 cmpS [.t 6,.t 8],Jm 4 9] .ret)⟩
def irChFind1 (tM:Nat):IFn:=⟨8,[.t 3],Jq [Jp 2 (.box tM 2 (.t 0)),Jp 3 (.mv (.c (.bool false)))] (Jq [Jf 4 0 2,Jl 5 4,Jl 6 1,Jb 7 .eql 5 6,Jm 3 7] .ret)⟩
section
open Go.Proofs
structure CF where
 clone:Nat
 srt:Nat
 stb:Nat
 ins:Nat
 sym:Nat
 rot:Nat
 swp:Nat
 cmpM:Nat
 cmpS:Nat
 nan:Nat
 idxF:Nat
 find1:Nat
 find:Nat
 sort:Nat
 apply:Nat
 applyE:Nat
 tM:Nat
 tC:Nat
 ts:Nat
structure ChHas (P:Program) (C:CF):Prop where
 clone:HasT P [1000005] C.clone (irCloneM 2 32 C.tM)
 srt:Has P C.srt (irSortStable C.stb)
 stb:Has P C.stb (irStable C.ins C.sym)
 ins:Has P C.ins (irInsertion 2)
 sym:Has P C.sym (irSymMerge 2 C.rot C.sym)
 rot:Has P C.rot (irRotate C.swp)
 swp:Has P C.swp (irSwapRange 2)
 cmpM:Has P C.cmpM (irChCmp C.cmpS C.tM)
 kCmpM:callOk P C.cmpM=true
 cmpS:Has P C.cmpS (irCompare C.nan)
 nan:Has P C.nan irIsNaN
 idxF:Has P C.idxF (irIndexFunc 2)
 find1:Has P C.find1 (irChFind1 C.tM)
 kFind1:callOk P C.find1=true
 find:Has P C.find (irChFind C.idxF C.find1 C.ts)
 sort:Has P C.sort (irChSort C.clone C.srt C.cmpM)
 apply:Has P C.apply (irChApply C.clone C.find C.applyE C.tC)
 applyE:∀ (H:Hp) (z:Bool) (s:List UInt8) (l:List Ed),s.length+total l≤70368744177664 →
  ACall P C.applyE [.d (.str s),.d (.sl z 3 (l.map encE))] H (fun r H'=>r = .tup [.d (.str (applyS s l)),.d (.int .i64 (sound l s.length))]∧H'=H)
section
variable {P:Program} {C:CF}
structure Mod where
 n:List UInt8
 t:List UInt8
def encM (m:Mod):List D:=[.str m.n,.str m.t]
structure Chg where
 n:List UInt8
 z:Bool
 l:List Ed
def encC (c:Chg):List D:=[.str c.n,.sl c.z 3 (c.l.map encE)]
theorem encM_len:∀ x,(encM x).length=2:=fun _=>rfl
def findM (l:List Mod) (s:List UInt8):Int:=indexI (fun m=>decide (m.n=s)) l
theorem find1_acall (hC:ChHas P C) (H:Hp) (i:Nat) (s:List UInt8) (m:Mod) (hi:H[i]?=some (.box C.ts [.d (.str s)])) :
 ACall P C.find1 [.agg (rowE encM m),.ptr i 0] H (fun r H'=>r = .d (.bool (decide (m.n=s)))∧H'=H):=by
 have hil:i < H.length:=(List.getElem?_eq_some_iff.1 hi).1
 refine acall_fin hC.find1.choose_spec.1 hC.find1.choose_spec.2 (by simp [irChFind1]) fun hcl _ => ?_
 have h1:(H++[Ob.box C.tM [A.d (.str m.n),A.d (.str m.t)]])[i]?=some (.box C.ts [.d (.str s)]):=by rw [List.getElem?_append_left hil]; exact hi
 simp [irChFind1,rowE,encM,h1]
 simp [RetK,cut_app hcl]
theorem findOk (hC:ChHas P C) (H:Hp) (x:A) (l:List Mod) (s:List UInt8) (hlen:lenA x=some l.length) (hx:∀ m,H.length+1≤m→x.clr m=x)
 (hld:∀ (k:Nat) (e:Mod),l[k]?=some e→∃ q,∀ X:Ob,iaddrA (H++[X]) 2 x (.d (.int .i64 (k:Int)))=some q∧ldA (H++[X]) 2 q=some (rowE encM e)) (hb:l.length≤1099511627776) :
 ACall P C.find [x,.d (.str s)] H (fun r H'=>r = .d (.int .i64 (findM l s))∧H'=H):=by
 refine acall_fin hC.find.choose_spec.1 hC.find.choose_spec.2 (by simp [irChFind]) fun hcl _ => ?_
 simp [irChFind]
 refine CallK_of' (indexFunc_acall (enc:=encM) (l:=l) (p:=fun m=>decide (m.n=s)) hC.idxF.choose_spec.1 hC.idxF.choose_spec.2 hlen (fun m hm=>hx m (by simpa using hm)) (fun m hm=>by
  have:H.length < m:=by simp at hm; omega
  simp [A.lo,this]) (fun k e hk=>by
  obtain ⟨q,hq⟩:=hld k e hk
  exact ⟨q,hq _⟩) (fun e Q t hq=>by
  simp only [ValK_fn]
  exact ⟨hC.kFind1,CallK_of' (find1_acall hC _ H.length s e (by simp)) hq⟩) hb) ?_
 simp [RetK,cut_app hcl,findM]
theorem findAOk (hC:ChHas P C) (H:Hp) (i:Nat) (l:List Mod) (s:List UInt8) (hi:H[i]?=some (arrE encM 2 l)) (hb:l.length≤1099511627776) :
 ACall P C.find [.msl i 0 l.length,.d (.str s)] H (fun r H'=>r = .d (.int .i64 (findM l s))∧H'=H):=by
 have hil:i < H.length:=(List.getElem?_eq_some_iff.1 hi).1
 have hi':∀ X:Ob,(H++[X])[i]?=some (arrE encM 2 l):=fun X=>by rw [List.getElem?_append_left hil]; exact hi
 exact findOk hC H _ l s (by simp) (fun m hm=>clr_msl (by omega) _ _) (fun k e hk=>⟨.aptr i k 0,fun X=>⟨arr_iaddr (hi' X) rfl (List.getElem?_eq_some_iff.1 hk).1,arr_ld encM_len (hi' X) hk⟩⟩) hb
theorem findM_some {l:List Mod} {s:List UInt8} (h:0≤findM l s):∃ (k:Nat) (m:Mod),findM l s=k∧l[k]?=some m∧m.n=s:=by
 unfold findM indexI at h ⊢
 split at h
 · rename_i k hk
   refine ⟨k,?_⟩
   clear h
   induction l generalizing k with
   | nil=>simp [indexP] at hk
   | cons x l ih =>
     simp only [indexP] at hk
     split at hk
     · rename_i hx
       cases hk
       exact ⟨x,rfl,rfl,by simpa using hx⟩
     · simp only [Option.map_eq_some_iff] at hk
       obtain ⟨k',hk',rfl⟩:=hk
       obtain ⟨m,-,h1,h2⟩:=ih k' hk'
       exact ⟨m,rfl,by simpa using h1,h2⟩
 · omega
def applyC (l:List Mod) (done:List (List UInt8)):List Chg→Int × List Mod
 | []=>(0,l)
 | c :: r => if findM l c.n < 0 then (32, []) else if c.n ∈ done then (4, []) else
   match l[(findM l c.n).toNat]? with
   | none=>(32,[])
   | some m=>if sound c.l m.t.length=0 then applyC (l.set (findM l c.n).toNat ⟨m.n,applyS m.t c.l⟩) (done++[c.n]) r else (sound c.l m.t.length,[])
def totC:List Chg→Nat
 | []=>0
 | c :: r=>total c.l+totC r
theorem arrM_ld {H:Hp} {i k:Nat} {L:List Mod} {m:Mod} (hi:H[i]?=some (arrE encM 2 L)) (hk:L[k]?=some m):ldA H 1 (.aptr i k 1)=some [.d (.str m.t)]:=by
 simp [ldA,hi,arrE,hk,rowE,encM,cutL]
theorem arrM_st {H:Hp} {i k:Nat} {L:List Mod} {m:Mod} {t:List UInt8} (hi:H[i]?=some (arrE encM 2 L)) (hk:L[k]?=some m):stA H [.d (.str t)] (.aptr i k 1)=some (H.set i (arrE encM 2 (L.set k ⟨m.n,t⟩))):=by
 simp [stA,hi,arrE,hk,rowE,encM,setL]
def fitM (l:List Mod) (cs:List Chg):Prop:=∀ m ∈ l,m.t.length+totC cs≤70368744177664
theorem grows_le:∀ (l:List Ed) (n last:Int),soundFrom n last l=0→grows l≤total l
 | [],_,_,_=>by simp [grows,total]
 | e :: l, n, last, h => by
   obtain ⟨h0,h1,h2,h3,h4⟩:=soundFrom_cons h
   have:=grows_le l n e.t h4
   simp only [grows,total]
   omega
theorem applyS_le (s:List UInt8) (l:List Ed):(applyS s l).length≤s.length+total l:=by
 unfold applyS
 split
 · rename_i h
   have:=applied_len s l 0 (-1) (sound_zero h).2 (by omega) (by omega) (by omega)
   have:=grows_le l _ _ (sound_zero h).2
   omega
 · simp
theorem fitM_next {l:List Mod} {c:Chg} {cs:List Chg} {k:Nat} {m:Mod} (h:fitM l (c :: cs)) (hk:l[k]?=some m):fitM (l.set k ⟨m.n,applyS m.t c.l⟩) cs:=by
 intro x hx
 have hm:=h m (List.mem_of_getElem? hk)
 have:=applyS_le m.t c.l
 simp only [totC] at hm
 rcases List.mem_or_eq_of_mem_set hx with h1 | h1
 · have:=h x h1
   simp only [totC] at this
   omega
 · subst h1
   simp only; omega
theorem applyC_step {l:List Mod} {done:List (List UInt8)} {c:Chg} {r:List Chg} {k:Nat} {m:Mod} (hk:findM l c.n=k) (hm:l[k]?=some m) (h2:c.n ∉ done) :
 applyC l done (c :: r)=if sound c.l m.t.length=0 then applyC (l.set k ⟨m.n,applyS m.t c.l⟩) (done++[c.n]) r else (sound c.l m.t.length,[]):=by
 have:¬ findM l c.n < 0:=by omega
 rw [applyC,if_neg this,if_neg h2,hk,Int.toNat_natCast,hm]
theorem app_walk (hC:ChHas P C) {H:Hp} {z zc:Bool} {l:List Mod} {cs:List Chg} (hl:l ≠ []) (hb:l.length≤1048576) (hc:cs.length≤1048576) (hf:fitM l cs) (k:Nat) (K:A→Hp→Prop)
 (hok:∀ (d:List (D × A)),(applyC l [] cs).1=0→RetK K .mk (H.length+k) (some (.tup [.msl (H.length+1) 0 l.length,.d (.int .i64 0)])) (H++[.arr 2 [],arrE encM 2 (applyC l [] cs).2,.mp d]))
 (herr:∀ e X,(applyC l [] cs).1=e→e ≠ 0→RetK K .mk (H.length+k) (some (.tup [.d (.sl true 2 []),.d (.int .i64 e)])) (H++X)) :
 ACall P C.apply [.d (.sl z 2 (l.map encM)),.d (.sl zc 2 (cs.map encC))] H K:=by
 refine acall_fink k hC.apply.choose_spec.1 hC.apply.choose_spec.2 (by simp [irChApply]) fun hcl _ => ?_
 simp [irChApply]
 refine CallK_of' (cloneM_acall hC.clone.choose_spec.1 hC.clone.choose_spec.2 (by simpa using hl) (by simp; omega)) ?_
 simp
 refine LoopK_of (H.length+3) (fun fr H'=>∃ pre rest l',cs=pre++rest∧fitM l' rest∧l'.length=l.length∧applyC l [] cs=applyC l' (pre.map Chg.n) rest ∧
  fr 6 = .msl (H.length+1) 0 l.length∧fr 7 = .map (H.length+2)∧fr 16 = .d (.sl zc 2 (cs.map encC))∧fr 17 = .d (.int .i64 cs.length)∧fr 18 = .d (.int .i64 (pre.length:Int))∧H'=H++[.arr 2 [],arrE encM 2 l',.mp (setMp (pre.map Chg.n))])
  (fun fr H'=>match fr 18 with | .d (.int _ k)=>(cs.length - k).toNat | _=>0) (by simp) ?_ ?_
 · refine ⟨[],cs,l,?_⟩
   simp [hf,cut_appk hcl,arrE,rowE,setMp]
 rintro fr H' ⟨pre,rest,l',hcs,hf',hl',happ,f6,f7,f16,f17,f18,hH⟩
 rw [hH]
 simp [f17,f18]
 refine BrK_split (fun h => ?_) (fun h => ?_)
 · obtain ⟨c,rest,rfl⟩:∃ e r,rest=e :: r:=by
    cases rest with
    | nil=>rw [hcs] at h; simp at h
    | cons e r=>exact ⟨e,r,rfl⟩
   have hpl:pre.length < cs.length:=by rw [hcs]; simp
   have hw:IntKind.i64.wrap ((pre.length:Int)+1)=pre.length+1:=wrap_i64 (by omega) (by omega)
   have hg :Zam.rowAt (cs.map encC) (pre.length:Int)=some (encC c):=by simp [Zam.rowAt,hcs]
   simp [f6,f16,f18,hg,encC]
   have hi:∀ X:Ob,(H++[.arr 2 [],arrE encM 2 l',.mp (setMp (pre.map Chg.n)),X])[H.length+1]?=some (arrE encM 2 l'):=fun X=>by simp
   have hfind:=findAOk hC _ (H.length+1) l' c.n (hi (.box C.tC [.d (.str c.n),.d (.sl c.z 3 (c.l.map encE))])) (by omega)
   rw [hl'] at hfind
   refine CallK_of' hfind ?_
   simp
   refine BrK_split (fun h1 => ?_) (fun h1 => ?_)
   · simp at h1
     simp
     exact herr 32 _ (by rw [happ]; simp [applyC,h1]) (by omega)
   simp at h1
   obtain ⟨k,m,hk,hm,hmn⟩:=findM_some h1
   rw [hk]
   have hap:¬ findM l' c.n < 0:=by omega
   have hkl:k < l.length:=by rw [← hl']; exact (List.getElem?_eq_some_iff.1 hm).1
   by_cases h2:c.n ∈ pre.map Chg.n
   · simp [f7,setMp_ok,setMp_get,h2,-mpOk,-List.mem_map]
     exact herr 4 _ (by rw [happ]; simp only [applyC,if_neg hap,if_pos h2]) (by omega)
   · have hi2:∀ X Y:Ob,(H++[.arr 2 [],arrE encM 2 l',X,Y])[H.length+1]?=some (arrE encM 2 l'):=fun X Y=>by simp
     have hfit:m.t.length+total c.l≤70368744177664:=by
      have:=hf' m (List.mem_of_getElem? hm)
      simp only [totC] at this; omega
     simp [f7,setMp_ok,setMp_get,setMp_put,h2,f6,arr_iaddr (hi2 _ _) rfl hkl,arrM_ld (hi2 _ _) hm,ld_ptr,st_ptr,-iaddrA,-ldA,-stA,-mpOk,-List.mem_map]
     refine CallD_of (hC.applyE _ c.z m.t c.l hfit) ?_
     simp
     refine BrK_split (fun h3 => ?_) (fun h3 => ?_)
     · simp at h3
       simp
       exact herr _ _ (by rw [happ,applyC_step hk hm h2,if_neg h3]) h3
     simp at h3
     have hi3:∀ X Y:Ob,(H++[.arr 2 [],arrE encM 2 l',X,Y])[H.length+1]?=some (arrE encM 2 l'):=fun X Y=>by simp
     simp [f6,f18,hw,arr_iaddr (hi3 _ _) rfl hkl,arrM_st (hi3 _ _) hm,-iaddrA,-ldA,-stA]
     refine AgainK_of (m:=H.length+3) (by simp) ⟨pre++[c],rest,l'.set k ⟨m.n,applyS m.t c.l⟩,?_⟩ ?_
     · simp [f6,f7,f16,f17,cut_appk hcl,hcs,fitM_next hf' hm,hl',happ,arrE_clr,setMp,-Ob.clr,-List.mem_map]
       exact ⟨by rw [← hcs,happ,applyC_step hk hm h2,if_pos h3],by simp,by simp⟩
     · simp; omega
 · obtain rfl:rest=[]:=by
    cases rest with
    | nil=>rfl
    | cons e r=>exfalso; rw [hcs] at h; simp at h
   have h0:applyC l [] cs=(0,l'):=by rw [happ]; rfl
   simp [f6]
   have:=hok (setMp (pre.map Chg.n)) (by rw [h0])
   rw [h0] at this
   exact this
def lightB (most:Int):Int→List Mod→Bool
 | _,[]=>true
 | n,m :: r=>if most < n+(m.n.length+m.t.length) then false else lightB most (n+(m.n.length+m.t.length)) r
def light (l:List Mod) (most:Int):Bool:=lightB most 0 l && decide (l.length≤20)
theorem lightOk {fL tM:Nat} (hf:Has P fL (irChLight tM)) (H:Hp) (z:Bool) (l:List Mod) (most:Int) (hm:0≤most∧most≤1048576) (hl:l.length≤1048576) (hs:∀ m ∈ l,m.n.length≤1048576∧m.t.length≤1048576) :
 ACall P fL [.d (.sl z 2 (l.map encM)),.d (.int .i64 most)] H (fun r H'=>r = .d (.bool (light l most))∧H'=H):=by
 refine acall_fin hf.choose_spec.1 hf.choose_spec.2 (by simp [irChLight]) fun hcl _ => ?_
 simp [irChLight]
 refine LoopK_of H.length (fun fr H'=>∃ pre rest,∃ n:Int,l=pre++rest∧0≤n∧n≤most∧lightB most 0 l=lightB most n rest∧fr 0 = .d (.sl z 2 (l.map encM))∧fr 1 = .d (.int .i64 most)∧fr 5 = .d (.int .i64 n)∧fr 8 = .d (.sl z 2 (l.map encM))∧fr 9 = .d (.int .i64 l.length)∧fr 10 = .d (.int .i64 (pre.length:Int))∧H'=H)
  (fun fr H'=>match fr 10 with | .d (.int _ k)=>(l.length - k).toNat | _=>0) (by simp) ?_ ?_
 · refine ⟨[],l,0,?_⟩
   simp [cut_self hcl,hm]
 rintro fr H' ⟨pre,rest,n,hcs,hn0,hnm,hli,f0,f1,f5,f8,f9,f10,hH⟩
 rw [hH]
 simp [f9,f10]
 refine BrK_split (fun h => ?_) (fun h => ?_)
 · obtain ⟨c,rest,rfl⟩:∃ e r,rest=e :: r:=by
    cases rest with
    | nil=>rw [hcs] at h; simp at h
    | cons e r=>exact ⟨e,r,rfl⟩
   have hpl:pre.length < l.length:=by rw [hcs]; simp
   obtain ⟨s1,s2⟩:=hs c (by rw [hcs]; simp)
   have hw:IntKind.i64.wrap ((pre.length:Int)+1)=pre.length+1:=wrap_i64 (by omega) (by omega)
   have hw2:IntKind.i64.wrap ((c.n.length:Int)+c.t.length)=c.n.length+c.t.length:=wrap_i64 (by omega) (by omega)
   have hw3:IntKind.i64.wrap (n+((c.n.length:Int)+c.t.length))=n+(c.n.length+c.t.length):=wrap_i64 (by omega) (by omega)
   have hgr:Zam.rowAt (l.map encM) (pre.length:Int)=some (encM c):=by simp [Zam.rowAt,hcs]
   simp [f1,f5,f8,f10,hgr,encM,hw2,hw3]
   refine BrK_split (fun h2 => ?_) (fun h2 => ?_)
   · simp at h2
     have:light l most=false:=by simp only [light,hli,lightB,if_pos h2,Bool.false_and]
     simp
     simp [RetK,cut_app hcl,this]
   · simp at h2
     simp [f10,hw]
     refine AgainK_of (m:=H.length) (by simp) ⟨pre++[c],rest,n+(c.n.length+c.t.length),?_⟩ ?_
     · simp [f0,f1,f8,f9,cut_app hcl,hcs]
       refine ⟨by omega,by omega,?_⟩
       rw [← hcs,hli,lightB,if_neg (by omega)]
     · simp; omega
 · obtain rfl:rest=[]:=by
    cases rest with
    | nil=>rfl
    | cons e r=>exfalso; rw [hcs] at h; simp at h
   have:light l most=decide (l.length≤20):=by simp only [light,hli,lightB,Bool.true_and]
   simp [f0]
   simp [RetK,cut_self hcl,this]
   omega
deriving instance DecidableEq for Mod
end
end
def ACallD (P:Program) (f:FuncId) (args:List A) (H:Hp) (Q:Hp→Prop):Prop :=
 ∀ (κ : K) (w : World) (vs : List Value), HR κ H w → vs.length = args.length → (∀ (i : Nat) (v : Value) (a : A), vs[i]? = some v → args[i]? = some a → VR κ v a) →
   CallsD P f vs.toArray .returning w fun e u w'=>u = .returning∧∃ v κ' H',e = .returned v ∧ κ.le κ'∧HR κ' H' w'∧Q H'
theorem sr_init {κ:K} {n:Nat} {args:List A} {H:Hp} {w:World} {vs:List Value} (hn:args.length≤n) (hr:HR κ H w) (hl:vs.length=args.length) (hv:∀ (i:Nat) (v:Value) (a:A),vs[i]?=some v→args[i]?=some a→VR κ v a) :
 SR κ ⟨n,[]⟩ (Fr.init args) H { tmps:=vs.toArray++Array.replicate (n - vs.toArray.size) undef,defers:=[] } w:=by
 refine ⟨by simp only [Array.size_append,List.size_toArray,Array.size_replicate]; omega,rfl,hr,fun s => ?_⟩
 simp only [Fr.init]
 by_cases hlt:s < args.length
 · have hlt':s < vs.length:=by omega
   rw [Array.getD_eq_getD_getElem?,Array.getElem?_append_left (by simpa using hlt')]
   simp only [List.getElem?_toArray,List.getElem?_eq_getElem hlt',List.getElem?_eq_getElem hlt,Option.getD_some]
   exact hv s _ _ (List.getElem?_eq_getElem hlt') (List.getElem?_eq_getElem hlt)
 · rw [List.getElem?_eq_none (by omega),Array.getD_eq_getD_getElem?,Array.getElem?_append_right (by simpa using (by omega:vs.length≤s))]
   have:((Array.replicate (n - vs.toArray.size) undef)[s - vs.toArray.size]?).getD undef=undef:=by
    by_cases h2:s - vs.toArray.size < n - vs.toArray.size
    · rw [Array.getElem?_replicate,if_pos h2]; rfl
    · rw [Array.getElem?_replicate,if_neg h2]; rfl
   rw [this]
   exact .tup [] [] rfl (by simp)
def NoRes (K:Hp→Prop):Ex→Fr→Hp→Prop
 | .exit _,_,H=>False
 | _,_,H=>K H
theorem no_results {P:Program} {fn:Func} (h:fn.results = #[]) (tmps:Array Value) (w:World):(results fn tmps).run P w = .ok (.tuple #[]) w:=by
 unfold results
 rw [h]
 simp
theorem acallD_of {P:Program} {f:FuncId} {fn:Func} {c:Code} {tok:List Nat} {args:List A} {H:Hp} {K:Hp→Prop} (hf:P.funcs[f]?=some fn) (hb:fn.body=some c) (hres:fn.results = #[]) (hn:args.length≤fn.ntmps)
 (h:H.Closed→AWp P H.length (compC P fn.ntmps tok c) (NoRes K) (Fr.init args) H):ACallD P f args H K:=by
 intro κ w vs hr hl hv
 refine (callsD_of_wp (R:=fun e w'=>∃ v κ' H',e = .returned v ∧ κ.le κ'∧HR κ' H' w'∧K H') hf hb ?_)
 refine wp_mono (awp_sound (nt:=⟨fn.ntmps,[]⟩) hr.dom c _ κ _ H _ w (Zam.K.le_refl κ) (sr_init hn hr hl hv) (h hr.closed)) ?_
 rintro e a' w' ⟨κ',fr',H',e',he,h0',hs',hq⟩
 have fin:K H'→a'.defers=[]∧∃ v,(results fn a'.tmps).run P w' = .ok v w'∧∃ v1 κ1 H1,Ending.returned v = .returned v1 ∧ κ.le κ1∧HR κ1 H1 w'∧K H1:=fun hk =>
  ⟨hs'.defers,_,no_results hres _ _,_,κ',H',rfl,h0',hs'.hr,hk⟩
 cases e<;>cases e'<;>simp only [ExR] at he
 · exact fin hq
 · exact hq.elim
 · exact fin hq
theorem ops_sound_tail {P:Program} {κ0:K} {nt:NT} {tok:List Nat} {ops:Array Oper} {K:Fr→Hp→Prop} {Q:Exit→Act→World→Prop} {tail:List Oper} (hK:∀ κ fr H a w,κ0.le κ→SR κ nt fr H a w→K fr H→wpList P ops Q tail a w) :
 ∀ (l:List Oper) (κ:Zam.K) (fr:Fr) (H:Hp) (a:Act) (w:World),κ0.le κ→SR κ nt fr H a w→AOps P (l.map (compO P nt tok ops)) K fr H→wpList P ops Q (l++tail) a w:=by
 intro l
 induction l with
 | nil=>intro κ fr H a w h0 hs h; exact hK κ fr H a w h0 hs h
 | cons o l ih =>
   intro κ fr H a w h0 hs h
   simp only [List.map_cons,AOps] at h
   rcases compO_spec (P:=P) (nt:=nt) (tok:=tok) (ops:=ops) (o:=o) with hb | ⟨g,i,hg,hi,hd,hcomp⟩
   · rw [hb] at h; simp [badOp,runI,Arg.ev] at h
   · rw [hcomp] at h
     simp only at h
     have step:∀ fr,SR κ nt fr H a w→runI P fr H i (fun v H'=>AOps P (l.map (compO P nt tok ops)) K (fr.put o.dst v) H')→o.wp P a w (wpList P ops Q (l++tail)) Q:=fun fr hs h =>
      op_sound hi hd h0 hs h (fun κ' v H' u w' h0' hs' hk=>ih κ' _ _ _ _ h0' hs' hk)
     cases g with
     | none =>
       simp only at h
       rw [List.cons_append]
       unfold wpList
       rw [if_pos (wanted_none hg _)]
       exact .inl (step fr hs h)
     | some sb =>
       obtain ⟨s,b⟩:=sb
       simp only at h
       rw [List.cons_append]
       unfold wpList
       rw [wanted_some hg]
       rcases guard_sound hs h with ⟨h1,h2⟩ | ⟨h1,h2⟩
       · rw [h1]; simp only [if_true]; exact .inl (step fr hs h2)
       · rw [h1]
         simp only [Bool.false_eq_true,if_false]
         exact ih κ _ _ _ _ h0 (hs.put (Zam.K.le_refl κ) hs.hr hd (.tup [] [] rfl (by simp))) h2
def OnlyN (K:Fr→Hp→Prop):Ex→Fr→Hp→Prop
 | .normal=>K
 | _=>fun _ _=>False
theorem acall_defer2 {P:Program} {f:FuncId} {fn:Func} {tok:List Nat} {args:List A} {H:Hp} {K:A→Hp→Prop} {ca0 ca cb:Code} {id:Nat} {ops:Array Oper} {l:List Oper} {od:Oper} {c:Call} {s:Nat}
 (hf:P.funcs[f]?=some fn) (hb:fn.body=some (.seq ca0 (.seq ca (.seq (.region id ops false) cb)))) (hops:ops.toList=l++[od]) (hg:guardOf ops od.guard=some none) (hd:od.dst=none) (hop:od.op = .defer c) (hcal:c.callee = .value (.tmp s)) (hcar:c.args = #[])
 (hres:fn.results = #[]) (hn:args.length≤fn.ntmps)
 (h:H.Closed→AWp P H.length (compC P fn.ntmps tok ca0) (OnlyN fun fr0 H0=>H.length≤H0.length∧(Hp.Closed H0→AWp P H0.length (compC P fn.ntmps tok ca) (OnlyN fun fr1 H1=>AOps P (l.map (compO P fn.ntmps tok ops)) (fun fr2 H2=>∃ g cap,fr2 s = .fn (.func g) [] cap∧callOk P g=true ∧
  (Hp.Closed H2→AWp P H2.length (compC P fn.ntmps tok cb) (NoRes fun H3=>ACallD P g cap H3 fun H4=>∃ m,H.length≤m∧m≤H4.length∧K (.tup []) (Hp.cut m H4)) fr2 H2)) fr1 H1) fr0 H0)) (Fr.init args) H):ACall P f args H K:=by
 intro κ w vs hr hl hv
 refine calls_of_wp_defers hf hb ?_
 refine wp_seq (wp_mono (awp_sound (nt:=⟨fn.ntmps,[]⟩) hr.dom ca0 _ κ _ H _ w (Zam.K.le_refl κ) (sr_init hn hr hl hv) (h hr.closed)) ?_)
 rintro e a0 w0 ⟨κ0,fr0,H0,e',he,h00,hs0,h0⟩
 cases e' with
 | exit i=>exact h0.elim
 | ret=>exact h0.elim
 | normal =>
 cases e<;>simp only [ExR] at he
 obtain ⟨hlen0,h0⟩:=h0
 show (Code.seq ca (.seq (.region id ops false) cb)).wp P _ a0 w0
 refine wp_seq (wp_mono (awp_sound (nt:=⟨fn.ntmps,[]⟩) hs0.hr.dom ca _ κ0 fr0 H0 _ w0 (Zam.K.le_refl κ0) hs0 (h0 hs0.hr.closed)) ?_)
 rintro e a1 w1 ⟨κ1,fr1,H1,e',he,h01',hs1,h1⟩
 have h01:=h00.trans h01'
 cases e' with
 | exit i=>exact h1.elim
 | ret=>exact h1.elim
 | normal =>
 cases e<;>simp only [ExR] at he
 show (Code.seq (.region id ops false) cb).wp P _ a1 w1
 refine wp_seq (wp_region_list ?_)
 rw [hops]
 refine ops_sound_tail (κ0 := κ) (nt:=⟨fn.ntmps,[]⟩) (tok:=tok) ?_ l κ1 fr1 H1 a1 w1 h01 hs1 h1
 rintro κ2 fr2 H2 a2 w2 h02 hs2 ⟨g,cap,hfn,hok,h2⟩
 have hvs:=hs2.vr s
 rw [hfn] at hvs
 obtain ⟨capv,hev,hcl,hcv⟩:∃ capv:List Value,a2.tmps.getD s undef = .func (.func g) #[] capv.toArray∧capv.length=cap.length∧∀ (i:Nat) (v:Value) (a:A),capv[i]?=some v→cap[i]?=some a→VR κ2 v a:=by
  generalize hx:a2.tmps.getD s undef=x at hvs
  cases hvs with
  | fn _ vs1 vs2 _ _ hl1 hl2 p1 p2 =>
    have:vs1=[]:=List.eq_nil_of_length_eq_zero (by simpa using hl1)
    subst this
    exact ⟨vs2,rfl,hl2,p2⟩
 unfold wpList
 rw [if_pos (wanted_none hg _)]
 refine .inl ?_
 have hrun:(execOp a2.eval od).run P w2 = .ok (.defer { target := .fn (.func g) capv.toArray,args := #[] }) w2:=by
  unfold execOp
  rw [hop]
  simp only [resolve,hcal,hcar,Act.eval,hev,Deferred.ofValue,Sem.run_bind,Sem.run_pure,Result.andThen_ok]
  simp
 unfold Oper.wp
 rw [hrun,Oper.upon_defer,hd]
 have hs3:SR κ2 ⟨fn.ntmps,[{ target := .fn (.func g) capv.toArray,args := #[] }]⟩ fr2 H2 { a2 with defers := { target := .fn (.func g) capv.toArray,args := #[] } :: a2.defers } w2:=⟨hs2.size,by simp only [hs2.defers],hs2.hr,hs2.vr⟩
 show cb.wp P _ { a2 with defers := { target := .fn (.func g) capv.toArray,args := #[] } :: a2.defers } w2
 refine wp_mono (awp_sound hs2.hr.dom cb _ κ2 fr2 H2 _ w2 (Zam.K.le_refl κ2) hs3 (h2 hs2.hr.closed)) ?_
 rintro e a4 w4 ⟨κ4,fr4,H4,e',he,h24,hs4,hcall⟩
 have fin:(ACallD P g cap H4 fun H5=>∃ m,H.length≤m∧m≤H5.length∧K (.tup []) (Hp.cut m H5))→Leaves P fn a4.tmps (fun e w'=>∃ v κ' x H',e = .returned v ∧ κ.le κ'∧HR κ' H' w'∧VR κ' v x∧K x H') a4.defers .returning w4:=by
  intro hc
  rw [hs4.defers]
  refine leaves_cons (by simp) ?_ (CallsD.mono (hc κ4 w4 capv hs4.hr hcl fun i v a hi ha=>(hcv i v a hi ha).mono h24) ?_)
  · simp only [invoke]
    rw [callFunc_ok hok]
    simp
  · rintro e u w5 ⟨rfl,v,κ5,H5,rfl,h45,hr5,m,hm1,hm2,hk⟩
    have hle : κ.le κ5:=(h02.trans h24).trans h45
    exact ⟨_,no_results hres _ _,_,κ5.cut m,.tup [],Hp.cut m H5,rfl,Zam.K.le_cut hle fun i hi=>hr.dom i (by omega),hr5.cut m hm2,.tup [] [] rfl (by simp),hk⟩
 cases e<;>cases e'<;>simp only [ExR] at he
 · exact fin hcall
 · exact hcall.elim
 · exact fin hcall
def irScWrong (ed:Nat):IFn:=⟨24,[],.ops [Jm 6 0,Jn 7 6,Jf 8 0 7,Jl 9 8,Jm 10 0,Jn 11 10,Jf 12 0 11,Jl 13 12,Jn 14 13,Jf 15 2 14,Jl 16 15,Jm 17 1,Jm 18 2,Jp 19 (.build [J0,J0] [(0,1,.t 17),(1,1,.t 18)]),Jp 20 (.bslice 2 [.t 19]),Jp 21 (.appV 2 16 ed (.t 16) (.t 20)),Jn 22 9,Jf 23 2 22,Js 1 23 21] true⟩
def irScBind (wrong tn bd:Nat):IFn:=⟨58,[],Jq [Jp 6 (.box tn 6 (.t 2))] (.seq (Jq [Jm 11 1,Jf 12 3 6,Jl 13 12,Jp 14 (.lkp true JS false [J0] (.t 11) (.t 13)),Jm 10 14,Je 15 10 0,Je 16 10 1,Jm 8 15,Jm 9 16] (Jk [Jm 17 9] 17 (Jz [Jm 18 0,Jf 19 4 6,Jl 20 19,Jc 21 wrong [.t 18,.t 20,JI 31]]) .skip)) (.seq (.ops [Jm 22 1,Jf 23 3 6,Jl 24 23,Jm 25 0,Jn 26 25,Jf 27 0 26,Jl 28 27,Jn 29 28,Jf 30 0 29,Jl 31 30,Jh 32 31,Jv (.mpUpd JS (.t 22) (.t 24) (.t 32))] true) (.ops [Jm 33 0,Jn 34 33,Jf 35 0 34,Jl 36 35,Jm 37 0,Jn 38 37,Jf 39 0 38,Jl 40 39,Jn 41 40,Jf 42 0 41,Jl 43 42,Jf 44 4 6,Jl 45 44,Jm 46 3,Jf 47 3 6,Jl 48 47,Jm 49 0,Jn 50 49,Jf 51 3 50,Jl 52 51,Jp 53 (.build [J0,J0,JS,J0] [(0,1,.t 45),(1,1,.t 46),(2,1,.t 48),(3,1,.t 52)]),Jp 54 (.bslice 4 [.t 53]),Jp 55 (.app 4 40 bd (.t 43) (.t 54)),Jn 56 36,Jf 57 0 56,Js 1 57 55] true)))⟩
def irScRes :IFn:=⟨6,[],Jz [Jl 2 1,Jl 3 0,Jn 4 2,Jf 5 1 4,Js 1 5 3]⟩
def irScNode (within kids bind mention closed nodeC tp tn:Nat):IFn:=⟨48,[],Jq [Jp 2 (.box tp 1 (.t 0)),Jp 3 (.box tn 6 (.t 1))] (Jq [Jf 4 0 3,Jl 5 4] (.blk 0 (Jk [JB 10 .eql 5 6,Jm 9 10] 9 (Jz [Jl 11 2,Jp 12 (.mkfn (.func nodeC) [] [.t 2,.t 3]),Jc 13 within [.t 11,.c (.bool false),.t 12]]) (Jk [JB 15 .eql 5 7,Jm 14 15] 14 (Jq [Jl 16 2,JL 17 6 3,Jc 18 kids [.t 16,.t 17]] (.ops [Jl 19 2,Jl 20 2,Jn 21 20,Jf 22 1 21,Jl 23 22,Jn 24 23,Jf 25 0 24,Jl 26 25,JL 27 6 3,Jp 28 (.callE bind [.t 19,.t 26,.t 27,JI 4])] true)) (Jk [JB 30 .eql 5 8,Jm 29 30] 29 (Jq [Jl 31 2,JL 32 6 3,Jc 33 mention [.t 31,.t 32,.c (.bool true)]] (Jz [Jl 34 2,JL 35 6 3,Jc 36 kids [.t 34,.t 35]])) (Jk [JB 38 .eql 5 23,Jm 37 38] 37 (Jz [Jl 39 2,JL 40 6 3,Jc 41 mention [.t 39,.t 40,.c (.bool false)]]) (Jk [JB 43 .eql 5 28,Jm 42 43] 42 (Jz [Jl 44 2,Jf 45 5 3,Jl 46 45,Jc 47 closed [.t 44,.t 46,.c (.bool true)]]) (Jz [Jl 6 2,JL 7 6 3,Jc 8 kids [.t 6,.t 7]]))))))))⟩
def irScNodeC (kids:Nat):IFn:=⟨5,[],Jz [Jl 2 0,JL 3 6 1,Jc 4 kids [.t 2,.t 3]]⟩
def irScKids (node tn:Nat):IFn:=⟨17,[],Jq [Jp 3 (.box tn 6 (.t 1))] (Jq [Jf 6 5 3,Jl 7 6,Jh 8 7,Ji 9 0] (.blk 0 (.loop (Jr 9 8 10 16 0 1 (Jq [JA 11 6 7 9,JL 12 6 11,Jy 5 tn JN,Js 6 5 12] (Jz [Jm 13 0,JL 14 6 5,Jc 15 node [.t 13,.t 14]]))))))⟩
def irScMention (find wrong tn mn:Nat):IFn:=⟨63,[],Jq [Jp 4 (.box tn 6 (.t 1))] (Jq [Jm 9 0,Jf 10 3 4,Jl 11 10,Jc 12 find [.t 9,.t 11],Jm 8 12,Je 13 8 0,Je 14 8 1,Jm 6 13,Jm 7 14] (.seq (.blk 0 (Jk [Jm 16 6,JB 17 .lss 16 0,Jm 15 17] 15 (Jz [Jm 18 0,Jf 19 4 4,Jl 20 19,Jc 21 wrong [.t 18,.t 20,JI 30]]) (Jk [Jm 23 2,Jm 24 23,Jg 25 24 true (Km 0),Jg 26 24 true (.nilCheck (.t 25)),Jg 27 24 true (Kh 0 26),Jg 28 24 true (Kl 27),Jg 29 24 true (.nilCheck (.t 28)),Jg 30 24 true (Kh 0 29),Jg 31 24 true (Kl 30),Jg 32 24 true (Km 6),Jg 33 24 true (KA 4 31 32),Jg 34 24 true (Kh 1 33),Jg 35 24 true (Kl 34),Jg 36 24 true (KB .lss 35 3),Ja 37 24 36,Jm 22 37] 22 (Jz [Jm 38 0,Jf 39 4 4,Jl 40 39,Jc 41 wrong [.t 38,.t 40,JI 35]]) .skip))) (.ops [Jm 42 0,Jn 43 42,Jf 44 0 43,Jl 45 44,Jm 46 0,Jn 47 46,Jf 48 0 47,Jl 49 48,Jn 50 49,Jf 51 1 50,Jl 52 51,Jf 53 4 4,Jl 54 53,Jm 55 6,Jm 56 2,Jm 57 7,Jp 58 (.build [J0,J0,.bool false,J0] [(0,1,.t 54),(1,1,.t 55),(2,1,.t 56),(3,1,.t 57)]),Jp 59 (.bslice 4 [.t 58]),Jp 60 (.app 4 32 mn (.t 52) (.t 59)),Jn 61 45,Jf 62 1 61,Js 1 62 60] true)))⟩
def irScFind :IFn:=⟨50,[.t 4,.t 5],Jq [Ji 4 0,Ji 5 0] (.seq (Jq [Jm 11 0,Jn 12 11,Jf 13 1 12,Jl 14 13,Jm 6 14] (.blk 0 (.loop (.seq (Jk [Jm 15 6,Jp 16 (.isNilP true (.t 15))] 16 .skip (.exit 0)) (.seq (.blk 1 (.seq (Jq [Jm 22 6,Jn 23 22,Jf 24 0 23,Jl 25 24,Jm 26 1,Jp 27 (.lkp true JS false [J0] (.t 25) (.t 26)),Jm 21 27,Je 28 21 0,Je 29 21 1,Jm 7 28,Jm 8 29] (Jk [Jm 30 8] 30 (Jq [Jm 31 7,Jm 32 5,Jm 4 31,Jm 5 32] .ret) .skip)) (Jk [Jm 33 6,Jn 34 33,Jf 35 1 34,Jl 36 35] 36 (Jz [Jm 37 5,JB 38 .add 37 1,Jm 5 38]) .skip))) (Jz [Jm 17 6,Jn 18 17,Jf 19 2 18,Jl 20 19,Jm 6 20])))))) (.seq (Jq [Jm 40 0,Jn 41 40,Jf 42 2 41,Jl 43 42,Jm 44 1,Jp 45 (.lkp true JS false [J0] (.t 43) (.t 44)),Jm 39 45,Je 46 39 0,Je 47 39 1,Jm 9 46,Jm 10 47] (Jk [Jm 48 10] 48 (Jq [Jm 49 9,Jm 4 49,Ji 5 0] .ret) .skip)) (Jq [Ji 4 (-1),Ji 5 0] .ret)))⟩
def irScClosed (within closedC tp ts:Nat):IFn:=⟨13,[],Jq [Jp 3 (.box tp 1 (.t 0)),Jp 4 (.box ts 1 (.t 1))] (.seq (Jk [Jl 6 4,Jh 7 6,JB 8 .neq 7 3] 8 .ret .skip) (Jz [Jl 9 3,Jm 10 2,Jp 11 (.mkfn (.func closedC) [] [.t 4,.t 3]),Jc 12 within [.t 9,.t 10,.t 11]]))⟩
def irScClosedC (bind node tn:Nat):IFn:=⟨29,[],.seq (Jq [Jl 4 0,Jp 5 (.iaddr 6 (.t 4) (JI 0)),Jf 6 5 5,Jl 7 6,Jh 8 7,Ji 9 0] (.blk 0 (.loop (Jr 9 8 10 23 0 1 (Jq [JA 11 6 7 9,JL 12 6 11,Jy 3 tn JN,Js 6 3 12] (.ops [Jl 13 1,Jl 14 1,Jn 15 14,Jf 16 1 15,Jl 17 16,Jn 18 17,Jf 19 0 18,Jl 20 19,JL 21 6 3,Jp 22 (.callE bind [.t 13,.t 20,.t 21,JI 3])] true)))))) (.ops [Jl 24 1,Jl 25 0,Jp 26 (.iaddr 6 (.t 25) (JI 2)),JL 27 6 26,Jp 28 (.callE node [.t 24,.t 27])] true)⟩
def irScOf (bind closed srt cmp tn tm tb bd mn ed:Nat):IFn:=⟨69,[.cell 2 3 true],Jq [Jp 1 (.box tn 6 (.t 0)),Jy 2 tm [.sl true 4 [],.sl true 4 [],.sl true 2 []]] (Jq [Jp 3 (.allocU tm [.sl true 4 [],.sl true 4 [],.sl true 2 []] [(0,4,bd),(1,4,mn),(2,1000002,ed)])] (Jq [Jp 9 .mkMap,Jp 10 (.build [.nilp,.nilp,.nilm,J0] [(0,1,.t 3),(2,1,.t 9)]),Jp 11 (.box tb 4 (.t 10)),Jm 4 11] (.seq (Jq [Jf 12 5 1,Jl 13 12,Jh 14 13,Ji 15 0] (.blk 0 (.loop (Jr 15 14 16 44 0 1 (Jq [Jm 17 15,JA 18 6 13 15,JL 19 6 18,Jy 6 tn JN,Jm 5 17,Js 6 6 19] (Jq [Jm 20 4,Jm 21 5,Jn 22 20,Jf 23 3 22,Js 1 23 21] (Jq [Jf 24 0 6,Jl 25 24] (.blk 2 (Jk [JB 27 .eql 25 2,Jm 26 27] 26 (.ops [Jm 28 4,Jm 29 4,Jn 30 29,Jf 31 2 30,Jl 32 31,JL 33 6 6,Jp 34 (.callE bind [.t 28,.t 32,.t 33,JI 1])] true) (Jk [JB 36 .eql 25 3,Jm 35 36] 35 (.ops [Jm 37 4,Jm 38 4,Jn 39 38,Jf 40 2 39,Jl 41 40,JL 42 6 6,Jp 43 (.callE bind [.t 37,.t 41,.t 42,JI 2])] true) .skip)))))))))) (.seq (Jq [Jf 45 5 1,Jl 46 45,Jh 47 46,Ji 48 0] (.blk 3 (.loop (Jr 48 47 49 64 3 4 (Jq [Jm 50 48,JA 51 6 46 48,JL 52 6 51,Jy 8 tn JN,Jm 7 50,Js 6 8 52] (Jq [Jm 53 4,Jm 54 7,Jn 55 53,Jf 56 3 55,Js 1 56 54] (Jk [Jf 57 0 8,Jl 58 57,JB 59 .eql 58 3] 59 (Jz [Jm 60 4,Jf 61 5 8,Jl 62 61,Jc 63 closed [.t 60,.t 62,.c (.bool false)]]) .skip))))))) (Jq [Jf 65 2 3,Jl 66 65,Jc 67 srt [.t 66,.c (.fn cmp)]] (Jq [JL 68 3 3,Js 3 2 68] .ret))))))⟩
def irScCmp (cmpI ed:Nat):IFn:=⟨10,[.t 4],Jq [Jp 2 (.box ed 2 (.t 0)),Jp 3 (.box ed 2 (.t 1)),Ji 4 0] (Jq [Jf 5 0 2,Jl 6 5,Jf 7 0 3,Jl 8 7,Jc 9 cmpI [.t 6,.t 8],Jm 4 9] .ret)⟩
inductive Utf:Bs→Prop
 | nil:Utf []
 | step {s:Bs} (h:s ≠ []) (hd:decU s ≠ (65533,1)) (hr:Utf (s.drop (decU s).2)):Utf s
theorem badF_ge:∀ (f:Nat) (s:Bs) (n:Nat),badF f s n = -1∨0≤badF f s n
 | 0,_,_ => .inl rfl
 | f + 1, s, n => by
   rw [badF]
   split
   · exact .inl rfl
   · split
     · exact .inr (by omega)
     · exact badF_ge f _ _
theorem badF_utf:∀ (f:Nat) (s:Bs) (n:Nat),s.length≤f→(badF f s n = -1 ↔ Utf s)
 | 0, s, n, h => by
   have:s=[]:=List.eq_nil_of_length_eq_zero (by omega)
   subst this
   exact ⟨fun _ => .nil,fun _=>rfl⟩
 | f + 1, s, n, h => by
   rw [badF]
   by_cases hs:s=[]
   · rw [if_pos hs]; subst hs; exact ⟨fun _ => .nil,fun _=>rfl⟩
   rw [if_neg hs]
   by_cases hd:decU s=(65533,1)
   · rw [if_pos hd]
     constructor
     · intro e; omega
     · intro hu
       cases hu with
       | nil=>exact absurd rfl hs
       | step _ h2 _=>exact absurd hd h2
   · rw [if_neg hd]
     have hl:=decU_len hs
     rw [badF_utf f _ _ (by simp; omega)]
     constructor
     · exact fun h => .step hs hd h
     · intro hu
       cases hu with
       | nil=>exact absurd rfl hs
       | step _ _ h3=>exact h3
theorem badS_utf (s:Bs):¬ 0≤badS s ↔ Utf s:=by
 rw [← badF_utf s.length s 0 (Nat.le_refl _)]
 have:=badF_ge s.length s 0
 unfold badS
 omega
inductive Toks:Bs→Nat→List Tk→Prop
 | fin {s:Bs} {n:Nat} (h:(tokN (s.drop (leadS false s))).1=0) (h0:s.drop (leadS false s)=[]):Toks s n [⟨0,n+leadS false s,s.take (leadS false s),[]⟩]
 | tok {s:Bs} {n:Nat} {l:List Tk} (h:(tokN (s.drop (leadS false s))).1=0) (h0:s.drop (leadS false s) ≠ []) (hr:Toks ((s.drop (leadS false s)).drop (tokN (s.drop (leadS false s))).2.2) (n+leadS false s+(tokN (s.drop (leadS false s))).2.2) l) :
  Toks s n (⟨(tokN (s.drop (leadS false s))).2.1,n+leadS false s,s.take (leadS false s),(s.drop (leadS false s)).take (tokN (s.drop (leadS false s))).2.2⟩ :: l)
theorem lexF_toks:∀ (f:Nat) (s:Bs) (n c:Nat),s.length < f→((lexF f s n c).2.1=0 ↔ ∃ l,Toks s n l∧c+l.length≤4000)∧((lexF f s n c).2.1=0→Toks s n (lexF f s n c).1∧c+(lexF f s n c).1.length≤4000)
 | 0,s,n,c,h=>by omega
 | f + 1, s, n, c, h => by
   have htl:=tokN_len (s.drop (leadS false s))
   obtain ⟨t1,t2,t3,t4⟩:=htl
   rw [lexF]
   by_cases he:(tokN (s.drop (leadS false s))).1=0
   case neg =>
    rw [if_pos he]
    refine ⟨⟨fun e=>absurd e he,?_⟩,fun e=>absurd e he⟩
    rintro ⟨l,hl,-⟩
    cases hl with
    | fin h1 h2=>exact absurd h1 he
    | tok h1 h2 h3=>exact absurd h1 he
   rw [if_neg (by simp [he])]
   by_cases hc:4000≤c
   case pos =>
    rw [if_pos hc]
    refine ⟨⟨fun e=>absurd e (by simp),?_⟩,fun e=>absurd e (by simp)⟩
    rintro ⟨l,hl,hlc⟩
    cases hl with
    | fin h1 h2=>simp at hlc; omega
    | tok h1 h2 h3=>simp at hlc; omega
   rw [if_neg hc]
   by_cases hk:(tokN (s.drop (leadS false s))).2.1=0
   · rw [if_pos hk]
     have hnil:=t2 he hk
     have hT:Toks s n [⟨(tokN (s.drop (leadS false s))).2.1,n+leadS false s,s.take (leadS false s),(s.drop (leadS false s)).take (tokN (s.drop (leadS false s))).2.2⟩]:=by
      have:=Toks.fin (n:=n) he hnil
      rw [hk,hnil]
      simpa using this
     exact ⟨⟨fun _=>⟨_,hT,by simp; omega⟩,fun _=>rfl⟩,fun _=>⟨hT,by simp; omega⟩⟩
   · rw [if_neg hk]
     have hne:s.drop (leadS false s) ≠ []:=fun e=>hk (t4 e)
     have hm:=t3 he hne
     have hlen:((s.drop (leadS false s)).drop (tokN (s.drop (leadS false s))).2.2).length < f:=by
      simp only [List.length_drop] at t1 ⊢
      have:leadS false s < s.length:=by
       rcases Nat.lt_or_ge (leadS false s) s.length with h' | h'
       · exact h'
       · exact absurd (List.drop_eq_nil_of_le h') hne
      omega
     obtain ⟨i1,i2⟩:=lexF_toks f _ (n+leadS false s+(tokN (s.drop (leadS false s))).2.2) (c+1) hlen
     generalize lexF f ((s.drop (leadS false s)).drop (tokN (s.drop (leadS false s))).2.2) (n+leadS false s+(tokN (s.drop (leadS false s))).2.2) (c+1)=R at i1 i2
     by_cases hR:R.2.1=0
     · rw [if_pos hR]
       obtain ⟨j1,j2⟩:=i2 hR
       have hT:=Toks.tok (n:=n) he hne j1
       exact ⟨⟨fun _=>⟨_,hT,by simp; omega⟩,fun _=>rfl⟩,fun _=>⟨hT,by simp; omega⟩⟩
     · rw [if_neg hR]
       refine ⟨⟨fun e=>absurd e hR,?_⟩,fun e=>absurd e hR⟩
       rintro ⟨l,hl,hlc⟩
       exfalso
       cases hl with
       | fin h1 h2=>exact hne h2
       | tok h1 h2 h3=>exact hR (i1.2 ⟨_,h3,by simp at hlc; omega⟩)
theorem lexS_ok (s:Bs):((lexS s).2.1=0 ↔ s.length≤16384∧Utf s∧∃ l,Toks s 0 l∧l.length≤4000)∧((lexS s).2.1=0→Toks s 0 (lexS s).1∧(lexS s).1.length≤4000):=by
 have hu:=badS_utf s
 unfold lexS
 by_cases h1:16384 < s.length
 · rw [if_pos h1]
   exact ⟨⟨fun e=>absurd e (by simp),fun e=>by omega⟩,fun e=>absurd e (by simp)⟩
 rw [if_neg h1]
 by_cases h2:0≤badS s
 · rw [if_pos h2]
   exact ⟨⟨fun e=>absurd e (by simp),fun e=>absurd e.2.1 fun q=>hu.2 q h2⟩,fun e=>absurd e (by simp)⟩
 rw [if_neg h2]
 obtain ⟨i1,i2⟩:=lexF_toks (s.length+1) s 0 0 (by omega)
 refine ⟨?_,fun e=>by simpa using i2 e⟩
 rw [i1]
 simp only [Nat.zero_add]
 exact ⟨fun ⟨l,a,b⟩=>⟨by omega,hu.1 h2,l,a,b⟩,fun ⟨_,_,q⟩=>q⟩
section
def EndsL (L:List Tk):Prop:=∀ i,i+1=L.length→kdT L i=0
theorem kdT_ltE {L:List Tk} {i:Nat} (hE:EndsL L) (h:kdT L i ≠ 0):i+1 < L.length:=by
 have:=kdT_lt h
 rcases Nat.lt_or_ge (i+1) L.length with h' | h'
 · exact h'
 · exact absurd (hE i (by omega)) h
theorem isT_kd {L:List Tk} {i:Nat} {x:Bs} (h:isT L i x=true):kdT L i ≠ 0:=by
 unfold isT at h
 unfold kdT
 cases hg:L[i]? with
 | none=>rw [hg] at h; cases h
 | some t =>
   rw [hg] at h
   simp at h ⊢
   rcases h.1 with h | h<;>omega
theorem isT_ltE {L:List Tk} {i:Nat} {x:Bs} (hE:EndsL L) (h:isT L i x=true):i+1 < L.length:=kdT_ltE hE (isT_kd h)
def Bd (L:List Tk):PR→Prop
 | .ok _ j | .bad j=>j < L.length
 | .out=>True
section
variable {L:List Tk}
theorem Bd.want (hE:EndsL L) {k:Nat} {x:Bs} {h:Nat→PR} (hk:k < L.length) (hh:k+1 < L.length→Bd L (h (k+1))):Bd L (wantR L k x h):=by
 unfold wantR
 split
 · rename_i e; exact hh (isT_ltE hE e)
 · exact hk
theorem Bd.word (hE:EndsL L) {k:Nat} {h:Bs→Nat→PR} (hk:k < L.length) (hh:k+1 < L.length→Bd L (h (txT L k) (k+1))):Bd L (wordR L k h):=by
 unfold wordR
 split
 · rename_i e; exact hh (kdT_ltE hE (by omega))
 · exact hk
theorem Bd.ifT (hE:EndsL L) {k:Nat} {x:Bs} {a b:PR} (ha:k+1 < L.length→Bd L a) (hb:Bd L b):Bd L (if isT L k x then a else b):=by
 split
 · rename_i e; exact ha (isT_ltE hE e)
 · exact hb
theorem Bd.ifK (hE:EndsL L) {k:Nat} {x:Int} {a b:PR} (hx:x ≠ 0) (ha:k+1 < L.length→Bd L a) (hb:Bd L b):Bd L (if kdT L k=x then a else b):=by
 split
 · rename_i e; exact ha (kdT_ltE hE (by omega))
 · exact hb
theorem Bd.if0 {k:Nat} {a b:PR} (ha:Bd L a) (hb:Bd L b):Bd L (if kdT L k=0 then a else b):=by
 split
 · exact ha
 · exact hb
theorem Bd.ifS (hE:EndsL L) {k:Nat} {x:Bs} {a b:PR} (ha:k+2 < L.length→Bd L a) (hb:Bd L b):Bd L (if kdT L k=1∧isT L (k+1) x=true then a else b):=by
 split
 · rename_i e; exact ha (by have:=isT_ltE hE e.2; omega)
 · exact hb
theorem Bd.thenG {r:PR} {h:N→Nat→PR} (hr:Bd L r) (hh:∀ m j,j < L.length→Bd L (h m j)):Bd L (r.then h):=by
 cases r with
 | out=>trivial
 | bad j=>exact hr
 | ok m j=>exact hh m j hr
theorem pp_bd (hE:EndsL L):∀ (n:Nat) (g:G) (i:Nat),i < L.length→Bd L (pp L n g i)
 | 0,g,i,_=>trivial
 | n + 1, g, i, hi => by
   have ih:=pp_bd hE n
   cases g
   all_goals simp only [pp]
   all_goals
    repeat' first
     | (refine Bd.want hE (by omega) fun _ => ?_)
     | (refine Bd.word hE (by omega) fun _ => ?_)
     | (refine Bd.ifT hE (fun _ => ?_) ?_)
     | (refine Bd.ifK hE (by decide) (fun _ => ?_) ?_)
     | (refine Bd.ifS hE (fun _ => ?_) ?_)
     | (refine Bd.if0 ?_ ?_)
     | (refine Bd.thenG (ih _ _ (by omega)) fun m j h1 => ?_)
     | (exact (by omega:_ < L.length))
     | (exact ih _ _ (by omega))
theorem parseF_bad (hE:EndsL L) (h0:0 < L.length) {q:Nat} (h:parseF L = .bad q):q < L.length:=by
 have:=pp_bd hE (16 * L.length+8) (.file []) 0 h0
 rw [show pp L (16 * L.length+8) (.file []) 0 = .bad q from h] at this
 exact this
end
theorem tokN_key (s:Bs):(tokN s).1=0→(tokN s).2.1=2→s.take (tokN s).2.2 ∈ keysL:=by
 cases s with
 | nil=>intro _ h; cases h
 | cons b r =>
   rw [tokN]
   (repeat' split)<;>simp_all
theorem Toks.like {s:Bs} {n:Nat} {l:List Tk} (h:Toks s n l):l ≠ []∧EndsL l∧(∀ i,i+1 < l.length→kdT l i ≠ 0)∧∀ t ∈ l,t.k=2→t.x ∈ keysL:=by
 induction h with
 | fin h h0 =>
   refine ⟨by simp,fun i hi => ?_,fun i hi=>by simp at hi,?_⟩
   · have:i=0:=by simp at hi; omega
     subst this; rfl
   · intro t ht hk
     simp at ht; subst ht
     simp at hk
 | @tok s n l h h0 hr ih =>
   obtain ⟨i1,i2,i3,i4⟩:=ih
   have htl:=tokN_len (s.drop (leadS false s))
   obtain ⟨t1,t2,t3,t4⟩:=htl
   have hl:0 < l.length:=List.length_pos_iff.2 i1
   refine ⟨by simp,fun i hi => ?_,fun i hi => ?_,?_⟩
   · cases i with
     | zero=>exact absurd hi (by simp only [List.length_cons]; omega)
     | succ i=>exact i2 i (by simpa using hi)
   · cases i with
     | zero =>
       show (tokN (s.drop (leadS false s))).2.1 ≠ 0
       exact fun e=>h0 (t2 h e)
     | succ i=>exact i3 i (by simpa using hi)
   · intro t ht hk
     rcases List.mem_cons.1 ht with rfl | ht
     · exact tokN_key _ h hk
     · exact i4 t ht hk
theorem noEq_of {l:List Tk} (h:∀ t ∈ l,t.k=2→t.x ∈ keysL) (i:Nat) (hi:isT l i [61]=true):kdT l i=5:=by
 unfold isT at hi
 unfold kdT
 cases hg:l[i]? with
 | none=>rw [hg] at hi; cases hi
 | some t =>
   rw [hg] at hi
   simp at hi ⊢
   rcases hi.1 with e | e
   · have:=h t (List.mem_of_getElem? hg) e
     rw [hi.2] at this
     exact absurd this (by decide)
   · exact e
theorem lexS_like {s:Bs} (h:(lexS s).2.1=0):(lexS s).1 ≠ []∧EndsL (lexS s).1∧(∀ i,i+1 < (lexS s).1.length→kdT (lexS s).1 i ≠ 0)∧(∀ i,isT (lexS s).1 i [61]=true→kdT (lexS s).1 i=5)∧(lexS s).1.length≤4000:=by
 obtain ⟨h1,h2⟩:=(lexS_ok s).2 h
 obtain ⟨a1,a2,a3,a4⟩:=h1.like
 exact ⟨a1,a2,a3,noEq_of a4,h2⟩
def parseO (s:Bs):List Tk × N × Int × Int :=
 if (lexS s).2.1 ≠ 0 then ([],N.none,(lexS s).2.1,(lexS s).2.2)
 else if (parseP (lexS s).1).2.1 ≠ 0 then ([],N.none,(parseP (lexS s).1).2.1,match (lexS s).1[(parseP (lexS s).1).2.2.toNat]? with | some t=>(t.a:Int) | none=>0)
 else ((lexS s).1,(parseP (lexS s).1).1,0,0)
theorem parseP_at {L:List Tk} (hE:EndsL L) (h0:L ≠ []):0≤(parseP L).2.2∧(parseP L).2.2.toNat < L.length:=by
 have hl:=List.length_pos_iff.2 h0
 unfold parseP
 split
 · exact ⟨by simp,by simpa using hl⟩
 · split
   · split<;>exact ⟨by simp,by simpa using hl⟩
   · rename_i q hq
     have:=parseF_bad hE hl hq
     exact ⟨by simp,by simpa using this⟩
   · exact ⟨by simp,by simpa using hl⟩
section
variable {P:Program}
theorem Has.of_ {f fl fp tn} (h:Has P f (irPOf fl fp tn)) {H0:Hp} (hl:∀ (s:Bs),s.length≤1048576→∀ H,Pre0 H0 H→ACall P fl [.d (.str s)] H (fun r H'=>r = .tup [.d (.sl true 4 ((lexS s).1.map encTk)),.d (.int .i64 (lexS s).2.1),.d (.int .i64 (lexS s).2.2)]∧H'=H))
 (hp:∀ (z:Bool) (L:List Tk),L.length≤1048576→(∀ i,isT L i [61]=true→kdT L i=5)→∀ H,ACall P fp [.d (.sl z 4 (L.map encTk))] H (fun r H'=>r = .tup [(parseP L).1.v,.d (.int .i64 (parseP L).2.1),.d (.int .i64 (parseP L).2.2)]∧H'=H))
 (s:Bs) (hs:s.length≤1048576) (H:Hp) (hH:Pre0 H0 H) :
 ACall P f [.d (.str s)] H (fun r H'=>r = .tup [.d (.sl true 4 ((parseO s).1.map encTk)),(parseO s).2.1.v,.d (.int .i64 (parseO s).2.2.1),.d (.int .i64 (parseO s).2.2.2)]∧H'=H):=by
 obtain ⟨fn,hf,hcf⟩:=h
 refine acall_fin hf hcf (by simp [irPOf]) fun hcl _ => ?_
 obtain ⟨Q,hQ⟩:∃ Q:A→Hp→Prop,Q=fun r H'=>r = .tup [.d (.sl true 4 ((parseO s).1.map encTk)),(parseO s).2.1.v,.d (.int .i64 (parseO s).2.2.1),.d (.int .i64 (parseO s).2.2.2)]∧H'=H:=⟨_,rfl⟩
 rw [← hQ]
 have hnone:∀ e b:Int,parseO s=([],N.none,e,b)→Q (.tup [.d (.sl true 4 []),.agg [.d (.int .i64 0),.d (.int .i64 0),.d (.int .i64 0),.d (.str []),.d (.int .i64 0),.d (.sl true 6 [])],.d (.int .i64 e),.d (.int .i64 b)]) H:=fun e b h=>by
  subst hQ
  rw [h]
  exact ⟨rfl,rfl⟩
 have hO:parseO s=if (lexS s).2.1 ≠ 0 then ([],N.none,(lexS s).2.1,(lexS s).2.2)
  else if (parseP (lexS s).1).2.1 ≠ 0 then ([],N.none,(parseP (lexS s).1).2.1,match (lexS s).1[(parseP (lexS s).1).2.2.toNat]? with | some t=>(t.a:Int) | none=>0)
  else ((lexS s).1,(parseP (lexS s).1).1,0,0):=rfl
 have hlk:=lexS_like (s:=s)
 have g1:=hl s hs _ (hH.app [Ob.box tn [.d (.int .i64 0),.d (.int .i64 0),.d (.int .i64 0),.d (.str []),.d (.int .i64 0),.d (.sl true 6 [])]])
 generalize lexS s=LS at hO hlk g1
 obtain ⟨L,e,b⟩:=LS
 simp only at hO hlk g1
 simp [irPOf]
 refine CallK_of' g1 ?_
 by_cases he:e=0
 case neg =>
  rw [if_pos he] at hO
  simp [he]
  simp [RetK,cut_app hcl]
  exact hnone e b hO
 rw [if_neg (by simp [he])] at hO
 obtain ⟨l1,l2,l3,l4,l5⟩:=hlk he
 have hat:=parseP_at l2 l1
 have g2:=hp true L (by omega) l4
 generalize parseP L=PS at hO hat g2
 obtain ⟨m,e2,b2⟩:=PS
 simp only at hO hat g2
 simp [he]
 refine CallK_of' (g2 _) ?_
 obtain ⟨k,f',t,w,a,z,ks⟩:=m
 rw [N.v_mk]
 obtain ⟨hb0,hb1⟩:=hat
 obtain ⟨q,rfl⟩:∃ q:Nat,b2=(q:Int):=⟨b2.toNat,by omega⟩
 simp only [Int.toNat_natCast] at hO hb1
 have hr:=rowAt_map encTk hb1
 rw [List.getElem?_eq_getElem hb1] at hO
 generalize L[q]=tk at hr hO
 obtain ⟨tk,ta,tl,tx⟩:=tk
 simp only [encTk] at hr
 simp
 by_cases he2:e2=0
 case neg =>
  rw [if_pos he2] at hO
  simp [he2,hr]
  repeat' apply And.intro
  all_goals
   simp [RetK,cut_app hcl]
   try exact hnone e2 ta hO
 rw [if_neg (by simp [he2])] at hO
 simp [he2]
 simp [RetK,cut_app hcl]
 subst hQ
 rw [hO]
 exact ⟨by rw [N.v_mk],rfl⟩
end
end
section
def ApR (P:N→Nat→Prop):PR→Prop
 | .ok m j=>P m j
 | _=>True
def G.one:G→Bool
 | .param | .tfield | .kind | .expr | .entry=>true
 | _=>false
def G.flat:G→Prop
 | .list o _ | .listL o _ _=>o.one=true
 | _=>True
section
variable {L:List Tk} {P:N→Nat→Prop}
theorem ApR.want {k:Nat} {x:Bs} {h:Nat→PR} (hh:ApR P (h (k+1))):ApR P (wantR L k x h):=by
 unfold wantR
 split
 · exact hh
 · trivial
theorem ApR.word {k:Nat} {h:Bs→Nat→PR} (hh:ApR P (h (txT L k) (k+1))):ApR P (wordR L k h):=by
 unfold wordR
 split
 · exact hh
 · trivial
theorem ApR.ite {c:Prop} [Decidable c] {a b:PR} (ha:ApR P a) (hb:ApR P b):ApR P (if c then a else b):=by
 split
 · exact ha
 · exact hb
theorem ApR.ok {m:N} {j:Nat} (h:P m j):ApR P (.ok m j):=h
end
end
structure SBd where
 a:Int
 k:Int
 w:Bs
 i:Int
 deriving DecidableEq
instance:Inhabited SBd:=⟨⟨0,0,[],0⟩⟩
structure Mn where
 a:Int
 t:Int
 wr:Bool
 far:Int
 deriving DecidableEq
structure SM where
 bs:List SBd
 ms:List Mn
 bad:List (Int × Int)
def encBd (b:SBd):List D:=[.int .i64 b.a,.int .i64 b.k,.str b.w,.int .i64 b.i]
def encMn (m:Mn):List D:=[.int .i64 m.a,.int .i64 m.t,.bool m.wr,.int .i64 m.far]
def encBad (x:Int × Int):List D:=[.int .i64 x.1,.int .i64 x.2]
def SM.enc (S:SM):List D:=[.sl S.bs.isEmpty 4 (S.bs.map encBd),.sl S.ms.isEmpty 4 (S.ms.map encMn),.sl S.bad.isEmpty 2 (S.bad.map encBad)]
abbrev Nms:=List (Bs × Int)
def nmGet (w:Bs):Nms→Option Int
 | []=>none
 | e :: r=>if w=e.1 then some e.2 else nmGet w r
def nmPut (w:Bs) (v:Int):Nms→Nms
 | []=>[(w,v)]
 | e :: r=>if w=e.1 then (w,v) :: r else e :: nmPut w v r
theorem nmGet_put (w u:Bs) (v:Int):∀ l:Nms,nmGet u (nmPut w v l)=if u=w then some v else nmGet u l
 | []=>by simp [nmPut,nmGet]
 | e :: r => by
   simp only [nmPut]
   by_cases h:w=e.1
   · rw [if_pos h]
     simp only [nmGet,← h]
     by_cases hu:u=w
     · simp [hu]
     · simp [hu]
   · rw [if_neg h]
     simp only [nmGet,nmGet_put w u v r]
     by_cases hu:u=e.1
     · have:u ≠ w:=fun e'=>h (e' ▸ hu)
       rw [if_pos hu,if_neg this,if_pos hu]
     · rw [if_neg hu,if_neg hu]
structure Frm where
 es:Nms
 lam:Bool
def SM.bind (S:SM) (kind item:Int) (n:N) (dup:Bool):SM:=⟨S.bs++[⟨n.at_,kind,n.w,item⟩],S.ms,if dup then S.bad++[(n.at_,31)] else S.bad⟩
def SM.men (S:SM) (n:N) (wr:Bool) (p:Int × Int):SM :=
 ⟨S.bs,S.ms++[⟨n.at_,p.1,wr,p.2⟩],if p.1 < 0 then S.bad++[(n.at_,30)] else if wr∧(S.bs.getD p.1.toNat default).k < 3 then S.bad++[(n.at_,35)] else S.bad⟩
def findP (G:Nms) (w:Bs):List Frm→Int→Int × Int
 | [], _ => match nmGet w G with
   | some i=>(i,0)
   | none=>(-1,0)
 | f :: r, far => match nmGet w f.es with
   | some i=>(i,far)
   | none=>findP G w r (if f.lam then far+1 else far)
def bindP (kind item:Int) (n:N) (fr:Nms) (S:SM):Nms × SM:=(nmPut n.w S.bs.length fr,S.bind kind item n (nmGet n.w fr).isSome)
def bindsP (item:Int):List N→Nms→SM→Nms × SM
 | [],fr,S=>(fr,S)
 | n :: r,fr,S=>bindsP item r (bindP 3 item n fr S).1 (bindP 3 item n fr S).2
mutual
def nodeP (G:Nms) (item:Int):N→List Frm→Nms→Bool→SM→Nms × SM
 | .mk k f t w a z ks, E, fr, lam, S =>
   if k=6 then (fr,(kidsP G item ks (⟨fr,lam⟩ :: E) [] false S).2)
   else if k=7 then bindP 4 item (.mk k f t w a z ks) (kidsP G item ks E fr lam S).1 (kidsP G item ks E fr lam S).2
   else if k=8 then kidsP G item ks E fr lam (S.men (.mk k f t w a z ks) true (findP G w (⟨fr,lam⟩ :: E) 0))
   else if k=23 then (fr,S.men (.mk k f t w a z ks) false (findP G w (⟨fr,lam⟩ :: E) 0))
   else if k=28 then (fr,sclosedP G item ks (⟨fr,lam⟩ :: E) true S)
   else kidsP G item ks E fr lam S
def kidsP (G:Nms) (item:Int):List N→List Frm→Nms→Bool→SM→Nms × SM
 | [],E,fr,lam,S=>(fr,S)
 | n :: r,E,fr,lam,S=>kidsP G item r E (nodeP G item n E fr lam S).1 lam (nodeP G item n E fr lam S).2
def sclosedP (G:Nms) (item:Int):List N→List Frm→Bool→SM→SM
 | [],_,_,S=>S
 | [_],_,_,S=>S
 | [_,_],_,_,S=>S
 | [p,_,b],E,lam,S=>(nodeP G item b E (bindsP item p.ks [] S).1 lam (bindsP item p.ks [] S).2).2
 | _ :: _ :: _ :: _ :: _,_,_,S=>S
end
theorem nodeP_mk (G:Nms) (item k f t:Int) (w:Bs) (a:Int) (z:Bool) (ks:List N) (E:List Frm) (fr:Nms) (lam:Bool) (S:SM):nodeP G item (.mk k f t w a z ks) E fr lam S =
 if k=6 then (fr,(kidsP G item ks (⟨fr,lam⟩ :: E) [] false S).2)
 else if k=7 then bindP 4 item (.mk k f t w a z ks) (kidsP G item ks E fr lam S).1 (kidsP G item ks E fr lam S).2
 else if k=8 then kidsP G item ks E fr lam (S.men (.mk k f t w a z ks) true (findP G w (⟨fr,lam⟩ :: E) 0))
 else if k=23 then (fr,S.men (.mk k f t w a z ks) false (findP G w (⟨fr,lam⟩ :: E) 0))
 else if k=28 then (fr,sclosedP G item ks (⟨fr,lam⟩ :: E) true S)
 else kidsP G item ks E fr lam S:=by rw [nodeP]
theorem kidsP_nil (G:Nms) (item:Int) (E:List Frm) (fr:Nms) (lam:Bool) (S:SM):kidsP G item [] E fr lam S=(fr,S):=by rw [kidsP]
theorem kidsP_cons (G:Nms) (item:Int) (n:N) (r:List N) (E:List Frm) (fr:Nms) (lam:Bool) (S:SM):kidsP G item (n :: r) E fr lam S=kidsP G item r E (nodeP G item n E fr lam S).1 lam (nodeP G item n E fr lam S).2:=by rw [kidsP]
theorem sclosedP_three (G:Nms) (item:Int) (p q b:N) (E:List Frm) (lam:Bool) (S:SM):sclosedP G item [p,q,b] E lam S=(nodeP G item b E (bindsP item p.ks [] S).1 lam (bindsP item p.ks [] S).2).2:=by rw [sclosedP]
theorem sclosedP_ne (G:Nms) (item:Int) {l:List N} (h:l.length ≠ 3) (E:List Frm) (lam:Bool) (S:SM):sclosedP G item l E lam S=S:=by
 match l,h with
 | [],_=>rw [sclosedP]
 | [_],_=>rw [sclosedP]
 | [_,_],_=>rw [sclosedP]
 | [_,_,_],h=>exact absurd rfl h
 | _ :: _ :: _ :: _ :: _,_=>rw [sclosedP]
def topsP:Int→List N→Nms→SM→Nms × SM
 | _,[],G,S=>(G,S)
 | i,n :: r,G,S=>if n.k=2 then topsP (i+1) r (bindP 1 i n G S).1 (bindP 1 i n G S).2 else if n.k=3 then topsP (i+1) r (bindP 2 i n G S).1 (bindP 2 i n G S).2 else topsP (i+1) r G S
def defsP (G:Nms):Int→List N→SM→SM
 | _,[],S=>S
 | i,n :: r,S=>defsP G (i+1) r (if n.k=3 then sclosedP G i n.ks [] false S else S)
def allP (n:N):SM:=defsP (topsP 0 n.ks [] ⟨[],[],[]⟩).1 0 n.ks (topsP 0 n.ks [] ⟨[],[],[]⟩).2
structure Nm where
 to:Int
 beg:Bool
 lam:Bool
def swordR (bs:List SBd) (x:Nm):Bs:=(bs.getD x.to.toNat default).w
def dupR (bs:List SBd) (w:Bs):List Nm→Bool
 | []=>false
 | x :: r=>if x.beg then false else if swordR bs x=w then true else dupR bs w r
def lookR (bs:List SBd) (w:Bs):List Nm→Int→Option (Int × Int)
 | [],_=>none
 | x :: r,far=>if x.beg then lookR bs w r (if x.lam then far+1 else far) else if swordR bs x=w then some (x.to,far) else lookR bs w r far
def findR (bs:List SBd) (w:Bs) (L:List Nm):Int × Int:=match lookR bs w L 0 with
 | none=>(-1,0)
 | some (i,far)=>if (bs.getD i.toNat default).k < 3 then (i,0) else (i,far)
def bindR (kind item:Int) (n:N) (L:List Nm) (S:SM):List Nm × SM:=(⟨S.bs.length,false,false⟩ :: L,S.bind kind item n (dupR S.bs n.w L))
def bindsR (item:Int):List N→List Nm→SM→List Nm × SM
 | [],L,S=>(L,S)
 | n :: r,L,S=>bindsR item r (bindR 3 item n L S).1 (bindR 3 item n L S).2
mutual
def nodeR (item:Int):N→List Nm→SM→List Nm × SM
 | .mk k f t w a z ks, L, S =>
   if k=6 then (L,(kidsR item ks (⟨0,true,false⟩ :: L) S).2)
   else if k=7 then bindR 4 item (.mk k f t w a z ks) (kidsR item ks L S).1 (kidsR item ks L S).2
   else if k=8 then kidsR item ks L (S.men (.mk k f t w a z ks) true (findR S.bs w L))
   else if k=23 then (L,S.men (.mk k f t w a z ks) false (findR S.bs w L))
   else if k=28 then (L,sclosedR item ks L true S)
   else kidsR item ks L S
def kidsR (item:Int):List N→List Nm→SM→List Nm × SM
 | [],L,S=>(L,S)
 | n :: r,L,S=>kidsR item r (nodeR item n L S).1 (nodeR item n L S).2
def sclosedR (item:Int):List N→List Nm→Bool→SM→SM
 | [],_,_,S=>S
 | [_],_,_,S=>S
 | [_,_],_,_,S=>S
 | [p,_,b],L,lam,S=>(nodeR item b (bindsR item p.ks (⟨0,true,lam⟩ :: L) S).1 (bindsR item p.ks (⟨0,true,lam⟩ :: L) S).2).2
 | _ :: _ :: _ :: _ :: _,_,_,S=>S
end
theorem nodeR_mk (item k f t:Int) (w:Bs) (a:Int) (z:Bool) (ks:List N) (L:List Nm) (S:SM):nodeR item (.mk k f t w a z ks) L S =
 if k=6 then (L,(kidsR item ks (⟨0,true,false⟩ :: L) S).2)
 else if k=7 then bindR 4 item (.mk k f t w a z ks) (kidsR item ks L S).1 (kidsR item ks L S).2
 else if k=8 then kidsR item ks L (S.men (.mk k f t w a z ks) true (findR S.bs w L))
 else if k=23 then (L,S.men (.mk k f t w a z ks) false (findR S.bs w L))
 else if k=28 then (L,sclosedR item ks L true S)
 else kidsR item ks L S:=by rw [nodeR]
theorem kidsR_nil (item:Int) (L:List Nm) (S:SM):kidsR item [] L S=(L,S):=by rw [kidsR]
theorem kidsR_cons (item:Int) (n:N) (r:List N) (L:List Nm) (S:SM):kidsR item (n :: r) L S=kidsR item r (nodeR item n L S).1 (nodeR item n L S).2:=by rw [kidsR]
theorem sclosedR_three (item:Int) (p q b:N) (L:List Nm) (lam:Bool) (S:SM):sclosedR item [p,q,b] L lam S=(nodeR item b (bindsR item p.ks (⟨0,true,lam⟩ :: L) S).1 (bindsR item p.ks (⟨0,true,lam⟩ :: L) S).2).2:=by rw [sclosedR]
theorem sclosedR_ne (item:Int) {l:List N} (h:l.length ≠ 3) (L:List Nm) (lam:Bool) (S:SM):sclosedR item l L lam S=S:=by
 match l,h with
 | [],_=>rw [sclosedR]
 | [_],_=>rw [sclosedR]
 | [_,_],_=>rw [sclosedR]
 | [_,_,_],h=>exact absurd rfl h
 | _ :: _ :: _ :: _ :: _,_=>rw [sclosedR]
def topsR:Int→List N→List Nm→SM→List Nm × SM
 | _,[],L,S=>(L,S)
 | i,n :: r,L,S=>if n.k=2 then topsR (i+1) r (bindR 1 i n L S).1 (bindR 1 i n L S).2 else if n.k=3 then topsR (i+1) r (bindR 2 i n L S).1 (bindR 2 i n L S).2 else topsR (i+1) r L S
def defsR (L:List Nm):Int→List N→SM→SM
 | _,[],S=>S
 | i,n :: r,S=>defsR L (i+1) r (if n.k=3 then sclosedR i n.ks L false S else S)
def allR (n:N):SM:=defsR (topsR 0 n.ks [] ⟨[],[],[]⟩).1 0 n.ks (topsR 0 n.ks [] ⟨[],[],[]⟩).2
structure Seg (bs:List SBd) (lo:Bool) (es:Nms) (l:List Nm):Prop where
 get:∀ w,nmGet w es=(l.find? fun x=>decide (swordR bs x=w)).map Nm.to
 ok:∀ x ∈ l,x.beg=false∧0≤x.to∧x.to < bs.length∧(decide ((bs.getD x.to.toNat default).k < 3))=lo
inductive SRel (G:Nms) (bs:List SBd):List Frm→List Nm→Prop
 | top {l:List Nm} (h:Seg bs true G l):SRel G bs [] l
 | up {es:Nms} {lam:Bool} {l r:List Nm} {E:List Frm} (h:Seg bs false es l) (hr:SRel G bs E r):SRel G bs (⟨es,lam⟩ :: E) (l++⟨0,true,lam⟩ :: r)
theorem getD_app {bs:List SBd} {i:Int} (h0:0≤i) (h:i < bs.length) (l:List SBd):(bs++l).getD i.toNat default=bs.getD i.toNat default:=by
 simp only [List.getD_eq_getElem?_getD]
 rw [List.getElem?_append_left (by omega)]
theorem Seg.app {bs:List SBd} {lo:Bool} {es:Nms} {l:List Nm} (h:Seg bs lo es l) (b:List SBd):Seg (bs++b) lo es l:=by
 refine ⟨fun w => ?_,fun x hx => ?_⟩
 · rw [h.get]
   congr 1
   have:∀ l':List Nm,(∀ x ∈ l',x ∈ l)→l'.find? (fun x=>decide (swordR bs x=w))=l'.find? (fun x=>decide (swordR (bs++b) x=w)):=by
    intro l'
    induction l' with
    | nil=>intro _; rfl
    | cons y r ih =>
      intro hh
      obtain ⟨-,h1,h2,-⟩:=h.ok y (hh y (by simp))
      have e:swordR (bs++b) y=swordR bs y:=by unfold swordR; rw [getD_app h1 h2]
      simp only [List.find?_cons]
      rw [e,ih fun x hx=>hh x (by simp [hx])]
   exact this l fun _ h=>h
 · obtain ⟨h1,h2,h3,h4⟩:=h.ok x hx
   refine ⟨h1,h2,by simp; omega,?_⟩
   rw [getD_app h2 h3]; exact h4
theorem SRel.app {G:Nms} {bs:List SBd} {E:List Frm} {L:List Nm} (h:SRel G bs E L) (b:List SBd):SRel G (bs++b) E L:=by
 induction h with
 | top h=>exact .top (h.app b)
 | up h _ ih=>exact .up (h.app b) ih
theorem dup_seg {bs:List SBd} {lo:Bool} {es:Nms} {l:List Nm} (h:Seg bs lo es l) (w:Bs) (r:List Nm) (hr:r=[]∨∃ x r',r=x :: r'∧x.beg=true):dupR bs w (l++r)=(nmGet w es).isSome:=by
 rw [h.get]
 have hok:=h.ok
 clear h
 induction l with
 | nil =>
   rcases hr with rfl | ⟨x,r',rfl,hx⟩
   · rfl
   · simp [dupR,hx]
 | cons y l ih =>
   have:=(hok y (by simp)).1
   simp only [List.cons_append,dupR,this,List.find?_cons]
   by_cases hw:swordR bs y=w
   · simp [hw]
   · simp [hw]
     have:=ih fun x hx=>hok x (by simp [hx])
     rw [this]; simp
theorem look_seg {bs:List SBd} {lo:Bool} {es:Nms} {l:List Nm} (h:Seg bs lo es l) (w:Bs) (r:List Nm) (far:Int):lookR bs w (l++r) far=(match nmGet w es with | some i=>some (i,far) | none=>lookR bs w r far):=by
 rw [h.get]
 have hok:=h.ok
 clear h
 induction l with
 | nil=>rfl
 | cons y l ih =>
   have:=(hok y (by simp)).1
   simp only [List.cons_append,lookR,this,List.find?_cons]
   by_cases hw:swordR bs y=w
   · simp [hw]
   · simp [hw]
     rw [ih fun x hx=>hok x (by simp [hx])]
theorem seg_get {bs:List SBd} {lo:Bool} {es:Nms} {l:List Nm} (h:Seg bs lo es l) {w:Bs} {i:Int} (hi:nmGet w es=some i):0≤i∧i < bs.length∧decide ((bs.getD i.toNat default).k < 3)=lo:=by
 rw [h.get] at hi
 simp only [Option.map_eq_some_iff] at hi
 obtain ⟨x,hx,rfl⟩:=hi
 exact (h.ok x (List.mem_of_find?_eq_some hx)).2
theorem find_rel {G:Nms} {bs:List SBd} {E:List Frm} {L:List Nm} (h:SRel G bs E L) (w:Bs):∀ far:Int,findP G w E far=(match lookR bs w L far with
 | none=>(-1,0)
 | some (i,far)=>if (bs.getD i.toNat default).k < 3 then (i,0) else (i,far)):=by
 induction h with
 | @top l h =>
   intro far
   have:=look_seg h w [] far
   rw [List.append_nil] at this
   rw [this]
   simp only [findP]
   cases hg:nmGet w G with
   | none=>simp [lookR]
   | some i =>
     have:=(seg_get h hg).2.2
     simp only [decide_eq_true_eq] at this
     simp only [this,if_true]
 | @up es lam l r E h hr ih =>
   intro far
   rw [look_seg h]
   simp only [findP]
   cases hg:nmGet w es with
   | none =>
     simp only [lookR]
     rw [ih]
     rfl
   | some i =>
     have:=(seg_get h hg).2.2
     simp only [decide_eq_false_iff_not] at this
     simp only [this,if_false]
theorem Seg.put {bs:List SBd} {lo:Bool} {es:Nms} {l:List Nm} (h:Seg bs lo es l) (b:SBd) (hb:decide (b.k < 3)=lo):Seg (bs++[b]) lo (nmPut b.w bs.length es) (⟨bs.length,false,false⟩ :: l):=by
 have h':=h.app [b]
 have hg:(bs++[b]).getD ((bs.length:Int)).toNat default=b:=by simp
 refine ⟨fun w => ?_,fun x hx => ?_⟩
 · rw [nmGet_put,List.find?_cons,h'.get]
   simp only [swordR,hg]
   by_cases hw:w=b.w
   · simp [hw]
   · have:¬ b.w=w:=fun e=>hw e.symm
     simp [hw,this]
 · rcases List.mem_cons.1 hx with rfl | hx
   · refine ⟨rfl,by simp,by simp; omega,?_⟩
     rw [hg]; exact hb
   · exact h'.ok x hx
structure SRelN (G:Nms) (bs:List SBd) (E:List Frm) (fr:Nms) (lam:Bool) (L:List Nm):Prop where
 ex:∃ l r,L=l++⟨0,true,lam⟩ :: r∧Seg bs false fr l∧SRel G bs E r
theorem SRelN.rel {G:Nms} {bs:List SBd} {E:List Frm} {fr:Nms} {lam:Bool} {L:List Nm} (h:SRelN G bs E fr lam L):SRel G bs (⟨fr,lam⟩ :: E) L:=by
 obtain ⟨l,r,rfl,h1,h2⟩:=h.ex
 exact .up h1 h2
theorem SRelN.app {G:Nms} {bs:List SBd} {E:List Frm} {fr:Nms} {lam:Bool} {L:List Nm} (h:SRelN G bs E fr lam L) (b:List SBd):SRelN G (bs++b) E fr lam L:=by
 obtain ⟨l,r,rfl,h1,h2⟩:=h.ex
 exact ⟨l,r,rfl,h1.app b,h2.app b⟩
theorem SRel.new {G:Nms} {bs:List SBd} {E:List Frm} {L:List Nm} (h:SRel G bs E L) (lam:Bool):SRelN G bs E [] lam (⟨0,true,lam⟩ :: L):=⟨[],L,rfl,⟨fun _=>rfl,by simp⟩,h⟩
theorem SRelN.bind {G:Nms} {S:SM} {E:List Frm} {fr:Nms} {lam:Bool} {L:List Nm} (h:SRelN G S.bs E fr lam L) {kind:Int} (hk:3≤kind) (item:Int) (n:N) :
 (bindP kind item n fr S).2=(bindR kind item n L S).2∧SRelN G (bindP kind item n fr S).2.bs E (bindP kind item n fr S).1 lam (bindR kind item n L S).1∧∃ b,(bindP kind item n fr S).2.bs=S.bs++b:=by
 obtain ⟨l,r,rfl,h1,h2⟩:=h.ex
 refine ⟨?_,⟨_,r,rfl,h1.put ⟨n.at_,kind,n.w,item⟩ (by simp; omega),h2.app _⟩,_,rfl⟩
 simp only [bindP,bindR]
 rw [dup_seg h1 n.w _ (.inr ⟨_,_,rfl,rfl⟩)]
theorem SRelN.binds {G:Nms} {E:List Frm} {lam:Bool} (item:Int):∀ (l:List N) {S:SM} {fr:Nms} {L:List Nm},SRelN G S.bs E fr lam L →
 (bindsP item l fr S).2=(bindsR item l L S).2∧SRelN G (bindsP item l fr S).2.bs E (bindsP item l fr S).1 lam (bindsR item l L S).1∧∃ b,(bindsP item l fr S).2.bs=S.bs++b
 | [],S,fr,L,h=>⟨rfl,h,[],by simp [bindsP]⟩
 | n :: r, S, fr, L, h => by
   obtain ⟨h1,h2,b,hb⟩:=h.bind (Int.le_refl 3) item n
   obtain ⟨k1,k2,c,hc⟩:=SRelN.binds item r h2
   rw [bindsP,bindsR]
   rw [h1] at k1 k2 hc ⊢
   refine ⟨k1,k2,b++c,?_⟩
   rw [hc,← h1,hb,List.append_assoc]
theorem men_bs (S:SM) (n:N) (wr:Bool) (p:Int × Int):(S.men n wr p).bs=S.bs:=rfl
def BothN (n:N):Prop:=∀ (G:Nms) (item:Int) (E:List Frm) (fr:Nms) (lam:Bool) (S:SM) (L:List Nm),SRelN G S.bs E fr lam L →
 (nodeP G item n E fr lam S).2=(nodeR item n L S).2∧SRelN G (nodeP G item n E fr lam S).2.bs E (nodeP G item n E fr lam S).1 lam (nodeR item n L S).1∧∃ b,(nodeP G item n E fr lam S).2.bs=S.bs++b
theorem both_kids {ks:List N} (ih:∀ p ∈ ks,BothN p):∀ (G:Nms) (item:Int) (E:List Frm) (fr:Nms) (lam:Bool) (S:SM) (L:List Nm),SRelN G S.bs E fr lam L →
 (kidsP G item ks E fr lam S).2=(kidsR item ks L S).2∧SRelN G (kidsP G item ks E fr lam S).2.bs E (kidsP G item ks E fr lam S).1 lam (kidsR item ks L S).1∧∃ b,(kidsP G item ks E fr lam S).2.bs=S.bs++b:=by
 induction ks with
 | nil=>intro G item E fr lam S L h; rw [kidsP_nil,kidsR_nil]; exact ⟨rfl,h,[],by simp⟩
 | cons n r ih2 =>
   intro G item E fr lam S L h
   obtain ⟨h1,h2,b,hb⟩:=ih n (by simp) G item E fr lam S L h
   obtain ⟨k1,k2,c,hc⟩:=ih2 (fun p hp=>ih p (by simp [hp])) G item E _ lam _ _ h2
   rw [kidsP_cons,kidsR_cons]
   rw [h1] at k1 k2 hc ⊢
   exact ⟨k1,k2,b++c,by rw [hc,← h1,hb,List.append_assoc]⟩
theorem both_closed {ks:List N} (ih:∀ p ∈ ks,BothN p) (G:Nms) (item:Int) (E:List Frm) (lam:Bool) (S:SM) (L:List Nm) (h:SRel G S.bs E L) :
 sclosedP G item ks E lam S=sclosedR item ks L lam S∧∃ b,(sclosedP G item ks E lam S).bs=S.bs++b:=by
 by_cases hl:ks.length=3
 · match ks,hl with
   | [p, q, b], _ =>
     rw [sclosedP_three,sclosedR_three]
     obtain ⟨h1,h2,c,hc⟩:=SRelN.binds item p.ks (h.new lam)
     obtain ⟨k1,k2,d,hd⟩:=ih b (by simp) G item E _ lam _ _ h2
     rw [h1] at k1 k2 hd ⊢
     exact ⟨k1,c++d,by rw [hd,← h1,hc,List.append_assoc]⟩
 · rw [sclosedP_ne _ _ hl,sclosedR_ne _ hl]
   exact ⟨rfl,[],by simp⟩
theorem both (n:N):BothN n:=by
 induction n using N.ind with
 | h k f t w a z ks ih =>
 intro G item E fr lam S L h
 have hf:findP G w (⟨fr,lam⟩ :: E) 0=findR S.bs w L:=find_rel h.rel w 0
 rw [nodeP_mk,nodeR_mk,hf]
 by_cases h6:k=6
 · rw [if_pos h6,if_pos h6]
   obtain ⟨h1,h2,b,hb⟩:=both_kids ih G item _ [] false S _ (h.rel.new false)
   refine ⟨h1,?_,b,hb⟩
   simp only [hb]
   exact h.app b
 rw [if_neg h6,if_neg h6]
 by_cases h7:k=7
 · rw [if_pos h7,if_pos h7]
   obtain ⟨h1,h2,b,hb⟩:=both_kids ih G item E fr lam S _ h
   obtain ⟨k1,k2,c,hc⟩:=h2.bind (by decide:(3:Int)≤4) item (.mk k f t w a z ks)
   rw [h1] at k1 k2 hc ⊢
   exact ⟨k1,k2,b++c,by rw [hc,← h1,hb,List.append_assoc]⟩
 rw [if_neg h7,if_neg h7]
 by_cases h8:k=8
 · rw [if_pos h8,if_pos h8]
   exact both_kids ih G item E fr lam _ L h
 rw [if_neg h8,if_neg h8]
 by_cases h9:k=23
 · rw [if_pos h9,if_pos h9]
   exact ⟨rfl,h,[],by simp [men_bs]⟩
 rw [if_neg h9,if_neg h9]
 by_cases h10:k=28
 · rw [if_pos h10,if_pos h10]
   obtain ⟨h1,b,hb⟩:=both_closed ih G item _ true S L h.rel
   refine ⟨h1,?_,b,hb⟩
   simp only [hb]
   exact h.app b
 rw [if_neg h10,if_neg h10]
 exact both_kids ih G item E fr lam S L h
theorem tops_both:∀ (l:List N) (i:Int) (G:Nms) (L:List Nm) (S:SM),Seg S.bs true G L →
 (topsP i l G S).2=(topsR i l L S).2∧Seg (topsP i l G S).2.bs true (topsP i l G S).1 (topsR i l L S).1
 | [],i,G,L,S,h=>⟨rfl,h⟩
 | n :: r, i, G, L, S, h => by
   have step:∀ kind:Int,kind < 3→(bindP kind i n G S).2=(bindR kind i n L S).2∧Seg (bindP kind i n G S).2.bs true (bindP kind i n G S).1 (bindR kind i n L S).1:=fun kind hk=>by
    have:=dup_seg h n.w [] (.inl rfl)
    rw [List.append_nil] at this
    exact ⟨by simp only [bindP,bindR,this],h.put ⟨n.at_,kind,n.w,i⟩ (by simp; omega)⟩
   simp only [topsP,topsR]
   split
   · obtain ⟨h1,h2⟩:=step 1 (by decide)
     have:=tops_both r (i+1) _ _ _ h2
     rw [h1] at this ⊢; exact this
   · split
     · obtain ⟨h1,h2⟩:=step 2 (by decide)
       have:=tops_both r (i+1) _ _ _ h2
       rw [h1] at this ⊢; exact this
     · exact tops_both r (i+1) _ _ _ h
theorem defs_both {G:Nms} {L:List Nm}:∀ (l:List N) (i:Int) (S:SM),SRel G S.bs [] L→defsP G i l S=defsR L i l S
 | [],_,_,_=>rfl
 | n :: r, i, S, h => by
   simp only [defsP,defsR]
   obtain ⟨h1,b,hb⟩:=both_closed (ks:=n.ks) (fun p _=>both p) G i [] false S L h
   by_cases hk:n.k=3
   · rw [if_pos hk,if_pos hk,← h1]
     exact defs_both r (i+1) _ (by rw [hb]; exact h.app b)
   · rw [if_neg hk,if_neg hk]
     exact defs_both r (i+1) _ h
theorem all_both (n:N):allP n=allR n:=by
 obtain ⟨h1,h2⟩:=tops_both n.ks 0 [] [] ⟨[],[],[]⟩ ⟨fun _=>rfl,by simp⟩
 unfold allP allR
 rw [← h1]
 exact defs_both _ _ _ (.top h2)
section
structure SF where
 (wrong bind within res node nodeC kids mention find closed closedC cmp srt cmpI:FuncId)
 (tn tp ts tfp tf tb tm bd mn ed:TypeId)
structure SC where
 (im tb tm tv ib g:Nat)
def encNms (l:Nms):List (D × A):=l.map fun e=>(.str e.1,.d (.int .i64 e.2))
theorem mpGet_nms (w:Bs):∀ l:Nms,mpGet (.str w) (encNms l)=(nmGet w l).map fun i => .d (.int .i64 i)
 | []=>rfl
 | e :: r => by
   have ih:=mpGet_nms w r
   unfold encNms at ih ⊢
   simp only [List.map_cons,mpGet,sameK,nmGet,decide_eq_true_eq,ih]
   split<;>rfl
theorem mpPut_nms (w:Bs) (v:Int):∀ l:Nms,mpPut (.str w) (.d (.int .i64 v)) (encNms l)=encNms (nmPut w v l)
 | []=>rfl
 | e :: r => by
   have ih:=mpPut_nms w v r
   unfold encNms at ih ⊢
   simp only [List.map_cons,mpPut,sameK,nmPut,decide_eq_true_eq,ih]
   split<;>simp_all
theorem mpOk_nms (w:Bs) (l:Nms):mpOk (.str []) (.str w) (encNms l)=true:=by
 unfold mpOk encNms
 simp [keyOf]
def mbox (F:SF) (c:SC) (S:SM):Ob := .box F.tm [.osl true 4 (S.bs.map encBd) c.tb,.osl true 4 (S.ms.map encMn) c.tm,.vsl c.tv S.bad.length S.bad.length]
structure SInv (F:SF) (c:SC) (S:SM) (now:A) (item:Int) (G:Nms) (H:Hp):Prop where
 m:H[c.im]?=some (mbox F c S)
 b:H[c.tb]?=some (.tok S.bs.length 4 F.bd)
 e:H[c.tm]?=some (.tok S.ms.length 4 F.mn)
 v:H[c.tv]?=some (.vec 2 F.ed S.bad.length (S.bad.map encBad))
 i:H[c.ib]?=some (.box F.tb [.ptr c.im 0,now,.map c.g,.d (.int .i64 item)])
 g:H[c.g]?=some (.mp (encNms G))
 nd:(c.im ≠ c.tb∧c.im ≠ c.tm∧c.im ≠ c.tv∧c.im ≠ c.ib∧c.im ≠ c.g)∧(c.tb ≠ c.tm∧c.tb ≠ c.tv∧c.tb ≠ c.ib∧c.tb ≠ c.g)∧(c.tm ≠ c.tv∧c.tm ≠ c.ib∧c.tm ≠ c.g)∧(c.tv ≠ c.ib∧c.tv ≠ c.g)∧c.ib ≠ c.g
def SC.off (c:SC) (j:Nat):Prop:=j ≠ c.im∧j ≠ c.tb∧j ≠ c.tm∧j ≠ c.tv
def sput (F:SF) (c:SC) (S:SM) (H:Hp):Hp:=(((H.set c.tv (.vec 2 F.ed S.bad.length (S.bad.map encBad))).set c.tm (.tok S.ms.length 4 F.mn)).set c.tb (.tok S.bs.length 4 F.bd)).set c.im (mbox F c S)
section
variable {F:SF} {c:SC} {S S':SM} {now:A} {item:Int} {G:Nms} {H:Hp}
theorem sput_len:(sput F c S H).length=H.length:=by simp [sput]
theorem sput_off {j:Nat} (h:c.off j):(sput F c S H)[j]?=H[j]?:=by
 obtain ⟨h1,h2,h3,h4⟩:=h
 simp [sput,List.getElem?_set_ne (Ne.symm h1),List.getElem?_set_ne (Ne.symm h2),List.getElem?_set_ne (Ne.symm h3),List.getElem?_set_ne (Ne.symm h4)]
theorem SInv.lt (h:SInv F c S now item G H):c.im < H.length∧c.tb < H.length∧c.tm < H.length∧c.tv < H.length∧c.ib < H.length∧c.g < H.length:=⟨scan_len h.m,scan_len h.b,scan_len h.e,scan_len h.v,scan_len h.i,scan_len h.g⟩
theorem SInv.offI (h:SInv F c S now item G H):c.off c.ib:=by obtain ⟨a,b,d,e,f⟩:=h.nd; exact ⟨a.2.2.2.1.symm,b.2.2.1.symm,d.2.1.symm,e.1.symm⟩
theorem SInv.offG (h:SInv F c S now item G H):c.off c.g:=by obtain ⟨a,b,d,e,f⟩:=h.nd; exact ⟨a.2.2.2.2.symm,b.2.2.2.symm,d.2.2.symm,e.2.symm⟩
theorem sput_app (h:SInv F c S now item G H) (X:Hp):sput F c S' (H++X)=sput F c S' H++X:=by
 obtain ⟨a,b,d,e,-⟩:=h.lt
 unfold sput
 rw [List.set_append_left _ _ e,List.set_append_left _ _ (by simpa using d),List.set_append_left _ _ (by simpa using b),List.set_append_left _ _ (by simpa using a)]
theorem SInv.app (h:SInv F c S now item G H) (X:Hp):SInv F c S now item G (H++X) :=
 ⟨get_app h.m X,get_app h.b X,get_app h.e X,get_app h.v X,get_app h.i X,get_app h.g X,h.nd⟩
theorem SInv.put (h:SInv F c S now item G H) (S':SM):SInv F c S' now item G (sput F c S' H):=by
 obtain ⟨p1,p2,p3,p4,p5,p6⟩:=h.lt
 obtain ⟨a,b,d,e,f⟩:=h.nd
 refine ⟨?_,?_,?_,?_,by rw [sput_off h.offI]; exact h.i,by rw [sput_off h.offG]; exact h.g,h.nd⟩
 · unfold sput; rw [List.getElem?_set_self (by simpa using p1)]
 · unfold sput; rw [List.getElem?_set_ne a.1,List.getElem?_set_self (by simpa using p2)]
 · unfold sput; rw [List.getElem?_set_ne a.2.1,List.getElem?_set_ne b.1,List.getElem?_set_self (by simpa using p3)]
 · unfold sput; rw [List.getElem?_set_ne a.2.2.1,List.getElem?_set_ne b.2.1,List.getElem?_set_ne d.1,List.getElem?_set_self (by simpa using p4)]
theorem sput_self (h:SInv F c S now item G H):sput F c S H=H:=by
 unfold sput
 rw [Hp.set_self h.v,Hp.set_self h.e,Hp.set_self h.b,Hp.set_self h.m]
theorem hp_ext {A B:Hp} (h:∀ j:Nat,A[j]?=B[j]?):A=B:=List.ext_getElem? h
theorem sput_sput (S S':SM):sput F c S' (sput F c S H)=sput F c S' H:=by
 refine hp_ext fun j => ?_
 unfold sput
 simp only [List.getElem?_set,List.length_set]
 split
 · rfl
 · split
   · rfl
   · split
     · rfl
     · split
       · rfl
       · simp_all
theorem sput_set {j:Nat} (h:c.off j) (o:Ob):sput F c S (H.set j o)=(sput F c S H).set j o:=by
 obtain ⟨h1,h2,h3,h4⟩:=h
 unfold sput
 rw [List.set_comm _ _ h4,List.set_comm _ _ h3,List.set_comm _ _ h2,List.set_comm _ _ h1]
theorem SInv.set (h:SInv F c S now item G H) {j:Nat} (hj:c.off j) (h1:j ≠ c.ib) (h2:j ≠ c.g) (o:Ob):SInv F c S now item G (H.set j o):=by
 obtain ⟨a1,a2,a3,a4⟩:=hj
 exact ⟨by rw [List.getElem?_set_ne a1]; exact h.m,by rw [List.getElem?_set_ne a2]; exact h.b,by rw [List.getElem?_set_ne a3]; exact h.e,by rw [List.getElem?_set_ne a4]; exact h.v,by rw [List.getElem?_set_ne h1]; exact h.i,by rw [List.getElem?_set_ne h2]; exact h.g,h.nd⟩
theorem mbox_clr {n:Nat} (h1:c.tb < n) (h2:c.tm < n) (h3:c.tv < n):(mbox F c S).clr n=mbox F c S:=by simp [mbox,h1,h2,h3]
theorem sput_cut (h:SInv F c S now item G H) (hc:H.Closed):Hp.cut H.length (sput F c S' H)=sput F c S' H:=by
 obtain ⟨p1,p2,p3,p4,p5,p6⟩:=h.lt
 unfold sput
 rw [Hp.cut_set,Hp.cut_set,Hp.cut_set,Hp.cut_set,cut_self hc,mbox_clr p2 p3 p4]
 simp
theorem sput_cutX (h:SInv F c S now item G H) (hc:H.Closed) (X:Hp):Hp.cut H.length (sput F c S' H++X)=sput F c S' H:=by
 rw [cut_appL (by rw [sput_len]),sput_cut h hc]
theorem encNms_clr (n:Nat) (l:Nms):(Ob.mp (encNms l)).clr n = .mp (encNms l):=by simp [encNms]
end
def ChainAt (F:SF) (H:Hp):A→List (Nat × Nat × Frm)→Prop
 | a,[]=>a = .d .nilp
 | a,(i,m,f) :: r=>a = .ptr i 0∧(∀ x ∈ r,x.1 < i)∧∃ up,H[i]?=some (.box F.tf [.map m,.d (.bool f.lam),up])∧H[m]?=some (.mp (encNms f.es))∧ChainAt F H up r
theorem ChainAt.keep {F:SF} {H H':Hp}:∀ {l:List (Nat × Nat × Frm)} {a:A},ChainAt F H a l→(∀ x ∈ l,H'[x.1]?=H[x.1]?∧H'[x.2.1]?=H[x.2.1]?)→ChainAt F H' a l
 | [],a,h,_=>h
 | (i, m, f) :: r, a, ⟨h1, h2, up, h3, h4, h5⟩, hk => by
   obtain ⟨k1,k2⟩:=hk (i,m,f) (by simp)
   exact ⟨h1,h2,up,by rw [k1]; exact h3,by rw [k2]; exact h4,h5.keep fun x hx=>hk x (by simp [hx])⟩
theorem ChainAt.lt {F:SF} {H:Hp}:∀ {l:List (Nat × Nat × Frm)} {a:A},ChainAt F H a l→∀ x ∈ l,x.1 < H.length∧x.2.1 < H.length
 | [],a,h,x,hx=>by simp at hx
 | (i, m, f) :: r, a, ⟨h1, h2, up, h3, h4, h5⟩, x, hx => by
   rcases List.mem_cons.1 hx with rfl | hx
   · exact ⟨scan_len h3,scan_len h4⟩
   · exact h5.lt x hx
theorem ChainAt.app {F:SF} {H:Hp} {l:List (Nat × Nat × Frm)} {a:A} (h:ChainAt F H a l) (X:Hp):ChainAt F (H++X) a l :=
 h.keep fun x hx=>⟨List.getElem?_append_left (h.lt x hx).1,List.getElem?_append_left (h.lt x hx).2⟩
theorem ChainAt.val {F:SF} {H:Hp} {l:List (Nat × Nat × Frm)} {a:A} (h:ChainAt F H a l):(a = .d .nilp∧l=[])∨∃ i m f r,l=(i,m,f) :: r∧a = .ptr i 0∧i < H.length:=by
 cases l with
 | nil=>exact .inl ⟨h,rfl⟩
 | cons x r=>exact .inr ⟨x.1,x.2.1,x.2.2,r,rfl,h.1,(h.lt x (by simp)).1⟩
structure NInv (F:SF) (c:SC) (S:SM) (item:Int) (G:Nms) (i m:Nat) (fr:Nms) (lam:Bool) (E:List (Nat × Nat × Frm)) (H:Hp):Prop where
 s:SInv F c S (.ptr i 0) item G H
 ch:ChainAt F H (.ptr i 0) ((i,m,⟨fr,lam⟩) :: E)
 off:∀ x ∈ (i,m,(⟨fr,lam⟩:Frm)) :: E,(c.off x.1∧x.1 ≠ c.ib∧x.1 ≠ c.g)∧(c.off x.2.1∧x.2.1 ≠ c.ib∧x.2.1 ≠ c.g)
 nm:i ≠ m∧∀ x ∈ E,m ≠ x.1∧m ≠ x.2.1
section
variable {F:SF} {c:SC} {S S':SM} {item:Int} {G:Nms} {H:Hp} {i m:Nat} {fr fr':Nms} {lam:Bool} {E:List (Nat × Nat × Frm)}
theorem NInv.app (h:NInv F c S item G i m fr lam E H) (X:Hp):NInv F c S item G i m fr lam E (H++X):=⟨h.s.app X,h.ch.app X,h.off,h.nm⟩
theorem NInv.offM (h:NInv F c S item G i m fr lam E H):c.off m∧m ≠ c.ib∧m ≠ c.g:=(h.off (i,m,⟨fr,lam⟩) (by simp)).2
theorem NInv.lt (h:NInv F c S item G i m fr lam E H):i < H.length∧m < H.length:=h.ch.lt (i,m,⟨fr,lam⟩) (by simp)
theorem NInv.mp (h:NInv F c S item G i m fr lam E H):H[m]?=some (.mp (encNms fr)):=by obtain ⟨-,-,up,-,h4,-⟩:=h.ch; exact h4
theorem NInv.put (h:NInv F c S item G i m fr lam E H) (S':SM):NInv F c S' item G i m fr lam E (sput F c S' H):=by
 refine ⟨h.s.put S',h.ch.keep fun x hx => ?_,h.off,h.nm⟩
 have:=h.off x hx
 exact ⟨sput_off this.1.1,sput_off this.2.1⟩
theorem NInv.setM (h:NInv F c S item G i m fr lam E H) (fr':Nms):NInv F c S item G i m fr' lam E (H.set m (.mp (encNms fr'))):=by
 obtain ⟨o1,o2,o3⟩:=h.offM
 refine ⟨h.s.set o1 o2 o3 _,?_,fun x hx => ?_,h.nm⟩
 · obtain ⟨h1,h2,up,h3,h4,h5⟩:=h.ch
   refine ⟨h1,h2,up,by rw [List.getElem?_set_ne h.nm.1.symm]; exact h3,by rw [List.getElem?_set_self (scan_len h4)],h5.keep fun x hx => ?_⟩
   have:=h.nm.2 x hx
   exact ⟨List.getElem?_set_ne this.1,List.getElem?_set_ne this.2⟩
 · rcases List.mem_cons.1 hx with rfl | hx
   · exact h.off (i,m,⟨fr,lam⟩) (by simp)
   · exact h.off x (by simp [hx])
def nput (F:SF) (c:SC) (S:SM) (m:Nat) (fr:Nms) (H:Hp):Hp:=(sput F c S H).set m (.mp (encNms fr))
theorem NInv.nput (h:NInv F c S item G i m fr lam E H) (S':SM) (fr':Nms):NInv F c S' item G i m fr' lam E (nput F c S' m fr' H):=(h.put S').setM fr'
theorem nput_len:(nput F c S m fr H).length=H.length:=by simp [nput,sput_len]
theorem nput_nput (h:c.off m) (S S':SM) (fr fr':Nms):nput F c S' m fr' (nput F c S m fr H)=nput F c S' m fr' H:=by
 unfold nput
 rw [sput_set h,sput_sput,List.set_set]
theorem nput_app (h:NInv F c S item G i m fr lam E H) (X:Hp):nput F c S' m fr' (H++X)=nput F c S' m fr' H++X:=by
 unfold nput
 rw [sput_app h.s,List.set_append_left _ _ (by rw [sput_len]; exact h.lt.2)]
theorem nput_self (h:NInv F c S item G i m fr lam E H):nput F c S m fr H=H:=by
 unfold nput
 rw [sput_self h.s,Hp.set_self h.mp]
theorem nput_sput (h:NInv F c S item G i m fr lam E H) (S':SM):nput F c S' m fr H=sput F c S' H:=by
 unfold nput
 rw [Hp.set_self (by rw [sput_off h.offM.1]; exact h.mp)]
theorem nput_cutX (h:NInv F c S item G i m fr lam E H) (hc:H.Closed) (X:Hp):Hp.cut H.length (nput F c S' m fr' H++X)=nput F c S' m fr' H:=by
 rw [cut_appL (by rw [nput_len])]
 unfold nput
 rw [Hp.cut_set,sput_cut h.s hc,encNms_clr]
theorem nput_cut (h:NInv F c S item G i m fr lam E H) (hc:H.Closed):Hp.cut H.length (nput F c S' m fr' H)=nput F c S' m fr' H:=by
 have:=nput_cutX (S':=S') (fr':=fr') h hc []
 rwa [List.append_nil] at this
end
def SM.sz (S:SM):Nat:=S.bs.length+S.ms.length+S.bad.length
theorem SM.bind_sz (S:SM) (k i:Int) (n:N) (d:Bool):(S.bind k i n d).sz≤S.sz+2:=by
 unfold SM.bind SM.sz
 split<;>simp<;>omega
theorem SM.men_sz (S:SM) (n:N) (wr:Bool) (p:Int × Int):(S.men n wr p).sz≤S.sz+2:=by
 unfold SM.men SM.sz
 simp only
 split
 · simp; omega
 · split<;>simp<;>omega
end
def FOk (n:Nat) (es:Nms):Prop:=∀ w i,nmGet w es=some i→0≤i∧i < n
theorem FOk.nil (n:Nat):FOk n []:=fun w i h=>by cases h
theorem FOk.mono {n m:Nat} {es:Nms} (h:FOk n es) (hm:n≤m):FOk m es:=fun w i hi=>by have:=h w i hi; omega
theorem FOk.put {n:Nat} {es:Nms} (h:FOk n es) (w:Bs):FOk (n+1) (nmPut w n es):=fun u i hi=>by
 rw [nmGet_put] at hi
 split at hi
 · cases hi; omega
 · have:=h u i hi; omega
theorem findP_ok {n:Nat} {G:Nms} (hG:FOk n G) (w:Bs):∀ (E:List Frm) (far:Int),(∀ f ∈ E,FOk n f.es)→0≤far→((findP G w E far).1 = -1∨0≤(findP G w E far).1∧(findP G w E far).1 < n)∧0≤(findP G w E far).2∧(findP G w E far).2≤far+E.length
 | [], far, _, h0 => by
   simp only [findP]
   cases hg:nmGet w G with
   | none=>simp; omega
   | some i=>have:=hG w i hg; simp; omega
 | f :: r, far, h, h0 => by
   simp only [findP]
   cases hg:nmGet w f.es with
   | none =>
     have:=findP_ok hG w r (if f.lam then far+1 else far) (fun x hx=>h x (by simp [hx])) (by split<;>omega)
     refine ⟨this.1,this.2.1,?_⟩
     have h3:=this.2.2
     simp only [List.length_cons]
     split at h3<;>omega
   | some i=>have:=h f (by simp) w i hg; simp; omega
structure Grew (S S':SM) (k:Nat) (fr':Nms):Prop where
 bs:S.bs.length≤S'.bs.length
 sz:S'.sz≤S.sz+2 * k
 ok:FOk S'.bs.length fr'
theorem Grew.bind {S:SM} {fr:Nms} (h:FOk S.bs.length fr) (kind item:Int) (n:N):Grew S (bindP kind item n fr S).2 1 (bindP kind item n fr S).1:=by
 refine ⟨by simp [bindP,SM.bind],?_,?_⟩
 · exact SM.bind_sz S kind item n _
 · have:=h.put n.w
   simpa [bindP,SM.bind] using this
theorem Grew.binds {item:Int}:∀ (l:List N) {S:SM} {fr:Nms},FOk S.bs.length fr→Grew S (bindsP item l fr S).2 l.length (bindsP item l fr S).1
 | [],S,fr,h=>⟨Nat.le_refl _,by simp [bindsP],h⟩
 | n :: r, S, fr, h => by
   have h1:=Grew.bind h 3 item n
   have h2:=Grew.binds (item:=item) r h1.ok
   refine ⟨Nat.le_trans h1.bs h2.bs,?_,h2.ok⟩
   have:=h1.sz; have:=h2.sz
   simp only [bindsP,List.length_cons]; omega
def GrewN (n:N):Prop:=∀ (G:Nms) (item:Int) (E:List Frm) (fr:Nms) (lam:Bool) (S:SM),FOk S.bs.length fr→Grew S (nodeP G item n E fr lam S).2 n.size (nodeP G item n E fr lam S).1
theorem grew_kids {ks:List N} (ih:∀ p ∈ ks,GrewN p):∀ (G:Nms) (item:Int) (E:List Frm) (fr:Nms) (lam:Bool) (S:SM),FOk S.bs.length fr→Grew S (kidsP G item ks E fr lam S).2 (N.sizes ks) (kidsP G item ks E fr lam S).1:=by
 induction ks with
 | nil=>intro G item E fr lam S h; rw [kidsP_nil]; exact ⟨Nat.le_refl _,by simp,h⟩
 | cons n r ih2 =>
   intro G item E fr lam S h
   have h1:=ih n (by simp) G item E fr lam S h
   have h2:=ih2 (fun p hp=>ih p (by simp [hp])) G item E _ lam _ h1.ok
   rw [kidsP_cons,N.sizes_cons]
   refine ⟨Nat.le_trans h1.bs h2.bs,?_,h2.ok⟩
   have:=h1.sz; have:=h2.sz
   omega
theorem grew_closed {ks:List N} (ih:∀ p ∈ ks,GrewN p) (G:Nms) (item:Int) (E:List Frm) (lam:Bool) (S:SM):S.bs.length≤(sclosedP G item ks E lam S).bs.length∧(sclosedP G item ks E lam S).sz≤S.sz+2 * N.sizes ks:=by
 by_cases hl:ks.length=3
 · match ks,hl with
   | [p, q, b], _ =>
     rw [sclosedP_three]
     have h1:=Grew.binds (item:=item) p.ks (FOk.nil S.bs.length)
     have h2:=ih b (by simp) G item E _ lam _ h1.ok
     have:=h1.sz; have:=h2.sz; have:=h1.bs; have:=h2.bs
     have h3:=N.sizes_len p.ks
     have h4:=N.size_ks p
     simp only [N.sizes_cons,N.sizes_nil]
     omega
 · rw [sclosedP_ne _ _ hl]; omega
theorem grew (n:N):GrewN n:=by
 induction n using N.ind with
 | h k f t w a z ks ih =>
 intro G item E fr lam S h
 rw [nodeP_mk,N.size_mk]
 by_cases h6:k=6
 · rw [if_pos h6]
   have h1:=grew_kids ih G item (⟨fr,lam⟩ :: E) [] false S (FOk.nil _)
   have:=h1.sz
   exact ⟨h1.bs,by simp only; omega,h.mono h1.bs⟩
 rw [if_neg h6]
 by_cases h7:k=7
 · rw [if_pos h7]
   have h1:=grew_kids ih G item E fr lam S h
   have h2:=Grew.bind h1.ok 4 item (.mk k f t w a z ks)
   have:=h1.sz; have:=h2.sz
   exact ⟨Nat.le_trans h1.bs h2.bs,by omega,h2.ok⟩
 rw [if_neg h7]
 by_cases h8:k=8
 · rw [if_pos h8]
   have h1:=grew_kids ih G item E fr lam (S.men (.mk k f t w a z ks) true (findP G w (⟨fr,lam⟩ :: E) 0)) h
   have:=h1.sz
   have:=SM.men_sz S (.mk k f t w a z ks) true (findP G w (⟨fr,lam⟩ :: E) 0)
   exact ⟨h1.bs,by omega,h1.ok⟩
 rw [if_neg h8]
 by_cases h9:k=23
 · rw [if_pos h9]
   have:=SM.men_sz S (.mk k f t w a z ks) false (findP G w (⟨fr,lam⟩ :: E) 0)
   exact ⟨Nat.le_refl _,by simp only; omega,h⟩
 rw [if_neg h9]
 by_cases h10:k=28
 · rw [if_pos h10]
   have h1:=grew_closed ih G item (⟨fr,lam⟩ :: E) true S
   exact ⟨h1.1,by simp only; omega,h.mono h1.1⟩
 rw [if_neg h10]
 have h1:=grew_kids ih G item E fr lam S h
 have:=h1.sz
 exact ⟨h1.bs,by omega,h1.ok⟩
section
structure RSF where
 (rbind rclosed rbegin rnode rmention:FuncId)
 (tn rtm rnm red rbd rmn:TypeId)
structure RSC where
 (im tb tm td:Nat)
section
variable {F:RSF} {c:RSC} {S S':SM} {H:Hp}
end
section
variable {P:Program} {F:RSF} {c:RSC} {S S':SM} {H:Hp}
end
end
section
section
variable {P:Program} {F:RSF} {c:RSC} {S S':SM} {H:Hp}
end
end
section
section
variable {P:Program} {F:RSF} {c:RSC} {S S':SM} {H:Hp}
end
end
end Go.Zam
