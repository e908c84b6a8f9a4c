/-
  Texts of one proof, one behind the other.
-/
import Derived.Test.YthhlbefhanplhaaGreatDoorM7
import Derived.Test.YthhlbefhanplhaaGreatDoorM3
import Derived.RangeFuncNested
import Derived.RangeFuncBox
import Derived.RangeFuncLeaves
import Derived.Shelf.Abstract
import Derived.WalkKit
import Derived.OwnWalkIn
import Derived.TacticsInMore
import Derived.LoopNIn
import Derived.LoopIn
import Derived.Test.YthhlbefhanplhaaGreatDoorProg
import Derived.BigCall
import Derived.BigGuard
import Derived.Laws.Closers25
import Derived.Laws.Closers25b
import Derived.Laws.Strings3
import Derived.Lib.AtoiErrMem
import Derived.Lib.ConvBytes
import Derived.Lib.Hide
import Derived.Lib.ParseIntBMem
import Derived.Lib.Strings
import Derived.Lib.Walk
import Derived.Shelf.Pu.Lays
import Derived.Shelf.Pu.Lower
import Derived.Shelf.Pu.ParseUint10
import Derived.Shelf.Pu.ParseUint10At
import Derived.Shelf.Pu.ParseUint10b16
import Derived.Shelf.Pu.ParseUint10b32
import Derived.Shelf.Pu.ParseUint10b64
import Derived.Shelf.Pu.ParseUint10b8
import Derived.Shelf.Pu.ParseUintEmpty
import Derived.Shelf.Pu.ToError
import Derived.Shelf.Pu.ToErrorRange
import Derived.Test.YthhlbefhanplhaaGreatDoorM4
import Derived.KernelRfl
import Derived.Test.YthhlbefhanplhaaGreatDoorM6
import Derived.Test.YthhlbefhanplhaaGreatDoorM5
import Derived.Sort.Row
import Derived.Sort.Grow
set_option linter.all false
set_option maxRecDepth 100000
set_option maxHeartbeats 4000000
namespace Go.Zam
section
open Go.Proofs
section
variable {P:Program} {H0:Hp}
def LoadOk (P:Program) (H0:Hp) (f:Nat):Prop:=∀ (l:List Mod) (z:Bool),(∀ m ∈ l,m.t.length≤1048576)→∀ H,Pre0 H0 H→ACall P f [.d (.sl z 2 (l.map encM))] H (fun r H'=>r=ofA (l.map readU)∧H'=H)
def UnitsOk (P:Program) (f:Nat):Prop:=∀ S,PrjOk S→UnitOk P S f
def DiagsOk (P:Program) (f:Nat):Prop:=∀ S,PrjOk S→∀ H,ACall P f [pA S] H (fun r H'=>r = .d (.sl (dgsU S).isEmpty 3 ((diagsU S).map encDg))∧H'=H)
def SameDOk (P:Program) (f:Nat):Prop:=∀ (l:List Dg) (z y:Bool),l.length≤1099511627776→∀ H,ACall P f [.d (.sl z 3 (l.map encDg)),.d (.sl y 3 (l.map encDg))] H (fun r H'=>r = .d (.bool true)∧H'=H)
def AwkOk (P:Program) (H0:Hp) (f:Nat):Prop:=∀ H,Pre0 H0 H→ACall P f [] H (fun r H'=>r = .d (.bool true)∧H'=H)
theorem Has.pjSame {f tD:Nat} (h:Has P f (irPjSame tD)):SameDOk P f:=by
 intro l z y hl H
 obtain ⟨fn,hf,hcf⟩:=h
 refine acall_fin hf hcf (by simp [irPjSame]) fun hcl _ => ?_
 simp [irPjSame]
 refine LoopK_out 0 (fun fr H'=>H'=H) ?_ ?_
 · refine RangeK_of H.length l.length (fun j fr H'=>fr 1 = .d (.sl y 3 (l.map encDg))∧fr 12 = .d (.sl z 3 (l.map encDg))∧H'=H) (by omega) (by decide) (by simp) (by simp) ?_ ?_ ?_
   · simp [cut_self hcl]
   · rintro j fr H' hj fi fn ⟨f1,f12,rfl⟩
     obtain ⟨d,hd⟩:∃ d,l[j]?=some d:=⟨_,List.getElem?_eq_getElem hj⟩
     have hr:Zam.rowAt (l.map encDg) (j:Int)=some [.str d.m,.int .i64 d.a,.int .i64 d.c]:=by simp [Zam.rowAt,hd,encDg]
     simp [fi,f1,f12,hr]
     refine NextK_of H'.length (Nat.le_refl _) (by simp [fi,fn]) ?_
     simp [f1,f12,cut_app hcl]
   · rintro fr H' fi fn ⟨f1,f12,rfl⟩
     simp
 · rintro fr H' rfl
   simp
   simp [RetK,cut_self hcl]
def exM:Mod:=⟨[109,97,105,110],[100,101,102,32,109,97,105,110,40,41,32,123,125]⟩
def exU:Un:=readU exM
theorem ex_chk:chkU none [exU]=0:=by kernel_rfl
theorem ex_of:ofU ([exM].map readU)=([exU],0):=by
 have h1:ssort cU [exU]=[exU]:=rfl
 have h2:[exM].map readU=[exU]:=rfl
 unfold ofU
 rw [h2,if_neg (by decide),h1,ex_chk]
 rfl
theorem ex_dgs:(dgsU [exU]).isEmpty=true:=by kernel_rfl
theorem ex_kind:exU.tr.k=1:=by kernel_rfl
theorem ex_prj:PrjOk [exU]:=by
 have:=ofU_ok [exM]
 rw [ex_of] at this
 exact this
theorem ex_unit:unitU [exU] [109,97,105,110]=some exU:=rfl
theorem Has.pjAwake {f load unit diags tU:Nat} (h:Has P f (irPjAwake load unit diags tU)) (hl:LoadOk P H0 load) (hu:UnitsOk P unit) (hd:DiagsOk P diags):AwkOk P H0 f:=by
 intro H hH
 obtain ⟨fn,hf,hcf⟩:=h
 refine acall_fin hf hcf (by simp [irPjAwake]) fun hcl _ => ?_
 have g1:=hl [exM] false (by intro m hm; simp at hm; subst hm; decide) H hH
 have ho:ofA ([exM].map readU) = .tup [pA [exU],.d (.int .i64 0)]:=by unfold ofA; rw [ex_of]; rfl
 rw [ho] at g1
 have g2:=hu [exU] ex_prj [109,97,105,110]
 rw [ex_unit] at g2
 have g3:=fun X=>hd [exU] ex_prj (H++X)
 have he:dgsU [exU]=[]:=by simpa using ex_dgs
 have hds:diagsU [exU]=[]:=by unfold diagsU; rw [he]; rfl
 rw [he,hds] at g3
 have hk:=ex_kind
 obtain ⟨zu,ms,hue⟩:=exU.enc_all
 generalize exU=u at *
 simp only [Option.elim_some,Option.isSome_some] at g2
 rw [hue,hk] at g2
 simp only [List.map_cons,List.map_nil,encM,exM,pA] at g1 g2 g3
 simp [irPjAwake]
 refine CallK_of' g1 ?_
 simp
 refine CallK_of' (g2 _) ?_
 simp
 refine CallK_of' (g3 _) ?_
 simp
 simp [RetK,cut_app hcl]
theorem HasT.pjLSorts {f awake sort rsort same tD tE:Nat} (h:HasT P [3] f (irPjLSorts awake sort rsort same tD tE)) (hA:AwkOk P H0 awake) (hS:SortDOk P sort) (hR:RsortOk P rsort) (hE:SameDOk P same) (l:List Dg) (z:Bool) (hl:l.length≤1073741824) (H:Hp) (hH:Pre0 H0 H) :
 ACall P f [.d (.sl z 3 (l.map encDg))] H (fun r H'=>r = .d (.bool true)∧H'=H):=by
 obtain ⟨fn,hf,hcf⟩:=h
 refine acall_fin hf hcf (by simp [irPjLSorts]) fun hcl _ => ?_
 by_cases h2:200 < l.length
 · have h2':(200:Int) < l.length:=by omega
   simp [irPjLSorts,h2']
   refine CallK_of' (hA _ hH) ?_
   simp
   simp [RetK,cut_self hcl]
 have h2':¬ (200:Int) < l.length:=by omega
 simp [irPjLSorts,h2']
 refine LoopK_out 0 (fun fr H'=>fr 0 = .d (.sl z 3 (l.map encDg))∧fr 3 = .osl true 3 (l.map encDg) H.length∧H'=H++[.tok l.length 3 tE]) ?_ ?_
 · refine RangeK_of (H.length+1) l.length (fun j fr H'=>fr 0 = .d (.sl z 3 (l.map encDg))∧fr 10 = .d (.sl z 3 (l.map encDg))∧fr 3 = .osl true 3 ((l.map encDg).take j) H.length∧H'=H++[.tok j 3 tE]) (by omega) (by decide) (by simp) (by simp) ?_ ?_ ?_
   · simp [cut_appk hcl]
   · rintro j fr H' hj fi fn ⟨f0,f10,f3,rfl⟩
     obtain ⟨d,hd⟩:∃ d,l[j]?=some d:=⟨_,List.getElem?_eq_getElem hj⟩
     have hr:Zam.rowAt (l.map encDg) (j:Int)=some [.str d.m,.int .i64 d.a,.int .i64 d.c]:=by simp [Zam.rowAt,hd,encDg]
     have ht:(l.map encDg).take (j+1)=(l.map encDg).take j++[[.str d.m,.int .i64 d.a,.int .i64 d.c]]:=by rw [List.take_succ,List.getElem?_map,hd]; rfl
     have happ:=fun X=>take_app (H:=H) (X:=X) (l.map encDg) j (b:=32) (sz:=3) (e:=tE) [.str d.m,.int .i64 d.a,.int .i64 d.c] (by simpa using hj) (by simp; omega)
     simp [fi,f10,hr,f3,happ]
     refine NextK_of (H.length+1) (Nat.le_refl _) (by simp [fi,fn]) ?_
     simp [f0,f10,cut_appk hcl,ht]
   · rintro fr H' fi fn ⟨f0,f10,f3,rfl⟩
     simp [f0]
     rw [f3,List.take_of_length_le (by simp)]
 · rintro fr H' ⟨f0,f3,rfl⟩
   have hsl:=ssort_length cD_cmp l
   simp
   refine CallK_of' (hA _ (hH.app _)) ?_
   simp [f0]
   refine CallK_of' (hS _ z l (by omega)) ?_
   simp [f3]
   refine CallK_of' (ACall.osl1 (hR _ true l (by omega))) ?_
   simp
   refine CallK_of' (hE (ssort cD l) _ _ (by omega) _) ?_
   simp
   simp [RetK,cut_app hcl]
end
end
section
open Go.Proofs
theorem chk_strict:∀ {S:List Un} {p:Option Bs},Sorted cU S→chkU p S=0→(S.Pairwise fun u v=>cU u v < 0)∧(∀ u ∈ S,isNameB u.n=true)∧∀ u,S.head?=some u→p ≠ some u.n
 | [],p,_,_=>⟨.nil,by simp,by simp⟩
 | u :: r, p, h, hc => by
   have hr:Sorted cU r:=(List.pairwise_cons.1 h).2
   have hu:∀ v ∈ r,cU u v≤0:=(List.pairwise_cons.1 h).1
   unfold chkU at hc
   split at hc
   · simp at hc
   · rename_i h1
     split at hc
     · simp at hc
     · rename_i h2
       obtain ⟨g1,g2,g3⟩:=chk_strict hr hc
       refine ⟨List.pairwise_cons.2 ⟨fun v hv => ?_,g1⟩,fun v hv => ?_,fun v hv => ?_⟩
       · cases r with
         | nil=>simp at hv
         | cons w r =>
           have h3:u.n ≠ w.n:=fun e=>g3 w rfl (by rw [e])
           have h4:cU u w < 0:=by
            have:=hu w (by simp)
            have h5:cU u w ≠ 0:=fun e=>h3 (cmpStr_zero.1 e)
            omega
           rcases List.mem_cons.1 hv with rfl | hv
           · exact h4
           · have:=(List.pairwise_cons.1 g1).1 v hv
             exact cU_cmp.lt_le h4 (by omega)
       · rcases List.mem_cons.1 hv with rfl | hv
         · simpa using h1
         · exact g2 v hv
       · simp at hv; subst hv; exact h2
theorem unit_self {S:List Un} (hS:Sorted cU S) (hc:chkU none S=0) {i:Nat} {u:Un} (hu:S[i]?=some u):unitU S u.n=some u:=by
 rw [unitU_find hS]
 have h:=(chk_strict hS hc).1
 clear hc hS
 induction S generalizing i with
 | nil=>simp at hu
 | cons v r ih =>
   cases i with
   | zero =>
     simp at hu; subst hu
     rw [List.find?_cons_of_pos (by simp)]
   | succ i =>
     simp at hu
     have h1:=(List.pairwise_cons.1 h).1 u (List.mem_of_getElem? hu)
     have h2:¬ v.n=u.n:=fun e=>by
      have:cU v u=0:=cmpStr_zero.2 e
      omega
     rw [List.find?_cons_of_neg (by simpa using h2)]
     exact ih hu (List.pairwise_cons.1 h).2
theorem ofU_zero {l:List Un} (h:(ofU l).2=0):Sorted cU (ofU l).1∧chkU none (ofU l).1=0:=by
 unfold ofU at h ⊢
 split at h
 · simp at h
 · rename_i h8
   rw [if_neg h8]
   simp only at h ⊢
   rw [if_pos h]
   exact ⟨(ssort_spec cU_cmp l).1,h⟩
end
section
open Go.Proofs
section
variable {P:Program} {H0:Hp}
def LightOk (P:Program) (f:Nat):Prop:=∀ (l:List Mod) (z:Bool) (most:Int),0≤most∧most≤1048576→l.length≤1048576→(∀ m ∈ l,m.n.length≤1048576∧m.t.length≤1048576)→∀ H,ACall P f [.d (.sl z 2 (l.map encM)),.d (.int .i64 most)] H (fun r H'=>r = .d (.bool (light l most))∧H'=H)
def NamesOk (P:Program) (f:Nat):Prop:=∀ (S:List Un),S.length≤1048576→∀ H,ACall P f [pA S] H (fun r H'=>r = .d (.sl true 1 (S.map fun u=>[.str u.n]))∧H'=H)
end
end
section
open Go.Proofs
section
variable {P:Program} {H0:Hp}
def ImpsAll (P:Program) (f:Nat):Prop:=∀ S,PrjOk S→∀ u ∈ S,ImpOk P S u f
end
end
section
open Go.Proofs
theorem bs_eq:∀ {a b:List Bs},(a.Pairwise fun x y=>cmpStr x y≤0)→(b.Pairwise fun x y=>cmpStr x y≤0)→a.Perm b→a=b
 | [],b,_,_,h=>by simpa using h.symm
 | x :: a,[],_,_,h=>by simp at h
 | x :: a, y :: b, ha, hb, h => by
   have e:x=y:=by
    have h1:x ∈ y :: b:=h.mem_iff.1 (by simp)
    have h2:y ∈ x :: a:=h.mem_iff.2 (by simp)
    rcases List.mem_cons.1 h1 with e | h1
    · exact e
    rcases List.mem_cons.1 h2 with e | h2
    · exact e.symm
    have g1:=(List.pairwise_cons.1 ha).1 y h2
    have g2:=(List.pairwise_cons.1 hb).1 x h1
    have g3:=cmpStr_cmp.anti x y
    have g4:=cmpStr_cmp.anti y x
    exact cmpStr_zero.1 (by omega)
   subst e
   rw [bs_eq (List.pairwise_cons.1 ha).2 (List.pairwise_cons.1 hb).2 h.cons_inv]
theorem un_eq:∀ {a b:List Un},(a.Pairwise fun x y=>cU x y < 0)→(b.Pairwise fun x y=>cU x y < 0)→a.Perm b→a=b
 | [],b,_,_,h=>by simpa using h.symm
 | x :: a,[],_,_,h=>by simp at h
 | x :: a, y :: b, ha, hb, h => by
   have e:x=y:=by
    have h1:x ∈ y :: b:=h.mem_iff.1 (by simp)
    have h2:y ∈ x :: a:=h.mem_iff.2 (by simp)
    rcases List.mem_cons.1 h1 with e | h1
    · exact e
    rcases List.mem_cons.1 h2 with e | h2
    · exact e.symm
    have g1:=(List.pairwise_cons.1 ha).1 y h2
    have g2:=(List.pairwise_cons.1 hb).1 x h1
    have g3:=cU_cmp.anti x y
    have g4:=cU_cmp.anti y x
    omega
   subst e
   rw [un_eq (List.pairwise_cons.1 ha).2 (List.pairwise_cons.1 hb).2 h.cons_inv]
def chkN:Option Bs→List Bs→Int
 | _,[]=>0
 | p,n :: r=>if isNameB n=false then 1 else if p=some n then 4 else chkN (some n) r
theorem chkU_N:∀ (S:List Un) (p:Option Bs),chkU p S=chkN p (S.map Un.n)
 | [],p=>rfl
 | u :: r,p=>by simp only [chkU,List.map_cons,chkN]; rw [chkU_N r]
theorem ofU_perm {a b:List Un} (h:a.Perm b):ofU a=ofU b:=by
 have h1:=ssort_spec cU_cmp a
 have h2:=ssort_spec cU_cmp b
 have p1:a.Perm (ssort cU a):=h1.2.length cU_cmp
 have p2:b.Perm (ssort cU b):=h2.2.length cU_cmp
 have hp:(ssort cU a).Perm (ssort cU b):=p1.symm.trans (h.trans p2)
 have hn:(ssort cU a).map Un.n=(ssort cU b).map Un.n:=by
  refine bs_eq ?_ ?_ (hp.map _)
  · exact List.pairwise_map.2 h1.1
  · exact List.pairwise_map.2 h2.1
 have hc:chkU none (ssort cU a)=chkU none (ssort cU b):=by rw [chkU_N,chkU_N,hn]
 unfold ofU
 rw [h.length_eq,hc]
 split
 · rfl
 · split
   · rename_i h0
     rw [un_eq (chk_strict h1.1 (hc.trans h0)).1 (chk_strict h2.1 h0).1 hp]
   · rfl
def turnL {α:Type} (l:List α) (k:Nat):List α:=l.drop (k % l.length)++l.take (k % l.length)
theorem turnL_perm {α:Type} (l:List α) (k:Nat):(turnL l k).Perm l:=by
 unfold turnL
 exact List.perm_append_comm.trans (by rw [List.take_append_drop])
theorem turnL_len {α:Type} (l:List α) (k:Nat):(turnL l k).length=l.length:=(turnL_perm l k).length_eq
theorem turnL_get {α:Type} {l:List α} {k i:Nat} (hi:i < l.length):(turnL l k)[i]?=l[(i+k) % l.length]?:=by
 unfold turnL
 have h0:k % l.length < l.length:=Nat.mod_lt _ (by omega)
 have hm:(i+k) % l.length=(i+k % l.length) % l.length:=by rw [Nat.add_mod_mod]
 rw [hm]
 generalize k % l.length=q at *
 by_cases h:i < l.length - q
 · rw [List.getElem?_append_left (by simpa using h),List.getElem?_drop,Nat.mod_eq_of_lt (by omega),Nat.add_comm]
 · have e:(i+q) % l.length=i+q - l.length:=by
    rw [Nat.mod_eq_sub_mod (by omega),Nat.mod_eq_of_lt (by omega)]
   rw [List.getElem?_append_right (by simp; omega),e,List.getElem?_take_of_lt (by simp; omega)]
   congr 1
   simp; omega
end
def irPjLGrows (light awake load names unit diags tU tTk tM:Nat):IFn:=⟨113,[.t 4],Jq [Jp 4 (.mv (.c (.bool false)))] (.seq (Jk [Jm 18 0,Jc 19 light [.t 18,JI 3000],Jp 20 (.un .not (.t 19)),Jm 21 20,Jg 22 21 false (Km 0),Jg 23 21 false (.lenL (.t 22)),Jg 24 21 false (KB .gtr 23 7),Jo 25 21 24,Jm 26 25,Jg 27 26 false (Km 1),Jg 28 26 false (.bin .eql (.t 27) (.c (.str [109,97,105,110]))),Jo 29 26 28] 29 (Jq [Jc 30 awake [],Jm 4 30] .ret) .skip) (Jq [Jm 32 0,Jc 33 load [.t 32],Jm 31 33,Je 34 31 0,Je 35 31 1,Jm 5 34,Jm 6 35] (.seq (Jk [Jm 36 6,JB 37 .neq 36 0] 37 (Jq [Jc 38 awake [],Jm 4 38] .ret) .skip) (.seq (Jq [Jm 39 5,Jc 40 names [.t 39],Jh 41 40,Ji 42 0] (.blk 0 (.loop (Jr 42 41 43 69 0 1 (Jq [JA 44 1 40 42,Jl 45 44,Jm 8 45] (Jq [Jm 47 5,Jm 48 8,Jc 49 unit [.t 47,.t 48],Jm 46 49,Je 50 46 0,Je 51 46 1,Jy 9 tU [JS,JS,.sl true 4 [],J0,J0,J0,JS,J0,.sl true 6 [],.sl true 4 [],.sl true 4 [],.sl true 2 [],J0,J0],Js 14 9 50,Jm 10 51] (.seq (Jq [Jf 52 2 9,Jl 53 52,Jh 54 53,Ji 55 0] (.blk 2 (.loop (Jr 55 54 56 64 2 3 (Jq [JA 57 4 53 55,JL 58 4 57,Jy 12 tTk [J0,J0,JS,JS],Js 4 12 58] (Jk [Jf 59 3 12,Jl 60 59,Jm 61 1,Jb 62 .eql 60 61] 62 (Jq [Jc 63 awake [],Jm 4 63] .ret) .skip)))))) (Jk [Jm 65 8,Jm 66 1,Jb 67 .eql 65 66] 67 (Jq [Jc 68 awake [],Jm 4 68] .ret) .skip)))))))) (Jq [Jp 71 (.bsliceT 2 tM []),Jm 72 0,Jp 73 (.app 2 32 tM (.t 71) (.t 72)),Jm 74 1,Jp 75 (.build [JS,JS] [(0,1,.t 74),(1,1,.c (.str [100,101,102,32,97,108,111,110,101,40,110,41,32,123,32,114,101,116,117,114,110,32,110,59,32,125]))]),Jp 76 (.bslice 2 [.t 75]),Jp 77 (.app 2 32 tM (.t 73) (.t 76)),Jc 78 load [.t 77],Jm 70 78,Je 79 70 0,Je 80 70 1,Jm 13 79,Jm 14 80] (.seq (Jk [Jm 81 14,JB 82 .neq 81 0] 82 (Jq [Jc 83 awake [],Jm 84 83,Jg 85 84 true (Km 14),Jg 86 84 true (KB .eql 85 1),Ja 87 84 86,Jm 4 87] .ret) .skip) (Jq [Jm 88 5,Jc 89 diags [.t 88],Jm 90 13,Jc 91 diags [.t 90],Jm 15 89,Jm 16 91] (.seq (Jk [Jm 92 15,Jh 93 92,Jm 94 16,Jh 95 94,Jb 96 .neq 93 95] 96 (Jq [Jp 4 (.mv (.c (.bool false)))] .ret) .skip) (.seq (Jq [Jm 97 15,Jh 98 97,Ji 99 0] (.blk 4 (.loop (Jr 99 98 100 111 4 5 (Jq [Jm 101 99,Jm 17 101] (.seq (.ops [Jm 102 15,Jm 103 17,JA 104 3 102 103,JL 105 3 104,Jm 106 16,Jm 107 17,JA 108 3 106 107,JL 109 3 108,Jp 110 (.eqA true [JS,J0,J0] (.t 105) (.t 109))] true) (.cond (.t 110) (Jq [Jp 4 (.mv (.c (.bool false)))] .ret) .skip))))))) (Jq [Jc 112 awake [],Jm 4 112] .ret))))))))))⟩
def irPjLTurns (light awake load diags unit names mods tU tM:Nat):IFn:=⟨111,[.t 4],Jq [Jp 4 (.mv (.c (.bool false)))] (.seq (Jk [Jm 17 0,Jc 18 light [.t 17,JI 20000],Jp 19 (.un .not (.t 18))] 19 (Jq [Jc 20 awake [],Jm 4 20] .ret) .skip) (Jq [Jp 5 (.nilT 2 tM)] (.seq (Jq [Jm 21 0,Jh 22 21,Ji 23 0] (.blk 0 (.loop (Jr 23 22 24 39 0 1 (Jq [Jm 25 23,Jm 6 25] (Jz [Jm 26 5,Jm 27 0,Jm 28 6,Jm 29 1,Jp 30 (.cvt .i64 (.t 29)),Jb 31 .add 28 30,Jm 32 0,Jh 33 32,Jb 34 .rem 31 33,JA 35 2 27 34,JL 36 2 35,Jp 37 (.bslice 2 [.t 36]),Jp 38 (.app 2 32 tM (.t 26) (.t 37)),Jm 5 38])))))) (Jq [Jm 41 0,Jc 42 load [.t 41],Jm 40 42,Je 43 40 0,Je 44 40 1,Jm 7 43,Jm 8 44] (Jq [Jm 46 5,Jc 47 load [.t 46],Jm 45 47,Je 48 45 0,Je 49 45 1,Jm 9 48,Jm 10 49] (.seq (Jk [Jm 50 8,Jm 51 10,Jb 52 .neq 50 51,Jm 53 52,Jg 54 53 false (Km 8),Jg 55 53 false (KB .neq 54 0),Jo 56 53 55] 56 (Jq [Jc 57 awake [],Jm 58 57,Jg 59 58 true (Km 8),Jg 60 58 true (Km 10),Jg 61 58 true (Kb .eql 59 60),Ja 62 58 61,Jm 4 62] .ret) .skip) (Jq [Jm 63 7,Jc 64 diags [.t 63],Jm 65 9,Jc 66 diags [.t 65],Jm 11 64,Jm 12 66] (.seq (Jk [Jm 67 11,Jh 68 67,Jm 69 12,Jh 70 69,Jb 71 .neq 68 70] 71 (Jq [Jp 4 (.mv (.c (.bool false)))] .ret) .skip) (.seq (Jq [Jm 72 11,Jh 73 72,Ji 74 0] (.blk 2 (.loop (Jr 74 73 75 86 2 3 (Jq [Jm 76 74,Jm 13 76] (.seq (.ops [Jm 77 11,Jm 78 13,JA 79 3 77 78,JL 80 3 79,Jm 81 12,Jm 82 13,JA 83 3 81 82,JL 84 3 83,Jp 85 (.eqA true [JS,J0,J0] (.t 80) (.t 84))] true) (.cond (.t 85) (Jq [Jp 4 (.mv (.c (.bool false)))] .ret) .skip))))))) (Jq [Jp 14 (.mv (.c .nilp))] (Jq [Jm 88 14,Jc 89 unit [.t 88,.c (.str [109,97,105,110])],Jm 87 89,Je 90 87 0,Je 91 87 1,Jy 15 tU [JS,JS,.sl true 4 [],J0,J0,J0,JS,J0,.sl true 6 [],.sl true 4 [],.sl true 4 [],.sl true 2 [],J0,J0],Js 14 15 90,Jm 16 91] (Jq [Jc 92 awake [],Jm 93 92,Jg 94 93 true (Km 16),Jg 95 93 true (.un .not (.t 94)),Ja 96 93 95,Jm 97 96,Jg 98 97 true (Km 14),Jg 99 97 true (.call names [.t 98]),Jg 100 97 true (.lenL (.t 99)),Jg 101 97 true (Km 14),Jg 102 97 true (.call diags [.t 101]),Jg 103 97 true (.lenL (.t 102)),Jg 104 97 true (Kb .add 100 103),Jg 105 97 true (Km 14),Jg 106 97 true (.call mods [.t 105]),Jg 107 97 true (.lenL (.t 106)),Jg 108 97 true (Kb .add 104 107),Jg 109 97 true (KB .eql 108 0),Ja 110 97 109,Jm 4 110] .ret))))))))))))⟩
section
open Go.Proofs
section
variable {P:Program} {H0:Hp}
def Unit0Ok (P:Program) (f:Nat):Prop:=∀ (s:Bs) (H:Hp),ACall P f [.d .nilp,.d (.str s)] H (fun r H'=>r = .tup [.agg (zU.map .d),.d (.bool false)]∧H'=H)
def Names0Ok (P:Program) (f:Nat):Prop:=∀ H,ACall P f [.d .nilp] H (fun r H'=>r = .d (.sl true 1 [])∧H'=H)
def Mods0Ok (P:Program) (f:Nat):Prop:=∀ H,ACall P f [.d .nilp] H (fun r H'=>r = .d (.sl true 2 [])∧H'=H)
def Diags0Ok (P:Program) (f:Nat):Prop:=∀ H,ACall P f [.d .nilp] H (fun r H'=>r = .d (.sl true 3 [])∧H'=H)
theorem diagsU_len {S:List Un} (h:PrjOk S):(diagsU S).length≤1099511627776:=by
 unfold diagsU
 rw [ssort_length cD_cmp]
 unfold dgsU
 have h1:=flat_len (T:=S) h.sm
 have h2:S.length * 2147483648≤8 * 2147483648:=Nat.mul_le_mul_right _ h.len
 rw [List.length_append]
 split<;>simp only [List.length_nil,List.length_singleton]<;>omega
theorem HasT.pjLTurns {f light_ awake load diags unit names mods tU tM:Nat} (h:HasT P [5] f (irPjLTurns light_ awake load diags unit names mods tU tM)) (hLi:LightOk P light_) (hA:AwkOk P H0 awake) (hL:LoadOk P H0 load)
 (hD:DiagsOk P diags) (hU0:Unit0Ok P unit) (hN0:Names0Ok P names) (hM0:Mods0Ok P mods) (hD0:Diags0Ok P diags) (l:List Mod) (z:Bool) (by_:Nat) (hby:by_ < 256) (hl:l.length≤1048576) (hm:∀ m ∈ l,m.n.length≤1048576∧m.t.length≤1048576) (H:Hp) (hH:Pre0 H0 H) :
 ACall P f [.d (.sl z 2 (l.map encM)),.d (.int .u8 by_)] H (fun r H'=>r = .d (.bool true)∧H'=H):=by
 obtain ⟨fn,hf,hcf⟩:=h
 refine acall_fin hf hcf (by simp [irPjLTurns]) fun hcl _ => ?_
 have g1:=hLi l z 20000 (by omega) hl hm H
 simp [irPjLTurns]
 refine CallK_of' g1 ?_
 cases light l 20000 with
 | false =>
   simp
   refine CallK_of' (hA _ hH) ?_
   simp
   simp [RetK,cut_self hcl]
 | true =>
   simp
   obtain ⟨T,hT⟩:∃ T,T=turnL l by_:=⟨_,rfl⟩
   have hTl:T.length=l.length:=by rw [hT,turnL_len]
   have hTm:∀ m ∈ T,m.t.length≤1048576:=fun m hm'=>(hm m ((turnL_perm l by_).mem_iff.1 (by rw [← hT]; exact hm'))).2
   have hTo:ofU (T.map readU)=ofU (l.map readU):=by rw [hT]; exact ofU_perm ((turnL_perm l by_).map _)
   have g2:=fun X=>hL l z (fun m h=>(hm m h).2) (H++X) (hH.app X)
   have g3:=fun X=>hL T true hTm (H++X) (hH.app X)
   have hp:=ofU_ok l
   unfold ofA at g2 g3
   rw [hTo] at g3
   refine LoopK_out 0 (fun fr H'=>fr 0 = .d (.sl z 2 (l.map encM))∧fr 5 = .osl true 2 (T.map encM) H.length∧H'=H++[.tok l.length 2 tM]) ?_ ?_
   · refine RangeK_of (H.length+1) l.length (fun j fr H'=>fr 0 = .d (.sl z 2 (l.map encM))∧fr 1 = .d (.int .u8 by_)∧fr 5 = .osl true 2 ((T.map encM).take j) H.length∧H'=H++[.tok j 2 tM]) (by omega) (by decide) (by simp) (by simp) ?_ ?_ ?_
     · simp [cut_appk hcl]
     · rintro j fr H' hj fi fn ⟨f0,f1,f5,rfl⟩
       obtain ⟨m,hm'⟩:∃ m,T[j]?=some m:=⟨_,List.getElem?_eq_getElem (by omega)⟩
       have hg:l[(j+by_) % l.length]?=some m:=by rw [← turnL_get hj,← hT]; exact hm'
       obtain ⟨q,hq⟩:∃ q,q=(j+by_) % l.length:=⟨_,rfl⟩
       rw [← hq] at hg
       have hr:Zam.rowAt (l.map encM) (q:Int)=some [.str m.n,.str m.t]:=by simp [Zam.rowAt,hg,encM]
       have w1:IntKind.i64.wrap (by_:Int)=by_:=wrap_i64 (by omega) (by omega)
       have w2:IntKind.i64.wrap ((j:Int)+by_)=j+by_:=wrap_i64 (by omega) (by omega)
       have w3:((j:Int)+by_).tmod (l.length:Int)=(q:Int):=by
        rw [hq,show ((j:Int)+by_)=((j+by_:Nat):Int) by omega]
        exact (Int.ofNat_tmod _ _).symm
       have hl0:¬ (l.length:Int)=0:=by omega
       have ht:(T.map encM).take (j+1)=(T.map encM).take j++[[.str m.n,.str m.t]]:=by rw [List.take_succ,List.getElem?_map,hm']; rfl
       have happ:=fun X=>take_app (H:=H) (X:=X) (T.map encM) j (b:=32) (sz:=2) (e:=tM) [.str m.n,.str m.t] (by simp; omega) (by simp; omega)
       have hll:¬ l=[]:=fun e=>by rw [e] at hj; simp at hj
       simp [fi,f0,f1,f5,w1,w2,intOp,hl0,hll,w3,hr,happ]
       refine NextK_of (H.length+1) (Nat.le_refl _) (by simp [fi,fn]) ?_
       simp [f0,f1,cut_appk hcl,ht]
     · rintro fr H' fi fn ⟨f0,f1,f5,rfl⟩
       simp [f0]
       rw [f5,List.take_of_length_le (by simp; omega)]
   · rintro fr H' ⟨f0,f5,rfl⟩
     have hd:=fun X=>hD _ hp (H++X)
     have hdl:=diagsU_len hp
     generalize ofU (l.map readU)=o at *
     obtain ⟨S,e⟩:=o
     simp only at g2 g3 hp hd hdl
     generalize (dgsU S).isEmpty=ze at hd
     generalize diagsU S=DD at *
     simp [f0]
     refine CallK_of' (g2 _) ?_
     by_cases he:e=0
     · subst he
       simp only [if_true] at g3
       simp only [pA] at hd g3
       simp [pA,f5]
       refine CallK_of' (ACall.osl1 (g3 _)) ?_
       simp
       refine CallK_of' (hd _) ?_
       simp
       refine CallK_of' (hd _) ?_
       simp
       refine LoopK_outR 2 (fun fr H'=>H'=H++[.tok l.length 2 tM]) (fun _ _=>False) ?_ (fun _ _ h=>h.elim) ?_
       · refine RangeK_of (H.length+1) DD.length (fun j fr H'=>fr 11 = .d (.sl ze 3 (DD.map encDg))∧fr 12 = .d (.sl ze 3 (DD.map encDg))∧H'=H++[.tok l.length 2 tM]) (by omega) (by decide) (by simp) (by simp) ?_ ?_ ?_
         · simp [cut_appk hcl]
         · rintro j fr H' hj fi fn ⟨f11,f12,rfl⟩
           obtain ⟨d,hdj⟩:∃ d,DD[j]?=some d:=⟨_,List.getElem?_eq_getElem hj⟩
           have hr:Zam.rowAt (DD.map encDg) (j:Int)=some [.str d.m,.int .i64 d.a,.int .i64 d.c]:=by simp [Zam.rowAt,hdj,encDg]
           simp [fi,f11,f12,hr,eqDs,eqD]
           refine NextK_of (H.length+1) (Nat.le_refl _) (by simp [fi,fn]) ?_
           simp [f11,f12,cut_appk hcl]
         · rintro fr H' fi fn ⟨f11,f12,rfl⟩
           simp
       · rintro fr H' rfl
         have hu0:=hU0 [109,97,105,110]
         simp only [zU,List.map_cons,List.map_nil] at hu0
         simp
         refine CallK_of' (hu0 _) ?_
         simp
         refine CallK_of' (hA _ (hH.app _)) ?_
         simp
         refine CallK_of' (hN0 _) ?_
         simp
         refine CallK_of' (hD0 _) ?_
         simp
         refine CallK_of' (hM0 _) ?_
         simp
         simp [RetK,cut_app hcl]
         decide
     · simp only [if_neg he] at g3
       simp [he,f5]
       refine CallK_of' (ACall.osl1 (g3 _)) ?_
       simp [he]
       refine CallK_of' (hA _ (hH.app _)) ?_
       simp
       simp [RetK,cut_app hcl]
end
end
section
open Go.Proofs
section
variable {P:Program} {H0:Hp}
def OfOk (P:Program) (f:Nat):Prop:=∀ (l:List Un) (z:Bool),l.length≤1048576→(l=[]→z=true)→∀ H,ACall P f [.d (.sl z 14 (l.map Un.enc))] H (fun r H'=>r=ofA l∧H'=H)
end
end
section
open Go.Proofs
def aloneT:Bs:=[100,101,102,32,97,108,111,110,101,40,110,41,32,123,32,114,101,116,117,114,110,32,110,59,32,125]
theorem alone_bad:(parseO aloneT).2.2.1=0:=by kernel_rfl
theorem alone_sm:(scopeM (parseO aloneT).2.1).bad.isEmpty=true:=by kernel_rfl
theorem alone_bs:(scopeM (parseO aloneT).2.1).bs.all (fun b=>decide (b.k ≠ 1))=true:=by kernel_rfl
theorem readU_bad (m:Mod):(readU m).bad=(parseO m.t).2.2.1:=rfl
theorem readU_sm (m:Mod) (h:(parseO m.t).2.2.1=0):(readU m).sm=scopeM (parseO m.t).2.1:=by
 show (if _ then _ else _)=_
 rw [if_pos h]
theorem alone_dg (S:List Un) (n:Bs):dg1 S (readU ⟨n,aloneT⟩)=[]:=by
 obtain ⟨T,hT⟩:∃ T,T=aloneT:=⟨_,rfl⟩
 have ab:=alone_bad
 have asm:=alone_sm
 have bb:=alone_bs
 rw [← hT] at ab asm bb ⊢
 have h0:(readU ⟨n,T⟩).bad=0:=(readU_bad ⟨n,T⟩).trans ab
 have hs:(readU ⟨n,T⟩).sm=scopeM (parseO T).2.1:=readU_sm ⟨n,T⟩ ab
 rw [dg1,if_pos h0,hs]
 have h1:(scopeM (parseO T).2.1).bad=[]:=by simpa using asm
 rw [h1]
 have h2:∀ l:List SBd,(l.all fun b=>decide (b.k ≠ 1))=true→impsU S (readU ⟨n,T⟩) l=[]:=by
  intro l
  induction l with
  | nil=>intro _; rfl
  | cons b l ih =>
    intro h
    simp only [List.all_cons,Bool.and_eq_true,decide_eq_true_eq] at h
    have h3:imp1 S (readU ⟨n,T⟩) b=[]:=by rw [imp1,if_neg h.1]
    have h4:=ih h.2
    unfold impsU at h4 ⊢
    rw [List.flatMap_cons,h3,h4]; rfl
 rw [h2 _ bb]; rfl
theorem sort_more {L:List Un} {a:Un}:∃ A B,ssort cU L=A++B∧ssort cU (L++[a])=A++a :: B∧(∀ y ∈ A,cU y a≤0)∧∀ y ∈ B,cU a y < 0:=by
 have hso:=(ssort_spec cU_cmp L).1
 obtain ⟨A,B,hAB,hA,hB⟩:∃ A B,ssort cU L=A++B∧(∀ y ∈ A,cU y a≤0)∧∀ y ∈ B,cU a y < 0:=by
  generalize ssort cU L=S at hso
  induction S with
  | nil=>exact ⟨[],[],rfl,by simp,by simp⟩
  | cons x S ih =>
    by_cases h:cU x a≤0
    · obtain ⟨A,B,h1,h2,h3⟩:=ih (List.pairwise_cons.1 hso).2
      refine ⟨x :: A,B,by rw [h1]; rfl,fun y hy => ?_,h3⟩
      rcases List.mem_cons.1 hy with rfl | hy
      · exact h
      · exact h2 y hy
    · refine ⟨[],x :: S,rfl,by simp,fun y hy => ?_⟩
      have hax:cU a x < 0:=by have:=cU_cmp.anti a x; omega
      rcases List.mem_cons.1 hy with rfl | hy
      · exact hax
      · exact cU_cmp.lt_le hax ((List.pairwise_cons.1 hso).1 y hy)
 refine ⟨A,B,hAB,?_,hA,hB⟩
 rw [← ssort_snoc cU_cmp (by rw [← hAB]; exact hso) hA hB]
 refine ssort_alk cU_cmp ?_
 refine Alk.append ?_ (Alk.refl _)
 rw [← hAB]
 exact (ssort_spec cU_cmp L).2.symm
theorem chk_val:∀ {S:List Un} {p:Option Bs},(S.Pairwise fun u v=>cU u v < 0)→(∀ u,S.head?=some u→p ≠ some u.n)→chkU p S=if S.all (fun u=>isNameB u.n) then 0 else 1
 | [],p,_,_=>rfl
 | u :: r, p, h, hp => by
   have hne:¬ p=some u.n:=hp u rfl
   have hr:∀ v,r.head?=some v→some u.n ≠ some v.n:=fun v hv e=>by
    have:v ∈ r:=by cases r<;>simp_all
    have h1:=(List.pairwise_cons.1 h).1 v this
    have:cU u v=0:=cmpStr_zero.2 (by simpa using e)
    omega
   have ih:=chk_val (p:=some u.n) (List.pairwise_cons.1 h).2 hr
   unfold chkU
   rw [ih]
   cases hb:isNameB u.n with
   | false=>simp [hb]
   | true=>simp [hb,hne]
section
variable {L:List Un} {a:Un}
theorem more_ok (hL:(ofU L).2=0) (h7:L.length≤7) (ha:∀ u ∈ (ofU L).1,u.n ≠ a.n) :
 (ofU (L++[a])).2=(if isNameB a.n then 0 else 1)∧(isNameB a.n=true→∃ A B,(ofU L).1=A++B∧(ofU (L++[a])).1=A++a :: B):=by
 have h8:¬ 8 < L.length:=by omega
 have h8':¬ 8 < (L++[a]).length:=by simp; omega
 have hc:chkU none (ssort cU L)=0:=by
  unfold ofU at hL
  rw [if_neg h8] at hL
  exact hL
 have hS:(ofU L).1=ssort cU L:=by
  unfold ofU
  rw [if_neg h8,hc]; rfl
 rw [hS] at ha
 obtain ⟨A,B,e1,e2,e3,e4⟩:=sort_more (L:=L) (a:=a)
 have hst:=chk_strict (ssort_spec cU_cmp L).1 hc
 have hall:∀ u ∈ A++B,isNameB u.n=true:=by rw [← e1]; exact hst.2.1
 have hpw:(A++B).Pairwise fun u v=>cU u v < 0:=by rw [← e1]; exact hst.1
 have hA:∀ y ∈ A,cU y a < 0:=fun y hy=>by
  have h1:=e3 y hy
  have h2:cU y a ≠ 0:=fun e=>ha y (by rw [e1]; simp [hy]) (cmpStr_zero.1 e)
  omega
 have hpw':(A++a :: B).Pairwise fun u v=>cU u v < 0:=by
  obtain ⟨p1,p2,p3⟩:=List.pairwise_append.1 hpw
  refine List.pairwise_append.2 ⟨p1,List.pairwise_cons.2 ⟨e4,p2⟩,fun x hx y hy => ?_⟩
  rcases List.mem_cons.1 hy with rfl | hy
  · exact hA x hx
  · exact p3 x hx y hy
 have hv:=chk_val (p:=none) hpw' (by simp)
 have hev:(A++a :: B).all (fun u=>isNameB u.n)=isNameB a.n:=by
  rw [Bool.eq_iff_iff,List.all_eq_true]
  constructor
  · intro h; exact h a (by simp)
  · intro h u hu
    rcases List.mem_append.1 hu with hu | hu
    · exact hall u (by simp [hu])
    · rcases List.mem_cons.1 hu with rfl | hu
      · exact h
      · exact hall u (by simp [hu])
 rw [hev] at hv
 constructor
 · unfold ofU
   rw [if_neg h8',e2]
   exact hv
 · intro hn
   rw [hn] at hv
   refine ⟨A,B,hS.trans e1,?_⟩
   unfold ofU
   rw [if_neg h8',e2,hv]; rfl
end
end
section
open Go.Proofs
theorem txT_mem {L:List Tk} {i:Nat} (h:kdT L i=1):∃ t ∈ L,t.x=txT L i:=by
 unfold kdT at h
 unfold txT
 cases hl:L[i]? with
 | none=>rw [hl] at h; simp at h
 | some t=>exact ⟨t,List.mem_of_getElem? hl,rfl⟩
theorem modN_tok (m:Mod):∀ b ∈ (readU m).sm.bs,b.k=1→∃ t ∈ (readU m).tk,t.x=(modN (readU m) b).w:=by
 intro b hb hk
 by_cases h0:(parseO m.t).2.2.1=0
 · obtain ⟨n,j,h1,h2,h3,h4,h5,hI,hj,h6⟩:=parseO_file h0
   have hsm:(readU m).sm=scopeM n:=(readU_sm m h0).trans (by rw [h2])
   have htr:(readU m).tr=n:=h2
   have htk:(readU m).tk=(lexS m.t).1:=h1
   have hN:=named hI
   have hall:=all_both n
   have hbs:(scopeM n).bs=(allR n).bs:=by rw [← hall]; rfl
   rw [hsm,hbs] at hb
   obtain ⟨q,hq⟩:=List.getElem?_of_mem hb
   obtain ⟨i,x,g1,g2,g3,g4,g5,g6⟩:=hN.item hI hq
   have gI:=hI.get i x g1
   have hxk:x.k=2:=by rcases g6 with g6 | g6<;>omega
   rcases gI.1.is with ⟨-,p,p1,p2,p3,p4⟩ | ⟨e,-⟩
   · have hmod:modN (readU m) b=p:=by
      unfold modN
      rw [htr,g2,Int.toNat_natCast,g1]
      simp [p1]
     rw [hmod,htk,p4.2.1]
     exact txT_mem p4.2.2
   · omega
 · have hsm:(readU m).sm=⟨[],[],[]⟩:=by
    show (if _ then _ else _)=_
    rw [if_neg h0]
   rw [hsm] at hb
   simp at hb
section
variable {A B:List Un} {a:Un} (h1:Sorted cU (A++B)) (h2:Sorted cU (A++a :: B))
include h1 h2
theorem grows_unit {w:Bs} (hw:w ≠ a.n):unitU (A++a :: B) w=unitU (A++B) w:=by
 rw [unitU_find h1,unitU_find h2,List.find?_append,List.find?_append,List.find?_cons_of_neg (by simpa using fun e:a.n=w=>hw e.symm)]
theorem grows_imp {u:Un} {b:SBd} (hb:b.k=1→(modN u b).w ≠ a.n):imp1 (A++a :: B) u b=imp1 (A++B) u b:=by
 unfold imp1 impU
 by_cases hk:b.k=1
 · rw [grows_unit h1 h2 (hb hk)]
 · rw [if_neg hk,if_neg hk]
theorem grows_imps {u:Un}:∀ {l:List SBd},(∀ b ∈ l,b.k=1→(modN u b).w ≠ a.n)→impsU (A++a :: B) u l=impsU (A++B) u l
 | [],_=>rfl
 | b :: l, h => by
   have e1:=grows_imp h1 h2 (h b (by simp))
   have e2:=grows_imps (l:=l) fun c hc=>h c (by simp [hc])
   unfold impsU at e2 ⊢
   rw [List.flatMap_cons,List.flatMap_cons,e1,e2]
theorem grows_dg {u:Un} (h:∀ b ∈ u.sm.bs,b.k=1→(modN u b).w ≠ a.n):dg1 (A++a :: B) u=dg1 (A++B) u:=by
 unfold dg1
 rw [grows_imps h1 h2 h]
theorem grows_flat:∀ {l:List Un},(∀ u ∈ l,∀ b ∈ u.sm.bs,b.k=1→(modN u b).w ≠ a.n)→l.flatMap (dg1 (A++a :: B))=l.flatMap (dg1 (A++B))
 | [],_=>rfl
 | u :: l, h => by
   rw [List.flatMap_cons,List.flatMap_cons,grows_dg h1 h2 (h u (by simp)),grows_flat fun v hv=>h v (by simp [hv])]
theorem grows_dgs (hm:mainS ≠ a.n) (ha:dg1 (A++a :: B) a=[]) (h:∀ u ∈ A++B,∀ b ∈ u.sm.bs,b.k=1→(modN u b).w ≠ a.n):dgsU (A++a :: B)=dgsU (A++B):=by
 have he:entU (A++a :: B)=entU (A++B):=by unfold entU; rw [grows_unit h1 h2 hm]
 unfold dgsU
 rw [he]
 congr 1
 rw [List.flatMap_append,List.flatMap_cons,ha,List.nil_append,List.flatMap_append,grows_flat h1 h2 fun u hu=>h u (by simp [hu]),grows_flat h1 h2 fun u hu=>h u (by simp [hu])]
end
end
section
open Go.Proofs
section
variable {P:Program} {H0:Hp}
theorem HasT.pjLGrows {f light_ awake load names unit diags tU tTk tM:Nat} (h:HasT P [71] f (irPjLGrows light_ awake load names unit diags tU tTk tM)) (hLi:LightOk P light_) (hA:AwkOk P H0 awake) (hL:LoadOk P H0 load) (hNa:NamesOk P names)
 (hU:UnitsOk P unit) (hD:DiagsOk P diags) (l:List Mod) (z:Bool) (name:Bs) (hl:l.length≤1048576) (hm:∀ m ∈ l,m.n.length≤1048576∧m.t.length≤1048576) (H:Hp) (hH:Pre0 H0 H) :
 ACall P f [.d (.sl z 2 (l.map encM)),.d (.str name)] H (fun r H'=>r = .d (.bool true)∧H'=H):=by
 obtain ⟨fn,hf,hcf⟩:=h
 refine acall_fin hf hcf (by simp [irPjLGrows]) fun hcl _ => ?_
 have g1:=hLi l z 3000 (by omega) hl hm H
 have g2:=hL l z (fun m h=>(hm m h).2) H hH
 have hp:=ofU_ok l
 have hz:=ofU_zero (l:=l.map readU)
 have hfrom:∀ u ∈ (ofU (l.map readU)).1,∃ m,u=readU m:=by
  intro u hu
  have:u ∈ l.map readU:=by
   unfold ofU at hu
   split at hu
   · simp at hu
   · simp only at hu
     split at hu
     · exact ((ssort_spec cU_cmp _).2.mem cU_cmp).2 hu
     · simp at hu
  obtain ⟨m,-,rfl⟩:=List.mem_map.1 this
  exact ⟨m,rfl⟩
 have hmore:=more_ok (L:=l.map readU) (a:=readU ⟨name,aloneT⟩)
 have hp':=ofU_ok (l++[⟨name,aloneT⟩])
 have g4:=fun X=>hL (l++[⟨name,aloneT⟩]) false (fun m h=>by
  rcases List.mem_append.1 h with h | h
  · exact (hm m h).2
  · simp at h; subst h; show aloneT.length≤1048576; decide) (H++X) (hH.app X)
 have han:(readU ⟨name,aloneT⟩).n=name:=rfl
 have had:=fun S=>alone_dg S name
 unfold ofA at g2 g4
 have hll:(l.map readU).length=l.length:=by simp
 obtain ⟨a,ha⟩:∃ a,a=readU ⟨name,aloneT⟩:=⟨_,rfl⟩
 obtain ⟨L,hLe⟩:∃ L,L=l.map readU:=⟨_,rfl⟩
 have hmapr:(l++[(⟨name,aloneT⟩:Mod)]).map readU=L++[a]:=by rw [List.map_append,hLe,ha]; rfl
 simp only [hmapr] at g4 hp'
 simp only [← ha,← hLe] at g2 hp hz hfrom hmore han had hll
 simp [irPjLGrows]
 refine CallK_of' g1 ?_
 cases light l 3000 with
 | false =>
   simp
   refine CallK_of' (hA _ hH) ?_
   simp
   simp [RetK,cut_self hcl]
 | true =>
   by_cases h7:7 < l.length
   · have h7':(7:Int) < l.length:=by omega
     simp [h7']
     refine CallK_of' (hA _ hH) ?_
     simp
     simp [RetK,cut_self hcl]
   have h7':¬ (7:Int) < l.length:=by omega
   by_cases hmain:name=[109,97,105,110]
   · simp [h7',hmain]
     refine CallK_of' (hA _ hH) ?_
     simp
     simp [RetK,cut_self hcl]
   simp [h7',hmain]
   refine CallK_of' g2 ?_
   by_cases he:(ofU L).2=0
   · obtain ⟨hso,hch⟩:=hz he
     have hu:=hU _ hp
     have hna:=hNa (ofU L).1 (by have:=hp.len; omega) H
     have hd:=fun X=>hD _ hp (H++X)
     have hdl:=diagsU_len hp
     have hmore:=hmore he (by omega)
     have hlen:=hp.len
     unfold UnitOk at hu
     simp only [pA] at hu hna hd
     generalize hS:(ofU L).1=S at *
     simp [he,pA]
     refine CallK_of' hna ?_
     simp
     refine LoopK_outR 0 (fun fr H'=>fr 0 = .d (.sl z 2 (l.map encM))∧fr 1 = .d (.str name)∧fr 5 = .eptr [.sl S.isEmpty 14 (S.map Un.enc)]∧(∀ u ∈ S,u.n ≠ name∧∀ t ∈ u.tk,t.x ≠ name)∧H'=H)
      (fun fr H'=>fr 4 = .d (.bool true)∧∃ X,H'=H++X) ?_ ?_ ?_
     · refine RangeK_of H.length S.length (fun j fr H'=>fr 0 = .d (.sl z 2 (l.map encM))∧fr 1 = .d (.str name)∧fr 5 = .eptr [.sl S.isEmpty 14 (S.map Un.enc)]∧fr 40 = .d (.sl true 1 (S.map fun u=>[.str u.n]))∧(∀ u ∈ S.take j,u.n ≠ name∧∀ t ∈ u.tk,t.x ≠ name)∧H'=H) (by omega) (by decide) (by simp) (by simp) ?_ ?_ ?_
       · simp [cut_self hcl]
       · rintro j fr H' hj fi fn ⟨f0,f1,f5,f40,hsofar,rfl⟩
         obtain ⟨u,huj⟩:∃ u,S[j]?=some u:=⟨_,List.getElem?_eq_getElem hj⟩
         have hum:=List.mem_of_getElem? huj
         have htkl:=(hp.sm u hum).2.2.1
         have hus:=hu u.n
         rw [unit_self hso hch huj] at hus
         simp only [Option.elim_some,Option.isSome_some] at hus
         have r2:Zam.rowAt (S.map fun u=>[D.str u.n]) (j:Int)=some [.str u.n]:=by simp [Zam.rowAt,huj]
         have htake:S.take (j+1)=S.take j++[u]:=by rw [List.take_succ,huj]; rfl
         obtain ⟨z1,m1,e1⟩:=u.enc_all
         rw [e1] at hus
         simp only [List.map_cons,List.map_nil] at hus
         simp [fi,f40,r2,f5]
         refine CallK_of' (hus _) ?_
         simp
         generalize hb2:Ob.box tU [A.d (.str u.n),A.d (.str u.t),A.d (.sl true 4 (u.tk.map encTk)),A.d (.int .i64 u.tr.k),A.d (.int .i64 u.tr.f),A.d (.int .i64 u.tr.t),A.d (.str u.tr.w),A.d (.int .i64 u.tr.at_),A.d (.sl z1 6 (u.tr.ks.map N.enc)),A.d (.sl u.sm.bs.isEmpty 4 (u.sm.bs.map encBd)),A.d m1,A.d (.sl u.sm.bad.isEmpty 2 (u.sm.bad.map encBad)),A.d (.int .i64 u.bad),A.d (.int .i64 u.pos)]=b2
         refine LoopK_outR 2 (fun fr H2=>fr 0 = .d (.sl z 2 (l.map encM))∧fr 1 = .d (.str name)∧fr 5 = .eptr [.sl S.isEmpty 14 (S.map Un.enc)]∧fr 40 = .d (.sl true 1 (S.map fun u=>[.str u.n]))∧fr 8 = .d (.str u.n)∧fr 42 = .d (.int .i64 (j:Int))∧fr 41 = .d (.int .i64 (S.length:Int))∧(∀ t ∈ u.tk,t.x ≠ name)∧H2=H'++[b2])
          (fun fr H2=>fr 4 = .d (.bool true)∧∃ X,H2=H'++X) ?_ ?_ ?_
         · refine RangeK_of (H'.length+1) u.tk.length (fun q fr H2=>fr 0 = .d (.sl z 2 (l.map encM))∧fr 1 = .d (.str name)∧fr 5 = .eptr [.sl S.isEmpty 14 (S.map Un.enc)]∧fr 40 = .d (.sl true 1 (S.map fun u=>[.str u.n]))∧fr 8 = .d (.str u.n)∧fr 42 = .d (.int .i64 (j:Int))∧fr 41 = .d (.int .i64 (S.length:Int)) ∧
            fr 53 = .d (.sl true 4 (u.tk.map encTk))∧(∀ t ∈ u.tk.take q,t.x ≠ name)∧H2=H'++[b2]) (by omega) (by decide) (by simp) (by simp [← hb2]) ?_ ?_ ?_
           · simp [f0,f1,f5,f40,fi,fn,cut_appk hcl,← hb2]
           · rintro q fr H2 hq gi gn ⟨f0,f1,f5,f40,f8,f42,f41,f53,hq2,rfl⟩
             obtain ⟨t,ht⟩:∃ t,u.tk[q]?=some t:=⟨_,List.getElem?_eq_getElem hq⟩
             have hrt:Zam.rowAt (u.tk.map encTk) (q:Int)=some [.int .i64 t.k,.int .i64 (t.a:Int),.str t.l,.str t.x]:=by simp [Zam.rowAt,ht,encTk]
             have htq:u.tk.take (q+1)=u.tk.take q++[t]:=by rw [List.take_succ,ht]; rfl
             simp [gi,f53,hrt,f1]
             by_cases hx:t.x=name
             · simp [hx]
               refine CallK_of' (hA _ ((hH.app _))) ?_
               simp
             · simp [hx]
               refine NextK_of (H'.length+1) (Nat.le_refl _) (by simp [gi,gn]) ?_
               refine ⟨by simp [f0],by simp [f1],by simp [f5],by simp [f40],by simp [f8],by simp [f42],by simp [f41],by simp [f53],?_,by simp [cut_appk hcl,← hb2]⟩
               rw [htq]
               intro t' ht'
               rcases List.mem_append.1 ht' with h | h
               · exact hq2 t' h
               · simp at h; subst h; exact hx
           · rintro fr H2 gi gn ⟨f0,f1,f5,f40,f8,f42,f41,f53,hq2,rfl⟩
             rw [List.take_length] at hq2
             simp [f0,f1,f5,f40,f8,f42,f41]
             exact hq2
         · rintro fr H2 ⟨f4,X,rfl⟩
           simp [f4]
         · rintro fr H2 ⟨f0,f1,f5,f40,f8,f42,f41,hq2,rfl⟩
           simp [f8,f1]
           by_cases hn:u.n=name
           · simp [hn]
             refine CallK_of' (hA _ ((hH.app _))) ?_
             simp
           · simp [hn]
             refine NextK_of H'.length (Nat.le_refl _) (by simp [f42,f41]) ?_
             refine ⟨by simp [f0],by simp [f1],by simp [f5],by simp [f40],?_,by simp [cut_app hcl]⟩
             rw [htake]
             intro v hv
             rcases List.mem_append.1 hv with h | h
             · exact hsofar v h
             · simp at h; subst h; exact ⟨hn,hq2⟩
       · rintro fr H' fi fn ⟨f0,f1,f5,f40,hsofar,rfl⟩
         rw [List.take_length] at hsofar
         simp [f0,f1,f5]
         exact hsofar
     · rintro fr H' ⟨f4,X,rfl⟩
       simp [f4]
       simp [RetK,cut_app hcl]
     · rintro fr H' ⟨f0,f1,f5,hno,rfl⟩
       obtain ⟨hm1,hm2⟩:=hmore fun u hu=>by rw [han]; exact (hno u hu).1
       have h1:=fun X=>appA_osl (H:=H'++(.tok 0 2 tM :: X)) (t:=H'.length) (sz:=2) (b:=32) (e:=tM) (z:=false) (rows:=[]) (new:=l.map encM) (by simp) (by simp; omega)
       have h2:=fun X=>appA_osl (H:=H'++(.tok l.length 2 tM :: X)) (t:=H'.length) (sz:=2) (b:=32) (e:=tM) (z:=false) (rows:=l.map encM) (new:=[[.str name,.str [100,101,102,32,97,108,111,110,101,40,110,41,32,123,32,114,101,116,117,114,110,32,110,59,32,125]]]) (by simp) (by simp; omega)
       simp at h1 h2
       simp [f0,f1,h1,h2]
       have g4:=g4
       simp only [List.map_append,List.map_cons,List.map_nil,encM,aloneT] at g4
       rw [han] at hm1 hm2
       by_cases hn:isNameB name=true
       · rw [hn] at hm1
         simp only [if_true] at hm1
         obtain ⟨A,B,e1,e2⟩:=hm2 hn
         have hp2:=hp'
         rw [e2] at hp2
         have hso':=hp2.so
         have hso1:=hso
         rw [e1] at hso1
         have hdg:dgsU (A++a :: B)=dgsU (A++B):=grows_dgs hso1 hso' (by rw [han]; exact fun e=>hmain e.symm) (had _) (fun u hu b hb hk=>by
          have huS:u ∈ S:=by rw [e1]; exact hu
          obtain ⟨m,rfl⟩:=hfrom u huS
          obtain ⟨t,ht1,ht2⟩:=modN_tok m b hb hk
          rw [han,← ht2]
          exact (hno _ huS).2 t ht1)
         obtain ⟨S2,hS2⟩:∃ S2,S2=A++a :: B:=⟨_,rfl⟩
         rw [← hS2] at e2 hp2 hdg
         have hd2:=fun X=>hD _ hp2 (H'++X)
         unfold diagsU at hd hdl hd2
         rw [hdg,← e1] at hd2
         simp only [hm1,e2,if_true,pA] at g4
         simp only [pA] at hd2
         generalize (dgsU S).isEmpty=ze at hd hd2
         generalize ssort cD (dgsU S)=DD at *
         refine CallK_of' (ACall.osl1 (g4 _)) ?_
         simp [f5]
         refine CallK_of' (hd _) ?_
         simp
         refine CallK_of' (hd2 _) ?_
         simp
         refine LoopK_outR 4 (fun fr H2=>∃ X,H2=H'++X) (fun _ _=>False) ?_ (fun _ _ h=>h.elim) ?_
         · refine RangeK_of H'.length DD.length (fun j fr H2=>fr 15 = .d (.sl ze 3 (DD.map encDg))∧fr 16 = .d (.sl ze 3 (DD.map encDg))∧H2=H') (by omega) (by decide) (by simp) (by simp) ?_ ?_ ?_
           · simp [cut_app hcl]
           · rintro j fr H2 hj fi fn ⟨f15,f16,rfl⟩
             obtain ⟨d,hdj⟩:∃ d,DD[j]?=some d:=⟨_,List.getElem?_eq_getElem hj⟩
             have hr:Zam.rowAt (DD.map encDg) (j:Int)=some [.str d.m,.int .i64 d.a,.int .i64 d.c]:=by simp [Zam.rowAt,hdj,encDg]
             simp [fi,f15,f16,hr,eqDs,eqD]
             refine NextK_of H2.length (Nat.le_refl _) (by simp [fi,fn]) ?_
             simp [f15,f16,cut_self hcl]
           · rintro fr H2 fi fn ⟨f15,f16,rfl⟩
             simp
         · rintro fr H2 ⟨X,rfl⟩
           simp
           refine CallK_of' (hA _ (hH.app _)) ?_
           simp
           simp [RetK,cut_app hcl]
       · have hn':isNameB name=false:=by simpa using hn
         rw [hn'] at hm1
         simp only [Bool.false_eq_true,if_false] at hm1
         have h10:¬ (1:Int)=0:=by decide
         simp only [hm1,if_neg h10] at g4
         refine CallK_of' (ACall.osl1 (g4 _)) ?_
         simp
         refine CallK_of' (hA _ (hH.app _)) ?_
         simp
         simp [RetK,cut_app hcl]
   · simp [he]
     refine CallK_of' (hA _ hH) ?_
     simp
     simp [RetK,cut_self hcl]
end
end
section
open Go.RowKit (Below)
open Go.Proofs
theorem itU_none {w:Bs}:∀ {l:List SBd} {i p:Int},(∀ c ∈ l,¬ (c.k=2∧c.w=w))→itU w l i p=p
 | [],i,p,_=>rfl
 | b :: r, i, p, h => by
   unfold itU
   rw [if_neg (h b (by simp))]
   exact itU_none fun c hc=>h c (by simp [hc])
theorem itU_last {w:Bs} {b:SBd}:∀ {l:List SBd} {i p:Int} {q:Nat},l[q]?=some b→b.k=2∧b.w=w→(∀ (j:Nat) (c:SBd),q < j→l[j]?=some c→¬ (c.k=2∧c.w=w))→itU w l i p=i+q
 | [],i,p,q,h,_,_=>by simp at h
 | x :: r, i, p, 0, h, hm, hj => by
   simp at h; subst h
   unfold itU
   rw [if_pos hm,itU_none fun c hc=>by
    obtain ⟨j,hj'⟩:=List.getElem?_of_mem hc
    exact hj (j+1) c (by omega) (by simpa using hj')]
   simp
 | x :: r, i, p, q + 1, h, hm, hj => by
   unfold itU
   rw [itU_last (q:=q) (by simpa using h) hm fun j c h1 h2=>hj (j+1) c (by omega) (by simpa using h2)]
   omega
def BdSl (w:World) (sv:Value) (bs:List SBd):Prop :=
 (∃ a cap,sv = .slice a 0 cap∧bs=[])∨∃ b off cap,sv = .slice (some ⟨b,off,none⟩) bs.length cap∧b < w.heap.size∧∀ (j:Nat) (x:SBd),bs[j]?=some x →
  w.cell? ⟨b,off+j * 4,none⟩=some (.int .i64 x.a)∧w.cell? ⟨b,off+j * 4+1,none⟩=some (.int .i64 x.k)∧w.cell? ⟨b,off+j * 4+2,none⟩=some (.string ⟨x.w.toArray⟩)∧w.cell? ⟨b,off+j * 4+3,none⟩=some (.int .i64 x.i)
theorem item_leaf {P:Program} {f:FuncId}
 (h:∀ (w:World) (cs:List Value) (sv:Value) (word:List UInt8) (bs:List SBd),cs.length=14→cs[9]?=some sv→BdSl w sv bs→bs.length≤1099511627776 →
  Calls P f #[.agg cs.toArray,.string ⟨word.toArray⟩] w fun e w'=>e = .returned (.int .i64 (itU word bs 0 (-1)))∧Below w.heap.size w w'):ItemOk P f:=by
 intro u word hl H κ w vs hr hlen hv
 match vs,hlen with
 | [v1,v2],_ =>
 have h1:=hv 0 v1 _ rfl rfl
 have h2:=(hv 1 v2 _ rfl rfl).d_inv.str_inv
 subst h2
 obtain ⟨z,ms,he⟩:=u.enc_all
 cases h1 with
 | agg cs _ hcl hcs =>
   have hc14:cs.length=14:=by rw [hcl,List.length_map,u.enc_len]
   obtain ⟨sv,hsv⟩:∃ sv,cs[9]?=some sv:=⟨_,List.getElem?_eq_getElem (by omega)⟩
   have hd:DR κ.σ sv (.sl u.sm.bs.isEmpty 4 (u.sm.bs.map encBd)):=(hcs 9 sv _ hsv (by rw [he]; rfl)).d_inv
   refine (h w cs sv word u.sm.bs hc14 hsv ?_ hl).mono ?_
   · rcases hd.sl_inv with ⟨rfl,-,hx⟩ | ⟨a,cap,rfl,-,hx⟩ | ⟨b,o,cap,f,rfl,-,hcap,-,hc,hdd⟩
     · exact .inl ⟨_,_,rfl,by simpa using hx⟩
     · exact .inl ⟨_,_,rfl,by simpa using hx⟩
     · by_cases e:u.sm.bs=[]
       · rw [e]; exact .inl ⟨_,_,rfl,rfl⟩
       have hcell:∀ (j:Nat) (x:SBd),u.sm.bs[j]?=some x→∀ (q:Nat) (y:D),(encBd x)[q]?=some y→∃ v,w.cell? ⟨b,o+j * 4+q,none⟩=some v∧DR κ.σ v y:=fun j x hj q y hy=>by
        have hr':(u.sm.bs.map encBd)[j]?=some (encBd x):=by simp [hj]
        exact ⟨_,hr.st _ _ _ (hc j q _ _ hr' hy),hdd j q _ _ hr' hy⟩
       refine .inr ⟨b,o,cap,by simp,?_,fun j x hj=>⟨?_,?_,?_,?_⟩⟩
       · obtain ⟨x,hx⟩:∃ x,u.sm.bs[0]?=some x:=by
          cases hb:u.sm.bs with
          | nil=>exact absurd hb e
          | cons x r=>exact ⟨x,rfl⟩
         obtain ⟨v,hv,-⟩:=hcell 0 x hx 0 _ rfl
         exact World.block_lt_of_cell? w ⟨b,_,.none⟩ hv
       · obtain ⟨v,hv,hd⟩:=hcell j x hj 0 _ rfl
         rw [hd.int_inv] at hv; exact hv
       · obtain ⟨v,hv,hd⟩:=hcell j x hj 1 _ rfl
         rw [hd.int_inv] at hv; exact hv
       · obtain ⟨v,hv,hd⟩:=hcell j x hj 2 _ rfl
         rw [hd.str_inv] at hv; exact hv
       · obtain ⟨v,hv,hd⟩:=hcell j x hj 3 _ rfl
         rw [hd.int_inv] at hv; exact hv
   · rintro e w' ⟨rfl,hb⟩
     exact ⟨_,κ,_,H,rfl,K.le_refl κ,hr.later hb,.d (.int _ _),rfl,rfl⟩
end
end Go.Zam
namespace Go.Proofs
open Go.Shelf
namespace Zi
open Go Go.Zam Go.Proofs Go.RowKit Go.Shelf
attribute [local go_sem] Oper.semAt_some
def bdV (b:SBd):Value := .agg #[.int .i64 b.a,.int .i64 b.k,.string ⟨b.w.toArray⟩,.int .i64 b.i]
def fromB (bs:List SBd) (j:Nat):Int × SBd:=((bs.length:Int) - 1 - j,bs[bs.length - 1 - j]?.getD default)
def comeB (bs:List SBd) (k:Nat):List (Int × SBd):=(List.range k).map (fromB bs)
theorem comeB_succ (bs:List SBd) (k:Nat):comeB bs (k+1)=comeB bs k++[fromB bs k]:=by simp [comeB,List.range_succ]
theorem comeB_length (bs:List SBd) (k:Nat):(comeB bs k).length=k:=by simp [comeB]
set_option maxRecDepth 100000 in
set_option maxHeartbeats 2000000 in
theorem back1_in (F:Fence) (n:Nat) (hf:F.fn 109) (hro:F.round=none) (hn:1≤n) (l Bs n₀ b off cap:Nat) (bs:List SBd) (hreach:bs.length≤1099511627776) (hb:b < n₀) (hBs0:Bs < n₀) (J Jx:List (Int × SBd)→World→Prop)
 (hY:∀ pre x W,J pre W→pre.length < bs.length→YieldAt F (n - 1) Tryz.prog l #[.int .i64 x.1,bdV x.2] W fun e W' =>
  (e = .returned (.bool true)∧J (pre++[x]) W'∧Below n₀ W W')∨(e = .returned (.bool false)∧Jx (pre++[x]) W'))
 (W:World) (hBs:W.cell? ⟨Bs,0,none⟩=some (.slice (some ⟨b,off,none⟩) bs.length cap))
 (hc:∀ (j:Nat) (x:SBd),bs[j]?=some x→W.cell? ⟨b,off+j * 4,none⟩=some (.int .i64 x.a)∧W.cell? ⟨b,off+j * 4+1,none⟩=some (.int .i64 x.k)∧W.cell? ⟨b,off+j * 4+2,none⟩=some (.string ⟨x.w.toArray⟩)∧W.cell? ⟨b,off+j * 4+3,none⟩=some (.int .i64 x.i)) (h0:J [] W) :
 CallsIn F n Tryz.prog 109 #[.func (.yield l) #[] #[],.pointer (some ⟨Bs,0,none⟩)] W fun e W'=>(∃ v,e = .returned v) ∧
  ((∃ ys,ys=comeB bs bs.length∧J ys W')∨(∃ pre,(∃ k,k≤bs.length∧pre=comeB bs k)∧Jx pre W')):=by
 have hw0:wrap64 ((bs.length:Int) - 1)=(bs.length:Int) - 1:=by unfold wrap64; omega
 refine callsIn_of_wp Tryz.func109 rfl hf ?_ hro
 simp only [Tryz.ntmps109,List.size_toArray,List.length_cons,List.length_nil,Nat.reduceAdd,Nat.reduceSub,Array.replicate_succ,Array.replicate_zero,List.push_toArray,List.append_toArray,List.nil_append,List.cons_append]
 gi_wp2
 gi_loopw [3] (fun i wr=>∃ k:Nat,k≤bs.length∧i = .int .i64 ((bs.length:Int) - 1 - k)∧J (comeB bs k) wr∧Below n₀ W wr)
  (fun i _=>((intOf i)+1).toNat)
 case atStart=>exact ⟨0,Nat.zero_le _,by simp [hw0],h0,Below.refl _ _⟩
 case round =>
  obtain ⟨k,hk,rfl,hJs,hnx⟩:=hrel
  have hBx:wr.cell? ⟨Bs,0,none⟩=some (.slice (some ⟨b,off,none⟩) bs.length cap):=(hnx.cell (p:=⟨Bs,0,none⟩) hBs0).trans hBs
  by_cases hlt:k < bs.length
  · obtain ⟨p,hp⟩:∃ p:Nat,k+1+p=bs.length:=⟨bs.length - k - 1,by omega⟩
    have hpl:p < bs.length:=by omega
    obtain ⟨x,hx⟩:∃ x,bs[p]?=some x:=⟨_,List.getElem?_eq_getElem hpl⟩
    have hfr:fromB bs k=((p:Int),x):=by
     unfold fromB
     rw [show bs.length - 1 - k=p by omega,hx]
     simp; omega
    obtain ⟨c0,c1,c2,c3⟩:=hc p x hx
    have d0:=(hnx.cell (p:=⟨b,off+p * 4,none⟩) hb).trans c0
    have d1:=(hnx.cell (p:=⟨b,off+p * 4+1,none⟩) hb).trans c1
    have d2:=(hnx.cell (p:=⟨b,off+p * 4+2,none⟩) hb).trans c2
    have d3:=(hnx.cell (p:=⟨b,off+p * 4+3,none⟩) hb).trans c3
    have hi:((bs.length:Int) - 1 - k)=(p:Int):=by omega
    rw [hi]
    clear hi
    have hwp:wrap64 ((p:Int) - 1)=(p:Int) - 1:=by unfold wrap64; omega
    obtain ⟨fn,tmps,assign,body,hy,hR⟩:=hY _ ((p:Int),x) wr hJs (by rw [comeB_length]; exact hlt)
    dsimp only [bdV] at hy
    gi_wp2
    refine hR.mono ?_
    rintro e W3 (⟨rfl,hJ3,hk3⟩ | ⟨rfl,hJx3⟩)
    · gi_wp2
      go_roundw
      case rel=>exact ⟨k+1,by omega,by simp; omega,by rw [comeB_succ,hfr]; exact hJ3,hnx.trans hk3⟩
      case measure=>simp [intOf]; try omega
    · gi_wp2
      refine bodyPost_ret (results_none rfl _ _ _) rfl ?_
      exact ⟨⟨_,rfl⟩,.inr ⟨_,⟨k+1,by omega,by rw [comeB_succ,hfr]⟩,hJx3⟩⟩
  · obtain rfl:k=bs.length:=by omega
    have hi:((bs.length:Int) - 1 - (bs.length:Nat)) = -1:=by omega
    rw [hi]
    gi_wp2
    go_end0
    exact ⟨⟨_,rfl⟩,.inl ⟨_,rfl,hJs⟩⟩
set_option maxRecDepth 100000 in
set_option maxHeartbeats 1000000 in
theorem back1_nil_in (F:Fence) (n:Nat) (hf:F.fn 109) (hro:F.round=none) (l Bs:Nat) (J:List (Int × SBd)→World→Prop) (W:World) (a:Option Addr) (cap:Nat) (hBs:W.cell? ⟨Bs,0,none⟩=some (.slice a 0 cap)) (h0:J [] W) :
 CallsIn F n Tryz.prog 109 #[.func (.yield l) #[] #[],.pointer (some ⟨Bs,0,none⟩)] W fun e W'=>(∃ v,e = .returned v)∧J [] W':=by
 refine callsIn_of_wp Tryz.func109 rfl hf ?_ hro
 simp only [Tryz.ntmps109,List.size_toArray,List.length_cons,List.length_nil,Nat.reduceAdd,Nat.reduceSub,Array.replicate_succ,Array.replicate_zero,List.push_toArray,List.append_toArray,List.nil_append,List.cons_append]
 gi_wp2
 gi_loopw [3] (fun i wr=>i = .int .i64 (-1)∧J [] wr) (fun _ _=>0)
 case atStart=>exact ⟨by first | rfl | decide | simp,h0⟩
 case round =>
  obtain ⟨rfl,hJs⟩:=hrel
  gi_wp2
  go_end0
  exact ⟨⟨_,rfl⟩,hJs⟩
set_option maxHeartbeats 1000000 in
theorem backward_in (F:Fence) (n:Nat) (hf:F.fn 88) (hro:F.round=none) (a:Option Addr) (len cap:Nat) (w:World) :
 CallsIn F n Tryz.prog 88 #[.slice a len cap] w fun e w'=>e = .returned (.func (.func 109) #[] #[.pointer (some ⟨w.heap.size,0,none⟩)])∧w'=w.alloc (.cells #[.slice a len cap] 43):=by
 refine callsIn_of_wp Tryz.func88 rfl hf ?_ hro
 simp only [Tryz.ntmps88,List.size_toArray,List.length_cons,List.length_nil,Nat.reduceAdd,Nat.reduceSub,Array.replicate_succ,Array.replicate_zero,List.push_toArray,List.append_toArray,List.nil_append,List.cons_append]
 gi_wp2
 go_ret
 exact ⟨rfl,rfl⟩
theorem bdBelow {n₀:Nat} {A B:World} (h:Below n₀ A B) (hn:A.heap.size≤n₀) {sv:Value} {bs:List SBd}:BdSl A sv bs→BdSl B sv bs
 | .inl e => .inl e
 | .inr ⟨b,off,cap,e,hb,hc⟩ => .inr ⟨b,off,cap,e,Nat.lt_of_lt_of_le hb h.size,fun j x hj=>by
  obtain ⟨c0,c1,c2,c3⟩:=hc j x hj
  have hb':b < n₀:=Nat.lt_of_lt_of_le hb hn
  exact ⟨(h.cell (p:=⟨b,off+j * 4,none⟩) hb').trans c0,(h.cell (p:=⟨b,off+j * 4+1,none⟩) hb').trans c1,(h.cell (p:=⟨b,off+j * 4+2,none⟩) hb').trans c2,(h.cell (p:=⟨b,off+j * 4+3,none⟩) hb').trans c3⟩⟩
theorem back_stops (F:Fence) (n:Nat) (hf:F.fn 109) (hro:F.round=none) (hn:1≤n) (Bs n₀:Nat) (sv:Value) (bs:List SBd) (hreach:bs.length≤1099511627776) (w:World) (hBs:Bs < n₀) (hn₀:n₀=w.heap.size)
 (hc:w.cell? ⟨Bs,0,none⟩=some sv) (hI:BdSl w sv bs) :
 SeqStopsK F n Tryz.prog 109 #[.pointer (some ⟨Bs,0,none⟩)] (fun x:Int × SBd => #[Value.int .i64 x.1,bdV x.2]) (Below n₀) (fun ys=>ys=comeB bs bs.length)
  (fun pre=>∃ k,k≤bs.length∧pre=comeB bs k) bs.length w:=fun l J Jx W hW _ _ hY h0=>by
 subst hn₀
 have hc':=(hW.cell (p:=⟨Bs,0,none⟩) hBs).trans hc
 rcases hI with ⟨a,cap,rfl,rfl⟩ | ⟨b,off,cap,rfl,hb,hcs⟩
 · exact (back1_nil_in F n hf hro l Bs J W a cap hc' h0).mono fun e W' ⟨he,hj⟩=>⟨he,.inl ⟨_,rfl,hj⟩⟩
 · exact back1_in F n hf hro hn l Bs w.heap.size b off cap bs hreach hb hBs J Jx hY W hc' (fun j x hj=>by
    obtain ⟨c0,c1,c2,c3⟩:=hcs j x hj
    exact ⟨(hW.cell (p:=⟨b,off+j * 4,none⟩) hb).trans c0,(hW.cell (p:=⟨b,off+j * 4+1,none⟩) hb).trans c1,(hW.cell (p:=⟨b,off+j * 4+2,none⟩) hb).trans c2,(hW.cell (p:=⟨b,off+j * 4+3,none⟩) hb).trans c3⟩) h0
theorem cellN (W:World) (o:Array Value) (t:TypeId) (i:Nat):(W.alloc (.cells o t)).cell? ⟨W.heap.size,i,none⟩=o[i]?:=by
 unfold World.cell?
 simp only [World.alloc_heap_new]
 simp
def NoB (word:List UInt8) (p:Int × SBd):Prop:=¬ (p.2.k=2∧p.2.w=word)
def DefB (word:List UInt8) (p:Int × SBd):Prop:=p.2.k=2∧p.2.w=word
theorem come_none {word:List UInt8} {bs:List SBd} (h:∀ p ∈ comeB bs bs.length,NoB word p):itU word bs 0 (-1) = -1:=by
 refine itU_none fun c hc => ?_
 obtain ⟨j,hj⟩:=List.getElem?_of_mem hc
 have hjl:j < bs.length:=(List.getElem?_eq_some_iff.1 hj).1
 have:=h (fromB bs (bs.length - 1 - j)) (by simp only [comeB,List.mem_map,List.mem_range]; exact ⟨_,by omega,rfl⟩)
 unfold NoB fromB at this
 rw [show bs.length - 1 - (bs.length - 1 - j)=j by omega,hj] at this
 exact this
theorem come_some {word:List UInt8} {bs:List SBd} {k:Nat} (hk:k < bs.length) (h:∀ p ∈ comeB bs k,NoB word p) (hd:DefB word (fromB bs k)):itU word bs 0 (-1)=(fromB bs k).1:=by
 obtain ⟨p,hp⟩:∃ p:Nat,k+1+p=bs.length:=⟨bs.length - k - 1,by omega⟩
 have hpl:p < bs.length:=by omega
 obtain ⟨x,hx⟩:∃ x,bs[p]?=some x:=⟨_,List.getElem?_eq_getElem hpl⟩
 have hfr:fromB bs k=((p:Int),x):=by
  unfold fromB
  rw [show bs.length - 1 - k=p by omega,hx]
  simp; omega
 rw [hfr] at hd ⊢
 rw [itU_last hx hd fun j c hj hc => ?_]
 · simp
 · have hjl:j < bs.length:=(List.getElem?_eq_some_iff.1 hc).1
   have:=h (fromB bs (bs.length - 1 - j)) (by simp only [comeB,List.mem_map,List.mem_range]; exact ⟨_,by omega,rfl⟩)
   unfold NoB fromB at this
   rw [show bs.length - 1 - (bs.length - 1 - j)=j by omega,hc] at this
   exact this
theorem list14 {α:Type} {l:List α} (h:l.length=14):∃ a b c d e f g h' i j k m n o,l=[a,b,c,d,e,f,g,h',i,j,k,m,n,o]:=by
 match l,h with
 | [a,b,c,d,e,f,g,h',i,j,k,m,n,o],_=>exact ⟨a,b,c,d,e,f,g,h',i,j,k,m,n,o,rfl⟩
set_option maxRecDepth 100000 in
set_option maxHeartbeats 4000000 in
theorem item_in (F:Fence) (n:Nat) (h53:F.fn 53) (h88:F.fn 88) (h109:F.fn 109) (hro:F.round=none) (hn:3≤n) (w:World) (cs:List Value) (sv:Value) (word:List UInt8) (bs:List SBd) (hcs:cs.length=14) (h9:cs[9]?=some sv) (hI:BdSl w sv bs) (hl:bs.length≤1099511627776) :
 CallsIn F n Tryz.prog 53 #[.agg cs.toArray,.string ⟨word.toArray⟩] w fun e W'=>e = .returned (.int .i64 (itU word bs 0 (-1)))∧Below w.heap.size w W':=by
 have h1:1≤n:=by omega
 obtain ⟨v0,v1,v2,v3,v4,v5,v6,v7,v8,v9,v10,v11,v12,v13,rfl⟩:=list14 hcs
 obtain rfl:v9=sv:=by simpa using h9
 obtain ⟨a,len,cap,rfl⟩:∃ a len cap,v9 = .slice a len cap:=by
  rcases hI with ⟨a,cap,rfl,-⟩ | ⟨b,off,cap,rfl,-⟩<;>exact ⟨_,_,_,rfl⟩
 refine callsIn_of_wp_marks Tryz.func53 rfl h53 ?_ hro
 simp only [Tryz.ntmps53,List.size_toArray,List.length_cons,List.length_nil,Nat.reduceAdd,Nat.reduceSub,Array.replicate_succ,Array.replicate_zero,List.push_toArray,List.append_toArray,List.nil_append,List.cons_append]
 gi_wp2_with (gi_at_call 88; refine (backward_in F (n - 1) h88 hro _ _ _ _).mono ?_; rintro e w' ⟨rfl,rfl⟩)
 generalize hu:Obj.cells #[v0,v1,v2,v3,v4,v5,v6,v7,v8,Value.slice a len cap,v10,v11,v12,v13] 49=ou
 have bW:=((Boxed.new (w.alloc ou) 9 (.string ⟨word.toArray⟩)).alloc (.cells #[.int .i64 0] 3)).alloc (.cells #[.slice a len cap] 43)
 have bR:=(Boxed.new ((w.alloc ou).alloc (.cells #[.string ⟨word.toArray⟩] 9)) 3 (.int .i64 0)).alloc (.cells #[.slice a len cap] 43)
 have bN:=Boxed.new (((w.alloc ou).alloc (.cells #[.string ⟨word.toArray⟩] 9)).alloc (.cells #[.int .i64 0] 3)) 43 (.slice a len cap)
 simp only [World.size_alloc] at bW bR bN
 have hB0:Below w.heap.size w ((((w.alloc ou).alloc (.cells #[.string ⟨word.toArray⟩] 9)).alloc (.cells #[.int .i64 0] 3)).alloc (.cells #[.slice a len cap] 43)) :=
  ((((Below.refl _ w).alloc (Nat.le_refl _) _).alloc (by simp) _).alloc (by simp; omega) _).alloc (by simp; omega) _
 have hsz:((((w.alloc ou).alloc (.cells #[.string ⟨word.toArray⟩] 9)).alloc (.cells #[.int .i64 0] 3)).alloc (.cells #[.slice a len cap] 43)).heap.size=w.heap.size+4:=by simp
 obtain ⟨W0,hW0⟩:∃ W0,((((w.alloc ou).alloc (.cells #[.string ⟨word.toArray⟩] 9)).alloc (.cells #[.int .i64 0] 3)).alloc (.cells #[.slice a len cap] 43))=W0:=⟨_,rfl⟩
 rw [hW0] at bW bR bN hB0 hsz ⊢
 clear hW0 hu
 refine wpIn_rangeFunc_ownH hro h1 (gf:=109) (lb := #[.pointer (some ⟨w.heap.size+1+1+1,0,none⟩)]) rfl h109 (enters_of Tryz.func109 (by kernel_rfl) rfl)
  (back_stops F (n - 1) h109 hro (by omega) (w.heap.size+1+1+1) W0.heap.size (.slice a len cap) bs hl W0 (by omega) rfl bN.cell (bdBelow hB0 (Nat.le_refl _) hI)) belowK_t (belowK_b (Nat.le_refl _)) (Below.refl _ _) (fun _=>rfl)
  (fun pre W=>(((∀ p ∈ pre,NoB word p)∧Boxed W (w.heap.size+1) 9 (.string ⟨word.toArray⟩))∧Boxed W (w.heap.size+1+1) 3 (.int .i64 0))∧Below w.heap.size W0 W)
  (fun c pre W=>(c = .ret∧∃ ini last,pre=ini++[last]∧(∀ p ∈ ini,NoB word p)∧DefB word last∧Boxed W (w.heap.size+1+1) 3 (.int .i64 last.1))∧Below w.heap.size W0 W)
  (OwnFrom.and (OwnFrom.and (OwnFrom.and (ownFrom_pure _ _) (Own.from (boxed_own _ _ _) _)) (Own.from (boxed_own _ _ _) _)) (ownFrom_below (by omega) (by omega)))
  (fun c=>OwnFrom.and (fun s A B row hs hg hr=>by obtain ⟨hc,ini,last,e1,e2,e3,e4⟩:=hs; exact ⟨hc,ini,last,e1,e2,e3,boxed_own _ 3 (fun (_:Unit)=>Value.int .i64 last.1) () A B row e4 hg (fun r e=>(hr r e).2)⟩) (ownFrom_below (by omega) (by omega)))
  ⟨⟨⟨by simp,bW⟩,bR⟩,Below.refl _ _⟩
  (fun x a' W=>∃ Bx,w.heap.size+1+1 < Bx∧(W.cell? ⟨Bx,0,none⟩=some (.int .i64 x.2.a)∧W.cell? ⟨Bx,1,none⟩=some (.int .i64 x.2.k)∧W.cell? ⟨Bx,2,none⟩=some (.string ⟨x.2.w.toArray⟩)∧W.cell? ⟨Bx,3,none⟩=some (.int .i64 x.2.i)) ∧
   a' = { tmps := #[.agg #[v0,v1,v2,v3,v4,v5,v6,v7,v8,.slice a len cap,v10,v11,v12,v13],.string ⟨word.toArray⟩,.pointer (some ⟨w.heap.size,0,none⟩),.pointer (some ⟨w.heap.size+1,0,none⟩),.pointer (some ⟨w.heap.size+1+1,0,none⟩),.int .i64 x.1,.pointer (some ⟨Bx,0,none⟩),.pointer (some ⟨w.heap.size,9,none⟩),.pointer (some ⟨w.heap.size,9,none⟩),.slice a len cap,.func (.func 109) #[] #[.pointer (some ⟨w.heap.size+1+1+1,0,none⟩)],.int .i64 x.1,.agg #[.int .i64 x.2.a,.int .i64 x.2.k,.string ⟨x.2.w.toArray⟩,.int .i64 x.2.i],undef,undef,undef,undef,undef,undef,undef,undef,undef,undef],defers:=[] })
  (fun x a' _ X Y row hs hg hr=>by
   obtain ⟨Bx,g1,⟨g2,g3,g4,g5⟩,g6⟩:=hs
   have hr':=fun r e=>(hr r e).2
   exact ⟨Bx,g1,⟨cell_kept g2 hg hr',cell_kept g3 hg hr',cell_kept g4 hg hr',cell_kept g5 hg hr'⟩,g6⟩)
  ?assign ?body ?done ?stop
 case assign =>
  rintro l pre x W K ⟨⟨⟨hp,bW1⟩,bR1⟩,hB1⟩ hK
  dsimp only [bdV]
  gi_wp2
  have hWs:=hB1.size
  exact hK _ _ ((KeepsOthers.alloc _ _).from _) ((Below.refl _ W).alloc hWs _) ⟨⟨⟨hp,bW1.alloc _⟩,bR1.alloc _⟩,hB1.alloc (by omega) _⟩
   ⟨W.heap.size,bR1.lt,⟨cellN _ _ _ 0,cellN _ _ _ 1,cellN _ _ _ 2,cellN _ _ _ 3⟩,rfl⟩
 case body =>
  rintro l pre x a' W hl' ⟨r,hr⟩ ⟨⟨⟨hp,bW1⟩,bR1⟩,hB1⟩ ⟨Bx,hBx,⟨g2,g3,g4,g5⟩,rfl⟩ hlt
  have cW:=bW1.cell
  have cR:=bR1.cell
  have fR:=bR1.frozen
  have hWs:=hB1.size
  gi_wp2
  · have hk:x.2.k=2:=by assumption
    have hw:(x.2.w == word)=true:=by assumption
    exact ⟨(KeepsOthers.setCell _ _ _).from _,⟨rfl,pre,x,rfl,hp,⟨hk,by simpa using hw⟩,bR1.set _⟩,hB1.setCell (p:=⟨w.heap.size+1+1,0,none⟩) (by show w.heap.size≤w.heap.size+1+1; omega) _⟩
  · have hw:(x.2.w == word)=false:=by assumption
    exact ⟨KeepsFrom.refl _ _,Below.refl _ _,⟨⟨fun p hp'=>(List.mem_append.1 hp').elim (hp p) (fun e=>by simp at e; subst e; exact fun h=>by rw [h.2] at hw; simp at hw),bW1⟩,bR1⟩,hB1⟩
  · have hk:¬ x.2.k=2:=by assumption
    exact ⟨KeepsFrom.refl _ _,Below.refl _ _,⟨⟨fun p hp'=>(List.mem_append.1 hp').elim (hp p) (fun e=>by simp at e; subst e; exact fun h=>hk h.1),bW1⟩,bR1⟩,hB1⟩
 case done =>
  rintro D ys W hD rfl ⟨⟨⟨hp,bW1⟩,bR1⟩,hB1⟩ hK
  have cR:=bR1.cell
  have fR:=bR1.frozen
  gi_wp2
  have hK':=(KeepsOthers.setCell W ⟨w.heap.size+1+1,0,none⟩ (.int .i64 (-1))).same D _ hK rfl
  refine ⟨by simp,.inl ⟨_,_,rfl,run_takeDeferred hK',?_⟩⟩
  have hc5:=cell_kept (World.cell?_setCell_same' W ⟨w.heap.size+1+1,0,none⟩ (.int .i64 (-1)) (by rw [cR]; rfl)) (grownBy_putObj' _ D (.deferred none)) (fun r e=>by cases e; exact ⟨_,hK',rfl⟩)
  refine ⟨.int .i64 (-1),?_,by rw [come_none hp],(hB0.trans (hB1.setCell (p:=⟨w.heap.size+1+1,0,none⟩) (by show w.heap.size≤w.heap.size+1+1; omega) _)).trans (belowK_b (w:=w) (Nat.le_refl _) _ D _ _ (by omega) hK' rfl rfl)⟩
  simp [results,Tryz.f53,go_sem,hc5]
 case stop =>
  rintro D c pre W hD ⟨k,hk,rfl⟩ ⟨⟨rfl,ini,last,e1,e2,e3,bR1⟩,hB1⟩ hK
  have cR:=bR1.cell
  gi_wp2
  refine ⟨by simp,.inl ⟨_,_,rfl,run_takeDeferred hK,?_⟩⟩
  have hc5:=cell_kept cR (grownBy_putObj' _ D (.deferred none)) (fun r e=>by cases e; exact ⟨_,hK,rfl⟩)
  obtain ⟨k',rfl⟩:∃ k',k=k'+1:=by
   cases k with
   | zero=>simp [comeB] at e1
   | succ k'=>exact ⟨k',rfl⟩
  rw [comeB_succ] at e1
  obtain ⟨rfl,e5⟩:=List.append_inj' e1 rfl
  obtain rfl:fromB bs k'=last:=by simpa using e5
  refine ⟨.int .i64 (fromB bs k').1,?_,by rw [come_some (by omega) e2 e3],(hB0.trans hB1).trans (belowK_b (w:=w) (Nat.le_refl _) W D _ _ (by omega) hK rfl rfl)⟩
  simp [results,Tryz.f53,go_sem,hc5]
theorem itemOk:ItemOk Tryz.prog 53:=item_leaf fun w cs sv word bs h1 h2 h3 h4=>(callsIn_wide (n:=3)).1 (item_in Fence.wide 3 trivial trivial trivial rfl (Nat.le_refl _) w cs sv word bs h1 h2 h3 h4)
end Zi
end Go.Proofs
namespace Go.Proofs
section
open Go.Shelf Go.RowKit
variable {P:Program} {ρ:Ren}
set_option maxHeartbeats 32000000 in
set_option maxRecDepth 100000 in
theorem AnyPu.internal_strconv_ParseUint_10_b63 (L:LaysPu.n16 P ρ) (t:ByteArray) (hne:t.size ≠ 0) (hmax:t.size≤9223372036854775806) (w:World) :
 Calls P (ρ.f 16) #[.string t,.int .i64 10,.int .i64 63] w fun e w'=>e = .returned (Lib.uintTupleM (ρ.t 34) 9223372036854775807 (Lib.parseUintM 9223372036854775807 0 t.data.toList))∧w'=Lib.bytesWorld w (ρ.t 5) t:=by
 have mixed:=L.mixed
 have t9:=L.t9; have a9:=L.a9; have z9:=L.z9; have v9:=L.v9
 have t3:=L.t3; have a3:=L.a3; have z3:=L.z3; have v3:=L.v3
 have t22:=L.t22; have a22:=L.a22; have z22:=L.z22; have v22:=L.v22
 have t24:=L.t24; have a24:=L.a24; have z24:=L.z24; have v24:=L.v24
 have t4:=L.t4; have a4:=L.a4; have z4:=L.z4; have v4:=L.v4
 have t34:=L.t34; have a34:=L.a34; have z34:=L.z34; have v34:=L.v34
 have t5:=L.t5; have a5:=L.a5; have z5:=L.z5; have v5:=L.v5
 have t36:=L.t36; have a36:=L.a36; have z36:=L.z36; have v36:=L.v36
 have t37:=L.t37; have a37:=L.a37; have z37:=L.z37; have v37:=L.v37
 have t0:=L.t0; have a0:=L.a0; have z0:=L.z0; have v0:=L.v0
 have e19:∀ args w,(callFunc (ρ.f 19) args).run P w = .ok (.enter (ρ.f 19) args) w:=enters_of L.f19 (by kernel_rfl) rfl
 have hemp:t.toList.isEmpty=false:=by
  rw [← decide_eq_emptyBytes]
  exact decide_eq_false (fun h=>hne (by rw [h]; rfl))
 have hcv:=Lib.run_convert_string_bytes (P:=P) w (ρ.t 9) (ρ.t 37) (ρ.t 5) t (u := .string) L.t9 L.t37 L.t5
 have hB:∀ j,j < t.size→(Lib.bytesWorld w (ρ.t 5) t).cell? ⟨w.heap.size,j,none⟩=some (.int .u8 (t.data.toList.getD j 0).toNat):=fun j hj=>Lib.bytesWorld_cell w (ρ.t 5) t j hj
 obtain ⟨W1,hW1⟩:∃ W1,W1=Lib.bytesWorld w (ρ.t 5) t:=⟨_,rfl⟩
 rw [← hW1] at hcv hB ⊢
 clear hW1
 obtain ⟨bs,hL⟩:∃ bs,bs=t.data.toList:=⟨_,rfl⟩
 have hLn:bs.length=t.size:=by rw [hL,Lib.size_eq]
 rw [← hL] at hB ⊢
 clear hL
 have hmv:IntKind.u64.wrap (IntKind.u64.wrap 9223372036854775808 - 1)=9223372036854775807:=by
  rw [IntKind.wrap_u64,IntKind.wrap_u64]
  decide
 go_enter L.f16,BodyPu.n16_ntmps ρ
 go_wp2
 go_loop [12,13,101] (fun vu vn vi=>∃ (k acc:Nat) (a:Int),vu = .bool false∧vn = .int .u64 a∧vi = .int .i64 k∧k≤t.size∧Hid (a=(acc:Int)∧acc≤9223372036854775807∧Lib.parseUintM 9223372036854775807 0 bs=Lib.parseUintM 9223372036854775807 acc (bs.drop k)))
  (fun _ _ vi=>t.size - (intOf vi).toNat)
 case atStart=>exact ⟨0,0,0,rfl,rfl,rfl,by omega,rfl,by omega,rfl⟩
 case round =>
  obtain ⟨k,acc,a,rfl,rfl,rfl,hk,hh⟩:=hrel
  obtain ⟨ha,hacc,hdec⟩:=hh.out
  clear hh
  have a0:0≤a:=by omega
  have a1:a≤9223372036854775807:=by omega
  by_cases hkn:k < t.size
  · have hc:=hB k hkn
    have hdrop:bs.drop k=bs[k]'(by omega) :: bs.drop (k+1):=List.drop_eq_getElem_cons (by omega)
    have hget:bs.getD k 0=bs[k]'(by omega):=by simp [List.getD,List.getElem?_eq_getElem (show k < bs.length by omega)]
    rw [hdrop] at hdec
    rw [hget] at hc
    generalize bs[k]'(by omega)=c at hc hdec
    have hc256:c.toNat < 256:=c.toNat_lt
    clear hB hdrop hget
    by_cases hdig:48≤c.toNat∧c.toNat≤57
    · obtain ⟨hd0,hd1⟩:=hdig
      by_cases hcut:1844674407370955162≤acc
      · have hF:Lib.parseUintM 9223372036854775807 acc (c :: bs.drop (k+1)) = .range:=by simp [Lib.parseUintM,hd0,hd1,hcut]
        rw [hF] at hdec
        have icut:1844674407370955162≤a:=by omega
        clear hcut hacc hF ha
        go_wp2
        go_ret2
        exact ⟨rfl,rfl⟩
      by_cases hov2:18446744073709551616≤acc * 10+(c.toNat - 48)
      · have hov:9223372036854775807 < acc * 10+(c.toNat - 48):=by omega
        have hF:Lib.parseUintM 9223372036854775807 acc (c :: bs.drop (k+1)) = .range:=by simp [Lib.parseUintM,hd0,hd1,hcut,hov]
        rw [hF] at hdec
        have icut:a < 1844674407370955162:=by omega
        have iov:18446744073709551616≤a * 10+((c.toNat:Int) - 48):=by omega
        have hwr:IntKind.u64.wrap (a * 10+((c.toNat:Int) - 48))=a * 10+((c.toNat:Int) - 48) - 18446744073709551616:=by
         rw [IntKind.wrap_u64]
         omega
        clear hcut hacc hF hov hov2 ha
        go_wp2
        go_ret2
        exact ⟨rfl,rfl⟩
      by_cases hov:9223372036854775807 < acc * 10+(c.toNat - 48)
      ·
       have hF:Lib.parseUintM 9223372036854775807 acc (c :: bs.drop (k+1)) = .range:=by simp [Lib.parseUintM,hd0,hd1,hcut,hov]
       rw [hF] at hdec
       have iov:9223372036854775807 < a * 10+((c.toNat:Int) - 48):=by omega
       have iov2:a * 10+((c.toNat:Int) - 48) < 18446744073709551616:=by omega
       have icut:a < 1844674407370955162:=by omega
       clear hcut hacc hF hov hov2 ha
       go_wp2
       go_ret2
       exact ⟨rfl,rfl⟩
      · have hF:Lib.parseUintM 9223372036854775807 acc (c :: bs.drop (k+1))=Lib.parseUintM 9223372036854775807 (acc * 10+(c.toNat - 48)) (bs.drop (k+1)):=by simp [Lib.parseUintM,hd0,hd1,hcut,hov]
        have HN:Hid (a * 10+((c.toNat:Int) - 48)=((acc * 10+(c.toNat - 48):Nat):Int)∧acc * 10+(c.toNat - 48)≤9223372036854775807∧Lib.parseUintM 9223372036854775807 0 bs=Lib.parseUintM 9223372036854775807 (acc * 10+(c.toNat - 48)) (bs.drop (k+1))):=Lib.hid ⟨by omega,by omega,hdec.trans hF⟩
        have iov:a * 10+((c.toNat:Int) - 48)≤9223372036854775807:=by omega
        have icut:a < 1844674407370955162:=by omega
        clear hcut hacc hF hov hov2 hdec ha
        go_wp2
        refine ⟨⟨k+1,acc * 10+(c.toNat - 48),a * 10+((c.toNat:Int) - 48),rfl,(by first | rfl | (congr 1; omega)),(by first | rfl | (congr 1; omega)),by omega,HN⟩,by simp [intOf]; omega⟩
    ·
     have hF:Lib.parseUintM 9223372036854775807 acc (c :: bs.drop (k+1))=Lib.NumEnd.syntax:=by simp [Lib.parseUintM,hdig]
     rw [hF] at hdec
     clear hacc hF ha
     have hv0:=bits_lo_u8 .or (c.toNat:Int) 32
     have hv1:=bits_hi_u8 .or (c.toNat:Int) 32
     have hu0:=bits_lo_u8 .or 95 32
     have hu1:=bits_hi_u8 .or 95 32
     go_wp2_with (go_at_fn (ρ.f 19); refine (AnyPu.internal_strconv_lower { L with } _ _).mono ?_; rintro e w' ⟨rfl,rfl⟩)
     all_goals go_ret2
     all_goals first | exact ⟨rfl,rfl⟩ | exact ⟨by rw [hdec]; rfl,rfl⟩
  ·
   have hkk:k=t.size:=by omega
   subst hkk
   have hF:Lib.parseUintM 9223372036854775807 acc (bs.drop t.size) = .ok acc:=by rw [List.drop_eq_nil_of_le (by omega)]; rfl
   rw [hF] at hdec
   subst ha
   clear hacc hF a0 a1
   go_wp2
   go_ret2
   exact ⟨rfl,rfl⟩
theorem AnyPu.internal_strconv_ParseUint_10_at63 (L:LaysPu.n16 P ρ) (t:ByteArray) (hmax:t.size≤9223372036854775806) (w:World) :
 Calls P (ρ.f 16) #[.string t,.int .i64 10,.int .i64 63] w fun e w'=>e = .returned (Lib.uintTupleM (ρ.t 34) 9223372036854775807 (Lib.parseUintB 63 t.data.toList))∧(w'=w∨w'=Lib.bytesWorld w (ρ.t 5) t):=by
 have eM:(2:Nat) ^ 63 - 1=9223372036854775807:=by decide
 by_cases h0:t.size=0
 · have ht:t=⟨#[]⟩:=by
    apply ByteArray.ext
    exact Array.eq_empty_of_size_eq_zero h0
   subst ht
   exact (AnyPu.internal_strconv_ParseUint_empty { L with } 10 63 w).mono fun e w' ⟨he,hw⟩=>⟨he,Or.inl hw⟩
 · have hne:t.data.toList ≠ []:=fun h=>h0 (by rw [Lib.size_eq,h]; rfl)
   refine (AnyPu.internal_strconv_ParseUint_10_b63 { L with } t h0 hmax w).mono fun e w' ⟨he,hw⟩=>⟨?_,Or.inr hw⟩
   rw [he,Lib.parseUintB,if_neg hne,eM]
set_option maxHeartbeats 4000000 in
set_option maxRecDepth 100000 in
theorem Any.strconv_ParseUint_10_at63_ok (L:LaysPu.n14 P ρ) (s:ByteArray) (hmax:s.size≤9223372036854775806) (u:Nat) (h:Lib.parseUintB 63 s.data.toList = .ok u) (w:World) :
 Calls P (ρ.f 14) #[.string s,.int .i64 10,.int .i64 63] w fun e w'=>e = .returned (.tuple #[.int .u64 u,.nilIface])∧(w'=w∨w'=Lib.bytesWorld w (ρ.t 5) s):=by
 have mixed:=L.mixed
 have t9:=L.t9; have a9:=L.a9; have z9:=L.z9; have v9:=L.v9
 have t3:=L.t3; have a3:=L.a3; have z3:=L.z3; have v3:=L.v3
 have t22:=L.t22; have a22:=L.a22; have z22:=L.z22; have v22:=L.v22
 have t24:=L.t24; have a24:=L.a24; have z24:=L.z24; have v24:=L.v24
 have t25:=L.t25; have a25:=L.a25; have z25:=L.z25; have v25:=L.v25
 have t4:=L.t4; have a4:=L.a4; have z4:=L.z4; have v4:=L.v4
 have e16:∀ args w,(callFunc (ρ.f 16) args).run P w = .ok (.enter (ρ.f 16) args) w:=enters_of L.f16 (by kernel_rfl) rfl
 have hI:=AnyPu.internal_strconv_ParseUint_10_at63 { L with } s hmax w
 rw [h] at hI
 have hI:Calls P (ρ.f 16) #[.string s,.int .i64 10,.int .i64 63] w fun e w'=>e = .returned (.tuple #[.int .u64 u,.nilIface])∧(w'=w∨w'=Lib.bytesWorld w (ρ.t 5) s):=hI
 clear h
 go_enter L.f14,BodyPu.n14_ntmps ρ
 go_wp2_with (go_at_fn (ρ.f 16); refine hI.mono ?_; rintro e W1 ⟨rfl,hW⟩)
 go_wp2
 go_ret2
 exact ⟨rfl,hW⟩
set_option maxHeartbeats 4000000 in
set_option maxRecDepth 100000 in
theorem Any.strconv_ParseUint_10_at63_syntax (L:LaysPu.n14 P ρ) (s:ByteArray) (hlim:s.size≤281474976710656) (h:Lib.parseUintB 63 s.data.toList=Lib.NumEnd.syntax) (ev:Value) (w:World) (hv:w.cell? ⟨(ρ.g 0),0,none⟩=some ev) (hev:ev = .nilIface∨∃ te pe,ev = .iface te pe) :
 Calls P (ρ.f 14) #[.string s,.int .i64 10,.int .i64 63] w fun e w'=>∃ N,e = .returned (.tuple #[.int .u64 0,.iface (ρ.t 39) (.pointer (some ⟨N,0,none⟩))])∧w.heap.size≤N∧w'.heap[N]?=some (.cells #[.string ⟨#[80,97,114,115,101,85,105,110,116]⟩,.string s,ev] (ρ.t 44) (0,0))∧Below w.heap.size w w':=by
 have mixed:=L.mixed
 have t9:=L.t9; have a9:=L.a9; have z9:=L.z9; have v9:=L.v9
 have t3:=L.t3; have a3:=L.a3; have z3:=L.z3; have v3:=L.v3
 have t22:=L.t22; have a22:=L.a22; have z22:=L.z22; have v22:=L.v22
 have t24:=L.t24; have a24:=L.a24; have z24:=L.z24; have v24:=L.v24
 have t25:=L.t25; have a25:=L.a25; have z25:=L.z25; have v25:=L.v25
 have t4:=L.t4; have a4:=L.a4; have z4:=L.z4; have v4:=L.v4
 have e16:∀ args w,(callFunc (ρ.f 16) args).run P w = .ok (.enter (ρ.f 16) args) w:=enters_of L.f16 (by kernel_rfl) rfl
 have e17:∀ args w,(callFunc (ρ.f 17) args).run P w = .ok (.enter (ρ.f 17) args) w:=enters_of L.f17 (by kernel_rfl) rfl
 have hG:(ρ.g 0) < w.heap.size:=Lib.lt_of_cell hv
 have hI:=AnyPu.internal_strconv_ParseUint_10_at63 { L with } s (by omega) w
 rw [h] at hI
 have hI:Calls P (ρ.f 16) #[.string s,.int .i64 10,.int .i64 63] w fun e w'=>e = .returned (.tuple #[.int .u64 0,.iface (ρ.t 34) (.int .i64 2)])∧(w'=w∨w'=Lib.bytesWorld w (ρ.t 5) s):=hI
 clear h
 go_enter L.f14,BodyPu.n14_ntmps ρ
 go_wp2_with (go_at_fn (ρ.f 16); refine hI.mono ?_)
 rintro e W1 ⟨rfl,hW⟩
 have hb1:Below w.heap.size w W1:=by
  rcases hW with rfl | rfl
  · exact Below.refl _ _
  · exact Lib.bytesWorld_below _ _ _
 have hv1:W1.cell? ⟨(ρ.g 0),0,none⟩=some ev:=(hb1.cell (show (⟨(ρ.g 0),0,none⟩:Addr).block < w.heap.size from hG)).trans hv
 clear hW
 go_wp2_with (go_at_fn (ρ.f 17); refine (AnyPu.strconv_toError_syntax { L with } ⟨#[80,97,114,115,101,85,105,110,116]⟩ s 10 63 ev _ hlim ?_ hev).mono ?_)
 · exact hv1
 rintro e W2 ⟨N,rfl,h1,h2,h3⟩
 go_wp2
 go_ret2
 exact ⟨N,rfl,Nat.le_trans hb1.size h1,h2,hb1.trans (h3.mono hb1.size)⟩
set_option maxHeartbeats 4000000 in
set_option maxRecDepth 100000 in
theorem Any.strconv_ParseUint_10_at63_range (L:LaysPu.n14 P ρ) (s:ByteArray) (hlim:s.size≤281474976710656) (h:Lib.parseUintB 63 s.data.toList = .range) (ev:Value) (w:World) (hv:w.cell? ⟨(ρ.g 1),0,none⟩=some ev) (hev:ev = .nilIface∨∃ te pe,ev = .iface te pe) :
 Calls P (ρ.f 14) #[.string s,.int .i64 10,.int .i64 63] w fun e w'=>∃ N,e = .returned (.tuple #[.int .u64 9223372036854775807,.iface (ρ.t 39) (.pointer (some ⟨N,0,none⟩))])∧w.heap.size≤N∧w'.heap[N]?=some (.cells #[.string ⟨#[80,97,114,115,101,85,105,110,116]⟩,.string s,ev] (ρ.t 44) (0,0))∧Below w.heap.size w w':=by
 have mixed:=L.mixed
 have t9:=L.t9; have a9:=L.a9; have z9:=L.z9; have v9:=L.v9
 have t3:=L.t3; have a3:=L.a3; have z3:=L.z3; have v3:=L.v3
 have t22:=L.t22; have a22:=L.a22; have z22:=L.z22; have v22:=L.v22
 have t24:=L.t24; have a24:=L.a24; have z24:=L.z24; have v24:=L.v24
 have t25:=L.t25; have a25:=L.a25; have z25:=L.z25; have v25:=L.v25
 have t4:=L.t4; have a4:=L.a4; have z4:=L.z4; have v4:=L.v4
 have e16:∀ args w,(callFunc (ρ.f 16) args).run P w = .ok (.enter (ρ.f 16) args) w:=enters_of L.f16 (by kernel_rfl) rfl
 have e17:∀ args w,(callFunc (ρ.f 17) args).run P w = .ok (.enter (ρ.f 17) args) w:=enters_of L.f17 (by kernel_rfl) rfl
 have hG:(ρ.g 1) < w.heap.size:=Lib.lt_of_cell hv
 have hI:=AnyPu.internal_strconv_ParseUint_10_at63 { L with } s (by omega) w
 rw [h] at hI
 have hI:Calls P (ρ.f 16) #[.string s,.int .i64 10,.int .i64 63] w fun e w'=>e = .returned (.tuple #[.int .u64 9223372036854775807,.iface (ρ.t 34) (.int .i64 1)])∧(w'=w∨w'=Lib.bytesWorld w (ρ.t 5) s):=hI
 clear h
 go_enter L.f14,BodyPu.n14_ntmps ρ
 go_wp2_with (go_at_fn (ρ.f 16); refine hI.mono ?_)
 rintro e W1 ⟨rfl,hW⟩
 have hb1:Below w.heap.size w W1:=by
  rcases hW with rfl | rfl
  · exact Below.refl _ _
  · exact Lib.bytesWorld_below _ _ _
 have hv1:W1.cell? ⟨(ρ.g 1),0,none⟩=some ev:=(hb1.cell (show (⟨(ρ.g 1),0,none⟩:Addr).block < w.heap.size from hG)).trans hv
 clear hW
 go_wp2_with (go_at_fn (ρ.f 17); refine (AnyPu.strconv_toError_range { L with } ⟨#[80,97,114,115,101,85,105,110,116]⟩ s 10 63 ev _ hlim ?_ hev).mono ?_)
 · exact hv1
 rintro e W2 ⟨N,rfl,h1,h2,h3⟩
 go_wp2
 go_ret2
 exact ⟨N,rfl,Nat.le_trans hb1.size h1,h2,hb1.trans (h3.mono hb1.size)⟩
end
end Go.Proofs
namespace Go.Proofs.Zi
section
open Go Go.Zam Go.Proofs
theorem tcf92:compF Tryz.prog [7] Tryz.f92=some (irTkLex 112 113 114 199 85):=by kernel_rfl
theorem h92:HasT Tryz.prog [7] 92 (irTkLex 112 113 114 199 85):=⟨_,Tryz.func92,tcf92⟩
theorem tcf104:compF Tryz.prog [] Tryz.f104=some (irTkIsKey 132 131):=by kernel_rfl
theorem h104:Has Tryz.prog 104 (irTkIsKey 132 131):=⟨_,Tryz.func104,tcf104⟩
theorem tcf71:compF Tryz.prog [] Tryz.f71=some (irTkIsName 103 104 105):=by kernel_rfl
theorem h71:Has Tryz.prog 71 (irTkIsName 103 104 105):=⟨_,Tryz.func71,tcf71⟩
theorem tcf112:compF Tryz.prog [] Tryz.f112=some (irRnBad 137):=by kernel_rfl
theorem h112:Has Tryz.prog 112 (irRnBad 137):=⟨_,Tryz.func112,tcf112⟩
theorem tcf113:compF Tryz.prog [] Tryz.f113=some (irScLead 138 139 140 141):=by kernel_rfl
theorem h113:Has Tryz.prog 113 (irScLead 138 139 140 141):=⟨_,Tryz.func113,tcf113⟩
theorem tcf114:compF Tryz.prog [] Tryz.f114=some (irScNext 138 103 142 104 105 143 144 145 85):=by kernel_rfl
theorem h114:Has Tryz.prog 114 (irScNext 138 103 142 104 105 143 144 145 85):=⟨_,Tryz.func114,tcf114⟩
theorem tcf131:compF Tryz.prog [] Tryz.f131=some (irSlHas 168):=by kernel_rfl
theorem h131:Has Tryz.prog 131 (irSlHas 168):=⟨_,Tryz.func131,tcf131⟩
theorem tcf168:compF Tryz.prog [] Tryz.f168=some (irSlIdx):=by kernel_rfl
theorem h168:Has Tryz.prog 168 (irSlIdx):=⟨_,Tryz.func168,tcf168⟩
theorem tcf132:compF Tryz.prog [] Tryz.f132=some (irTkKeys):=by kernel_rfl
theorem h132:Has Tryz.prog 132 (irTkKeys):=⟨_,Tryz.func132,tcf132⟩
theorem tcf103:compF Tryz.prog [] Tryz.f103=some (irLetter):=by kernel_rfl
theorem h103:Has Tryz.prog 103 (irLetter):=⟨_,Tryz.func103,tcf103⟩
theorem tcf105:compF Tryz.prog [] Tryz.f105=some (irDigit):=by kernel_rfl
theorem h105:Has Tryz.prog 105 (irDigit):=⟨_,Tryz.func105,tcf105⟩
theorem tcf138:compF Tryz.prog [] Tryz.f138=some (irScMore):=by kernel_rfl
theorem h138:Has Tryz.prog 138 (irScMore):=⟨_,Tryz.func138,tcf138⟩
theorem tcf139:compF Tryz.prog [] Tryz.f139=some (irTkBlank):=by kernel_rfl
theorem h139:Has Tryz.prog 139 (irTkBlank):=⟨_,Tryz.func139,tcf139⟩
theorem tcf140:compF Tryz.prog [] Tryz.f140=some (irScHash):=by kernel_rfl
theorem h140:Has Tryz.prog 140 (irScHash):=⟨_,Tryz.func140,tcf140⟩
theorem tcf141:compF Tryz.prog [] Tryz.f141=some (irScNoNl):=by kernel_rfl
theorem h141:Has Tryz.prog 141 (irScNoNl):=⟨_,Tryz.func141,tcf141⟩
theorem tcf142:compF Tryz.prog [] Tryz.f142=some (irScWord 138 190):=by kernel_rfl
theorem h142:Has Tryz.prog 142 (irScWord 138 190):=⟨_,Tryz.func142,tcf142⟩
theorem tcf190:compF Tryz.prog [] Tryz.f190=some (irScWordB 103 105):=by kernel_rfl
theorem h190:Has Tryz.prog 190 (irScWordB 103 105):=⟨_,Tryz.func190,tcf190⟩
theorem tcf144:compF Tryz.prog [] Tryz.f144=some (irScStr 192):=by kernel_rfl
theorem h144:Has Tryz.prog 144 (irScStr 192):=⟨_,Tryz.func144,tcf144⟩
theorem tcf145:compF Tryz.prog [] Tryz.f145=some (irScSign 193 194):=by kernel_rfl
theorem h145:Has Tryz.prog 145 (irScSign 193 194):=⟨_,Tryz.func145,tcf145⟩
theorem tcf192:compF Tryz.prog [4] Tryz.f192=some (irRnUnquote 217 218 219 301 5):=by kernel_rfl
theorem h192:HasT Tryz.prog [4] 192 (irRnUnquote 217 218 219 301 5):=⟨_,Tryz.func192,tcf192⟩
theorem tcf193:compF Tryz.prog [] Tryz.f193=some (irTkSigns):=by kernel_rfl
theorem h193:Has Tryz.prog 193 (irTkSigns):=⟨_,Tryz.func193,tcf193⟩
end
section
open Go Go.Zam Go.Proofs Go.Shelf
def bldRen:Ren:=⟨fun n=>match n with | 240=>239 | 276=>249 | 169=>219 | n=>n,fun t=>match t with | 0=>0 | 3=>3 | 4=>4 | 5=>5 | 9=>9 | 20=>20 | 37=>299 | 70=>298 | 72=>301 | 127=>313 | 164=>319 | n=>n,fun g=>g⟩
theorem lay240:Lays.n240 Tryz.prog bldRen where
 mixed:=by kernel_rfl
 f240:=Tryz.func239.trans (congrArg some (by kernel_rfl))
 f276:=Tryz.func249.trans (congrArg some (by kernel_rfl))
 t0:=by kernel_rfl
 a0:=Tryz.isAgg0
 z0:=fun _=>by kernel_rfl
 v0:=Tryz.zeroValue0
 t4:=by kernel_rfl
 a4:=Tryz.isAgg4
 z4:=fun _=>by kernel_rfl
 v4:=Tryz.zeroValue4
 t9:=by kernel_rfl
 a9:=Tryz.isAgg9
 z9:=fun _=>by kernel_rfl
 v9:=Tryz.zeroValue9
 t20:=by kernel_rfl
 a20:=Tryz.isAgg20
 z20:=fun _=>by kernel_rfl
 v20:=Tryz.zeroValue20
 t70:=by kernel_rfl
 a70:=Tryz.isAgg298
 z70:=fun _=>by kernel_rfl
 v70:=Tryz.zeroValue298
 t72:=by kernel_rfl
 a72:=Tryz.isAgg301
 z72:=fun _=>by kernel_rfl
 v72:=Tryz.zeroValue301
 t164:=by kernel_rfl
 a164:=Tryz.isAgg319
 z164:=fun _=>by kernel_rfl
 v164:=Tryz.zeroValue319
theorem lay169:Lays.n169 Tryz.prog bldRen where
 mixed:=by kernel_rfl
 f169:=Tryz.func219.trans (congrArg some (by kernel_rfl))
 t0:=by kernel_rfl
 a0:=Tryz.isAgg0
 z0:=fun _=>by kernel_rfl
 v0:=Tryz.zeroValue0
 t3:=by kernel_rfl
 a3:=Tryz.isAgg3
 z3:=fun _=>by kernel_rfl
 v3:=Tryz.zeroValue3
 t9:=by kernel_rfl
 a9:=Tryz.isAgg9
 z9:=fun _=>by kernel_rfl
 v9:=Tryz.zeroValue9
 t37:=by kernel_rfl
 a37:=Tryz.isAgg299
 z37:=fun _=>by kernel_rfl
 v37:=Tryz.zeroValue299
 t70:=by kernel_rfl
 a70:=Tryz.isAgg298
 z70:=fun _=>by kernel_rfl
 v70:=Tryz.zeroValue298
 t72:=by kernel_rfl
 a72:=Tryz.isAgg301
 z72:=fun _=>by kernel_rfl
 v72:=Tryz.zeroValue301
 t127:=by kernel_rfl
 a127:=Tryz.isAgg313
 z127:=fun _=>by kernel_rfl
 v127:=Tryz.zeroValue313
theorem bldExtra:Builder.Extra Tryz.prog bldRen where
 sizeBuilder:=by kernel_rfl
 liesBuilder:=by kernel_rfl
 t5:=by kernel_rfl
 a5:=Tryz.isAgg5
 z5:=fun _=>by kernel_rfl
 v5:=Tryz.zeroValue5
 infoByte:=by kernel_rfl
 cellsByte:=by kernel_rfl
 sizeByte:=by kernel_rfl
 neB5:=by decide
theorem copyCheckOk {H:Hp} {i:Nat} {x a:A} (hi:H[i]?=some (.box 301 [a,x])) (ha:a = .d .nilp∨a = .ptr i 0) :
 ACall Tryz.prog 239 [.ptr i 0] H (fun r H'=>r = .tup []∧H'=H.set i (.box 301 [.ptr i 0,x])):=copyCheck_acall lay240 bldExtra.toX72 hi ha
theorem stringOk {H:Hp} {i t:Nat} {a:A} {s:List UInt8} (hi:H[i]?=some (.box 301 [a,.osl true 1 (byteRows s) t])) (ht:H[t]?=some (.tok s.length 1 5)) (hlen:s.length≤4611686018427387904) :
 ACall Tryz.prog 219 [.ptr i 0] H (fun r H'=>r = .d (.str s)∧H'=H):=string_acall lay169 bldExtra hi ht hlen
end
section
open Go Go.Zam Go.Proofs
open Go.RowKit (Below)
theorem indexOk:IndexOk Tryz.prog 217:=fun s c H=>by
 refine leaf (args:=[.str s,.int .u8 c.toNat]) (x := .int .i64 (Lib.indexByte s c)) (fun w σ vs _ hl hv => ?_) H
 match vs,hl with
 | [v0,v1],_ =>
 have e0:=(hv 0 v0 _ rfl rfl).str_inv
 have e1:=(hv 1 v1 _ rfl rfl).int_inv
 subst e0; subst e1
 refine (Tryz.strings_IndexByte ⟨s.toArray⟩ c.toNat w).mono ?_
 rintro e w' ⟨rfl,rfl⟩
 refine ⟨_,rfl,Below.refl _ _,fun σ => ?_⟩
 have:(Int.toNat (c.toNat:Int)).toUInt8=c:=by simp
 rw [this]
 exact .int _ _
theorem prefixOk:PrefixOk Tryz.prog 194:=fun s p H=>by
 refine leaf (args:=[.str s,.str p]) (x := .bool (p.isPrefixOf s)) (fun w σ vs _ hl hv => ?_) H
 match vs,hl with
 | [v0,v1],_ =>
 have e0:=(hv 0 v0 _ rfl rfl).str_inv
 have e1:=(hv 1 v1 _ rfl rfl).str_inv
 subst e0; subst e1
 refine (Tryz.strings_HasPrefix ⟨s.toArray⟩ ⟨p.toArray⟩ w).mono ?_
 rintro e w' ⟨rfl,rfl⟩
 exact ⟨_,rfl,Below.refl _ _,fun σ => .bool _⟩
theorem decodeOk {H0:Hp} (hG:TabsG 0 1 2 3 H0):DecodeOk Tryz.prog H0 137:=fun s H hp=>by
 refine leafG (args:=[.str s]) hG (fun w σ vs hT hl hv => ?_) H hp
 match vs,hl with
 | [v0],_ =>
 have e0:=(hv 0 v0 _ rfl rfl).str_inv
 subst e0
 refine (Tryz.utf8_DecodeRuneInString ⟨s.toArray⟩ w hT.1).mono ?_
 rintro e w' ⟨rfl,hb⟩
 refine ⟨_,rfl,hb,fun κ => ?_⟩
 rw [decodeGo_eq]
 refine VR.tup [_,_] [_,_] rfl fun i v a hi ha => ?_
 match i with
 | 0=>cases hi; cases ha; exact .d (.int _ _)
 | 1=>cases hi; cases ha; exact .d (.int _ _)
 | i+2=>cases hi
theorem numberCalls (s:ByteArray) (hlim:s.size≤1048576) (w:World) (h0:∃ te pe,w.cell? ⟨2,0,none⟩=some (.iface te pe)) (h1:∃ te pe,w.cell? ⟨3,0,none⟩=some (.iface te pe)) :
 Calls Tryz.prog 143 #[.string s] w fun e w'=>e = .returned (.int .i64 (if numOk s.data.toList then 0 else 23))∧Below w.heap.size w w':=by
 obtain ⟨t0,p0,h0⟩:=h0
 obtain ⟨t1,p1,h1⟩:=h1
 rcases h:Lib.parseUintB 63 s.data.toList with u | _ | _
 · have hr:numOk s.data.toList=true:=by simp only [numOk,h]
   rw [hr]
   go_enter Tryz.func143,Tryz.ntmps143
   go_wp2_with (go_at_call 191; refine (Any.strconv_ParseUint_10_at63_ok Tryz.laysPu14 s (by omega) u h _).mono ?_; rintro e w' ⟨rfl,hw⟩)
   go_wp2
   go_ret
   refine ⟨by first | rfl | (congr 2; omega),?_⟩
   rcases hw with rfl | rfl
   · exact Below.refl _ _
   · exact Lib.bytesWorld_below _ _ _
 · have hr:numOk s.data.toList=false:=by simp only [numOk,h]
   rw [hr]
   go_enter Tryz.func143,Tryz.ntmps143
   go_wp2_with (go_at_call 191; refine (Any.strconv_ParseUint_10_at63_syntax Tryz.laysPu14 s (by omega) h (.iface t0 p0) _ ?_ (.inr ⟨_,_,rfl⟩)).mono ?_)
   · exact h0
   rintro e W1 ⟨N,rfl,-,-,hb⟩
   go_wp2
   go_ret
   exact ⟨rfl,hb⟩
 · have hr:numOk s.data.toList=false:=by simp only [numOk,h]
   rw [hr]
   go_enter Tryz.func143,Tryz.ntmps143
   go_wp2_with (go_at_call 191; refine (Any.strconv_ParseUint_10_at63_range Tryz.laysPu14 s (by omega) h (.iface t1 p1) _ ?_ (.inr ⟨_,_,rfl⟩)).mono ?_)
   · exact h1
   rintro e W1 ⟨N,rfl,-,-,hb⟩
   go_wp2
   go_ret
   exact ⟨rfl,hb⟩
theorem numberOk {H0:Hp} (hG:TabsG 0 1 2 3 H0):NumOk Tryz.prog H0 143:=fun s H hp hl=>by
 refine leafG (args:=[.str s]) (x := .d _) hG (fun w σ vs hT hl' hv => ?_) H hp
 match vs,hl' with
 | [v0],_ =>
 have e0:=(hv 0 v0 _ rfl rfl).str_inv
 subst e0
 refine (numberCalls ⟨s.toArray⟩ (by simpa [ByteArray.size] using hl) w hT.2.1 hT.2.2).mono ?_
 rintro e w' ⟨rfl,hb⟩
 exact ⟨_,rfl,hb,fun κ => .d (.int _ _)⟩
theorem cfWB:compF Tryz.prog [] Tryz.f218=some (irWriteByte 239 5):=by kernel_rfl
theorem copyOk:CopyOk Tryz.prog 239 301:=fun H i x a hi ha=>copyCheckOk hi ha
theorem writeBOk:WriteBOk Tryz.prog 218 301:=fun H i t a bs c=>writeByte_acall Tryz.func218 cfWB copyOk H i t a bs c
theorem stringOk':StringOk Tryz.prog 219 301:=fun H i t a s hi ht hl=>stringOk hi ht (by omega)
theorem unquoteOk (s:Bs) (H:Hp) (hs:s.length≤1048576):ACall Tryz.prog 192 [.d (.str s)] H (fun r H'=>r=unqR (unqV s)∧H'=H):=h192.unquote indexOk writeBOk stringOk' s hs H
theorem letterOk:ByteOk Tryz.prog 103 letterB:=h103.letter
theorem digitOk:ByteOk Tryz.prog 105 digitB:=h105.digit
theorem isKeyOk (s:Bs) (H:Hp):ACall Tryz.prog 104 [.d (.str s)] H (fun r H'=>r = .d (.bool (decide (s ∈ keysL)))∧H'=H):=h104.isKey h132 h131 h168 s H
theorem isNameOk (s:Bs) (H:Hp):ACall Tryz.prog 71 [.d (.str s)] H (fun r H'=>r = .d (.bool (isNameB s))∧H'=H):=h71.isName letterOk digitOk isKeyOk s H
theorem wordOk {H:Hp} {i:Nat} {ts:TypeId} {text:Bs} {n:Nat} (hi:H[i]?=some (scan ts text n)) (hn:n≤text.length) (hl:text.length≤1048576) :
 ACall Tryz.prog 142 [.ptr i 0] H (fun r H'=>r = .d (.str ((text.drop n).take (Zam.runN Zam.wordB (text.drop n))))∧H'=H.set i (scan ts text (n+Zam.runN Zam.wordB (text.drop n)))) :=
 h142.word h138 (by kernel_rfl) (h190.wordB letterOk digitOk) hi hn (by omega)
theorem leadOk {H:Hp} {i:Nat} {text:Bs} {n:Nat} (hi:H[i]?=some (scan 199 text n)) (hn:n≤text.length) (hl:text.length≤1048576) :
 ACall Tryz.prog 113 [.ptr i 0] H (fun r H'=>r = .d (.str ((text.drop n).take (leadS false (text.drop n))))∧H'=H.set i (scan 199 text (n+leadS false (text.drop n)))) :=
 h113.lead h138 (by kernel_rfl) h139.blank (by kernel_rfl) h140.hash (by kernel_rfl) h141.noNl hi hn (by omega)
theorem nextOk {H0:Hp} (hG:TabsG 0 1 2 3 H0) {H:Hp} {i:Nat} {text:Bs} {n:Nat} (hH:Pre0 H0 H) (h0i:H0.length≤i) (hi:H[i]?=some (scan 199 text n)) (hn:n≤text.length) (hl:text.length≤1048576) :
 ACall Tryz.prog 114 [.ptr i 0] H (NextQ H i 199 text n (text.drop n) (tokN (text.drop n))) :=
 h114.next h138 (by kernel_rfl) letterOk (by kernel_rfl) digitOk wordOk isKeyOk (numberOk hG) (fun hi hn hl=>h144.str unquoteOk hi hn hl) (fun hi hn hl=>h145.sign h193 prefixOk hi hn (by omega)) hH h0i hi hn hl
theorem badOk {H0:Hp} (hG:TabsG 0 1 2 3 H0) (s:Bs) (H:Hp) (hs:s.length≤1048576) (hH:Pre0 H0 H):ACall Tryz.prog 112 [.d (.str s)] H (fun r H'=>r = .d (.int .i64 (badS s))∧H'=H):=h112.bad (decodeOk hG) s hs H hH
theorem lexOk {H0:Hp} (hG:TabsG 0 1 2 3 H0) (s:Bs) (hs:s.length≤1048576) (H:Hp) (hH:Pre0 H0 H) :
 ACall Tryz.prog 92 [.d (.str s)] H (fun r H'=>r = .tup [.d (.sl true 4 ((lexS s).1.map encTk)),.d (.int .i64 (lexS s).2.1),.d (.int .i64 (lexS s).2.2)]∧H'=H) :=
 h92.lex (badOk hG) leadOk (nextOk hG) s hs H hH
end
section
open Go Go.Zam Go.Proofs
theorem pcf147:compF Tryz.prog [] Tryz.f147=some (irPNow 85):=by kernel_rfl
theorem ph147:Has Tryz.prog 147 (irPNow 85):=⟨_,Tryz.func147,pcf147⟩
theorem pcf152:compF Tryz.prog [] Tryz.f152=some (irPFail):=by kernel_rfl
theorem ph152:Has Tryz.prog 152 (irPFail):=⟨_,Tryz.func152,pcf152⟩
theorem pcf148:compF Tryz.prog [] Tryz.f148=some (irPIs 147 85):=by kernel_rfl
theorem ph148:Has Tryz.prog 148 (irPIs 147 85):=⟨_,Tryz.func148,pcf148⟩
theorem pcf221:compF Tryz.prog [] Tryz.f221=some (irPTook 148):=by kernel_rfl
theorem ph221:Has Tryz.prog 221 (irPTook 148):=⟨_,Tryz.func221,pcf221⟩
theorem pcf195:compF Tryz.prog [] Tryz.f195=some (irPWant 221 152):=by kernel_rfl
theorem ph195:Has Tryz.prog 195 (irPWant 221 152):=⟨_,Tryz.func195,pcf195⟩
theorem pcf196:compF Tryz.prog [] Tryz.f196=some (irPWord 147 152 85):=by kernel_rfl
theorem ph196:Has Tryz.prog 196 (irPWord 147 152 85):=⟨_,Tryz.func196,pcf196⟩
theorem pcf146:compF Tryz.prog [10] Tryz.f146=some (irPNode 35):=by kernel_rfl
theorem ph146:HasT Tryz.prog [10] 146 (irPNode 35):=⟨_,Tryz.func146,pcf146⟩
theorem pcf153:compF Tryz.prog [] Tryz.f153=some (irPDone 35):=by kernel_rfl
theorem ph153:Has Tryz.prog 153 (irPDone 35):=⟨_,Tryz.func153,pcf153⟩
theorem pcf149:compF Tryz.prog [] Tryz.f149=some (irPPut 35):=by kernel_rfl
theorem ph149:Has Tryz.prog 149 (irPPut 35):=⟨_,Tryz.func149,pcf149⟩
theorem pcf222:compF Tryz.prog [] Tryz.f222=some (irPList 221 149 195):=by kernel_rfl
theorem ph222:Has Tryz.prog 222 (irPList 221 149 195):=⟨_,Tryz.func222,pcf222⟩
theorem pcf115:compF Tryz.prog [] Tryz.f115=some (irPFile 146 147 148 150 149 151 152 153 35):=by kernel_rfl
theorem ph115:Has Tryz.prog 115 (irPFile 146 147 148 150 149 151 152 153 35):=⟨_,Tryz.func115,pcf115⟩
theorem pcf150:compF Tryz.prog [] Tryz.f150=some (irPUse 146 195 196 153 149 35):=by kernel_rfl
theorem ph150:Has Tryz.prog 150 (irPUse 146 195 196 153 149 35):=⟨_,Tryz.func150,pcf150⟩
theorem pcf151:compF Tryz.prog [] Tryz.f151=some (irPDef 146 195 196 197 198 199 149 153 35):=by kernel_rfl
theorem ph151:Has Tryz.prog 151 (irPDef 146 195 196 197 198 199 149 153 35):=⟨_,Tryz.func151,pcf151⟩
theorem pcf197:compF Tryz.prog [] Tryz.f197=some (irPParams 146 195 223 222 153 203 35):=by kernel_rfl
theorem ph197:Has Tryz.prog 197 (irPParams 146 195 223 222 153 203 35):=⟨_,Tryz.func197,pcf197⟩
theorem pcf223:compF Tryz.prog [] Tryz.f223=some (irPParam 146 196 198 149 153 35):=by kernel_rfl
theorem ph223:Has Tryz.prog 223 (irPParam 146 196 198 149 153 35):=⟨_,Tryz.func223,pcf223⟩
theorem pcf198:compF Tryz.prog [] Tryz.f198=some (irPTyped 221 224 35):=by kernel_rfl
theorem ph198:Has Tryz.prog 198 (irPTyped 221 224 35):=⟨_,Tryz.func198,pcf198⟩
theorem pcf224:compF Tryz.prog [] Tryz.f224=some (irPKind 146 221 240 222 195 224 149 152 153 203 35):=by kernel_rfl
theorem ph224:Has Tryz.prog 224 (irPKind 146 221 240 222 195 224 149 152 153 203 35):=⟨_,Tryz.func224,pcf224⟩
theorem pcf240:compF Tryz.prog [] Tryz.f240=some (irPTField 146 196 195 224 149 153 35):=by kernel_rfl
theorem ph240:Has Tryz.prog 240 (irPTField 146 196 195 224 149 153 35):=⟨_,Tryz.func240,pcf240⟩
theorem pcf199:compF Tryz.prog [] Tryz.f199=some (irPBlock 146 195 221 225 149 153 35):=by kernel_rfl
theorem ph199:Has Tryz.prog 199 (irPBlock 146 195 221 225 149 153 35):=⟨_,Tryz.func199,pcf199⟩
theorem pcf225:compF Tryz.prog [] Tryz.f225=some (irPStmt 146 221 196 198 149 195 241 199 153 242 35):=by kernel_rfl
theorem ph225:Has Tryz.prog 225 (irPStmt 146 221 196 198 149 195 241 199 153 242 35):=⟨_,Tryz.func225,pcf225⟩
theorem pcf242:compF Tryz.prog [] Tryz.f242=some (irPSets 147 85):=by kernel_rfl
theorem ph242:Has Tryz.prog 242 (irPSets 147 85):=⟨_,Tryz.func242,pcf242⟩
theorem pcf241:compF Tryz.prog [] Tryz.f241=some (irPExpr 250 221 251 35):=by kernel_rfl
theorem ph241:Has Tryz.prog 241 (irPExpr 250 221 251 35):=⟨_,Tryz.func241,pcf241⟩
theorem pcf251:compF Tryz.prog [] Tryz.f251=some (irPWith 35):=by kernel_rfl
theorem ph251:Has Tryz.prog 251 (irPWith 35):=⟨_,Tryz.func251,pcf251⟩
theorem pcf250:compF Tryz.prog [] Tryz.f250=some (irPSum 254 221 251 35):=by kernel_rfl
theorem ph250:Has Tryz.prog 250 (irPSum 254 221 251 35):=⟨_,Tryz.func250,pcf250⟩
theorem pcf254:compF Tryz.prog [] Tryz.f254=some (irPTerm 257 221 251 35):=by kernel_rfl
theorem ph254:Has Tryz.prog 254 (irPTerm 257 221 251 35):=⟨_,Tryz.func254,pcf254⟩
theorem pcf257:compF Tryz.prog [15] Tryz.f257=some (irPPost 263 221 196 241 222 153 35):=by kernel_rfl
theorem ph257:HasT Tryz.prog [15] 257 (irPPost 263 221 196 241 222 153 35):=⟨_,Tryz.func257,pcf257⟩
theorem pcf263:compF Tryz.prog [4000000] Tryz.f263=some (irPAtom 146 147 196 221 241 149 195 269 222 197 198 199 152 153 203 35 85):=by kernel_rfl
theorem ph263:HasT Tryz.prog [4000000] 263 (irPAtom 146 147 196 221 241 149 195 269 222 197 198 199 152 153 203 35 85):=⟨_,Tryz.func263,pcf263⟩
theorem pcf269:compF Tryz.prog [] Tryz.f269=some (irPEntry 146 196 195 241 149 153 35):=by kernel_rfl
theorem ph269:Has Tryz.prog 269 (irPEntry 146 196 195 241 149 153 35):=⟨_,Tryz.func269,pcf269⟩
theorem pcf93:compF Tryz.prog [] Tryz.f93=some (irPParse 115 116 35 205):=by kernel_rfl
theorem ph93:Has Tryz.prog 93 (irPParse 115 116 35 205):=⟨_,Tryz.func93,pcf93⟩
theorem pcf64:compF Tryz.prog [] Tryz.f64=some (irPOf 92 93 35):=by kernel_rfl
theorem ph64:Has Tryz.prog 64 (irPOf 92 93 35):=⟨_,Tryz.func64,pcf64⟩
theorem pcf116:compF Tryz.prog [] Tryz.f116=some (irTDepth 116 35):=by kernel_rfl
theorem ph116:Has Tryz.prog 116 (irTDepth 116 35):=⟨_,Tryz.func116,pcf116⟩
def F:PF := { now:=147,fail:=152,is:=148,took:=221,want:=195,word:=196,node:=146,done:=153,put:=149,list:=222,file:=115,use_:=150,def_:=151,params:=197,param:=223,typed:=198,kind:=224,tfield:=240,block:=199,stmt:=225,sets:=242,expr:=241,with_:=251,sum:=250,term:=254,post:=257,atom:=263,entry:=269,tn:=35,tt:=85,tp:=205,tb:=203 }
theorem has:PHas Tryz.prog F where
 now:=ph147
 fail:=ph152
 is:=ph148
 took:=ph221
 want:=ph195
 word:=ph196
 node:=ph146
 done:=ph153
 put:=ph149
 list:=ph222
 file:=ph115
 use_:=ph150
 def_:=ph151
 params:=ph197
 param:=ph223
 typed:=ph198
 kind:=ph224
 tfield:=ph240
 block:=ph199
 stmt:=ph225
 sets:=ph242
 expr:=ph241
 with_:=ph251
 sum:=ph250
 term:=ph254
 post:=ph257
 atom:=ph263
 entry:=ph269
 kParam:=by kernel_rfl
 kTField:=by kernel_rfl
 kKind:=by kernel_rfl
 kExpr:=by kernel_rfl
 kSum:=by kernel_rfl
 kTerm:=by kernel_rfl
 kPost:=by kernel_rfl
 kEntry:=by kernel_rfl
theorem parseOk (z:Bool) (L:List Tk) (hL:L.length≤1048576) (hEq:∀ i,isT L i [61]=true→kdT L i=5) (H:Hp):ACall Tryz.prog 93 [.d (.sl z 4 (L.map encTk))] H (fun r H'=>r = .tup [(parseP L).1.v,.d (.int .i64 (parseP L).2.1),.d (.int .i64 (parseP L).2.2)]∧H'=H):=Has.parse (F:=F) ph93 has ph116 hL hEq H
theorem ofOk {H0:Hp} (hG:TabsG 0 1 2 3 H0) (s:Bs) (hs:s.length≤1048576) (H:Hp) (hH:Pre0 H0 H):ACall Tryz.prog 64 [.d (.str s)] H (fun r H'=>r = .tup [.d (.sl true 4 ((parseO s).1.map encTk)),(parseO s).2.1.v,.d (.int .i64 (parseO s).2.2.1),.d (.int .i64 (parseO s).2.2.2)]∧H'=H):=Has.of_ ph64 (fun s hs H hH=>lexOk hG s hs H hH) parseOk s hs H hH
end
end Go.Proofs.Zi
namespace Go.Zam

section
section
variable {P:Program}
end
end
section
section
variable {P:Program}
end
end
section
section
variable {P:Program}
end
end
section
section
variable {P:Program}
end
end
section
section
variable {L:List Tk}
end
structure RF where
 (kind file is word want ended use_ def_ lambda params typed block stmt expr sum term post atom:FuncId)
 (tn tt tr:TypeId)
section
variable {P:Program} {R:RF} {z:Bool} {L:List Tk} {H:Hp} {i:Nat}
end
end
section
section
variable {L:List Tk} {x:Bs} {p q:Nat}
end
section
variable {P:Program} {R:RF} {z:Bool} {L:List Tk} {H X:Hp} {i:Nat} {s:PSt}
end
end
section
section
variable {P:Program} {R:RF} {z:Bool} {L:List Tk} {H X:Hp} {i:Nat} {s:PSt}
end
end
section
section
variable {P:Program} {R:RF} {z:Bool} {L:List Tk} {H X:Hp} {i:Nat} {s:PSt}
end
end
section
section
variable {P:Program} {R:RF} {z:Bool} {L:List Tk}
end
end
section
section
variable {P:Program} {R:RF} {z:Bool} {L:List Tk}
end
end
section
section
variable {P:Program} {R:RF} {z:Bool} {L:List Tk}
end
end
section
section
variable {P:Program} {R:RF} {z:Bool} {L:List Tk}
end
end

section
section
variable {P:Program} {R:RF} {z:Bool} {L:List Tk}
end
end
def Ex.mid (M:Fr→Hp→Prop) (Q:Ex→Fr→Hp→Prop):Ex→Fr→Hp→Prop
 | .normal=>M
 | e=>Q e
@[simp ↓] theorem mid_normal {M:Fr→Hp→Prop} {Q:Ex→Fr→Hp→Prop} {fr:Fr} {H:Hp}:Ex.mid M Q .normal fr H=M fr H:=rfl
@[simp ↓] theorem mid_ret {M:Fr→Hp→Prop} {Q:Ex→Fr→Hp→Prop} {fr:Fr} {H:Hp}:Ex.mid M Q .ret fr H=Q .ret fr H:=rfl
@[simp ↓] theorem mid_exit {M:Fr→Hp→Prop} {Q:Ex→Fr→Hp→Prop} {j:Nat} {fr:Fr} {H:Hp}:Ex.mid M Q (.exit j) fr H=Q (.exit j) fr H:=rfl
section
section
variable {P:Program} {R:RF} {z:Bool} {L:List Tk}
end
end
section
section
variable {P:Program} {R:RF} {z:Bool} {L:List Tk}
end
end
section
section
variable {P:Program} {R:RF} {z:Bool} {L:List Tk}
end
end
section
section
variable {P:Program} {R:RF} {z:Bool} {L:List Tk}
end
end
section
section
variable {P:Program}
end
section
variable {P:Program} {R:RF} {z:Bool} {L:List Tk}
end
end
section
section
variable {P:Program} {F:SF} {H:Hp}
theorem SHas.of' (hF:SHas P F) (hW:HasW P F) {fof:FuncId} (hof:HasT P [5000003,8200003,6000034,6000043] fof (irScOf F.bind F.closed F.srt F.cmp F.tn F.tm F.tb F.bd F.mn F.ed))
 (hs:∀ (H:Hp) (i:Nat) (L:List (Int × Int)),H[i]?=some (arrE encBad 2 L)→L.length≤1099511627776→ACall P F.srt [.msl i 0 L.length,.d (.fn F.cmp)] H (fun r H'=>r = .tup []∧H'=H.set i (arrE encBad 2 (ssort cBad L))))
 (hs0:∀ (H:Hp),ACall P F.srt [.d (.sl true 2 []),.d (.fn F.cmp)] H (fun r H'=>r = .tup []∧H'=H)) (n:N) (hn:n.size≤68719476736) (H:Hp) :
 ACall P fof [n.v] H (fun r H'=>r = .agg ((scopeM n).enc.map .d)∧H'=H):=by
 obtain ⟨k,f,t,w,a,z,ks⟩:=n
 rw [N.size_mk] at hn
 have hsl:=N.sizes_len ks
 have hall:allP (.mk k f t w a z ks)=defsP (topsP 0 ks [] ⟨[],[],[]⟩).1 0 ks (topsP 0 ks [] ⟨[],[],[]⟩).2:=rfl
 have hall2:(defsP (topsP 0 ks [] ⟨[],[],[]⟩).1 0 ks (topsP 0 ks [] ⟨[],[],[]⟩).2).sz≤4 * N.sizes ks:=by
  have h1:=(tops_grew ks 0 [] ⟨[],[],[]⟩ (FOk.nil _)).sz
  have h2:=(defs_grew (topsP 0 ks [] ⟨[],[],[]⟩).1 ks 0 (topsP 0 ks [] ⟨[],[],[]⟩).2).2
  have h3:SM.sz ⟨[],[],[]⟩=0:=rfl
  omega
 have hw:=hF.ofW hW hof (H:=H) (k:=k) (f:=f) (t:=t) (w:=w) (a:=a) (z:=z) (ks:=ks) (by omega)
 unfold scopeM
 rw [hall]
 obtain ⟨bx,hbx⟩:∃ bx,bx=Ob.box F.tn [.d (.int .i64 k),.d (.int .i64 f),.d (.int .i64 t),.d (.str w),.d (.int .i64 a),.d (.sl z 6 (ks.map N.enc))]:=⟨_,rfl⟩
 have hbc:∀ n,bx.clr n=bx:=fun n=>by subst hbx; simp
 rw [← hbx] at hw
 generalize defsP (topsP 0 ks [] ⟨[],[],[]⟩).1 0 ks (topsP 0 ks [] ⟨[],[],[]⟩).2=S at hw hall2 ⊢
 generalize (topsP 0 ks [] ⟨[],[],[]⟩).1=G at hw
 have hbl:S.bad.length≤1099511627776:=by unfold SM.sz at hall2; omega
 obtain ⟨bs,ms,bad⟩:=S
 simp only at hbl
 by_cases hb:bad=[]
 · subst hb
   have hso:ssort cBad ([]:List (Int × Int))=[]:=rfl
   rw [hso]
   have hgoal:(SM.enc ⟨bs,ms,[]⟩).map A.d=[.d (.sl (bs.map encBd).isEmpty 4 (bs.map encBd)),.d (.sl (ms.map encMn).isEmpty 4 (ms.map encMn)),.d (.sl true 2 [])]:=by
    simp [SM.enc]
   rw [hgoal]
   refine ACall.freeze3n (k:=4) (e:=F.ed) (nrm_osl (t:=H.length+2)) (nrm_osl (t:=H.length+3)) ?_
   refine hw 5 _ fun hcl it fr f3 f2 => ?_
   have y5:(scY F H.length bx ⟨bs,ms,[]⟩ G it)[5]?=some (.box F.tm [.osl true 4 (bs.map encBd) (H.length+2),.osl true 4 (ms.map encMn) (H.length+3),.vsl (H.length+4) 0 0]):=rfl
   have y1:(scY F H.length bx ⟨bs,ms,[]⟩ G it)[1]?=some (.box F.tm [.d (.sl true 4 []),.d (.sl true 4 []),.d (.sl true 2 [])]):=rfl
   have y4:(H++scY F H.length bx ⟨bs,ms,[]⟩ G it)[H.length+4]?=some (.vec 2 F.ed 0 []):=by rw [getElem?_appk]; rfl
   simp [scTail,f3,y5,-getElem?_pos]
   refine CallK_of' (ACall.vecNil y4 (hs0 _)) ?_
   simp [f3,f2,y5,y1,-getElem?_pos]
   have lY:(scY F H.length bx ⟨bs,ms,[]⟩ G it).length=8:=rfl
   have y1':((scY F H.length bx ⟨bs,ms,[]⟩ G it).set 1 (.box F.tm [.osl true 4 (bs.map encBd) (H.length+2),.osl true 4 (ms.map encMn) (H.length+3),.vsl (H.length+4) 0 0]))[1]?=some (.box F.tm [.osl true 4 (bs.map encBd) (H.length+2),.osl true 4 (ms.map encMn) (H.length+3),.vsl (H.length+4) 0 0]):=rfl
   have hcut:∃ X:Hp,X[4]?=some (.vec 2 F.ed 0 [])∧Hp.cut (H.length+5) (H++(scY F H.length bx ⟨bs,ms,[]⟩ G it).set 1 (.box F.tm [.osl true 4 (bs.map encBd) (H.length+2),.osl true 4 (ms.map encMn) (H.length+3),.vsl (H.length+4) 0 0]))=H++X:=⟨_,rfl,cut_appk hcl _ _⟩
   simp [RetK,resA,f2,y1',lY,-getElem?_pos]
   exact hcut
 · have hne:bad.map encBad ≠ []:=by simpa using hb
   have hbz:bad.length=(ssort cBad bad).length:=(ssort_length cBad_cmp bad).symm
   have hbe:(ssort cBad bad).isEmpty=false:=by
    cases hq:ssort cBad bad with
    | nil=>rw [hq] at hbz; simp at hbz; exact absurd hbz hb
    | cons x r=>rfl
   have hgoal:(SM.enc ⟨bs,ms,ssort cBad bad⟩).map A.d=[.d (.sl (bs.map encBd).isEmpty 4 (bs.map encBd)),.d (.sl (ms.map encMn).isEmpty 4 (ms.map encMn)),.d (.sl false 2 ((ssort cBad bad).map encBad))]:=by
    simp [SM.enc,hbe]
   rw [hgoal]
   refine ACall.freeze3 (k:=8) (nrm_osl (t:=H.length+2)) (nrm_osl (t:=H.length+3)) ?_
   refine hw 9 _ fun hcl it fr f3 f2 => ?_
   have y5:(scY F H.length bx ⟨bs,ms,bad⟩ G it)[5]?=some (.box F.tm [.osl true 4 (bs.map encBd) (H.length+2),.osl true 4 (ms.map encMn) (H.length+3),.vsl (H.length+4) bad.length bad.length]):=rfl
   have y4:(H++scY F H.length bx ⟨bs,ms,bad⟩ G it)[H.length+4]?=some (.vec 2 F.ed bad.length (bad.map encBad)):=by rw [getElem?_appk]; rfl
   have y5':(H++scY F H.length bx ⟨bs,ms,bad⟩ G it)[H.length+5]?=some (.box F.tm [.osl true 4 (bs.map encBd) (H.length+2),.osl true 4 (ms.map encMn) (H.length+3),.vsl (H.length+4) bad.length bad.length]):=by rw [getElem?_appk]; rfl
   have hl8:(H++scY F H.length bx ⟨bs,ms,bad⟩ G it).length=H.length+8:=by simp [scY]
   have gs:=hs ((((H++scY F H.length bx ⟨bs,ms,bad⟩ G it).set (H.length+4) .dead).set (H.length+5) (.box F.tm [.osl true 4 (bs.map encBd) (H.length+2),.osl true 4 (ms.map encMn) (H.length+3),.msl (H.length+8) 0 bad.length]))++[arrE encBad 2 bad]) (H.length+8) bad
    (by rw [List.getElem?_append_right (by simp [scY]),show H.length+8 - _=0 by simp [scY]]; rfl) hbl
   have gv:=ACall.vecArr (P:=P) (f:=F.srt) (q:=2) (args:=[.d (.fn F.cmp)]) (Q:=fun r H'=>r = .tup []∧H'=((((H++scY F H.length bx ⟨bs,ms,bad⟩ G it).set (H.length+4) .dead).set (H.length+5) (.box F.tm [.osl true 4 (bs.map encBd) (H.length+2),.osl true 4 (ms.map encMn) (H.length+3),.msl (H.length+8) 0 bad.length]))++[arrE encBad 2 (ssort cBad bad)]))
    y4 hne y5' (by simp) (by
     rw [hl8,List.length_map,← arrE_map]
     refine gs.mono ?_
     rintro r H' ⟨rfl,rfl⟩
     refine ⟨rfl,?_⟩
     rw [List.set_append_right _ _ (by simp [scY]),show H.length+8 - _=0 by simp [scY]]; rfl)
   rw [List.length_map] at gv
   simp [scTail,f3,y5,-getElem?_pos]
   refine CallK_of' gv ?_
   rw [List.set_append_right _ _ (by omega),List.set_append_right _ _ (by simp)]
   simp only [Nat.add_sub_cancel_left]
   obtain ⟨Z,hZ⟩:∃ Z,Z=(((scY F H.length bx ⟨bs,ms,bad⟩ G it).set 4 .dead).set 5 (.box F.tm [.osl true 4 (bs.map encBd) (H.length+2),.osl true 4 (ms.map encMn) (H.length+3),.msl (H.length+8) 0 bad.length])++[arrE encBad 2 (ssort cBad bad)]):=⟨_,rfl⟩
   have z5:Z[5]?=some (.box F.tm [.osl true 4 (bs.map encBd) (H.length+2),.osl true 4 (ms.map encMn) (H.length+3),.msl (H.length+8) 0 bad.length]):=by subst hZ; rfl
   have z1:Z[1]?=some (.box F.tm [.d (.sl true 4 []),.d (.sl true 4 []),.d (.sl true 2 [])]):=by subst hZ; rfl
   have z1':(Z.set 1 (.box F.tm [.osl true 4 (bs.map encBd) (H.length+2),.osl true 4 (ms.map encMn) (H.length+3),.msl (H.length+8) 0 bad.length]))[1]?=some (.box F.tm [.osl true 4 (bs.map encBd) (H.length+2),.osl true 4 (ms.map encMn) (H.length+3),.msl (H.length+8) 0 bad.length]):=by subst hZ; rfl
   have lZ:Z.length=9:=by subst hZ; rfl
   have hcut:∃ X:Hp,X[8]?=some (.arr 2 (((ssort cBad bad).map encBad).map (List.map .d)))∧Hp.cut (H.length+9) (H++Z.set 1 (.box F.tm [.osl true 4 (bs.map encBd) (H.length+2),.osl true 4 (ms.map encMn) (H.length+3),.msl (H.length+8) 0 bad.length]))=H++X:=by
    refine ⟨_,?_,cut_appk hcl _ _⟩
    subst hZ
    have:(Ob.clr (H.length+9) (arrE encBad 2 (ssort cBad bad))) = .arr 2 (((ssort cBad bad).map encBad).map (List.map .d)):=by rw [← arrE_map]; exact arrE_clr ..
    rw [← this]; rfl
   rw [List.append_assoc,← hZ]
   simp [f3,f2,z5,z1,-getElem?_pos]
   simp [RetK,resA,f2,z1',lZ,hbz,-getElem?_pos]
   rw [hbz] at hcut
   simpa using hcut
end
end
section
open Go.RowKit (Below)
open Go.Proofs Go.Sort
end
section
section
variable {P:Program} {tn tm bd mn ed tint:Nat}
theorem Has.scCmp {f cmpI:FuncId} (hf:Has P f (irScCmp cmpI ed)) (hc:∀ (a b:Int) (H:Hp),ACall P cmpI [.d (.int .i64 a),.d (.int .i64 b)] H (fun r H'=>r = .d (.int .i64 (cmpInt a b))∧H'=H)) (x y:Int × Int) (H:Hp) :
 ACall P f [.agg (rowE encBad x),.agg (rowE encBad y)] H (fun r H'=>r = .d (.int .i64 (cBad x y))∧H'=H):=by
 obtain ⟨fn,hff,hcf⟩:=hf
 refine acall_fin hff hcf (by simp [irScCmp]) fun hcl _ => ?_
 obtain ⟨a1,c1⟩:=x
 obtain ⟨a2,c2⟩:=y
 simp [irScCmp,rowE,encBad]
 refine CallK_of' (hc _ _ _) ?_
 simp [RetK,resA,cut_app hcl,cBad]
end
end
end Go.Zam
namespace Go.Proofs.Zi
section
open Go Go.Zam Go.Proofs
theorem rcf117:compF Tryz.prog [2000021] Tryz.f117=some (irScWrong 128):=by kernel_rfl
theorem rcf94:compF Tryz.prog [] Tryz.f94=some (irScBind 117 35 53):=by kernel_rfl
theorem rcf154:compF Tryz.prog [] Tryz.f154=some (irScRes):=by kernel_rfl
theorem rcf120:compF Tryz.prog [6000028] Tryz.f120=some (irScNode 118 156 94 157 95 155 171 35):=by kernel_rfl
theorem rcf155:compF Tryz.prog [] Tryz.f155=some (irScNodeC 156):=by kernel_rfl
theorem rcf156:compF Tryz.prog [] Tryz.f156=some (irScKids 120 35):=by kernel_rfl
theorem rcf157:compF Tryz.prog [] Tryz.f157=some (irScMention 200 117 35 190):=by kernel_rfl
theorem rcf200:compF Tryz.prog [] Tryz.f200=some (irScFind):=by kernel_rfl
theorem rcf95:compF Tryz.prog [] Tryz.f95=some (irScClosed 118 119 171 33):=by kernel_rfl
theorem rcf119:compF Tryz.prog [6000022,6000028] Tryz.f119=some (irScClosedC 94 120 35):=by kernel_rfl
theorem rcf96:compF Tryz.prog [] Tryz.f96=some (irSortStable 121):=by kernel_rfl
theorem rcf121:compF Tryz.prog [] Tryz.f121=some (irStable 158 159):=by kernel_rfl
theorem rcf158:compF Tryz.prog [] Tryz.f158=some (irInsertion 2):=by kernel_rfl
theorem rcf201:compF Tryz.prog [] Tryz.f201=some (irRotate 226):=by kernel_rfl
theorem rcf226:compF Tryz.prog [] Tryz.f226=some (irSwapRange 2):=by kernel_rfl
theorem rcf61:compF Tryz.prog [] Tryz.f61=some (irCompare 90):=by kernel_rfl
theorem rcf90:compF Tryz.prog [] Tryz.f90=some (irIsNaN):=by kernel_rfl
theorem rcf97:compF Tryz.prog [] Tryz.f97=some (irScCmp 61 128):=by kernel_rfl
theorem rcf159:compF Tryz.prog [] Tryz.f159=some (irSymMerge 2 201 159):=by kernel_rfl
theorem rcf65:compF Tryz.prog [5000003,8200003,6000034,6000043] Tryz.f65=some (irScOf 94 95 96 97 35 47 176 53 190 128):=by kernel_rfl
def Sf:SF := { wrong:=117,bind:=94,within:=118,res:=154,node:=120,nodeC:=155,kids:=156,mention:=157,find:=200,closed:=95,closedC:=119,cmp:=97,srt:=96,cmpI:=61,tn:=35,tp:=171,ts:=33,tfp:=174,tf:=211,tb:=176,tm:=47,bd:=53,mn:=190,ed:=128 }
theorem sHas:SHas Tryz.prog Sf where
 wrong:=⟨_,Tryz.func117,rcf117⟩
 bind:=⟨_,Tryz.func94,rcf94⟩
 res:=⟨_,Tryz.func154,rcf154⟩
 kRes:=by kernel_rfl
 node:=⟨_,Tryz.func120,rcf120⟩
 nodeC:=⟨_,Tryz.func155,rcf155⟩
 kNodeC:=by kernel_rfl
 kids:=⟨_,Tryz.func156,rcf156⟩
 mention:=⟨_,Tryz.func157,rcf157⟩
 find:=⟨_,Tryz.func200,rcf200⟩
 closed:=⟨_,Tryz.func95,rcf95⟩
 closedC:=⟨_,Tryz.func119,rcf119⟩
 kClosedC:=by kernel_rfl
theorem sHasW:HasW Tryz.prog Sf:=⟨_,Tryz.func118,by kernel_rfl⟩
theorem encBad_len:∀ x,(encBad x).length=2:=fun _=>rfl
theorem cmpB:CmpA Tryz.prog encBad cBad (.d (.fn 97)):=fun H x y Q t hq=>by
 simp only [ValD_d]
 exact ⟨by kernel_rfl,CallD_of (Has.scCmp (ed:=128) (cmpI:=61) ⟨_,Tryz.func97,rcf97⟩ (fun a b H=>compareInt_acall Tryz.func61 rcf61 Tryz.func90 rcf90 a b) x y H) hq⟩
theorem srtOk (H:Hp) (i:Nat) (L:List (Int × Int)) (hi:H[i]?=some (arrE encBad 2 L)) (hl:L.length≤1099511627776):ACall Tryz.prog 96 [.msl i 0 L.length,.d (.fn 97)] H (fun r H'=>r = .tup []∧H'=H.set i (arrE encBad 2 (ssort cBad L))) :=
 sortStable_acall encBad_len cBad_cmp Tryz.func96 rcf96 Tryz.func121 rcf121 Tryz.func158 rcf158 Tryz.func159 rcf159 Tryz.func201 rcf201 Tryz.func226 rcf226 cmpB (fun m _=>by simp) hi hl
theorem srt0Ok (H:Hp):ACall Tryz.prog 96 [.d (.sl true 2 []),.d (.fn 97)] H (fun r H'=>r = .tup []∧H'=H) :=
 sortStable0_acall (sz:=2) Tryz.func96 rcf96 Tryz.func121 rcf121 Tryz.func158 rcf158 (fun m _=>by simp)
theorem scopeOk (n:N) (hn:n.size≤68719476736) (H:Hp):ACall Tryz.prog 65 [n.v] H (fun r H'=>r = .agg ((scopeM n).enc.map .d)∧H'=H) :=
 sHas.of' sHasW ⟨_,Tryz.func65,rcf65⟩ srtOk srt0Ok n hn H
end
section
open Go Go.Zam Go.Proofs
theorem sortUH:SortU Tryz.prog 68 69 102 129 130 167 206 70 51 87 49 where
 clone:=⟨_,Tryz.func68,by kernel_rfl⟩
 srt:=⟨_,Tryz.func69,by kernel_rfl⟩
 stb:=⟨_,Tryz.func102,by kernel_rfl⟩
 ins:=⟨_,Tryz.func129,by kernel_rfl⟩
 sym:=⟨_,Tryz.func130,by kernel_rfl⟩
 rot:=⟨_,Tryz.func167,by kernel_rfl⟩
 swp:=⟨_,Tryz.func206,by kernel_rfl⟩
 cmpU:=⟨_,Tryz.func70,by kernel_rfl⟩
 kCmpU:=by kernel_rfl
 cmpS:=⟨_,Tryz.func51,by kernel_rfl⟩
 nan:=⟨_,Tryz.func87,by kernel_rfl⟩
theorem sortDH:SortD Tryz.prog 57 58 89 110 111 136 188 59 51 87 61 90 62 91 60 69 where
 clone:=⟨_,Tryz.func57,by kernel_rfl⟩
 srt:=⟨_,Tryz.func58,by kernel_rfl⟩
 stb:=⟨_,Tryz.func89,by kernel_rfl⟩
 ins:=⟨_,Tryz.func110,by kernel_rfl⟩
 sym:=⟨_,Tryz.func111,by kernel_rfl⟩
 rot:=⟨_,Tryz.func136,by kernel_rfl⟩
 swp:=⟨_,Tryz.func188,by kernel_rfl⟩
 cmpD:=⟨_,Tryz.func59,by kernel_rfl⟩
 kCmpD:=by kernel_rfl
 cmpS:=⟨_,Tryz.func51,by kernel_rfl⟩
 nanS:=⟨_,Tryz.func87,by kernel_rfl⟩
 cmpI:=⟨_,Tryz.func61,by kernel_rfl⟩
 nanI:=⟨_,Tryz.func90,by kernel_rfl⟩
 cmpE:=⟨_,Tryz.func62,by kernel_rfl⟩
 nanE:=⟨_,Tryz.func91,by kernel_rfl⟩
 or_:=⟨_,Tryz.func60,by kernel_rfl⟩
theorem pcfU:compF Tryz.prog [] Tryz.f17=some (irPjUnit 49 50 49):=by kernel_rfl
theorem hUnit:Has Tryz.prog 17 (irPjUnit 49 50 49):=⟨_,Tryz.func17,pcfU⟩
theorem hCmpUS:Has Tryz.prog 50 (irPjCmpUS 51 49):=⟨_,Tryz.func50,by kernel_rfl⟩
theorem unitsOk:UnitsOk Tryz.prog 17:=fun S hS s H =>
 Has.pjUnit hUnit ⟨_,Tryz.func49,by kernel_rfl⟩ hCmpUS (by kernel_rfl) sortUH.cmpS sortUH.nan S s (by have:=hS.len; omega) (fun i j u v=>sorted_lt hS.so i j u v s) H
theorem unit0Ok:Unit0Ok Tryz.prog 17:=fun s H=>Has.pjUnit0 hUnit s H
theorem spotOk:SpotOk Tryz.prog 54:=fun u a hl H=>Has.pjSpot (tU:=49) (tSp:=67) ⟨_,Tryz.func54,by kernel_rfl⟩ u a hl H
theorem bs40 {S:List Un} (hS:PrjOk S):∀ v ∈ S,v.sm.bs.length≤1099511627776:=fun v hv=>by have:=(hS.sm v hv).2.1; omega
theorem impsAll:ImpsAll Tryz.prog 19:=fun S hS u hu b hb H =>
 Has.pjImp (unit:=17) (item:=53) (tU:=49) (tBd:=53) (tIm:=58) ⟨_,Tryz.func19,by kernel_rfl⟩ (unitsOk S hS) itemOk (bs40 hS) u (hS.gd u hu) b hb (by have:=(hS.sm u hu).2.2.2; omega) H
theorem impsOk {S:List Un} (hS:PrjOk S):ImpsOk Tryz.prog S 55:=fun u hu H =>
 HasT.pjImps (imp:=19) (unit:=17) (spot:=54) (tU:=49) (tBd:=53) (tN:=35) (tIm:=58) (tD:=69) ⟨_,Tryz.func55,by kernel_rfl⟩ u (unitsOk S hS) (impsAll S hS u hu) spotOk (hS.gd u hu) (by have:=(hS.sm u hu).2.1; omega) (by have:=(hS.sm u hu).2.2.1; omega) H
theorem entryOk {S:List Un} (hS:PrjOk S):EntryOk Tryz.prog S 56:=fun H =>
 Has.pjEntry (unit:=17) (item:=53) (tU:=49) (tN:=35) ⟨_,Tryz.func56,by kernel_rfl⟩ (unitsOk S hS) itemOk hS.gd (bs40 hS) H
theorem sortDOk':SortDOk Tryz.prog 23:=fun H z l hl=>sortDOk ⟨_,Tryz.func23,by kernel_rfl⟩ sortDH H z l hl
theorem pcfD:compF Tryz.prog [3] Tryz.f21=some (irPjDiags 54 55 56 23 49 128 69):=by kernel_rfl
theorem diagsOk:DiagsOk Tryz.prog 21:=fun S hS H =>
 HasT.pjDiags ⟨_,Tryz.func21,pcfD⟩ spotOk (impsOk hS) (entryOk hS) sortDOk' hS.len hS.sm H
theorem diags0Ok:Diags0Ok Tryz.prog 21:=fun H=>by
 refine acall_fin Tryz.func21 pcfD (by simp [irPjDiags]) fun hcl _ => ?_
 simp [irPjDiags]
 simp [RetK,cut_self hcl,cut_app hcl]
theorem pcfN:compF Tryz.prog [3] Tryz.f29=some (irPjNames 49 9):=by kernel_rfl
theorem pcfM:compF Tryz.prog [3] Tryz.f30=some (irPjMods 49 77):=by kernel_rfl
theorem namesOk:NamesOk Tryz.prog 29:=fun S hl H=>Has.pjNames ⟨_,Tryz.func29,pcfN⟩ S hl H
theorem names0Ok:Names0Ok Tryz.prog 29:=fun H=>by
 refine acall_fin Tryz.func29 pcfN (by simp [irPjNames]) fun hcl _ => ?_
 simp [irPjNames]
 simp [RetK,cut_self hcl,cut_app hcl]
theorem mods0Ok:Mods0Ok Tryz.prog 30:=fun H=>by
 refine acall_fin Tryz.func30 pcfM (by simp [irPjMods]) fun hcl _ => ?_
 simp [irPjMods]
 simp [RetK,cut_self hcl,cut_app hcl]
theorem readOk {H0:Hp} (hG:TabsG 0 1 2 3 H0):ReadOk Tryz.prog H0 25:=fun m hm H hH =>
 Has.pjRead (pof:=64) (sof:=65) (tM:=77) (tU:=49) ⟨_,Tryz.func25,by kernel_rfl⟩ (fun s hs H hH=>ofOk hG s hs H hH) scopeOk m hm H hH
theorem ofProjOk:OfOk Tryz.prog 28:=fun l z hl hz H=>Has.pjOf (tP:=122) sortUH ⟨_,Tryz.func28,by kernel_rfl⟩ isNameOk l hl z hz
theorem loadOk {H0:Hp} (hG:TabsG 0 1 2 3 H0):LoadOk Tryz.prog H0 15:=fun l z ht H hH=>HasT.pjLoad (tM:=77) (tU:=49) ⟨_,Tryz.func15,by kernel_rfl⟩ (readOk hG) ofProjOk l z ht H hH
theorem rsortOk:RsortOk Tryz.prog 24:=fun H z l hl=>HasT.pjRsort (ahead:=63) (tE:=71) ⟨_,Tryz.func24,by kernel_rfl⟩ ⟨_,Tryz.func63,by kernel_rfl⟩ z l hl H
theorem sameDOk:SameDOk Tryz.prog 20:=Has.pjSame (tD:=69) ⟨_,Tryz.func20,by kernel_rfl⟩
theorem lightOk':LightOk Tryz.prog 13:=fun l z most hm hl hs H=>lightOk (tM:=77) ⟨_,Tryz.func13,by kernel_rfl⟩ H z l most hm hl hs
theorem awkOk {H0:Hp} (hG:TabsG 0 1 2 3 H0):AwkOk Tryz.prog H0 14:=Has.pjAwake (load:=15) (unit:=17) (diags:=21) (tU:=49) ⟨_,Tryz.func14,by kernel_rfl⟩ (loadOk hG) unitsOk diagsOk
end
section
open Go Go.Zam Go.Proofs
variable {H0:Hp}
theorem lSortsOk (hG:TabsG 0 1 2 3 H0) (l:List Dg) (z:Bool) (hl:l.length≤1073741824) (H:Hp) (hH:Pre0 H0 H) :
 ACall Tryz.prog 4 [.d (.sl z 3 (l.map encDg))] H (fun r H'=>r = .d (.bool true)∧H'=H) :=
 HasT.pjLSorts (awake:=14) (sort:=23) (rsort:=24) (same:=20) (tD:=69) (tE:=71) ⟨_,Tryz.func4,by kernel_rfl⟩ (awkOk hG) sortDOk' rsortOk sameDOk l z hl H hH
theorem lGrowsOk (hG:TabsG 0 1 2 3 H0) (l:List Mod) (z:Bool) (name:Bs) (hl:l.length≤1048576) (hm:∀ m ∈ l,m.n.length≤1048576∧m.t.length≤1048576) (H:Hp) (hH:Pre0 H0 H) :
 ACall Tryz.prog 6 [.d (.sl z 2 (l.map encM)),.d (.str name)] H (fun r H'=>r = .d (.bool true)∧H'=H) :=
 HasT.pjLGrows (light_:=13) (awake:=14) (load:=15) (names:=29) (unit:=17) (diags:=21) (tU:=49) (tTk:=85) (tM:=77) ⟨_,Tryz.func6,by kernel_rfl⟩ lightOk' (awkOk hG) (loadOk hG) namesOk unitsOk diagsOk l z name hl hm H hH
theorem lTurnsOk (hG:TabsG 0 1 2 3 H0) (l:List Mod) (z:Bool) (by_:Nat) (hby:by_ < 256) (hl:l.length≤1048576) (hm:∀ m ∈ l,m.n.length≤1048576∧m.t.length≤1048576) (H:Hp) (hH:Pre0 H0 H) :
 ACall Tryz.prog 8 [.d (.sl z 2 (l.map encM)),.d (.int .u8 by_)] H (fun r H'=>r = .d (.bool true)∧H'=H) :=
 HasT.pjLTurns (light_:=13) (awake:=14) (load:=15) (diags:=21) (unit:=17) (names:=29) (mods:=30) (tU:=49) (tM:=77) ⟨_,Tryz.func8,by kernel_rfl⟩ lightOk' (awkOk hG) (loadOk hG) diagsOk unit0Ok names0Ok mods0Ok diags0Ok l z by_ hby hl hm H hH
end
end Go.Proofs.Zi
namespace Go.Zam
theorem arg_u8_of {P:Program} {t:TypeId} (hu:P.underlying t=some (.int .u8)) {n:Nat} {ds:List D} {a:A} (h:Typed P n t ds) (ha:ArgOf P t ds a):∃ k:Nat,a = .d (.int .u8 (k:Int))∧k < 256:=by
 cases n with
 | zero=>exact h.elim
 | succ n =>
   simp only [Typed,hu] at h
   obtain ⟨x,rfl,hw⟩:=h
   simp only [Lit.wf,IntKind.min,IntKind.max,IntKind.bits,IntKind.signed] at hw
   simp at hw
   refine ⟨x.toNat,?_,by omega⟩
   have e:((x.toNat:Nat):Int)=x:=by omega
   rw [e]
   exact argOf_one (by rw [hu]; simp) ha
end Go.Zam
namespace Go.Proofs.Zi
open Go Go.Zam Go.Proofs
theorem ty77 (n:Nat) (ds:List D) (h:Typed Tryz.prog n 77 ds):∃ m:Mod,ds=encM m:=by
 obtain ⟨m,h⟩:=typed_struct Tryz.underlying77 h
 obtain ⟨a,r,rfl,ha,b,r,rfl,hb,rfl⟩:=h
 obtain ⟨s,rfl⟩:=typed_str Tryz.underlying9 ha
 obtain ⟨t,rfl⟩:=typed_str Tryz.underlying9 hb
 exact ⟨⟨s,t⟩,rfl⟩
theorem ty67 (n:Nat) (ds:List D) (h:Typed Tryz.prog n 67 ds):∃ (s:Bs) (a:Int),ds=[.str s,.int .i64 a]:=by
 obtain ⟨m,h⟩:=typed_struct Tryz.underlying67 h
 obtain ⟨a,r,rfl,ha,b,r,rfl,hb,rfl⟩:=h
 obtain ⟨s,rfl⟩:=typed_str Tryz.underlying9 ha
 obtain ⟨t,rfl⟩:=typed_int Tryz.underlying3 hb
 exact ⟨s,t,rfl⟩
theorem ty69 (n:Nat) (ds:List D) (h:Typed Tryz.prog n 69 ds):∃ d:Dg,ds=encDg d:=by
 obtain ⟨m,h⟩:=typed_struct Tryz.underlying69 h
 obtain ⟨a,r,rfl,ha,b,r,rfl,hb,rfl⟩:=h
 obtain ⟨s,t,rfl⟩:=ty67 _ _ ha
 obtain ⟨c,rfl⟩:=typed_int Tryz.underlying26 hb
 exact ⟨⟨s,t,c⟩,rfl⟩
theorem arg_mods {n:Nat} {ds:List D} {a:A} (h:Typed Tryz.prog n 22 ds) (ha:ArgOf Tryz.prog 22 ds a):∃ z,∃ l:List Mod,a = .d (.sl z 2 (l.map encM))∧(l.length≤D.bulkC ds∧∀ m ∈ l,m.n.length≤D.bulkC ds∧m.t.length≤D.bulkC ds):=by
 obtain ⟨z,l,rfl⟩:=typed_sl (sz:=2) Tryz.underlying22 (by kernel_rfl) ty77 h
 refine ⟨z,l,argOf_one (by rw [Tryz.underlying22]; simp) ha,?_⟩
 have h1:=bulkR_len (enc:=encM) (fun m=>by simp only [encM,D.bulkC,D.bulk]; omega) l
 simp only [D.bulkC,D.bulk]
 refine ⟨by omega,fun m hm => ?_⟩
 have h2:=bulkR_mem (List.mem_map_of_mem (f:=encM) hm)
 simp only [encM,D.bulkC,D.bulk] at h2
 omega
theorem arg_dgs {n:Nat} {ds:List D} {a:A} (h:Typed Tryz.prog n 61 ds) (ha:ArgOf Tryz.prog 61 ds a):∃ z,∃ l:List Dg,a = .d (.sl z 3 (l.map encDg))∧l.length≤D.bulkC ds:=by
 obtain ⟨z,l,rfl⟩:=typed_sl (sz:=3) Tryz.underlying61 (by kernel_rfl) ty69 h
 refine ⟨z,l,argOf_one (by rw [Tryz.underlying61]; simp) ha,?_⟩
 have h1:=bulkR_len (enc:=encDg) (fun m=>by simp only [encDg,D.bulkC,D.bulk]; omega) l
 simp only [D.bulkC,D.bulk]
 omega
theorem arg_u8:∀ {n:Nat} {ds:List D} {a:A} (h:Typed Tryz.prog n 5 ds) (ha:ArgOf Tryz.prog 5 ds a),∃ k:Nat,a = .d (.int .u8 (k:Int))∧k < 256 := @arg_u8_of Tryz.prog 5 Tryz.underlying5
end Go.Proofs.Zi
