/-
  Texts of one proof, one behind the other.
-/
import Derived.Test.YtnlfihdegglkfaaGreatDoorM4
import Derived.Test.YtnlfihdegglkfaaGreatDoorM3
import Derived.Lib.LaidU8
import Derived.Shelf.Strings.Builder1
import Derived.Shelf.Small.Strs
import Derived.Shelf.Strings.BuilderF
import Derived.Shelf.Strings.BuilderK
import Derived.Shelf.Strconv.Itoa0
import Derived.Shelf.Strconv.Itoa1
import Derived.Shelf.LaysM
import Derived.Shelf.Strconv.Itoa2
import Derived.Shelf.Strconv.Itoa3
import Derived.Shelf.Strconv.Clone
import Derived.Shelf.Strconv.SyntaxError
import Derived.Shelf.Strconv.Lower
import Derived.Shelf.Strconv.ParseUint10
import Derived.Shelf.Strconv.ParseUint10Empty
import Derived.Shelf.Strconv.RangeError
import Derived.Shelf.Strconv.ParseUintEmpty
import Derived.Shelf.Strconv.ParseUint10b64
import Derived.Shelf.Strconv.ParseUint10b32
import Derived.Shelf.Strconv.ParseUint10b16
import Derived.Shelf.Strconv.ParseUint10b8
import Derived.Ground.MpProg
import Derived.Shelf.Pu.ParseUintPublic10
import Derived.Shelf.Pu.ErrVarParseUint
import Derived.Shelf.Strings.Search1
import Derived.Shelf.Strings.Prefix
import Derived.Shelf.Unicode.Decode
import Derived.Shelf.Unicode.DecodeSlow
import Derived.Shelf.Unicode.DecodeAny
import Derived.Shelf.Slices.Turned
import Derived.Test.YtnlfihdegglkfaaGreatDoorProg
import Derived.Test.YtnlfihdegglkfaaGreatDoorRows
import Derived.Test.YtnlfihdegglkfaaGreatDoorCards
import Derived.Test.YtnlfihdegglkfaaGreatDoorTie
import Derived.ProofKit
import Derived.OpenShut
import Derived.Deep.DeepHandedRow
import Derived.Lib.LaidTab
import Derived.Stop.LaidErr
import Derived.SevenTiedAt
import Derived.BigCall
import Derived.BigGuard
import Derived.Laws.Closers25
import Derived.Laws.Closers25b
import Derived.Laws.Strings3
import Derived.Lib.AtoiErrMem
import Derived.Lib.ConvBytes
import Derived.Lib.Hide
import Derived.Lib.ParseIntBMem
import Derived.Lib.Strings
import Derived.Lib.Walk
import Derived.Shelf.Pu.Lays
import Derived.Shelf.Pu.Lower
import Derived.Shelf.Pu.ParseUint10
import Derived.Shelf.Pu.ParseUint10At
import Derived.Shelf.Pu.ParseUint10b16
import Derived.Shelf.Pu.ParseUint10b32
import Derived.Shelf.Pu.ParseUint10b64
import Derived.Shelf.Pu.ParseUint10b8
import Derived.Shelf.Pu.ParseUintEmpty
import Derived.Shelf.Pu.ToError
import Derived.Shelf.Pu.ToErrorRange
import Derived.WalkKit
import Derived.KernelRfl
set_option linter.all false
set_option maxRecDepth 100000
set_option maxHeartbeats 4000000
namespace Go.Zam
section
def abx (tn : TypeId) (a : N) : Ob := .box tn (a.enc.map .d)
theorem abx_clr (tn : TypeId) (a : N) (n : Nat) : (abx tn a).clr n = abx tn a := by
 obtain ⟨k,f,t,w,q,za,ks⟩ := a
 rw [abx,N.enc_mk]; rfl
section
variable {P : Program} {F : PF} {z : Bool} {L : List Tk}
theorem PHas.with0 (hF : PHas P F) {m : Nat} {g : G} {fo : FuncId} (hk : callOk P fo = true) (hU : UC P F.tp z L m g fo) (kk : Int) (a : N) {H : Hp} {i : Nat} {s : PSt} (hi : i < H.length) (hp : PPre L m g s) :
 ACall P F.with_ [.ptr i 0,.d (.int .i64 kk),a.v,.fn (.func fo) [.ptr i 0] []] (H.set i (pst F.tp z L s)) (fun r H' => ∃ b s',r = N.v (N.new kk a.f s'.1 [] 0 [a,b]) ∧ H' = H.set i (pst F.tp z L s') ∧ Rel L m g s b s') := by
 obtain ⟨fn,hf,hcf⟩ := hF.with_
 refine acall_fin hf hcf (by simp [irPWith]) fun hcl _ => ?_
 obtain ⟨Q,hQ⟩ : ∃ Q : A → Hp → Prop,Q = fun r H' => ∃ b s',r = N.v (N.new kk a.f s'.1 [] 0 [a,b]) ∧ H' = H.set i (pst F.tp z L s') ∧ Rel L m g s b s' := ⟨_,rfl⟩
 rw [← hQ]
 obtain ⟨k,f,t,w,a,za,ks⟩ := a
 rw [N.v_mk]
 simp [irPWith]
 refine ⟨hk,?_⟩
 refine CallK_of (hU H _ i s hi hp) ?_
 rintro _ _ ⟨b,s',rfl,rfl,r⟩
 have hi' := pget (tp := F.tp) (z := z) (L := L) (H := H) hi s'
 obtain ⟨k',f',t',w',a',z',ks'⟩ := b
 rw [N.v_mk]
 simp [hi']
 simp [RetK,cutP hcl]
 subst hQ
 exact ⟨.mk k' f' t' w' a' z' ks',s',by rw [N.v_new]; simp [N.enc_mk,N.f],rfl,r⟩
theorem PHas.with' (hF : PHas P F) {m : Nat} {g : G} {fo : FuncId} (hk : callOk P fo = true) (hU : UC P F.tp z L m g fo) (kk : Int) (a : N) {H X : Hp} {i : Nat} {s : PSt} (hi : i < H.length) (hp : PPre L m g s) :
 ACall P F.with_ [.ptr i 0,.d (.int .i64 kk),a.v,.fn (.func fo) [.ptr i 0] []] (H.set i (pst F.tp z L s) ++ X) (fun r H' => ∃ b s',r = N.v (N.new kk a.f s'.1 [] 0 [a,b]) ∧ H' = H.set i (pst F.tp z L s') ++ X ∧ Rel L m g s b s') := by
 have := hF.with0 hk hU kk a (H := H ++ X) (i := i) (s := s) (by simp; omega) hp
 rw [List.set_append_left _ _ hi] at this
 refine this.mono ?_
 rintro r H' ⟨b,s',rfl,rfl,hr⟩
 exact ⟨b,s',rfl,by rw [List.set_append_left _ _ hi],hr⟩
theorem PHas.expr' (hF : PHas P F) (hL : L.length ≤ 1048576) (n : Nat) (hn : n ≤ 1099511627776) (hS : UC P F.tp z L n .sum F.sum) : UC P F.tp z L (n + 1) .expr F.expr := by
 refine UC_of fun H i s hi hp => ?_
 obtain ⟨fn,hf,hcf⟩ := hF.expr
 refine acall_fin hf hcf (by simp [irPExpr]) fun hcl _ => ?_
 have hp1 := hp.1
 simp only [G.c] at hp1
 simp [irPExpr]
 refine CallK_of (hS H _ i s hi ((Mo.refl s).pre hp (by decide) (by simp only [G.c]; omega))) ?_
 rintro _ _ ⟨a,s1,rfl,rfl,r1⟩
 have b1 := r1.le
 have m1 := r1.mo
 have ha : ∃ k f t w q za ks,a = .mk k f t w q za ks := by cases a; exact ⟨_,_,_,_,_,_,_,rfl⟩
 have hav : a.v = a.v := rfl
 obtain ⟨k,f,t,w,q,za,ks,hae⟩ := ha
 have hve : a.v = .agg [.d (.int .i64 k),.d (.int .i64 f),.d (.int .i64 t),.d (.str w),.d (.int .i64 q),.d (.sl za 6 (ks.map N.enc))] := by rw [hae,N.v_mk]
 rw [hve]
 simp
 refine CallK_of' (hF.tookA hi _ (by omega)) ?_
 cases h2 : tookB L [60] s1 with
 | true =>
   obtain ⟨p,rfl,c2⟩ := tookB_t h2
   have l2 := isT_lt c2
   obtain ⟨p0,rfl⟩ : ∃ p0,s = (p0,none) := ⟨s.1,by rw [← (m1 rfl).1]⟩
   obtain ⟨hp2,hp3⟩ := hp.2.2 rfl
   simp only [G.c] at hp2 hp3
   rcases r1.none' with ⟨q',b,hq,e,e3⟩ | ⟨j,hj,e⟩
   · simp at e
   obtain ⟨rfl,-⟩ : p = j ∧ True := by simpa using e
   have mm := (m1 rfl).2.1
   simp only at mm
   simp [c2]
   rw [← hve]
   refine CallK_of (hF.with' hF.kSum hS 14 a hi ⟨by simp only [G.c]; omega,by simp only [G.c]; omega,fun _ => ⟨l2,by simp only [G.c]; omega⟩⟩) ?_
   rintro _ _ ⟨b,s2,rfl,rfl,r2⟩
   rw [N.v_new]
   simp
   simp [RetK,cutP hcl]
   refine ⟨N.new 14 a.f s2.1 [] 0 [a,b],s2,by rw [N.v_new]; simp,by simp,?_⟩
   rcases r2.none' with ⟨q',b',hq,rfl,e3⟩ | ⟨j',hj',rfl⟩
   · simp [Rel,pp,hj,PR.then,c2,hq]; omega
   · simp [Rel,pp,hj,PR.then,c2,hj']
 | false =>
 rw [tookS_f h2]
 simp
 refine CallK_of' (hF.tookA hi _ (by omega)) ?_
 cases h3 : tookB L [61,61] s1 with
 | true =>
   obtain ⟨p,rfl,c3⟩ := tookB_t h3
   simp at h2
   have l3 := isT_lt c3
   obtain ⟨p0,rfl⟩ : ∃ p0,s = (p0,none) := ⟨s.1,by rw [← (m1 rfl).1]⟩
   obtain ⟨hp2,hp3⟩ := hp.2.2 rfl
   simp only [G.c] at hp2 hp3
   rcases r1.none' with ⟨q',b,hq,e,e3⟩ | ⟨j,hj,e⟩
   · simp at e
   obtain ⟨rfl,-⟩ : p = j ∧ True := by simpa using e
   have mm := (m1 rfl).2.1
   simp only at mm
   simp [c3]
   rw [← hve]
   refine CallK_of (hF.with' hF.kSum hS 15 a hi ⟨by simp only [G.c]; omega,by simp only [G.c]; omega,fun _ => ⟨l3,by simp only [G.c]; omega⟩⟩) ?_
   rintro _ _ ⟨b,s2,rfl,rfl,r2⟩
   rw [N.v_new]
   simp
   simp [RetK,cutP hcl]
   refine ⟨N.new 15 a.f s2.1 [] 0 [a,b],s2,by rw [N.v_new]; simp,by simp,?_⟩
   rcases r2.none' with ⟨q',b',hq,rfl,e3⟩ | ⟨j',hj',rfl⟩
   · simp [Rel,pp,hj,PR.then,h2,c3,hq]; omega
   · simp [Rel,pp,hj,PR.then,h2,c3,hj']
 | false =>
 rw [tookS_f h3]
 simp
 simp [RetK,cutP hcl]
 refine ⟨a,s1,hve.symm,by simp,?_⟩
 obtain ⟨p,st⟩ := s
 cases st with
 | some q =>
   obtain ⟨b,rfl,e⟩ := r1.some'
   simp only [G.wt] at e
   simp [Rel,G.wt]; omega
 | none =>
   rcases r1.none' with ⟨q',b,hq,rfl,e3⟩ | ⟨j,hj,rfl⟩
   · simp [Rel,pp,hq,PR.then]; omega
   · simp at h2 h3
     simp [Rel,pp,hj,PR.then,h2,h3]
theorem PHas.term' (hF : PHas P F) (hL : L.length ≤ 1048576) (n : Nat) (hn : n ≤ 1099511627776) (hT : ∀ m,m < n + 1 → UC P F.tp z L m .post F.post) : UC P F.tp z L (n + 1) .term F.term := by
 refine UC_of fun H i s hi hp => ?_
 obtain ⟨fn,hf,hcf⟩ := hF.term
 refine acall_fin hf hcf (by simp [irPTerm]) fun hcl _ => ?_
 have hp1 := hp.1
 simp only [G.c] at hp1
 simp [irPTerm]
 refine CallK_of (hT n (by omega) H _ i s hi ((Mo.refl s).pre hp (by decide) (by simp only [G.c]; omega))) ?_
 rintro _ _ ⟨a0,s1,rfl,rfl,r1⟩
 have b1 := r1.le
 have ho : ∀ a : N,∃ (k f t : Int) (w : Bs) (q : Int) (za : Bool) (ks : List N),a.v = .agg [.d (.int .i64 k),.d (.int .i64 f),.d (.int .i64 t),.d (.str w),.d (.int .i64 q),.d (.sl za 6 (ks.map N.enc))] ∧ abx F.tn a = .box F.tn [.d (.int .i64 k),.d (.int .i64 f),.d (.int .i64 t),.d (.str w),.d (.int .i64 q),.d (.sl za 6 (ks.map N.enc))] := fun a => by
  obtain ⟨k,f,t,w,q,za,ks⟩ := a
  exact ⟨k,f,t,w,q,za,ks,by rw [N.v_mk],by rw [abx,N.enc_mk]; rfl⟩
 obtain ⟨XX,hXX⟩ : ∃ XX : N → Hp,XX = fun a => [Ob.box F.tn [.d (.int .i64 0),.d (.int .i64 0),.d (.int .i64 0),.d (.str []),.d (.int .i64 0),.d (.sl true 6 [])],abx F.tn a] := ⟨_,rfl⟩
 have hst : ∀ (a0 : N) (o : Ob) (s1 : PSt),(H.set i (pst F.tp z L s1) ++ [Ob.box F.tn [.d (.int .i64 0),.d (.int .i64 0),.d (.int .i64 0),.d (.str []),.d (.int .i64 0),.d (.sl true 6 [])],o]).set (H.length + 1) (abx F.tn a0) = H.set i (pst F.tp z L s1) ++ XX a0 := fun a0 o s1 => by rw [hXX]; simp
 obtain ⟨E,hE⟩ : ∃ E : Fr → Hp → Prop,E = fun fr H' => ∃ a s',(fr 0 = .ptr i 0 ∧ fr 2 = .ptr H.length 0 ∧ fr 3 = .ptr (H.length + 1) 0) ∧ Rel L (n + 1) .term s a s' ∧ H' = H.set i (pst F.tp z L s') ++ XX a := ⟨_,rfl⟩
 have hE1 : ∀ fr a s',(fr 0 = .ptr i 0 ∧ fr 2 = .ptr H.length 0 ∧ fr 3 = .ptr (H.length + 1) 0) → Rel L (n + 1) .term s a s' → E fr (H.set i (pst F.tp z L s') ++ XX a) := fun fr a s' h h' => by subst hE; exact ⟨a,s',h,h',rfl⟩
 obtain ⟨k,f,t,w,q,za,ks,hv,hb⟩ := ho a0
 rw [hv]
 simp
 rw [show H.set i (pst F.tp z L s1) ++ [Ob.box F.tn [.d (.int .i64 0),.d (.int .i64 0),.d (.int .i64 0),.d (.str []),.d (.int .i64 0),.d (.sl true 6 [])],.box F.tn [.d (.int .i64 k),.d (.int .i64 f),.d (.int .i64 t),.d (.str w),.d (.int .i64 q),.d (.sl za 6 (ks.map N.enc))]] = H.set i (pst F.tp z L s1) ++ XX a0 by rw [hXX,← hb]]
 refine LoopK_outR 0 E (fun _ _ => False) ?_ (fun _ _ h => h.elim) ?_
 rotate_left
 · intro fr H' h
   subst hE
   obtain ⟨a,s',⟨f0,f2,f3⟩,hr,rfl⟩ := h
   obtain ⟨k,f,t,w,q,za,ks,hv,hb⟩ := ho a
   subst hXX
   simp [f0,f2,f3,hb]
   simp [RetK,cutP hcl]
   exact ⟨a,s',hv.symm,by simp,hr⟩
 clear hE
 have hcut : ∀ a s' X,Hp.cut (H.length + 2) (H.set i (pst F.tp z L s') ++ (XX a ++ X)) = H.set i (pst F.tp z L s') ++ XX a := fun a s' X => by
  rw [cutPk hcl,hXX]
  change H.set i (pst F.tp z L s') ++ [_,(abx F.tn a).clr _] = _
  rw [abx_clr]; rfl
 have hcut0 : ∀ a s',Hp.cut (H.length + 2) (H.set i (pst F.tp z L s') ++ XX a) = H.set i (pst F.tp z L s') ++ XX a := fun a s' => by simpa using hcut a s' []
 refine LoopM_of (H.length + 2) (fun d fr H' => ∃ a s',(fr 0 = .ptr i 0 ∧ fr 2 = .ptr H.length 0 ∧ fr 3 = .ptr (H.length + 1) 0) ∧ H' = H.set i (pst F.tp z L s') ++ XX a ∧
  ((d = 0 ∧ s'.2 ≠ none ∧ ∀ m,Rel L (n + 1) .term s m s') ∨ ∃ p1,s' = (p1,none) ∧ s.2 = none ∧ d ≤ n ∧ pp L (n + 1) .term s.1 = pp L d (.termL a) p1 ∧ p1 ≤ L.length ∧ 16 * (L.length - p1) + 1 ≤ d)) (match s1.2 with | none => n | some _ => 0) (by rw [hXX]; simp) ⟨a0,s1,?_⟩ ?_
 · have hil2 : i < H.length + 2 := by omega
   refine ⟨by simp [hil2],hcut0 _ _,?_⟩
   obtain ⟨p,st⟩ := s
   cases st with
   | some q =>
     obtain ⟨b,rfl,e⟩ := r1.some'
     simp only [G.wt] at e
     exact .inl ⟨rfl,by simp,fun m => by simp [Rel,G.wt]; omega⟩
   | none =>
     obtain ⟨hp2,hp3⟩ := hp.2.2 rfl
     simp only [G.c] at hp2 hp3
     rcases r1.none' with ⟨q',b,hq,rfl,e3⟩ | ⟨j,hj,rfl⟩
     · exact .inl ⟨rfl,by simp,fun m => by simp [Rel,pp,hq,PR.then]; omega⟩
     · have := pp_adv (L := L) n .post p
       rw [hj] at this
       obtain ⟨v1,v2,v3⟩ := this
       have v2 := v2 rfl
       have v3 := v3 v2
       exact .inr ⟨j,rfl,rfl,by simp,by simp [pp,hj,PR.then],v3,by simp only; omega⟩
 · rintro d fr H' ⟨a,s',⟨f0,f2,f3⟩,rfl,hd⟩
   have hil2 : i < H.length + 2 := by omega
   have hs'b : s'.1 ≤ 1125899906842624 := by
    rcases hd with ⟨rfl,q1,q2⟩ | ⟨p1,rfl,hs2,hdn,hpp,hp1',hrk⟩
    · have := (q2 a).le; omega
    · simp only; omega
   simp [f0]
   refine CallK_of' (hF.tookA hi _ hs'b) ?_
   rcases hd with ⟨rfl,q1,q2⟩ | ⟨p1,rfl,hs2,hdn,hpp,hp1',hrk⟩
   · obtain ⟨p',st'⟩ := s'
     cases st' with
     | none => simp at q1
     | some q =>
       simp
       exact hE1 _ a _ (by simp [f0,f2,f3]) (q2 _)
   · obtain ⟨d',rfl⟩ : ∃ d',d = d' + 1 := ⟨d - 1,by omega⟩
     have hRel : ∀ m s',(match pp L (d' + 1) (.termL a) p1 with | .out => False | .bad q => s'.2 = some q ∧ s'.1 ≤ L.length + (n + 1) | .ok m' k => m = m' ∧ s' = (k,none)) → Rel L (n + 1) .term s m s' := fun m s' h => by
      unfold Rel
      rw [hs2]
      simp only
      rw [hpp]; exact h
     cases hjb : isT L p1 [42] with
     | false =>
       simp [hjb]
       refine hE1 _ a _ (by simp [f0,f2,f3]) (hRel _ _ ?_)
       simp [pp,hjb]
     | true =>
       have l1 := isT_lt hjb
       obtain ⟨k,f,t,w,q,za,ks,hv,hb⟩ := ho a
       have hld : ∀ s'',(H.set i (pst F.tp z L s'') ++ XX a)[H.length + 1]? = some (.box F.tn [.d (.int .i64 k),.d (.int .i64 f),.d (.int .i64 t),.d (.str w),.d (.int .i64 q),.d (.sl za 6 (ks.map N.enc))]) := fun s'' => by rw [hXX]; simp [hb]
       simp [hjb,f0,f3,hld]
       rw [← hv]
       refine CallK_of (hF.with' hF.kPost (hT d' (by omega)) 18 a hi ⟨by simp only [G.c]; omega,by simp only [G.c]; omega,fun _ => ⟨l1,by simp only [G.c]; omega⟩⟩) ?_
       rintro _ _ ⟨b,s2,rfl,rfl,r2⟩
       have hst2 := hst (N.new 18 a.f s2.1 [] 0 [a,b]) (abx F.tn a) s2
       obtain ⟨k2,f2',t2,w2,q2,za2,ks2,hv2,hb2⟩ := ho (N.new 18 a.f s2.1 [] 0 [a,b])
       rw [hv2]
       have hXa : H.set i (pst F.tp z L s2) ++ XX a = H.set i (pst F.tp z L s2) ++ [Ob.box F.tn [.d (.int .i64 0),.d (.int .i64 0),.d (.int .i64 0),.d (.str []),.d (.int .i64 0),.d (.sl true 6 [])],abx F.tn a] := by rw [hXX]
       rw [hXa]
       simp [f3,hb]
       rw [show H.set i (pst F.tp z L s2) ++ [Ob.box F.tn [.d (.int .i64 0),.d (.int .i64 0),.d (.int .i64 0),.d (.str []),.d (.int .i64 0),.d (.sl true 6 [])],.box F.tn [.d (.int .i64 k2),.d (.int .i64 f2'),.d (.int .i64 t2),.d (.str w2),.d (.int .i64 q2),.d (.sl za2 6 (ks2.map N.enc))]] = H.set i (pst F.tp z L s2) ++ XX (N.new 18 a.f s2.1 [] 0 [a,b]) by rw [hXX,← hb2]]
       rcases r2.none' with ⟨q',b',hq,rfl,e3⟩ | ⟨j,hj,rfl⟩
       · refine NextM_of (H.length + 2) 0 (Nat.le_refl _) (by rw [hXX]; simp) (by omega) ⟨_,(b',some q'),by simp [f0,f2,f3,hil2],hcut0 _ _,.inl ⟨rfl,by simp,fun m => hRel _ _ ?_⟩⟩
         simp [pp,hjb,hq,PR.then]; omega
       · have := pp_adv (L := L) d' .post (p1 + 1)
         rw [hj] at this
         obtain ⟨v1,v2,v3⟩ := this
         have v2 := v2 rfl
         have v3 := v3 v2
         refine NextM_of (H.length + 2) d' (Nat.le_refl _) (by rw [hXX]; simp) (by omega) ⟨_,(j,none),by simp [f0,f2,f3,hil2],hcut0 _ _,.inr ⟨j,rfl,hs2,by omega,?_,v3,by omega⟩⟩
         rw [hpp]; simp [pp,hjb,hj,PR.then]
theorem PHas.sum' (hF : PHas P F) (hL : L.length ≤ 1048576) (n : Nat) (hn : n ≤ 1099511627776) (hT : ∀ m,m < n + 1 → UC P F.tp z L m .term F.term) : UC P F.tp z L (n + 1) .sum F.sum := by
 refine UC_of fun H i s hi hp => ?_
 obtain ⟨fn,hf,hcf⟩ := hF.sum
 refine acall_fin hf hcf (by simp [irPSum]) fun hcl _ => ?_
 have hp1 := hp.1
 simp only [G.c] at hp1
 simp [irPSum]
 refine CallK_of (hT n (by omega) H _ i s hi ((Mo.refl s).pre hp (by decide) (by simp only [G.c]; omega))) ?_
 rintro _ _ ⟨a0,s1,rfl,rfl,r1⟩
 have b1 := r1.le
 have ho : ∀ a : N,∃ (k f t : Int) (w : Bs) (q : Int) (za : Bool) (ks : List N),a.v = .agg [.d (.int .i64 k),.d (.int .i64 f),.d (.int .i64 t),.d (.str w),.d (.int .i64 q),.d (.sl za 6 (ks.map N.enc))] ∧ abx F.tn a = .box F.tn [.d (.int .i64 k),.d (.int .i64 f),.d (.int .i64 t),.d (.str w),.d (.int .i64 q),.d (.sl za 6 (ks.map N.enc))] := fun a => by
  obtain ⟨k,f,t,w,q,za,ks⟩ := a
  exact ⟨k,f,t,w,q,za,ks,by rw [N.v_mk],by rw [abx,N.enc_mk]; rfl⟩
 obtain ⟨XX,hXX⟩ : ∃ XX : N → Hp,XX = fun a => [Ob.box F.tn [.d (.int .i64 0),.d (.int .i64 0),.d (.int .i64 0),.d (.str []),.d (.int .i64 0),.d (.sl true 6 [])],abx F.tn a] := ⟨_,rfl⟩
 have hst : ∀ (a0 : N) (o : Ob) (s1 : PSt),(H.set i (pst F.tp z L s1) ++ [Ob.box F.tn [.d (.int .i64 0),.d (.int .i64 0),.d (.int .i64 0),.d (.str []),.d (.int .i64 0),.d (.sl true 6 [])],o]).set (H.length + 1) (abx F.tn a0) = H.set i (pst F.tp z L s1) ++ XX a0 := fun a0 o s1 => by rw [hXX]; simp
 obtain ⟨E,hE⟩ : ∃ E : Fr → Hp → Prop,E = fun fr H' => ∃ a s',(fr 0 = .ptr i 0 ∧ fr 2 = .ptr H.length 0 ∧ fr 3 = .ptr (H.length + 1) 0) ∧ Rel L (n + 1) .sum s a s' ∧ H' = H.set i (pst F.tp z L s') ++ XX a := ⟨_,rfl⟩
 have hE1 : ∀ fr a s',(fr 0 = .ptr i 0 ∧ fr 2 = .ptr H.length 0 ∧ fr 3 = .ptr (H.length + 1) 0) → Rel L (n + 1) .sum s a s' → E fr (H.set i (pst F.tp z L s') ++ XX a) := fun fr a s' h h' => by subst hE; exact ⟨a,s',h,h',rfl⟩
 obtain ⟨k,f,t,w,q,za,ks,hv,hb⟩ := ho a0
 rw [hv]
 simp
 rw [show H.set i (pst F.tp z L s1) ++ [Ob.box F.tn [.d (.int .i64 0),.d (.int .i64 0),.d (.int .i64 0),.d (.str []),.d (.int .i64 0),.d (.sl true 6 [])],.box F.tn [.d (.int .i64 k),.d (.int .i64 f),.d (.int .i64 t),.d (.str w),.d (.int .i64 q),.d (.sl za 6 (ks.map N.enc))]] = H.set i (pst F.tp z L s1) ++ XX a0 by rw [hXX,← hb]]
 obtain ⟨RR,hRR⟩ : ∃ RR : Fr → Hp → Prop,RR = fun fr H' => ∃ a s',fr 2 = .ptr H.length 0 ∧ Rel L (n + 1) .sum s a s' ∧ H' = H.set i (pst F.tp z L s') ++ [abx F.tn a,abx F.tn a] := ⟨_,rfl⟩
 have hR1 : ∀ fr a s',fr 2 = .ptr H.length 0 → Rel L (n + 1) .sum s a s' → RR fr (H.set i (pst F.tp z L s') ++ [abx F.tn a,abx F.tn a]) := fun fr a s' h h' => by subst hRR; exact ⟨a,s',h,h',rfl⟩
 refine LoopK_outR 0 E RR ?_ ?_ ?_
 rotate_left
 · intro fr H' h
   subst hRR
   obtain ⟨a,s',f2,hr,rfl⟩ := h
   obtain ⟨k,f,t,w,q,za,ks,hv,hb⟩ := ho a
   simp [f2,hb]
   simp [RetK,cutP hcl]
   exact ⟨a,s',hv.symm,by simp,hr⟩
 · intro fr H' h
   subst hE
   obtain ⟨a,s',⟨f0,f2,f3⟩,hr,rfl⟩ := h
   obtain ⟨k,f,t,w,q,za,ks,hv,hb⟩ := ho a
   subst hXX
   simp [f0,f2,f3,hb]
   simp [RetK,cutP hcl]
   exact ⟨a,s',hv.symm,by simp,hr⟩
 clear hE hRR
 have hcut : ∀ a s' X,Hp.cut (H.length + 2) (H.set i (pst F.tp z L s') ++ (XX a ++ X)) = H.set i (pst F.tp z L s') ++ XX a := fun a s' X => by
  rw [cutPk hcl,hXX]
  change H.set i (pst F.tp z L s') ++ [_,(abx F.tn a).clr _] = _
  rw [abx_clr]; rfl
 have hcut0 : ∀ a s',Hp.cut (H.length + 2) (H.set i (pst F.tp z L s') ++ XX a) = H.set i (pst F.tp z L s') ++ XX a := fun a s' => by simpa using hcut a s' []
 refine LoopM_of (H.length + 2) (fun d fr H' => ∃ a s',(fr 0 = .ptr i 0 ∧ fr 2 = .ptr H.length 0 ∧ fr 3 = .ptr (H.length + 1) 0) ∧ H' = H.set i (pst F.tp z L s') ++ XX a ∧
  ((d = 0 ∧ s'.2 ≠ none ∧ ∀ m,Rel L (n + 1) .sum s m s') ∨ ∃ p1,s' = (p1,none) ∧ s.2 = none ∧ d ≤ n ∧ pp L (n + 1) .sum s.1 = pp L d (.sumL a) p1 ∧ p1 ≤ L.length ∧ 16 * (L.length - p1) + 1 ≤ d)) (match s1.2 with | none => n | some _ => 0) (by rw [hXX]; simp) ⟨a0,s1,?_⟩ ?_
 · have hil2 : i < H.length + 2 := by omega
   refine ⟨by simp [hil2],hcut0 _ _,?_⟩
   obtain ⟨p,st⟩ := s
   cases st with
   | some q =>
     obtain ⟨b,rfl,e⟩ := r1.some'
     simp only [G.wt] at e
     exact .inl ⟨rfl,by simp,fun m => by simp [Rel,G.wt]; omega⟩
   | none =>
     obtain ⟨hp2,hp3⟩ := hp.2.2 rfl
     simp only [G.c] at hp2 hp3
     rcases r1.none' with ⟨q',b,hq,rfl,e3⟩ | ⟨j,hj,rfl⟩
     · exact .inl ⟨rfl,by simp,fun m => by simp [Rel,pp,hq,PR.then]; omega⟩
     · have := pp_adv (L := L) n .term p
       rw [hj] at this
       obtain ⟨v1,v2,v3⟩ := this
       have v2 := v2 rfl
       have v3 := v3 v2
       exact .inr ⟨j,rfl,rfl,by simp,by simp [pp,hj,PR.then],v3,by simp only; omega⟩
 · rintro d fr H' ⟨a,s',⟨f0,f2,f3⟩,rfl,hd⟩
   have hil2 : i < H.length + 2 := by omega
   have hi' := pget (tp := F.tp) (z := z) (L := L) (H := H) hi s' (XX a)
   rcases hd with ⟨rfl,q1,q2⟩ | ⟨p1,rfl,hs2,hdn,hpp,hp1',hrk⟩
   · obtain ⟨p',st'⟩ := s'
     cases st' with
     | none => simp at q1
     | some q =>
       simp [f0,hi']
       exact hE1 _ a _ (by simp [f0,f2,f3]) (q2 _)
   · obtain ⟨d',rfl⟩ : ∃ d',d = d' + 1 := ⟨d - 1,by omega⟩
     have hRel : ∀ m s',(match pp L (d' + 1) (.sumL a) p1 with | .out => False | .bad q => s'.2 = some q ∧ s'.1 ≤ L.length + (n + 1) | .ok m' k => m = m' ∧ s' = (k,none)) → Rel L (n + 1) .sum s m s' := fun m s' h => by
      unfold Rel
      rw [hs2]
      simp only
      rw [hpp]; exact h
     obtain ⟨k,f,t,w,q,za,ks,hv,hb⟩ := ho a
     have hld : ∀ s'',(H.set i (pst F.tp z L s'') ++ XX a)[H.length + 1]? = some (.box F.tn [.d (.int .i64 k),.d (.int .i64 f),.d (.int .i64 t),.d (.str w),.d (.int .i64 q),.d (.sl za 6 (ks.map N.enc))]) := fun s'' => by rw [hXX]; simp [hb]
     simp [f0,hi']
     refine CallK_of' (hF.tookA hi _ (by simp only; omega)) ?_
     cases hjb : isT L p1 [43] with
     | true =>
       have l1 := isT_lt hjb
       simp [hjb,f0,f3,hld]
       rw [← hv]
       refine CallK_of (hF.with' hF.kTerm (hT d' (by omega)) 16 a hi ⟨by simp only [G.c]; omega,by simp only [G.c]; omega,fun _ => ⟨l1,by simp only [G.c]; omega⟩⟩) ?_
       rintro _ _ ⟨b,s2,rfl,rfl,r2⟩
       obtain ⟨k2,f2',t2,w2,q2,za2,ks2,hv2,hb2⟩ := ho (N.new 16 a.f s2.1 [] 0 [a,b])
       rw [hv2]
       have hXa : H.set i (pst F.tp z L s2) ++ XX a = H.set i (pst F.tp z L s2) ++ [Ob.box F.tn [.d (.int .i64 0),.d (.int .i64 0),.d (.int .i64 0),.d (.str []),.d (.int .i64 0),.d (.sl true 6 [])],abx F.tn a] := by rw [hXX]
       rw [hXa]
       simp [f3,hb]
       rw [show H.set i (pst F.tp z L s2) ++ [Ob.box F.tn [.d (.int .i64 0),.d (.int .i64 0),.d (.int .i64 0),.d (.str []),.d (.int .i64 0),.d (.sl true 6 [])],.box F.tn [.d (.int .i64 k2),.d (.int .i64 f2'),.d (.int .i64 t2),.d (.str w2),.d (.int .i64 q2),.d (.sl za2 6 (ks2.map N.enc))]] = H.set i (pst F.tp z L s2) ++ XX (N.new 16 a.f s2.1 [] 0 [a,b]) by rw [hXX,← hb2]]
       rcases r2.none' with ⟨q',b',hq,rfl,e3⟩ | ⟨j,hj,rfl⟩
       · refine NextM_of (H.length + 2) 0 (Nat.le_refl _) (by rw [hXX]; simp) (by omega) ⟨_,(b',some q'),by simp [f0,f2,f3,hil2],hcut0 _ _,.inl ⟨rfl,by simp,fun m => hRel _ _ ?_⟩⟩
         simp [pp,hjb,hq,PR.then]; omega
       · have := pp_adv (L := L) d' .term (p1 + 1)
         rw [hj] at this
         obtain ⟨v1,v2,v3⟩ := this
         have v2 := v2 rfl
         have v3 := v3 v2
         refine NextM_of (H.length + 2) d' (Nat.le_refl _) (by rw [hXX]; simp) (by omega) ⟨_,(j,none),by simp [f0,f2,f3,hil2],hcut0 _ _,.inr ⟨j,rfl,hs2,by omega,?_,v3,by omega⟩⟩
         rw [hpp]; simp [pp,hjb,hj,PR.then]
     | false =>
     simp [hjb,f0]
     refine CallK_of' (hF.tookA hi _ (by simp only; omega)) ?_
     cases hjc : isT L p1 [45] with
     | true =>
       have l1 := isT_lt hjc
       simp [hjc,f0,f3,hld]
       rw [← hv]
       refine CallK_of (hF.with' hF.kTerm (hT d' (by omega)) 17 a hi ⟨by simp only [G.c]; omega,by simp only [G.c]; omega,fun _ => ⟨l1,by simp only [G.c]; omega⟩⟩) ?_
       rintro _ _ ⟨b,s2,rfl,rfl,r2⟩
       obtain ⟨k2,f2',t2,w2,q2,za2,ks2,hv2,hb2⟩ := ho (N.new 17 a.f s2.1 [] 0 [a,b])
       rw [hv2]
       have hXa : H.set i (pst F.tp z L s2) ++ XX a = H.set i (pst F.tp z L s2) ++ [Ob.box F.tn [.d (.int .i64 0),.d (.int .i64 0),.d (.int .i64 0),.d (.str []),.d (.int .i64 0),.d (.sl true 6 [])],abx F.tn a] := by rw [hXX]
       rw [hXa]
       simp [f3,hb]
       rw [show H.set i (pst F.tp z L s2) ++ [Ob.box F.tn [.d (.int .i64 0),.d (.int .i64 0),.d (.int .i64 0),.d (.str []),.d (.int .i64 0),.d (.sl true 6 [])],.box F.tn [.d (.int .i64 k2),.d (.int .i64 f2'),.d (.int .i64 t2),.d (.str w2),.d (.int .i64 q2),.d (.sl za2 6 (ks2.map N.enc))]] = H.set i (pst F.tp z L s2) ++ XX (N.new 17 a.f s2.1 [] 0 [a,b]) by rw [hXX,← hb2]]
       rcases r2.none' with ⟨q',b',hq,rfl,e3⟩ | ⟨j,hj,rfl⟩
       · refine NextM_of (H.length + 2) 0 (Nat.le_refl _) (by rw [hXX]; simp) (by omega) ⟨_,(b',some q'),by simp [f0,f2,f3,hil2],hcut0 _ _,.inl ⟨rfl,by simp,fun m => hRel _ _ ?_⟩⟩
         simp [pp,hjb,hjc,hq,PR.then]; omega
       · have := pp_adv (L := L) d' .term (p1 + 1)
         rw [hj] at this
         obtain ⟨v1,v2,v3⟩ := this
         have v2 := v2 rfl
         have v3 := v3 v2
         refine NextM_of (H.length + 2) d' (Nat.le_refl _) (by rw [hXX]; simp) (by omega) ⟨_,(j,none),by simp [f0,f2,f3,hil2],hcut0 _ _,.inr ⟨j,rfl,hs2,by omega,?_,v3,by omega⟩⟩
         rw [hpp]; simp [pp,hjb,hjc,hj,PR.then]
     | false =>
       have hx0 : (XX a)[0]? = some (.box F.tn [.d (.int .i64 0),.d (.int .i64 0),.d (.int .i64 0),.d (.str []),.d (.int .i64 0),.d (.sl true 6 [])]) := by rw [hXX]; rfl
       have hx1 : ∀ o,(XX a).set 0 o = [o,abx F.tn a] := fun o => by rw [hXX]; rfl
       simp [hjc,f3,hld,f2,hx0,hx1]
       rw [← hb]
       refine hR1 _ a _ (by simp [f2]) (hRel _ _ ?_)
       simp [pp,hjb,hjc]
end
end
section
section
variable {P : Program} {F : PF} {z : Bool} {L : List Tk}
theorem PHas.post' (hF : PHas P F) (hL : L.length ≤ 1048576) (n : Nat) (hn : n ≤ 1099511627776) (hT : UC P F.tp z L n .atom F.atom) (hX : ∀ m,m < n → UC P F.tp z L m .expr F.expr) : UC P F.tp z L (n + 1) .post F.post := by
 refine UC_of fun H i s hi hp => ?_
 obtain ⟨fn,hf,hcf⟩ := hF.post
 refine acall_fin hf hcf (by simp [irPPost]) fun hcl _ => ?_
 have hp1 := hp.1
 simp only [G.c] at hp1
 simp [irPPost]
 refine CallK_of (hT H _ i s hi ((Mo.refl s).pre hp (by decide) (by simp only [G.c]; omega))) ?_
 rintro _ _ ⟨a0,s1,rfl,rfl,r1⟩
 have b1 := r1.le
 have ho : ∀ a : N,∃ (k f t : Int) (w : Bs) (q : Int) (za : Bool) (ks : List N),a.f = f ∧ a.enc = [.int .i64 k,.int .i64 f,.int .i64 t,.str w,.int .i64 q,.sl za 6 (ks.map N.enc)] ∧ a.v = .agg [.d (.int .i64 k),.d (.int .i64 f),.d (.int .i64 t),.d (.str w),.d (.int .i64 q),.d (.sl za 6 (ks.map N.enc))] ∧ abx F.tn a = .box F.tn [.d (.int .i64 k),.d (.int .i64 f),.d (.int .i64 t),.d (.str w),.d (.int .i64 q),.d (.sl za 6 (ks.map N.enc))] := fun a => by
  obtain ⟨k,f,t,w,q,za,ks⟩ := a
  exact ⟨k,f,t,w,q,za,ks,rfl,by rw [N.enc_mk],by rw [N.v_mk],by rw [abx,N.enc_mk]; rfl⟩
 obtain ⟨XX,hXX⟩ : ∃ XX : N → Hp,XX = fun a => [Ob.box F.tn [.d (.int .i64 0),.d (.int .i64 0),.d (.int .i64 0),.d (.str []),.d (.int .i64 0),.d (.sl true 6 [])],abx F.tn a] := ⟨_,rfl⟩
 have hst : ∀ (a0 : N) (o : Ob) (s1 : PSt),(H.set i (pst F.tp z L s1) ++ [Ob.box F.tn [.d (.int .i64 0),.d (.int .i64 0),.d (.int .i64 0),.d (.str []),.d (.int .i64 0),.d (.sl true 6 [])],o]).set (H.length + 1) (abx F.tn a0) = H.set i (pst F.tp z L s1) ++ XX a0 := fun a0 o s1 => by rw [hXX]; simp
 obtain ⟨E,hE⟩ : ∃ E : Fr → Hp → Prop,E = fun fr H' => ∃ a s',(fr 0 = .ptr i 0 ∧ fr 2 = .ptr H.length 0 ∧ fr 3 = .ptr (H.length + 1) 0) ∧ Rel L (n + 1) .post s a s' ∧ H' = H.set i (pst F.tp z L s') ++ XX a := ⟨_,rfl⟩
 have hE1 : ∀ fr a s',(fr 0 = .ptr i 0 ∧ fr 2 = .ptr H.length 0 ∧ fr 3 = .ptr (H.length + 1) 0) → Rel L (n + 1) .post s a s' → E fr (H.set i (pst F.tp z L s') ++ XX a) := fun fr a s' h h' => by subst hE; exact ⟨a,s',h,h',rfl⟩
 obtain ⟨k,f,t,w,q,za,ks,haf,hen,hv,hb⟩ := ho a0
 rw [hv]
 simp
 rw [show H.set i (pst F.tp z L s1) ++ [Ob.box F.tn [.d (.int .i64 0),.d (.int .i64 0),.d (.int .i64 0),.d (.str []),.d (.int .i64 0),.d (.sl true 6 [])],.box F.tn [.d (.int .i64 k),.d (.int .i64 f),.d (.int .i64 t),.d (.str w),.d (.int .i64 q),.d (.sl za 6 (ks.map N.enc))]] = H.set i (pst F.tp z L s1) ++ XX a0 by rw [hXX,← hb]]
 obtain ⟨RR,hRR⟩ : ∃ RR : Fr → Hp → Prop,RR = fun fr H' => ∃ a s' Y,fr 2 = .ptr H.length 0 ∧ Rel L (n + 1) .post s a s' ∧ H' = H.set i (pst F.tp z L s') ++ (abx F.tn a :: Y) := ⟨_,rfl⟩
 have hR1 : ∀ fr a s' Y,fr 2 = .ptr H.length 0 → Rel L (n + 1) .post s a s' → RR fr (H.set i (pst F.tp z L s') ++ (abx F.tn a :: Y)) := fun fr a s' Y h h' => by subst hRR; exact ⟨a,s',Y,h,h',rfl⟩
 refine LoopK_outR 0 E RR ?_ ?_ ?_
 rotate_left
 · intro fr H' h
   subst hRR
   obtain ⟨a,s',Y,f2,hr,rfl⟩ := h
   obtain ⟨k,f,t,w,q,za,ks,haf,hen,hv,hb⟩ := ho a
   simp [f2,hb]
   simp [RetK,cutP hcl]
   exact ⟨a,s',hv.symm,by simp,hr⟩
 · intro fr H' h
   subst hE
   obtain ⟨a,s',⟨f0,f2,f3⟩,hr,rfl⟩ := h
   obtain ⟨k,f,t,w,q,za,ks,haf,hen,hv,hb⟩ := ho a
   subst hXX
   simp [f0,f2,f3,hb]
   simp [RetK,cutP hcl]
   exact ⟨a,s',hv.symm,by simp,hr⟩
 clear hE hRR
 have hcut : ∀ a s' X,Hp.cut (H.length + 2) (H.set i (pst F.tp z L s') ++ (XX a ++ X)) = H.set i (pst F.tp z L s') ++ XX a := fun a s' X => by
  rw [cutPk hcl,hXX]
  change H.set i (pst F.tp z L s') ++ [_,(abx F.tn a).clr _] = _
  rw [abx_clr]; rfl
 have hcut0 : ∀ a s',Hp.cut (H.length + 2) (H.set i (pst F.tp z L s') ++ XX a) = H.set i (pst F.tp z L s') ++ XX a := fun a s' => by simpa using hcut a s' []
 refine LoopM_of (H.length + 2) (fun d fr H' => ∃ a s',(fr 0 = .ptr i 0 ∧ fr 2 = .ptr H.length 0 ∧ fr 3 = .ptr (H.length + 1) 0) ∧ H' = H.set i (pst F.tp z L s') ++ XX a ∧
  ((d = 0 ∧ s'.2 ≠ none ∧ ∀ m,Rel L (n + 1) .post s m s') ∨ ∃ p1,s' = (p1,none) ∧ s.2 = none ∧ d ≤ n ∧ pp L (n + 1) .post s.1 = pp L d (.postL a) p1 ∧ p1 ≤ L.length ∧ 16 * (L.length - p1) + 1 ≤ d)) (match s1.2 with | none => n | some _ => 0) (by rw [hXX]; simp) ⟨a0,s1,?_⟩ ?_
 · have hil2 : i < H.length + 2 := by omega
   refine ⟨by simp [hil2],hcut0 _ _,?_⟩
   obtain ⟨p,st⟩ := s
   cases st with
   | some q =>
     obtain ⟨b,rfl,e⟩ := r1.some'
     simp only [G.wt] at e
     exact .inl ⟨rfl,by simp,fun m => by simp [Rel,G.wt]; omega⟩
   | none =>
     obtain ⟨hp2,hp3⟩ := hp.2.2 rfl
     simp only [G.c] at hp2 hp3
     rcases r1.none' with ⟨q',b,hq,rfl,e3⟩ | ⟨j,hj,rfl⟩
     · exact .inl ⟨rfl,by simp,fun m => by simp [Rel,pp,hq,PR.then]; omega⟩
     · have := pp_adv (L := L) n .atom p
       rw [hj] at this
       obtain ⟨v1,v2,v3⟩ := this
       have v2 := v2 rfl
       have v3 := v3 v2
       exact .inr ⟨j,rfl,rfl,by simp,by simp [pp,hj,PR.then],v3,by simp only; omega⟩
 · rintro d fr H' ⟨a,s',⟨f0,f2,f3⟩,rfl,hd⟩
   have hil2 : i < H.length + 2 := by omega
   have hi' := pget (tp := F.tp) (z := z) (L := L) (H := H) hi s'
   rcases hd with ⟨rfl,q1,q2⟩ | ⟨p1,rfl,hs2,hdn,hpp,hp1',hrk⟩
   · obtain ⟨p',st'⟩ := s'
     cases st' with
     | none => simp at q1
     | some q =>
       simp [f0,hi']
       exact hE1 _ a _ (by simp [f0,f2,f3]) (q2 _)
   · obtain ⟨d',rfl⟩ : ∃ d',d = d' + 1 := ⟨d - 1,by omega⟩
     have hRel : ∀ m s',(match pp L (d' + 1) (.postL a) p1 with | .out => False | .bad q => s'.2 = some q ∧ s'.1 ≤ L.length + (n + 1) | .ok m' k => m = m' ∧ s' = (k,none)) → Rel L (n + 1) .post s m s' := fun m s' h => by
      unfold Rel
      rw [hs2]
      simp only
      rw [hpp]; exact h
     obtain ⟨k,f,t,w,q,za,ks,haf,hen,hv,hb⟩ := ho a
     have hXa : ∀ s'',H.set i (pst F.tp z L s'') ++ XX a = H.set i (pst F.tp z L s'') ++ [Ob.box F.tn [.d (.int .i64 0),.d (.int .i64 0),.d (.int .i64 0),.d (.str []),.d (.int .i64 0),.d (.sl true 6 [])],.box F.tn [.d (.int .i64 k),.d (.int .i64 f),.d (.int .i64 t),.d (.str w),.d (.int .i64 q),.d (.sl za 6 (ks.map N.enc))]] := fun s'' => by rw [hXX,← hb]
     rw [hXa]
     have hnext : ∀ (kk : Int) (s2 : PSt) (w' : Bs) (at' : Int) (l : List N) (Y : Hp),l ≠ [] → Hp.cut (H.length + 2) (H.set i (pst F.tp z L s2) ++ (Ob.box F.tn [.d (.int .i64 0),.d (.int .i64 0),.d (.int .i64 0),.d (.str []),.d (.int .i64 0),.d (.sl true 6 [])] :: nob F.tn kk f (s2.1 : Int) w' at' false (l.map N.enc) (H.length + 2) :: Y)) = H.set i (pst F.tp z L s2) ++ XX (N.new kk a.f s2.1 w' at' l) := fun kk s2 w' at' l Y hl => by
      have hle : l.isEmpty = false := by cases l with | nil => exact absurd rfl hl | cons x r => rfl
      rw [cutPk hcl,hXX]
      simp [nob,abx,N.new,N.enc_mk,haf,hle]
     simp [f0,hi',f3]
     refine CallK_of' (hF.tookA hi _ (by simp only; omega)) ?_
     cases hjb : isT L p1 [46] with
     | true =>
       have l1 := isT_lt hjb
       simp [hjb,f0]
       refine CallK_of' (hF.wordA (j := 3) (q := 2) hi (by simp only; omega) rfl (by simp)) ?_
       generalize h5 : wordS L (p1 + 1,none) = s5
       simp [nob,f0]
       refine CallK_of' (hF.doneA (q := 2) hi (by simp)) ?_
       simp [nag,f3]
       have hn5 := hnext 19 s5 (if kdT L (p1 + 1) = 1 then txT L (p1 + 1) else []) (if kdT L (p1 + 1) = 1 then (p1 : Int) + 1 else 0) [a]
       simp only [List.map_cons,List.map_nil,hen,nob] at hn5
       by_cases c5 : kdT L (p1 + 1) = 1
       · have l5 : p1 + 1 < L.length := kdT_lt (by omega)
         simp [c5] at h5 hn5
         subst h5
         simp [c5]
         refine NextM_of (H.length + 2) d' (Nat.le_refl _) (by simp) (by omega) ⟨_,_,by simp [f0,f2,f3,hil2],hn5 _,.inr ⟨p1 + 1 + 1,rfl,hs2,by omega,?_,by omega,by omega⟩⟩
         rw [hpp]; simp [pp,hjb,wordR,c5]
       · simp [c5] at h5 hn5
         subst h5
         simp [c5]
         refine NextM_of (H.length + 2) 0 (Nat.le_refl _) (by simp) (by omega) ⟨_,_,by simp [f0,f2,f3,hil2],hn5 _,.inl ⟨rfl,by simp,fun m => hRel _ _ ?_⟩⟩
         simp [pp,hjb,wordR,c5]; omega
     | false =>
     simp [hjb,f0]
     refine CallK_of' (hF.tookA hi _ (by simp only; omega)) ?_
     cases hjc : isT L p1 [40] with
     | true =>
       have l1 := isT_lt hjc
       simp [hjc,f0]
       refine CallK_of (hF.list' hL d' (by omega) (g := .expr) (jn := 3) (jt := 2) (ks0 := [a]) (k := 20) (f := f) (t := 0) (w := []) (a := 0) (zz := false) hi hF.kExpr (by simp [A.lo]; omega) rfl (by simp) (by simp [nob,hen]) rfl (fun m hm ks s hps => by simpa using hX m (by omega) H _ i s hi hps) (p1 + 1,none) ⟨by simp only [G.c]; omega,by simp only [G.c]; omega,fun _ => ⟨l1,by simp only [G.c]; omega⟩⟩) ?_
       rintro _ _ ⟨kl,s2,rfl,rfl,r2,hkl⟩
       simp [XL,nob,f0]
       refine CallK_of' (hF.doneA (q := 2) hi (by simp)) ?_
       simp [nag,f3]
       have hn5 := hnext 20 s2 [] 0 (a :: kl)
       simp only [List.map_cons,nob] at hn5
       rcases r2.none' with ⟨q',b',hq,rfl,e3⟩ | ⟨j,hj,rfl⟩
       · refine NextM_of (H.length + 2) 0 (Nat.le_refl _) (by simp) (by omega) ⟨_,_,by simp [f0,f2,f3,hil2],hn5 _ (by simp),.inl ⟨rfl,by simp,fun m => hRel _ _ ?_⟩⟩
         simp [pp,hjb,hjc,hq,PR.then]; omega
       · have := pp_adv (L := L) d' (.list .expr [41]) (p1 + 1)
         rw [hj] at this
         obtain ⟨v1,v2,v3⟩ := this
         have v2 := v2 rfl
         have v3 := v3 v2
         refine NextM_of (H.length + 2) d' (Nat.le_refl _) (by simp) (by omega) ⟨_,_,by simp [f0,f2,f3,hil2],hn5 _ (by simp),.inr ⟨j,rfl,hs2,by omega,?_,v3,by omega⟩⟩
         rw [hpp]; simp [pp,hjb,hjc,hj,PR.then,N.bag,N.new,N.ks]
     | false =>
       simp [hjc,f3,f2]
       rw [← hb]
       refine hR1 _ a _ _ (by simp [f2]) (hRel _ _ ?_)
       simp [pp,hjb,hjc]
end
end
section
theorem tokA_k (L : List Tk) (i : Nat) : ∃ (a : Int) (l : Bs),tokA_ L i = .agg [.d (.int .i64 (kdT L i)),.d (.int .i64 a),.d (.str l),.d (.str (txT L i))] := by
 unfold tokA_ kdT txT
 cases L[i]? with
 | none => exact ⟨_,_,rfl⟩
 | some t => exact ⟨_,_,rfl⟩
theorem lamRel {L : List Tk} {n p : Nat} {s3 s4 s5 : PSt} {t3 t4 t5 : N} (h3 : ¬ kdT L p = 3) (h4 : ¬ kdT L p = 4) (h1 : ¬ kdT L p = 1) (h5 : isT L p [105,110,112,117,116] = false) (h6 : isT L p [40] = false) (h7 : isT L p [123] = false) (ch8 : isT L p [102,110] = true)
 (hp2 : p ≤ L.length) (hp3 : 16 * (L.length - p) + 1 ≤ n + 1) (l0 : p < L.length) (r3 : Rel L n .params (p + 1,none) t3 s3) (r4 : Rel L n .typed s3 t4 s4) (r5 : Rel L n .block s4 t5 s5) : Rel L (n + 1) .atom (p,none) (N.new 28 p s5.1 [] 0 [t3,t4,t5]) s5 := by
 rcases r3.none' with ⟨q,a,e,rfl,e3⟩ | ⟨k,e,rfl⟩
 · obtain ⟨b,rfl,e4⟩ := r4.some'
   obtain ⟨c,rfl,e5⟩ := r5.some'
   simp only [G.wt] at e4 e5
   simp [Rel,pp,h3,h4,h1,kInput,kFn,wantR,h5,h6,h7,ch8,e,PR.then]
   omega
 rcases r4.none' with ⟨q,a,e',rfl,e4⟩ | ⟨k',e',rfl⟩
 · obtain ⟨c,rfl,e5⟩ := r5.some'
   simp only [G.wt] at e5
   simp [Rel,pp,h3,h4,h1,kInput,kFn,wantR,h5,h6,h7,ch8,e,e',PR.then]
   omega
 rcases r5.none' with ⟨q,a,e'',rfl,e5⟩ | ⟨k'',e'',rfl⟩
 · simp [Rel,pp,h3,h4,h1,kInput,kFn,wantR,h5,h6,h7,ch8,e,e',e'',PR.then]
   omega
 simp [Rel,pp,h3,h4,h1,kInput,kFn,wantR,h5,h6,h7,ch8,e,e',e'',PR.then]
section
variable {P : Program} {F : PF} {z : Bool} {L : List Tk}
theorem PHas.atom' (hF : PHas P F) (hL : L.length ≤ 1048576) (n : Nat) (hn : n ≤ 1099511627776) (hX : UC P F.tp z L n .expr F.expr) (hE : ∀ m,m < n → UCc P F.tp F.tb z L m .entry F.entry)
 (hP : UC P F.tp z L n .params F.params) (hT : UC P F.tp z L n .typed F.typed) (hB : UC P F.tp z L n .block F.block) : UC P F.tp z L (n + 1) .atom F.atom := by
 refine UC_of fun H i s hi hp => ?_
 obtain ⟨fn,hf,hcf⟩ := hF.atom
 refine acall_norm (acall_fin hf hcf (by simp [irPAtom]) fun hcl _ => ?_)
 have hp1 := hp.1
 simp only [G.c] at hp1
 simp [irPAtom]
 refine CallK_of' (hF.nodeA hi _) ?_
 simp [nag]
 refine CallK_of' (hF.nowA hi) ?_
 obtain ⟨ta,tl,htk⟩ := tokA_k L s.1
 rw [htk]
 have hi' := pget (tp := F.tp) (z := z) (L := L) (H := H) hi s
 have hps : Ob.box F.tp [A.d (D.sl z 4 (L.map encTk)),A.d (D.int .i64 ((s.1 : Int) + 1)),A.d (D.int .i64 (if s.2.isSome = true then 24 else 0)),A.d (D.int .i64 ((s.2.getD 0 : Nat) : Int))] = pst F.tp z L (s.1 + 1,s.2) := by simp [pst]
 have hw : IntKind.i64.wrap ((s.1 : Int) + 1) = ((s.1 + 1 : Nat) : Int) := by rw [wrap_i64 (by omega) (by omega)]; omega
 simp
 by_cases h3 : kdT L s.1 = 3
 · simp [h3,hi',hw,up hi]
   rw [hps]
   repeat' apply And.intro
   all_goals
    refine CallK_of' (hF.doneA (q := 3) hi (by simp)) ?_
    simp [nag]
    simp [RetK,cutP hcl,nl]
    refine fin_node [] (by simp) (by simp) ?_
    obtain ⟨p,st⟩ := s
    cases st with
    | some q => simp [Rel,G.wt]
    | none => simp only at h3; simp [Rel,pp,h3]
 by_cases h4 : kdT L s.1 = 4
 · simp [h3,h4,hi',hw,up hi]
   rw [hps]
   repeat' apply And.intro
   all_goals
    refine CallK_of' (hF.doneA (q := 3) hi (by simp)) ?_
    simp [nag]
    simp [RetK,cutP hcl,nl]
    refine fin_node [] (by simp) (by simp) ?_
    obtain ⟨p,st⟩ := s
    cases st with
    | some q => simp [Rel,G.wt]
    | none => simp only at h3 h4; simp [Rel,pp,h3,h4]
 by_cases h1 : kdT L s.1 = 1
 · simp [h3,h4,h1]
   refine CallK_of' (hF.wordA (j := 4) (q := 3) hi (by omega) rfl (by simp)) ?_
   generalize h5 : wordS L s = s5
   simp [nob]
   refine CallK_of' (hF.doneA (q := 3) hi (by simp)) ?_
   simp [nag]
   simp [RetK,cutP hcl,nl]
   refine fin_node [] (by simp) (by simp) ?_
   subst h5
   obtain ⟨p,st⟩ := s
   cases st with
   | some q => simp [Rel,G.wt]
   | none => simp only at h3 h4 h1; simp [Rel,pp,h3,h4,h1]
 simp [h3,h4,h1]
 refine CallK_of' (hF.tookA hi _ (by omega)) ?_
 cases h5 : tookB L [105,110,112,117,116] s with
 | true =>
   obtain ⟨p,rfl,ch5⟩ := tookB_t h5
   have l0 := isT_lt ch5
   obtain ⟨hp2,hp3⟩ := hp.2.2 rfl
   simp only [G.c] at hp2 hp3
   simp only at h3 h4 h1
   simp [ch5]
   refine CallK_of' (hF.doneA (q := 3) hi (by simp)) ?_
   simp [nag]
   simp [RetK,cutP hcl,nl]
   refine fin_node [] (by simp) (by simp) ?_
   simp [Rel,pp,h3,h4,h1,kInput,ch5]
 | false =>
 rw [tookS_f h5]
 simp
 refine CallK_of' (hF.tookA hi _ (by omega)) ?_
 cases h6 : tookB L [40] s with
 | true =>
   obtain ⟨p,rfl,ch6⟩ := tookB_t h6
   have l0 := isT_lt ch6
   obtain ⟨hp2,hp3⟩ := hp.2.2 rfl
   simp only [G.c] at hp2 hp3
   simp only at h3 h4 h1
   simp at h5
   simp [ch6]
   refine CallK_of (hX H _ i (p + 1,none) hi ⟨by simp only [G.c]; omega,by simp only [G.c]; omega,fun _ => ⟨l0,by simp only [G.c]; omega⟩⟩) ?_
   rintro _ _ ⟨x,s7,rfl,rfl,r7⟩
   have b7 := r7.le
   simp [-rowOf]
   refine CallK_of' (hF.putA (j := 4) (q := 3) (rows := []) rfl rfl (by simp)) ?_
   simp [nob]
   refine CallK_of' (hF.wantA hi _ (by simp only at b7; omega)) ?_
   generalize h8 : wantS L _ s7 = s8
   simp
   refine CallK_of' (hF.doneA (q := 3) hi (by simp)) ?_
   simp [nag]
   simp [RetK,cutP hcl,nl]
   refine fin_node [x] (by simp) (by simp) ?_
   subst h8
   rcases r7.none' with ⟨q',b',hq,rfl,e3⟩ | ⟨j,hj,rfl⟩
   · simp [Rel,pp,h3,h4,h1,kInput,h5,ch6,hq,PR.then]; omega
   · have := pp_adv (L := L) n .expr (p + 1)
     rw [hj] at this
     obtain ⟨v1,v2,v3⟩ := this
     have v3 := v3 (v2 rfl)
     by_cases c8 : isT L j [41] = true
     · simp [Rel,pp,h3,h4,h1,kInput,h5,ch6,hj,PR.then,wantR,c8]
     · simp [Rel,pp,h3,h4,h1,kInput,h5,ch6,hj,PR.then,wantR,c8]; omega
 | false =>
 rw [tookS_f h6]
 simp
 refine CallK_of' (hF.tookA hi _ (by omega)) ?_
 cases h7 : tookB L [123] s with
 | true =>
   obtain ⟨p,rfl,ch7⟩ := tookB_t h7
   have l0 := isT_lt ch7
   obtain ⟨hp2,hp3⟩ := hp.2.2 rfl
   simp only [G.c] at hp2 hp3
   simp only at h3 h4 h1
   simp at h5 h6
   simp [ch7]
   refine CallK_of (hF.list' hL n hn (g := .entry) (jn := 4) (jt := 3) (ks0 := []) hi hF.kEntry (by simp [A.lo]) rfl (by simp) rfl rfl (fun m hm ks s hps => hE m hm H _ i 0 s hi (by simp [XL]) hps) (p + 1,none) ⟨by simp only [G.c]; omega,by simp only [G.c]; omega,fun _ => ⟨l0,by simp only [G.c]; omega⟩⟩) ?_
   rintro _ _ ⟨ks,s2,rfl,rfl,r2,hkl⟩
   simp [XL,nob]
   refine CallK_of' (hF.doneA (q := 3) hi (by simp)) ?_
   simp [nag]
   simp [RetK,cutP hcl,nl]
   refine fin_node ks (by simp) (by simp) ?_
   rcases r2.none' with ⟨q,a,e',rfl,e4⟩ | ⟨k',e',rfl⟩
   · simp [Rel,pp,h3,h4,h1,kInput,h5,h6,ch7,e',PR.then]; omega
   · simp [Rel,pp,h3,h4,h1,kInput,h5,h6,ch7,e',PR.then,N.bag,N.new,N.ks]
 | false =>
 rw [tookS_f h7]
 simp
 refine CallK_of' (hF.tookA hi _ (by omega)) ?_
 cases h8 : tookB L [102,110] s with
 | true =>
   obtain ⟨p,rfl,ch8⟩ := tookB_t h8
   have l0 := isT_lt ch8
   obtain ⟨hp2,hp3⟩ := hp.2.2 rfl
   simp only [G.c] at hp2 hp3
   simp only at h3 h4 h1
   simp at h5 h6 h7
   simp [ch8]
   repeat' apply And.intro
   all_goals
    refine CallK_of (hP H _ i (p + 1,none) hi ⟨by simp only [G.c]; omega,by simp only [G.c]; omega,fun _ => ⟨l0,by simp only [G.c]; omega⟩⟩) ?_
    rintro _ _ ⟨t3,s3,rfl,rfl,r3⟩
    have m3 := r3.mo
    have b3 := r3.wt0 rfl
    simp only at b3
    simp [-rowOf]
    repeat' apply And.intro
   all_goals
    refine CallK_of (hT H _ i s3 hi ⟨by simp only [G.c]; omega,by simp only [G.c]; omega,fun e => ⟨(m3 e).2.2 l0,by have := (m3 e).2.1; simp only [G.c] at this ⊢; omega⟩⟩) ?_
    rintro _ _ ⟨t4,s4,rfl,rfl,r4⟩
    have m4 := m3.trans r4.mo
    have b4 := r4.wt0 rfl
    simp [-rowOf]
    repeat' apply And.intro
   all_goals
    refine CallK_of (hB H _ i s4 hi ⟨by simp only [G.c]; omega,by simp only [G.c]; omega,fun e => ⟨(m4 e).2.2 l0,by have := (m4 e).2.1; simp only [G.c] at this ⊢; omega⟩⟩) ?_
    rintro _ _ ⟨t5,s5,rfl,rfl,r5⟩
    simp [-rowOf]
    refine CallK_of' (hF.putA (j := 4) (q := 3) (rows := []) rfl rfl (by simp)) ?_
    simp [nob]
    refine CallK_of' (hF.doneA (q := 3) hi (by simp)) ?_
    simp [nag]
    simp [RetK,cutP hcl,nl]
    refine fin_node [t3,t4,t5] (by simp) (by simp) ?_
    clear m3 m4 b3 b4
    exact lamRel h3 h4 h1 h5 h6 h7 ch8 hp2 hp3 l0 r3 r4 r5
 | false =>
 rw [tookS_f h8]
 simp
 refine CallK_of' (hF.failA hi) ?_
 simp
 refine CallK_of' (hF.doneA (q := 3) hi (by simp)) ?_
 simp [nag]
 simp [RetK,cutP hcl,nl]
 refine fin_node [] (by simp) (by simp) ?_
 obtain ⟨p,st⟩ := s
 cases st with
 | some q => simp [Rel,G.wt]
 | none =>
   simp at h3 h4 h1 h5 h6 h7 h8
   obtain ⟨hp2,hp3⟩ := hp.2.2 rfl
   simp only [G.c] at hp2 hp3
   simp [Rel,pp,kInput,kFn,wantR,h3,h4,h1,h5,h6,h7,h8]
   omega
end
end
section
section
variable {P : Program} {F : PF} {z : Bool} {L : List Tk}
theorem setsB_eq (hEq : ∀ i,isT L i [61] = true → kdT L i = 5) (i : Nat) : setsB L i = (decide (kdT L i = 1) && isT L (i + 1) [61]) := by
 unfold setsB
 have h := hEq (i + 1)
 unfold isT kdT at *
 cases hg : L[i + 1]? with
 | none => simp
 | some t =>
   rw [hg] at h
   simp only at h ⊢
   by_cases h5 : t.k = 5
   · simp [h5]
   · by_cases h2 : t.k = 2
     · simp [h2] at h ⊢
       intro _; exact h
     · simp [h2,h5]
theorem PHas.stmt' (hF : PHas P F) (hL : L.length ≤ 1048576) (hEq : ∀ i,isT L i [61] = true → kdT L i = 5) (n : Nat) (hn : n ≤ 1099511627776) (hX : UC P F.tp z L n .expr F.expr) (hT : UC P F.tp z L n .typed F.typed) (hB : UC P F.tp z L n .block F.block) : UC P F.tp z L (n + 1) .stmt F.stmt := by
 refine UC_of fun H i s hi hp => ?_
 obtain ⟨fn,hf,hcf⟩ := hF.stmt
 refine acall_norm (acall_fin hf hcf (by simp [irPStmt]) fun hcl _ => ?_)
 have hp1 := hp.1
 simp only [G.c] at hp1
 simp [irPStmt]
 refine CallK_of' (hF.nodeA hi _) ?_
 simp [nag]
 refine CallK_of' (hF.tookA hi _ (by omega)) ?_
 cases h1 : tookB L [108,101,116] s with
 | true =>
   obtain ⟨p,rfl,ch1⟩ := tookB_t h1
   have l0 := isT_lt ch1
   obtain ⟨hp2,hp3⟩ := hp.2.2 rfl
   simp only [G.c] at hp2 hp3
   simp only [G.c] at hp1
   simp [ch1]
   refine CallK_of' (hF.wordA (j := 3) (q := 2) hi (by simp only; omega) rfl (by simp)) ?_
   generalize g2 : wordS L (p + 1,none) = s2
   have b2 := wordS_le g2
   have m2 := wordS_mo g2
   simp only at b2
   simp [nob]
   refine CallK_of (hT H _ i s2 hi ⟨by simp only [G.c]; omega,by simp only [G.c]; omega,fun e => ⟨(m2 e).2.2 l0,by have := (m2 e).2.1; simp only [G.c] at this ⊢; omega⟩⟩) ?_
   rintro _ _ ⟨t3,s3,rfl,rfl,rs3⟩
   have bs3 := rs3.wt0 rfl
   have m3 := m2.trans rs3.mo
   try simp only at bs3
   simp [-rowOf]
   refine CallK_of' (hF.putA (j := 3) (q := 2) (rows := []) rfl rfl (by simp)) ?_
   simp [nob]
   refine CallK_of' (hF.wantA hi _ (by omega)) ?_
   generalize g4 : wantS L _ s3 = s4
   have b4 := wantS_le g4
   have m4 := m3.trans (wantS_mo g4)
   simp
   refine CallK_of (hX H _ i s4 hi ⟨by simp only [G.c]; omega,by simp only [G.c]; omega,fun e => ⟨(m4 e).2.2 l0,by have := (m4 e).2.1; simp only [G.c] at this ⊢; omega⟩⟩) ?_
   rintro _ _ ⟨t5,s5,rfl,rfl,rs5⟩
   have bs5 := rs5.le
   have m5 := m4.trans rs5.mo
   try simp only at bs5
   simp [-rowOf]
   refine CallK_of' (hF.putA (j := 3) (q := 2) (rows := [t3.enc]) rfl rfl (by simp)) ?_
   simp [nob]
   refine CallK_of' (hF.wantA hi _ (by omega)) ?_
   generalize g6 : wantS L _ s5 = s6
   simp
   refine CallK_of' (hF.doneA (q := 2) hi (by simp)) ?_
   simp [nag]
   simp [RetK,cutP hcl,nl]
   refine fin_node [t3,t5] (by simp) (by simp) ?_
   clear m2 m3 m4 m5 b2 bs3 b4 bs5
   subst g2 g4 g6
   simp only [Rel,pp,wantR,wordR,kLet,ch1,if_true]
   by_cases c2 : kdT L (p + 1) = 1
   case neg =>
    simp [c2] at rs3
    obtain ⟨a,rfl,e3⟩ := rs3.some'
    simp at rs5
    obtain ⟨b,rfl,e5⟩ := rs5.some'
    simp only [G.wt] at e3 e5
    simp [c2]
    omega
   have l2 : p + 1 < L.length := kdT_lt (by omega)
   simp only [wordS_none,c2,if_true] at rs3
   rcases rs3.none' with ⟨q,a,e,rfl,e3⟩ | ⟨k,e,rfl⟩
   · simp at rs5
     obtain ⟨b,rfl,e5⟩ := rs5.some'
     simp only [G.wt] at e5
     simp [c2,e,PR.then]
     omega
   have v3 := pp_adv (L := L) n .typed (p + 1 + 1)
   rw [e] at v3
   obtain ⟨v1,-,v3⟩ := v3
   by_cases c4 : isT L k [61] = true
   case neg =>
    simp [c4] at rs5
    obtain ⟨b,rfl,e5⟩ := rs5.some'
    simp only [G.wt] at e5
    simp [c2,e,c4,PR.then]
    omega
   have l4 := isT_lt c4
   simp only [wantS_none,c4,if_true] at rs5
   rcases rs5.none' with ⟨q,a,e',rfl,e5⟩ | ⟨k',e',rfl⟩
   · simp [c2,e,c4,e',PR.then]
     omega
   have v5 := pp_adv (L := L) n .expr (k + 1)
   rw [e'] at v5
   obtain ⟨w1,w2,w3⟩ := v5
   have w2 := w2 rfl
   have w3 := w3 w2
   by_cases c6 : isT L k' [59] = true
   · simp [c2,e,c4,e',c6,PR.then]
   · simp [c2,e,c4,e',c6,PR.then]
     omega
 | false =>
 rw [tookS_f h1]
 simp
 refine CallK_of' (hF.tookA hi _ (by omega)) ?_
 cases h2 : tookB L [105,102] s with
 | true =>
   obtain ⟨p,rfl,ch2⟩ := tookB_t h2
   have l0 := isT_lt ch2
   obtain ⟨hp2,hp3⟩ := hp.2.2 rfl
   simp only [G.c] at hp2 hp3
   simp only [G.c] at hp1
   simp at h1
   simp [ch2]
   refine CallK_of (hX H _ i (p + 1,none) hi ⟨by simp only [G.c]; omega,by simp only [G.c]; omega,fun _ => ⟨l0,by simp only [G.c]; omega⟩⟩) ?_
   rintro _ _ ⟨t3,s3,rfl,rfl,rs3⟩
   have bs3 := rs3.le
   have m3 := rs3.mo
   try simp only at bs3
   simp [-rowOf]
   refine CallK_of (hB H _ i s3 hi ⟨by simp only [G.c]; omega,by simp only [G.c]; omega,fun e => ⟨(m3 e).2.2 l0,by have := (m3 e).2.1; simp only [G.c] at this ⊢; omega⟩⟩) ?_
   rintro _ _ ⟨t4,s4,rfl,rfl,rs4⟩
   have bs4 := rs4.wt0 rfl
   have m4 := m3.trans rs4.mo
   try simp only at bs4
   simp [-rowOf]
   refine CallK_of' (hF.putA (j := 3) (q := 2) (rows := []) rfl rfl (by simp)) ?_
   simp [nob]
   refine CallK_of' (hF.tookA hi _ (by omega)) ?_
   cases h7 : tookB L [101,108,115,101] s4 with
   | true =>
     obtain ⟨p4,rfl,c7⟩ := tookB_t h7
     have l7 := isT_lt c7
     have mm := (m4 rfl).2.1
     simp only at mm
     simp [c7]
     refine CallK_of (hB H _ i (p4 + 1,none) hi ⟨by simp only [G.c]; omega,by simp only [G.c]; omega,fun _ => ⟨l7,by simp only [G.c]; omega⟩⟩) ?_
     rintro _ _ ⟨t5,s5,rfl,rfl,rs5⟩
     simp [-rowOf]
     refine CallK_of' (hF.putA (j := 3) (q := 2) (rows := [t3.enc,t4.enc]) rfl rfl (by simp)) ?_
     simp [nob]
     refine CallK_of' (hF.doneA (q := 2) hi (by simp)) ?_
     simp [nag]
     simp [RetK,cutP hcl,nl]
     refine fin_node [t3,t4,t5] (by simp) (by simp) ?_
     rcases rs3.none' with ⟨q,a,e,rfl,e3⟩ | ⟨k,e,rfl⟩
     · obtain ⟨b,e',-⟩ := rs4.some'; simp at e'
     rcases rs4.none' with ⟨q,a,e',e4',e4⟩ | ⟨k',e',e4'⟩
     · simp at e4'
     obtain rfl : p4 = k' := by simpa using e4'
     rcases rs5.none' with ⟨q,a,e'',rfl,e5⟩ | ⟨k'',e'',rfl⟩
     · simp [Rel,pp,kLet,kIf,kElse,h1,ch2,e,e',c7,e'',PR.then]; omega
     · simp [Rel,pp,kLet,kIf,kElse,h1,ch2,e,e',c7,e'',PR.then]
   | false =>
     rw [tookS_f h7]
     simp
     refine CallK_of' (hF.putA (j := 3) (q := 2) (rows := [t3.enc,t4.enc]) (rows2 := [N.none.enc]) rfl rfl (by simp)) ?_
     simp [nob]
     refine CallK_of' (hF.doneA (q := 2) hi (by simp)) ?_
     simp [nag]
     simp [RetK,cutP hcl,nl]
     refine fin_node [t3,t4,N.none] (by simp) (by simp) ?_
     clear m3 m4 bs3 bs4
     rcases rs3.none' with ⟨q,a,e,rfl,e3⟩ | ⟨k,e,rfl⟩
     · obtain ⟨b,rfl,e4⟩ := rs4.some'
       simp only [G.wt] at e4
       simp [Rel,pp,kLet,kIf,kElse,h1,ch2,e,PR.then]; omega
     rcases rs4.none' with ⟨q,a,e',rfl,e4⟩ | ⟨k',e',rfl⟩
     · simp [Rel,pp,kLet,kIf,kElse,h1,ch2,e,e',PR.then]; omega
     simp at h7
     simp [Rel,pp,kLet,kIf,kElse,h1,ch2,e,e',h7,PR.then]
 | false =>
 rw [tookS_f h2]
 simp
 refine CallK_of' (hF.tookA hi _ (by omega)) ?_
 cases h3 : tookB L [119,104,105,108,101] s with
 | true =>
   obtain ⟨p,rfl,ch3⟩ := tookB_t h3
   have l0 := isT_lt ch3
   obtain ⟨hp2,hp3⟩ := hp.2.2 rfl
   simp only [G.c] at hp2 hp3
   simp only [G.c] at hp1
   simp at h1 h2
   simp [ch3]
   refine CallK_of (hX H _ i (p + 1,none) hi ⟨by simp only [G.c]; omega,by simp only [G.c]; omega,fun _ => ⟨l0,by simp only [G.c]; omega⟩⟩) ?_
   rintro _ _ ⟨t3,s3,rfl,rfl,rs3⟩
   have bs3 := rs3.le
   have m3 := rs3.mo
   try simp only at bs3
   simp [-rowOf]
   refine CallK_of (hB H _ i s3 hi ⟨by simp only [G.c]; omega,by simp only [G.c]; omega,fun e => ⟨(m3 e).2.2 l0,by have := (m3 e).2.1; simp only [G.c] at this ⊢; omega⟩⟩) ?_
   rintro _ _ ⟨t4,s4,rfl,rfl,rs4⟩
   have bs4 := rs4.wt0 rfl
   have m4 := m3.trans rs4.mo
   try simp only at bs4
   simp [-rowOf]
   refine CallK_of' (hF.putA (j := 3) (q := 2) (rows := []) rfl rfl (by simp)) ?_
   simp [nob]
   refine CallK_of' (hF.doneA (q := 2) hi (by simp)) ?_
   simp [nag]
   simp [RetK,cutP hcl,nl]
   refine fin_node [t3,t4] (by simp) (by simp) ?_
   clear m3 m4 bs3 bs4
   rcases rs3.none' with ⟨q,a,e,rfl,e3⟩ | ⟨k,e,rfl⟩
   · obtain ⟨b,rfl,e4⟩ := rs4.some'
     simp only [G.wt] at e4
     simp [Rel,pp,kLet,kIf,kWhile,h1,h2,ch3,e,PR.then]; omega
   rcases rs4.none' with ⟨q,a,e',rfl,e4⟩ | ⟨k',e',rfl⟩
   · simp [Rel,pp,kLet,kIf,kWhile,h1,h2,ch3,e,e',PR.then]; omega
   simp [Rel,pp,kLet,kIf,kWhile,h1,h2,ch3,e,e',PR.then]
 | false =>
 rw [tookS_f h3]
 simp
 refine CallK_of' (hF.tookA hi _ (by omega)) ?_
 cases h4 : tookB L [112,114,105,110,116] s with
 | true =>
   obtain ⟨p,rfl,ch4⟩ := tookB_t h4
   have l0 := isT_lt ch4
   obtain ⟨hp2,hp3⟩ := hp.2.2 rfl
   simp only [G.c] at hp2 hp3
   simp only [G.c] at hp1
   simp at h1 h2 h3
   simp [ch4]
   refine CallK_of (hX H _ i (p + 1,none) hi ⟨by simp only [G.c]; omega,by simp only [G.c]; omega,fun _ => ⟨l0,by simp only [G.c]; omega⟩⟩) ?_
   rintro _ _ ⟨t3,s3,rfl,rfl,rs3⟩
   have bs3 := rs3.le
   have m3 := rs3.mo
   try simp only at bs3
   simp [-rowOf]
   refine CallK_of' (hF.putA (j := 3) (q := 2) (rows := []) rfl rfl (by simp)) ?_
   simp [nob]
   refine CallK_of' (hF.wantA hi _ (by omega)) ?_
   generalize g6 : wantS L _ s3 = s6
   simp
   refine CallK_of' (hF.doneA (q := 2) hi (by simp)) ?_
   simp [nag]
   simp [RetK,cutP hcl,nl]
   refine fin_node [t3] (by simp) (by simp) ?_
   clear m3 bs3
   subst g6
   rcases rs3.none' with ⟨q,a,e,rfl,e3⟩ | ⟨k,e,rfl⟩
   · simp [Rel,pp,wantR,kLet,kIf,kWhile,kPrint,h1,h2,h3,ch4,e,PR.then]; omega
   have v5 := pp_adv (L := L) n .expr (p + 1)
   rw [e] at v5
   obtain ⟨w1,w2,w3⟩ := v5
   have w2 := w2 rfl
   have w3 := w3 w2
   by_cases c6 : isT L k [59] = true
   · simp [Rel,pp,wantR,kLet,kIf,kWhile,kPrint,h1,h2,h3,ch4,e,c6,PR.then]
   · simp [Rel,pp,wantR,kLet,kIf,kWhile,kPrint,h1,h2,h3,ch4,e,c6,PR.then]; omega
 | false =>
 rw [tookS_f h4]
 simp
 refine CallK_of' (hF.tookA hi _ (by omega)) ?_
 cases h5 : tookB L [114,101,116,117,114,110] s with
 | true =>
   obtain ⟨p,rfl,ch5⟩ := tookB_t h5
   have l0 := isT_lt ch5
   obtain ⟨hp2,hp3⟩ := hp.2.2 rfl
   simp only [G.c] at hp2 hp3
   simp only [G.c] at hp1
   simp at h1 h2 h3 h4
   simp [ch5]
   refine CallK_of (hX H _ i (p + 1,none) hi ⟨by simp only [G.c]; omega,by simp only [G.c]; omega,fun _ => ⟨l0,by simp only [G.c]; omega⟩⟩) ?_
   rintro _ _ ⟨t3,s3,rfl,rfl,rs3⟩
   have bs3 := rs3.le
   have m3 := rs3.mo
   try simp only at bs3
   simp [-rowOf]
   refine CallK_of' (hF.putA (j := 3) (q := 2) (rows := []) rfl rfl (by simp)) ?_
   simp [nob]
   refine CallK_of' (hF.wantA hi _ (by omega)) ?_
   generalize g6 : wantS L _ s3 = s6
   simp
   refine CallK_of' (hF.doneA (q := 2) hi (by simp)) ?_
   simp [nag]
   simp [RetK,cutP hcl,nl]
   refine fin_node [t3] (by simp) (by simp) ?_
   clear m3 bs3
   subst g6
   rcases rs3.none' with ⟨q,a,e,rfl,e3⟩ | ⟨k,e,rfl⟩
   · simp [Rel,pp,wantR,kLet,kIf,kWhile,kPrint,kReturn,h1,h2,h3,h4,ch5,e,PR.then]; omega
   have v5 := pp_adv (L := L) n .expr (p + 1)
   rw [e] at v5
   obtain ⟨w1,w2,w3⟩ := v5
   have w2 := w2 rfl
   have w3 := w3 w2
   by_cases c6 : isT L k [59] = true
   · simp [Rel,pp,wantR,kLet,kIf,kWhile,kPrint,kReturn,h1,h2,h3,h4,ch5,e,c6,PR.then]
   · simp [Rel,pp,wantR,kLet,kIf,kWhile,kPrint,kReturn,h1,h2,h3,h4,ch5,e,c6,PR.then]; omega
 | false =>
 rw [tookS_f h5]
 simp
 refine CallK_of' (hF.sets' (upG hi) (by omega)) ?_
 rw [setsB_eq hEq]
 by_cases h6 : kdT L s.1 = 1 ∧ isT L (s.1 + 1) [61] = true
 · simp [h6.1,h6.2]
   refine CallK_of' (hF.wordA (j := 3) (q := 2) hi (by omega) rfl (by simp)) ?_
   generalize g2 : wordS L s = s2
   have b2 := wordS_le g2
   have m2 := wordS_mo g2
   simp [nob]
   refine CallK_of' (hF.wantA hi _ (by omega)) ?_
   generalize g4 : wantS L _ s2 = s4
   have b4 := wantS_le g4
   have m4 := m2.trans (wantS_mo g4)
   simp
   refine CallK_of (hX H _ i s4 hi (m4.pre hp (by decide) (by simp only [G.c]; omega))) ?_
   rintro _ _ ⟨t5,s5,rfl,rfl,rs5⟩
   have bs5 := rs5.le
   simp [-rowOf]
   refine CallK_of' (hF.putA (j := 3) (q := 2) (rows := []) rfl rfl (by simp)) ?_
   simp [nob]
   refine CallK_of' (hF.wantA hi _ (by omega)) ?_
   generalize g6 : wantS L _ s5 = s6
   simp
   refine CallK_of' (hF.doneA (q := 2) hi (by simp)) ?_
   simp [nag]
   simp [RetK,cutP hcl,nl]
   refine fin_node [t5] (by simp) (by simp) ?_
   clear m2 m4 b2 b4 bs5
   subst g2 g4 g6
   obtain ⟨p,st⟩ := s
   cases st with
   | some q =>
     simp only [wordS_some,wantS_some] at rs5
     obtain ⟨b,rfl,e⟩ := rs5.some'
     simp only [G.wt] at e
     simp [Rel,G.wt]; omega
   | none =>
     simp at h1 h2 h3 h4 h5 h6
     obtain ⟨hp2,hp3⟩ := hp.2.2 rfl
     simp only [G.c] at hp2 hp3
     have l6 := isT_lt h6.2
     simp [h6.1,h6.2] at rs5
     rcases rs5.none' with ⟨q,a,e,rfl,e3⟩ | ⟨k,e,rfl⟩
     · simp [Rel,pp,wantR,kLet,kIf,kWhile,kPrint,kReturn,h1,h2,h3,h4,h5,h6.1,h6.2,e,PR.then]; omega
     have v5 := pp_adv (L := L) n .expr (p + 2)
     rw [e] at v5
     obtain ⟨w1,w2,w3⟩ := v5
     have w2 := w2 rfl
     have w3 := w3 w2
     by_cases c6 : isT L k [59] = true
     · simp [Rel,pp,wantR,kLet,kIf,kWhile,kPrint,kReturn,h1,h2,h3,h4,h5,h6.1,h6.2,e,c6,PR.then]
     · simp [Rel,pp,wantR,kLet,kIf,kWhile,kPrint,kReturn,h1,h2,h3,h4,h5,h6.1,h6.2,e,c6,PR.then]; omega
 have h6' : (decide (kdT L s.1 = 1) && isT L (s.1 + 1) [61]) = false := by
  rw [Bool.and_eq_false_iff]
  by_cases hk : kdT L s.1 = 1
  · right
    cases hh : isT L (s.1 + 1) [61] with
    | false => rfl
    | true => exact absurd ⟨hk,hh⟩ h6
  · left; simpa using hk
 rw [h6']
 simp
 refine CallK_of (hX H _ i s hi ((Mo.refl s).pre hp (by decide) (by simp only [G.c]; omega))) ?_
 rintro _ _ ⟨t5,s5,rfl,rfl,rs5⟩
 have bs5 := rs5.le
 simp [-rowOf]
 refine CallK_of' (hF.putA (j := 3) (q := 2) (rows := []) rfl rfl (by simp)) ?_
 simp [nob]
 refine CallK_of' (hF.wantA hi _ (by omega)) ?_
 generalize g6 : wantS L _ s5 = s6
 simp
 refine CallK_of' (hF.doneA (q := 2) hi (by simp)) ?_
 simp [nag]
 simp [RetK,cutP hcl,nl]
 refine fin_node [t5] (by simp) (by simp) ?_
 clear bs5
 subst g6
 obtain ⟨p,st⟩ := s
 cases st with
 | some q =>
   obtain ⟨b,rfl,e⟩ := rs5.some'
   simp only [G.wt] at e
   simp [Rel,G.wt]; omega
 | none =>
   simp at h1 h2 h3 h4 h5
   simp only at h6
   obtain ⟨hp2,hp3⟩ := hp.2.2 rfl
   simp only [G.c] at hp2 hp3
   rcases rs5.none' with ⟨q,a,e,rfl,e3⟩ | ⟨k,e,rfl⟩
   · simp only [Rel,pp,wantR,kLet,kIf,kWhile,kPrint,kReturn,h1,h2,h3,h4,h5,if_neg h6,e,PR.then]; simp; omega
   have v5 := pp_adv (L := L) n .expr p
   rw [e] at v5
   obtain ⟨w1,w2,w3⟩ := v5
   have w2 := w2 rfl
   have w3 := w3 w2
   by_cases c6 : isT L k [59] = true
   · simp only [Rel,pp,wantR,kLet,kIf,kWhile,kPrint,kReturn,h1,h2,h3,h4,h5,if_neg h6,e,c6,PR.then]; simp [c6]
   · simp only [Rel,pp,wantR,kLet,kIf,kWhile,kPrint,kReturn,h1,h2,h3,h4,h5,if_neg h6,e,c6,PR.then]; simp [c6]; omega
end
end
section
section
variable {P : Program} {F : PF} {z : Bool} {L : List Tk}
theorem PHas.file0 (hF : PHas P F) (hL : L.length ≤ 1048576) (n : Nat) (hn : n ≤ 1099511627776) (hr0 : 16 * L.length + 7 ≤ n + 1) (hU : ∀ m,m < n + 1 → UC P F.tp z L m .use F.use_) (hD : ∀ m,m < n + 1 → UC P F.tp z L m .defn F.def_) {H : Hp} {i : Nat} (hi : i < H.length) :
 ACall P F.file [.ptr i 0] (H.set i (pst F.tp z L (0,none))) (PQ F.tp z L (n + 1) (.file []) H i [] (0,none)) := by
 obtain ⟨fn,hf,hcf⟩ := hF.file
 refine acall_norm (acall_fin hf hcf (by simp [irPFile]) fun hcl _ => ?_)
 simp [irPFile]
 refine CallK_of' (hF.nodeA hi _) ?_
 simp [nag]
 obtain ⟨XX,hXX⟩ : ∃ XX : List N → Hp,XX = fun ks => [Ob.box F.tn [.d (.int .i64 0),.d (.int .i64 0),.d (.int .i64 0),.d (.str []),.d (.int .i64 0),.d (.sl true 6 [])],nob F.tn 1 0 0 [] 0 true [] (H.length + 2),.tok ks.length 6 F.tn,nob F.tn 1 0 0 [] 0 true (ks.map N.enc) (H.length + 2)] := ⟨_,rfl⟩
 obtain ⟨E,hE⟩ : ∃ E : Fr → Hp → Prop,E = fun fr H' => ∃ ks s',(fr 0 = .ptr i 0 ∧ fr 2 = .ptr H.length 0 ∧ fr 3 = .ptr (H.length + 3) 0) ∧ Rel L (n + 1) (.file []) (0,none) (N.new 1 0 s'.1 [] 0 ks) s' ∧ H' = H.set i (pst F.tp z L s') ++ XX ks := ⟨_,rfl⟩
 have hE1 : ∀ fr ks s',(fr 0 = .ptr i 0 ∧ fr 2 = .ptr H.length 0 ∧ fr 3 = .ptr (H.length + 3) 0) → Rel L (n + 1) (.file []) (0,none) (N.new 1 0 s'.1 [] 0 ks) s' → E fr (H.set i (pst F.tp z L s') ++ XX ks) := fun fr ks s' h h' => by subst hE; exact ⟨ks,s',h,h',rfl⟩
 refine LoopK_outR 0 E (fun _ _ => False) ?_ (fun _ _ h => h.elim) ?_
 rotate_left
 · intro fr H' h
   subst hE
   obtain ⟨ks,s',⟨f0,f2,f3⟩,hr,rfl⟩ := h
   subst hXX
   simp [f0,f3,nob]
   refine CallK_of' (hF.doneA (q := 2) hi (by simp)) ?_
   simp [nag,f2]
   simp [RetK,cutP hcl,nl]
   exact fin_node ks (by simp) (by simp) hr
 clear hE
 have hcut : ∀ ks s',Hp.cut (H.length + 4) (H.set i (pst F.tp z L s') ++ XX ks) = H.set i (pst F.tp z L s') ++ XX ks := fun ks s' => by
  rw [cutPk hcl,hXX]; simp [nob]
 have hil2 : i < H.length + 4 := by omega
 refine LoopM_of (H.length + 4) (fun d fr H' => ∃ ks s',(fr 0 = .ptr i 0 ∧ fr 2 = .ptr H.length 0 ∧ fr 3 = .ptr (H.length + 3) 0) ∧ H' = H.set i (pst F.tp z L s') ++ XX ks ∧
  ((d = 0 ∧ s'.2 ≠ none ∧ ∀ m,Rel L (n + 1) (.file []) (0,none) m s') ∨ ∃ p1,s' = (p1,none) ∧ d ≤ n + 1 ∧ pp L (n + 1) (.file []) 0 = pp L d (.file ks) p1 ∧ p1 ≤ L.length ∧ 16 * (L.length - p1) + 7 ≤ d ∧ ks.length ≤ p1)) (n + 1) (by simp) ⟨[],(0,none),by simp [hil2],?_,.inr ⟨0,rfl,by omega,rfl,by omega,by omega,by simp⟩⟩ ?_
 · rw [← hcut,hXX]; simp [nob]
 · rintro d fr H' ⟨ks,s',⟨f0,f2,f3⟩,rfl,hd⟩
   have hi' := pget (tp := F.tp) (z := z) (L := L) (H := H) hi s' (XX ks)
   rcases hd with ⟨rfl,q1,q2⟩ | ⟨p1,rfl,hdn,hpp,hp1',hrk,hks⟩
   · obtain ⟨p',st'⟩ := s'
     cases st' with
     | none => simp at q1
     | some q =>
       simp [f0,hi']
       exact hE1 _ ks _ (by simp [f0,f2,f3]) (q2 _)
   · obtain ⟨d',rfl⟩ : ∃ d',d = d' + 1 := ⟨d - 1,by omega⟩
     have hRel : ∀ m s',(match pp L (d' + 1) (.file ks) p1 with | .out => False | .bad q => s'.2 = some q ∧ s'.1 ≤ L.length + (n + 1) | .ok m' k => m = m' ∧ s' = (k,none)) → Rel L (n + 1) (.file []) (0,none) m s' := fun m s' h => by
      unfold Rel
      simp only
      rw [hpp]; exact h
     obtain ⟨ta,tl,htk⟩ := tokA_k L p1
     simp [f0,hi']
     refine CallK_of' (hF.nowA hi) ?_
     rw [htk]
     by_cases hk0 : kdT L p1 = 0
     · simp [hk0]
       refine hE1 _ ks _ (by simp [f0,f2,f3]) (hRel _ _ ?_)
       simp [pp,hk0]
     have l1 : p1 < L.length := kdT_lt hk0
     simp [hk0,f0]
     refine CallK_of' (hF.isA hi _) ?_
     have hput : ∀ (t3 : N),((XX ks).set 2 (.tok (ks.map N.enc ++ [t3.enc]).length 6 F.tn)).set 3 (nob F.tn 1 0 0 [] 0 true (ks.map N.enc ++ [t3.enc]) (H.length + 2)) = XX (ks ++ [t3]) := fun t3 => by rw [hXX]; simp
     cases hu : isT L p1 [117,115,101] with
     | true =>
       simp [f0,hu]
       refine CallK_of (hU d' (by omega) H _ i (p1,none) hi ⟨by simp only [G.c]; omega,by simp only [G.c]; omega,fun _ => ⟨hp1',by simp only [G.c]; omega⟩⟩) ?_
       rintro _ _ ⟨t3,s3,rfl,rfl,r3⟩
       simp [-rowOf,f3]
       refine CallK_of' (hF.putA (j := 3) (q := 2) (rows := ks.map N.enc) (by rw [hXX]; rfl) (by rw [hXX]; simp) (by simp; omega)) ?_
       rw [hput]
       simp
       rcases r3.none' with ⟨q,b,hq,rfl,e3⟩ | ⟨j,hj,rfl⟩
       · refine NextM_of (H.length + 4) 0 (Nat.le_refl _) (by rw [hXX]; simp) (by omega) ⟨ks ++ [t3],(b,some q),by simp [f0,f2,f3,hil2],hcut _ _,.inl ⟨rfl,by simp,fun m => hRel _ _ ?_⟩⟩
         simp [pp,hk0,hu,kUse,hq,PR.then]; omega
       · have := pp_adv (L := L) d' .use p1
         rw [hj] at this
         obtain ⟨v1,v2,v3⟩ := this
         have v2 := v2 rfl
         refine NextM_of (H.length + 4) d' (Nat.le_refl _) (by rw [hXX]; simp) (by omega) ⟨ks ++ [t3],(j,none),by simp [f0,f2,f3,hil2],hcut _ _,.inr ⟨j,rfl,by omega,?_,v3 v2,by have := v3 v2; omega,by simp; omega⟩⟩
         rw [hpp]; simp [pp,hk0,hu,kUse,hj,PR.then]
     | false =>
     simp [hu,f0]
     refine CallK_of' (hF.isA hi _) ?_
     cases hv : isT L p1 [100,101,102] with
     | true =>
       simp [f0,hv]
       refine CallK_of (hD d' (by omega) H _ i (p1,none) hi ⟨by simp only [G.c]; omega,by simp only [G.c]; omega,fun _ => ⟨hp1',by simp only [G.c]; omega⟩⟩) ?_
       rintro _ _ ⟨t3,s3,rfl,rfl,r3⟩
       simp [-rowOf,f3]
       refine CallK_of' (hF.putA (j := 3) (q := 2) (rows := ks.map N.enc) (by rw [hXX]; rfl) (by rw [hXX]; simp) (by simp; omega)) ?_
       rw [hput]
       simp
       rcases r3.none' with ⟨q,b,hq,rfl,e3⟩ | ⟨j,hj,rfl⟩
       · refine NextM_of (H.length + 4) 0 (Nat.le_refl _) (by rw [hXX]; simp) (by omega) ⟨ks ++ [t3],(b,some q),by simp [f0,f2,f3,hil2],hcut _ _,.inl ⟨rfl,by simp,fun m => hRel _ _ ?_⟩⟩
         simp [pp,hk0,hu,kUse,hq,PR.then]; omega
       · have := pp_adv (L := L) d' .defn p1
         rw [hj] at this
         obtain ⟨v1,v2,v3⟩ := this
         have v2 := v2 rfl
         refine NextM_of (H.length + 4) d' (Nat.le_refl _) (by rw [hXX]; simp) (by omega) ⟨ks ++ [t3],(j,none),by simp [f0,f2,f3,hil2],hcut _ _,.inr ⟨j,rfl,by omega,?_,v3 v2,by have := v3 v2; omega,by simp; omega⟩⟩
         rw [hpp]; simp [pp,hk0,hu,kUse,hj,PR.then]
     | false =>
       obtain ⟨d2,rfl⟩ : ∃ d2,d' = d2 + 1 := ⟨d' - 1,by omega⟩
       simp [hv,f0]
       refine CallK_of' (hF.failA hi) ?_
       simp
       refine NextM_of (H.length + 4) 0 (Nat.le_refl _) (by rw [hXX]; simp) (by omega) ⟨ks,(p1,some p1),by simp [f0,f2,f3,hil2],hcut _ _,.inl ⟨rfl,by simp,fun m => hRel _ _ ?_⟩⟩
       simp [pp,hk0,hu,kUse,kDef,hv,wantR,PR.then]; omega
structure PAll (P : Program) (F : PF) (z : Bool) (L : List Tk) (n : Nat) : Prop where
 use_ : UC P F.tp z L n .use F.use_
 def_ : UC P F.tp z L n .defn F.def_
 params : UC P F.tp z L n .params F.params
 param : UCc P F.tp F.tb z L n .param F.param
 typed : UC P F.tp z L n .typed F.typed
 kind : UC P F.tp z L n .kind F.kind
 tfield : UCc P F.tp F.tb z L n .tfield F.tfield
 block : UC P F.tp z L n .block F.block
 stmt : UC P F.tp z L n .stmt F.stmt
 expr : UC P F.tp z L n .expr F.expr
 sum : UC P F.tp z L n .sum F.sum
 term : UC P F.tp z L n .term F.term
 post : UC P F.tp z L n .post F.post
 atom : UC P F.tp z L n .atom F.atom
 entry : UCc P F.tp F.tb z L n .entry F.entry
theorem UC_zero {tp : TypeId} {g : G} {f : FuncId} (hg : 0 < g.c) : UC P tp z L 0 g f := fun H X i s hi hp => absurd hp.2.1 (by omega)
theorem UCc_zero {tp tb : TypeId} {g : G} {f : FuncId} (hg : 0 < g.c) : UCc P tp tb z L 0 g f := fun H X i q s hi hq hp => absurd hp.2.1 (by omega)
theorem PHas.all (hF : PHas P F) (hL : L.length ≤ 1048576) (hEq : ∀ i,isT L i [61] = true → kdT L i = 5) : ∀ n,n ≤ 1099511627776 → PAll P F z L n := by
 intro n
 induction n using Nat.strongRecOn with
 | ind n ih =>
 intro hn
 cases n with
 | zero => exact ⟨UC_zero (by decide),UC_zero (by decide),UC_zero (by decide),UCc_zero (by decide),UC_zero (by decide),UC_zero (by decide),UCc_zero (by decide),UC_zero (by decide),UC_zero (by decide),UC_zero (by decide),UC_zero (by decide),UC_zero (by decide),UC_zero (by decide),UC_zero (by decide),UCc_zero (by decide)⟩
 | succ n =>
   have a : ∀ m,m < n + 1 → PAll P F z L m := fun m hm => ih m hm (by omega)
   have b := a n (by omega)
   have hn' : n ≤ 1099511627776 := by omega
   exact ⟨hF.use' hL n,hF.def' hL n hn' b.params b.typed b.block,hF.params' hL n hn' (fun m hm => (a m (by omega)).param),hF.param' hL n hn' b.typed,hF.typed' hL n hn' b.kind,
    hF.kind' hL n hn' (fun m hm => (a m (by omega)).tfield) (fun m hm => (a m hm).kind),hF.tfield' hL n hn' b.kind,hF.block' hL n hn' (fun m hm => (a m (by omega)).stmt),hF.stmt' hL hEq n hn' b.expr b.typed b.block,
    hF.expr' hL n hn' b.sum,hF.sum' hL n hn' (fun m hm => (a m hm).term),hF.term' hL n hn' (fun m hm => (a m hm).post),hF.post' hL n hn' b.atom (fun m hm => (a m (by omega)).expr),
    hF.atom' hL n hn' b.expr (fun m hm => (a m (by omega)).entry) b.params b.typed b.block,hF.entry' hL n hn' b.expr⟩
theorem PHas.fileA (hF : PHas P F) (hL : L.length ≤ 1048576) (hEq : ∀ i,isT L i [61] = true → kdT L i = 5) {H X : Hp} {i : Nat} (hi : i < H.length) :
 ACall P F.file [.ptr i 0] (H.set i (pst F.tp z L (0,none)) ++ X) (PQ F.tp z L (16 * L.length + 8) (.file []) H i X (0,none)) := by
 have ha : ∀ m,m < 16 * L.length + 7 + 1 → PAll P F z L m := fun m hm => hF.all hL hEq m (by omega)
 have := hF.file0 hL (16 * L.length + 7) (by omega) (by omega) (fun m hm => (ha m hm).use_) (fun m hm => (ha m hm).def_) (z := z) (H := H ++ X) (i := i) (by simp; omega)
 rw [List.set_append_left _ _ hi] at this
 refine this.mono ?_
 rintro r H' ⟨m,s',rfl,rfl,hr⟩
 refine ⟨m,s',rfl,?_,hr⟩
 rw [List.append_nil,List.set_append_left _ _ hi]
end
end
section
mutual
def N.size : N → Nat
 | .mk _ _ _ _ _ _ ks => 1 + N.sizes ks
def N.sizes : List N → Nat
 | [] => 0
 | p :: r => N.size p + N.sizes r
end
mutual
def N.depth : N → Nat
 | .mk _ _ _ _ _ _ ks => 1 + N.depths ks
def N.depths : List N → Nat
 | [] => 0
 | p :: r => max (N.depth p) (N.depths r)
end
theorem N.size_mk (k f t : Int) (w : Bs) (a : Int) (z : Bool) (ks : List N) : N.size (.mk k f t w a z ks) = 1 + N.sizes ks := by rw [N.size]
theorem N.depth_mk (k f t : Int) (w : Bs) (a : Int) (z : Bool) (ks : List N) : N.depth (.mk k f t w a z ks) = 1 + N.depths ks := by rw [N.depth]
theorem N.size_new (k f t : Int) (w : Bs) (a : Int) (ks : List N) : N.size (.new k f t w a ks) = 1 + N.sizes ks := N.size_mk ..
theorem N.size_ks (m : N) : N.size m = 1 + N.sizes m.ks := by cases m; rw [N.size]; rfl
theorem N.size_bag (ks : List N) : N.size (.bag ks) = 1 + N.sizes ks := N.size_mk ..
theorem N.size_none : N.size .none = 1 := by rw [N.none,N.size_new]; rfl
theorem N.sizes_nil : N.sizes [] = 0 := rfl
theorem N.sizes_cons (p : N) (r : List N) : N.sizes (p :: r) = N.size p + N.sizes r := by rw [N.sizes]
theorem N.sizes_app : ∀ (l r : List N),N.sizes (l ++ r) = N.sizes l + N.sizes r
 | [],r => by simp [N.sizes_nil]
 | p :: l,r => by rw [List.cons_append,N.sizes_cons,N.sizes_cons,N.sizes_app l r]; omega
theorem N.sizes_mem {l : List N} {p : N} (h : p ∈ l) : N.size p ≤ N.sizes l := by
 induction l with
 | nil => cases h
 | cons q l ih =>
   rw [N.sizes_cons]
   rcases List.mem_cons.1 h with rfl | h
   · omega
   · have := ih h; omega
theorem N.size_pos (p : N) : 1 ≤ N.size p := by cases p; rw [N.size]; omega
theorem N.sizes_len (l : List N) : l.length ≤ N.sizes l := by
 induction l with
 | nil => simp
 | cons q l ih => rw [N.sizes_cons,List.length_cons]; have := N.size_pos q; omega
theorem N.depths_cons (p : N) (r : List N) : N.depths (p :: r) = max (N.depth p) (N.depths r) := by rw [N.depths]
theorem N.depths_le {b : Nat} (l : List N) (h : ∀ p ∈ l,N.depth p ≤ b) : N.depths l ≤ b := by
 induction l with
 | nil => simp [N.depths]
 | cons q l ih =>
   rw [N.depths_cons]
   have h1 := h q (by simp)
   have h2 := ih fun p hp => h p (by simp [hp])
   omega
theorem N.depth_size : ∀ n : N,N.depth n ≤ N.size n := by
 refine N.ind fun k f t w a z ks ih => ?_
 rw [N.depth_mk,N.size_mk]
 have : N.depths ks ≤ N.sizes ks := N.depths_le ks fun p hp => Nat.le_trans (ih p hp) (N.sizes_mem hp)
 omega
theorem N.depths_take_succ {l : List N} {i : Nat} (h : i < l.length) : N.depths (l.take (i + 1)) = max (N.depths (l.take i)) (N.depth l[i]) := by
 have app : ∀ a b : List N,N.depths (a ++ b) = max (N.depths a) (N.depths b) := by
  intro a b
  induction a with
  | nil => simp [N.depths]
  | cons q a ih => rw [List.cons_append,N.depths_cons,N.depths_cons,ih]; omega
 rw [List.take_succ_eq_append_getElem h,app,N.depths_cons]
 simp [N.depths]
def G.k1 : G → Nat
 | .typed | .file _ | .sumL _ | .termL _ | .postL _ => 0
 | .listL .. | .stmts _ => 4
 | _ => 2
def G.sz : G → Nat
 | .typed => 1
 | .file ks | .listL _ _ ks | .stmts ks => 1 + N.sizes ks
 | .sumL a | .termL a | .postL a => N.size a
 | _ => 0
def G.nice : G → Prop
 | .list o _ | .listL o _ _ => o.k1 = 2 ∧ o.sz = 0 ∧ o.strict = true ∧ o.nice
 | _ => True
def Sz (i A B : Nat) : PR → Prop
 | .ok m j => m.size + A ≤ B + 4 * (j - i)
 | _ => True
section
variable {L : List Tk} {i A B : Nat}
theorem Sz.bad {j : Nat} : Sz i A B (.bad j) := trivial
theorem Sz.want {k : Nat} {x : Bs} {h : Nat → PR} (hh : Sz i A B (h (k + 1))) : Sz i A B (wantR L k x h) := by
 unfold wantR
 split
 · exact hh
 · trivial
theorem Sz.word {k : Nat} {h : Bs → Nat → PR} (hh : Sz i A B (h (txT L k) (k + 1))) : Sz i A B (wordR L k h) := by
 unfold wordR
 split
 · exact hh
 · trivial
theorem Sz.ite {c : Prop} [Decidable c] {a b : PR} (ha : Sz i A B a) (hb : Sz i A B b) : Sz i A B (if c then a else b) := by
 split
 · exact ha
 · exact hb
theorem Sz.last {n : Nat} (ih : ∀ g i,g.nice → Sz i g.k1 g.sz (pp L n g i)) {g : G} {k : Nat} (hg : g.nice) (hh : ∀ x j,k ≤ j → (g.strict = true → k < j) → x + g.k1 ≤ g.sz + 4 * (j - k) → x + A ≤ B + 4 * (j - i)) : Sz i A B (pp L n g k) := by
 have h1 := ih g k hg
 have h2 := pp_adv (L := L) n g k
 generalize pp L n g k = r at h1 h2
 cases r with
 | out => trivial
 | bad j => trivial
 | ok m j => exact hh _ j h2.1 h2.2.1 h1
theorem Sz.thenG {n : Nat} (ih : ∀ g i,g.nice → Sz i g.k1 g.sz (pp L n g i)) {g : G} {k : Nat} {h : N → Nat → PR} (hg : g.nice) (hh : ∀ m j,k ≤ j → (g.strict = true → k < j) → m.size + g.k1 ≤ g.sz + 4 * (j - k) → Sz i A B (h m j)) : Sz i A B ((pp L n g k).then h) := by
 have h1 := ih g k hg
 have h2 := pp_adv (L := L) n g k
 generalize pp L n g k = r at h1 h2
 cases r with
 | out => trivial
 | bad j => trivial
 | ok m j => exact hh m j h2.1 h2.2.1 h1
theorem Sz.ok {m : N} {j : Nat} (h : m.size + A ≤ B + 4 * (j - i)) : Sz i A B (.ok m j) := h
theorem pp_size : ∀ (n : Nat) (g : G) (i : Nat),g.nice → Sz i g.k1 g.sz (pp L n g i)
 | 0,g,i,_ => trivial
 | n + 1, g, i, hg => by
   have ih := pp_size n
   cases g
   case listL one e ks =>
    obtain ⟨g1,g2,g3,g4⟩ := hg
    simp only [pp,G.k1,G.sz]
    refine Sz.thenG ih g4 fun m j h1 h2 h3 => ?_
    have h2 := h2 g3
    rw [g1,g2] at h3
    refine Sz.ite ?_ (Sz.want ?_)
    · refine Sz.ok ?_
      simp only [N.size_bag,N.sizes_nil,N.sizes_cons,N.sizes_app]; omega
    · refine Sz.last ih ⟨g1,g2,g3,g4⟩ fun x j h1 h2 h3 => ?_
      simp only [G.strict,G.k1,G.sz,true_implies,N.sizes_nil,N.sizes_cons,N.sizes_app] at h2 h3
      omega
   case list one e =>
    simp only [pp,G.k1,G.sz]
    refine Sz.ite ?_ ?_
    · refine Sz.ok ?_
      simp only [N.size_bag,N.sizes_nil]; omega
    · refine Sz.last ih hg fun x j h1 h2 h3 => ?_
      simp only [G.strict,G.k1,G.sz,true_implies,N.sizes_nil] at h2 h3
      omega
   all_goals simp only [pp,G.k1,G.sz]
   all_goals
    repeat' first
     | exact Sz.bad
     | (refine Sz.want ?_)
     | (refine Sz.word ?_)
     | (refine Sz.ite ?_ ?_)
     | (refine Sz.thenG ih (by simp [G.nice,G.k1,G.sz,G.strict]) fun m j h1 h2 h3 => ?_; have h4 := N.size_ks m; simp only [G.strict,G.k1,G.sz,Bool.false_eq_true,false_implies,true_implies,N.sizes_nil,N.sizes_cons,N.sizes_app] at h2 h3)
     | (refine Sz.ok ?_; (try simp only [N.size_new,N.size_bag,N.size_none,N.sizes_nil,N.sizes_cons,N.sizes_app]); omega)
     | (refine Sz.last ih (by simp [G.nice]) fun x j h1 h2 h3 => ?_; simp only [G.strict,G.k1,G.sz,Bool.false_eq_true,false_implies,true_implies,N.size_new,N.size_bag,N.size_none,N.sizes_nil,N.sizes_cons,N.sizes_app] at h2 h3; omega)
end
end
section
section
variable {P : Program}
theorem Has.depth {f : FuncId} {tn : TypeId} (h : Has P f (irTDepth f tn)) : ∀ (n : N),n.size ≤ 1125899906842624 → ∀ H,ACall P f [n.v] H (fun r H' => r = .d (.int .i64 (n.depth : Int)) ∧ H' = H) := by
 refine N.ind fun k f' t w a z ks ih => ?_
 intro hs H
 obtain ⟨fn,hf,hcf⟩ := h
 refine acall_fin hf hcf (by simp [irTDepth]) fun hcl _ => ?_
 rw [N.size_mk] at hs
 rw [N.v_mk,N.depth_mk]
 have hlen := N.sizes_len ks
 have hds : ∀ i,N.depths (ks.take i) ≤ 1125899906842624 := fun i => by
  refine N.depths_le _ fun p hp => ?_
  have := N.depth_size p
  have := N.sizes_mem (List.mem_of_mem_take hp)
  omega
 simp [irTDepth]
 refine LoopK_out 0 (fun fr H' => fr 3 = .d (.int .i64 (N.depths ks : Int)) ∧ ∃ X,H' = H ++ X) ?_ ?_
 · refine RangeK_of (H.length + 1) ks.length (fun i fr H' => fr 3 = .d (.int .i64 (N.depths (ks.take i) : Int)) ∧ fr 7 = .d (.sl z 6 (ks.map N.enc)) ∧ ∃ o,H' = H ++ [o]) (by omega) (by decide) (by simp) (by simp) ?_ ?_ ?_
   · simp [N.depths,cut_appk hcl]
   · rintro i fr H' hi f9 f8 ⟨f3,f7,o,rfl⟩
     have hr := rowAt_map N.enc hi
     have hm := List.getElem_mem hi
     have ih' := ih _ hm (by have := N.sizes_mem hm; omega)
     have hdt := N.depths_take_succ hi
     have hd1 := hds (i + 1)
     generalize ks[i] = x at hr ih' hdt
     obtain ⟨k2,f2,t2,w2,a2,z2,ks2⟩ := x
     rw [N.enc_mk] at hr
     rw [N.v_mk] at ih'
     simp [f9,f7,hr,f3]
     refine CallK_of' (ih' _) ?_
     simp
     refine NextK_of (H.length + 1) (Nat.le_refl _) (by simp [f9,f8]) ?_
     simp [f7,hdt,cut_appk hcl]
     omega
   · rintro fr H' f9 f8 ⟨f3,f7,o,rfl⟩
     rw [List.take_of_length_le (Nat.le_refl _)] at f3
     simp [f3]
 · rintro fr H' ⟨f3,X,rfl⟩
   have := hds ks.length
   rw [List.take_of_length_le (Nat.le_refl _)] at this
   have hw : IntKind.i64.wrap ((N.depths ks : Int) + 1) = (1 : Int) + N.depths ks := by rw [wrap_i64 (by omega) (by omega)]; omega
   simp [f3,hw]
   simp [RetK,cut_app hcl]
end
def parseF (L : List Tk) : PR := pp L (16 * L.length + 8) (.file []) 0
def parseP (L : List Tk) : N × Int × Int :=
 if L = [] ∨ kdT L (L.length - 1) ≠ 0 ∨ 4000 < L.length then (N.none,1,0) else
 match parseF L with
 | .ok n _ => if 60 < n.depth then (N.none,25,0) else (n,0,0)
 | .bad q => (N.none,24,(q : Int))
 | .out => (N.none,24,0)
section
variable {P : Program} {F : PF} {z : Bool} {L : List Tk}
theorem Has.parse {f fd} (h : Has P f (irPParse F.file fd F.tn F.tp)) (hF : PHas P F) (hd : Has P fd (irTDepth fd F.tn)) (hL : L.length ≤ 1048576) (hEq : ∀ i,isT L i [61] = true → kdT L i = 5) (H : Hp) :
 ACall P f [.d (.sl z 4 (L.map encTk))] H (fun r H' => r = .tup [(parseP L).1.v,.d (.int .i64 (parseP L).2.1),.d (.int .i64 (parseP L).2.2)] ∧ H' = H) := by
 obtain ⟨fn,hf,hcf⟩ := h
 refine acall_fin hf hcf (by simp [irPParse]) fun hcl _ => ?_
 obtain ⟨Q,hQ⟩ : ∃ Q : A → Hp → Prop,Q = fun r H' => r = .tup [(parseP L).1.v,.d (.int .i64 (parseP L).2.1),.d (.int .i64 (parseP L).2.2)] ∧ H' = H := ⟨_,rfl⟩
 rw [← hQ]
 have hnone : ∀ e b : Int,parseP L = (N.none,e,b) → Q (.tup [.agg [.d (.int .i64 0),.d (.int .i64 0),.d (.int .i64 0),.d (.str []),.d (.int .i64 0),.d (.sl true 6 [])],.d (.int .i64 e),.d (.int .i64 b)]) H := fun e b h => by
  subst hQ
  rw [h]
  exact ⟨rfl,rfl⟩
 by_cases h0 : L = []
 · subst h0
   simp [irPParse]
   simp [RetK,cut_app hcl]
   exact hnone 1 0 (by simp [parseP])
 have hl0 : 0 < L.length := List.length_pos_iff.2 h0
 have h0' : ¬ (L.length : Int) = 0 := by omega
 have hw : IntKind.i64.wrap ((L.length : Int) - 1) = ((L.length - 1 : Nat) : Int) := by rw [wrap_i64 (by omega) (by omega)]; omega
 have hr := rowAt_map encTk (l := L) (i := L.length - 1) (by omega)
 have hg : L[L.length - 1]? = some (L[L.length - 1]'(by omega)) := List.getElem?_eq_getElem (by omega)
 have hkd : kdT L (L.length - 1) = (L[L.length - 1]'(by omega)).k := by unfold kdT; rw [hg]
 generalize L[L.length - 1]'(by omega) = tk at hr hkd
 obtain ⟨k,a,l,x⟩ := tk
 simp only [encTk] at hr hkd
 by_cases h1 : k = 0
 case neg =>
  simp [irPParse,h0,h0',hw,hr,h1]
  simp [RetK,cut_app hcl]
  exact hnone 1 0 (by simp [parseP,hkd,h1])
 by_cases h2 : 4000 < L.length
 case pos =>
  have h2' : (4000 : Int) < L.length := by omega
  simp [irPParse,h0,h0',hw,hr,h1,h2']
  simp [RetK,cut_app hcl]
  exact hnone 1 0 (by simp [parseP,h2])
 have h2' : ¬ (4000 : Int) < L.length := by omega
 have hpp : parseP L = match parseF L with
  | .ok n _ => if 60 < n.depth then (N.none,25,0) else (n,0,0)
  | .bad q => (N.none,24,(q : Int))
  | .out => (N.none,24,0) := by
  unfold parseP
  rw [if_neg]
  rw [hkd,h1]
  rintro (h | h | h)
  · exact h0 h
  · exact h rfl
  · exact h2 h
 simp [irPParse,h0,h0',hw,hr,h1,h2']
 obtain ⟨r0,hr0⟩ : ∃ r0 : Ob,r0 = .box F.tn [.d (.int .i64 0),.d (.int .i64 0),.d (.int .i64 0),.d (.str []),.d (.int .i64 0),.d (.sl true 6 [])] := ⟨_,rfl⟩
 have g := hF.fileA (z := z) hL hEq (H := H ++ [r0,pst F.tp z L (0,none)]) (X := []) (i := H.length + 1) (by simp)
 have e1 : ∀ s,(H ++ [r0,pst F.tp z L (0,none)]).set (H.length + 1) (pst F.tp z L s) ++ [] = H ++ [r0,pst F.tp z L s] := fun s => by simp
 rw [e1] at g
 rw [hr0] at g
 refine CallK_of g ?_
 rintro _ _ ⟨m,s',rfl,rfl,hrel⟩
 rw [← hr0,e1]
 rw [hr0]
 rcases hrel.none' with ⟨q,b,hq,rfl,e3⟩ | ⟨k',hk,rfl⟩
 · have hq' : parseF L = .bad q := hq
   rw [hq'] at hpp
   obtain ⟨k2,f2,t2,w2,a2,z2,ks2⟩ := m
   rw [N.v_mk]
   simp [pst]
   repeat' apply And.intro
   all_goals
    simp [RetK,cut_app hcl]
    try exact hnone 24 q hpp
 · have hk' : parseF L = .ok m k' := hk
   rw [hk'] at hpp
   have hsz := pp_size (L := L) (16 * L.length + 8) (.file []) 0 trivial
   rw [show pp L (16 * L.length + 8) (.file []) 0 = .ok m k' from hk] at hsz
   simp only [Sz,G.k1,G.sz,N.sizes_nil] at hsz
   have hadv := pp_adv (L := L) (16 * L.length + 8) (.file []) 0
   rw [show pp L (16 * L.length + 8) (.file []) 0 = .ok m k' from hk] at hadv
   obtain ⟨v1,-,v3⟩ := hadv
   have hdep := N.depth_size m
   have hd' := hd.depth m (by omega)
   obtain ⟨k2,f2,t2,w2,a2,z2,ks2⟩ := m
   rw [N.v_mk] at hd'
   rw [N.v_mk]
   simp [pst]
   refine CallK_of' (hd' _) ?_
   by_cases h60 : 60 < N.depth (.mk k2 f2 t2 w2 a2 z2 ks2)
   · have h60' : (60 : Int) < N.depth (.mk k2 f2 t2 w2 a2 z2 ks2) := by omega
     simp [h60']
     simp [RetK,cut_app hcl]
     exact hnone 25 0 (by rw [hpp]; simp [h60])
   · have h60' : ¬ (60 : Int) < N.depth (.mk k2 f2 t2 w2 a2 z2 ks2) := by omega
     simp [h60']
     simp [RetK,cut_app hcl]
     subst hQ
     rw [hpp]
     simp [h60,N.v_mk]
end
end
section
def irTShowTop (c1 c2 t1 t2 t3 : Nat) : IFn := { nt := 7, res := [.t 2], body := ( .seq (.ops [ ⟨some 1,none,.box t1 6 (.t 0)⟩, ⟨some 2,none,.mv (.c (.str []))⟩] false) (.seq (.ops [ ⟨some 3,none,.allocT t2 [.nilp,(.sl true 1 [])] 1 1 t3⟩] false) (.seq (.ops [ ⟨some 4,none,.load 6 true (.t 1)⟩, ⟨some 5,none,.call c1 [(.t 3),(.t 4)]⟩] false) (.seq (.ops [ ⟨some 6,none,.call c2 [(.t 3)]⟩, ⟨some 2,none,.mv (.t 6)⟩] false) (.ret))))) }
def irTShow (c1 c2 c3 c4 t1 : Nat) : IFn := { nt := 39, res := [], body := ( .seq (.ops [ ⟨some 3,none,.box t1 6 (.t 1)⟩] false) (.seq (.seq (.ops [ ⟨some 6,none,.faddr 0 (.t 3)⟩, ⟨some 7,none,.load 1 false (.t 6)⟩, ⟨some 8,none,.bin .eql (.t 7) (.c (.int .i64 0))⟩] false) (.cond (.t 8) (.seq (.ops [ ⟨some 9,none,.mv (.t 0)⟩, ⟨some 10,none,.call c1 [(.t 9),(.c (.int .u8 45))]⟩] false) (.ret)) (.skip))) (.seq (.ops [ ⟨some 11,none,.mv (.t 0)⟩, ⟨some 12,none,.load 6 true (.t 3)⟩, ⟨some 13,none,.call c2 [(.t 12)]⟩, ⟨some 14,none,.bin .add (.c (.str [40])) (.t 13)⟩, ⟨some 15,none,.call c3 [(.t 11),(.t 14)]⟩] false) (.seq (.seq (.ops [ ⟨some 16,none,.faddr 3 (.t 3)⟩, ⟨some 17,none,.load 1 false (.t 16)⟩, ⟨some 18,none,.bin .neq (.t 17) (.c (.str []))⟩] false) (.cond (.t 18) (.ops [ ⟨some 19,none,.mv (.t 0)⟩, ⟨some 20,none,.faddr 3 (.t 3)⟩, ⟨some 21,none,.load 1 false (.t 20)⟩, ⟨some 22,none,.bin .add (.c (.str [32])) (.t 21)⟩, ⟨some 23,none,.call c3 [(.t 19),(.t 22)]⟩] false) (.skip))) (.seq (.seq (.ops [ ⟨some 24,none,.faddr 5 (.t 3)⟩, ⟨some 25,none,.load 1 false (.t 24)⟩, ⟨some 26,none,.lenL (.t 25)⟩, ⟨some 27,none,.mv (.c (.int .i64 0))⟩] false) (.blk 0 (.loop (.seq (.ops [ ⟨some 28,none,.bin .lss (.t 27) (.t 26)⟩] false) (.seq (.cond (.t 28) (.skip) (.exit 0)) (.seq (.blk 1 (.seq (.ops [ ⟨some 29,none,.iaddr 6 (.t 25) (.t 27)⟩, ⟨some 30,none,.load 6 true (.t 29)⟩, ⟨some 5,none,.alloc t1 [(.int .i64 0),(.int .i64 0),(.int .i64 0),(.str []),(.int .i64 0),(.sl true 6 [])]⟩, ⟨none,none,.store 6 (.t 5) (.t 30)⟩] false) (.seq (.ops [ ⟨some 31,none,.mv (.t 0)⟩, ⟨some 32,none,.call c1 [(.t 31),(.c (.int .u8 32))]⟩] false) (.ops [ ⟨some 33,none,.mv (.t 0)⟩, ⟨some 34,none,.load 6 true (.t 5)⟩, ⟨some 35,none,.call c4 [(.t 33),(.t 34)]⟩] false)))) (.ops [ ⟨some 36,none,.bin .add (.t 27) (.c (.int .i64 1))⟩, ⟨some 27,none,.mv (.t 36)⟩] false))))))) (.ops [ ⟨some 37,none,.mv (.t 0)⟩, ⟨some 38,none,.call c1 [(.t 37),(.c (.int .u8 41))]⟩] false)))))) }
def kindT : List Bs := [[110,111,110,101],[102,105,108,101],[117,115,101],[100,101,102],[112,97,114,97,109,115],[112,97,114,97,109],[98,108,111,99,107],[108,101,116],[115,101,116],[105,102],[119,104,105,108,101],[112,114,105,110,116],[114,101,116,117,114,110],[100,111],[108,101,115,115],[101,113,117,97,108],[112,108,117,115],[109,105,110,117,115],[116,105,109,101,115],[102,105,101,108,100],[99,97,108,108],[110,117,109,98,101,114],[116,101,120,116],[110,97,109,101],[105,110,112,117,116],[103,114,111,117,112],[114,101,99,111,114,100],[101,110,116,114,121],[108,97,109,98,100,97],[105,110,116],[115,116,114],[100,121,110],[114,101,99],[112,97,114,116],[102,110]]
def kindN (k : Int) : Bs := kindT.getD k.toNat []
mutual
def N.show : N → Bs
 | .mk k _ _ w _ _ ks => if k = 0 then [45] else [40] ++ kindN k ++ (if w = [] then [] else [32] ++ w) ++ N.shows ks ++ [41]
def N.shows : List N → Bs
 | [] => []
 | p :: r => [32] ++ N.show p ++ N.shows r
end
theorem N.show_mk (k f t : Int) (w : Bs) (a : Int) (z : Bool) (ks : List N) : N.show (.mk k f t w a z ks) = if k = 0 then [45] else [40] ++ kindN k ++ (if w = [] then [] else [32] ++ w) ++ N.shows ks ++ [41] := by rw [N.show]
theorem N.shows_cons (p : N) (r : List N) : N.shows (p :: r) = [32] ++ N.show p ++ N.shows r := by rw [N.shows]
theorem N.shows_app : ∀ l r : List N,N.shows (l ++ r) = N.shows l ++ N.shows r
 | [],r => by simp [N.shows]
 | p :: l,r => by rw [List.cons_append,N.shows_cons,N.shows_cons,N.shows_app l r]; simp
theorem N.shows_take_succ {l : List N} {i : Nat} (h : i < l.length) : N.shows (l.take (i + 1)) = N.shows (l.take i) ++ ([32] ++ N.show l[i]) := by
 rw [List.take_succ_eq_append_getElem h,N.shows_app,N.shows_cons]; simp [N.shows]
theorem N.shows_take_le (l : List N) (i : Nat) : (N.shows (l.take i)).length ≤ (N.shows l).length := by
 have : l = l.take i ++ l.drop i := (List.take_append_drop i l).symm
 rw [congrArg N.shows this,N.shows_app]; simp
theorem strOp_add' {a b : Bs} (h : a.length + b.length ≤ 9223372036854775807) : strOp .add a b = some (.str (a ++ b)) := by simp only [strOp]; rw [if_pos h]
def KindOk (P : Program) (H0 : Hp) (f : FuncId) : Prop := ∀ (n : N) H,Pre0 H0 H → 0 ≤ n.k ∧ n.k < 35 → ACall P f [n.v] H (fun r H' => r = .d (.str (kindN n.k)) ∧ H' = H)
inductive N.Kd : N → Prop
 | mk {k f t : Int} {w : Bs} {a : Int} {z : Bool} {ks : List N} (h : 0 ≤ k ∧ k < 35) (h2 : ∀ p ∈ ks,N.Kd p) : N.Kd (.mk k f t w a z ks)
def BS (bt : TypeId) (H : Hp) (b t : Nat) (bs : Bs) : Hp := (H.set b (.box bt [.ptr b 0,.osl true 1 (byteRows bs) t])).set t (.tok bs.length 1 5)
section
variable {bt : TypeId} {H X : Hp} {b t : Nat} {bs bs' : Bs}
theorem BS_len : (BS bt H b t bs).length = H.length := by simp [BS]
theorem BS_b (hb : b < H.length) (ht : t ≠ b) : (BS bt H b t bs)[b]? = some (.box bt [.ptr b 0,.osl true 1 (byteRows bs) t]) := by
 unfold BS
 rw [List.getElem?_set_ne ht]; simp [hb]
theorem BS_t (hl : t < H.length) : (BS bt H b t bs)[t]? = some (.tok bs.length 1 5) := by
 unfold BS
 simp [hl]
theorem BS_BS (ht : t ≠ b) : BS bt (BS bt H b t bs) b t bs' = BS bt H b t bs' := by
 unfold BS
 rw [List.set_comm (i := t) (j := b) _ _ ht]
 simp
theorem BS_app (hb : b < H.length) (hl : t < H.length) : BS bt (H ++ X) b t bs = BS bt H b t bs ++ X := by
 unfold BS
 rw [List.set_append_left _ _ hb,List.set_append_left _ _ (by simpa using hl)]
theorem BS_pre {H0 : Hp} (hp : Pre0 H0 H) (hb : H0.length ≤ b) (hl : H0.length ≤ t) : Pre0 H0 (BS bt H b t bs) := by
 obtain ⟨Y,rfl⟩ := hp
 unfold BS
 rw [List.set_append_right _ _ hb,List.set_append_right _ _ hl]
 exact ⟨_,rfl⟩
end
section
variable {P : Program}
theorem Has.showT {f fw fk fs tn bt} {H0 : Hp} (h : Has P f (irTShow fw fk fs f tn)) (hw : WriteBOk P fw bt) (hs : WriteSOk P fs bt) (hk : KindOk P H0 fk) : ∀ (n : N),n.Kd → ∀ (H : Hp) (b t : Nat) (a : A) (bs : Bs),Pre0 H0 H → H0.length ≤ b → H0.length ≤ t →
 H[b]? = some (.box bt [a,.osl true 1 (byteRows bs) t]) → (a = .d .nilp ∨ a = .ptr b 0) → H[t]? = some (.tok bs.length 1 5) → bs.length + n.show.length ≤ 1048576 → n.size ≤ 1048576 →
 ACall P f [.ptr b 0,n.v] H (fun r H' => r = .tup [] ∧ H' = BS bt H b t (bs ++ n.show)) := by
 refine N.ind fun k f' t' w a' z ks ih => ?_
 intro hkd H b t a bs hp hb0 ht0 hb ha ht hlen hsz
 obtain ⟨fn,hf,hcf⟩ := h
 refine acall_fin hf hcf (by simp [irTShow]) fun hcl _ => ?_
 cases hkd with
 | mk hk35 hkids =>
 rw [N.size_mk] at hsz
 have hksl := N.sizes_len ks
 have hbl := scan_len hb
 have htl := scan_len ht
 have htb : t ≠ b := fun e => by rw [e,hb] at ht; simp at ht
 obtain ⟨S,hS⟩ : ∃ S,N.show (.mk k f' t' w a' z ks) = S := ⟨_,rfl⟩
 have hcut : ∀ bs' X,Hp.cut H.length (BS bt H b t bs' ++ X) = BS bt H b t bs' := fun bs' X => by
  rw [cut_appL BS_len]
  unfold BS
  rw [Hp.cut_set,Hp.cut_set,cut_self hcl]
  simp [hbl,htl]
 have hfirst : ∀ c X,bs.length + 1 ≤ 140737488355328 → ACall P fw [.ptr b 0,.d (.int .u8 c.toNat)] (H ++ X) (fun r H' => r = .d .nili ∧ H' = BS bt H b t (bs ++ [c]) ++ X) := fun c X hl => by
  have := hw (H ++ X) b t a bs c (get_app hb X) ha (get_app ht X) hl
  rw [show ((H ++ X).set b (.box bt [.ptr b 0,.osl true 1 (byteRows (bs ++ [c])) t])).set t (.tok (bs ++ [c]).length 1 5) = BS bt H b t (bs ++ [c]) ++ X from (BS_app (X := X) hbl htl)] at this
  exact this
 have hfirstS : ∀ s X,bs.length + s.length ≤ 140737488355328 → ACall P fs [.ptr b 0,.d (.str s)] (H ++ X) (fun r H' => r = .tup [.d (.int .i64 s.length),.d .nili] ∧ H' = BS bt H b t (bs ++ s) ++ X) := fun s X hl => by
  have := hs (H ++ X) b t a bs s (get_app hb X) ha (get_app ht X) hl
  rw [show ((H ++ X).set b (.box bt [.ptr b 0,.osl true 1 (byteRows (bs ++ s)) t])).set t (.tok (bs ++ s).length 1 5) = BS bt H b t (bs ++ s) ++ X from (BS_app (X := X) hbl htl)] at this
  exact this
 have hB : ∀ c bs' X,bs'.length + 1 ≤ 140737488355328 → ACall P fw [.ptr b 0,.d (.int .u8 c.toNat)] (BS bt H b t bs' ++ X) (fun r H' => r = .d .nili ∧ H' = BS bt H b t (bs' ++ [c]) ++ X) := fun c bs' X hl => by
  have := hw (BS bt H b t bs' ++ X) b t (.ptr b 0) bs' c (get_app (BS_b hbl htb) X) (.inr rfl) (get_app (BS_t htl) X) hl
  rw [show ((BS bt H b t bs' ++ X).set b (.box bt [.ptr b 0,.osl true 1 (byteRows (bs' ++ [c])) t])).set t (.tok (bs' ++ [c]).length 1 5) = BS bt (BS bt H b t bs') b t (bs' ++ [c]) ++ X from (BS_app (X := X) (by rw [BS_len]; exact hbl) (by rw [BS_len]; exact htl)),BS_BS htb] at this
  exact this
 have hSS : ∀ s bs' X,bs'.length + s.length ≤ 140737488355328 → ACall P fs [.ptr b 0,.d (.str s)] (BS bt H b t bs' ++ X) (fun r H' => r = .tup [.d (.int .i64 s.length),.d .nili] ∧ H' = BS bt H b t (bs' ++ s) ++ X) := fun s bs' X hl => by
  have := hs (BS bt H b t bs' ++ X) b t (.ptr b 0) bs' s (get_app (BS_b hbl htb) X) (.inr rfl) (get_app (BS_t htl) X) hl
  rw [show ((BS bt H b t bs' ++ X).set b (.box bt [.ptr b 0,.osl true 1 (byteRows (bs' ++ s)) t])).set t (.tok (bs' ++ s).length 1 5) = BS bt (BS bt H b t bs') b t (bs' ++ s) ++ X from (BS_app (X := X) (by rw [BS_len]; exact hbl) (by rw [BS_len]; exact htl)),BS_BS htb] at this
  exact this
 have hshow := N.show_mk k f' t' w a' z ks
 rw [hS] at hlen ⊢
 rw [hS] at hshow
 have hkc := fun X => hk (.mk k f' t' w a' z ks) (H ++ X) (hp.app X) hk35
 rw [N.v_mk] at hkc
 rw [N.v_mk]
 simp [irTShow]
 by_cases h0 : k = 0
 · subst h0
   rw [if_pos rfl] at hshow
   have := hfirst 45 [Ob.box tn [.d (.int .i64 0),.d (.int .i64 f'),.d (.int .i64 t'),.d (.str w),.d (.int .i64 a'),.d (.sl z 6 (ks.map N.enc))]] (by omega)
   simp
   refine CallK_of' this ?_
   simp
   simp [RetK,hcut,hshow,BS_len]
 rw [if_neg h0] at hshow
 simp [h0]
 refine CallK_of' (hkc _) ?_
 simp only [N.k]
 have hlen2 : bs.length + (1 + (kindN k).length + (if w = [] then 0 else 1 + w.length) + (N.shows ks).length + 1) ≤ 1048576 := by
  have := hlen
  rw [hshow] at this
  by_cases hw0 : w = []
  · simp [hw0] at this ⊢; omega
  · simp [hw0] at this ⊢; omega
 have hadd1 : strOp .add [40] (kindN k) = some (.str (40 :: kindN k)) := strOp_add' (by simp only [List.length_cons,List.length_nil]; omega)
 simp [-strOp,hadd1]
 have g1 := hfirstS (40 :: kindN k) [Ob.box tn [.d (.int .i64 k),.d (.int .i64 f'),.d (.int .i64 t'),.d (.str w),.d (.int .i64 a'),.d (.sl z 6 (ks.map N.enc))]] (by simp only [List.length_cons]; omega)
 refine CallK_of' g1 ?_
 obtain ⟨nb,hnb⟩ : ∃ nb : Ob,nb = Ob.box tn [.d (.int .i64 k),.d (.int .i64 f'),.d (.int .i64 t'),.d (.str w),.d (.int .i64 a'),.d (.sl z 6 (ks.map N.enc))] := ⟨_,rfl⟩
 have hld : ∀ bs' X,(BS bt H b t bs' ++ nb :: X)[H.length]? = some (Ob.box tn [.d (.int .i64 k),.d (.int .i64 f'),.d (.int .i64 t'),.d (.str w),.d (.int .i64 a'),.d (.sl z 6 (ks.map N.enc))]) := fun bs' X => by
  rw [List.getElem?_append_right (by rw [BS_len]; exact Nat.le_refl _),BS_len,hnb]; simp
 have hnbc : ∀ n,nb.clr n = nb := fun n => by rw [hnb]; rfl
 have hc1 : ∀ bs' X,Hp.cut (H.length + 1) (BS bt H b t bs' ++ nb :: X) = BS bt H b t bs' ++ [nb] := fun bs' X => by
  have e : (BS bt H b t bs' ++ nb :: X) = (BS bt H b t bs' ++ [nb]) ++ X := by simp
  have e2 : BS bt H b t bs' ++ [nb] = BS bt (H ++ [nb]) b t bs' := (BS_app hbl htl).symm
  have hcl2 := cut_appk hcl 1 [nb]
  simp only [List.take,List.map,hnbc] at hcl2
  rw [e,cut_appL (by simp [BS_len]),e2]
  unfold BS
  rw [Hp.cut_set,Hp.cut_set,hcl2]
  have h1 : b < H.length + 1 := by omega
  have h2 : t < H.length + 1 := by omega
  simp [h1,h2]
 rw [← hnb]
 by_cases hw0 : w = []
 · obtain ⟨bs1,hb1⟩ : ∃ bs1,bs1 = bs ++ (40 :: kindN k) := ⟨_,rfl⟩
   have hfin : bs ++ S = bs1 ++ N.shows ks ++ [41] := by rw [hshow,hb1]; simp [hw0]
   have hb1l : bs1.length + (N.shows ks).length + 1 ≤ 1048576 := by rw [hb1]; simp [hw0] at hlen2 ⊢; omega
   rw [← hb1]
   subst hw0
   simp [hld]
   refine LoopK_out 0 (fun fr H' => fr 0 = .ptr b 0 ∧ H' = BS bt H b t (bs1 ++ N.shows ks) ++ [nb]) ?_ ?_
   · refine RangeK_of (H.length + 1) ks.length (fun i fr H' => fr 0 = .ptr b 0 ∧ fr 25 = .d (.sl z 6 (ks.map N.enc)) ∧ H' = BS bt H b t (bs1 ++ N.shows (ks.take i)) ++ [nb]) (by omega) (by decide) (by simp [BS_len]) (by simp) ?_ ?_ ?_
     · have hbl2 : b < H.length + 1 := by omega
       simp [hbl2,hc1,N.shows]
     · rintro i fr H' hi f27 f26 ⟨f0,f25,rfl⟩
       have hbl2 : b < H.length + 1 := by omega
       have hr := rowAt_map N.enc hi
       have hm := List.getElem_mem hi
       have hts := N.shows_take_succ hi
       have htl2 := N.shows_take_le ks (i + 1)
       rw [hts] at htl2
       have ih' := ih _ hm (hkids _ hm)
       have hxs := N.sizes_mem hm
       generalize ks[i] = x at hr hts htl2 ih' hxs
       simp only [List.length_append,List.length_cons,List.length_nil] at htl2
       have hxv : ∃ k2 f2 t2 w2 a2 z2,∃ ks2 : List N,x = .mk k2 f2 t2 w2 a2 z2 ks2 := by cases x; exact ⟨_,_,_,_,_,_,_,rfl⟩
       obtain ⟨k2,f2,t2,w2,a2,z2,ks2,hxe⟩ := hxv
       have hve : x.v = .agg [.d (.int .i64 k2),.d (.int .i64 f2),.d (.int .i64 t2),.d (.str w2),.d (.int .i64 a2),.d (.sl z2 6 (ks2.map N.enc))] := by rw [hxe,N.v_mk]
       have hee : x.enc = [.int .i64 k2,.int .i64 f2,.int .i64 t2,.str w2,.int .i64 a2,.sl z2 6 (ks2.map N.enc)] := by rw [hxe,N.enc_mk]
       rw [hee] at hr
       simp [f27,f25,hr,f0]
       refine CallK_of' (hB 32 _ _ (by simp; omega)) ?_
       have hrec : ∀ Y,ACall P f [.ptr b 0,x.v] (BS bt H b t (bs1 ++ N.shows (ks.take i) ++ [32]) ++ Y) (fun r H' => r = .tup [] ∧ H' = BS bt H b t (bs1 ++ N.shows (ks.take (i + 1))) ++ Y) := fun Y => by
        have := ih' (BS bt H b t (bs1 ++ N.shows (ks.take i) ++ [32]) ++ Y) b t (.ptr b 0) (bs1 ++ N.shows (ks.take i) ++ [32]) ((BS_pre hp hb0 ht0).app Y) hb0 ht0 (get_app (BS_b hbl htb) Y) (.inr rfl) (get_app (BS_t htl) Y) (by simp; omega) (by omega)
        rw [BS_app (by rw [BS_len]; exact hbl) (by rw [BS_len]; exact htl),BS_BS htb] at this
        rw [hts]
        simpa using this
       rw [hve] at hrec
       have hg5 : ∀ o,(BS bt H b t (bs1 ++ N.shows (ks.take i) ++ [32]) ++ [nb,o])[H.length + 1]? = some o := fun o => by
        rw [List.getElem?_append_right (by rw [BS_len]; omega),BS_len]; simp
       simp only [List.append_assoc] at hrec hg5
       simp [f0,hg5,BS_len]
       refine CallK_of' (hrec _) ?_
       simp
       refine NextK_of (H.length + 1) (Nat.le_refl _) (by simp [f27,f26,BS_len]) ?_
       simp [f0,hbl2,f25,hc1]
     · rintro fr H' f27 f26 ⟨f0,f25,rfl⟩
       rw [List.take_of_length_le (Nat.le_refl _)]
       simp [f0]
   · rintro fr H' ⟨f0,rfl⟩
     simp [f0]
     refine CallK_of' (hB 41 _ _ (by simp; omega)) ?_
     simp
     simp [RetK,hcut,BS_len]
     rw [hfin]; simp
 · obtain ⟨bs1,hb1⟩ : ∃ bs1,bs1 = bs ++ (40 :: kindN k) ++ (32 :: w) := ⟨_,rfl⟩
   have hfin : bs ++ S = bs1 ++ N.shows ks ++ [41] := by rw [hshow,hb1]; simp [hw0]
   have hb1l : bs1.length + (N.shows ks).length + 1 ≤ 1048576 := by rw [hb1]; simp [hw0] at hlen2 ⊢; omega
   have hadd2 : strOp .add [32] w = some (.str (32 :: w)) := strOp_add' (by simp only [List.length_cons,List.length_nil]; simp [hw0] at hlen2; omega)
   have hne : strOp .neq w [] = some (.bool true) := by simp [strOp,hw0]
   simp [-strOp,hld,hne,hadd2]
   refine CallK_of' (hSS (32 :: w) _ _ (by simp [hw0] at hlen2 ⊢; omega)) ?_
   rw [← hb1]
   simp [hld]
   refine LoopK_out 0 (fun fr H' => fr 0 = .ptr b 0 ∧ H' = BS bt H b t (bs1 ++ N.shows ks) ++ [nb]) ?_ ?_
   · refine RangeK_of (H.length + 1) ks.length (fun i fr H' => fr 0 = .ptr b 0 ∧ fr 25 = .d (.sl z 6 (ks.map N.enc)) ∧ H' = BS bt H b t (bs1 ++ N.shows (ks.take i)) ++ [nb]) (by omega) (by decide) (by simp [BS_len]) (by simp) ?_ ?_ ?_
     · have hbl2 : b < H.length + 1 := by omega
       simp [hbl2,hc1,N.shows]
     · rintro i fr H' hi f27 f26 ⟨f0,f25,rfl⟩
       have hbl2 : b < H.length + 1 := by omega
       have hr := rowAt_map N.enc hi
       have hm := List.getElem_mem hi
       have hts := N.shows_take_succ hi
       have htl2 := N.shows_take_le ks (i + 1)
       rw [hts] at htl2
       have ih' := ih _ hm (hkids _ hm)
       have hxs := N.sizes_mem hm
       generalize ks[i] = x at hr hts htl2 ih' hxs
       simp only [List.length_append,List.length_cons,List.length_nil] at htl2
       have hxv : ∃ k2 f2 t2 w2 a2 z2,∃ ks2 : List N,x = .mk k2 f2 t2 w2 a2 z2 ks2 := by cases x; exact ⟨_,_,_,_,_,_,_,rfl⟩
       obtain ⟨k2,f2,t2,w2,a2,z2,ks2,hxe⟩ := hxv
       have hve : x.v = .agg [.d (.int .i64 k2),.d (.int .i64 f2),.d (.int .i64 t2),.d (.str w2),.d (.int .i64 a2),.d (.sl z2 6 (ks2.map N.enc))] := by rw [hxe,N.v_mk]
       have hee : x.enc = [.int .i64 k2,.int .i64 f2,.int .i64 t2,.str w2,.int .i64 a2,.sl z2 6 (ks2.map N.enc)] := by rw [hxe,N.enc_mk]
       rw [hee] at hr
       simp [f27,f25,hr,f0]
       refine CallK_of' (hB 32 _ _ (by simp; omega)) ?_
       have hrec : ∀ Y,ACall P f [.ptr b 0,x.v] (BS bt H b t (bs1 ++ N.shows (ks.take i) ++ [32]) ++ Y) (fun r H' => r = .tup [] ∧ H' = BS bt H b t (bs1 ++ N.shows (ks.take (i + 1))) ++ Y) := fun Y => by
        have := ih' (BS bt H b t (bs1 ++ N.shows (ks.take i) ++ [32]) ++ Y) b t (.ptr b 0) (bs1 ++ N.shows (ks.take i) ++ [32]) ((BS_pre hp hb0 ht0).app Y) hb0 ht0 (get_app (BS_b hbl htb) Y) (.inr rfl) (get_app (BS_t htl) Y) (by simp; omega) (by omega)
        rw [BS_app (by rw [BS_len]; exact hbl) (by rw [BS_len]; exact htl),BS_BS htb] at this
        rw [hts]
        simpa using this
       rw [hve] at hrec
       have hg5 : ∀ o,(BS bt H b t (bs1 ++ N.shows (ks.take i) ++ [32]) ++ [nb,o])[H.length + 1]? = some o := fun o => by
        rw [List.getElem?_append_right (by rw [BS_len]; omega),BS_len]; simp
       simp only [List.append_assoc] at hrec hg5
       simp [f0,hg5,BS_len]
       refine CallK_of' (hrec _) ?_
       simp
       refine NextK_of (H.length + 1) (Nat.le_refl _) (by simp [f27,f26,BS_len]) ?_
       simp [f0,hbl2,f25,hc1]
     · rintro fr H' f27 f26 ⟨f0,f25,rfl⟩
       rw [List.take_of_length_le (Nat.le_refl _)]
       simp [f0]
   · rintro fr H' ⟨f0,rfl⟩
     simp [f0]
     refine CallK_of' (hB 41 _ _ (by simp; omega)) ?_
     simp
     simp [RetK,hcut,BS_len]
     rw [hfin]; simp
end
end
section
open Go Go.Proofs Go.Lib
open Go.RowKit (Below)
open Go.ChangeShapes Go.RowKit
def NamesG (g : Nat) (H0 : Hp) : Prop := ∀ w : World,(∀ (i : Nat) (g : Nat) (cs : List Value),H0[i]? = some (.glob g cs) → ∃ ty fr,w.heap[g]? = some (.cells cs.toArray ty fr)) →
 ∀ k,k < 35 → w.cell? ⟨g,k,none⟩ = some (.string ⟨(kindT.getD k []).toArray⟩)
theorem names_of {κ : K} {H H0 : Hp} {w : World} {g : Nat} (hr : HR κ H w) (hp : Pre0 H0 H) (hG : NamesG g H0) : ∀ k,k < 35 → w.cell? ⟨g,k,none⟩ = some (.string ⟨(kindT.getD k []).toArray⟩) := by
 obtain ⟨X,rfl⟩ := hp
 refine hG w fun i g cs hi => ?_
 have hlt := (List.getElem?_eq_some_iff.1 hi).1
 obtain ⟨ty,fr,h⟩ := hr.ob i _ (by rw [List.getElem?_append_left hlt]; exact hi)
 exact ⟨ty,fr,by rw [hr.below.block g (Array.getElem?_eq_some_iff.1 h).1]; exact h⟩
def namesData : DataW Unit := .agg (kindT.map fun s => .lit (.string s))
theorem names_of_reads {P : Program} {w : World} {n : String} {g : Nat} {t ts : TypeId} (hn : P.globalNamed n = some g) (hty : (P.globals[g]?).map (·.type) = some t) (ht : P.underlying t = some (.array 35 ts)) (hs : P.underlying ts = some .string) (hc : P.cellsOf ts = 1)
 (h : VarReads P w n namesData) : ∀ k,k < 35 → w.cell? ⟨g,k,none⟩ = some (.string ⟨(kindT.getD k []).toArray⟩) := by
 intro k hk
 obtain ⟨g',t',cs,fuel,p,hg,hty',hvar,hd⟩ := h
 obtain rfl := Option.some.inj (hn.symm.trans hg)
 obtain rfl := Option.some.inj (hty.symm.trans hty')
 obtain ⟨fuel',d,q,hdi,he⟩ := array_elem ht hd k hk
 have hkl : k < kindT.length := hk
 rw [List.getElem?_map,List.getElem?_eq_getElem hkl] at hdi
 simp only [Option.map_some,Option.some.injEq] at hdi
 subst hdi
 rw [hc] at he
 obtain ⟨s,hcs,hx,-⟩ := DataW.trod_string hs he
 have hx' : kindT[k] = s.data.toList := by
  have := congrArg Prod.fst hx
  simpa using this
 rw [World.var?_cell hg hvar k,← Array.getElem?_toList]
 have h0 := congrArg (·[0]?) hcs
 simp only [List.getElem?_take,List.getElem?_drop] at h0
 have : s = ⟨(kindT.getD k []).toArray⟩ := by
  rw [List.getD_eq_getElem?_getD,List.getElem?_eq_getElem hkl,Option.getD_some,hx']
 rw [← this]
 simpa using h0
theorem laid_heapN {W : World} {g3 g4 g0 g1 g : Nat} {H0 : Hp} (hL : LaidOb W H0) (hG : TabsG g3 g4 g0 g1 H0) (hn : ∀ k,k < 35 → W.cell? ⟨g,k,none⟩ = some (.string ⟨(kindT.getD k []).toArray⟩)) :
 ∃ H0,LaidOb W H0 ∧ TabsG g3 g4 g0 g1 H0 ∧ NamesG g H0 := by
 obtain ⟨c,y,f,b⟩ := cells_of_cell (hn 0 (by omega))
 refine ⟨H0 ++ [.glob g c.toList],?_,?_,?_⟩
 · intro i x hx
   rcases Nat.lt_trichotomy i H0.length with h | h | h
   · rw [List.getElem?_append_left h] at hx
     exact hL i x hx
   · rw [h] at hx
     simp at hx
     subst hx
     exact ⟨g,_,y,f,rfl,by simpa using b⟩
   · rw [List.getElem?_eq_none (by simp; omega)] at hx
     cases hx
 · intro w hw
   refine hG w fun i g cs hi => hw i g cs ?_
   rw [List.getElem?_append_left (List.getElem?_eq_some_iff.1 hi).1]
   exact hi
 · intro w hw k hk
   obtain ⟨y',f',b'⟩ := hw H0.length g c.toList (by simp)
   exact cell_same (hn k hk) b b'
theorem arg_str_of {P : Program} {t : TypeId} (hu : P.underlying t = some .string) : ∀ {n : Nat} {ds : List D} {a : A} (h : Typed P n t ds) (ha : ArgOf P t ds a),∃ s : List UInt8,a = .d (.str s) ∧ s.length ≤ D.bulkC ds ∧ s.length + 1 ≤ D.bulkC ds := by
 intro n ds a h ha
 obtain ⟨x,rfl⟩ := typed_str hu h
 exact ⟨x,argOf_one (by rw [hu]; simp) ha,by simp only [D.bulkC,D.bulk]; omega,by simp only [D.bulkC,D.bulk]; omega⟩
end
end Go.Zam
namespace Go.Proofs
section
open Go.Shelf
def Tryz.lays137_ren : Go.Shelf.Ren := ⟨fun | 137 => 87 | 217 => 101 | 266 => 108 | n => n,fun | 9 => 9 | 5 => 5 | 3 => 3 | n => n,fun | n => n⟩
theorem Tryz.lays137 : Go.Proofs.Lays.n137 Tryz.prog Tryz.lays137_ren := {
 mixed := by kernel_rfl
 f137 := Tryz.func87.trans (congrArg some (by kernel_rfl))
 f217 := Tryz.func101.trans (congrArg some (by kernel_rfl))
 f266 := Tryz.func108.trans (congrArg some (by kernel_rfl))
 t3 := Tryz.underlying3
 a3 := Tryz.isAgg3
 z3 := Tryz.sizeOf3
 v3 := Tryz.zeroValue3
 t5 := Tryz.underlying5
 a5 := Tryz.isAgg5
 z5 := Tryz.sizeOf5
 v5 := Tryz.zeroValue5
 t9 := Tryz.underlying9
 a9 := Tryz.isAgg9
 z9 := Tryz.sizeOf9
 v9 := Tryz.zeroValue9 }
open Go.RowKit in
theorem Tryz.strings_IndexByte (s : ByteArray) (c : Int) (w : World) :
 Calls Tryz.prog 87 #[.string s,.int .u8 c] w fun e w' => e = .returned (.int .i64 (Lib.indexByte s.data.toList c.toNat.toUInt8)) ∧ w' = w := Any.strings_IndexByte Tryz.lays137 s c w
def Tryz.laysPu14_ren : Go.Shelf.Ren := ⟨fun | 14 => 74 | 16 => 85 | 17 => 86 | 19 => 95 | 20 => 96 | 21 => 97 | 22 => 98 | 23 => 99 | 24 => 100 | 25 => 105 | 27 => 107 | 26 => 106 | 28 => 112 | 29 => 115 | 30 => 118 | 31 => 119 | 32 => 120 | 33 => 121 | 35 => 125 | 34 => 124 | 36 => 126 | 37 => 127 | 38 => 128 | 39 => 131 | 40 => 132 | n => n,fun | 9 => 9 | 3 => 3 | 22 => 97 | 24 => 101 | 25 => 108 | 4 => 4 | 34 => 125 | 5 => 5 | 36 => 116 | 37 => 72 | 0 => 0 | 39 => 127 | 21 => 21 | 44 => 132 | 47 => 105 | 50 => 138 | 48 => 136 | 2 => 2 | 52 => 140 | 55 => 143 | 59 => 147 | 60 => 148 | 20 => 20 | 61 => 149 | 65 => 153 | 66 => 154 | 67 => 65 | n => n,fun | 0 => 3 | 1 => 4 | 2 => 6 | 3 => 7 | 4 => 8 | n => n⟩
theorem Tryz.laysPu14 : Go.Proofs.LaysPu.n14 Tryz.prog Tryz.laysPu14_ren := {
 mixed := by kernel_rfl
 f14 := Tryz.func74.trans (congrArg some (by kernel_rfl))
 f16 := Tryz.func85.trans (congrArg some (by kernel_rfl))
 f17 := Tryz.func86.trans (congrArg some (by kernel_rfl))
 f19 := Tryz.func95.trans (congrArg some (by kernel_rfl))
 f20 := Tryz.func96.trans (congrArg some (by kernel_rfl))
 f21 := Tryz.func97.trans (congrArg some (by kernel_rfl))
 f22 := Tryz.func98.trans (congrArg some (by kernel_rfl))
 f23 := Tryz.func99.trans (congrArg some (by kernel_rfl))
 f24 := Tryz.func100.trans (congrArg some (by kernel_rfl))
 f25 := Tryz.func105.trans (congrArg some (by kernel_rfl))
 f26 := Tryz.func106.trans (congrArg some (by kernel_rfl))
 f27 := Tryz.func107.trans (congrArg some (by kernel_rfl))
 f28 := Tryz.func112.trans (congrArg some (by kernel_rfl))
 f29 := Tryz.func115.trans (congrArg some (by kernel_rfl))
 f30 := Tryz.func118.trans (congrArg some (by kernel_rfl))
 f31 := Tryz.func119.trans (congrArg some (by kernel_rfl))
 f32 := Tryz.func120.trans (congrArg some (by kernel_rfl))
 f33 := Tryz.func121.trans (congrArg some (by kernel_rfl))
 f34 := Tryz.func124.trans (congrArg some (by kernel_rfl))
 f35 := Tryz.func125.trans (congrArg some (by kernel_rfl))
 f36 := Tryz.func126.trans (congrArg some (by kernel_rfl))
 f37 := Tryz.func127.trans (congrArg some (by kernel_rfl))
 f38 := Tryz.func128.trans (congrArg some (by kernel_rfl))
 f39 := Tryz.func131.trans (congrArg some (by kernel_rfl))
 f40 := Tryz.func132.trans (congrArg some (by kernel_rfl))
 t0 := Tryz.underlying0
 a0 := Tryz.isAgg0
 z0 := Tryz.sizeOf0
 v0 := Tryz.zeroValue0
 i0 := by kernel_rfl
 t2 := Tryz.underlying2
 a2 := Tryz.isAgg2
 z2 := Tryz.sizeOf2
 v2 := Tryz.zeroValue2
 i2 := by kernel_rfl
 t3 := Tryz.underlying3
 a3 := Tryz.isAgg3
 z3 := Tryz.sizeOf3
 v3 := Tryz.zeroValue3
 i3 := by kernel_rfl
 t4 := Tryz.underlying4
 a4 := Tryz.isAgg4
 z4 := Tryz.sizeOf4
 v4 := Tryz.zeroValue4
 i4 := by kernel_rfl
 t5 := Tryz.underlying5
 a5 := Tryz.isAgg5
 z5 := Tryz.sizeOf5
 v5 := Tryz.zeroValue5
 i5 := by kernel_rfl
 t9 := Tryz.underlying9
 a9 := Tryz.isAgg9
 z9 := Tryz.sizeOf9
 v9 := Tryz.zeroValue9
 i9 := by kernel_rfl
 t20 := Tryz.underlying20
 a20 := Tryz.isAgg20
 z20 := Tryz.sizeOf20
 v20 := Tryz.zeroValue20
 i20 := by kernel_rfl
 t21 := Tryz.underlying21
 a21 := Tryz.isAgg21
 z21 := Tryz.sizeOf21
 v21 := Tryz.zeroValue21
 i21 := by kernel_rfl
 t22 := Tryz.underlying97
 a22 := Tryz.isAgg97
 z22 := Tryz.sizeOf97
 v22 := Tryz.zeroValue97
 i22 := by kernel_rfl
 t24 := Tryz.underlying101
 a24 := Tryz.isAgg101
 z24 := Tryz.sizeOf101
 v24 := Tryz.zeroValue101
 i24 := by kernel_rfl
 t25 := Tryz.underlying108
 a25 := Tryz.isAgg108
 z25 := Tryz.sizeOf108
 v25 := Tryz.zeroValue108
 i25 := by kernel_rfl
 t34 := Tryz.underlying125
 a34 := Tryz.isAgg125
 z34 := Tryz.sizeOf125
 v34 := Tryz.zeroValue125
 i34 := by kernel_rfl
 c34 := by kernel_rfl
 t36 := Tryz.underlying116
 a36 := Tryz.isAgg116
 z36 := Tryz.sizeOf116
 v36 := Tryz.zeroValue116
 i36 := by kernel_rfl
 t37 := Tryz.underlying72
 a37 := Tryz.isAgg72
 z37 := Tryz.sizeOf72
 v37 := Tryz.zeroValue72
 i37 := by kernel_rfl
 t39 := Tryz.underlying127
 a39 := Tryz.isAgg127
 z39 := Tryz.sizeOf127
 v39 := Tryz.zeroValue127
 i39 := by kernel_rfl
 t44 := Tryz.underlying132
 a44 := Tryz.isAgg132
 z44 := Tryz.sizeOf132
 v44 := Tryz.zeroValue132
 i44 := by kernel_rfl
 t47 := Tryz.underlying105
 a47 := Tryz.isAgg105
 z47 := Tryz.sizeOf105
 v47 := Tryz.zeroValue105
 i47 := by kernel_rfl
 t48 := Tryz.underlying136
 a48 := Tryz.isAgg136
 z48 := Tryz.sizeOf136
 v48 := Tryz.zeroValue136
 i48 := by kernel_rfl
 t50 := Tryz.underlying138
 a50 := Tryz.isAgg138
 z50 := Tryz.sizeOf138
 v50 := Tryz.zeroValue138
 i50 := by kernel_rfl
 t52 := Tryz.underlying140
 a52 := Tryz.isAgg140
 z52 := Tryz.sizeOf140
 v52 := Tryz.zeroValue140
 i52 := by kernel_rfl
 t55 := Tryz.underlying143
 a55 := Tryz.isAgg143
 z55 := Tryz.sizeOf143
 v55 := Tryz.zeroValue143
 i55 := by kernel_rfl
 t59 := Tryz.underlying147
 a59 := Tryz.isAgg147
 z59 := Tryz.sizeOf147
 v59 := Tryz.zeroValue147
 i59 := by kernel_rfl
 t60 := Tryz.underlying148
 a60 := Tryz.isAgg148
 z60 := Tryz.sizeOf148
 v60 := Tryz.zeroValue148
 i60 := by kernel_rfl
 t61 := Tryz.underlying149
 a61 := Tryz.isAgg149
 z61 := Tryz.sizeOf149
 t65 := Tryz.underlying153
 a65 := Tryz.isAgg153
 z65 := Tryz.sizeOf153
 v65 := Tryz.zeroValue153
 i65 := by kernel_rfl
 t66 := Tryz.underlying154
 a66 := Tryz.isAgg154
 z66 := Tryz.sizeOf154
 v66 := Tryz.zeroValue154
 i66 := by kernel_rfl
 t67 := Tryz.underlying65
 a67 := Tryz.isAgg65
 z67 := Tryz.sizeOf65
 v67 := Tryz.zeroValue65
 i67 := by kernel_rfl
 g0 := by kernel_rfl
 m0 := by kernel_rfl
 g1 := by kernel_rfl
 m1 := by kernel_rfl
 g2 := by kernel_rfl
 m2 := by kernel_rfl
 g3 := by kernel_rfl
 m3 := by kernel_rfl
 g4 := by kernel_rfl
 m4 := by kernel_rfl }
def Tryz.lays99_ren : Go.Shelf.Ren := ⟨fun | 99 => 77 | 206 => 88 | n => n,fun | 9 => 9 | 4 => 4 | 3 => 3 | n => n,fun | n => n⟩
theorem Tryz.lays99 : Go.Proofs.Lays.n99 Tryz.prog Tryz.lays99_ren := {
 mixed := by kernel_rfl
 f99 := Tryz.func77.trans (congrArg some (by kernel_rfl))
 f206 := Tryz.func88.trans (congrArg some (by kernel_rfl))
 t3 := Tryz.underlying3
 a3 := Tryz.isAgg3
 z3 := Tryz.sizeOf3
 v3 := Tryz.zeroValue3
 t4 := Tryz.underlying4
 a4 := Tryz.isAgg4
 z4 := Tryz.sizeOf4
 v4 := Tryz.zeroValue4
 t9 := Tryz.underlying9
 a9 := Tryz.isAgg9
 z9 := Tryz.sizeOf9
 v9 := Tryz.zeroValue9 }
open Go.RowKit Go.Lib in
theorem Tryz.strings_HasPrefix (s p : ByteArray) (w : World) :
 Calls Tryz.prog 77 #[.string s,.string p] w fun e w' => e = .returned (.bool (Lib.hasPrefix s.data.toList p.data.toList)) ∧ w' = w := Any.strings_HasPrefix Tryz.lays99 s p w
def Tryz.lays197_ren : Go.Shelf.Ren := ⟨fun | 197 => 45 | 260 => 70 | n => n,fun | 9 => 9 | 21 => 21 | 3 => 3 | 4 => 4 | 5 => 5 | 105 => 88 | 119 => 115 | 0 => 0 | 46 => 116 | 139 => 119 | 138 => 118 | n => n,fun | 3 => 1 | 4 => 2 | n => n⟩
theorem Tryz.lays197 : Go.Proofs.Lays.n197 Tryz.prog Tryz.lays197_ren := {
 mixed := by kernel_rfl
 f197 := Tryz.func45.trans (congrArg some (by kernel_rfl))
 f260 := Tryz.func70.trans (congrArg some (by kernel_rfl))
 t0 := Tryz.underlying0
 a0 := Tryz.isAgg0
 z0 := Tryz.sizeOf0
 v0 := Tryz.zeroValue0
 t3 := Tryz.underlying3
 a3 := Tryz.isAgg3
 z3 := Tryz.sizeOf3
 v3 := Tryz.zeroValue3
 t4 := Tryz.underlying4
 a4 := Tryz.isAgg4
 z4 := Tryz.sizeOf4
 v4 := Tryz.zeroValue4
 t5 := Tryz.underlying5
 a5 := Tryz.isAgg5
 z5 := Tryz.sizeOf5
 v5 := Tryz.zeroValue5
 t9 := Tryz.underlying9
 a9 := Tryz.isAgg9
 z9 := Tryz.sizeOf9
 v9 := Tryz.zeroValue9
 t21 := Tryz.underlying21
 a21 := Tryz.isAgg21
 z21 := Tryz.sizeOf21
 v21 := Tryz.zeroValue21
 t46 := Tryz.underlying116
 a46 := Tryz.isAgg116
 z46 := Tryz.sizeOf116
 v46 := Tryz.zeroValue116
 t105 := Tryz.underlying88
 a105 := Tryz.isAgg88
 z105 := Tryz.sizeOf88
 v105 := Tryz.zeroValue88
 t119 := Tryz.underlying115
 a119 := Tryz.isAgg115
 z119 := Tryz.sizeOf115
 t138 := Tryz.underlying118
 a138 := Tryz.isAgg118
 z138 := Tryz.sizeOf118
 v138 := Tryz.zeroValue118
 t139 := Tryz.underlying119
 a139 := Tryz.isAgg119
 z139 := Tryz.sizeOf119
 v139 := Tryz.zeroValue119
 g3 := by kernel_rfl
 g4 := by kernel_rfl }
def Tryz.lays260_ren : Go.Shelf.Ren := ⟨fun | 260 => 70 | n => n,fun | 9 => 9 | 21 => 21 | 3 => 3 | 4 => 4 | 5 => 5 | 119 => 115 | 0 => 0 | 46 => 116 | 139 => 119 | 138 => 118 | n => n,fun | 3 => 1 | 4 => 2 | n => n⟩
theorem Tryz.lays260 : Go.Proofs.Lays.n260 Tryz.prog Tryz.lays260_ren := {
 mixed := by kernel_rfl
 f260 := Tryz.func70.trans (congrArg some (by kernel_rfl))
 t0 := Tryz.underlying0
 a0 := Tryz.isAgg0
 z0 := Tryz.sizeOf0
 v0 := Tryz.zeroValue0
 t3 := Tryz.underlying3
 a3 := Tryz.isAgg3
 z3 := Tryz.sizeOf3
 v3 := Tryz.zeroValue3
 t4 := Tryz.underlying4
 a4 := Tryz.isAgg4
 z4 := Tryz.sizeOf4
 v4 := Tryz.zeroValue4
 t5 := Tryz.underlying5
 a5 := Tryz.isAgg5
 z5 := Tryz.sizeOf5
 v5 := Tryz.zeroValue5
 t9 := Tryz.underlying9
 a9 := Tryz.isAgg9
 z9 := Tryz.sizeOf9
 v9 := Tryz.zeroValue9
 t21 := Tryz.underlying21
 a21 := Tryz.isAgg21
 z21 := Tryz.sizeOf21
 v21 := Tryz.zeroValue21
 t46 := Tryz.underlying116
 a46 := Tryz.isAgg116
 z46 := Tryz.sizeOf116
 v46 := Tryz.zeroValue116
 t119 := Tryz.underlying115
 a119 := Tryz.isAgg115
 z119 := Tryz.sizeOf115
 t138 := Tryz.underlying118
 a138 := Tryz.isAgg118
 z138 := Tryz.sizeOf118
 v138 := Tryz.zeroValue118
 t139 := Tryz.underlying119
 a139 := Tryz.isAgg119
 z139 := Tryz.sizeOf119
 v139 := Tryz.zeroValue119
 g3 := by kernel_rfl
 g4 := by kernel_rfl }
open Go.RowKit Go.Lib in
theorem Tryz.utf8_DecodeRuneInString (s : ByteArray) (w : World) (hT : Lib.Utf8Tabs 1 2 w) :
 Calls Tryz.prog 45 #[.string s] w fun e w' => e = .returned (.tuple #[.int .i32 (Lib.decodeGo s).1,.int .i64 (Lib.decodeGo s).2]) ∧ Below w.heap.size w w' := Any.utf8_DecodeRuneInString Tryz.lays197 s w hT
end
end Go.Proofs
namespace Go.Proofs.YtnlfihdegglkfaaGreatDoor
section
open Go Go.Zam
open Go.ChangeShapes Go.WideShapes Go.ChangeAt Go.RowKit
theorem isBulk (H : Type) : IsBulk (X := H) Rows.uptoBulk Rows.uptoBulkAll where
 str := fun b => by simp [Rows.uptoBulk]
 bool := fun b => by simp [Rows.uptoBulk]
 int := fun k n => by simp [Rows.uptoBulk]
 nil := by simp [Rows.uptoBulk]
 slice := fun e s => by simp only [Rows.uptoBulk]; omega
 agg := fun p => by simp only [Rows.uptoBulk]; omega
 cons := fun d r => by simp only [Rows.uptoBulkAll]; omega
theorem own : ownKnob Tryz.prog.godebug = none := by kernel_rfl
theorem laidOut : laidOutB Tryz.prog = true := by kernel_rfl
def litCell : DataW Unit → Value
 | .lit (.int k n) => .int k n
 | .lit (.string s) => .string ⟨s.toArray⟩
 | _ => .tuple #[]
def litCells : DataW Unit → List Value
 | .agg l => l.map litCell
 | x => [litCell x]
def tabCells : DataW Unit → Array Value
 | .agg l => (l.flatMap litCells).toArray
 | _ => #[]
def put (g : Nat) (cs : Array Value) (h : Array Obj) : Array Obj := h.modify g fun
 | .cells _ t frozen => .cells cs t frozen
 | o => o
noncomputable def laidWorld (os : Os) : World :=
 let w0 := World.holding Tryz.prog os ⟨#[.cells #[.string ⟨#[118,97,108,117,101,32,111,117,116,32,111,102,32,114,97,110,103,101]⟩] 138,.cells #[.string ⟨#[105,110,118,97,108,105,100,32,115,121,110,116,97,120]⟩] 138],#[],[]⟩
 let N := (World.settled Tryz.prog os).heap.size
 { w0 with heap := put 4 #[.iface 136 (.pointer (some ⟨N,0,none⟩))] (put 3 #[.iface 136 (.pointer (some ⟨N + 1,0,none⟩))] (put 1 (tabCells Rows.laid_unicode_utf8_first) (put 0 (tabCells Rows.laid_whetstone_tree_names) (put 2 (tabCells Rows.laid_unicode_utf8_acceptRanges) (put 6 (tabCells Rows.laid_internal_strconv_uint64pow10) (put 8 (tabCells Rows.laid_math_bits_deBruijn64tab) (put 7 (tabCells Rows.laid_math_bits_deBruijn32tab) w0.heap))))))) }
theorem star : "*" ++ "errors.errorString" = "*errors.errorString" := by decide
theorem rowErr (u : TypeId) (h : Tryz.prog.typeName? 3 u = some "*errors.errorString") : u = 136 :=
 typeName_ptr_named (nm := "errors.errorString") (by rw [star]; kernel_rfl) (by kernel_rfl) (by decide) u (by rw [star]; exact h)
set_option maxRecDepth 100000 in
theorem laidOb {W : World} (h : laidMetH Tryz.prog Rows.parseReadsUptoRow.laid W) : ∃ H0,LaidOb W H0 ∧ TabsG 1 2 3 4 H0 ∧ NamesG 0 H0 := by
 have h' : laidMet Tryz.prog Rows.parseReadsUptoRow.laid W := by
  rw [MakeChecks.laidMetH_plain _ _ _ (by kernel_rfl)] at h
  exact h
 have e1 : Rows.laid_unicode_utf8_first = Lib.firstData := by kernel_rfl
 have e2 : Rows.laid_unicode_utf8_acceptRanges = Lib.acceptData := by kernel_rfl
 have hU : Lib.Utf8Tabs 1 2 W :=
  utf8Tabs_of_reads (ρ := Tryz.lays260_ren) { Tryz.lays260 with } ⟨by kernel_rfl,by kernel_rfl,by kernel_rfl,by kernel_rfl,by kernel_rfl,by kernel_rfl,by kernel_rfl⟩
   (e1 ▸ Lib.laidMet.reads h' (.tail _ (.tail _ (.tail _ (.tail _ (.tail _ (.tail _ (.tail _ (.head _))))))))) (e2 ▸ Lib.laidMet.reads h' (.tail _ (.tail _ (.tail _ (.head _)))))
 obtain ⟨a1,t1,hv1,-⟩ := laid_sentinel (g := 4) h'.tail.tail.tail.tail (by kernel_rfl) (by kernel_rfl) Tryz.underlying101 rowErr Tryz.underlying136 Tryz.underlying138 rfl rfl Tryz.underlying9 (by kernel_rfl) (by kernel_rfl)
 obtain ⟨a0,t0,hv0,-⟩ := laid_sentinel (g := 3) h'.tail.tail.tail.tail.tail (by kernel_rfl) (by kernel_rfl) Tryz.underlying101 rowErr Tryz.underlying136 Tryz.underlying138 rfl rfl Tryz.underlying9 (by kernel_rfl) (by kernel_rfl)
 obtain ⟨H1,hL1,hG1⟩ := laid_heap hU ⟨_,_,by rw [World.var?_cell (show Tryz.prog.globalNamed "strconv.ErrSyntax" = some 3 by kernel_rfl) hv0 0]; rfl⟩ ⟨_,_,by rw [World.var?_cell (show Tryz.prog.globalNamed "strconv.ErrRange" = some 4 by kernel_rfl) hv1 0]; rfl⟩
 have e3 : Rows.laid_whetstone_tree_names = namesData := by kernel_rfl
 exact laid_heapN hL1 hG1 (names_of_reads (n := "whetstone/tree.names") (t := 114) (ts := 9) (by kernel_rfl) (by kernel_rfl) Tryz.underlying114 Tryz.underlying9 (by kernel_rfl) (e3 ▸ Lib.laidMet.reads h' (.tail _ (.tail _ (.tail _ (.tail _ (.tail _ (.tail _ (.head _)))))))))
theorem met (os : Os) (args : Array Value) : laidMet Tryz.prog Rows.parseReadsUptoRow.laid ((laidWorld os).forCall (fun _ _ => 0) ⟨#[],args,[]⟩).memory := laidMet_of_run' 8 (by kernel_rfl) (by kernel_rfl)
theorem arg_str : ∀ {n : Nat} {ds : List D} {a : A} (h : Typed Tryz.prog n 9 ds) (ha : ArgOf Tryz.prog 9 ds a),∃ s : List UInt8,a = .d (.str s) ∧ s.length ≤ D.bulkC ds ∧ s.length + 1 ≤ D.bulkC ds :=
 @arg_str_of Tryz.prog 9 Tryz.underlying9
end
end Go.Proofs.YtnlfihdegglkfaaGreatDoor
namespace Go.Zam
inductive Utf : Bs → Prop
 | nil : Utf []
 | step {s : Bs} (h : s ≠ []) (hd : decU s ≠ (65533,1)) (hr : Utf (s.drop (decU s).2)) : Utf s
theorem badF_ge : ∀ (f : Nat) (s : Bs) (n : Nat),badF f s n = -1 ∨ 0 ≤ badF f s n
 | 0,_,_ => .inl rfl
 | f + 1, s, n => by
   rw [badF]
   split
   · exact .inl rfl
   · split
     · exact .inr (by omega)
     · exact badF_ge f _ _
theorem badF_utf : ∀ (f : Nat) (s : Bs) (n : Nat),s.length ≤ f → (badF f s n = -1 ↔ Utf s)
 | 0, s, n, h => by
   have : s = [] := List.eq_nil_of_length_eq_zero (by omega)
   subst this
   exact ⟨fun _ => .nil,fun _ => rfl⟩
 | f + 1, s, n, h => by
   rw [badF]
   by_cases hs : s = []
   · rw [if_pos hs]; subst hs; exact ⟨fun _ => .nil,fun _ => rfl⟩
   rw [if_neg hs]
   by_cases hd : decU s = (65533,1)
   · rw [if_pos hd]
     constructor
     · intro e; omega
     · intro hu
       cases hu with
       | nil => exact absurd rfl hs
       | step _ h2 _ => exact absurd hd h2
   · rw [if_neg hd]
     have hl := decU_len hs
     rw [badF_utf f _ _ (by simp; omega)]
     constructor
     · exact fun h => .step hs hd h
     · intro hu
       cases hu with
       | nil => exact absurd rfl hs
       | step _ _ h3 => exact h3
theorem badS_utf (s : Bs) : ¬ 0 ≤ badS s ↔ Utf s := by
 rw [← badF_utf s.length s 0 (Nat.le_refl _)]
 have := badF_ge s.length s 0
 unfold badS
 omega
theorem decodeN_w (n b0 b1 b2 b3 : Nat) (hn : 1 ≤ n) : Lib.decodeN n b0 b1 b2 b3 = (65533,1) ∨ ((Lib.decodeN n b0 b1 b2 b3).2 = 1 ∧ b0 < 128) ∨ ((Lib.decodeN n b0 b1 b2 b3).2 = 2 ∧ 2 ≤ n ∧ 128 ≤ b0 ∧ 128 ≤ b1) ∨ ((Lib.decodeN n b0 b1 b2 b3).2 = 3 ∧ 3 ≤ n ∧ 128 ≤ b0 ∧ 128 ≤ b1 ∧ 128 ≤ b2) ∨ ((Lib.decodeN n b0 b1 b2 b3).2 = 4 ∧ 4 ≤ n ∧ 128 ≤ b0 ∧ 128 ≤ b1 ∧ 128 ≤ b2 ∧ 128 ≤ b3) := by
 unfold Lib.decodeN
 (repeat' split) <;> simp <;> omega
theorem decodeN_1 (n n' b0 b1 b2 b3 c1 c2 c3 : Nat) (h : b0 < 128) : Lib.decodeN n' b0 c1 c2 c3 = Lib.decodeN n b0 b1 b2 b3 := by simp [Lib.decodeN,h]
theorem decodeN_2 (n n' b0 b1 b2 b3 c2 c3 : Nat) (hn : 2 ≤ n) (hn' : 2 ≤ n') (h : (Lib.decodeN n b0 b1 b2 b3).2 = 2) : Lib.decodeN n' b0 b1 c2 c3 = Lib.decodeN n b0 b1 b2 b3 := by
 unfold Lib.decodeN at *
 (repeat' split at h) <;> simp only at h <;> try omega
 all_goals (repeat' split) <;> first | rfl | (exfalso; omega)
theorem decodeN_3 (n n' b0 b1 b2 b3 c3 : Nat) (hn : 3 ≤ n) (hn' : 3 ≤ n') (h : (Lib.decodeN n b0 b1 b2 b3).2 = 3) : Lib.decodeN n' b0 b1 b2 c3 = Lib.decodeN n b0 b1 b2 b3 := by
 unfold Lib.decodeN at *
 (repeat' split at h) <;> simp only at h <;> try omega
 all_goals (repeat' split) <;> first | rfl | (exfalso; omega)
theorem decodeN_4 (n n' b0 b1 b2 b3 : Nat) (hn : 4 ≤ n) (hn' : 4 ≤ n') (h : (Lib.decodeN n b0 b1 b2 b3).2 = 4) : Lib.decodeN n' b0 b1 b2 b3 = Lib.decodeN n b0 b1 b2 b3 := by
 unfold Lib.decodeN at *
 (repeat' split at h) <;> simp only at h <;> try omega
 all_goals (repeat' split) <;> first | rfl | (exfalso; omega)
theorem getD_take_app (s r : Bs) (w i : Nat) (h : i < w) (hw : w ≤ s.length) : (s.take w ++ r).getD i 0 = s.getD i 0 := by
 have h1 : i < s.length := by omega
 simp [List.getD,List.getElem?_append,h,h1,Nat.min_eq_left hw]
theorem decU_ne {s : Bs} (h : s ≠ []) : decU s = Lib.decodeN s.length (s.getD 0 0).toNat (s.getD 1 0).toNat (s.getD 2 0).toNat (s.getD 3 0).toNat := by unfold decU; rw [if_neg h]
theorem Utf.inv {s : Bs} (hu : Utf s) (h : s ≠ []) : decU s ≠ (65533,1) ∧ Utf (s.drop (decU s).2) := by
 cases hu with
 | nil => exact absurd rfl h
 | step h1 h2 h3 => exact ⟨h2,h3⟩
theorem decU_loc {s : Bs} (hs : s ≠ []) (hd : decU s ≠ (65533,1)) (r : Bs) : decU (s.take (decU s).2 ++ r) = decU s ∧ (2 ≤ (decU s).2 → ∀ i,i < (decU s).2 → 128 ≤ (s.getD i 0).toNat) := by
 have hl := decU_len hs
 have hn : 1 ≤ s.length := by omega
 have hE : decU s = Lib.decodeN s.length (s.getD 0 0).toNat (s.getD 1 0).toNat (s.getD 2 0).toNat (s.getD 3 0).toNat := decU_ne hs
 have hne : s.take (decU s).2 ++ r ≠ [] := fun e => by
  have := congrArg List.length e
  simp only [List.length_append,List.length_take,List.length_nil] at this
  omega
 have hlen : (s.take (decU s).2 ++ r).length = (decU s).2 + r.length := by simp only [List.length_append,List.length_take]; omega
 have hF : decU (s.take (decU s).2 ++ r) = Lib.decodeN ((decU s).2 + r.length) ((s.take (decU s).2 ++ r).getD 0 0).toNat ((s.take (decU s).2 ++ r).getD 1 0).toNat ((s.take (decU s).2 ++ r).getD 2 0).toNat ((s.take (decU s).2 ++ r).getD 3 0).toNat := by
  rw [← hlen]; exact decU_ne hne
 have hg := fun i h => getD_take_app s r (decU s).2 i h hl.2
 rw [hF]
 rw [hE] at hd
 rcases decodeN_w s.length (s.getD 0 0).toNat (s.getD 1 0).toNat (s.getD 2 0).toNat (s.getD 3 0).toNat hn with h | ⟨h1,h2⟩ | ⟨h1,h2,h3,h4⟩ | ⟨h1,h2,h3,h4,h5⟩ | ⟨h1,h2,h3,h4,h5,h6⟩
 · exact absurd h hd
 · rw [← hE] at h1
   refine ⟨?_,fun h => by omega⟩
   rw [hg 0 (by omega),hE]
   exact decodeN_1 _ _ _ _ _ _ _ _ _ h2
 · have h1' := h1
   rw [← hE] at h1
   refine ⟨?_,fun _ i hi => ?_⟩
   · rw [hg 0 (by omega),hg 1 (by omega),hE]
     rw [hE] at h1
     exact decodeN_2 _ _ _ _ _ _ _ _ h2 (by omega) h1'
   · match i,(show i < 2 by omega) with
     | 0,_ => exact h3
     | 1,_ => exact h4
 · have h1' := h1
   rw [← hE] at h1
   refine ⟨?_,fun _ i hi => ?_⟩
   · rw [hg 0 (by omega),hg 1 (by omega),hg 2 (by omega),hE]
     rw [hE] at h1
     exact decodeN_3 _ _ _ _ _ _ _ h2 (by omega) h1'
   · match i,(show i < 3 by omega) with
     | 0,_ => exact h3
     | 1,_ => exact h4
     | 2,_ => exact h5
 · have h1' := h1
   rw [← hE] at h1
   refine ⟨?_,fun _ i hi => ?_⟩
   · rw [hg 0 (by omega),hg 1 (by omega),hg 2 (by omega),hg 3 (by omega),hE]
     rw [hE] at h1
     exact decodeN_4 _ _ _ _ _ _ h2 (by omega) h1'
   · match i,(show i < 4 by omega) with
     | 0,_ => exact h3
     | 1,_ => exact h4
     | 2,_ => exact h5
     | 3,_ => exact h6
theorem Utf.app {s t : Bs} (hs : Utf s) (ht : Utf t) : Utf (s ++ t) := by
 induction hs with
 | nil => exact ht
 | @step s h hd hr ih =>
   have hl := decU_len h
   have hloc := (decU_loc h hd (s.drop (decU s).2 ++ t)).1
   rw [← List.append_assoc,List.take_append_drop] at hloc
   refine .step (by simp [h]) (by rw [hloc]; exact hd) ?_
   rw [hloc,List.drop_append_of_le_length hl.2]
   exact ih
theorem Utf.ahead : ∀ (m : Nat) {a b : Bs},a.length ≤ m → Utf (a ++ b) → (∀ x,a.getLast? = some x → x.toNat < 128) → Utf a
 | m,[],b,_,_,_ => .nil
 | 0,x :: a,b,h,_,_ => by simp at h
 | m + 1, x :: a, b, h, hu, hlast => by
   generalize hA : x :: a = A at *
   have hne : A ≠ [] := by rw [← hA]; simp
   have h1 : A ++ b ≠ [] := by simp [hne]
   obtain ⟨hd,hr⟩ := hu.inv h1
   · have hl := decU_len h1
     have hloc := decU_loc h1 hd
     rcases Nat.lt_or_ge A.length (decU (A ++ b)).2 with hw | hw
     · exfalso
       have hA1 : 1 ≤ A.length := by rw [← hA]; simp
       have := (hloc []).2 (by omega) (A.length - 1) (by omega)
       have hg : A.getLast? = some (A[A.length - 1]'(by omega)) := by rw [List.getLast?_eq_getElem?,List.getElem?_eq_getElem]
       have h2 := hlast _ hg
       have h3 : (A ++ b).getD (A.length - 1) 0 = A[A.length - 1]'(by omega) := by
        simp [List.getD,List.getElem?_append,show A.length - 1 < A.length by omega]
       rw [h3] at this
       omega
     · have e1 : (A ++ b).take (decU (A ++ b)).2 = A.take (decU (A ++ b)).2 := List.take_append_of_le_length hw
       have h3 := (hloc (A.drop (decU (A ++ b)).2)).1
       rw [e1,List.take_append_drop] at h3
       have hA1 := decU_len hne
       refine .step hne (by rw [h3]; exact hd) ?_
       rw [h3]
       rw [List.drop_append_of_le_length hw] at hr
       refine Utf.ahead m (by simp; omega) hr fun y hy => hlast y ?_
       rw [List.getLast?_drop] at hy
       split at hy
       · cases hy
       · exact hy
inductive Toks : Bs → Nat → List Tk → Prop
 | fin {s : Bs} {n : Nat} (h : (tokN (s.drop (leadS false s))).1 = 0) (h0 : s.drop (leadS false s) = []) : Toks s n [⟨0,n + leadS false s,s.take (leadS false s),[]⟩]
 | tok {s : Bs} {n : Nat} {l : List Tk} (h : (tokN (s.drop (leadS false s))).1 = 0) (h0 : s.drop (leadS false s) ≠ []) (hr : Toks ((s.drop (leadS false s)).drop (tokN (s.drop (leadS false s))).2.2) (n + leadS false s + (tokN (s.drop (leadS false s))).2.2) l) :
  Toks s n (⟨(tokN (s.drop (leadS false s))).2.1,n + leadS false s,s.take (leadS false s),(s.drop (leadS false s)).take (tokN (s.drop (leadS false s))).2.2⟩ :: l)
theorem lexF_toks : ∀ (f : Nat) (s : Bs) (n c : Nat),s.length < f → ((lexF f s n c).2.1 = 0 ↔ ∃ l,Toks s n l ∧ c + l.length ≤ 4000) ∧ ((lexF f s n c).2.1 = 0 → Toks s n (lexF f s n c).1 ∧ c + (lexF f s n c).1.length ≤ 4000)
 | 0,s,n,c,h => by omega
 | f + 1, s, n, c, h => by
   have htl := tokN_len (s.drop (leadS false s))
   obtain ⟨t1,t2,t3,t4⟩ := htl
   rw [lexF]
   by_cases he : (tokN (s.drop (leadS false s))).1 = 0
   case neg =>
    rw [if_pos he]
    refine ⟨⟨fun e => absurd e he,?_⟩,fun e => absurd e he⟩
    rintro ⟨l,hl,-⟩
    cases hl with
    | fin h1 h2 => exact absurd h1 he
    | tok h1 h2 h3 => exact absurd h1 he
   rw [if_neg (by simp [he])]
   by_cases hc : 4000 ≤ c
   case pos =>
    rw [if_pos hc]
    refine ⟨⟨fun e => absurd e (by simp),?_⟩,fun e => absurd e (by simp)⟩
    rintro ⟨l,hl,hlc⟩
    cases hl with
    | fin h1 h2 => simp at hlc; omega
    | tok h1 h2 h3 => simp at hlc; omega
   rw [if_neg hc]
   by_cases hk : (tokN (s.drop (leadS false s))).2.1 = 0
   · rw [if_pos hk]
     have hnil := t2 he hk
     have hT : Toks s n [⟨(tokN (s.drop (leadS false s))).2.1,n + leadS false s,s.take (leadS false s),(s.drop (leadS false s)).take (tokN (s.drop (leadS false s))).2.2⟩] := by
      have := Toks.fin (n := n) he hnil
      rw [hk,hnil]
      simpa using this
     exact ⟨⟨fun _ => ⟨_,hT,by simp; omega⟩,fun _ => rfl⟩,fun _ => ⟨hT,by simp; omega⟩⟩
   · rw [if_neg hk]
     have hne : s.drop (leadS false s) ≠ [] := fun e => hk (t4 e)
     have hm := t3 he hne
     have hlen : ((s.drop (leadS false s)).drop (tokN (s.drop (leadS false s))).2.2).length < f := by
      simp only [List.length_drop] at t1 ⊢
      have : leadS false s < s.length := by
       rcases Nat.lt_or_ge (leadS false s) s.length with h' | h'
       · exact h'
       · exact absurd (List.drop_eq_nil_of_le h') hne
      omega
     obtain ⟨i1,i2⟩ := lexF_toks f _ (n + leadS false s + (tokN (s.drop (leadS false s))).2.2) (c + 1) hlen
     generalize lexF f ((s.drop (leadS false s)).drop (tokN (s.drop (leadS false s))).2.2) (n + leadS false s + (tokN (s.drop (leadS false s))).2.2) (c + 1) = R at i1 i2
     by_cases hR : R.2.1 = 0
     · rw [if_pos hR]
       obtain ⟨j1,j2⟩ := i2 hR
       have hT := Toks.tok (n := n) he hne j1
       exact ⟨⟨fun _ => ⟨_,hT,by simp; omega⟩,fun _ => rfl⟩,fun _ => ⟨hT,by simp; omega⟩⟩
     · rw [if_neg hR]
       refine ⟨⟨fun e => absurd e hR,?_⟩,fun e => absurd e hR⟩
       rintro ⟨l,hl,hlc⟩
       exfalso
       cases hl with
       | fin h1 h2 => exact hne h2
       | tok h1 h2 h3 => exact hR (i1.2 ⟨_,h3,by simp at hlc; omega⟩)
theorem lexS_ok (s : Bs) : ((lexS s).2.1 = 0 ↔ s.length ≤ 16384 ∧ Utf s ∧ ∃ l,Toks s 0 l ∧ l.length ≤ 4000) ∧ ((lexS s).2.1 = 0 → Toks s 0 (lexS s).1 ∧ (lexS s).1.length ≤ 4000) := by
 have hu := badS_utf s
 unfold lexS
 by_cases h1 : 16384 < s.length
 · rw [if_pos h1]
   exact ⟨⟨fun e => absurd e (by simp),fun e => by omega⟩,fun e => absurd e (by simp)⟩
 rw [if_neg h1]
 by_cases h2 : 0 ≤ badS s
 · rw [if_pos h2]
   exact ⟨⟨fun e => absurd e (by simp),fun e => absurd e.2.1 fun q => hu.2 q h2⟩,fun e => absurd e (by simp)⟩
 rw [if_neg h2]
 obtain ⟨i1,i2⟩ := lexF_toks (s.length + 1) s 0 0 (by omega)
 refine ⟨?_,fun e => by simpa using i2 e⟩
 rw [i1]
 simp only [Nat.zero_add]
 exact ⟨fun ⟨l,a,b⟩ => ⟨by omega,hu.1 h2,l,a,b⟩,fun ⟨_,_,q⟩ => q⟩
def TkAt (p : Nat) (last : Prop) (t : Tk) : Prop := t.a = p + t.l.length ∧ (t.k = 0 ↔ last) ∧ (t.x = [] ↔ t.k = 0)
theorem Toks.join {s : Bs} {n : Nat} {l : List Tk} (h : Toks s n l) : joinS l = s ∧ (∃ t,l.getLast? = some t ∧ t.k = 0) ∧ ∀ (i : Nat) (t : Tk),l[i]? = some t → TkAt (n + (joinS (l.take i)).length) (i + 1 = l.length) t := by
 induction h with
 | @fin s n h1 h2 =>
   refine ⟨?_,⟨_,rfl,rfl⟩,fun i t hi => ?_⟩
   · simp only [joinS,List.flatMap_cons,List.flatMap_nil,List.append_nil]
     have := List.take_append_drop (leadS false s) s
     rw [h2,List.append_nil] at this
     exact this
   · cases i with
     | zero =>
       simp at hi; subst hi
       have := lead_le false s
       refine ⟨by simp [joinS]; omega,by simp,by simp⟩
     | succ i => simp at hi
 | @tok s n l h1 h2 h3 ih =>
   obtain ⟨j1,⟨t0,j2,j3⟩,j4⟩ := ih
   have hl := lead_le false s
   obtain ⟨m1,m2,m3,m4⟩ := tokN_len (s.drop (leadS false s))
   have hne : l ≠ [] := fun e => by subst e; simp at j2
   have hm := m3 h1 h2
   have hx : (s.drop (leadS false s)).take (tokN (s.drop (leadS false s))).2.2 ≠ [] := fun e => by
    have := congrArg List.length e
    simp only [List.length_take,List.length_nil] at this
    omega
   have hk : ¬ (tokN (s.drop (leadS false s))).2.1 = 0 := fun e => h2 (m2 h1 e)
   have hlx : ((s.drop (leadS false s)).take (tokN (s.drop (leadS false s))).2.2).length = (tokN (s.drop (leadS false s))).2.2 := by simp only [List.length_take]; omega
   refine ⟨?_,⟨t0,?_,j3⟩,fun i t hi => ?_⟩
   · have e : joinS (⟨(tokN (s.drop (leadS false s))).2.1,n + leadS false s,s.take (leadS false s),(s.drop (leadS false s)).take (tokN (s.drop (leadS false s))).2.2⟩ :: l) = (s.take (leadS false s) ++ (s.drop (leadS false s)).take (tokN (s.drop (leadS false s))).2.2) ++ joinS l := rfl
     rw [e,j1,List.append_assoc,List.take_append_drop,List.take_append_drop]
   · rw [List.getLast?_cons,j2]; rfl
   · cases i with
     | zero =>
       simp at hi; subst hi
       refine ⟨by simp [joinS]; omega,?_,?_⟩
       · simp [hk]; exact hne
       · simp only; exact ⟨fun e => absurd e hx,fun e => absurd e hk⟩
     | succ i =>
       simp at hi
       obtain ⟨q1,q2,q3⟩ := j4 i t hi
       refine ⟨?_,?_,q3⟩
       · rw [q1,List.take_succ_cons]
         have e : joinS (⟨(tokN (s.drop (leadS false s))).2.1,n + leadS false s,s.take (leadS false s),(s.drop (leadS false s)).take (tokN (s.drop (leadS false s))).2.2⟩ :: l.take i) = (s.take (leadS false s) ++ (s.drop (leadS false s)).take (tokN (s.drop (leadS false s))).2.2) ++ joinS (l.take i) := rfl
         rw [e]
         simp only [List.length_append,hlx,List.length_take]
         omega
       · rw [q2]; simp
section
def EndsL (L : List Tk) : Prop := ∀ i,i + 1 = L.length → kdT L i = 0
theorem kdT_ltE {L : List Tk} {i : Nat} (hE : EndsL L) (h : kdT L i ≠ 0) : i + 1 < L.length := by
 have := kdT_lt h
 rcases Nat.lt_or_ge (i + 1) L.length with h' | h'
 · exact h'
 · exact absurd (hE i (by omega)) h
theorem isT_kd {L : List Tk} {i : Nat} {x : Bs} (h : isT L i x = true) : kdT L i ≠ 0 := by
 unfold isT at h
 unfold kdT
 cases hg : L[i]? with
 | none => rw [hg] at h; cases h
 | some t =>
   rw [hg] at h
   simp at h ⊢
   rcases h.1 with h | h <;> omega
theorem isT_ltE {L : List Tk} {i : Nat} {x : Bs} (hE : EndsL L) (h : isT L i x = true) : i + 1 < L.length := kdT_ltE hE (isT_kd h)
def Bd (L : List Tk) : PR → Prop
 | .ok _ j | .bad j => j < L.length
 | .out => True
section
variable {L : List Tk}
theorem Bd.want (hE : EndsL L) {k : Nat} {x : Bs} {h : Nat → PR} (hk : k < L.length) (hh : k + 1 < L.length → Bd L (h (k + 1))) : Bd L (wantR L k x h) := by
 unfold wantR
 split
 · rename_i e; exact hh (isT_ltE hE e)
 · exact hk
theorem Bd.word (hE : EndsL L) {k : Nat} {h : Bs → Nat → PR} (hk : k < L.length) (hh : k + 1 < L.length → Bd L (h (txT L k) (k + 1))) : Bd L (wordR L k h) := by
 unfold wordR
 split
 · rename_i e; exact hh (kdT_ltE hE (by omega))
 · exact hk
theorem Bd.ifT (hE : EndsL L) {k : Nat} {x : Bs} {a b : PR} (ha : k + 1 < L.length → Bd L a) (hb : Bd L b) : Bd L (if isT L k x then a else b) := by
 split
 · rename_i e; exact ha (isT_ltE hE e)
 · exact hb
theorem Bd.ifK (hE : EndsL L) {k : Nat} {x : Int} {a b : PR} (hx : x ≠ 0) (ha : k + 1 < L.length → Bd L a) (hb : Bd L b) : Bd L (if kdT L k = x then a else b) := by
 split
 · rename_i e; exact ha (kdT_ltE hE (by omega))
 · exact hb
theorem Bd.if0 {k : Nat} {a b : PR} (ha : Bd L a) (hb : Bd L b) : Bd L (if kdT L k = 0 then a else b) := by
 split
 · exact ha
 · exact hb
theorem Bd.ifS (hE : EndsL L) {k : Nat} {x : Bs} {a b : PR} (ha : k + 2 < L.length → Bd L a) (hb : Bd L b) : Bd L (if kdT L k = 1 ∧ isT L (k + 1) x = true then a else b) := by
 split
 · rename_i e; exact ha (by have := isT_ltE hE e.2; omega)
 · exact hb
theorem Bd.thenG {r : PR} {h : N → Nat → PR} (hr : Bd L r) (hh : ∀ m j,j < L.length → Bd L (h m j)) : Bd L (r.then h) := by
 cases r with
 | out => trivial
 | bad j => exact hr
 | ok m j => exact hh m j hr
theorem pp_bd (hE : EndsL L) : ∀ (n : Nat) (g : G) (i : Nat),i < L.length → Bd L (pp L n g i)
 | 0,g,i,_ => trivial
 | n + 1, g, i, hi => by
   have ih := pp_bd hE n
   cases g
   all_goals simp only [pp]
   all_goals
    repeat' first
     | (refine Bd.want hE (by omega) fun _ => ?_)
     | (refine Bd.word hE (by omega) fun _ => ?_)
     | (refine Bd.ifT hE (fun _ => ?_) ?_)
     | (refine Bd.ifK hE (by decide) (fun _ => ?_) ?_)
     | (refine Bd.ifS hE (fun _ => ?_) ?_)
     | (refine Bd.if0 ?_ ?_)
     | (refine Bd.thenG (ih _ _ (by omega)) fun m j h1 => ?_)
     | (exact (by omega : _ < L.length))
     | (exact ih _ _ (by omega))
theorem parseF_bad (hE : EndsL L) (h0 : 0 < L.length) {q : Nat} (h : parseF L = .bad q) : q < L.length := by
 have := pp_bd hE (16 * L.length + 8) (.file []) 0 h0
 rw [show pp L (16 * L.length + 8) (.file []) 0 = .bad q from h] at this
 exact this
end
theorem tokN_key (s : Bs) : (tokN s).1 = 0 → (tokN s).2.1 = 2 → s.take (tokN s).2.2 ∈ keysL := by
 cases s with
 | nil => intro _ h; cases h
 | cons b r =>
   rw [tokN]
   (repeat' split) <;> simp_all
theorem Toks.like {s : Bs} {n : Nat} {l : List Tk} (h : Toks s n l) : l ≠ [] ∧ EndsL l ∧ (∀ i,i + 1 < l.length → kdT l i ≠ 0) ∧ ∀ t ∈ l,t.k = 2 → t.x ∈ keysL := by
 induction h with
 | fin h h0 =>
   refine ⟨by simp,fun i hi => ?_,fun i hi => by simp at hi,?_⟩
   · have : i = 0 := by simp at hi; omega
     subst this; rfl
   · intro t ht hk
     simp at ht; subst ht
     simp at hk
 | @tok s n l h h0 hr ih =>
   obtain ⟨i1,i2,i3,i4⟩ := ih
   have htl := tokN_len (s.drop (leadS false s))
   obtain ⟨t1,t2,t3,t4⟩ := htl
   have hl : 0 < l.length := List.length_pos_iff.2 i1
   refine ⟨by simp,fun i hi => ?_,fun i hi => ?_,?_⟩
   · cases i with
     | zero => exact absurd hi (by simp only [List.length_cons]; omega)
     | succ i => exact i2 i (by simpa using hi)
   · cases i with
     | zero =>
       show (tokN (s.drop (leadS false s))).2.1 ≠ 0
       exact fun e => h0 (t2 h e)
     | succ i => exact i3 i (by simpa using hi)
   · intro t ht hk
     rcases List.mem_cons.1 ht with rfl | ht
     · exact tokN_key _ h hk
     · exact i4 t ht hk
theorem noEq_of {l : List Tk} (h : ∀ t ∈ l,t.k = 2 → t.x ∈ keysL) (i : Nat) (hi : isT l i [61] = true) : kdT l i = 5 := by
 unfold isT at hi
 unfold kdT
 cases hg : l[i]? with
 | none => rw [hg] at hi; cases hi
 | some t =>
   rw [hg] at hi
   simp at hi ⊢
   rcases hi.1 with e | e
   · have := h t (List.mem_of_getElem? hg) e
     rw [hi.2] at this
     exact absurd this (by decide)
   · exact e
theorem lexS_like {s : Bs} (h : (lexS s).2.1 = 0) : (lexS s).1 ≠ [] ∧ EndsL (lexS s).1 ∧ (∀ i,i + 1 < (lexS s).1.length → kdT (lexS s).1 i ≠ 0) ∧ (∀ i,isT (lexS s).1 i [61] = true → kdT (lexS s).1 i = 5) ∧ (lexS s).1.length ≤ 4000 := by
 obtain ⟨h1,h2⟩ := (lexS_ok s).2 h
 obtain ⟨a1,a2,a3,a4⟩ := h1.like
 exact ⟨a1,a2,a3,noEq_of a4,h2⟩
def parseO (s : Bs) : List Tk × N × Int × Int :=
 if (lexS s).2.1 ≠ 0 then ([],N.none,(lexS s).2.1,(lexS s).2.2)
 else if (parseP (lexS s).1).2.1 ≠ 0 then ([],N.none,(parseP (lexS s).1).2.1,match (lexS s).1[(parseP (lexS s).1).2.2.toNat]? with | some t => (t.a : Int) | none => 0)
 else ((lexS s).1,(parseP (lexS s).1).1,0,0)
theorem parseP_at {L : List Tk} (hE : EndsL L) (h0 : L ≠ []) : 0 ≤ (parseP L).2.2 ∧ (parseP L).2.2.toNat < L.length := by
 have hl := List.length_pos_iff.2 h0
 unfold parseP
 split
 · exact ⟨by simp,by simpa using hl⟩
 · split
   · split <;> exact ⟨by simp,by simpa using hl⟩
   · rename_i q hq
     have := parseF_bad hE hl hq
     exact ⟨by simp,by simpa using this⟩
   · exact ⟨by simp,by simpa using hl⟩
section
variable {P : Program}
theorem Has.of_ {f fl fp tn} (h : Has P f (irPOf fl fp tn)) {H0 : Hp} (hl : ∀ (s : Bs),s.length ≤ 1048576 → ∀ H,Pre0 H0 H → ACall P fl [.d (.str s)] H (fun r H' => r = .tup [.d (.sl true 4 ((lexS s).1.map encTk)),.d (.int .i64 (lexS s).2.1),.d (.int .i64 (lexS s).2.2)] ∧ H' = H))
 (hp : ∀ (z : Bool) (L : List Tk),L.length ≤ 1048576 → (∀ i,isT L i [61] = true → kdT L i = 5) → ∀ H,ACall P fp [.d (.sl z 4 (L.map encTk))] H (fun r H' => r = .tup [(parseP L).1.v,.d (.int .i64 (parseP L).2.1),.d (.int .i64 (parseP L).2.2)] ∧ H' = H))
 (s : Bs) (hs : s.length ≤ 1048576) (H : Hp) (hH : Pre0 H0 H) :
 ACall P f [.d (.str s)] H (fun r H' => r = .tup [.d (.sl true 4 ((parseO s).1.map encTk)),(parseO s).2.1.v,.d (.int .i64 (parseO s).2.2.1),.d (.int .i64 (parseO s).2.2.2)] ∧ H' = H) := by
 obtain ⟨fn,hf,hcf⟩ := h
 refine acall_fin hf hcf (by simp [irPOf]) fun hcl _ => ?_
 obtain ⟨Q,hQ⟩ : ∃ Q : A → Hp → Prop,Q = fun r H' => r = .tup [.d (.sl true 4 ((parseO s).1.map encTk)),(parseO s).2.1.v,.d (.int .i64 (parseO s).2.2.1),.d (.int .i64 (parseO s).2.2.2)] ∧ H' = H := ⟨_,rfl⟩
 rw [← hQ]
 have hnone : ∀ e b : Int,parseO s = ([],N.none,e,b) → Q (.tup [.d (.sl true 4 []),.agg [.d (.int .i64 0),.d (.int .i64 0),.d (.int .i64 0),.d (.str []),.d (.int .i64 0),.d (.sl true 6 [])],.d (.int .i64 e),.d (.int .i64 b)]) H := fun e b h => by
  subst hQ
  rw [h]
  exact ⟨rfl,rfl⟩
 have hO : parseO s = if (lexS s).2.1 ≠ 0 then ([],N.none,(lexS s).2.1,(lexS s).2.2)
  else if (parseP (lexS s).1).2.1 ≠ 0 then ([],N.none,(parseP (lexS s).1).2.1,match (lexS s).1[(parseP (lexS s).1).2.2.toNat]? with | some t => (t.a : Int) | none => 0)
  else ((lexS s).1,(parseP (lexS s).1).1,0,0) := rfl
 have hlk := lexS_like (s := s)
 have g1 := hl s hs _ (hH.app [Ob.box tn [.d (.int .i64 0),.d (.int .i64 0),.d (.int .i64 0),.d (.str []),.d (.int .i64 0),.d (.sl true 6 [])]])
 generalize lexS s = LS at hO hlk g1
 obtain ⟨L,e,b⟩ := LS
 simp only at hO hlk g1
 simp [irPOf]
 refine CallK_of' g1 ?_
 by_cases he : e = 0
 case neg =>
  rw [if_pos he] at hO
  simp [he]
  simp [RetK,cut_app hcl]
  exact hnone e b hO
 rw [if_neg (by simp [he])] at hO
 obtain ⟨l1,l2,l3,l4,l5⟩ := hlk he
 have hat := parseP_at l2 l1
 have g2 := hp true L (by omega) l4
 generalize parseP L = PS at hO hat g2
 obtain ⟨m,e2,b2⟩ := PS
 simp only at hO hat g2
 simp [he]
 refine CallK_of' (g2 _) ?_
 obtain ⟨k,f',t,w,a,z,ks⟩ := m
 rw [N.v_mk]
 obtain ⟨hb0,hb1⟩ := hat
 obtain ⟨q,rfl⟩ : ∃ q : Nat,b2 = (q : Int) := ⟨b2.toNat,by omega⟩
 simp only [Int.toNat_natCast] at hO hb1
 have hr := rowAt_map encTk hb1
 rw [List.getElem?_eq_getElem hb1] at hO
 generalize L[q] = tk at hr hO
 obtain ⟨tk,ta,tl,tx⟩ := tk
 simp only [encTk] at hr
 simp
 by_cases he2 : e2 = 0
 case neg =>
  rw [if_pos he2] at hO
  simp [he2,hr]
  repeat' apply And.intro
  all_goals
   simp [RetK,cut_app hcl]
   try exact hnone e2 ta hO
 rw [if_neg (by simp [he2])] at hO
 simp [he2]
 simp [RetK,cut_app hcl]
 subst hQ
 rw [hO]
 exact ⟨by rw [N.v_mk],rfl⟩
end
end
end Go.Zam
namespace Go.Proofs
section
open Go.Shelf Go.RowKit
variable {P : Program} {ρ : Ren}
set_option maxHeartbeats 32000000 in
set_option maxRecDepth 100000 in
theorem AnyPu.internal_strconv_ParseUint_10_b63 (L : LaysPu.n16 P ρ) (t : ByteArray) (hne : t.size ≠ 0) (hmax : t.size ≤ 9223372036854775806) (w : World) :
 Calls P (ρ.f 16) #[.string t,.int .i64 10,.int .i64 63] w fun e w' => e = .returned (Lib.uintTupleM (ρ.t 34) 9223372036854775807 (Lib.parseUintM 9223372036854775807 0 t.data.toList)) ∧ w' = Lib.bytesWorld w (ρ.t 5) t := by
 have mixed := L.mixed
 have t9 := L.t9; have a9 := L.a9; have z9 := L.z9; have v9 := L.v9
 have t3 := L.t3; have a3 := L.a3; have z3 := L.z3; have v3 := L.v3
 have t22 := L.t22; have a22 := L.a22; have z22 := L.z22; have v22 := L.v22
 have t24 := L.t24; have a24 := L.a24; have z24 := L.z24; have v24 := L.v24
 have t4 := L.t4; have a4 := L.a4; have z4 := L.z4; have v4 := L.v4
 have t34 := L.t34; have a34 := L.a34; have z34 := L.z34; have v34 := L.v34
 have t5 := L.t5; have a5 := L.a5; have z5 := L.z5; have v5 := L.v5
 have t36 := L.t36; have a36 := L.a36; have z36 := L.z36; have v36 := L.v36
 have t37 := L.t37; have a37 := L.a37; have z37 := L.z37; have v37 := L.v37
 have t0 := L.t0; have a0 := L.a0; have z0 := L.z0; have v0 := L.v0
 have e19 : ∀ args w,(callFunc (ρ.f 19) args).run P w = .ok (.enter (ρ.f 19) args) w := enters_of L.f19 (by kernel_rfl) rfl
 have hemp : t.toList.isEmpty = false := by
  rw [← decide_eq_emptyBytes]
  exact decide_eq_false (fun h => hne (by rw [h]; rfl))
 have hcv := Lib.run_convert_string_bytes (P := P) w (ρ.t 9) (ρ.t 37) (ρ.t 5) t (u := .string) L.t9 L.t37 L.t5
 have hB : ∀ j,j < t.size → (Lib.bytesWorld w (ρ.t 5) t).cell? ⟨w.heap.size,j,none⟩ = some (.int .u8 (t.data.toList.getD j 0).toNat) := fun j hj => Lib.bytesWorld_cell w (ρ.t 5) t j hj
 obtain ⟨W1,hW1⟩ : ∃ W1,W1 = Lib.bytesWorld w (ρ.t 5) t := ⟨_,rfl⟩
 rw [← hW1] at hcv hB ⊢
 clear hW1
 obtain ⟨bs,hL⟩ : ∃ bs,bs = t.data.toList := ⟨_,rfl⟩
 have hLn : bs.length = t.size := by rw [hL,Lib.size_eq]
 rw [← hL] at hB ⊢
 clear hL
 have hmv : IntKind.u64.wrap (IntKind.u64.wrap 9223372036854775808 - 1) = 9223372036854775807 := by
  rw [IntKind.wrap_u64,IntKind.wrap_u64]
  decide
 go_enter L.f16,BodyPu.n16_ntmps ρ
 go_wp2
 go_loop [12,13,101] (fun vu vn vi => ∃ (k acc : Nat) (a : Int),vu = .bool false ∧ vn = .int .u64 a ∧ vi = .int .i64 k ∧ k ≤ t.size ∧ Hid (a = (acc : Int) ∧ acc ≤ 9223372036854775807 ∧ Lib.parseUintM 9223372036854775807 0 bs = Lib.parseUintM 9223372036854775807 acc (bs.drop k)))
  (fun _ _ vi => t.size - (intOf vi).toNat)
 case atStart => exact ⟨0,0,0,rfl,rfl,rfl,by omega,rfl,by omega,rfl⟩
 case round =>
  obtain ⟨k,acc,a,rfl,rfl,rfl,hk,hh⟩ := hrel
  obtain ⟨ha,hacc,hdec⟩ := hh.out
  clear hh
  have a0 : 0 ≤ a := by omega
  have a1 : a ≤ 9223372036854775807 := by omega
  by_cases hkn : k < t.size
  · have hc := hB k hkn
    have hdrop : bs.drop k = bs[k]'(by omega) :: bs.drop (k + 1) := List.drop_eq_getElem_cons (by omega)
    have hget : bs.getD k 0 = bs[k]'(by omega) := by simp [List.getD,List.getElem?_eq_getElem (show k < bs.length by omega)]
    rw [hdrop] at hdec
    rw [hget] at hc
    generalize bs[k]'(by omega) = c at hc hdec
    have hc256 : c.toNat < 256 := c.toNat_lt
    clear hB hdrop hget
    by_cases hdig : 48 ≤ c.toNat ∧ c.toNat ≤ 57
    · obtain ⟨hd0,hd1⟩ := hdig
      by_cases hcut : 1844674407370955162 ≤ acc
      · have hF : Lib.parseUintM 9223372036854775807 acc (c :: bs.drop (k + 1)) = .range := by simp [Lib.parseUintM,hd0,hd1,hcut]
        rw [hF] at hdec
        have icut : 1844674407370955162 ≤ a := by omega
        clear hcut hacc hF ha
        go_wp2
        go_ret2
        exact ⟨rfl,rfl⟩
      by_cases hov2 : 18446744073709551616 ≤ acc * 10 + (c.toNat - 48)
      · have hov : 9223372036854775807 < acc * 10 + (c.toNat - 48) := by omega
        have hF : Lib.parseUintM 9223372036854775807 acc (c :: bs.drop (k + 1)) = .range := by simp [Lib.parseUintM,hd0,hd1,hcut,hov]
        rw [hF] at hdec
        have icut : a < 1844674407370955162 := by omega
        have iov : 18446744073709551616 ≤ a * 10 + ((c.toNat : Int) - 48) := by omega
        have hwr : IntKind.u64.wrap (a * 10 + ((c.toNat : Int) - 48)) = a * 10 + ((c.toNat : Int) - 48) - 18446744073709551616 := by
         rw [IntKind.wrap_u64]
         omega
        clear hcut hacc hF hov hov2 ha
        go_wp2
        go_ret2
        exact ⟨rfl,rfl⟩
      by_cases hov : 9223372036854775807 < acc * 10 + (c.toNat - 48)
      ·
       have hF : Lib.parseUintM 9223372036854775807 acc (c :: bs.drop (k + 1)) = .range := by simp [Lib.parseUintM,hd0,hd1,hcut,hov]
       rw [hF] at hdec
       have iov : 9223372036854775807 < a * 10 + ((c.toNat : Int) - 48) := by omega
       have iov2 : a * 10 + ((c.toNat : Int) - 48) < 18446744073709551616 := by omega
       have icut : a < 1844674407370955162 := by omega
       clear hcut hacc hF hov hov2 ha
       go_wp2
       go_ret2
       exact ⟨rfl,rfl⟩
      · have hF : Lib.parseUintM 9223372036854775807 acc (c :: bs.drop (k + 1)) = Lib.parseUintM 9223372036854775807 (acc * 10 + (c.toNat - 48)) (bs.drop (k + 1)) := by simp [Lib.parseUintM,hd0,hd1,hcut,hov]
        have HN : Hid (a * 10 + ((c.toNat : Int) - 48) = ((acc * 10 + (c.toNat - 48) : Nat) : Int) ∧ acc * 10 + (c.toNat - 48) ≤ 9223372036854775807 ∧ Lib.parseUintM 9223372036854775807 0 bs = Lib.parseUintM 9223372036854775807 (acc * 10 + (c.toNat - 48)) (bs.drop (k + 1))) := Lib.hid ⟨by omega,by omega,hdec.trans hF⟩
        have iov : a * 10 + ((c.toNat : Int) - 48) ≤ 9223372036854775807 := by omega
        have icut : a < 1844674407370955162 := by omega
        clear hcut hacc hF hov hov2 hdec ha
        go_wp2
        refine ⟨⟨k + 1,acc * 10 + (c.toNat - 48),a * 10 + ((c.toNat : Int) - 48),rfl,(by first | rfl | (congr 1; omega)),(by first | rfl | (congr 1; omega)),by omega,HN⟩,by simp [intOf]; omega⟩
    ·
     have hF : Lib.parseUintM 9223372036854775807 acc (c :: bs.drop (k + 1)) = Lib.NumEnd.syntax := by simp [Lib.parseUintM,hdig]
     rw [hF] at hdec
     clear hacc hF ha
     have hv0 := bits_lo_u8 .or (c.toNat : Int) 32
     have hv1 := bits_hi_u8 .or (c.toNat : Int) 32
     have hu0 := bits_lo_u8 .or 95 32
     have hu1 := bits_hi_u8 .or 95 32
     go_wp2_with (go_at_fn (ρ.f 19); refine (AnyPu.internal_strconv_lower { L with } _ _).mono ?_; rintro e w' ⟨rfl,rfl⟩)
     all_goals go_ret2
     all_goals first | exact ⟨rfl,rfl⟩ | exact ⟨by rw [hdec]; rfl,rfl⟩
  ·
   have hkk : k = t.size := by omega
   subst hkk
   have hF : Lib.parseUintM 9223372036854775807 acc (bs.drop t.size) = .ok acc := by rw [List.drop_eq_nil_of_le (by omega)]; rfl
   rw [hF] at hdec
   subst ha
   clear hacc hF a0 a1
   go_wp2
   go_ret2
   exact ⟨rfl,rfl⟩
theorem AnyPu.internal_strconv_ParseUint_10_at63 (L : LaysPu.n16 P ρ) (t : ByteArray) (hmax : t.size ≤ 9223372036854775806) (w : World) :
 Calls P (ρ.f 16) #[.string t,.int .i64 10,.int .i64 63] w fun e w' => e = .returned (Lib.uintTupleM (ρ.t 34) 9223372036854775807 (Lib.parseUintB 63 t.data.toList)) ∧ (w' = w ∨ w' = Lib.bytesWorld w (ρ.t 5) t) := by
 have eM : (2 : Nat) ^ 63 - 1 = 9223372036854775807 := by decide
 by_cases h0 : t.size = 0
 · have ht : t = ⟨#[]⟩ := by
    apply ByteArray.ext
    exact Array.eq_empty_of_size_eq_zero h0
   subst ht
   exact (AnyPu.internal_strconv_ParseUint_empty { L with } 10 63 w).mono fun e w' ⟨he,hw⟩ => ⟨he,Or.inl hw⟩
 · have hne : t.data.toList ≠ [] := fun h => h0 (by rw [Lib.size_eq,h]; rfl)
   refine (AnyPu.internal_strconv_ParseUint_10_b63 { L with } t h0 hmax w).mono fun e w' ⟨he,hw⟩ => ⟨?_,Or.inr hw⟩
   rw [he,Lib.parseUintB,if_neg hne,eM]
set_option maxHeartbeats 4000000 in
set_option maxRecDepth 100000 in
theorem Any.strconv_ParseUint_10_at63_ok (L : LaysPu.n14 P ρ) (s : ByteArray) (hmax : s.size ≤ 9223372036854775806) (u : Nat) (h : Lib.parseUintB 63 s.data.toList = .ok u) (w : World) :
 Calls P (ρ.f 14) #[.string s,.int .i64 10,.int .i64 63] w fun e w' => e = .returned (.tuple #[.int .u64 u,.nilIface]) ∧ (w' = w ∨ w' = Lib.bytesWorld w (ρ.t 5) s) := by
 have mixed := L.mixed
 have t9 := L.t9; have a9 := L.a9; have z9 := L.z9; have v9 := L.v9
 have t3 := L.t3; have a3 := L.a3; have z3 := L.z3; have v3 := L.v3
 have t22 := L.t22; have a22 := L.a22; have z22 := L.z22; have v22 := L.v22
 have t24 := L.t24; have a24 := L.a24; have z24 := L.z24; have v24 := L.v24
 have t25 := L.t25; have a25 := L.a25; have z25 := L.z25; have v25 := L.v25
 have t4 := L.t4; have a4 := L.a4; have z4 := L.z4; have v4 := L.v4
 have e16 : ∀ args w,(callFunc (ρ.f 16) args).run P w = .ok (.enter (ρ.f 16) args) w := enters_of L.f16 (by kernel_rfl) rfl
 have hI := AnyPu.internal_strconv_ParseUint_10_at63 { L with } s hmax w
 rw [h] at hI
 have hI : Calls P (ρ.f 16) #[.string s,.int .i64 10,.int .i64 63] w fun e w' => e = .returned (.tuple #[.int .u64 u,.nilIface]) ∧ (w' = w ∨ w' = Lib.bytesWorld w (ρ.t 5) s) := hI
 clear h
 go_enter L.f14,BodyPu.n14_ntmps ρ
 go_wp2_with (go_at_fn (ρ.f 16); refine hI.mono ?_; rintro e W1 ⟨rfl,hW⟩)
 go_wp2
 go_ret2
 exact ⟨rfl,hW⟩
set_option maxHeartbeats 4000000 in
set_option maxRecDepth 100000 in
theorem Any.strconv_ParseUint_10_at63_syntax (L : LaysPu.n14 P ρ) (s : ByteArray) (hlim : s.size ≤ 281474976710656) (h : Lib.parseUintB 63 s.data.toList = Lib.NumEnd.syntax) (ev : Value) (w : World) (hv : w.cell? ⟨(ρ.g 0),0,none⟩ = some ev) (hev : ev = .nilIface ∨ ∃ te pe,ev = .iface te pe) :
 Calls P (ρ.f 14) #[.string s,.int .i64 10,.int .i64 63] w fun e w' => ∃ N,e = .returned (.tuple #[.int .u64 0,.iface (ρ.t 39) (.pointer (some ⟨N,0,none⟩))]) ∧ w.heap.size ≤ N ∧ w'.heap[N]? = some (.cells #[.string ⟨#[80,97,114,115,101,85,105,110,116]⟩,.string s,ev] (ρ.t 44) (0,0)) ∧ Below w.heap.size w w' := by
 have mixed := L.mixed
 have t9 := L.t9; have a9 := L.a9; have z9 := L.z9; have v9 := L.v9
 have t3 := L.t3; have a3 := L.a3; have z3 := L.z3; have v3 := L.v3
 have t22 := L.t22; have a22 := L.a22; have z22 := L.z22; have v22 := L.v22
 have t24 := L.t24; have a24 := L.a24; have z24 := L.z24; have v24 := L.v24
 have t25 := L.t25; have a25 := L.a25; have z25 := L.z25; have v25 := L.v25
 have t4 := L.t4; have a4 := L.a4; have z4 := L.z4; have v4 := L.v4
 have e16 : ∀ args w,(callFunc (ρ.f 16) args).run P w = .ok (.enter (ρ.f 16) args) w := enters_of L.f16 (by kernel_rfl) rfl
 have e17 : ∀ args w,(callFunc (ρ.f 17) args).run P w = .ok (.enter (ρ.f 17) args) w := enters_of L.f17 (by kernel_rfl) rfl
 have hG : (ρ.g 0) < w.heap.size := Lib.lt_of_cell hv
 have hI := AnyPu.internal_strconv_ParseUint_10_at63 { L with } s (by omega) w
 rw [h] at hI
 have hI : Calls P (ρ.f 16) #[.string s,.int .i64 10,.int .i64 63] w fun e w' => e = .returned (.tuple #[.int .u64 0,.iface (ρ.t 34) (.int .i64 2)]) ∧ (w' = w ∨ w' = Lib.bytesWorld w (ρ.t 5) s) := hI
 clear h
 go_enter L.f14,BodyPu.n14_ntmps ρ
 go_wp2_with (go_at_fn (ρ.f 16); refine hI.mono ?_)
 rintro e W1 ⟨rfl,hW⟩
 have hb1 : Below w.heap.size w W1 := by
  rcases hW with rfl | rfl
  · exact Below.refl _ _
  · exact Lib.bytesWorld_below _ _ _
 have hv1 : W1.cell? ⟨(ρ.g 0),0,none⟩ = some ev := (hb1.cell (show (⟨(ρ.g 0),0,none⟩ : Addr).block < w.heap.size from hG)).trans hv
 clear hW
 go_wp2_with (go_at_fn (ρ.f 17); refine (AnyPu.strconv_toError_syntax { L with } ⟨#[80,97,114,115,101,85,105,110,116]⟩ s 10 63 ev _ hlim ?_ hev).mono ?_)
 · exact hv1
 rintro e W2 ⟨N,rfl,h1,h2,h3⟩
 go_wp2
 go_ret2
 exact ⟨N,rfl,Nat.le_trans hb1.size h1,h2,hb1.trans (h3.mono hb1.size)⟩
set_option maxHeartbeats 4000000 in
set_option maxRecDepth 100000 in
theorem Any.strconv_ParseUint_10_at63_range (L : LaysPu.n14 P ρ) (s : ByteArray) (hlim : s.size ≤ 281474976710656) (h : Lib.parseUintB 63 s.data.toList = .range) (ev : Value) (w : World) (hv : w.cell? ⟨(ρ.g 1),0,none⟩ = some ev) (hev : ev = .nilIface ∨ ∃ te pe,ev = .iface te pe) :
 Calls P (ρ.f 14) #[.string s,.int .i64 10,.int .i64 63] w fun e w' => ∃ N,e = .returned (.tuple #[.int .u64 9223372036854775807,.iface (ρ.t 39) (.pointer (some ⟨N,0,none⟩))]) ∧ w.heap.size ≤ N ∧ w'.heap[N]? = some (.cells #[.string ⟨#[80,97,114,115,101,85,105,110,116]⟩,.string s,ev] (ρ.t 44) (0,0)) ∧ Below w.heap.size w w' := by
 have mixed := L.mixed
 have t9 := L.t9; have a9 := L.a9; have z9 := L.z9; have v9 := L.v9
 have t3 := L.t3; have a3 := L.a3; have z3 := L.z3; have v3 := L.v3
 have t22 := L.t22; have a22 := L.a22; have z22 := L.z22; have v22 := L.v22
 have t24 := L.t24; have a24 := L.a24; have z24 := L.z24; have v24 := L.v24
 have t25 := L.t25; have a25 := L.a25; have z25 := L.z25; have v25 := L.v25
 have t4 := L.t4; have a4 := L.a4; have z4 := L.z4; have v4 := L.v4
 have e16 : ∀ args w,(callFunc (ρ.f 16) args).run P w = .ok (.enter (ρ.f 16) args) w := enters_of L.f16 (by kernel_rfl) rfl
 have e17 : ∀ args w,(callFunc (ρ.f 17) args).run P w = .ok (.enter (ρ.f 17) args) w := enters_of L.f17 (by kernel_rfl) rfl
 have hG : (ρ.g 1) < w.heap.size := Lib.lt_of_cell hv
 have hI := AnyPu.internal_strconv_ParseUint_10_at63 { L with } s (by omega) w
 rw [h] at hI
 have hI : Calls P (ρ.f 16) #[.string s,.int .i64 10,.int .i64 63] w fun e w' => e = .returned (.tuple #[.int .u64 9223372036854775807,.iface (ρ.t 34) (.int .i64 1)]) ∧ (w' = w ∨ w' = Lib.bytesWorld w (ρ.t 5) s) := hI
 clear h
 go_enter L.f14,BodyPu.n14_ntmps ρ
 go_wp2_with (go_at_fn (ρ.f 16); refine hI.mono ?_)
 rintro e W1 ⟨rfl,hW⟩
 have hb1 : Below w.heap.size w W1 := by
  rcases hW with rfl | rfl
  · exact Below.refl _ _
  · exact Lib.bytesWorld_below _ _ _
 have hv1 : W1.cell? ⟨(ρ.g 1),0,none⟩ = some ev := (hb1.cell (show (⟨(ρ.g 1),0,none⟩ : Addr).block < w.heap.size from hG)).trans hv
 clear hW
 go_wp2_with (go_at_fn (ρ.f 17); refine (AnyPu.strconv_toError_range { L with } ⟨#[80,97,114,115,101,85,105,110,116]⟩ s 10 63 ev _ hlim ?_ hev).mono ?_)
 · exact hv1
 rintro e W2 ⟨N,rfl,h1,h2,h3⟩
 go_wp2
 go_ret2
 exact ⟨N,rfl,Nat.le_trans hb1.size h1,h2,hb1.trans (h3.mono hb1.size)⟩
end
end Go.Proofs
namespace Go.Proofs.Zf
section
open Go Go.Zam Go.Proofs
theorem tcf12 : compF Tryz.prog [7] Tryz.f12 = some (irTkLex 23 24 25 64 44) := by kernel_rfl
theorem h12 : HasT Tryz.prog [7] 12 (irTkLex 23 24 25 64 44) := ⟨_,Tryz.func12,tcf12⟩
theorem tcf52 : compF Tryz.prog [] Tryz.f52 = some (irTkIsKey 73 72) := by kernel_rfl
theorem h52 : Has Tryz.prog 52 (irTkIsKey 73 72) := ⟨_,Tryz.func52,tcf52⟩
theorem tcf8 : compF Tryz.prog [] Tryz.f8 = some (irR4Same) := by kernel_rfl
theorem h8 : Has Tryz.prog 8 (irR4Same) := ⟨_,Tryz.func8,tcf8⟩
theorem tcf23 : compF Tryz.prog [] Tryz.f23 = some (irRnBad 45) := by kernel_rfl
theorem h23 : Has Tryz.prog 23 (irRnBad 45) := ⟨_,Tryz.func23,tcf23⟩
theorem tcf24 : compF Tryz.prog [] Tryz.f24 = some (irScLead 46 47 48 49) := by kernel_rfl
theorem h24 : Has Tryz.prog 24 (irScLead 46 47 48 49) := ⟨_,Tryz.func24,tcf24⟩
theorem tcf25 : compF Tryz.prog [] Tryz.f25 = some (irScNext 46 50 51 52 53 54 55 56 44) := by kernel_rfl
theorem h25 : Has Tryz.prog 25 (irScNext 46 50 51 52 53 54 55 56 44) := ⟨_,Tryz.func25,tcf25⟩
theorem tcf72 : compF Tryz.prog [] Tryz.f72 = some (irSlHas 84) := by kernel_rfl
theorem h72 : Has Tryz.prog 72 (irSlHas 84) := ⟨_,Tryz.func72,tcf72⟩
theorem tcf84 : compF Tryz.prog [] Tryz.f84 = some (irSlIdx) := by kernel_rfl
theorem h84 : Has Tryz.prog 84 (irSlIdx) := ⟨_,Tryz.func84,tcf84⟩
theorem tcf73 : compF Tryz.prog [] Tryz.f73 = some (irTkKeys) := by kernel_rfl
theorem h73 : Has Tryz.prog 73 (irTkKeys) := ⟨_,Tryz.func73,tcf73⟩
theorem tcf50 : compF Tryz.prog [] Tryz.f50 = some (irLetter) := by kernel_rfl
theorem h50 : Has Tryz.prog 50 (irLetter) := ⟨_,Tryz.func50,tcf50⟩
theorem tcf53 : compF Tryz.prog [] Tryz.f53 = some (irDigit) := by kernel_rfl
theorem h53 : Has Tryz.prog 53 (irDigit) := ⟨_,Tryz.func53,tcf53⟩
theorem tcf46 : compF Tryz.prog [] Tryz.f46 = some (irScMore) := by kernel_rfl
theorem h46 : Has Tryz.prog 46 (irScMore) := ⟨_,Tryz.func46,tcf46⟩
theorem tcf47 : compF Tryz.prog [] Tryz.f47 = some (irTkBlank) := by kernel_rfl
theorem h47 : Has Tryz.prog 47 (irTkBlank) := ⟨_,Tryz.func47,tcf47⟩
theorem tcf48 : compF Tryz.prog [] Tryz.f48 = some (irScHash) := by kernel_rfl
theorem h48 : Has Tryz.prog 48 (irScHash) := ⟨_,Tryz.func48,tcf48⟩
theorem tcf49 : compF Tryz.prog [] Tryz.f49 = some (irScNoNl) := by kernel_rfl
theorem h49 : Has Tryz.prog 49 (irScNoNl) := ⟨_,Tryz.func49,tcf49⟩
theorem tcf51 : compF Tryz.prog [] Tryz.f51 = some (irScWord 46 71) := by kernel_rfl
theorem h51 : Has Tryz.prog 51 (irScWord 46 71) := ⟨_,Tryz.func51,tcf51⟩
theorem tcf71 : compF Tryz.prog [] Tryz.f71 = some (irScWordB 50 53) := by kernel_rfl
theorem h71 : Has Tryz.prog 71 (irScWordB 50 53) := ⟨_,Tryz.func71,tcf71⟩
theorem tcf55 : compF Tryz.prog [] Tryz.f55 = some (irScStr 75) := by kernel_rfl
theorem h55 : Has Tryz.prog 55 (irScStr 75) := ⟨_,Tryz.func55,tcf55⟩
theorem tcf56 : compF Tryz.prog [] Tryz.f56 = some (irScSign 76 77) := by kernel_rfl
theorem h56 : Has Tryz.prog 56 (irScSign 76 77) := ⟨_,Tryz.func56,tcf56⟩
theorem tcf75 : compF Tryz.prog [4] Tryz.f75 = some (irRnUnquote 87 67 32 74 5) := by kernel_rfl
theorem h75 : HasT Tryz.prog [4] 75 (irRnUnquote 87 67 32 74 5) := ⟨_,Tryz.func75,tcf75⟩
theorem tcf76 : compF Tryz.prog [] Tryz.f76 = some (irTkSigns) := by kernel_rfl
theorem h76 : Has Tryz.prog 76 (irTkSigns) := ⟨_,Tryz.func76,tcf76⟩
theorem tcf63 : compF Tryz.prog [] Tryz.f63 = some (irIsKey) := by kernel_rfl
theorem h63 : Has Tryz.prog 63 (irIsKey) := ⟨_,Tryz.func63,tcf63⟩
theorem tcf62 : compF Tryz.prog [] Tryz.f62 = some (irDigit) := by kernel_rfl
theorem h62 : Has Tryz.prog 62 (irDigit) := ⟨_,Tryz.func62,tcf62⟩
theorem tcf61 : compF Tryz.prog [] Tryz.f61 = some (irLetter) := by kernel_rfl
theorem h61 : Has Tryz.prog 61 (irLetter) := ⟨_,Tryz.func61,tcf61⟩
end
section
open Go Go.Zam Go.Proofs Go.Shelf
def bldRen : Ren := ⟨fun n => match n with | 240 => 83 | 276 => 94 | 169 => 32 | n => n,fun t => match t with | 0 => 0 | 3 => 3 | 4 => 4 | 5 => 5 | 9 => 9 | 20 => 20 | 37 => 72 | 70 => 71 | 72 => 74 | 127 => 105 | 164 => 123 | n => n,fun g => g⟩
theorem lay240 : Lays.n240 Tryz.prog bldRen where
 mixed := by kernel_rfl
 f240 := Tryz.func83.trans (congrArg some (by kernel_rfl))
 f276 := Tryz.func94.trans (congrArg some (by kernel_rfl))
 t0 := by kernel_rfl
 a0 := Tryz.isAgg0
 z0 := fun _ => by kernel_rfl
 v0 := Tryz.zeroValue0
 t4 := by kernel_rfl
 a4 := Tryz.isAgg4
 z4 := fun _ => by kernel_rfl
 v4 := Tryz.zeroValue4
 t9 := by kernel_rfl
 a9 := Tryz.isAgg9
 z9 := fun _ => by kernel_rfl
 v9 := Tryz.zeroValue9
 t20 := by kernel_rfl
 a20 := Tryz.isAgg20
 z20 := fun _ => by kernel_rfl
 v20 := Tryz.zeroValue20
 t70 := by kernel_rfl
 a70 := Tryz.isAgg71
 z70 := fun _ => by kernel_rfl
 v70 := Tryz.zeroValue71
 t72 := by kernel_rfl
 a72 := Tryz.isAgg74
 z72 := fun _ => by kernel_rfl
 v72 := Tryz.zeroValue74
 t164 := by kernel_rfl
 a164 := Tryz.isAgg123
 z164 := fun _ => by kernel_rfl
 v164 := Tryz.zeroValue123
theorem lay169 : Lays.n169 Tryz.prog bldRen where
 mixed := by kernel_rfl
 f169 := Tryz.func32.trans (congrArg some (by kernel_rfl))
 t0 := by kernel_rfl
 a0 := Tryz.isAgg0
 z0 := fun _ => by kernel_rfl
 v0 := Tryz.zeroValue0
 t3 := by kernel_rfl
 a3 := Tryz.isAgg3
 z3 := fun _ => by kernel_rfl
 v3 := Tryz.zeroValue3
 t9 := by kernel_rfl
 a9 := Tryz.isAgg9
 z9 := fun _ => by kernel_rfl
 v9 := Tryz.zeroValue9
 t37 := by kernel_rfl
 a37 := Tryz.isAgg72
 z37 := fun _ => by kernel_rfl
 v37 := Tryz.zeroValue72
 t70 := by kernel_rfl
 a70 := Tryz.isAgg71
 z70 := fun _ => by kernel_rfl
 v70 := Tryz.zeroValue71
 t72 := by kernel_rfl
 a72 := Tryz.isAgg74
 z72 := fun _ => by kernel_rfl
 v72 := Tryz.zeroValue74
 t127 := by kernel_rfl
 a127 := Tryz.isAgg105
 z127 := fun _ => by kernel_rfl
 v127 := Tryz.zeroValue105
theorem bldExtra : Builder.Extra Tryz.prog bldRen where
 sizeBuilder := by kernel_rfl
 liesBuilder := by kernel_rfl
 t5 := by kernel_rfl
 a5 := Tryz.isAgg5
 z5 := fun _ => by kernel_rfl
 v5 := Tryz.zeroValue5
 infoByte := by kernel_rfl
 cellsByte := by kernel_rfl
 sizeByte := by kernel_rfl
 neB5 := by decide
theorem copyCheckOk {H : Hp} {i : Nat} {x a : A} (hi : H[i]? = some (.box 74 [a,x])) (ha : a = .d .nilp ∨ a = .ptr i 0) :
 ACall Tryz.prog 83 [.ptr i 0] H (fun r H' => r = .tup [] ∧ H' = H.set i (.box 74 [.ptr i 0,x])) := copyCheck_acall lay240 bldExtra.toX72 hi ha
theorem stringOk {H : Hp} {i t : Nat} {a : A} {s : List UInt8} (hi : H[i]? = some (.box 74 [a,.osl true 1 (byteRows s) t])) (ht : H[t]? = some (.tok s.length 1 5)) (hlen : s.length ≤ 4611686018427387904) :
 ACall Tryz.prog 32 [.ptr i 0] H (fun r H' => r = .d (.str s) ∧ H' = H) := string_acall lay169 bldExtra hi ht hlen
end
section
open Go Go.Zam Go.Proofs
open Go.RowKit (Below)
theorem indexOk : IndexOk Tryz.prog 87 := fun s c H => by
 refine leaf (args := [.str s,.int .u8 c.toNat]) (x := .int .i64 (Lib.indexByte s c)) (fun w σ vs _ hl hv => ?_) H
 match vs,hl with
 | [v0,v1],_ =>
 have e0 := (hv 0 v0 _ rfl rfl).str_inv
 have e1 := (hv 1 v1 _ rfl rfl).int_inv
 subst e0; subst e1
 refine (Tryz.strings_IndexByte ⟨s.toArray⟩ c.toNat w).mono ?_
 rintro e w' ⟨rfl,rfl⟩
 refine ⟨_,rfl,Below.refl _ _,fun σ => ?_⟩
 have : (Int.toNat (c.toNat : Int)).toUInt8 = c := by simp
 rw [this]
 exact .int _ _
theorem prefixOk : PrefixOk Tryz.prog 77 := fun s p H => by
 refine leaf (args := [.str s,.str p]) (x := .bool (p.isPrefixOf s)) (fun w σ vs _ hl hv => ?_) H
 match vs,hl with
 | [v0,v1],_ =>
 have e0 := (hv 0 v0 _ rfl rfl).str_inv
 have e1 := (hv 1 v1 _ rfl rfl).str_inv
 subst e0; subst e1
 refine (Tryz.strings_HasPrefix ⟨s.toArray⟩ ⟨p.toArray⟩ w).mono ?_
 rintro e w' ⟨rfl,rfl⟩
 exact ⟨_,rfl,Below.refl _ _,fun σ => .bool _⟩
theorem decodeOk {H0 : Hp} (hG : TabsG 1 2 3 4 H0) : DecodeOk Tryz.prog H0 45 := fun s H hp => by
 refine leafG (args := [.str s]) hG (fun w σ vs hT hl hv => ?_) H hp
 match vs,hl with
 | [v0],_ =>
 have e0 := (hv 0 v0 _ rfl rfl).str_inv
 subst e0
 refine (Tryz.utf8_DecodeRuneInString ⟨s.toArray⟩ w hT.1).mono ?_
 rintro e w' ⟨rfl,hb⟩
 refine ⟨_,rfl,hb,fun κ => ?_⟩
 rw [decodeGo_eq]
 refine VR.tup [_,_] [_,_] rfl fun i v a hi ha => ?_
 match i with
 | 0 => cases hi; cases ha; exact .d (.int _ _)
 | 1 => cases hi; cases ha; exact .d (.int _ _)
 | i + 2 => cases hi
theorem numberCalls (s : ByteArray) (hlim : s.size ≤ 1048576) (w : World) (h0 : ∃ te pe,w.cell? ⟨3,0,none⟩ = some (.iface te pe)) (h1 : ∃ te pe,w.cell? ⟨4,0,none⟩ = some (.iface te pe)) :
 Calls Tryz.prog 54 #[.string s] w fun e w' => e = .returned (.int .i64 (if numOk s.data.toList then 0 else 23)) ∧ Below w.heap.size w w' := by
 obtain ⟨t0,p0,h0⟩ := h0
 obtain ⟨t1,p1,h1⟩ := h1
 rcases h : Lib.parseUintB 63 s.data.toList with u | _ | _
 · have hr : numOk s.data.toList = true := by simp only [numOk,h]
   rw [hr]
   go_enter Tryz.func54,Tryz.ntmps54
   go_wp2_with (go_at_call 74; refine (Any.strconv_ParseUint_10_at63_ok Tryz.laysPu14 s (by omega) u h _).mono ?_; rintro e w' ⟨rfl,hw⟩)
   go_wp2
   go_ret
   refine ⟨by first | rfl | (congr 2; omega),?_⟩
   rcases hw with rfl | rfl
   · exact Below.refl _ _
   · exact Lib.bytesWorld_below _ _ _
 · have hr : numOk s.data.toList = false := by simp only [numOk,h]
   rw [hr]
   go_enter Tryz.func54,Tryz.ntmps54
   go_wp2_with (go_at_call 74; refine (Any.strconv_ParseUint_10_at63_syntax Tryz.laysPu14 s (by omega) h (.iface t0 p0) _ ?_ (.inr ⟨_,_,rfl⟩)).mono ?_)
   · exact h0
   rintro e W1 ⟨N,rfl,-,-,hb⟩
   go_wp2
   go_ret
   exact ⟨rfl,hb⟩
 · have hr : numOk s.data.toList = false := by simp only [numOk,h]
   rw [hr]
   go_enter Tryz.func54,Tryz.ntmps54
   go_wp2_with (go_at_call 74; refine (Any.strconv_ParseUint_10_at63_range Tryz.laysPu14 s (by omega) h (.iface t1 p1) _ ?_ (.inr ⟨_,_,rfl⟩)).mono ?_)
   · exact h1
   rintro e W1 ⟨N,rfl,-,-,hb⟩
   go_wp2
   go_ret
   exact ⟨rfl,hb⟩
theorem numberOk {H0 : Hp} (hG : TabsG 1 2 3 4 H0) : NumOk Tryz.prog H0 54 := fun s H hp hl => by
 refine leafG (args := [.str s]) (x := .d _) hG (fun w σ vs hT hl' hv => ?_) H hp
 match vs,hl' with
 | [v0],_ =>
 have e0 := (hv 0 v0 _ rfl rfl).str_inv
 subst e0
 refine (numberCalls ⟨s.toArray⟩ (by simpa [ByteArray.size] using hl) w hT.2.1 hT.2.2).mono ?_
 rintro e w' ⟨rfl,hb⟩
 exact ⟨_,rfl,hb,fun κ => .d (.int _ _)⟩
theorem cfWB : compF Tryz.prog [] Tryz.f67 = some (irWriteByte 83 5) := by kernel_rfl
theorem copyOk : CopyOk Tryz.prog 83 74 := fun H i x a hi ha => copyCheckOk hi ha
theorem writeBOk : WriteBOk Tryz.prog 67 74 := fun H i t a bs c => writeByte_acall Tryz.func67 cfWB copyOk H i t a bs c
theorem stringOk' : StringOk Tryz.prog 32 74 := fun H i t a s hi ht hl => stringOk hi ht (by omega)
theorem unquoteOk (s : Bs) (H : Hp) (hs : s.length ≤ 1048576) : ACall Tryz.prog 75 [.d (.str s)] H (fun r H' => r = unqR (unqV s) ∧ H' = H) := h75.unquote indexOk writeBOk stringOk' s hs H
theorem letterOk : ByteOk Tryz.prog 50 letterB := h50.letter
theorem digitOk : ByteOk Tryz.prog 53 digitB := h53.digit
theorem isKeyOk (s : Bs) (H : Hp) : ACall Tryz.prog 52 [.d (.str s)] H (fun r H' => r = .d (.bool (decide (s ∈ keysL))) ∧ H' = H) := h52.isKey h73 h72 h84 s H
theorem wordOk {H : Hp} {i : Nat} {ts : TypeId} {text : Bs} {n : Nat} (hi : H[i]? = some (scan ts text n)) (hn : n ≤ text.length) (hl : text.length ≤ 1048576) :
 ACall Tryz.prog 51 [.ptr i 0] H (fun r H' => r = .d (.str ((text.drop n).take (Zam.runN Zam.wordB (text.drop n)))) ∧ H' = H.set i (scan ts text (n + Zam.runN Zam.wordB (text.drop n)))) :=
 h51.word h46 (by kernel_rfl) (h71.wordB letterOk digitOk) hi hn (by omega)
theorem leadOk {H : Hp} {i : Nat} {text : Bs} {n : Nat} (hi : H[i]? = some (scan 64 text n)) (hn : n ≤ text.length) (hl : text.length ≤ 1048576) :
 ACall Tryz.prog 24 [.ptr i 0] H (fun r H' => r = .d (.str ((text.drop n).take (leadS false (text.drop n)))) ∧ H' = H.set i (scan 64 text (n + leadS false (text.drop n)))) :=
 h24.lead h46 (by kernel_rfl) h47.blank (by kernel_rfl) h48.hash (by kernel_rfl) h49.noNl hi hn (by omega)
theorem nextOk {H0 : Hp} (hG : TabsG 1 2 3 4 H0) {H : Hp} {i : Nat} {text : Bs} {n : Nat} (hH : Pre0 H0 H) (h0i : H0.length ≤ i) (hi : H[i]? = some (scan 64 text n)) (hn : n ≤ text.length) (hl : text.length ≤ 1048576) :
 ACall Tryz.prog 25 [.ptr i 0] H (NextQ H i 64 text n (text.drop n) (tokN (text.drop n))) :=
 h25.next h46 (by kernel_rfl) letterOk (by kernel_rfl) digitOk wordOk isKeyOk (numberOk hG) (fun hi hn hl => h55.str unquoteOk hi hn hl) (fun hi hn hl => h56.sign h76 prefixOk hi hn (by omega)) hH h0i hi hn hl
theorem badOk {H0 : Hp} (hG : TabsG 1 2 3 4 H0) (s : Bs) (H : Hp) (hs : s.length ≤ 1048576) (hH : Pre0 H0 H) : ACall Tryz.prog 23 [.d (.str s)] H (fun r H' => r = .d (.int .i64 (badS s)) ∧ H' = H) := h23.bad (decodeOk hG) s hs H hH
theorem lexOk {H0 : Hp} (hG : TabsG 1 2 3 4 H0) (s : Bs) (hs : s.length ≤ 1048576) (H : Hp) (hH : Pre0 H0 H) :
 ACall Tryz.prog 12 [.d (.str s)] H (fun r H' => r = .tup [.d (.sl true 4 ((lexS s).1.map encTk)),.d (.int .i64 (lexS s).2.1),.d (.int .i64 (lexS s).2.2)] ∧ H' = H) :=
 h12.lex (badOk hG) leadOk (nextOk hG) s hs H hH
theorem rdigitOk : ByteOk Tryz.prog 62 digitB := h62.digit
theorem rletterOk : ByteOk Tryz.prog 61 letterB := h61.letter
theorem risKeyOk (s : Bs) (H : Hp) : ACall Tryz.prog 63 [.d (.str s)] H (fun r H' => r = .d (.bool (decide (s ∈ keysL))) ∧ H' = H) := isKey_acall Tryz.func63 tcf63 s H
end
section
open Go Go.Zam Go.Proofs
theorem pcf18 : compF Tryz.prog [] Tryz.f18 = some (irPNow 44) := by kernel_rfl
theorem ph18 : Has Tryz.prog 18 (irPNow 44) := ⟨_,Tryz.func18,pcf18⟩
theorem pcf19 : compF Tryz.prog [] Tryz.f19 = some (irPFail) := by kernel_rfl
theorem ph19 : Has Tryz.prog 19 (irPFail) := ⟨_,Tryz.func19,pcf19⟩
theorem pcf57 : compF Tryz.prog [] Tryz.f57 = some (irPIs 18 44) := by kernel_rfl
theorem ph57 : Has Tryz.prog 57 (irPIs 18 44) := ⟨_,Tryz.func57,pcf57⟩
theorem pcf34 : compF Tryz.prog [] Tryz.f34 = some (irPTook 57) := by kernel_rfl
theorem ph34 : Has Tryz.prog 34 (irPTook 57) := ⟨_,Tryz.func34,pcf34⟩
theorem pcf38 : compF Tryz.prog [] Tryz.f38 = some (irPWant 34 19) := by kernel_rfl
theorem ph38 : Has Tryz.prog 38 (irPWant 34 19) := ⟨_,Tryz.func38,pcf38⟩
theorem pcf37 : compF Tryz.prog [] Tryz.f37 = some (irPWord 18 19 44) := by kernel_rfl
theorem ph37 : Has Tryz.prog 37 (irPWord 18 19 44) := ⟨_,Tryz.func37,pcf37⟩
theorem pcf33 : compF Tryz.prog [10] Tryz.f33 = some (irPNode 25) := by kernel_rfl
theorem ph33 : HasT Tryz.prog [10] 33 (irPNode 25) := ⟨_,Tryz.func33,pcf33⟩
theorem pcf40 : compF Tryz.prog [] Tryz.f40 = some (irPDone 25) := by kernel_rfl
theorem ph40 : Has Tryz.prog 40 (irPDone 25) := ⟨_,Tryz.func40,pcf40⟩
theorem pcf39 : compF Tryz.prog [] Tryz.f39 = some (irPPut 25) := by kernel_rfl
theorem ph39 : Has Tryz.prog 39 (irPPut 25) := ⟨_,Tryz.func39,pcf39⟩
theorem pcf35 : compF Tryz.prog [] Tryz.f35 = some (irPList 34 39 38) := by kernel_rfl
theorem ph35 : Has Tryz.prog 35 (irPList 34 39 38) := ⟨_,Tryz.func35,pcf35⟩
theorem pcf26 : compF Tryz.prog [] Tryz.f26 = some (irPFile 33 18 57 58 39 59 19 40 25) := by kernel_rfl
theorem ph26 : Has Tryz.prog 26 (irPFile 33 18 57 58 39 59 19 40 25) := ⟨_,Tryz.func26,pcf26⟩
theorem pcf58 : compF Tryz.prog [] Tryz.f58 = some (irPUse 33 38 37 40 39 25) := by kernel_rfl
theorem ph58 : Has Tryz.prog 58 (irPUse 33 38 37 40 39 25) := ⟨_,Tryz.func58,pcf58⟩
theorem pcf59 : compF Tryz.prog [] Tryz.f59 = some (irPDef 33 38 37 78 79 80 39 40 25) := by kernel_rfl
theorem ph59 : Has Tryz.prog 59 (irPDef 33 38 37 78 79 80 39 40 25) := ⟨_,Tryz.func59,pcf59⟩
theorem pcf78 : compF Tryz.prog [] Tryz.f78 = some (irPParams 33 38 89 35 40 50 25) := by kernel_rfl
theorem ph78 : Has Tryz.prog 78 (irPParams 33 38 89 35 40 50 25) := ⟨_,Tryz.func78,pcf78⟩
theorem pcf89 : compF Tryz.prog [] Tryz.f89 = some (irPParam 33 37 79 39 40 25) := by kernel_rfl
theorem ph89 : Has Tryz.prog 89 (irPParam 33 37 79 39 40 25) := ⟨_,Tryz.func89,pcf89⟩
theorem pcf79 : compF Tryz.prog [] Tryz.f79 = some (irPTyped 34 17 25) := by kernel_rfl
theorem ph79 : Has Tryz.prog 79 (irPTyped 34 17 25) := ⟨_,Tryz.func79,pcf79⟩
theorem pcf17 : compF Tryz.prog [] Tryz.f17 = some (irPKind 33 34 36 35 38 17 39 19 40 50 25) := by kernel_rfl
theorem ph17 : Has Tryz.prog 17 (irPKind 33 34 36 35 38 17 39 19 40 50 25) := ⟨_,Tryz.func17,pcf17⟩
theorem pcf36 : compF Tryz.prog [] Tryz.f36 = some (irPTField 33 37 38 17 39 40 25) := by kernel_rfl
theorem ph36 : Has Tryz.prog 36 (irPTField 33 37 38 17 39 40 25) := ⟨_,Tryz.func36,pcf36⟩
theorem pcf80 : compF Tryz.prog [] Tryz.f80 = some (irPBlock 33 38 34 90 39 40 25) := by kernel_rfl
theorem ph80 : Has Tryz.prog 80 (irPBlock 33 38 34 90 39 40 25) := ⟨_,Tryz.func80,pcf80⟩
theorem pcf90 : compF Tryz.prog [] Tryz.f90 = some (irPStmt 33 34 37 79 39 38 102 80 40 103 25) := by kernel_rfl
theorem ph90 : Has Tryz.prog 90 (irPStmt 33 34 37 79 39 38 102 80 40 103 25) := ⟨_,Tryz.func90,pcf90⟩
theorem pcf103 : compF Tryz.prog [] Tryz.f103 = some (irPSets 18 44) := by kernel_rfl
theorem ph103 : Has Tryz.prog 103 (irPSets 18 44) := ⟨_,Tryz.func103,pcf103⟩
theorem pcf102 : compF Tryz.prog [] Tryz.f102 = some (irPExpr 109 34 110 25) := by kernel_rfl
theorem ph102 : Has Tryz.prog 102 (irPExpr 109 34 110 25) := ⟨_,Tryz.func102,pcf102⟩
theorem pcf110 : compF Tryz.prog [] Tryz.f110 = some (irPWith 25) := by kernel_rfl
theorem ph110 : Has Tryz.prog 110 (irPWith 25) := ⟨_,Tryz.func110,pcf110⟩
theorem pcf109 : compF Tryz.prog [] Tryz.f109 = some (irPSum 113 34 110 25) := by kernel_rfl
theorem ph109 : Has Tryz.prog 109 (irPSum 113 34 110 25) := ⟨_,Tryz.func109,pcf109⟩
theorem pcf113 : compF Tryz.prog [] Tryz.f113 = some (irPTerm 116 34 110 25) := by kernel_rfl
theorem ph113 : Has Tryz.prog 113 (irPTerm 116 34 110 25) := ⟨_,Tryz.func113,pcf113⟩
theorem pcf116 : compF Tryz.prog [15] Tryz.f116 = some (irPPost 122 34 37 102 35 40 25) := by kernel_rfl
theorem ph116 : HasT Tryz.prog [15] 116 (irPPost 122 34 37 102 35 40 25) := ⟨_,Tryz.func116,pcf116⟩
theorem pcf122 : compF Tryz.prog [4000000] Tryz.f122 = some (irPAtom 33 18 37 34 102 39 38 129 35 78 79 80 19 40 50 25 44) := by kernel_rfl
theorem ph122 : HasT Tryz.prog [4000000] 122 (irPAtom 33 18 37 34 102 39 38 129 35 78 79 80 19 40 50 25 44) := ⟨_,Tryz.func122,pcf122⟩
theorem pcf129 : compF Tryz.prog [] Tryz.f129 = some (irPEntry 33 37 38 102 39 40 25) := by kernel_rfl
theorem ph129 : Has Tryz.prog 129 (irPEntry 33 37 38 102 39 40 25) := ⟨_,Tryz.func129,pcf129⟩
theorem pcf13 : compF Tryz.prog [] Tryz.f13 = some (irPParse 26 20 25 52) := by kernel_rfl
theorem ph13 : Has Tryz.prog 13 (irPParse 26 20 25 52) := ⟨_,Tryz.func13,pcf13⟩
theorem pcf5 : compF Tryz.prog [] Tryz.f5 = some (irPOf 12 13 25) := by kernel_rfl
theorem ph5 : Has Tryz.prog 5 (irPOf 12 13 25) := ⟨_,Tryz.func5,pcf5⟩
theorem pcf10 : compF Tryz.prog [] Tryz.f10 = some (irPType 12 17 18 19 20 25 52) := by kernel_rfl
theorem pcf20 : compF Tryz.prog [] Tryz.f20 = some (irTDepth 20 25) := by kernel_rfl
theorem ph20 : Has Tryz.prog 20 (irTDepth 20 25) := ⟨_,Tryz.func20,pcf20⟩
theorem pcf9 : compF Tryz.prog [] Tryz.f9 = some (irR6Same 9 25) := by kernel_rfl
theorem ph9 : Has Tryz.prog 9 (irR6Same 9 25) := ⟨_,Tryz.func9,pcf9⟩
def F : PF := { now := 18,fail := 19,is := 57,took := 34,want := 38,word := 37,node := 33,done := 40,put := 39,list := 35,file := 26,use_ := 58,def_ := 59,params := 78,param := 89,typed := 79,kind := 17,tfield := 36,block := 80,stmt := 90,sets := 103,expr := 102,with_ := 110,sum := 109,term := 113,post := 116,atom := 122,entry := 129,tn := 25,tt := 44,tp := 52,tb := 50 }
theorem has : PHas Tryz.prog F where
 now := ph18
 fail := ph19
 is := ph57
 took := ph34
 want := ph38
 word := ph37
 node := ph33
 done := ph40
 put := ph39
 list := ph35
 file := ph26
 use_ := ph58
 def_ := ph59
 params := ph78
 param := ph89
 typed := ph79
 kind := ph17
 tfield := ph36
 block := ph80
 stmt := ph90
 sets := ph103
 expr := ph102
 with_ := ph110
 sum := ph109
 term := ph113
 post := ph116
 atom := ph122
 entry := ph129
 kParam := by kernel_rfl
 kTField := by kernel_rfl
 kKind := by kernel_rfl
 kExpr := by kernel_rfl
 kSum := by kernel_rfl
 kTerm := by kernel_rfl
 kPost := by kernel_rfl
 kEntry := by kernel_rfl
theorem parseOk (z : Bool) (L : List Tk) (hL : L.length ≤ 1048576) (hEq : ∀ i,isT L i [61] = true → kdT L i = 5) (H : Hp) : ACall Tryz.prog 13 [.d (.sl z 4 (L.map encTk))] H (fun r H' => r = .tup [(parseP L).1.v,.d (.int .i64 (parseP L).2.1),.d (.int .i64 (parseP L).2.2)] ∧ H' = H) := Has.parse (F := F) ph13 has ph20 hL hEq H
theorem ofOk {H0 : Hp} (hG : TabsG 1 2 3 4 H0) (s : Bs) (hs : s.length ≤ 1048576) (H : Hp) (hH : Pre0 H0 H) : ACall Tryz.prog 5 [.d (.str s)] H (fun r H' => r = .tup [.d (.sl true 4 ((parseO s).1.map encTk)),(parseO s).2.1.v,.d (.int .i64 (parseO s).2.2.1),.d (.int .i64 (parseO s).2.2.2)] ∧ H' = H) := Has.of_ ph5 (fun s hs H hH => lexOk hG s hs H hH) parseOk s hs H hH
end
section
open Go Go.Zam Go.Proofs
def ir4 : IFn := { nt := 28, res := [.t 2], body := ( .seq (.ops [ ⟨some 2,none,.mv (.c (.bool false))⟩] false) (.seq (.ops [ ⟨some 8,none,.mv (.t 0)⟩, ⟨some 9,none,.call 10 [(.t 8)]⟩, ⟨some 7,none,.mv (.t 9)⟩, ⟨some 10,none,.ext (.t 7) 0⟩, ⟨some 11,none,.ext (.t 7) 1⟩, ⟨some 3,none,.alloc 25 [(.int .i64 0),(.int .i64 0),(.int .i64 0),(.str []),(.int .i64 0),(.sl true 6 [])]⟩, ⟨none,none,.store 6 (.t 3) (.t 10)⟩, ⟨some 4,none,.mv (.t 11)⟩] false) (.seq (.ops [ ⟨some 13,none,.mv (.t 0)⟩, ⟨some 14,none,.call 11 [(.t 13)]⟩, ⟨some 12,none,.mv (.t 14)⟩, ⟨some 15,none,.ext (.t 12) 0⟩, ⟨some 16,none,.ext (.t 12) 1⟩, ⟨some 5,none,.alloc 25 [(.int .i64 0),(.int .i64 0),(.int .i64 0),(.str []),(.int .i64 0),(.sl true 6 [])]⟩, ⟨none,none,.store 6 (.t 5) (.t 15)⟩, ⟨some 6,none,.mv (.t 16)⟩] false) (.seq (.ops [ ⟨some 17,none,.call 7 []⟩, ⟨some 18,none,.mv (.t 17)⟩, ⟨some 19, some (18, true),.mv (.t 4)⟩, ⟨some 20, some (18, true),.mv (.t 6)⟩, ⟨some 21, some (18, true),.bin .eql (.t 19) (.t 20)⟩, ⟨some 22,none,.pick (.t 18) (.t 21) (.c (.bool false))⟩, ⟨some 23,none,.mv (.t 22)⟩, ⟨some 24, some (23, true),.load 6 true (.t 3)⟩, ⟨some 25, some (23, true),.load 6 true (.t 5)⟩, ⟨some 26, some (23, true),.call 9 [(.t 24),(.t 25),(.c (.bool true))]⟩, ⟨some 27,none,.pick (.t 23) (.t 26) (.c (.bool false))⟩, ⟨some 2,none,.mv (.t 27)⟩] false) (.ret))))) }
theorem cf4 : compF Tryz.prog [] Tryz.f4 = some ir4 := by kernel_rfl
def ir7 : IFn := { nt := 18, res := [.t 0], body := ( .seq (.ops [ ⟨some 0,none,.mv (.c (.bool false))⟩] false) (.seq (.ops [ ⟨some 6,none,.call 5 [(.c (.str [100,101,102,32,109,97,105,110,40,41,32,123,125]))]⟩, ⟨some 5,none,.mv (.t 6)⟩, ⟨some 7,none,.ext (.t 5) 0⟩, ⟨some 8,none,.ext (.t 5) 1⟩, ⟨some 9,none,.ext (.t 5) 2⟩, ⟨some 10,none,.ext (.t 5) 3⟩, ⟨some 2,none,.alloc 25 [(.int .i64 0),(.int .i64 0),(.int .i64 0),(.str []),(.int .i64 0),(.sl true 6 [])]⟩, ⟨some 1,none,.mv (.t 7)⟩, ⟨none,none,.store 6 (.t 2) (.t 8)⟩, ⟨some 3,none,.mv (.t 9)⟩, ⟨some 4,none,.mv (.t 10)⟩] false) (.seq (.ops [ ⟨some 11,none,.mv (.t 3)⟩, ⟨some 12,none,.bin .eql (.t 11) (.c (.int .i64 0))⟩, ⟨some 13,none,.mv (.t 12)⟩, ⟨some 14, some (13, true),.load 6 true (.t 2)⟩, ⟨some 15, some (13, true),.call 16 [(.t 14)]⟩, ⟨some 16, some (13, true),.bin .eql (.t 15) (.c (.str [40,102,105,108,101,32,40,100,101,102,32,109,97,105,110,32,40,112,97,114,97,109,115,41,32,45,32,40,98,108,111,99,107,41,41,41]))⟩, ⟨some 17,none,.pick (.t 13) (.t 16) (.c (.bool false))⟩, ⟨some 0,none,.mv (.t 17)⟩] false) (.ret)))) }
theorem cf7 : compF Tryz.prog [] Tryz.f7 = some ir7 := by kernel_rfl
end
end Go.Proofs.Zf
namespace Go.Zam
section
inductive N.Sm (p : Bool) : N → N → Prop
 | mk {k f t f' t' : Int} {w : Bs} {a a' : Int} {z z' : Bool} {ks ks' : List N} (hp : p = true → f = f' ∧ t = t' ∧ a = a') (hl : ks.length = ks'.length) (hk : ∀ (i : Nat) (x y : N),ks[i]? = some x → ks'[i]? = some y → N.Sm p x y) :
  N.Sm p (.mk k f t w a z ks) (.mk k f' t' w a' z' ks')
theorem N.Sm.refl (p : Bool) : ∀ n : N,N.Sm p n n := by
 refine N.ind fun k f t w a z ks ih => ?_
 refine .mk (fun _ => ⟨rfl,rfl,rfl⟩) rfl fun i x y hx hy => ?_
 rw [hx] at hy
 cases hy
 exact ih x (List.mem_of_getElem? hx)
section
variable {P : Program}
theorem HasT.showTop {f fs fst tn bt} {H0 : Hp} (h : HasT P [3] f (irTShowTop fs fst tn bt 5)) (hst : StringOk P fst bt)
 (hs : ∀ (n : N),n.Kd → ∀ (H : Hp) (b t : Nat) (a : A) (bs : Bs),Pre0 H0 H → H0.length ≤ b → H0.length ≤ t → H[b]? = some (.box bt [a,.osl true 1 (byteRows bs) t]) → (a = .d .nilp ∨ a = .ptr b 0) → H[t]? = some (.tok bs.length 1 5) → bs.length + n.show.length ≤ 1048576 → n.size ≤ 1048576 →
  ACall P fs [.ptr b 0,n.v] H (fun r H' => r = .tup [] ∧ H' = BS bt H b t (bs ++ n.show)))
 (n : N) (hk : n.Kd) (hl : n.show.length ≤ 1048576) (hsz : n.size ≤ 1048576) (H : Hp) (hH : Pre0 H0 H) : ACall P f [n.v] H (fun r H' => r = .d (.str n.show) ∧ H' = H) := by
 obtain ⟨fn,hf,hcf⟩ := h
 refine acall_fin hf hcf (by simp [irTShowTop]) fun hcl _ => ?_
 have hH0 : H0.length ≤ H.length := by obtain ⟨X,rfl⟩ := hH; simp
 obtain ⟨o,ho⟩ : ∃ o : Ob,o = .box tn (n.enc.map .d) := ⟨_,rfl⟩
 have g := hs n hk (H ++ [o,.tok 0 1 5,.box bt [.d .nilp,.osl true 1 [] (H.length + 1)]]) (H.length + 2) (H.length + 1) (.d .nilp) [] (hH.app _) (by omega) (by omega) (by simp [byteRows]) (.inl rfl) (by simp) (by simpa using hl) hsz
 have e : BS bt (H ++ [o,.tok 0 1 5,.box bt [.d .nilp,.osl true 1 [] (H.length + 1)]]) (H.length + 2) (H.length + 1) ([] ++ n.show) = H ++ [o,.tok n.show.length 1 5,.box bt [.ptr (H.length + 2) 0,.osl true 1 (byteRows n.show) (H.length + 1)]] := by
  unfold BS
  simp
 rw [e,ho] at g
 have g2 := hst (H ++ [o,.tok n.show.length 1 5,.box bt [.ptr (H.length + 2) 0,.osl true 1 (byteRows n.show) (H.length + 1)]]) (H.length + 2) (H.length + 1) (.ptr (H.length + 2) 0) n.show (by simp) (by simp) (by omega)
 rw [ho] at g2
 generalize n.show = S at g g2 ⊢
 obtain ⟨k,f',t,w,a,z,ks⟩ := n
 rw [N.v_mk] at g
 rw [N.enc_mk] at g g2
 rw [N.v_mk]
 simp at g g2
 simp [irTShowTop]
 refine CallK_of' g ?_
 simp
 refine CallK_of' g2 ?_
 simp
 simp [RetK,cut_app hcl]
theorem Has.same6 {f tn} (h : Has P f (irR6Same f tn)) (p : Bool) {n m : N} (hs : N.Sm p n m) : n.size ≤ 1125899906842624 → ∀ (H : Hp),ACall P f [n.v,m.v,.d (.bool p)] H (fun r H' => r = .d (.bool true) ∧ H' = H) := by
 induction hs with
 | @mk k f' t f'' t' w a a' z z' ks ks' hp hl hk ih =>
 intro hsz H
 obtain ⟨fn,hf,hcf⟩ := h
 refine acall_fin hf hcf (by simp [irR6Same]) fun hcl _ => ?_
 rw [N.size_mk] at hsz
 have hlen := N.sizes_len ks
 rw [N.v_mk,N.v_mk]
 obtain ⟨b1,hb1⟩ : ∃ b1 : Ob,b1 = .box tn [.d (.int .i64 k),.d (.int .i64 f'),.d (.int .i64 t),.d (.str w),.d (.int .i64 a),.d (.sl z 6 (ks.map N.enc))] := ⟨_,rfl⟩
 obtain ⟨b2,hb2⟩ : ∃ b2 : Ob,b2 = .box tn [.d (.int .i64 k),.d (.int .i64 f''),.d (.int .i64 t'),.d (.str w),.d (.int .i64 a'),.d (.sl z' 6 (ks'.map N.enc))] := ⟨_,rfl⟩
 have hg1 : ∀ X,(H ++ b1 :: b2 :: X)[H.length]? = some (.box tn [.d (.int .i64 k),.d (.int .i64 f'),.d (.int .i64 t),.d (.str w),.d (.int .i64 a),.d (.sl z 6 (ks.map N.enc))]) := fun X => by rw [hb1]; simp
 have hg2 : ∀ X,(H ++ b1 :: b2 :: X)[H.length + 1]? = some (.box tn [.d (.int .i64 k),.d (.int .i64 f''),.d (.int .i64 t'),.d (.str w),.d (.int .i64 a'),.d (.sl z' 6 (ks'.map N.enc))]) := fun X => by rw [hb2]; simp
 have hcut2 : Hp.cut (H.length + 2) (H ++ [b1,b2]) = H ++ [b1,b2] := by rw [cut_appk hcl,hb1,hb2]; rfl
 cases p with
 | false =>
   simp [irR6Same,hl]
   rw [← hb1,← hb2]
   refine LoopK_out 0 (fun fr H' => H' = H ++ [b1,b2]) ?_ ?_
   · refine ForK_of (H.length + 2) ks.length (fun i fr H' => fr 2 = .d (.bool false) ∧ fr 3 = .ptr H.length 0 ∧ fr 4 = .ptr (H.length + 1) 0 ∧ H' = H ++ [b1,b2]) (by omega) (by decide) (by simp) (by simp) ?_ ?_
     · simp [hcut2]
     · rintro i fr H' hi f7 ⟨f2,f3,f4,rfl⟩
       subst hb1
       subst hb2
       simp [f7,f3]
       refine BrK_split (fun hlt => ?_) (fun hlt => ?_)
       · have hlt : i < ks.length := by simpa using hlt
         have hlt' : i < ks'.length := by omega
         have hr := rowAt_map N.enc hlt
         have hr' := rowAt_map N.enc hlt'
         have hx : ks[i]? = some ks[i] := List.getElem?_eq_getElem hlt
         have hy : ks'[i]? = some ks'[i] := List.getElem?_eq_getElem hlt'
         have hxs := N.sizes_mem (List.getElem_mem hlt)
         generalize ks[i] = x at hr hx hxs
         generalize ks'[i] = y at hr' hy
         have ih' := ih i x y hx hy (by omega)
         obtain ⟨k1,f1,t1,w1,a1,z1,l1⟩ := x
         obtain ⟨k2,f2',t2,w2,a2,z2,l2⟩ := y
         rw [N.enc_mk] at hr hr'
         rw [N.v_mk,N.v_mk] at ih'
         simp [f7,f3,f4,f2,hr,hr']
         refine CallD_of (ih' _) ?_
         simp
         refine NextF_of (H.length + 2) (Nat.le_refl _) hlt (by simp [f7]) ?_
         simp [f2,f3,f4]
         exact hcut2
       · simp
   · rintro fr H' rfl
     simp
     simp [RetK,cut_app hcl]
 | true =>
   obtain ⟨rfl,rfl,rfl⟩ := hp rfl
   simp [irR6Same,hl]
   rw [← hb1,← hb2]
   refine LoopK_out 0 (fun fr H' => H' = H ++ [b1,b2]) ?_ ?_
   · refine ForK_of (H.length + 2) ks.length (fun i fr H' => fr 2 = .d (.bool true) ∧ fr 3 = .ptr H.length 0 ∧ fr 4 = .ptr (H.length + 1) 0 ∧ H' = H ++ [b1,b2]) (by omega) (by decide) (by simp) (by simp) ?_ ?_
     · simp [hcut2]
     · rintro i fr H' hi f7 ⟨f2,f3,f4,rfl⟩
       subst hb1
       subst hb2
       simp [f7,f3]
       refine BrK_split (fun hlt => ?_) (fun hlt => ?_)
       · have hlt : i < ks.length := by simpa using hlt
         have hlt' : i < ks'.length := by omega
         have hr := rowAt_map N.enc hlt
         have hr' := rowAt_map N.enc hlt'
         have hx : ks[i]? = some ks[i] := List.getElem?_eq_getElem hlt
         have hy : ks'[i]? = some ks'[i] := List.getElem?_eq_getElem hlt'
         have hxs := N.sizes_mem (List.getElem_mem hlt)
         generalize ks[i] = x at hr hx hxs
         generalize ks'[i] = y at hr' hy
         have ih' := ih i x y hx hy (by omega)
         obtain ⟨k1,f1,t1,w1,a1,z1,l1⟩ := x
         obtain ⟨k2,f2',t2,w2,a2,z2,l2⟩ := y
         rw [N.enc_mk] at hr hr'
         rw [N.v_mk,N.v_mk] at ih'
         simp [f7,f3,f4,f2,hr,hr']
         refine CallD_of (ih' _) ?_
         simp
         refine NextF_of (H.length + 2) (Nat.le_refl _) hlt (by simp [f7]) ?_
         simp [f2,f3,f4]
         exact hcut2
       · simp
   · rintro fr H' rfl
     simp
     simp [RetK,cut_app hcl]
end
end
theorem letter_ne {b : UInt8} (h : letterB b = true) : blankB b = false ∧ hashB b = false ∧ digitB b = false ∧ b.toNat < 128 := by
 simp only [letterB,Bool.or_eq_true,Bool.and_eq_true,decide_eq_true_eq] at h
 refine ⟨?_,?_,?_,?_⟩
 · simp only [blankB,Bool.or_eq_false_iff,decide_eq_false_iff_not]; omega
 · simp only [hashB,decide_eq_false_iff_not]; omega
 · simp only [digitB,Bool.and_eq_false_iff,decide_eq_false_iff_not]; omega
 · omega
theorem digit_ne {b : UInt8} (h : digitB b = true) : blankB b = false ∧ hashB b = false ∧ letterB b = false ∧ b.toNat < 128 := by
 simp only [digitB,Bool.and_eq_true,decide_eq_true_eq] at h
 refine ⟨?_,?_,?_,?_⟩
 · simp only [blankB,Bool.or_eq_false_iff,decide_eq_false_iff_not]; omega
 · simp only [hashB,decide_eq_false_iff_not]; omega
 · simp only [letterB,Bool.or_eq_false_iff,Bool.and_eq_false_iff,decide_eq_false_iff_not]; omega
 · omega
theorem word_ascii {b : UInt8} (h : wordB b = true) : b.toNat < 128 := by
 simp only [wordB,Bool.or_eq_true] at h
 rcases h with h | h
 · exact (letter_ne h).2.2.2
 · exact (digit_ne h).2.2.2
def Sep (rest r' : Bs) : Prop := r' = [] ∨ ∃ b t,r' = b :: t ∧ ((∃ u,rest = b :: u) ∨ (wordB b = false ∧ b ≠ 61))
theorem runN_split (p : UInt8 → Bool) (s r' : Bs) (h : r' = [] ∨ ∃ b t,r' = b :: t ∧ p b = false) : runN p (s.take (runN p s) ++ r') = runN p s := by
 have hr : ∀ r' : Bs,(r' = [] ∨ ∃ b t,r' = b :: t ∧ p b = false) → runN p r' = 0 := by
  rintro r' (rfl | ⟨b,t,rfl,hb⟩)
  · rfl
  · simp [runN,hb]
 induction s with
 | nil => exact hr r' h
 | cons b s ih =>
   cases hb : p b with
   | false =>
     have e : runN p (b :: s) = 0 := by simp [runN,hb]
     rw [e]
     simpa using hr r' h
   | true =>
     have e : runN p (b :: s) = runN p s + 1 := by simp [runN,hb]
     rw [e,List.take_succ_cons,List.cons_append]
     have e2 : runN p (b :: (s.take (runN p s) ++ r')) = runN p (s.take (runN p s) ++ r') + 1 := by simp [runN,hb]
     rw [e2,ih]
theorem runN_rest (p : UInt8 → Bool) : ∀ (s : Bs),s.drop (runN p s) = [] ∨ ∃ b t,s.drop (runN p s) = b :: t ∧ p b = false
 | [] => .inl (by simp [runN])
 | b :: s => by
   cases hb : p b with
   | false => exact .inr ⟨b,s,by simp [runN,hb],hb⟩
   | true =>
     have e : runN p (b :: s) = runN p s + 1 := by simp [runN,hb]
     rw [e,List.drop_succ_cons]
     exact runN_rest p s
theorem strS_app : ∀ {s : Bs} {k : Nat},strS s = some k → ∀ r',strS (s.take k ++ r') = some k
 | [],k,h,r' => by simp [strS] at h
 | [b], k, h, r' => by
   simp only [strS] at h
   split at h
   · rename_i hb
     cases h
     subst hb
     cases r' <;> simp [strS]
   · cases h
 | b :: c :: r, k, h, r' => by
   simp only [strS] at h
   split at h
   · rename_i hb
     cases h
     subst hb
     cases r' <;> simp [strS]
   rename_i hb
   split at h
   · rename_i h92
     cases e : strS r with
     | none => simp [e] at h
     | some q =>
       have i := strS_app e r'
       simp [e] at h
       subst h
       have : (b :: c :: r).take (q + 2) ++ r' = b :: c :: (r.take q ++ r') := rfl
       rw [this,strS,if_neg hb,if_pos h92,i]; rfl
   rename_i h92
   split at h
   · cases h
   · rename_i h10
     cases e : strS (c :: r) with
     | none => simp [e] at h
     | some q =>
       have i := strS_app e r'
       have hq := strS_le e
       simp [e] at h
       subst h
       obtain ⟨q',rfl⟩ : ∃ q',q = q' + 1 := ⟨q - 1,by omega⟩
       have e2 : (b :: c :: r).take (q' + 1 + 1) ++ r' = b :: c :: (r.take q' ++ r') := rfl
       have e3 : (c :: r).take (q' + 1) ++ r' = c :: (r.take q' ++ r') := rfl
       rw [e3] at i
       rw [e2,strS,if_neg hb,if_neg h92,if_neg h10,i]; rfl
theorem strV_app {s : Bs} (hs : s ≠ []) (h : (strV s).2 = 0) (r' : Bs) : strV (s.take (strV s).1.length ++ r') = strV s := by
 cases s with
 | nil => exact absurd rfl hs
 | cons b s =>
 unfold strV at h ⊢
 simp only [List.drop_succ_cons,List.drop_zero] at h ⊢
 cases e : strS s with
 | none => rw [e] at h; simp at h
 | some k =>
   have hk := strS_le e
   rw [e] at h
   simp only at h ⊢
   have hlen : ((b :: s).take (k + 1)).length = k + 1 := by simp; omega
   rw [hlen,List.take_succ_cons,List.cons_append,List.drop_succ_cons,List.drop_zero,strS_app e r']
   simp only
   have e2 : (b :: (s.take k ++ r')).take (k + 1) = b :: s.take k := by
    rw [List.take_succ_cons,List.take_append_of_le_length (by simp; omega),List.take_take,Nat.min_self]
   rw [e2]
theorem signV_two : ∀ (s : Bs),signV s = match s with
 | [] => []
 | [b] => if b ∈ ([40,41,123,125,44,59,58,46,61,43,45,42,60] : List UInt8) then [b] else []
 | b :: c :: _ => if b = 61 ∧ c = 61 then [61,61] else if b ∈ ([40,41,123,125,44,59,58,46,61,43,45,42,60] : List UInt8) then [b] else [] := by
 intro s
 match s with
 | [] => rfl
 | [b] =>
   simp only [signV,signsT,List.find?,List.isPrefixOf]
   by_cases h : b ∈ ([40,41,123,125,44,59,58,46,61,43,45,42,60] : List UInt8)
   · simp only [List.mem_cons,List.not_mem_nil,or_false] at h
     rcases h with rfl | rfl | rfl | rfl | rfl | rfl | rfl | rfl | rfl | rfl | rfl | rfl | rfl <;> rfl
   · simp only [List.mem_cons,List.not_mem_nil,or_false,not_or] at h
     obtain ⟨h1,h2,h3,h4,h5,h6,h7,h8,h9,h10,h11,h12,h13⟩ := h
     have g : ∀ x : UInt8,b ≠ x → (x == b) = false := fun x h => by simpa using Ne.symm h
     simp [g _ h1,g _ h2,g _ h3,g _ h4,g _ h5,g _ h6,g _ h7,g _ h8,g _ h9,g _ h10,g _ h11,g _ h12,g _ h13,h1,h2,h3,h4,h5,h6,h7,h8,h9,h10,h11,h12,h13]
 | b :: c :: r =>
   simp only [signV,signsT,List.find?,List.isPrefixOf]
   by_cases h : b ∈ ([40,41,123,125,44,59,58,46,61,43,45,42,60] : List UInt8)
   · by_cases hc : c = 61
     · subst hc
       simp only [List.mem_cons,List.not_mem_nil,or_false] at h
       rcases h with rfl | rfl | rfl | rfl | rfl | rfl | rfl | rfl | rfl | rfl | rfl | rfl | rfl <;> rfl
     · have gc : ((61 : UInt8) == c) = false := by simpa using Ne.symm hc
       simp only [List.mem_cons,List.not_mem_nil,or_false] at h
       rcases h with rfl | rfl | rfl | rfl | rfl | rfl | rfl | rfl | rfl | rfl | rfl | rfl | rfl <;> simp [gc,hc]
   · simp only [List.mem_cons,List.not_mem_nil,or_false,not_or] at h
     obtain ⟨h1,h2,h3,h4,h5,h6,h7,h8,h9,h10,h11,h12,h13⟩ := h
     have g : ∀ x : UInt8,b ≠ x → (x == b) = false := fun x h => by simpa using Ne.symm h
     simp [g _ h1,g _ h2,g _ h3,g _ h4,g _ h5,g _ h6,g _ h7,g _ h8,g _ h9,g _ h10,g _ h11,g _ h12,g _ h13,h1,h2,h3,h4,h5,h6,h7,h8,h9,h10,h11,h12,h13]
theorem signV_1 (b : UInt8) : signV [b] = if b ∈ ([40,41,123,125,44,59,58,46,61,43,45,42,60] : List UInt8) then [b] else [] := signV_two [b]
theorem signV_cc (b c : UInt8) (r : Bs) : signV (b :: c :: r) = if b = 61 ∧ c = 61 then [61,61] else if b ∈ ([40,41,123,125,44,59,58,46,61,43,45,42,60] : List UInt8) then [b] else [] := signV_two (b :: c :: r)
theorem signV_app {s : Bs} (h : signV s ≠ []) {r' : Bs} (hr : Sep (s.drop (signV s).length) r') : signV (s.take (signV s).length ++ r') = signV s := by
 match s with
 | [] => exact absurd rfl h
 | [b] =>
   rw [signV_1] at h hr ⊢
   by_cases hb : b ∈ ([40,41,123,125,44,59,58,46,61,43,45,42,60] : List UInt8)
   · rw [if_pos hb] at hr ⊢
     simp only [List.length_cons,List.length_nil,List.take_succ_cons,List.take_zero,List.cons_append,List.nil_append,List.drop_succ_cons,List.drop_zero,Nat.zero_add] at hr ⊢
     rcases hr with rfl | ⟨d,t,rfl,⟨u,hu⟩ | ⟨h1,h2⟩⟩
     · rw [signV_1,if_pos hb]
     · cases hu
     · rw [signV_cc,if_neg (fun q => h2 q.2),if_pos hb]
   · rw [if_neg hb] at h; exact absurd rfl h
 | b :: c :: r =>
   rw [signV_cc] at h hr ⊢
   by_cases h2 : b = 61 ∧ c = 61
   · obtain ⟨rfl,rfl⟩ := h2
     rw [if_pos ⟨rfl,rfl⟩]
     show signV (61 :: 61 :: ([] ++ r')) = _
     rw [signV_cc]; rfl
   · rw [if_neg h2] at h hr ⊢
     by_cases hb : b ∈ ([40,41,123,125,44,59,58,46,61,43,45,42,60] : List UInt8)
     · rw [if_pos hb] at hr ⊢
       simp only [List.length_cons,List.length_nil,List.take_succ_cons,List.take_zero,List.cons_append,List.nil_append,List.drop_succ_cons,List.drop_zero,Nat.zero_add] at hr ⊢
       rcases hr with rfl | ⟨d,t,rfl,⟨u,hu⟩ | ⟨h3,h4⟩⟩
       · rw [signV_1,if_pos hb]
       · cases hu
         rw [signV_cc,if_neg h2,if_pos hb]
       · rw [signV_cc,if_neg (fun q => h4 q.2),if_pos hb]
     · rw [if_neg hb] at h; exact absurd rfl h
end Go.Zam
