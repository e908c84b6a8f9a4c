/-
  Texts of one proof, one behind the other.
-/
import Derived.Test.YtnlfihdegglkfaaGreatDoorM7
import Derived.Test.YtnlfihdegglkfaaGreatDoorM5
import Derived.Test.YtnlfihdegglkfaaGreatDoorM6
set_option linter.all false
set_option maxRecDepth 100000
set_option maxHeartbeats 4000000
namespace Go.Zam
section
theorem relGroup {L : List Tk} (hE : EndsL L) {n p : Nat} {x : N} {s1 : PSt} (hn : 1 ≤ n) (hpe : pp L (n + 1) .atom p = (pp L n .expr (p + 1)).then fun x j => wantR L j [41] fun _ => .ok (N.new 25 p ((j + 1 : Nat) : Int) [] 0 [x]) (j + 1)) (r : Rel L n .expr (p + 1,none) x s1) : Rel L (n + 1) .atom (p,none) (N.new 25 p (wantS L [41] s1).1 [] 0 [x]) (wantS L [41] s1) := by
 simp only [Rel,hpe]
 rcases r.none' with ⟨q,a,e,rfl,e3⟩ | ⟨k,e,rfl⟩
 · simp [e,PR.then]; omega
 · have ha := pp_advE hE n .expr (p + 1)
   rw [e] at ha
   have hk := ha.2.2 (ha.2.1 rfl)
   by_cases c : isT L k [41] = true
   · simp [e,PR.then,wantR,c]
   · simp [e,PR.then,wantR,c]; omega
theorem relLam {L : List Tk} (hE : EndsL L) {n p : Nat} {t1 t2 t3 : N} {s1 s2 : PSt} (hp : p < L.length) (hn : 1 ≤ n) (hpe : pp L (n + 1) .atom p = wantR L p kFn fun _ => (pp L n .params (p + 1)).then fun p' j => (pp L n .typed j).then fun t j => (pp L n .block j).then fun b j => .ok (N.new 28 p j [] 0 [p',t,b]) j) (h1 : wantS L kFn (p,none) = s1) (h2 : LamRel L n s1 t1 t2 t3 s2) : Rel L (n + 1) .atom (p,none) (N.new 28 p s2.1 [] 0 [t1,t2,t3]) s2 := by
 obtain ⟨u1,u2,r1,r2,r3⟩ := h2
 simp only [Rel,hpe,wantR]
 by_cases c1 : isT L p kFn = true
 case neg =>
  simp only [wantS_none,c1] at h1
  subst h1
  simp only [Bool.false_eq_true,if_false] at r1
  obtain ⟨a,rfl,e3⟩ := r1.some'
  obtain ⟨b,rfl,e4⟩ := r2.some'
  obtain ⟨c,rfl,e5⟩ := r3.some'
  simp only [G.wt] at e3 e4 e5
  simp [c1]; omega
 simp only [wantS_none,c1,if_true] at h1
 subst h1
 rcases r1.none' with ⟨q,a,e,rfl,e3⟩ | ⟨k,e,rfl⟩
 · obtain ⟨b,rfl,e4⟩ := r2.some'
   obtain ⟨c,rfl,e5⟩ := r3.some'
   simp only [G.wt] at e4 e5
   simp [c1,e,PR.then]; omega
 rcases r2.none' with ⟨q,a,e',rfl,e4⟩ | ⟨k',e',rfl⟩
 · obtain ⟨c,rfl,e5⟩ := r3.some'
   simp only [G.wt] at e5
   simp [c1,e,e',PR.then]; omega
 rcases r3.none' with ⟨q,a,e'',rfl,e5⟩ | ⟨k'',e'',rfl⟩
 · simp [c1,e,e',e'',PR.then]; omega
 · simp [c1,e,e',e'',PR.then]
section
variable {P : Program} {R : RF} {z : Bool} {L : List Tk}
theorem RHas.atom' (hR : RHas P R) (hx : HasT P [11] R.atom (irR7Atom R.is R.expr R.want R.ended R.word R.lambda R.tn R.tt)) (hE : EndsL L) (hL : L.length ≤ 1048576) (n : Nat) (hn : n ≤ 1099511627776) (hS : ∀ m,m < n + 1 → UR P R.tr z L m .expr R.expr) (hPa : UR P R.tr z L n .params R.params) (hTy : UR P R.tr z L n .typed R.typed) (hBl : UR P R.tr z L n .block R.block) : UR P R.tr z L (n + 1) .atom R.atom := by
 refine UR_of fun H i s hi hpp => ?_
 obtain ⟨fn,hf,hcf⟩ := hx
 refine acall_norm (acall_fin hf hcf (by simp [irR7Atom]) fun hcl _ => ?_)
 have hp0 := hpp.1.1
 simp only [G.c] at hp0
 obtain ⟨p,st⟩ := s
 have hget : ∀ st X,(H.set i (rst R.tr z L st) ++ X)[i]? = some (rst R.tr z L st) := fun st X => upG hi
 have hcc : ∀ st' X,Hp.cut H.length (H.set i (rst R.tr z L st') ++ X) = H.set i (rst R.tr z L st') := fun st' X => rcut hcl
 simp only at hp0
 have hw : IntKind.i64.wrap ((p : Int) + 1) = ((p + 1 : Nat) : Int) := by rw [wrap_i64 (by omega) (by omega)]; omega
 cases st with
 | some q =>
   have hq' : (0 : Int) ≤ q := by omega
   have hg1 := hget (some q)
   have hc1 := hcc (some q)
   simp only [rst] at hg1 hc1
   simp [irR7Atom,rst,hg1,hq']
   simp [RetK,hc1,rst,nl]
   have hrel := fin_nodeR (tr := R.tr) (z := z) (L := L) (H := H) (i := i) (z' := true) (n := n + 1) (g := .atom) (s := (p,some q)) (s' := (p,some q)) (k := 0) (f := 0) (t := 0) (a := 0) (w := []) [] (rows := []) rfl (by simp) (by simp [Rel])
   simpa [rst] using hrel
 | none =>
   have hp : p < L.length := hpp.2 rfl
   obtain ⟨hp1,hp2⟩ := hpp.1.2.2 rfl
   simp only [G.c] at hp1 hp2
   have hg1 := hget none
   have hc1 := hcc none
   simp only [rst] at hg1 hc1
   have gi := fun x X => hR.isA (z := z) (st := none) (X := X) hi hp x
   simp only [rst] at gi
   have hA := get_app (set_get hi (rst R.tr z L none))
   simp only [rst] at hA
   have hr := rowAt_map encTk hp
   have hg : L[p]? = some L[p] := List.getElem?_eq_getElem hp
   have hkd : kdT L p = L[p].k := by unfold kdT; rw [hg]
   have htx : txT L p = L[p].x := by unfold txT; rw [hg]
   generalize L[p] = tk at hr hkd htx
   obtain ⟨kk,ta,tl,y⟩ := tk
   simp only [encTk] at hr hkd htx
   by_cases k3 : kk = 3
   · subst k3
     simp [irR7Atom,rst,hg1,hr,hw]
     simp [RetK,hc1,rst,nl]
     have hrel := fin_nodeR (tr := R.tr) (z := z) (L := L) (H := H) (i := i) (z' := true) (n := n + 1) (g := .atom) (s := (p,none)) (s' := (p + 1,none)) (k := 21) (f := p) (t := ((p + 1 : Nat) : Int)) (a := p) (w := y) [] (rows := []) rfl (by simp) (by simp [Rel,pp,hkd,htx])
     simpa [rst] using hrel
   by_cases k4 : kk = 4
   · subst k4
     simp [irR7Atom,rst,hg1,hr,hw]
     simp [RetK,hc1,rst,nl]
     have hrel := fin_nodeR (tr := R.tr) (z := z) (L := L) (H := H) (i := i) (z' := true) (n := n + 1) (g := .atom) (s := (p,none)) (s' := (p + 1,none)) (k := 22) (f := p) (t := ((p + 1 : Nat) : Int)) (a := p) (w := y) [] (rows := []) rfl (by simp) (by simp [Rel,pp,hkd,htx])
     simpa [rst] using hrel
   by_cases k1 : kk = 1
   · subst k1
     simp [irR7Atom,rst,hg1,hr,hw]
     simp [RetK,hc1,rst,nl]
     have hrel := fin_nodeR (tr := R.tr) (z := z) (L := L) (H := H) (i := i) (z' := true) (n := n + 1) (g := .atom) (s := (p,none)) (s' := (p + 1,none)) (k := 23) (f := p) (t := ((p + 1 : Nat) : Int)) (a := p) (w := y) [] (rows := []) rfl (by simp) (by simp [Rel,pp,hkd,htx])
     simpa [rst] using hrel
   have hno : ¬ kdT L p = 3 ∧ ¬ kdT L p = 4 ∧ ¬ kdT L p = 1 := by rw [hkd]; exact ⟨k3,k4,k1⟩
   obtain ⟨n3,n4,n1⟩ := hno
   by_cases cI : isT L p kInput = true
   · simp [irR7Atom,rst,hg1,hr,hw,k1,k3,k4]
     refine CallK_of' (gi kInput _) ?_
     simp [cI,hw]
     simp [RetK,hc1,rst,nl]
     have hrel := fin_nodeR (tr := R.tr) (z := z) (L := L) (H := H) (i := i) (z' := true) (n := n + 1) (g := .atom) (s := (p,none)) (s' := (p + 1,none)) (k := 24) (f := p) (t := ((p + 1 : Nat) : Int)) (a := 0) (w := []) [] (rows := []) rfl (by simp) (by simp [Rel,pp,n3,n4,n1,cI])
     simpa [rst] using hrel
   have cI : isT L p kInput = false := by simpa using cI
   by_cases cG : isT L p [40] = true
   · have l1 := isT_ltE hE cG
     have gE := fun X => hS n (by omega) H X i (p + 1,none) hi ⟨⟨by simp only [G.c]; omega,by simp only [G.c]; omega,fun _ => ⟨by simp only; omega,by simp only [G.c]; omega⟩⟩,fun _ => l1⟩
     simp only [rst] at gE
     simp [irR7Atom,rst,hg1,hr,hw,k1,k3,k4]
     refine CallK_of' (gi kInput _) ?_
     simp [cI]
     refine CallK_of' (gi [40] _) ?_
     simp [cG,hw]
     refine CallK_of (gE _) ?_
     rintro _ _ ⟨x,s1,rfl,rfl,r1⟩
     have hs1 := (r1.moE hE).lt (fun _ => l1)
     have b1 := r1.bnd (B := L.length + n + 3) (by simp only; omega) (by omega)
     obtain ⟨kx,fx,tx,wx,qx,zx,ksx,hfx,hex,hvx,hbx⟩ := node_ho R.tn x
     rw [hvx]
     have gw := fun X => hR.wantA (z := z) (s := s1) (X := X) hi hs1 (by omega) [41]
     have hrel0 := relGroup hE (by omega) (by simp [pp,n3,n4,n1,cI,cG]) r1
     generalize wantS L [41] s1 = s2 at gw hrel0
     simp
     refine CallK_of' (gw _) ?_
     simp
     have g5 := fun H0 => hR.ended.rended 25 p 0 [] 0 true [] (s2.1 : Int) false [[.int .i64 kx,.int .i64 fx,.int .i64 tx,.str wx,.int .i64 qx,.sl zx 6 (ksx.map N.enc)]] H0
     simp only [ag] at g5
     refine CallK_of' (g5 _) ?_
     simp
     simp [RetK,hcc,nl]
     exact fin_nodeR (z' := false) [x] (by simp [hex]) (by simp) hrel0
   have cG : isT L p [40] = false := by simpa using cG
   by_cases cR : isT L p [123] = true
   · have l1 := isT_ltE hE cR
     simp [irR7Atom,rst,hg1,hr,hw,k1,k3,k4]
     refine CallK_of' (gi kInput _) ?_
     simp [cI]
     refine CallK_of' (gi [40] _) ?_
     simp [cG]
     refine CallK_of' (gi [123] _) ?_
     simp [cR,hw]
     have hs0l : (((p + 1,none) : PSt)).2 = none → ((p + 1,none) : PSt).1 < L.length := fun _ => l1
     have hs0c : ((p + 1,none) : PSt).2 = none → 16 * (L.length - ((p + 1,none) : PSt).1) + 9 ≤ n := fun _ => by simp only; omega
     obtain ⟨XX,hXX⟩ : ∃ XX : List N → Hp,XX = fun ks => [.box R.tn [.d (.int .i64 0),.d (.int .i64 0),.d (.int .i64 0),.d (.str []),.d (.int .i64 0),.d (.sl true 6 [])],.box R.tn [.d (.int .i64 0),.d (.int .i64 (p : Int)),.d (.int .i64 ((p : Int) + 1)),.d (.str y),.d (.int .i64 (p : Int)),.d (.sl true 6 [])],.box R.tt [.d (.int .i64 kk),.d (.int .i64 ta),.d (.str tl),.d (.str y)],.tok ks.length 6 R.tn] := ⟨_,rfl⟩
     have hXl : ∀ a,(XX a).length = 4 := fun a => by rw [hXX]; rfl
     obtain ⟨E,hE0⟩ : ∃ E : Fr → Hp → Prop,E = fun fr H' => ∃ (ks : List N) (s' : PSt) (X : Hp),(fr 0 = .ptr i 0 ∧ fr 1 = .d (.int .i64 (p : Int)) ∧ fr 4 = .ptr H.length 0 ∧ fr 6 = .d (.int .i64 (s'.1 : Int)) ∧ fr 11 = .osl true 6 (ks.map N.enc) (H.length + 3)) ∧ (s'.2 = none → s'.1 < L.length) ∧ s'.1 ≤ 1125899906842624 ∧ ks.length * 72 ≤ 70368744177664 ∧ Rel L n (.list .entry [125]) ((p + 1,none) : PSt) (N.bag ks) (wantS L [125] s') ∧ H' = H.set i (rst R.tr z L s'.2) ++ (XX ks ++ X) := ⟨_,rfl⟩
     refine LoopK_outR 1 E (fun _ _ => False) ?_ (fun _ _ h => h.elim) ?_
     rotate_left
     · intro fr H' h
       subst hE0
       obtain ⟨ks,s',X,⟨f0,f1,f4,f6,f11⟩,hlt,hb,hkb,hr,rfl⟩ := h
       have g2 := fun X => hR.wantA (z := z) (s := s') (X := X) hi hlt hb [125]
       generalize wantS L [125] s' = s2 at g2 hr
       simp [f0,f6]
       refine CallK_of' (g2 _) ?_
       have g5 := fun H0 => hR.ended.rendedT 26 (p : Int) 0 [] 0 true [] (s2.1 : Int) true (ks.map N.enc) H0 (H.length + 3)
       simp only [ag] at g5
       simp [f1,f11,hXl]
       refine CallK_of' (g5 _ (by simp [hXl]; omega)) ?_
       subst hXX
       simp [f4]
       simp [RetK,hcc,nl]
       exact fin_nodeR (z' := true) ks rfl (fun _ => rfl) (relIn (by simp [pp,n3,n4,n1,cI,cG,cR]) hr)
     have hE1 : ∀ fr (ks : List N) (s' : PSt) (X : Hp),(fr 0 = .ptr i 0 ∧ fr 1 = .d (.int .i64 (p : Int)) ∧ fr 4 = .ptr H.length 0 ∧ fr 6 = .d (.int .i64 (s'.1 : Int)) ∧ fr 11 = .osl true 6 (ks.map N.enc) (H.length + 3)) → (s'.2 = none → s'.1 < L.length) → s'.1 ≤ 1125899906842624 → ks.length * 72 ≤ 70368744177664 → Rel L n (.list .entry [125]) ((p + 1,none) : PSt) (N.bag ks) (wantS L [125] s') → E fr (H.set i (rst R.tr z L s'.2) ++ (XX ks ++ X)) := fun fr ks s' X a b c d e => by subst hE0; exact ⟨ks,s',X,a,b,c,d,e,rfl⟩
     clear hE0
     have hcut : ∀ ks st' X,Hp.cut (H.length + 4) (H.set i (rst R.tr z L st') ++ (XX ks ++ X)) = H.set i (rst R.tr z L st') ++ XX ks := fun ks st' X => by
      rw [rcutk hcl,hXX]; rfl
     have hcut0 : ∀ ks st',Hp.cut (H.length + 4) (H.set i (rst R.tr z L st') ++ XX ks) = H.set i (rst R.tr z L st') ++ XX ks := fun ks st' => by simpa using hcut ks st' []
     have hg0 : ∀ st X,(H.set i (rst R.tr z L st) ++ X)[i]? = some (rst R.tr z L st) := fun st X => upG hi
     have hgT : ∀ (ks : List N) X,(XX ks ++ X)[3]? = some (.tok (ks.length) 6 R.tn) := fun ks X => by rw [hXX]; simp
     have hgT1 : ∀ (ks : List N) h,(XX ks)[3]'h = .tok (ks.length) 6 R.tn := fun ks h => by simp [hXX]
     have hgB : ∀ (ks : List N) b X,(XX ks ++ b :: X)[4]? = some b := fun ks b X => by rw [hXX]; simp
     have hgC : ∀ (ks : List N) b c X,(XX ks ++ b :: c :: X)[5]? = some c := fun ks b c X => by rw [hXX]; simp
     have hsT : ∀ (ks : List N) (m : N) X,(XX ks ++ X).set 3 (.tok (ks.length + 1) 6 R.tn) = XX (ks ++ [m]) ++ X := fun ks m X => by rw [hXX]; simp
     have hil2 : i < H.length + 4 := by omega
     rw [show H.set i (.box R.tr [.d (.sl z 4 (L.map encTk)),.d (.int .i64 (-1))]) ++ [.box R.tn [.d (.int .i64 0),.d (.int .i64 0),.d (.int .i64 0),.d (.str []),.d (.int .i64 0),.d (.sl true 6 [])],.box R.tn [.d (.int .i64 0),.d (.int .i64 (p : Int)),.d (.int .i64 ((p : Int) + 1)),.d (.str y),.d (.int .i64 (p : Int)),.d (.sl true 6 [])],.box R.tt [.d (.int .i64 kk),.d (.int .i64 ta),.d (.str tl),.d (.str y)],.tok 0 6 R.tn] = H.set i (rst R.tr z L none) ++ XX [] by rw [hXX]; rfl]
     refine LoopM_of (H.length + 4) (fun d fr H' => ∃ (ks : List N) (s' : PSt),(fr 0 = .ptr i 0 ∧ fr 1 = .d (.int .i64 (p : Int)) ∧ fr 4 = .ptr H.length 0 ∧ fr 6 = .d (.int .i64 (s'.1 : Int)) ∧ fr 11 = .osl true 6 (ks.map N.enc) (H.length + 3)) ∧ H' = H.set i (rst R.tr z L s'.2) ++ XX ks ∧
      ((d = 0 ∧ s'.2 ≠ none ∧ s'.1 ≤ 1125899906842624 ∧ ks.length * 72 ≤ 70368744177664 ∧ ∀ m,Rel L n (.list .entry [125]) ((p + 1,none) : PSt) m s') ∨ ∃ p1,s' = (p1,none) ∧ ((p + 1,none) : PSt).2 = none ∧ d ≤ n ∧ pp L n (.list .entry [125]) ((p + 1,none) : PSt).1 = pp L d (LG .entry [125] ks) p1 ∧ p1 < L.length ∧ 16 * (L.length - p1) + 9 ≤ d ∧ ks.length ≤ p1)) (match ((p + 1,none) : PSt).2 with | none => n | some _ => 0) (by simp [hXl]) ⟨[],((p + 1,none) : PSt),?_⟩ ?_
     · refine ⟨by simp [hil2,id],hcut0 _ _,?_⟩
       cases h0 : ((p + 1,none) : PSt).2 with
       | some q => first | exact absurd h0 (by simp; done) | exact .inl ⟨rfl,by simp [h0],by omega,by simp,fun m => by simp [Rel,h0,G.wt]⟩
       | none => exact .inr ⟨((p + 1,none) : PSt).1,by rw [← h0],rfl,Nat.le_refl _,by simp [LG],hs0l h0,by have := hs0c h0; omega,by simp⟩
     · rintro d fr H' ⟨ks,s',⟨f0,f1,f4,f6,f11⟩,rfl,hd⟩
       rcases hd with ⟨rfl,q1,qb,qk,q2⟩ | ⟨p1,rfl,hs2,hdn,hpe,hp1',hrk,hks⟩
       · obtain ⟨p',st'⟩ := s'
         cases st' with
         | none => simp at q1
         | some q =>
           have hg1 := hg0 (some q)
           have hq : ¬ (q : Int) < 0 := by omega
           have hE2 := fun fr h => hE1 fr ks (p',some q) [] h (fun e => by cases e) qb qk (q2 _)
           simp only [rst,List.append_nil] at hg1 hE2
           simp [f0,f6,rst,hg1,hq]
           exact hE2 _ (by simp [f0,f1,f4,f6,f11,hXl])
       · have hRel : ∀ m s',(match pp L d (LG .entry [125] ks) p1 with | .out => False | .bad q => s'.2 = some q ∧ s'.1 ≤ L.length + n | .ok m' k => m = m' ∧ s' = (k,none)) → Rel L n (.list .entry [125]) ((p + 1,none) : PSt) m s' := fun m s' h => by
          unfold Rel
          rw [hs2]
          simp only
          rw [hpe]; exact h
         have hg1 := hg0 none
         have gi := fun X => hR.isA (z := z) (st := none) (X := X) hi hp1' [125]
         by_cases hend : ks = [] ∧ isT L p1 [125] = true
         · obtain ⟨rfl,hjb⟩ := hend
           obtain ⟨d',rfl⟩ : ∃ d',d = d' + 1 := ⟨d - 1,by omega⟩
           have hE2 := fun fr h => hE1 fr [] (p1,none) [] h (fun _ => hp1') (by simp only; omega) (by simp) (hRel _ _ (by simp [LG,pp,hjb,N.bag,N.new]))
           rw [hjb] at gi
           simp only [rst,List.append_nil] at hg1 gi hE2
           simp [f0,f6,f11,rst,hg1]
           refine CallK_of' (gi _) ?_
           simp
           exact hE2 _ (by simp [f0,f1,f4,f6,f11,hXl])
         · have hje : ks = [] → isT L p1 [125] = false := fun e => by
            cases h : isT L p1 [125] with
            | false => rfl
            | true => exact absurd ⟨e,h⟩ hend
           obtain ⟨M,hM⟩ : ∃ M : Fr → Hp → Prop,M = fun fr H' => (fr 0 = .ptr i 0 ∧ fr 1 = .d (.int .i64 (p : Int)) ∧ fr 4 = .ptr H.length 0 ∧ fr 6 = .d (.int .i64 (((p1,none) : PSt).1 : Int)) ∧ fr 11 = .osl true 6 (ks.map N.enc) (H.length + 3)) ∧ H' = H.set i (rst R.tr z L none) ++ XX ks := ⟨_,rfl⟩
           have hM1 : ∀ fr,(fr 0 = .ptr i 0 ∧ fr 1 = .d (.int .i64 (p : Int)) ∧ fr 4 = .ptr H.length 0 ∧ fr 6 = .d (.int .i64 (((p1,none) : PSt).1 : Int)) ∧ fr 11 = .osl true 6 (ks.map N.enc) (H.length + 3)) → M fr (H.set i (rst R.tr z L none) ++ XX ks) := fun fr h => by subst hM; exact ⟨h,rfl⟩
           refine Seq_mid M ?_ ?_
           · clear hM
             simp only [rst] at hg1 gi hM1
             rcases List.eq_nil_or_concat ks with hk0 | ⟨kk,kx,hk0⟩
             · rw [hje hk0] at gi
               simp [f0,f6,f11,rst,hg1,hk0]
               refine CallK_of' (gi _) ?_
               rw [← hk0]
               simp [f0,f6]
               exact hM1 _ (by simp [f0,f1,f4,f6,f11,hXl])
             · have hkn : ¬ ks = [] := fun e => by rw [e] at hk0; simp at hk0
               simp [f0,f6,f11,rst,hg1,hkn]
               exact hM1 _ (by simp [f0,f1,f4,f6,f11,hXl])
           · intro fr H' h
             subst hM
             obtain ⟨⟨f0,f1,f4,f6,f11⟩,rfl⟩ := h
             have hstep := LG_step (L := L) (d := d) (one := .entry) (e := [125]) (ks := ks) (p := p1) (by omega) hje
             obtain ⟨m,hm1,hm2,hpp2⟩ := hstep
             obtain ⟨m',rfl⟩ : ∃ m',m = m' + 1 := ⟨m - 1,by omega⟩
             have gw := fun X => hR.wordA (z := z) (s := (p1,none)) (X := X) hi (fun _ => hp1') (by simp only; omega) 27 p1 0 [] 0 true []
             have hrp := fun t s3 => relEntry (L := L) hE (n := m') (p := p1) (t := t) (s3 := s3) (by omega) hp1'
             generalize h2 : wordS L (p1,none) = s2 at gw hrp
             have b2 := wordS_le h2
             have m2 := wordS_moE hE h2
             have hlt2 := m2.lt (fun _ => hp1')
             simp only at gw b2
             have gv := fun X => hR.wantA (z := z) (s := s2) (X := X) hi hlt2 (by omega) [58]
             generalize h2v : wantS L [58] s2 = s2v at gv hrp
             have b2 := Nat.le_trans (wantS_le h2v) (Nat.succ_le_succ b2)
             have m2 := m2.trans (wantS_moE hE h2v)
             have hlt2 := m2.lt (fun _ => hp1')
             simp only [rst] at gv
             have gt := fun X => hS m' (by omega) H X i s2v hi ⟨⟨by simp only [G.c]; omega,by simp only [G.c]; omega,fun e => by
              obtain ⟨a1,a2,a3⟩ := m2 e
              have := hlt2 e
              simp only at a2
              simp only [G.c]
              exact ⟨by omega,by omega⟩⟩,hlt2⟩
             generalize (if wordOkB L (p1,none) = true then txT L p1 else []) = W at gw hrp
             generalize (if wordOkB L (p1,none) = true then (p1 : Int) else 0) = Q at gw hrp
             simp only [rst,ag] at hg1 gw gt
             simp [f0,f6,rst]
             refine CallK_of' (gw _) ?_
             simp [f0]
             refine CallK_of' (gv _) ?_
             simp [f0]
             refine CallK_of (gt _) ?_
             rintro _ _ ⟨t,s3,rfl,rfl,r3⟩
             obtain ⟨kt,ft,tt',wt',qt,zt,kst,hft,het,hvt,hbt⟩ := node_ho R.tn t
             rw [hvt]
             obtain ⟨bo,hbo⟩ : ∃ bo : Ob,bo = .box R.tn [.d (.int .i64 27),.d (.int .i64 (p1 : Int)),.d (.int .i64 0),.d (.str W),.d (.int .i64 Q),.d (.sl true 6 [])] := ⟨_,rfl⟩
             obtain ⟨co,hco⟩ : ∃ co : Ob,co = .box R.tn [.d (.int .i64 kt),.d (.int .i64 ft),.d (.int .i64 tt'),.d (.str wt'),.d (.int .i64 qt),.d (.sl zt 6 (kst.map N.enc))] := ⟨_,rfl⟩
             have hB := fun X => hgB ks bo X
             have hC := fun X => hgC ks bo co X
             rw [hbo] at hB
             rw [hbo,hco] at hC
             have hT := hgT ks
             have hT1 := hgT1 ks
             have g5 := fun H0 => hR.ended.rended 27 p1 0 W Q true [] (s3.1 : Int) false [t.enc] H0
             rw [het] at g5
             simp only [ag] at g5
             simp [f0,f11,hXl,hB,hC]
             refine CallK_of' (g5 _) ?_
             have hs3b : s3.1 ≤ L.length + (m' + 1) := by have := r3.bnd (B := L.length + (m' + 1)) (by omega) (by omega); omega
             obtain ⟨x,hx⟩ : ∃ x : N,x = N.new 27 p1 s3.1 W Q [t] := ⟨_,rfl⟩
             have hrx : Rel L (m' + 1) .entry (p1,none) x s3 := by rw [hx]; exact hrp t s3 r3 hs3b
             have hs1 := hsT ks x
             have hbd : (ks.length + 1) * 72 ≤ 140737488355328 := by omega
             have hmap : ks.map N.enc ++ [[.int .i64 27,.int .i64 (p1 : Int),.int .i64 (s3.1 : Int),.str W,.int .i64 Q,.sl false 6 [[.int .i64 kt,.int .i64 ft,.int .i64 tt',.str wt',.int .i64 qt,.sl zt 6 (kst.map N.enc)]]]] = (ks ++ [x]).map N.enc := by
              rw [List.map_append,hx]
              simp [N.new,N.enc_mk,het]
             clear hrp hx r3 g5 gt gw
             simp [f0,f11,hXl,hT,hT1,appA,slOf,hbd,hs1,hmap]
             obtain ⟨p3,st3⟩ := s3
             simp only at hs3b
             cases st3 with
             | some q =>
               have hg2 := hg0 (some q)
               have hq' : (0 : Int) ≤ q := by omega
               have hbad : pp L (m' + 1) .entry p1 = .bad q := by
                rcases hrx.none' with ⟨q',a,e,e2,e3⟩ | ⟨k,e,e2⟩
                · simp only [Prod.mk.injEq,Option.some.injEq] at e2
                  rw [e,e2.2]
                · simp at e2
               have hE2 := fun fr X h => hE1 fr (ks ++ [x]) (p3,some q) X h (fun e => by cases e) (by simp only; omega) (by simp; omega) (hRel _ _ (by rw [hpp2,hbad]; simp [PR.then]; omega))
               simp only [rst] at hg2 hE2
               simp [f0,rst,hg2,hq']
               exact hE2 _ _ (by simp [f0,f1,f4,hXl])
             | none =>
               have hok : pp L (m' + 1) .entry p1 = .ok x p3 := by
                rcases hrx.none' with ⟨q',a,e,e2,e3⟩ | ⟨k,e,e2⟩
                · simp at e2
                · simp only [Prod.mk.injEq] at e2
                  rw [e,e2.1]
               have hadv := pp_advE hE (m' + 1) .entry p1
               rw [hok] at hadv
               obtain ⟨v1,v2,v3⟩ := hadv
               have v2 := v2 rfl
               have v3 := v3 v2
               have gi3 := fun X => hR.isA (z := z) (st := none) (X := X) hi v3 [125]
               have gw3 := fun X => hR.wantA (z := z) (s := (p3,none)) (X := X) hi (fun _ => v3) (by simp only; omega) [44]
               have hg2 := hg0 none
               cases hc : isT L p3 [125] with
               | true =>
                 have hE2 := fun fr X h => hE1 fr (ks ++ [x]) (p3,none) X h (fun _ => v3) (by simp only; omega) (by simp; omega) (hRel _ _ (by rw [hpp2,hok]; simp [PR.then,hc,N.bag,N.new]))
                 rw [hc] at gi3
                 simp only [rst] at hg2 gi3 hE2
                 simp [f0,rst,hg2]
                 refine CallK_of' (gi3 _) ?_
                 simp
                 exact hE2 _ _ (by simp [f0,f1,f4,hXl])
               | false =>
                 rw [hc] at gi3
                 have hstp := hpp2
                 rw [hok] at hstp
                 simp only [PR.then,hc,wantR] at hstp
                 by_cases hcm : isT L p3 [44] = true
                 · have hl4 := isT_ltE hE hcm
                   simp only [wantS_none,hcm,if_true] at gw3
                   simp only [rst] at hg2 gi3 gw3
                   simp [f0,rst,hg2]
                   refine CallK_of' (gi3 _) ?_
                   simp [f0]
                   refine CallK_of' (gw3 _) ?_
                   simp
                   refine NextM_of (H.length + 4) (m' + 1) (Nat.le_refl _) (by simp [hXl]) (by omega) ⟨ks ++ [x],(p3 + 1,none),by simp [f0,f1,f4,hil2],by simpa [rst] using hcut (ks ++ [x]) none _,.inr ⟨p3 + 1,rfl,hs2,by omega,?_,hl4,by omega,by simp; omega⟩⟩
                   rw [hpe,hstp,hcm,LG_snoc]
                   simp
                 · have hcm' : isT L p3 [44] = false := by simpa using hcm
                   simp only [wantS_none,hcm',Bool.false_eq_true,if_false] at gw3
                   simp only [rst] at hg2 gi3 gw3
                   simp [f0,rst,hg2]
                   refine CallK_of' (gi3 _) ?_
                   simp [f0]
                   refine CallK_of' (gw3 _) ?_
                   simp
                   refine NextM_of (H.length + 4) 0 (Nat.le_refl _) (by simp [hXl]) (by omega) ⟨ks ++ [x],(p3,some p3),by simp [f0,f1,f4,hil2],by simpa [rst] using hcut (ks ++ [x]) (some p3) _,.inl ⟨rfl,by simp,by simp only; omega,by simp; omega,fun mm => hRel _ _ ?_⟩⟩
                   rw [hstp,hcm']
                   simp [PR.then]
                   omega
   have cR : isT L p [123] = false := by simpa using cR
   have g1 := fun X => hR.wantA (z := z) (s := (p,none)) (X := X) hi (fun _ => hp) (by simp only; omega) kFn
   have m1 := wantS_moE hE (rfl : wantS L kFn (p,none) = _)
   have b1 := wantS_le (rfl : wantS L kFn (p,none) = _)
   have hrel0 := fun t1 t2 t3 s2 => relLam hE (n := n) (p := p) (t1 := t1) (t2 := t2) (t3 := t3) (s2 := s2) hp (by omega) (by simp [pp,n3,n4,n1,cI,cG,cR]) rfl
   have q1 : (wantS L kFn (p,none)).2 = none → (wantS L kFn (p,none)).1 = p + 1 := by rw [wantS_none]; split <;> simp
   generalize wantS L kFn (p,none) = s1 at g1 m1 b1 hrel0 q1
   have hl1 := m1.lt (fun _ => hp)
   simp only [rst] at g1
   simp [irR7Atom,rst,hg1,hr,hw,k1,k3,k4]
   refine CallK_of' (gi kInput _) ?_
   simp [cI]
   refine CallK_of' (gi [40] _) ?_
   simp [cG]
   refine CallK_of' (gi [123] _) ?_
   simp [cR]
   refine CallK_of' (g1 _) ?_
   simp
   have gl := fun X => hR.lambda' (z := z) (X := X) (s := s1) hE hL n hn hPa hTy hBl hi (by simp only at b1; omega) (by omega) (fun e => by
    obtain ⟨a1,a2,a3⟩ := m1 e
    have := hl1 e
    have := q1 e
    exact ⟨by omega,by omega⟩)
   simp only [rst] at gl
   refine CallK_of (gl _) ?_
   rintro _ _ ⟨t1,t2,t3,s2,rfl,rfl,r2⟩
   have hrel0 := hrel0 t1 t2 t3 s2 r2
   have g5 := fun H0 => hR.ended.rended 28 p 0 [] 0 true [] (s2.1 : Int) false [t1.enc,t2.enc,t3.enc] H0
   simp only [ag] at g5
   have hc2 := fun X => hcc s2.2 X
   simp only [rst] at hc2
   simp
   refine CallK_of' (g5 _) ?_
   simp
   simp [RetK,hc2,nl]
   have hrel := fin_nodeR (tr := R.tr) (z := z) (H := H) (i := i) (z' := false) [t1,t2,t3] (rows := [t1.enc,t2.enc,t3.enc]) (by simp) (by simp) hrel0
   simpa [rst] using hrel
end
end
section
section
variable {P : Program} {R : RF} {z : Bool} {L : List Tk}
theorem RHas.post' (hR : RHas P R) (hx : HasT P [10,56] R.post (irR7Post R.atom R.is R.word R.ended R.expr R.want R.tn)) (hE : EndsL L) (hL : L.length ≤ 1048576) (n : Nat) (hn : n ≤ 1099511627776) (hA0 : UR P R.tr z L n .atom R.atom) (hS : ∀ m,m < n + 1 → UR P R.tr z L m .expr R.expr) : UR P R.tr z L (n + 1) .post R.post := by
 refine UR_of fun H i s hi hpp => ?_
 obtain ⟨fn,hf,hcf⟩ := hx
 refine acall_fin hf hcf (by simp [irR7Post]) fun hcl _ => ?_
 have hp1 := hpp.1.1
 simp only [G.c] at hp1
 simp [irR7Post]
 refine CallK_of (hA0 H _ i s hi ((MoE.refl s).pre hpp (by decide) (by simp only [G.c]; omega))) ?_
 rintro _ _ ⟨a0,s1,rfl,rfl,r1⟩
 have b1 := r1.le
 have m1 := r1.moE hE
 obtain ⟨OX,hOX⟩ : ∃ OX : N → Hp,OX = fun a => [zbx R.tn,abx R.tn a] := ⟨_,rfl⟩
 have hOl : ∀ a,(OX a).length = 2 := fun a => by rw [hOX]; rfl
 obtain ⟨E,hE0⟩ : ∃ E : Fr → Hp → Prop,E = fun fr H' => ∃ a s',(fr 0 = .ptr i 0 ∧ fr 4 = .ptr H.length 0 ∧ fr 6 = .ptr (H.length + 1) 0 ∧ fr 7 = .d (.int .i64 (s'.1 : Int))) ∧ Rel L (n + 1) .post s a s' ∧ ∃ Y,H' = H.set i (rst R.tr z L s'.2) ++ (OX a ++ Y) := ⟨_,rfl⟩
 have hE1 : ∀ fr a s',(fr 0 = .ptr i 0 ∧ fr 4 = .ptr H.length 0 ∧ fr 6 = .ptr (H.length + 1) 0 ∧ fr 7 = .d (.int .i64 (s'.1 : Int))) → Rel L (n + 1) .post s a s' → E fr (H.set i (rst R.tr z L s'.2) ++ OX a) := fun fr a s' h h' => by subst hE0; exact ⟨a,s',h,h',[],by simp⟩
 obtain ⟨k,f,t,w,q,za,ks,hf0,he,hv,hb⟩ := node_ho R.tn a0
 rw [hv]
 simp
 rw [show H.set i (rst R.tr z L s1.2) ++ [Ob.box R.tn [.d (.int .i64 0),.d (.int .i64 0),.d (.int .i64 0),.d (.str []),.d (.int .i64 0),.d (.sl true 6 [])],.box R.tn [.d (.int .i64 k),.d (.int .i64 f),.d (.int .i64 t),.d (.str w),.d (.int .i64 q),.d (.sl za 6 (ks.map N.enc))]] = H.set i (rst R.tr z L s1.2) ++ OX a0 by rw [hOX,← hb]; rfl]
 refine LoopK_outR 0 E (fun _ _ => False) ?_ (fun _ _ h => h.elim) ?_
 rotate_left
 · intro fr H' h
   subst hE0
   obtain ⟨a,s',⟨f0,f4,f6,f7⟩,hr,Y,rfl⟩ := h
   obtain ⟨k,f,t,w,q,za,ks,-,-,hv,hb⟩ := node_ho R.tn a
   subst hOX
   simp [f0,f4,f6,f7,hb,zbx]
   simp [RetK,rcut hcl]
   exact ⟨a,s',by rw [hv],by simp,hr⟩
 clear hE0
 have hcutO : ∀ a st' X,Hp.cut (H.length + 2) (H.set i (rst R.tr z L st') ++ (OX a ++ X)) = H.set i (rst R.tr z L st') ++ OX a := fun a st' X => by
  rw [rcutk hcl,hOX]
  change H.set i (rst R.tr z L st') ++ [(zbx R.tn).clr _,(abx R.tn a).clr _] = _
  rw [abx_clr]; rfl
 have hcutO0 : ∀ a st',Hp.cut (H.length + 2) (H.set i (rst R.tr z L st') ++ OX a) = H.set i (rst R.tr z L st') ++ OX a := fun a st' => by simpa using hcutO a st' []
 have hgO : ∀ st X,(H.set i (rst R.tr z L st) ++ X)[i]? = some (rst R.tr z L st) := fun st X => upG hi
 have hset : ∀ a a' X,(OX a ++ X).set 1 (abx R.tn a') = OX a' ++ X := fun a a' X => by rw [hOX]; simp
 have hgA : ∀ a X,(OX a ++ X)[1]? = some (abx R.tn a) := fun a X => by rw [hOX]; simp
 have hgB : ∀ a b X,(OX a ++ b :: X)[2]? = some b := fun a b X => by rw [hOX]; simp
 refine LoopM_of (H.length + 2) (fun d fr H' => ∃ a s',(fr 0 = .ptr i 0 ∧ fr 4 = .ptr H.length 0 ∧ fr 6 = .ptr (H.length + 1) 0 ∧ fr 7 = .d (.int .i64 (s'.1 : Int))) ∧ H' = H.set i (rst R.tr z L s'.2) ++ OX a ∧
  ((d = 0 ∧ s'.2 ≠ none ∧ ∀ m,Rel L (n + 1) .post s m s') ∨ ∃ o1,s' = (o1,none) ∧ s.2 = none ∧ d ≤ n ∧ pp L (n + 1) .post s.1 = pp L d (.postL a) o1 ∧ o1 < L.length ∧ 16 * (L.length - o1) + 1 ≤ d)) (match s1.2 with | none => n | some _ => 0) (by simp [hOl]) ⟨a0,s1,?_⟩ ?_
 · have hil2 : i < H.length + 2 := by omega
   refine ⟨by simp [hil2],hcutO0 _ _,?_⟩
   obtain ⟨p,st⟩ := s
   cases st with
   | some q =>
     obtain ⟨b,rfl,e⟩ := r1.some'
     simp only [G.wt] at e
     exact .inl ⟨rfl,by simp,fun m => by simp [Rel,G.wt]; omega⟩
   | none =>
     obtain ⟨hp2,hp3⟩ := hpp.1.2.2 rfl
     simp only [G.c] at hp2 hp3
     have hpl := hpp.2 rfl
     rcases r1.none' with ⟨q',b,hq,rfl,e3⟩ | ⟨j,hj,rfl⟩
     · exact .inl ⟨rfl,by simp,fun m => by simp [Rel,pp,hq,PR.then]; omega⟩
     · have := pp_advE hE n .atom p
       rw [hj] at this
       obtain ⟨v1,v2,v3⟩ := this
       have v2 := v2 rfl
       have v3 := v3 v2
       exact .inr ⟨j,rfl,rfl,by simp,by simp [pp,hj,PR.then],v3,by (try simp only at hp3 ⊢); omega⟩
 · rintro d fr H' ⟨a,s',⟨f0,f4,f6,f7⟩,rfl,hd⟩
   have hil2O : i < H.length + 2 := by omega
   rcases hd with ⟨rfl,q1,q2⟩ | ⟨o1,rfl,hsn,hdn,hpeO,ho1,hrk⟩
   · obtain ⟨p',st'⟩ := s'
     cases st' with
     | none => simp at q1
     | some q =>
       have hg1 := hgO (some q)
       have hq : ¬ (q : Int) < 0 := by omega
       have hE2 := fun fr h => hE1 fr a (p',some q) h (q2 _)
       simp only [rst] at hg1 hE2
       simp [f0,f7,rst,hg1,hq]
       exact hE2 _ (by simp [f0,f4,f6,f7])
   · obtain ⟨d',rfl⟩ : ∃ d',d = d' + 1 := ⟨d - 1,by omega⟩
     have hRelO : ∀ m s',(match pp L (d' + 1) (.postL a) o1 with | .out => False | .bad q => s'.2 = some q ∧ s'.1 ≤ L.length + (n + 1) | .ok m' k => m = m' ∧ s' = (k,none)) → Rel L (n + 1) .post s m s' := fun m s' h => by
      unfold Rel
      rw [hsn]
      simp only
      rw [hpeO]; exact h
     have hg1 := hgO none
     have gi := fun X => hR.isA (z := z) (st := none) (X := X) hi ho1 [46]
     have gi2 := fun X => hR.isA (z := z) (st := none) (X := X) hi ho1 [40]
     have hw : IntKind.i64.wrap ((o1 : Int) + 1) = ((o1 + 1 : Nat) : Int) := by rw [wrap_i64 (by omega) (by omega)]; omega
     simp only [rst] at hg1 gi gi2
     obtain ⟨k,f,t,w,q,za,kse,hf,he,hv,hb⟩ := node_ho R.tn a
     have hA := hgA a
     rw [hb] at hA
     have hA1 : ∀ h,(OX a)[1]'h = .box R.tn [.d (.int .i64 k),.d (.int .i64 f),.d (.int .i64 t),.d (.str w),.d (.int .i64 q),.d (.sl za 6 (kse.map N.enc))] := fun h => by rw [← hb]; simp [hOX]
     cases hjb : isT L o1 [46] with
     | true =>
       have l1 := isT_ltE hE hjb
       rw [hjb] at gi
       have gW := fun X => hR.wordA (z := z) (s := (o1 + 1,none)) (X := X) hi (fun _ => l1) (by simp only; omega) 19 f 0 [] 0 true []
       simp only [rst,ag] at gW
       have b2 := wordS_le (rfl : wordS L (o1 + 1,none) = _)
       have hsw : (∃ q',wordS L (o1 + 1,none) = (o1 + 1,some q') ∧ pp L (d' + 1) (.postL a) o1 = .bad q') ∨ (wordS L (o1 + 1,none) = (o1 + 1 + 1,none) ∧ o1 + 1 + 1 < L.length ∧ pp L (d' + 1) (.postL a) o1 = pp L d' (.postL (N.new 19 a.f ((o1 + 1 + 1 : Nat) : Int) (if wordOkB L (o1 + 1,none) then txT L (o1 + 1) else []) (if wordOkB L (o1 + 1,none) then ((o1 + 1 : Nat) : Int) else 0) [a])) (o1 + 1 + 1)) := by
        by_cases c : kdT L (o1 + 1) = 1
        · exact .inr ⟨by simp [c],kdT_ltE hE (by omega),by simp [pp,hjb,wordR,c]⟩
        · exact .inl ⟨o1 + 1,by simp [c],by simp [pp,hjb,wordR,c]⟩
       generalize wordS L (o1 + 1,none) = s2 at gW b2 hsw
       generalize (if wordOkB L (o1 + 1,none) = true then txT L (o1 + 1) else []) = W at gW hsw
       generalize (if wordOkB L (o1 + 1,none) = true then ((o1 + 1 : Nat) : Int) else 0) = Q at gW hsw
       simp only at b2
       have g5 := hR.ended.rended 19 f 0 W Q true [] (s2.1 : Int) false [[.int .i64 k,.int .i64 f,.int .i64 t,.str w,.int .i64 q,.sl za 6 (kse.map N.enc)]]
       simp only [ag] at g5
       obtain ⟨bo,hbo⟩ : ∃ bo : Ob,bo = .box R.tn [.d (.int .i64 19),.d (.int .i64 f),.d (.int .i64 0),.d (.str W),.d (.int .i64 Q),.d (.sl true 6 [])] := ⟨_,rfl⟩
       have hB := fun X => hgB a bo X
       rw [hbo] at hB
       simp [f0,f7,rst,hg1]
       refine CallK_of' (gi _) ?_
       simp [f0,f7]
       refine CallK_of' (gi _) ?_
       simp [f0,f6,f7,hw,hA,hA1,hOl]
       refine CallK_of' (gW _) ?_
       simp [f6,hA,hA1,hOl,hB]
       refine CallK_of' (g5 _) ?_
       have hnew : abx R.tn (N.new 19 a.f s2.1 W Q [a]) = .box R.tn [.d (.int .i64 19),.d (.int .i64 f),.d (.int .i64 s2.1),.d (.str W),.d (.int .i64 Q),.d (.sl false 6 [[.int .i64 k,.int .i64 f,.int .i64 t,.str w,.int .i64 q,.sl za 6 (kse.map N.enc)]])] := by
        rw [abx,N.new,N.enc_mk]
        simp [he,hf]
       have hs1 := fun Y => hset a (N.new 19 a.f s2.1 W Q [a]) Y
       rw [hnew] at hs1
       simp [f6,hOl,hA,hA1,hs1]
       rcases hsw with ⟨q',rfl,hq⟩ | ⟨rfl,l2,hq⟩
       · refine NextM_of (H.length + 2) 0 (Nat.le_refl _) (by simp [hOl]) (by omega) ⟨_,(o1 + 1,some q'),by simp [f0,f4,f6,hil2O],by simpa [rst] using hcutO (N.new 19 a.f ((o1 + 1 : Nat) : Int) W Q [a]) (some q') _,.inl ⟨rfl,by simp,fun m => hRelO _ _ ?_⟩⟩
         rw [hq]; simp; omega
       · refine NextM_of (H.length + 2) d' (Nat.le_refl _) (by simp [hOl]) (by omega) ⟨_,(o1 + 1 + 1,none),by simp [f0,f4,f6,hil2O],by simpa [rst] using hcutO (N.new 19 a.f ((o1 + 1 + 1 : Nat) : Int) W Q [a]) none _,.inr ⟨o1 + 1 + 1,rfl,hsn,by omega,?_,l2,by omega⟩⟩
         rw [hpeO,hq]; simp
     | false =>
       rw [hjb] at gi
       cases hjc : isT L o1 [40] with
       | false =>
         rw [hjc] at gi2
         have hE2 := fun fr h => hE1 fr a (o1,none) h (hRelO _ _ (by simp [pp,hjb,hjc]))
         simp only [rst] at hE2
         simp [f0,f7,rst,hg1]
         refine CallK_of' (gi _) ?_
         simp [f0,f7]
         refine CallK_of' (gi2 _) ?_
         simp
         exact hE2 _ (by simp [f0,f4,f6,f7])
       | true =>
         rw [hjc] at gi2
         have l1 := isT_ltE hE hjc
         simp [f0,f7,rst,hg1]
         refine CallK_of' (gi _) ?_
         simp [f0,f7]
         refine CallK_of' (gi2 _) ?_
         simp [f0,f7]
         refine CallK_of' (gi _) ?_
         simp [f6,f7,hw,hA,hA1,hOl]
         have hs0l : (((o1 + 1,none) : PSt)).2 = none → ((o1 + 1,none) : PSt).1 < L.length := fun _ => l1
         have hs0c : ((o1 + 1,none) : PSt).2 = none → 16 * (L.length - ((o1 + 1,none) : PSt).1) + 9 ≤ d' := fun _ => by simp only; omega
         obtain ⟨XX,hXX⟩ : ∃ XX : List N → Hp,XX = fun ks => [zbx R.tn,.box R.tn [.d (.int .i64 k),.d (.int .i64 f),.d (.int .i64 t),.d (.str w),.d (.int .i64 q),.d (.sl za 6 (kse.map N.enc))],.tok (ks.length + 1) 6 R.tn] := ⟨_,rfl⟩
         have hXl : ∀ a,(XX a).length = 3 := fun a => by rw [hXX]; rfl
         obtain ⟨E,hE0⟩ : ∃ E : Fr → Hp → Prop,E = fun fr H' => ∃ (ks : List N) (s' : PSt) (X : Hp),(fr 0 = .ptr i 0 ∧ fr 4 = .ptr H.length 0 ∧ fr 6 = .ptr (H.length + 1) 0 ∧ fr 7 = .d (.int .i64 (s'.1 : Int)) ∧ fr 10 = .osl false 6 ([.int .i64 k,.int .i64 f,.int .i64 t,.str w,.int .i64 q,.sl za 6 (kse.map N.enc)] :: ks.map N.enc) (H.length + 2)) ∧ (s'.2 = none → s'.1 < L.length) ∧ s'.1 ≤ 1125899906842624 ∧ ks.length * 72 ≤ 70368744177664 ∧ Rel L d' (.list .expr [41]) ((o1 + 1,none) : PSt) (N.bag ks) (wantS L [41] s') ∧ H' = H.set i (rst R.tr z L s'.2) ++ (XX ks ++ X) := ⟨_,rfl⟩
         refine LoopK_outR 2 E (fun _ _ => False) ?_ (fun _ _ h => h.elim) ?_
         rotate_left
         · intro fr H' h
           subst hE0
           obtain ⟨ks,s',X,⟨f0,f4,f6,f7,f10⟩,hlt,hb,hkb,hr,rfl⟩ := h
           have b2 := hr.bnd (B := L.length + d' + 3) (by simp only; omega) (by omega)
           have g2 := fun X => hR.wantA (z := z) (s := s') (X := X) hi hlt hb [41]
           generalize wantS L [41] s' = s2 at g2 hr b2
           have g5 := fun H0 => hR.ended.rendedT 20 f 0 [] 0 true [] (s2.1 : Int) false ([.int .i64 k,.int .i64 f,.int .i64 t,.str w,.int .i64 q,.sl za 6 (kse.map N.enc)] :: ks.map N.enc) H0 (H.length + 2)
           simp only [ag] at g5
           subst hXX
           simp [f0,f7]
           refine CallK_of' (g2 _) ?_
           simp [f6,f10]
           refine CallK_of' (g5 _ (by simp)) ?_
           simp [f6]
           have hfin : Hp.cut (H.length + 2) (H.set i (rst R.tr z L s2.2) ++ zbx R.tn :: .box R.tn [.d (.int .i64 20),.d (.int .i64 f),.d (.int .i64 s2.1),.d (.str []),.d (.int .i64 0),.osl false 6 ([.int .i64 k,.int .i64 f,.int .i64 t,.str w,.int .i64 q,.sl za 6 (kse.map N.enc)] :: ks.map N.enc) (H.length + 2)] :: .tok (ks.length + 1) 6 R.tn :: X) = H.set i (rst R.tr z L s2.2) ++ OX (N.new 20 a.f s2.1 [] 0 (a :: ks)) := by
            rw [rcutk hcl,hOX]
            simp [abx,N.new,N.enc_mk,he,hf,zbx]
           rcases hr.none' with ⟨q',b',hq,rfl,e3⟩ | ⟨j,hj,rfl⟩
           · refine NextM_of (H.length + 2) 0 (Nat.le_refl _) (by simp) (by omega) ⟨N.new 20 a.f b' [] 0 (a :: ks),(b',some q'),by simp [f0,f4,f6,hil2O],hfin,.inl ⟨rfl,by simp,fun m => hRelO _ _ ?_⟩⟩
             simp [pp,hjb,hjc,hq,PR.then]; omega
           · have := pp_advE hE d' (.list .expr [41]) (o1 + 1)
             rw [hj] at this
             obtain ⟨v1,v2,v3⟩ := this
             have v2 := v2 rfl
             have v3 := v3 v2
             refine NextM_of (H.length + 2) d' (Nat.le_refl _) (by simp) (by omega) ⟨N.new 20 a.f j [] 0 (a :: ks),(j,none),by simp [f0,f4,f6,hil2O],hfin,.inr ⟨j,rfl,hsn,by omega,?_,v3,by omega⟩⟩
             rw [hpeO]; simp [pp,hjb,hjc,hj,PR.then,N.bag,N.new,N.ks]
         have hE1 : ∀ fr (ks : List N) (s' : PSt) (X : Hp),(fr 0 = .ptr i 0 ∧ fr 4 = .ptr H.length 0 ∧ fr 6 = .ptr (H.length + 1) 0 ∧ fr 7 = .d (.int .i64 (s'.1 : Int)) ∧ fr 10 = .osl false 6 ([.int .i64 k,.int .i64 f,.int .i64 t,.str w,.int .i64 q,.sl za 6 (kse.map N.enc)] :: ks.map N.enc) (H.length + 2)) → (s'.2 = none → s'.1 < L.length) → s'.1 ≤ 1125899906842624 → ks.length * 72 ≤ 70368744177664 → Rel L d' (.list .expr [41]) ((o1 + 1,none) : PSt) (N.bag ks) (wantS L [41] s') → E fr (H.set i (rst R.tr z L s'.2) ++ (XX ks ++ X)) := fun fr ks s' X a b c d e => by subst hE0; exact ⟨ks,s',X,a,b,c,d,e,rfl⟩
         clear hE0
         have hcut : ∀ ks st' X,Hp.cut (H.length + 3) (H.set i (rst R.tr z L st') ++ (XX ks ++ X)) = H.set i (rst R.tr z L st') ++ XX ks := fun ks st' X => by
          rw [rcutk hcl,hXX]; rfl
         have hcut0 : ∀ ks st',Hp.cut (H.length + 3) (H.set i (rst R.tr z L st') ++ XX ks) = H.set i (rst R.tr z L st') ++ XX ks := fun ks st' => by simpa using hcut ks st' []
         have hg0 : ∀ st X,(H.set i (rst R.tr z L st) ++ X)[i]? = some (rst R.tr z L st) := fun st X => upG hi
         have hgT : ∀ (ks : List N) X,(XX ks ++ X)[2]? = some (.tok (ks.length + 1) 6 R.tn) := fun ks X => by rw [hXX]; simp
         have hgT1 : ∀ (ks : List N) h,(XX ks)[2]'h = .tok (ks.length + 1) 6 R.tn := fun ks h => by simp [hXX]
         have hgB : ∀ (ks : List N) b X,(XX ks ++ b :: X)[3]? = some b := fun ks b X => by rw [hXX]; simp
         have hgC : ∀ (ks : List N) b c X,(XX ks ++ b :: c :: X)[4]? = some c := fun ks b c X => by rw [hXX]; simp
         have hsT : ∀ (ks : List N) (m : N) X,(XX ks ++ X).set 2 (.tok (ks.length + 2) 6 R.tn) = XX (ks ++ [m]) ++ X := fun ks m X => by rw [hXX]; simp
         have hil2 : i < H.length + 3 := by omega
         rw [show H.set i (.box R.tr [.d (.sl z 4 (L.map encTk)),.d (.int .i64 (-1))]) ++ (OX a ++ [.tok 1 6 R.tn]) = H.set i (rst R.tr z L none) ++ XX [] by rw [hXX,hOX]; simp [hb,rst]]
         refine LoopM_of (H.length + 3) (fun d fr H' => ∃ (ks : List N) (s' : PSt),(fr 0 = .ptr i 0 ∧ fr 4 = .ptr H.length 0 ∧ fr 6 = .ptr (H.length + 1) 0 ∧ fr 7 = .d (.int .i64 (s'.1 : Int)) ∧ fr 10 = .osl false 6 ([.int .i64 k,.int .i64 f,.int .i64 t,.str w,.int .i64 q,.sl za 6 (kse.map N.enc)] :: ks.map N.enc) (H.length + 2)) ∧ H' = H.set i (rst R.tr z L s'.2) ++ XX ks ∧
          ((d = 0 ∧ s'.2 ≠ none ∧ s'.1 ≤ 1125899906842624 ∧ ks.length * 72 ≤ 70368744177664 ∧ ∀ m,Rel L d' (.list .expr [41]) ((o1 + 1,none) : PSt) m s') ∨ ∃ p1,s' = (p1,none) ∧ ((o1 + 1,none) : PSt).2 = none ∧ d ≤ d' ∧ pp L d' (.list .expr [41]) ((o1 + 1,none) : PSt).1 = pp L d (LG .expr [41] ks) p1 ∧ p1 < L.length ∧ 16 * (L.length - p1) + 9 ≤ d ∧ ks.length ≤ p1)) (match ((o1 + 1,none) : PSt).2 with | none => d' | some _ => 0) (by simp [hXl]) ⟨[],((o1 + 1,none) : PSt),?_⟩ ?_
         · refine ⟨by simp [hil2,f0,f4,f6],hcut0 _ _,?_⟩
           cases h0 : ((o1 + 1,none) : PSt).2 with
           | some q => first | exact absurd h0 (by simp; done) | exact .inl ⟨rfl,by simp [h0],by omega,by simp,fun m => by simp [Rel,h0,G.wt]⟩
           | none => exact .inr ⟨((o1 + 1,none) : PSt).1,by rw [← h0],rfl,Nat.le_refl _,by simp [LG],hs0l h0,by have := hs0c h0; omega,by simp⟩
         · rintro d fr H' ⟨ks,s',⟨f0,f4,f6,f7,f10⟩,rfl,hd⟩
           rcases hd with ⟨rfl,q1,qb,qk,q2⟩ | ⟨p1,rfl,hs2,hdn,hpe,hp1',hrk,hks⟩
           · obtain ⟨p',st'⟩ := s'
             cases st' with
             | none => simp at q1
             | some q =>
               have hg1 := hg0 (some q)
               have hq : ¬ (q : Int) < 0 := by omega
               have hE2 := fun fr h => hE1 fr ks (p',some q) [] h (fun e => by cases e) qb qk (q2 _)
               simp only [rst,List.append_nil] at hg1 hE2
               simp [f0,f7,rst,hg1,hq]
               exact hE2 _ (by simp [f0,f4,f6,f7,f10,hXl])
           · have hRel : ∀ m s',(match pp L d (LG .expr [41] ks) p1 with | .out => False | .bad q => s'.2 = some q ∧ s'.1 ≤ L.length + d' | .ok m' k => m = m' ∧ s' = (k,none)) → Rel L d' (.list .expr [41]) ((o1 + 1,none) : PSt) m s' := fun m s' h => by
              unfold Rel
              rw [hs2]
              simp only
              rw [hpe]; exact h
             have hg1 := hg0 none
             have gi := fun X => hR.isA (z := z) (st := none) (X := X) hi hp1' [41]
             by_cases hend : ks = [] ∧ isT L p1 [41] = true
             · obtain ⟨rfl,hjb⟩ := hend
               obtain ⟨d',rfl⟩ : ∃ d',d = d' + 1 := ⟨d - 1,by omega⟩
               have hE2 := fun fr h => hE1 fr [] (p1,none) [] h (fun _ => hp1') (by simp only; omega) (by simp) (hRel _ _ (by simp [LG,pp,hjb,N.bag,N.new]))
               rw [hjb] at gi
               simp only [rst,List.append_nil] at hg1 gi hE2
               simp [f0,f7,f10,rst,hg1]
               refine CallK_of' (gi _) ?_
               simp
               exact hE2 _ (by simp [f0,f4,f6,f7,f10,hXl])
             · have hje : ks = [] → isT L p1 [41] = false := fun e => by
                cases h : isT L p1 [41] with
                | false => rfl
                | true => exact absurd ⟨e,h⟩ hend
               obtain ⟨M,hM⟩ : ∃ M : Fr → Hp → Prop,M = fun fr H' => (fr 0 = .ptr i 0 ∧ fr 4 = .ptr H.length 0 ∧ fr 6 = .ptr (H.length + 1) 0 ∧ fr 7 = .d (.int .i64 (((p1,none) : PSt).1 : Int)) ∧ fr 10 = .osl false 6 ([.int .i64 k,.int .i64 f,.int .i64 t,.str w,.int .i64 q,.sl za 6 (kse.map N.enc)] :: ks.map N.enc) (H.length + 2)) ∧ H' = H.set i (rst R.tr z L none) ++ XX ks := ⟨_,rfl⟩
               have hM1 : ∀ fr,(fr 0 = .ptr i 0 ∧ fr 4 = .ptr H.length 0 ∧ fr 6 = .ptr (H.length + 1) 0 ∧ fr 7 = .d (.int .i64 (((p1,none) : PSt).1 : Int)) ∧ fr 10 = .osl false 6 ([.int .i64 k,.int .i64 f,.int .i64 t,.str w,.int .i64 q,.sl za 6 (kse.map N.enc)] :: ks.map N.enc) (H.length + 2)) → M fr (H.set i (rst R.tr z L none) ++ XX ks) := fun fr h => by subst hM; exact ⟨h,rfl⟩
               refine Seq_mid M ?_ ?_
               · clear hM
                 simp only [rst] at hg1 gi hM1
                 rcases List.eq_nil_or_concat ks with hk0 | ⟨kk,kx,hk0⟩
                 · rw [hje hk0] at gi
                   simp [f0,f7,f10,rst,hg1,hk0]
                   refine CallK_of' (gi _) ?_
                   rw [← hk0]
                   simp [f0,f7]
                   exact hM1 _ (by simp [f0,f4,f6,f7,f10,hXl])
                 · have hkn : ¬ ks = [] := fun e => by rw [e] at hk0; simp at hk0
                   have hk1 : ¬ ((ks.length : Int) + 1 = 1) := by
                    have : ks.length ≠ 0 := by simpa using hkn
                    omega
                   simp [f0,f7,f10,rst,hg1,hkn,hk1]
                   exact hM1 _ (by simp [f0,f4,f6,f7,f10,hXl])
               · intro fr H' h
                 subst hM
                 obtain ⟨⟨f0,f4,f6,f7,f10⟩,rfl⟩ := h
                 have hstep := LG_step (L := L) (d := d) (one := .expr) (e := [41]) (ks := ks) (p := p1) (by omega) hje
                 obtain ⟨m,hm1,hm2,hpp2⟩ := hstep
                 have gt := fun X => hS m (by omega) H X i (p1,none) hi ⟨⟨by simp only [G.c]; omega,by simp only [G.c]; omega,fun _ => ⟨by simp only; omega,by simp only [G.c]; omega⟩⟩,fun _ => hp1'⟩
                 simp only [rst] at hg1 gt
                 simp [f0,f7,rst]
                 refine CallK_of (gt _) ?_
                 rintro _ _ ⟨x,s3,rfl,rfl,hrx⟩
                 obtain ⟨kt,ft,tt',wt',qt,zt,kst,hft,het,hvt,hbt⟩ := node_ho R.tn x
                 rw [hvt]
                 obtain ⟨bo,hbo⟩ : ∃ bo : Ob,bo = .box R.tn [.d (.int .i64 kt),.d (.int .i64 ft),.d (.int .i64 tt'),.d (.str wt'),.d (.int .i64 qt),.d (.sl zt 6 (kst.map N.enc))] := ⟨_,rfl⟩
                 have hB := fun X => hgB ks bo X
                 rw [hbo] at hB
                 have hT := hgT ks
                 have hT1 := hgT1 ks
                 have hs3b : s3.1 ≤ L.length + d' := hrx.bnd (by simp only; omega) (by omega)
                 have hs1 := hsT ks x
                 have hbd : (ks.length + 2) * 72 ≤ 140737488355328 := by omega
                 have hmap : ks.map N.enc ++ [[.int .i64 kt,.int .i64 ft,.int .i64 tt',.str wt',.int .i64 qt,.sl zt 6 (kst.map N.enc)]] = (ks ++ [x]).map N.enc := by
                  rw [List.map_append]
                  simp [het]
                 clear gt
                 simp [f10,hXl,hB,hT,hT1,appA,slOf,hbd,hs1,hmap]
                 obtain ⟨p3,st3⟩ := s3
                 simp only at hs3b
                 cases st3 with
                 | some q =>
                   have hg2 := hg0 (some q)
                   have hq' : (0 : Int) ≤ q := by omega
                   have hbad : pp L m .expr p1 = .bad q := by
                    rcases hrx.none' with ⟨q',a,e,e2,e3⟩ | ⟨k,e,e2⟩
                    · simp only [Prod.mk.injEq,Option.some.injEq] at e2
                      rw [e,e2.2]
                    · simp at e2
                   have hE2 := fun fr X h => hE1 fr (ks ++ [x]) (p3,some q) X h (fun e => by cases e) (by simp only; omega) (by simp; omega) (hRel _ _ (by rw [hpp2,hbad]; simp [PR.then]; omega))
                   simp only [rst] at hg2 hE2
                   simp [f0,rst,hg2,hq']
                   exact hE2 _ _ (by simp [f0,f4,f6,hXl])
                 | none =>
                   have hok : pp L m .expr p1 = .ok x p3 := by
                    rcases hrx.none' with ⟨q',a,e,e2,e3⟩ | ⟨k,e,e2⟩
                    · simp at e2
                    · simp only [Prod.mk.injEq] at e2
                      rw [e,e2.1]
                   have hadv := pp_advE hE m .expr p1
                   rw [hok] at hadv
                   obtain ⟨v1,v2,v3⟩ := hadv
                   have v2 := v2 rfl
                   have v3 := v3 v2
                   have gi3 := fun X => hR.isA (z := z) (st := none) (X := X) hi v3 [41]
                   have gw3 := fun X => hR.wantA (z := z) (s := (p3,none)) (X := X) hi (fun _ => v3) (by simp only; omega) [44]
                   have hg2 := hg0 none
                   cases hc : isT L p3 [41] with
                   | true =>
                     have hE2 := fun fr X h => hE1 fr (ks ++ [x]) (p3,none) X h (fun _ => v3) (by simp only; omega) (by simp; omega) (hRel _ _ (by rw [hpp2,hok]; simp [PR.then,hc,N.bag,N.new]))
                     rw [hc] at gi3
                     simp only [rst] at hg2 gi3 hE2
                     simp [f0,rst,hg2]
                     refine CallK_of' (gi3 _) ?_
                     simp
                     exact hE2 _ _ (by simp [f0,f4,f6,hXl])
                   | false =>
                     rw [hc] at gi3
                     have hstp := hpp2
                     rw [hok] at hstp
                     simp only [PR.then,hc,wantR] at hstp
                     by_cases hcm : isT L p3 [44] = true
                     · have hl4 := isT_ltE hE hcm
                       simp only [wantS_none,hcm,if_true] at gw3
                       simp only [rst] at hg2 gi3 gw3
                       simp [f0,rst,hg2]
                       refine CallK_of' (gi3 _) ?_
                       simp [f0]
                       refine CallK_of' (gw3 _) ?_
                       simp
                       refine NextM_of (H.length + 3) m (Nat.le_refl _) (by simp [hXl]) (by omega) ⟨ks ++ [x],(p3 + 1,none),by simp [f0,f4,f6,hil2],by simpa [rst] using hcut (ks ++ [x]) none _,.inr ⟨p3 + 1,rfl,hs2,by omega,?_,hl4,by omega,by simp; omega⟩⟩
                       rw [hpe,hstp,hcm,LG_snoc]
                       simp
                     · have hcm' : isT L p3 [44] = false := by simpa using hcm
                       simp only [wantS_none,hcm',Bool.false_eq_true,if_false] at gw3
                       simp only [rst] at hg2 gi3 gw3
                       simp [f0,rst,hg2]
                       refine CallK_of' (gi3 _) ?_
                       simp [f0]
                       refine CallK_of' (gw3 _) ?_
                       simp
                       refine NextM_of (H.length + 3) 0 (Nat.le_refl _) (by simp [hXl]) (by omega) ⟨ks ++ [x],(p3,some p3),by simp [f0,f4,f6,hil2],by simpa [rst] using hcut (ks ++ [x]) (some p3) _,.inl ⟨rfl,by simp,by simp only; omega,by simp; omega,fun mm => hRel _ _ ?_⟩⟩
                       rw [hstp,hcm']
                       simp [PR.then]
                       omega
end
end
section
structure RHasA (P : Program) (R : RF) : Prop extends RHas P R where
 params : HasT P [7] R.params (irR7Params R.want R.is R.word R.typed R.ended R.tn)
 kind : HasT P [9] R.kind (irR7Kind R.is R.word R.want R.kind R.ended R.tn)
 block : HasT P [7] R.block (irR7Block R.want R.is R.stmt R.ended R.tn)
 stmt : HasT P [8,47] R.stmt (irR7Stmt R.is R.expr R.block R.ended R.word R.typed R.want R.tn)
 expr : Has P R.expr (irR7Expr R.sum R.is R.ended R.tn)
 sum : Has P R.sum (irR7Sum R.term R.is R.ended R.tn)
 term : Has P R.term (irR7Term R.post R.is R.ended R.tn)
 post : HasT P [10,56] R.post (irR7Post R.atom R.is R.word R.ended R.expr R.want R.tn)
 atom : HasT P [11] R.atom (irR7Atom R.is R.expr R.want R.ended R.word R.lambda R.tn R.tt)
 file : HasT P [4] R.file (irR7File R.is R.use_ R.def_ R.ended R.tn)
structure RAll (P : Program) (R : RF) (z : Bool) (L : List Tk) (n : Nat) : Prop where
 params : UR P R.tr z L n .params R.params
 typed : UR P R.tr z L n .typed R.typed
 kind : UR P R.tr z L n .kind R.kind
 block : UR P R.tr z L n .block R.block
 stmt : US P R.tr z L n .stmt R.stmt
 expr : UR P R.tr z L n .expr R.expr
 sum : UR P R.tr z L n .sum R.sum
 term : UR P R.tr z L n .term R.term
 post : UR P R.tr z L n .post R.post
 atom : UR P R.tr z L n .atom R.atom
theorem UR_zero {P : Program} {z : Bool} {L : List Tk} {tr : TypeId} {g : G} {f : FuncId} (hg : 0 < g.c) : UR P tr z L 0 g f := fun H X i s hi hp => absurd hp.1.2.1 (by omega)
theorem US_zero {P : Program} {z : Bool} {L : List Tk} {tr : TypeId} {g : G} {f : FuncId} (hg : 0 < g.c) : US P tr z L 0 g f := fun H X i p hi hp => absurd hp.1.2.1 (by omega)
section
variable {P : Program} {R : RF} {z : Bool} {L : List Tk}
theorem RHasA.all (hR : RHasA P R) (hE : EndsL L) (hL : L.length ≤ 1048576) : ∀ n,n ≤ 1099511627776 → RAll P R z L n := by
 intro n
 induction n using Nat.strongRecOn with
 | ind n ih =>
 intro hn
 cases n with
 | zero => exact ⟨UR_zero (by decide),UR_zero (by decide),UR_zero (by decide),UR_zero (by decide),US_zero (by decide),UR_zero (by decide),UR_zero (by decide),UR_zero (by decide),UR_zero (by decide),UR_zero (by decide)⟩
 | succ n =>
   have a : ∀ m,m < n + 1 → RAll P R z L m := fun m hm => ih m hm (by omega)
   have b := a n (by omega)
   have hn' : n ≤ 1099511627776 := by omega
   have h0 := hR.toRHas
   exact ⟨h0.params' hR.params hE hL n hn' (fun m hm => (a m (by omega)).typed),h0.typed' hE hL n hn' b.kind,h0.kind' hR.kind hE hL n hn' (fun m hm => (a m hm).kind),h0.block' hR.block hE hL n hn' (fun m hm => (a m (by omega)).stmt),
    h0.stmt' hR.stmt hE hL n hn' b.expr b.typed b.block,h0.expr' hR.expr hE hL n hn' b.sum,h0.sum' hR.sum hE hL n hn' (fun m hm => (a m hm).term),h0.term' hR.term hE hL n hn' (fun m hm => (a m hm).post),
    h0.post' hR.post hE hL n hn' b.atom (fun m hm => (a m hm).expr),h0.atom' hR.atom hE hL n hn' (fun m hm => (a m hm).expr) b.params b.typed b.block⟩
def RQF (tr : TypeId) (z : Bool) (L : List Tk) (n : Nat) (H : Hp) (i : Nat) : A → Hp → Prop := fun r H' => ∃ m s',r = m.v ∧ H' = H.set i (rst tr z L s'.2) ∧ Rel L n (.file []) (0,none) m s'
theorem fin_fileR {tr : TypeId} {z z' : Bool} {L : List Tk} {n : Nat} {H : Hp} {i : Nat} {s' : PSt} {k f t a : Int} {w : Bs} {rows : List (List D)} (ks : List N) (hrows : rows = ks.map N.enc) (hz : rows = [] → z' = true) (hr : Rel L n (.file []) (0,none) (N.new k f t w a ks) s') :
 ∃ r',Nrm (.agg [.d (.int .i64 k),.d (.int .i64 f),.d (.int .i64 t),.d (.str w),.d (.int .i64 a),.d (.sl z' 6 rows)]) r' ∧ RQF tr z L n H i r' (H.set i (rst tr z L s'.2)) := by
 refine ⟨_,nrm_node hz,_,s',?_,rfl,hr⟩
 rw [N.v_new,hrows]
 cases ks <;> rfl
theorem RHasA.file' (hR : RHasA P R) (hE : EndsL L) (h0l : 0 < L.length) (hL : L.length ≤ 1048576) (n : Nat) (hn : n ≤ 1099511627776) (hr0 : 16 * L.length + 7 ≤ n + 1) {H : Hp} {i : Nat} (hi : i < H.length) :
 ACall P R.file [.ptr i 0] (H.set i (rst R.tr z L none)) (RQF R.tr z L (n + 1) H i) := by
 obtain ⟨fn,hf,hcf⟩ := hR.file
 have h0 := hR.toRHas
 refine acall_norm (acall_fin hf hcf (by simp [irR7File]) fun hcl _ => ?_)
 simp [irR7File]
 obtain ⟨XX,hXX⟩ : ∃ XX : List N → Hp,XX = fun ks => [zbx R.tn,.tok ks.length 6 R.tn] := ⟨_,rfl⟩
 have hXl : ∀ a,(XX a).length = 2 := fun a => by rw [hXX]; rfl
 obtain ⟨E,hE0⟩ : ∃ E : Fr → Hp → Prop,E = fun fr H' => ∃ (ks : List N) (s' : PSt),(fr 0 = .ptr i 0 ∧ fr 2 = .ptr H.length 0 ∧ fr 3 = .d (.int .i64 (s'.1 : Int)) ∧ fr 4 = .osl true 6 (ks.map N.enc) (H.length + 1)) ∧ Rel L (n + 1) (.file []) (0,none) (N.new 1 0 s'.1 [] 0 ks) s' ∧ H' = H.set i (rst R.tr z L s'.2) ++ XX ks := ⟨_,rfl⟩
 have hE1 : ∀ fr (ks : List N) (s' : PSt),(fr 0 = .ptr i 0 ∧ fr 2 = .ptr H.length 0 ∧ fr 3 = .d (.int .i64 (s'.1 : Int)) ∧ fr 4 = .osl true 6 (ks.map N.enc) (H.length + 1)) → Rel L (n + 1) (.file []) (0,none) (N.new 1 0 s'.1 [] 0 ks) s' → E fr (H.set i (rst R.tr z L s'.2) ++ XX ks) := fun fr ks s' a b => by subst hE0; exact ⟨ks,s',a,b,rfl⟩
 refine LoopK_outR 0 E (fun _ _ => False) ?_ (fun _ _ h => h.elim) ?_
 rotate_left
 · intro fr H' h
   subst hE0
   obtain ⟨ks,s',⟨f0,f2,f3,f4⟩,hr,rfl⟩ := h
   have g5 := fun H0 => h0.ended.rendedT 1 0 0 [] 0 true [] (s'.1 : Int) true (ks.map N.enc) H0 (H.length + 1)
   simp only [ag] at g5
   subst hXX
   simp [f3,f4,zbx]
   refine CallK_of' (g5 _ (by simp)) ?_
   simp [f2]
   simp [RetK,rcut hcl,nl]
   exact fin_fileR (z' := true) ks rfl (fun _ => rfl) hr
 clear hE0
 have hcut : ∀ ks st' X,Hp.cut (H.length + 2) (H.set i (rst R.tr z L st') ++ (XX ks ++ X)) = H.set i (rst R.tr z L st') ++ XX ks := fun ks st' X => by
  rw [rcutk hcl,hXX]; rfl
 have hcut0 : ∀ ks st',Hp.cut (H.length + 2) (H.set i (rst R.tr z L st') ++ XX ks) = H.set i (rst R.tr z L st') ++ XX ks := fun ks st' => by simpa using hcut ks st' []
 have hg0 : ∀ st X,(H.set i (rst R.tr z L st) ++ X)[i]? = some (rst R.tr z L st) := fun st X => upG hi
 have hgT : ∀ (ks : List N) X,(XX ks ++ X)[1]? = some (.tok ks.length 6 R.tn) := fun ks X => by rw [hXX]; simp
 have hgT1 : ∀ (ks : List N) h,(XX ks)[1]'h = .tok ks.length 6 R.tn := fun ks h => by simp [hXX]
 have hgB : ∀ (ks : List N) b X,(XX ks ++ b :: X)[2]? = some b := fun ks b X => by rw [hXX]; simp
 have hsT : ∀ (ks : List N) (m : N) X,(XX ks ++ X).set 1 (.tok (ks.length + 1) 6 R.tn) = XX (ks ++ [m]) ++ X := fun ks m X => by rw [hXX]; simp
 have hsB : ∀ (ks : List N) b b' X,(XX ks ++ b :: X).set 2 b' = XX ks ++ b' :: X := fun ks b b' X => by rw [hXX]; simp
 have hil2 : i < H.length + 2 := by omega
 rw [show H.set i (rst R.tr z L none) ++ [Ob.box R.tn [.d (.int .i64 0),.d (.int .i64 0),.d (.int .i64 0),.d (.str []),.d (.int .i64 0),.d (.sl true 6 [])],.tok 0 6 R.tn] = H.set i (rst R.tr z L none) ++ XX [] by rw [hXX]; rfl]
 refine LoopM_of (H.length + 2) (fun d fr H' => ∃ (ks : List N) (s' : PSt),(fr 0 = .ptr i 0 ∧ fr 2 = .ptr H.length 0 ∧ fr 3 = .d (.int .i64 (s'.1 : Int)) ∧ fr 4 = .osl true 6 (ks.map N.enc) (H.length + 1)) ∧ H' = H.set i (rst R.tr z L s'.2) ++ XX ks ∧
  ((d = 0 ∧ s'.2 ≠ none ∧ ∀ m,Rel L (n + 1) (.file []) (0,none) m s') ∨ ∃ p1,s' = (p1,none) ∧ d ≤ n + 1 ∧ pp L (n + 1) (.file []) 0 = pp L d (.file ks) p1 ∧ p1 < L.length ∧ 16 * (L.length - p1) + 7 ≤ d ∧ ks.length ≤ p1)) (n + 1) (by simp [hXl]) ⟨[],(0,none),by simp [hil2],hcut0 _ _,.inr ⟨0,rfl,by omega,rfl,h0l,by omega,by simp⟩⟩ ?_
 rintro d fr H' ⟨ks,s',⟨f0,f2,f3,f4⟩,rfl,hd⟩
 rcases hd with ⟨rfl,q1,q2⟩ | ⟨p1,rfl,hdn,hpp,hp1',hrk,hks⟩
 · obtain ⟨p',st'⟩ := s'
   cases st' with
   | none => simp at q1
   | some q =>
     have hg1 := hg0 (some q)
     have hq : ¬ (q : Int) < 0 := by omega
     have hE2 := fun fr h => hE1 fr ks (p',some q) h (q2 _)
     simp only [rst] at hg1 hE2
     simp [f0,f3,rst,hg1,hq]
     exact hE2 _ (by simp [f0,f2,f3,f4])
 obtain ⟨d',rfl⟩ : ∃ d',d = d' + 1 := ⟨d - 1,by omega⟩
 have hRel : ∀ m s',(match pp L (d' + 1) (.file ks) p1 with | .out => False | .bad q => s'.2 = some q ∧ s'.1 ≤ L.length + (n + 1) | .ok m' k => m = m' ∧ s' = (k,none)) → Rel L (n + 1) (.file []) (0,none) m s' := fun m s' h => by
  unfold Rel
  simp only
  rw [hpp]; exact h
 have hg1 := hg0 none
 have gi := fun X => h0.isA (z := z) (st := none) (X := X) hi hp1' kUse
 have hr := rowAt_map encTk hp1'
 have hg : L[p1]? = some L[p1] := List.getElem?_eq_getElem hp1'
 have hkd : kdT L p1 = L[p1].k := by unfold kdT; rw [hg]
 generalize L[p1] = tk at hr hkd
 obtain ⟨kk,ta,tl,y⟩ := tk
 simp only [encTk] at hr hkd
 simp only [rst] at hg1 gi
 by_cases hk0 : kk = 0
 · subst hk0
   have hE2 := fun fr h => hE1 fr ks (p1,none) h (hRel _ _ (by simp [pp,hkd]))
   simp only [rst] at hE2
   simp [f0,f3,rst,hg1,hr]
   exact hE2 _ (by simp [f0,f2,f3,f4])
 have hk0' : ¬ kdT L p1 = 0 := by rw [hkd]; exact hk0
 obtain ⟨n',rfl⟩ : ∃ n',d' = n' + 1 := ⟨d' - 1,by omega⟩
 have ha := hR.all (z := z) hE hL n' (by omega)
 cases hu : isT L p1 kUse with
 | true =>
   have hpf : pp L (n' + 1 + 1) (.file ks) p1 = (pp L (n' + 1) .use p1).then fun m j => pp L (n' + 1) (.file (ks ++ [m])) j := by
    rw [pp]
    simp only [hk0',hu,if_true,if_false]
   rw [hu] at gi
   have gU : ∀ X,ACall P R.use_ [.ptr i 0,.d (.int .i64 (p1 : Int))] (H.set i (rst R.tr z L none) ++ X) (RQ R.tr z L (n' + 1) .use H i X (p1,none)) := fun X => by
    have := h0.use' (z := z) hE hL n' (H := H ++ X) (i := i) (by simp; omega) p1 hu
    rw [List.set_append_left _ _ hi] at this
    refine this.mono ?_
    rintro r H' ⟨m,s',rfl,rfl,hr⟩
    exact ⟨m,s',rfl,by rw [List.append_nil,List.set_append_left _ _ hi],hr⟩
   simp only [rst] at gU
   simp [f0,f3,rst,hg1,hr,hk0]
   refine CallK_of' (gi _) ?_
   simp [f0,f3]
   refine CallK_of (gU _) ?_
   rintro _ _ ⟨m,s3,rfl,rfl,r3⟩
   obtain ⟨kt,ft,tt',wt',qt,zt,kst,hft,het,hvt,hbt⟩ := node_ho R.tn m
   rw [hvt]
   obtain ⟨bo,hbo⟩ : ∃ bo : Ob,bo = .box R.tn [.d (.int .i64 kt),.d (.int .i64 ft),.d (.int .i64 tt'),.d (.str wt'),.d (.int .i64 qt),.d (.sl zt 6 (kst.map N.enc))] := ⟨_,rfl⟩
   have hB := fun X => hgB ks bo X
   rw [hbo] at hB
   have hB0 := fun X => hgB ks (.box R.tn [.d (.int .i64 0),.d (.int .i64 0),.d (.int .i64 0),.d (.str []),.d (.int .i64 0),.d (.sl true 6 [])]) X
   have hT := hgT ks
   have hT1 := hgT1 ks
   have hs1 := hsT ks m
   have hsb := hsB ks
   have hbd : (ks.length + 1) * 72 ≤ 140737488355328 := by omega
   have hmap : ks.map N.enc ++ [[.int .i64 kt,.int .i64 ft,.int .i64 tt',.str wt',.int .i64 qt,.sl zt 6 (kst.map N.enc)]] = (ks ++ [m]).map N.enc := by
    rw [List.map_append]
    simp [het]
   simp [f4,hXl,hB,hB0,hT,hT1,appA,slOf,hbd,hs1,hsb,hmap]
   rcases r3.none' with ⟨q,b,hq,rfl,e3⟩ | ⟨j,hj,rfl⟩
   · refine NextM_of (H.length + 2) 0 (Nat.le_refl _) (by simp [hXl]) (by omega) ⟨ks ++ [m],(b,some q),by simp [f0,f2,hil2],by simpa [rst] using hcut (ks ++ [m]) (some q) _,.inl ⟨rfl,by simp,fun m => hRel _ _ ?_⟩⟩
     rw [hpf,hq]; simp [PR.then]; omega
   · have := pp_advE hE (n' + 1) .use p1
     rw [hj] at this
     obtain ⟨v1,v2,v3⟩ := this
     have v2 := v2 rfl
     have v3 := v3 v2
     refine NextM_of (H.length + 2) (n' + 1) (Nat.le_refl _) (by simp [hXl]) (by omega) ⟨ks ++ [m],(j,none),by simp [f0,f2,hil2],by simpa [rst] using hcut (ks ++ [m]) none _,.inr ⟨j,rfl,by omega,?_,v3,by omega,by simp; omega⟩⟩
     rw [hpp,hpf,hj]; simp [PR.then]
 | false =>
   have hpf : pp L (n' + 1 + 1) (.file ks) p1 = (pp L (n' + 1) .defn p1).then fun m j => pp L (n' + 1) (.file (ks ++ [m])) j := by
    rw [pp]
    simp only [hk0',hu,if_false,Bool.false_eq_true]
   rw [hu] at gi
   have gU : ∀ X,ACall P R.def_ [.ptr i 0,.d (.int .i64 (p1 : Int))] (H.set i (rst R.tr z L none) ++ X) (RQ R.tr z L (n' + 1) .defn H i X (p1,none)) := fun X => by
    have := h0.def' (z := z) hE hL n' (by omega) ha.params ha.typed ha.block (H := H ++ X) (i := i) (by simp; omega) p1 ⟨⟨by simp only [G.c]; omega,by simp only [G.c]; omega,fun _ => ⟨by simp only; omega,by simp only [G.c]; omega⟩⟩,fun _ => hp1'⟩
    rw [List.set_append_left _ _ hi] at this
    refine this.mono ?_
    rintro r H' ⟨m,s',rfl,rfl,hr⟩
    exact ⟨m,s',rfl,by rw [List.append_nil,List.set_append_left _ _ hi],hr⟩
   simp only [rst] at gU
   simp [f0,f3,rst,hg1,hr,hk0]
   refine CallK_of' (gi _) ?_
   simp [f0,f3]
   refine CallK_of (gU _) ?_
   rintro _ _ ⟨m,s3,rfl,rfl,r3⟩
   obtain ⟨kt,ft,tt',wt',qt,zt,kst,hft,het,hvt,hbt⟩ := node_ho R.tn m
   rw [hvt]
   obtain ⟨bo,hbo⟩ : ∃ bo : Ob,bo = .box R.tn [.d (.int .i64 kt),.d (.int .i64 ft),.d (.int .i64 tt'),.d (.str wt'),.d (.int .i64 qt),.d (.sl zt 6 (kst.map N.enc))] := ⟨_,rfl⟩
   have hB := fun X => hgB ks bo X
   rw [hbo] at hB
   have hB0 := fun X => hgB ks (.box R.tn [.d (.int .i64 0),.d (.int .i64 0),.d (.int .i64 0),.d (.str []),.d (.int .i64 0),.d (.sl true 6 [])]) X
   have hT := hgT ks
   have hT1 := hgT1 ks
   have hs1 := hsT ks m
   have hsb := hsB ks
   have hbd : (ks.length + 1) * 72 ≤ 140737488355328 := by omega
   have hmap : ks.map N.enc ++ [[.int .i64 kt,.int .i64 ft,.int .i64 tt',.str wt',.int .i64 qt,.sl zt 6 (kst.map N.enc)]] = (ks ++ [m]).map N.enc := by
    rw [List.map_append]
    simp [het]
   simp [f4,hXl,hB,hB0,hT,hT1,appA,slOf,hbd,hs1,hsb,hmap]
   rcases r3.none' with ⟨q,b,hq,rfl,e3⟩ | ⟨j,hj,rfl⟩
   · refine NextM_of (H.length + 2) 0 (Nat.le_refl _) (by simp [hXl]) (by omega) ⟨ks ++ [m],(b,some q),by simp [f0,f2,hil2],by simpa [rst] using hcut (ks ++ [m]) (some q) _,.inl ⟨rfl,by simp,fun m => hRel _ _ ?_⟩⟩
     rw [hpf,hq]; simp [PR.then]; omega
   · have := pp_advE hE (n' + 1) .defn p1
     rw [hj] at this
     obtain ⟨v1,v2,v3⟩ := this
     have v2 := v2 rfl
     have v3 := v3 v2
     refine NextM_of (H.length + 2) (n' + 1) (Nat.le_refl _) (by simp [hXl]) (by omega) ⟨ks ++ [m],(j,none),by simp [f0,f2,hil2],by simpa [rst] using hcut (ks ++ [m]) none _,.inr ⟨j,rfl,by omega,?_,v3,by omega,by simp; omega⟩⟩
     rw [hpp,hpf,hj]; simp [PR.then]
theorem RHasA.fileA (hR : RHasA P R) (hE : EndsL L) (h0l : 0 < L.length) (hL : L.length ≤ 1048576) {H : Hp} {i : Nat} (hi : i < H.length) :
 ACall P R.file [.ptr i 0] (H.set i (rst R.tr z L none)) (RQF R.tr z L (16 * L.length + 8) H i) := hR.file' hE h0l hL (16 * L.length + 7) (by omega) (by omega) hi
end
end
section
def typeF (L : List Tk) : PR := pp L (16 * L.length + 8) .kind 0
def typeP (L : List Tk) : N × Int := match typeF L with
 | .ok n k => if kdT L k = 0 then if 60 < n.depth then (N.none,25) else (n,0) else (N.none,24)
 | _ => (N.none,24)
def typeO (s : Bs) : N × Int := if (lexS s).2.1 ≠ 0 then (N.none,(lexS s).2.1) else typeP (lexS s).1
section
variable {P : Program} {F : PF}
theorem KHas.kinds (hF : KHas P F) {z : Bool} {L : List Tk} (hL : L.length ≤ 1048576) : ∀ n,n ≤ 1099511627776 → UC P F.tp z L n .kind F.kind ∧ UCc P F.tp F.tb z L n .tfield F.tfield := by
 intro n
 induction n using Nat.strongRecOn with
 | ind n ih =>
 intro hn
 cases n with
 | zero => exact ⟨UC_zero (by decide),UCc_zero (by decide)⟩
 | succ n =>
   exact ⟨hF.kind' hL n (by omega) (fun m hm => (ih m (by omega) (by omega)).2) (fun m hm => (ih m hm (by omega)).1),hF.tfield' hL n (by omega) (ih n (by omega) (by omega)).1⟩
theorem Has.type_ {f fl fd} (h : Has P f (irPType fl F.kind F.now F.fail fd F.tn F.tp)) (hF : KHas P F) (hd : Has P fd (irTDepth fd F.tn)) {H0 : Hp}
 (hl : ∀ (s : Bs),s.length ≤ 1048576 → ∀ H,Pre0 H0 H → ACall P fl [.d (.str s)] H (fun r H' => r = .tup [.d (.sl true 4 ((lexS s).1.map encTk)),.d (.int .i64 (lexS s).2.1),.d (.int .i64 (lexS s).2.2)] ∧ H' = H))
 (s : Bs) (hs : s.length ≤ 1048576) (H : Hp) (hH : Pre0 H0 H) : ACall P f [.d (.str s)] H (fun r H' => r = .tup [(typeO s).1.v,.d (.int .i64 (typeO s).2)] ∧ H' = H) := by
 obtain ⟨fn,hf,hcf⟩ := h
 refine acall_fin hf hcf (by simp [irPType]) fun hcl _ => ?_
 obtain ⟨Q,hQ⟩ : ∃ Q : A → Hp → Prop,Q = fun r H' => r = .tup [(typeO s).1.v,.d (.int .i64 (typeO s).2)] ∧ H' = H := ⟨_,rfl⟩
 rw [← hQ]
 have hnone : ∀ e : Int,typeO s = (N.none,e) → Q (.tup [.agg [.d (.int .i64 0),.d (.int .i64 0),.d (.int .i64 0),.d (.str []),.d (.int .i64 0),.d (.sl true 6 [])],.d (.int .i64 e)]) H := fun e h => by
  subst hQ
  rw [h]
  exact ⟨rfl,rfl⟩
 have hO : typeO s = if (lexS s).2.1 ≠ 0 then (N.none,(lexS s).2.1) else typeP (lexS s).1 := rfl
 have hlk := lexS_like (s := s)
 obtain ⟨r0,hr0⟩ : ∃ r0 : Ob,r0 = .box F.tn [.d (.int .i64 0),.d (.int .i64 0),.d (.int .i64 0),.d (.str []),.d (.int .i64 0),.d (.sl true 6 [])] := ⟨_,rfl⟩
 have g1 := hl s hs _ (hH.app [r0])
 generalize lexS s = LS at hO hlk g1
 obtain ⟨L,e,b⟩ := LS
 simp only at hO hlk g1
 rw [hr0] at g1
 simp [irPType]
 refine CallK_of' g1 ?_
 by_cases he : e = 0
 case neg =>
  rw [if_pos he] at hO
  simp [he]
  simp [RetK,cut_app hcl]
  exact hnone e hO
 rw [if_neg (by simp [he])] at hO
 obtain ⟨l1,l2,l3,l4,l5⟩ := hlk he
 simp [he]
 have hA := (hF.kinds (z := true) (L := L) (by omega) (16 * L.length + 8) (by omega)).1
 have g := hA (H ++ [r0,pst F.tp true L (0,none)]) [] (H.length + 1) (0,none) (by simp) ⟨by simp only [G.c]; omega,by simp only [G.c]; omega,fun _ => ⟨Nat.zero_le _,by simp only [G.c]; omega⟩⟩
 have e1 : ∀ s,(H ++ [r0,pst F.tp true L (0,none)]).set (H.length + 1) (pst F.tp true L s) ++ [] = H ++ [r0,pst F.tp true L s] := fun s => by simp
 rw [e1] at g
 rw [hr0] at g
 refine CallK_of g ?_
 rintro _ _ ⟨m,s',rfl,rfl,hrel⟩
 rw [← hr0,e1]
 rcases hrel.none' with ⟨q,b,hq,rfl,e3⟩ | ⟨k',hk,rfl⟩
 · have hq' : typeF L = .bad q := hq
   have hP : typeP L = (N.none,24) := by unfold typeP; rw [hq']
   rw [hP] at hO
   obtain ⟨k2,f2,t2,w2,a2,z2,ks2⟩ := m
   rw [N.v_mk,hr0]
   simp [pst]
   repeat' apply And.intro
   all_goals
    simp [RetK,cut_app hcl]
    try exact hnone 24 hO
 have hk' : typeF L = .ok m k' := hk
 have hsz := pp_size (L := L) (16 * L.length + 8) .kind 0 trivial
 rw [show pp L (16 * L.length + 8) .kind 0 = .ok m k' from hk] at hsz
 simp only [Sz,G.k1,G.sz,N.sizes_nil] at hsz
 have hadv := pp_adv (L := L) (16 * L.length + 8) .kind 0
 rw [show pp L (16 * L.length + 8) .kind 0 = .ok m k' from hk] at hadv
 obtain ⟨v1,-,v3⟩ := hadv
 have hdep := N.depth_size m
 have hd' := hd.depth m (by omega)
 have hnow : ∀ X,ACall P F.now [.ptr (H.length + 1) 0] (H ++ (r0 :: pst F.tp true L (k',none) :: X)) (fun r H' => r = tokA_ L k' ∧ H' = H ++ (r0 :: pst F.tp true L (k',none) :: X)) := fun X => hF.now' (z := true) (s := (k',none)) (by simp)
 have hfail : ∀ X,ACall P F.fail [.ptr (H.length + 1) 0,.d (.int .i64 24)] (H ++ (r0 :: pst F.tp true L (k',none) :: X)) (fun r H' => r = .tup [] ∧ H' = H ++ (r0 :: pst F.tp true L (k',some k') :: X)) := fun X => by
  have := hF.fail' (z := true) (L := L) (H := H ++ (r0 :: pst F.tp true L (k',none) :: X)) (i := H.length + 1) (s := (k',none)) (by simp)
  simpa [failS] using this
 obtain ⟨k2,f2,t2,w2,a2,z2,ks2⟩ := m
 rw [N.v_mk] at hd'
 have hnk := hnow [.box F.tn [.d (.int .i64 k2),.d (.int .i64 f2),.d (.int .i64 t2),.d (.str w2),.d (.int .i64 a2),.d (.sl z2 6 (ks2.map N.enc))]]
 have hfk := hfail [.box F.tn [.d (.int .i64 k2),.d (.int .i64 f2),.d (.int .i64 t2),.d (.str w2),.d (.int .i64 a2),.d (.sl z2 6 (ks2.map N.enc))]]
 rw [hr0] at hnk hfk
 rw [N.v_mk,hr0]
 simp only [pst] at hnk hfk
 simp [pst]
 simp at hnk hfk
 obtain ⟨ta,tl,htk⟩ := tokA_k L k'
 rw [htk] at hnk
 refine CallK_of' hnk ?_
 by_cases hkd : kdT L k' = 0
 · simp [hkd]
   refine CallK_of' (hd' _) ?_
   by_cases hdp : 60 < (N.mk k2 f2 t2 w2 a2 z2 ks2).depth
   · have hP : typeP L = (N.none,25) := by unfold typeP; rw [hk']; simp [hkd,hdp]
     rw [hP] at hO
     have hdi : (60 : Int) < ((N.mk k2 f2 t2 w2 a2 z2 ks2).depth : Int) := by omega
     simp [hdi]
     simp [RetK,cut_app hcl]
     exact hnone 25 hO
   · have hP : typeP L = (N.mk k2 f2 t2 w2 a2 z2 ks2,0) := by unfold typeP; rw [hk']; simp [hkd,hdp]
     rw [hP] at hO
     have hdi : ¬ (60 : Int) < ((N.mk k2 f2 t2 w2 a2 z2 ks2).depth : Int) := by omega
     simp [hdi]
     simp [RetK,cut_app hcl]
     subst hQ
     rw [hO,N.v_mk]
     exact ⟨rfl,rfl⟩
 · have hP : typeP L = (N.none,24) := by unfold typeP; rw [hk']; simp [hkd]
   rw [hP] at hO
   simp [hkd]
   refine CallK_of' hfk ?_
   simp
   repeat' apply And.intro
   all_goals
    simp [RetK,cut_app hcl]
    try exact hnone 24 hO
end
end
section
section
variable {P : Program}
theorem Has.depth6 {f : FuncId} {tn : TypeId} (h : Has P f (irR6Depth f tn)) : ∀ (n : N),n.size ≤ 1125899906842624 → ∀ H,ACall P f [n.v] H (fun r H' => r = .d (.int .i64 (n.depth : Int)) ∧ H' = H) := by
 refine N.ind fun k f' t w a z ks ih => ?_
 intro hs H
 obtain ⟨fn,hf,hcf⟩ := h
 refine acall_fin hf hcf (by simp [irR6Depth]) fun hcl _ => ?_
 rw [N.size_mk] at hs
 rw [N.v_mk,N.depth_mk]
 have hlen := N.sizes_len ks
 have hds : ∀ i,N.depths (ks.take i) ≤ 1125899906842624 := fun i => by
  refine N.depths_le _ fun p hp => ?_
  have := N.depth_size p
  have := N.sizes_mem (List.mem_of_mem_take hp)
  omega
 simp [irR6Depth]
 refine ForK_of (H.length + 1) ks.length (fun i fr H' => fr 1 = .ptr H.length 0 ∧ fr 3 = .d (.int .i64 ((N.depths (ks.take i) : Int) + 1)) ∧ H' = H ++ [.box tn [.d (.int .i64 k),.d (.int .i64 f'),.d (.int .i64 t),.d (.str w),.d (.int .i64 a),.d (.sl z 6 (ks.map N.enc))]]) (by omega) (by decide) (by simp) (by simp) ?_ ?_
 · simp [N.depths,cut_appk hcl]
 rintro i fr H' hi f4 ⟨f1,f3,rfl⟩
 simp [f4,f1]
 refine BrK_split (fun h => ?_) (fun h => ?_)
 · have hlt : i < ks.length := by simpa using h
   have hr := rowAt_map N.enc hlt
   have hm := List.getElem_mem hlt
   have hsz := N.sizes_mem hm
   have hx := ih _ hm (by omega)
   have hdt := N.depths_take_succ hlt
   have hd0 := hds i
   have hdd := N.depth_size (ks[i])
   generalize ks[i] = p at hr hx hdt hsz hdd
   obtain ⟨k2,f2,t2,w2,a2,z2,ks2⟩ := p
   generalize hdp : (N.mk k2 f2 t2 w2 a2 z2 ks2).depth = dd at hx hdt hdd
   rw [N.enc_mk] at hr
   rw [N.v_mk] at hx
   have hw : IntKind.i64.wrap ((dd : Int) + 1) = (dd : Int) + 1 := wrap_i64 (by omega) (by omega)
   simp [f4,f1,hr]
   refine CallK_of' (hx _) ?_
   by_cases hm : N.depths (ks.take i) < dd
   · simp [hw,f3,hm]
     refine NextF_of (H.length + 1) (Nat.le_refl _) hlt (by simp [f4]) ?_
     rw [hdt]
     simp [f1,cut_appk hcl]
     omega
   · simp [hw,f3,hm]
     refine NextF_of (H.length + 1) (Nat.le_refl _) hlt (by simp [f4]) ?_
     rw [hdt]
     simp [f1,f3,cut_appk hcl]
     omega
 · have hii : i = ks.length := by
    have : ¬ i < ks.length := by simpa using h
    omega
   rw [hii,List.take_of_length_le (Nat.le_refl _)] at f3
   simp [f3]
   simp [RetK,cut_app hcl]
   omega
end
section
variable {P : Program} {R : RF} {z : Bool} {L : List Tk}
theorem Has.type7 {f fl fd} (h : Has P f (irR7Type fl R.kind fd R.tn R.tr)) (hR : RHasA P R) (hd : Has P fd (irR6Depth fd R.tn))
 (hl : ∀ (s : Bs),s.length ≤ 1048576 → ∀ H,ACall P fl [.d (.str s)] H (fun r H' => r = .tup [.d (.sl true 4 ((lexS s).1.map encTk)),.d (.int .i64 (lexS s).2.1),.d (.int .i64 (lexS s).2.2)] ∧ H' = H))
 (s : Bs) (hs : s.length ≤ 1048576) (H : Hp) : ACall P f [.d (.str s)] H (fun r H' => r = .tup [(typeO s).1.v,.d (.int .i64 (typeO s).2)] ∧ H' = H) := by
 obtain ⟨fn,hf,hcf⟩ := h
 refine acall_fin hf hcf (by simp [irR7Type]) fun hcl _ => ?_
 obtain ⟨Q,hQ⟩ : ∃ Q : A → Hp → Prop,Q = fun r H' => r = .tup [(typeO s).1.v,.d (.int .i64 (typeO s).2)] ∧ H' = H := ⟨_,rfl⟩
 rw [← hQ]
 have hnone : ∀ e : Int,typeO s = (N.none,e) → Q (.tup [.agg [.d (.int .i64 0),.d (.int .i64 0),.d (.int .i64 0),.d (.str []),.d (.int .i64 0),.d (.sl true 6 [])],.d (.int .i64 e)]) H := fun e h => by
  subst hQ
  rw [h]
  exact ⟨rfl,rfl⟩
 have hO : typeO s = if (lexS s).2.1 ≠ 0 then (N.none,(lexS s).2.1) else typeP (lexS s).1 := rfl
 have hlk := lexS_like (s := s)
 obtain ⟨r0,hr0⟩ : ∃ r0 : Ob,r0 = .box R.tn [.d (.int .i64 0),.d (.int .i64 0),.d (.int .i64 0),.d (.str []),.d (.int .i64 0),.d (.sl true 6 [])] := ⟨_,rfl⟩
 have g1 := hl s hs (H ++ [r0])
 generalize lexS s = LS at hO hlk g1
 obtain ⟨L,e,b⟩ := LS
 simp only at hO hlk g1
 rw [hr0] at g1
 simp [irR7Type]
 refine CallK_of' g1 ?_
 by_cases he : e = 0
 case neg =>
  rw [if_pos he] at hO
  simp [he]
  simp [RetK,cut_app hcl]
  exact hnone e hO
 rw [if_neg (by simp [he])] at hO
 obtain ⟨l1,l2,l3,l4,l5⟩ := hlk he
 have hl0 : 0 < L.length := List.length_pos_iff.2 l1
 simp [he]
 have hA := (hR.all (z := true) (L := L) l2 (by omega) (16 * L.length + 8) (by omega)).kind
 have g := hA (H ++ [r0,rst R.tr true L none]) [] (H.length + 1) (0,none) (by simp) ⟨⟨by simp only [G.c]; omega,by simp only [G.c]; omega,fun _ => ⟨Nat.zero_le _,by simp only [G.c]; omega⟩⟩,fun _ => hl0⟩
 have e1 : ∀ s,(H ++ [r0,rst R.tr true L none]).set (H.length + 1) (rst R.tr true L s) ++ [] = H ++ [r0,rst R.tr true L s] := fun s => by simp
 rw [e1] at g
 rw [hr0] at g
 simp only [rst] at g
 refine CallK_of g ?_
 rintro _ _ ⟨m,s',rfl,rfl,hrel⟩
 have e2 : ∀ s,(H ++ [r0,.box R.tr [.d (.sl true 4 (L.map encTk)),.d (.int .i64 (-1))]]).set (H.length + 1) (rst R.tr true L s) ++ [] = H ++ [r0,rst R.tr true L s] := fun s => by simp
 rw [← hr0,e2]
 rcases hrel.none' with ⟨q,b,hq,rfl,e3⟩ | ⟨k',hk,rfl⟩
 · have hq' : typeF L = .bad q := hq
   have hP : typeP L = (N.none,24) := by unfold typeP; rw [hq']
   rw [hP] at hO
   have hqn : (0 : Int) ≤ q := by omega
   obtain ⟨k2,f2,t2,w2,a2,z2,ks2⟩ := m
   rw [N.v_mk,hr0]
   simp [rst,hqn]
   repeat' apply And.intro
   all_goals
    simp [RetK,cut_app hcl]
    try exact hnone 24 hO
 have hk' : typeF L = .ok m k' := hk
 have hsz := pp_size (L := L) (16 * L.length + 8) .kind 0 trivial
 rw [show pp L (16 * L.length + 8) .kind 0 = .ok m k' from hk] at hsz
 simp only [Sz,G.k1,G.sz,N.sizes_nil] at hsz
 have hadv := pp_advE l2 (16 * L.length + 8) .kind 0
 rw [show pp L (16 * L.length + 8) .kind 0 = .ok m k' from hk] at hadv
 obtain ⟨v1,v2,v3⟩ := hadv
 have v3 := v3 (v2 rfl)
 have hdep := N.depth_size m
 have hd' := hd.depth6 m (by omega)
 have hr := rowAt_map encTk v3
 have hg : L[k']? = some L[k'] := List.getElem?_eq_getElem v3
 have hkk : kdT L k' = L[k'].k := by unfold kdT; rw [hg]
 generalize L[k'] = tk at hr hkk
 obtain ⟨kk,ta,tl,tx⟩ := tk
 simp only [encTk] at hr hkk
 obtain ⟨k2,f2,t2,w2,a2,z2,ks2⟩ := m
 rw [N.v_mk] at hd'
 rw [N.v_mk,hr0]
 by_cases hkd : kk = 0
 · subst hkd
   simp [rst,hr]
   refine CallK_of' (hd' _) ?_
   by_cases hdp : 60 < (N.mk k2 f2 t2 w2 a2 z2 ks2).depth
   · have hP : typeP L = (N.none,25) := by unfold typeP; rw [hk']; simp [hkk,hdp]
     rw [hP] at hO
     have hdi : (60 : Int) < ((N.mk k2 f2 t2 w2 a2 z2 ks2).depth : Int) := by omega
     simp [hdi]
     simp [RetK,cut_app hcl]
     exact hnone 25 hO
   · have hP : typeP L = (N.mk k2 f2 t2 w2 a2 z2 ks2,0) := by unfold typeP; rw [hk']; simp [hkk,hdp]
     rw [hP] at hO
     have hdi : ¬ (60 : Int) < ((N.mk k2 f2 t2 w2 a2 z2 ks2).depth : Int) := by omega
     simp [hdi]
     simp [RetK,cut_app hcl]
     subst hQ
     rw [hO,N.v_mk]
     exact ⟨rfl,rfl⟩
 · have hP : typeP L = (N.none,24) := by unfold typeP; rw [hk']; simp [hkk,hkd]
   rw [hP] at hO
   simp [rst,hr,hkd]
   simp [RetK,cut_app hcl]
   exact hnone 24 hO
end
end
end Go.Zam
namespace Go.Proofs.Zf
section
open Go Go.Zam Go.Proofs
theorem rcf11 : compF Tryz.prog [] Tryz.f11 = some (irR7Type 14 21 22 25 59) := by kernel_rfl
theorem rcf21 : compF Tryz.prog [9] Tryz.f21 = some (irR7Kind 41 42 43 21 44 25) := by kernel_rfl
theorem rcf22 : compF Tryz.prog [] Tryz.f22 = some (irR6Depth 22 25) := by kernel_rfl
theorem rcf30 : compF Tryz.prog [4] Tryz.f30 = some (irR7File 41 65 66 44 25) := by kernel_rfl
theorem rcf41 : compF Tryz.prog [] Tryz.f41 = some (irR7Is 44) := by kernel_rfl
theorem rcf42 : compF Tryz.prog [] Tryz.f42 = some (irR7Word 25) := by kernel_rfl
theorem rcf43 : compF Tryz.prog [] Tryz.f43 = some (irR7Want 41) := by kernel_rfl
theorem rcf44 : compF Tryz.prog [] Tryz.f44 = some (irR7Ended 25) := by kernel_rfl
theorem rcf65 : compF Tryz.prog [] Tryz.f65 = some (irR7Use 42 43 44 25) := by kernel_rfl
theorem rcf66 : compF Tryz.prog [] Tryz.f66 = some (irR7Def 43 42 82 44 25) := by kernel_rfl
theorem rcf82 : compF Tryz.prog [] Tryz.f82 = some (irR7Lambda 91 92 93 25) := by kernel_rfl
theorem rcf91 : compF Tryz.prog [7] Tryz.f91 = some (irR7Params 43 41 42 92 44 25) := by kernel_rfl
theorem rcf92 : compF Tryz.prog [] Tryz.f92 = some (irR7Typed 41 21 25) := by kernel_rfl
theorem rcf93 : compF Tryz.prog [7] Tryz.f93 = some (irR7Block 43 41 104 44 25) := by kernel_rfl
theorem rcf104 : compF Tryz.prog [8,47] Tryz.f104 = some (irR7Stmt 41 111 93 44 42 92 43 25) := by kernel_rfl
theorem rcf111 : compF Tryz.prog [] Tryz.f111 = some (irR7Expr 114 41 44 25) := by kernel_rfl
theorem rcf114 : compF Tryz.prog [] Tryz.f114 = some (irR7Sum 117 41 44 25) := by kernel_rfl
theorem rcf117 : compF Tryz.prog [] Tryz.f117 = some (irR7Term 123 41 44 25) := by kernel_rfl
theorem rcf123 : compF Tryz.prog [10,56] Tryz.f123 = some (irR7Post 130 41 42 44 111 43 25) := by kernel_rfl
theorem rcf130 : compF Tryz.prog [11] Tryz.f130 = some (irR7Atom 41 111 43 44 42 82 25 44) := by kernel_rfl
theorem rcf14 : compF Tryz.prog [6] Tryz.f14 = some (irR4Lex 27 28 29 44) := by kernel_rfl
theorem rcf28 : compF Tryz.prog [] Tryz.f28 = some (irR4Lead) := by kernel_rfl
theorem rcf29 : compF Tryz.prog [] Tryz.f29 = some (irR4One 61 62 63 64) := by kernel_rfl
theorem rcf27 : compF Tryz.prog [] Tryz.f27 = some (irR3Bad 60) := by kernel_rfl
theorem rcf60 : compF Tryz.prog [] Tryz.f60 = some (irR3Next 81) := by kernel_rfl
theorem rcf81 : compF Tryz.prog [] Tryz.f81 = some (irR3More) := by kernel_rfl
theorem rcf64 : compF Tryz.prog [] Tryz.f64 = some (irR3Unquote) := by kernel_rfl
theorem lex4Ok (s : Bs) (hs : s.length ≤ 1048576) (H : Hp) :
 ACall Tryz.prog 14 [.d (.str s)] H (fun r H' => r = .tup [.d (.sl true 4 ((lexS s).1.map encTk)),.d (.int .i64 (lexS s).2.1),.d (.int .i64 (lexS s).2.2)] ∧ H' = H) :=
 HasT.lex4 ⟨_,Tryz.func14,rcf14⟩
  (fun s H hs => Has.bad3 ⟨_,Tryz.func27,rcf27⟩ (fun s n hn hl H => Has.next3 ⟨_,Tryz.func60,rcf60⟩ (Has.more3 ⟨_,Tryz.func81,rcf81⟩) s n hn hl H) s hs H)
  (fun s n hn hl H => Has.lead4 ⟨_,Tryz.func28,rcf28⟩ s n hn hl H)
  (fun s n hn hl H => Has.one4 ⟨_,Tryz.func29,rcf29⟩ rletterOk rdigitOk risKeyOk (fun s H hs => Has.unquote3 ⟨_,Tryz.func64,rcf64⟩ s hs H) s n hn hl H) s hs H
def Rf : RF := { kind := 21,file := 30,is := 41,word := 42,want := 43,ended := 44,use_ := 65,def_ := 66,lambda := 82,params := 91,typed := 92,block := 93,stmt := 104,expr := 111,sum := 114,term := 117,post := 123,atom := 130,tn := 25,tt := 44,tr := 59 }
theorem rHas : RHasA Tryz.prog Rf where
 is := ⟨_,Tryz.func41,rcf41⟩
 word := ⟨_,Tryz.func42,rcf42⟩
 want := ⟨_,Tryz.func43,rcf43⟩
 ended := ⟨_,Tryz.func44,rcf44⟩
 use_ := ⟨_,Tryz.func65,rcf65⟩
 def_ := ⟨_,Tryz.func66,rcf66⟩
 lambda := ⟨_,Tryz.func82,rcf82⟩
 typed := ⟨_,Tryz.func92,rcf92⟩
 params := ⟨_,Tryz.func91,rcf91⟩
 kind := ⟨_,Tryz.func21,rcf21⟩
 block := ⟨_,Tryz.func93,rcf93⟩
 stmt := ⟨_,Tryz.func104,rcf104⟩
 expr := ⟨_,Tryz.func111,rcf111⟩
 sum := ⟨_,Tryz.func114,rcf114⟩
 term := ⟨_,Tryz.func117,rcf117⟩
 post := ⟨_,Tryz.func123,rcf123⟩
 atom := ⟨_,Tryz.func130,rcf130⟩
 file := ⟨_,Tryz.func30,rcf30⟩
theorem refTypeOk (s : Bs) (hs : s.length ≤ 1048576) (H : Hp) : ACall Tryz.prog 11 [.d (.str s)] H (fun r H' => r = .tup [(typeO s).1.v,.d (.int .i64 (typeO s).2)] ∧ H' = H) :=
 Has.type7 (R := Rf) ⟨_,Tryz.func11,rcf11⟩ rHas ⟨_,Tryz.func22,rcf22⟩ (fun s hs H => lex4Ok s hs H) s hs H
theorem typeOk {H0 : Hp} (hG : TabsG 1 2 3 4 H0) (s : Bs) (hs : s.length ≤ 1048576) (H : Hp) (hH : Pre0 H0 H) : ACall Tryz.prog 10 [.d (.str s)] H (fun r H' => r = .tup [(typeO s).1.v,.d (.int .i64 (typeO s).2)] ∧ H' = H) :=
 Has.type_ (F := F) ⟨_,Tryz.func10,pcf10⟩ has.toKHas ph20 (fun s hs H hH => lexOk hG s hs H hH) s hs H hH
theorem sameTOk (n : N) (hs : n.size ≤ 1125899906842624) (H : Hp) : ACall Tryz.prog 9 [n.v,n.v,.d (.bool true)] H (fun r H' => r = .d (.bool true) ∧ H' = H) := Has.same6 ph9 true (N.Sm.refl true n) hs H
end
section
open Go Go.Zam Go.Proofs
variable {H0 : Hp}
theorem typeO_size (s : Bs) : (typeO s).1.size ≤ 1125899906842624 := by
 have hn : N.none.size = 1 := N.size_none
 unfold typeO
 split
 · simp only; omega
 · rename_i h
   have h0 : (lexS s).2.1 = 0 := by simpa using h
   obtain ⟨-,-,-,-,l5⟩ := lexS_like h0
   unfold typeP
   cases hF : typeF (lexS s).1 with
   | out => simp only; omega
   | bad q => simp only; omega
   | ok m k =>
     have hsz := pp_size (L := (lexS s).1) (16 * (lexS s).1.length + 8) .kind 0 trivial
     have hadv := pp_adv (L := (lexS s).1) (16 * (lexS s).1.length + 8) .kind 0
     unfold typeF at hF
     rw [hF] at hsz hadv
     simp only [Sz,G.k1,G.sz,N.sizes_nil] at hsz
     obtain ⟨v1,-,v3⟩ := hadv
     simp only
     split
     · split
       · simp only; omega
       · simp only; omega
     · simp only; omega
theorem awakeOk (hG : TabsG 1 2 3 4 H0) (hN : NamesG 0 H0) (H : Hp) (hH : Pre0 H0 H) : ACall Tryz.prog 7 [] H (fun r H' => r = .d (.bool true) ∧ H' = H) := by
 refine acall_fin Tryz.func7 cf7 (by simp [ir7]) fun hcl _ => ?_
 have g := ofOk hG awakeT (by decide) H hH
 rw [awake_parse.1,awake_parse.2] at g
 have g2 := fun X => showOk hN awakeN awake_kd (by rw [awake_show]; decide) (by decide +kernel) (H ++ X) (hH.app X)
 rw [awake_show] at g2
 generalize (parseO awakeT).1 = LA at g
 generalize (parseO awakeT).2.2.2 = PA at g
 obtain ⟨k,f,t,w,q,za,ks,-,he,hv⟩ := node_ex awakeN
 rw [hv] at g g2
 unfold awakeT at g
 simp [ir7]
 refine CallK_of' g ?_
 simp
 refine CallK_of' (g2 _) ?_
 simp
 simp [RetK,cut_app hcl]
theorem typesOk (hG : TabsG 1 2 3 4 H0) (hN : NamesG 0 H0) (s : Bs) (hs : s.length ≤ 1048576) (H : Hp) (hH : Pre0 H0 H) : ACall Tryz.prog 4 [.d (.str s)] H (fun r H' => r = .d (.bool true) ∧ H' = H) := by
 refine acall_fin Tryz.func4 cf4 (by simp [ir4]) fun hcl _ => ?_
 have g := typeOk hG s hs H hH
 have g0 := fun X => typeOk hG s hs (H ++ X) (hH.app X)
 have g1 := fun X => refTypeOk s hs (H ++ X)
 have haw := fun X => awakeOk hG hN (H ++ X) (hH.app X)
 have gs := fun X => sameTOk (typeO s).1 (typeO_size s) (H ++ X)
 generalize typeO s = O at g g0 g1 gs
 obtain ⟨n,e⟩ := O
 simp only at g g0 g1 gs
 obtain ⟨k,f,t,w,q,za,ks,-,he,hv⟩ := node_ex n
 rw [hv] at g g0 g1 gs
 simp [ir4]
 refine CallK_of' g ?_
 simp
 refine CallK_of' (g1 _) ?_
 simp
 refine CallK_of' (haw _) ?_
 simp
 refine CallK_of' (gs _) ?_
 simp
 simp [RetK,cut_app hcl]
end
end Go.Proofs.Zf
