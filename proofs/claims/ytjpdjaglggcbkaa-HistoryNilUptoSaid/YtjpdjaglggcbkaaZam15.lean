/-
  An abstract machine over the model, fifteenth part: AWp is sound; a function's contract out of AWp. No program in sight. No condition.
-/
import Derived.Test.YtjpdjaglggcbkaaZam14
import Derived.Tactics
namespace Go.Zam
open Go.RowKit (Below)

theorem awp_sound {P : Program} {κ0 : K} {nt n0 : Nat} {tok : List Nat} (hd0 : ∀ i, n0 ≤ i → κ0.β i = .none) : ∀ (code : Code) (Q : Ex → Fr → Hp → Prop) (κ : K) (fr : Fr) (H : Hp) (a : Act) (w : World), κ0.le κ → SR κ nt fr H a w →
    AWp P n0 (compC P nt tok code) Q fr H → code.wp P (Post κ0 nt Q) a w := by
  intro code
  induction code with
  | skip => intro Q κ fr H a w h0 hs h; exact wp_skip ⟨κ, fr, H, .normal, trivial, h0, hs, h⟩
  | region id ops draw =>
    intro Q κ fr H a w h0 hs h
    have hK : ∀ κ fr H a w, κ0.le κ → SR κ nt fr H a w → Q .normal fr H → Post κ0 nt Q .normal a w := fun κ fr H a w h0 hs h => ⟨κ, fr, H, .normal, trivial, h0, hs, h⟩
    cases draw with
    | false =>
      simp only [compC, AWp] at h
      exact wp_region_list (ops_sound hK _ κ fr H a w h0 hs h)
    | true =>
      simp only [compC] at h
      split at h
      · rename_i hok
        simp only [Bool.and_eq_true] at hok
        simp only [AWp] at h
        exact wp_region_any hok.2 (draw_sound hK hok.1 (w := w.drew) h0 ⟨hs.size, hs.defers, hs.hr.drew, hs.vr⟩ h)
      · simp [AWp] at h
  | seq x y ihx ihy =>
    intro Q κ fr H a w h0 hs h
    simp only [compC, AWp] at h
    refine wp_seq (wp_mono (ihx _ κ fr H a w h0 hs h) ?_)
    rintro e a' w' ⟨κ', fr', H', e', he, h0', hs', hq⟩
    cases e <;> cases e' <;> simp only [ExR] at he
    · exact ihy _ κ' fr' H' a' w' h0' hs' hq
    · exact ⟨κ', fr', H', .exit _, he, h0', hs', hq⟩
    · exact ⟨κ', fr', H', .ret, trivial, h0', hs', hq⟩
  | cond c x y ihx ihy =>
    intro Q κ fr H a w h0 hs h
    simp only [compC] at h
    split at h
    · rename_i c' hc
      simp only [AWp, ABr] at h
      split at h
      · rename_i t e
        have hv := cArg_sound hc hs
        rw [e] at hv
        refine wp_cond hv.bool_inv ?_
        cases t with
        | true => simp only [if_true] at h ⊢; exact ihx Q κ fr H a w h0 hs h
        | false => simp only [Bool.false_eq_true, if_false] at h ⊢; exact ihy Q κ fr H a w h0 hs h
      · exact h.elim
    · exact h.elim
  | block id c ih =>
    intro Q κ fr H a w h0 hs h
    simp only [compC, AWp] at h
    refine wp_block (wp_mono (ih _ κ fr H a w h0 hs h) ?_)
    rintro e a' w' ⟨κ', fr', H', e', he, h0', hs', hq⟩
    cases e <;> cases e' <;> simp only [ExR] at he
    · exact ⟨κ', fr', H', .normal, trivial, h0', hs', hq⟩
    · rename_i i j
      subst he
      simp only [Ex.blk] at hq
      simp only [Exit.inBlock]
      split at hq
      · rename_i e; rw [if_pos e]; exact ⟨κ', fr', H', .normal, trivial, h0', hs', hq⟩
      · rename_i e; rw [if_neg e]; exact ⟨κ', fr', H', .exit _, rfl, h0', hs', hq⟩
    · exact ⟨κ', fr', H', .ret, trivial, h0', hs', hq⟩
  | loop c ih =>
    intro Q κ fr H a w h0 hs h
    simp only [compC, AWp] at h
    obtain ⟨m, J, μ, hm1, hm2, hJ, hround⟩ := h
    have hcut : ∀ k, m ≤ k → ∀ κ : K, κ0.le κ → κ0.le (κ.cut k) := fun k hk κ h => K.le_cut h fun i hi => hd0 i (by omega)
    refine wp_loop_ghost (fun n a w => ∃ κ fr H, κ0.le κ ∧ SR κ nt fr H a w ∧ J fr H ∧ μ fr H = n) _ ⟨κ.cut m, _, _, hcut m (Nat.le_refl _) κ h0, hs.cut m hm2, hJ, rfl⟩ ?_
    rintro n a w ⟨κ, fr, H, h0, hs, hJ, rfl⟩
    refine wp_mono (ih _ κ fr H a w h0 hs (hround fr H hJ)) ?_
    rintro e a' w' ⟨κ', fr', H', e', he, h0', hs', hq⟩
    cases e <;> cases e' <;> simp only [ExR] at he
    · obtain ⟨k, hk, q1, q2, q3⟩ := hq
      exact ⟨_, q3, κ'.cut k, _, _, hcut k hk κ' h0', hs'.cut k q1, q2, rfl⟩
    · exact ⟨κ', fr', H', .exit _, he, h0', hs', hq⟩
    · exact ⟨κ', fr', H', .ret, trivial, h0', hs', hq⟩
  | exit id => intro Q κ fr H a w h0 hs h; exact wp_exit ⟨κ, fr, H, .exit id, rfl, h0, hs, h⟩
  | ret => intro Q κ fr H a w h0 hs h; exact wp_ret ⟨κ, fr, H, .ret, trivial, h0, hs, h⟩
  | _ => intro Q κ fr H a w h0 hs h; exact h.elim

inductive Res where
  | t (s : Nat)
  | cell (s n : Nat) (agg : Bool)

structure IFn where
  nt : Nat
  res : List Res
  body : C

def compRes (P : Program) : ResultVar → Option Res
  | .tmp t => some (.t t)
  | .cell a t => match P.underlying t, P.info? t with
    | some d, some i => if isAggD d then some (.cell a i.size true) else some (.cell a 1 false)
    | _, _ => none

def compF (P : Program) (tok : List Nat) (fn : Func) : Option IFn :=
  match fn.body, fn.results.toList.mapM (compRes P) with
  | some c, some rs => some { nt := fn.ntmps, res := rs, body := compC P fn.ntmps tok c }
  | _, _ => none

def resA1 (fr : Fr) (H : Hp) : Res → Option A
  | .t s => some (fr s)
  | .cell s n agg => (ldA H n (fr s)).map fun cs => if agg then .agg cs else cs.headD .undef

def resA (fr : Fr) (H : Hp) (rs : List Res) : Option A :=
  (rs.mapM (resA1 fr H)).map fun
    | [x] => x
    | xs => .tup xs

def Fr.init (args : List A) : Fr := fun s => (args[s]?).getD (.tup [])

def Ret (res : List Res) (n0 : Nat) (K : A → Hp → Prop) : Ex → Fr → Hp → Prop
  | .exit _, _, _ => False
  | _, fr, H => ∃ x m, resA fr H res = some x ∧ n0 ≤ m ∧ m ≤ H.length ∧ K (x.clr m) (Hp.cut m H)

def resSem (tmps : Array Value) : ResultVar → Sem Value
  | .tmp t => pure (tmps.getD t undef)
  | .cell b t => do loadVar t (← asAddr (tmps.getD b undef))

theorem run_results {P : Program} {κ : K} {nt : Nat} {fr : Fr} {H : Hp} {a : Act} {w : World} (hs : SR κ nt fr H a w) : ∀ (l : List ResultVar) (rs : List Res) (xs : List A), l.mapM (compRes P) = some rs → rs.mapM (resA1 fr H) = some xs →
    ∃ vs : List Value, (l.mapM (resSem a.tmps)).run P w = .ok vs w ∧ vs.length = xs.length ∧ ∀ (i : Nat) (v : Value) (x : A), vs[i]? = some v → xs[i]? = some x → VR κ v x := by
  intro l
  induction l with
  | nil => intro rs xs h h'; simp at h; subst h; simp at h'; subst h'; exact ⟨[], by simp, rfl, by simp⟩
  | cons r l ih =>
    intro rs xs h h'
    simp only [List.mapM_cons, Option.bind_eq_bind, Option.bind_eq_some_iff, Option.pure_def, Option.some.injEq] at h
    obtain ⟨r', hr', rs', hrs', rfl⟩ := h
    simp only [List.mapM_cons, Option.bind_eq_bind, Option.bind_eq_some_iff, Option.pure_def, Option.some.injEq] at h'
    obtain ⟨x, hx, xs', hxs', rfl⟩ := h'
    obtain ⟨vs, h1, h2, h3⟩ := ih rs' xs' hrs' hxs'
    have one : ∃ v, (resSem a.tmps r).run P w = .ok v w ∧ VR κ v x := by
      cases r with
      | tmp t =>
        simp only [compRes, Option.some.injEq] at hr'
        subst hr'
        simp only [resA1, Option.some.injEq] at hx
        subst hx
        exact ⟨_, rfl, hs.vr t⟩
      | cell b t =>
        simp only [compRes] at hr'
        split at hr'
        · rename_i d i hd hi
          cases hagg : isAggD d with
          | true =>
            rw [hagg] at hr'
            simp only [if_true, Option.some.injEq] at hr'
            subst hr'
            simp only [resA1, Option.map_eq_some_iff, if_true] at hx
            obtain ⟨cs, hcs, rfl⟩ := hx
            obtain ⟨ad, us, e1, e2, e3, e4, e5⟩ := ld_sound hs.hr hcs (hs.vr b)
            refine ⟨.agg us.toArray, ?_, .agg us cs (by omega) e5⟩
            simp only [resSem, e1]
            have hld := run_loadCells_list (P := P) w ad us e4
            rw [e2] at hld
            simp [asAddr, loadVar, run_isAgg hd, hagg, sizeOf, typeInfo, hi, hld]
          | false =>
            rw [hagg] at hr'
            simp only [Bool.false_eq_true, if_false, Option.some.injEq] at hr'
            subst hr'
            simp only [resA1, Option.map_eq_some_iff, Bool.false_eq_true, if_false] at hx
            obtain ⟨cs, hcs, rfl⟩ := hx
            obtain ⟨ad, us, e1, e2, e3, e4, e5⟩ := ld_sound hs.hr hcs (hs.vr b)
            match us, e2, cs, e3 with
            | [u], _, [c], _ =>
              refine ⟨u, ?_, e5 0 u c rfl rfl⟩
              simp only [resSem, e1]
              have h40 := e4 0 u rfl
              have hadd : ad.add 0 = ad := by simp [Addr.add]
              rw [hadd] at h40
              simp [asAddr, loadVar, run_isAgg hd, hagg, h40]
        · cases hr'
    obtain ⟨v, hv1, hv2⟩ := one
    refine ⟨v :: vs, ?_, by simp [h2], fun i u y hu hy => ?_⟩
    · simp only [List.mapM_cons, Sem.run_bind, hv1, Result.andThen_ok, h1, Sem.run_pure]
    · cases i with
      | zero => simp at hu hy; subst hu; subst hy; exact hv2
      | succ i => exact h3 i u y (by simpa using hu) (by simpa using hy)

theorem acall_of {P : Program} {f : FuncId} {fn : Func} {tok : List Nat} {ifn : IFn} {args : List A} {H : Hp} {K : A → Hp → Prop} (hf : P.funcs[f]? = some fn) (hc : compF P tok fn = some ifn) (hn : args.length ≤ ifn.nt)
    (h : H.Closed → (∀ a ∈ args, a.flat0 = true → a.lo H.length = true) → AWp P H.length ifn.body (Ret ifn.res H.length K) (Fr.init args) H) : ACall P f args H K := by
  intro κ w vs hr hl hv
  unfold compF at hc
  split at hc
  · rename_i c rs hb hrs
    cases hc
    refine calls_of_wp hf hb ?_
    have hvs : ∀ i v, vs[i]? = some v → ∃ a, args[i]? = some a ∧ VR κ v a := fun i v hi => by
      have : i < args.length := by rw [← hl]; exact (List.getElem?_eq_some_iff.1 hi).1
      exact ⟨args[i], List.getElem?_eq_getElem this, hv i v _ hi (List.getElem?_eq_getElem this)⟩
    have hlo : ∀ a ∈ args, a.flat0 = true → a.lo H.length = true := fun a ha hf => by
      obtain ⟨i, hi, rfl⟩ := List.getElem_of_mem ha
      exact (hv i (vs[i]'(by omega)) _ (List.getElem?_eq_getElem _) (List.getElem?_eq_getElem hi)).lo_of hr.dom hf
    have hs : SR κ fn.ntmps (Fr.init args) H { tmps := vs.toArray ++ Array.replicate (fn.ntmps - vs.toArray.size) undef, defers := [] } w := by
      refine ⟨by simp only [Array.size_append, List.size_toArray, Array.size_replicate]; simp only at hn; omega, rfl, hr, fun s => ?_⟩
      simp only [Fr.init]
      by_cases hlt : s < args.length
      · have hlt' : s < vs.length := by omega
        rw [Array.getD_eq_getD_getElem?, Array.getElem?_append_left (by simpa using hlt')]
        simp only [List.getElem?_toArray, List.getElem?_eq_getElem hlt', List.getElem?_eq_getElem hlt, Option.getD_some]
        exact hv s _ _ (List.getElem?_eq_getElem hlt') (List.getElem?_eq_getElem hlt)
      · rw [List.getElem?_eq_none (by omega), Array.getD_eq_getD_getElem?, Array.getElem?_append_right (by simpa using (by omega : vs.length ≤ s))]
        have : ((Array.replicate (fn.ntmps - vs.toArray.size) undef)[s - vs.toArray.size]?).getD undef = undef := by
          by_cases h2 : s - vs.toArray.size < fn.ntmps - vs.toArray.size
          · rw [Array.getElem?_replicate, if_pos h2]; rfl
          · rw [Array.getElem?_replicate, if_neg h2]; rfl
        rw [this]
        exact .tup [] [] rfl (by simp)
    refine wp_mono (awp_sound hr.dom c _ κ _ H _ w (Zam.K.le_refl κ) hs (h hr.closed hlo)) ?_
    rintro e a' w' ⟨κ', fr', H', e', he, h0', hs', hq⟩
    have fin : (∃ x m, resA fr' H' rs = some x ∧ H.length ≤ m ∧ m ≤ H'.length ∧ K (x.clr m) (Hp.cut m H')) → a'.defers = [] ∧ ∃ v, (results fn a'.tmps).run P w' = .ok v w' ∧
        ∃ v1 κ1 x1 H1, Ending.returned v = .returned v1 ∧ κ.le κ1 ∧ HR κ1 H1 w' ∧ VR κ1 v1 x1 ∧ K x1 H1 := by
      rintro ⟨x, m, hx, hm1, hm2, hk⟩
      refine ⟨hs'.defers, ?_⟩
      simp only [resA, Option.map_eq_some_iff] at hx
      obtain ⟨xs, hxs, hx⟩ := hx
      obtain ⟨us, h1, h2, h3⟩ := run_results hs' _ _ _ hrs hxs
      have hrun : (fn.results.mapM (resSem a'.tmps)).run P w' = .ok us.toArray w' := by
        rw [Array.mapM_eq_mapM_toList]
        simp only [Sem.run_map, h1, Result.andThen_ok]
      have hres : (results fn a'.tmps).run P w' = .ok (if h : us.toArray.size = 1 then us.toArray[0] else .tuple us.toArray) w' := by
        have e0 : results fn a'.tmps = (do let vs ← fn.results.mapM (resSem a'.tmps); pure (if h : vs.size = 1 then vs[0] else .tuple vs)) := rfl
        rw [e0]
        simp only [Sem.run_bind]
        rw [hrun]
        rfl
      refine ⟨_, hres, _, κ'.cut m, x.clr m, Hp.cut m H', rfl, Zam.K.le_cut h0' fun i hi => hr.dom i (by omega), hs'.hr.cut m hm2, ?_, hk⟩
      refine VR.clr m ?_
      clear hxs h1 hrun hres
      match xs, us, h2, hx, h3 with
      | [y], [u], _, hx, h3 => subst hx; exact h3 0 u y rfl rfl
      | [], [], _, hx, _ => subst hx; exact .tup [] [] rfl (by simp)
      | y1 :: y2 :: ys, u1 :: u2 :: us', hl2, hx, h3 =>
        subst hx
        rw [dif_neg (by simp)]
        exact .tup _ _ hl2 h3
    cases e <;> cases e' <;> simp only [ExR] at he
    · exact fin hq
    · exact hq.elim
    · exact fin hq
  · cases hc

end Go.Zam
