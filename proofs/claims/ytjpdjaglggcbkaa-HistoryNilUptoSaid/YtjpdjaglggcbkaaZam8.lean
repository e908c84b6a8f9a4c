/-
  An abstract machine over the model, eighth part: slices, struct values, rows made, append. No program in sight. No condition.
-/
import Derived.Test.YtjpdjaglggcbkaaZam7
namespace Go.Zam
open Go.RowKit (Below)

section
variable {P : Program} {κ : K} {nt : Nat} {fr : Fr} {H H' : Hp} {a : Act} {w : World} {x : A} {tok : List Nat}

theorem run_sliceBound (k : IntKind) (i : Nat) (y : Nat) (c : BoundsCode) (h : i ≤ y) : (Instr.sliceBound (.int k i) y c).run P w = .ok i w := by
  have h1 : (i : Int) ≤ (y : Int) := by omega
  have h2 : (0 : Int) ≤ (i : Int) := by omega
  simp only [Instr.sliceBound, asIntOf, Sem.run_bind, Sem.run_pure, Result.andThen_ok, h1, h2, and_self, if_true, Int.toNat_natCast]

theorem run_bounds (isSl : Bool) (len cap : Nat) (lo hi mx : Option Value) (l h m : Nat) (hlo : (lo = none ∧ l = 0) ∨ ∃ k, lo = some (.int k l)) (hhi : (hi = none ∧ h = len ∧ mx = none) ∨ ∃ k, hi = some (.int k h))
    (hmx : (mx = none ∧ m = cap) ∨ ∃ k, mx = some (.int k m)) (h1 : l ≤ h) (h2 : h ≤ m) (h3 : m ≤ cap) : (Instr.sliceBounds isSl len cap lo hi mx).run P w = .ok (l, h, m) w := by
  unfold Instr.sliceBounds
  rcases hmx with ⟨rfl, rfl⟩ | ⟨km, rfl⟩
  · rcases hhi with ⟨rfl, rfl, -⟩ | ⟨kh, rfl⟩
    · rcases hlo with ⟨rfl, rfl⟩ | ⟨kl, rfl⟩
      · simp
      · simp [run_sliceBound, h1]
    · rcases hlo with ⟨rfl, rfl⟩ | ⟨kl, rfl⟩
      · simp [run_sliceBound, h2]
      · simp [run_sliceBound, h1, h2]
  · rcases hhi with ⟨rfl, rfl, hh⟩ | ⟨kh, rfl⟩
    · cases hh
    · rcases hlo with ⟨rfl, rfl⟩ | ⟨kl, rfl⟩
      · simp [run_sliceBound, h2, h3]
      · simp [run_sliceBound, h1, h2, h3]

theorem opt_val (hs : SR κ nt fr H a w) {lo : Option Operand} {lo' : Option Arg} (h : optArg P lo = some lo') {d : Nat} {n : Int} (hb : boundOf fr d lo' = some n) :
    (lo = none ∧ lo' = none ∧ n = d) ∨ ∃ y k, lo = some y ∧ lo'.isSome = true ∧ a.eval y = .int k n := by
  unfold optArg at h
  split at h
  · cases h; simp only [boundOf, Option.some.injEq] at hb; exact .inl ⟨rfl, rfl, hb.symm⟩
  · rename_i y
    simp only [Option.map_eq_some_iff] at h
    obtain ⟨y', hy, rfl⟩ := h
    have hv := cArg_sound hy hs
    simp only [boundOf] at hb
    split at hb
    · rename_i k n' e
      cases hb
      rw [e] at hv
      exact .inr ⟨y, k, rfl, rfl, hv.int_inv⟩
    · cases hb

theorem subL_some {α : Type} {l r : List α} {lo hi : Int} (h : subL l lo hi = some r) : 0 ≤ lo ∧ lo ≤ hi ∧ hi ≤ l.length ∧ r = (l.drop lo.toNat).take (hi.toNat - lo.toNat) := by
  unfold subL at h
  split at h
  · rename_i hc; cases h; exact ⟨hc.1, hc.2.1, hc.2.2, rfl⟩
  · cases h

theorem lo_case {lo : Option Operand} {l : Int} {n : Nat} {b : Bool} (h0 : 0 ≤ l) (h : (lo = none ∧ b = false ∧ l = n) ∨ ∃ y k, lo = some y ∧ b = true ∧ a.eval y = .int k l) :
    (lo.map a.eval = none ∧ l.toNat = n ∧ b = false) ∨ ∃ k, lo.map a.eval = some (.int k l.toNat) := by
  rcases h with ⟨rfl, h1, rfl⟩ | ⟨y, k, rfl, h1, h2⟩
  · exact .inl ⟨rfl, by simp, h1⟩
  · exact .inr ⟨k, by rw [Int.toNat_of_nonneg h0, ← h2]; rfl⟩

theorem opt_val' (hs : SR κ nt fr H a w) {lo : Option Operand} {lo' : Option Arg} (h : optArg P lo = some lo') {d : Nat} {n : Int} (hb : boundOf fr d lo' = some n) :
    (lo = none ∧ lo'.isSome = false ∧ n = d) ∨ ∃ y k, lo = some y ∧ lo'.isSome = true ∧ a.eval y = .int k n := by
  rcases opt_val hs h hb with ⟨h1, rfl, h3⟩ | h
  · exact .inl ⟨h1, rfl, h3⟩
  · exact .inr h

theorem does_sslice {t : TypeId} {y : Operand} {lo hi : Option Operand} {y' : Arg} {lo' hi' : Option Arg} (hs : SR κ nt fr H a w) (ht : P.underlying t = some .string) (hy : cArg P t y = some y') (hl : optArg P lo = some lo') (hh : optArg P hi = some hi')
    (h : stepI fr H (.sslice y' lo' hi') = some (x, H')) :
    Does P (do pure (.value (← Instr.sliceAt t (a.eval y) (lo.map a.eval) (hi.map a.eval) none))) w κ H' x := by
  simp only [stepI] at h
  split at h
  · rename_i s e
    split at h
    · rename_i l r hl1 hh1
      simp only [Option.map_eq_some_iff] at h
      obtain ⟨q, hq, h⟩ := h
      simp only [Prod.mk.injEq] at h
      obtain ⟨rfl, rfl⟩ := h
      obtain ⟨h0, h1, h2, rfl⟩ := subL_some hq
      have hv := cArg_sound hy hs
      rw [e] at hv
      obtain ⟨u, e1, rfl⟩ := hv.str_inv
      rw [← str_size] at h2
      have hb := run_bounds (P := P) (w := w) false u.size u.size (lo.map a.eval) (hi.map a.eval) none l.toNat r.toNat u.size
        (by rcases lo_case h0 (opt_val' hs hl hl1) with ⟨p1, p2, -⟩ | p; · exact .inl ⟨p1, p2⟩
            · exact .inr p)
        (by rcases lo_case (by omega) (opt_val' hs hh hh1) with ⟨p1, p2, -⟩ | p; · exact .inl ⟨p1, by rw [p2, ← str_size], rfl⟩
            · exact .inr p)
        (.inl ⟨rfl, rfl⟩) (by omega) (by omega) (Nat.le_refl _)
      refine .same (u := .string (u.extract l.toNat r.toNat)) (run_val _ _ _ ?_) hs.hr (.str' _ (Lib.extract_data _ _ _))
      rw [e1]
      simp [Instr.sliceAt, run_underlying ht, Instr.slice, hb]
    · cases h
  · cases h

theorem does_slice {t e : TypeId} {ti : TypeInfo} {y : Operand} {lo hi mx : Option Operand} {y' : Arg} {lo' hi' mx' : Option Arg} (hs : SR κ nt fr H a w) (ht : P.underlying t = some (.slice e)) (hti : P.info? e = some ti) (hy : cArg P t y = some y')
    (hl : optArg P lo = some lo') (hh : optArg P hi = some hi') (hm : optArg P mx = some mx')
    (h : stepI fr H (.slice ti.size y' lo' hi' mx') = some (x, H')) :
    Does P (do pure (.value (← Instr.sliceAt t (a.eval y) (lo.map a.eval) (hi.map a.eval) (mx.map a.eval)))) w κ H' x := by
  have hv := cArg_sound hy hs
  -- the heart: a row that is never written
  have core : ∀ (z : Bool) (s : Nat) (rows : List (List D)) (l r : Int) (m : Option Int), DR κ.σ (a.eval y) (.sl z s rows) → boundOf fr 0 lo' = some l → boundOf fr rows.length hi' = some r →
      ((mx' = none ∧ m = none) ∨ ∃ q m0, mx' = some q ∧ boundOf fr 0 (some q) = some m0 ∧ m = some m0 ∧ hi'.isSome = true) →
      (if s = ti.size ∧ (∀ q, m = some q → r ≤ q ∧ q ≤ rows.length) then (subL rows l r).map fun rr => A.d (.sl (z && rows.isEmpty) s rr) else none) = some x →
      Does P (do pure (.value (← Instr.sliceAt t (a.eval y) (lo.map a.eval) (hi.map a.eval) (mx.map a.eval)))) w κ H x := by
    intro z s rows l r m hd hl1 hh1 hmm hx
    split at hx
    · rename_i hc
      obtain ⟨rfl, hcm⟩ := hc
      simp only [Option.map_eq_some_iff] at hx
      obtain ⟨rr, hrr, rfl⟩ := hx
      obtain ⟨h0, h1, h2, rfl⟩ := subL_some hrr
      have fin : ∀ (ad : Option Addr) (cap : Nat), a.eval y = .slice ad rows.length cap → rows.length ≤ cap →
          (∀ m' : Nat, r.toNat ≤ m' → m' ≤ cap → ∃ u, u = Value.slice (if m' = l.toNat then ad else ad.map (·.add (l.toNat * ti.size))) (r.toNat - l.toNat) (m' - l.toNat) ∧ VR κ u (.d (.sl (z && rows.isEmpty) ti.size ((rows.drop l.toNat).take (r.toNat - l.toNat))))) →
          Does P (do pure (.value (← Instr.sliceAt t (a.eval y) (lo.map a.eval) (hi.map a.eval) (mx.map a.eval)))) w κ H (.d (.sl (z && rows.isEmpty) ti.size ((rows.drop l.toNat).take (r.toNat - l.toNat)))) := by
        intro ad cap e1 hcap hval
        have go : ∀ m' : Nat, r.toNat ≤ m' → m' ≤ cap → ((mx.map a.eval = none ∧ m' = cap) ∨ ∃ k, mx.map a.eval = some (.int k m')) → (hi'.isSome = true ∨ mx.map a.eval = none) →
            Does P (do pure (.value (← Instr.sliceAt t (a.eval y) (lo.map a.eval) (hi.map a.eval) (mx.map a.eval)))) w κ H (.d (.sl (z && rows.isEmpty) ti.size ((rows.drop l.toNat).take (r.toNat - l.toNat)))) := by
          intro m' hm1 hm2 hm3 hm4
          obtain ⟨u, hu, hvr⟩ := hval m' hm1 hm2
          have hb := run_bounds (P := P) (w := w) true rows.length cap (lo.map a.eval) (hi.map a.eval) (mx.map a.eval) l.toNat r.toNat m'
            (by rcases lo_case h0 (opt_val' hs hl hl1) with ⟨p1, p2, -⟩ | p; · exact .inl ⟨p1, p2⟩
                · exact .inr p)
            (by rcases lo_case (by omega) (opt_val' hs hh hh1) with ⟨p1, p2, p3⟩ | p
                · exact .inl ⟨p1, p2, hm4.resolve_left (by simp [p3])⟩
                · exact .inr p)
            hm3 (by omega) hm1 hm2
          refine .same (u := u) (run_val _ _ _ ?_) hs.hr hvr
          rw [e1, hu]
          simp [Instr.sliceAt, run_underlying ht, Instr.slice, hb, sizeOf, typeInfo, hti]
        rcases hmm with ⟨hm1, -⟩ | ⟨q, m0, hm1, hm2, hm3, hm4⟩
        · have : mx = none := by
            subst hm1
            unfold optArg at hm
            split at hm
            · rfl
            · simp at hm
          subst this
          exact go cap (by omega) (Nat.le_refl _) (.inl ⟨rfl, rfl⟩) (.inr rfl)
        · have hq := hcm m0 hm3
          subst hm1
          rcases opt_val hs hm hm2 with ⟨-, hh0, -⟩ | ⟨y2, k2, rfl, -, he⟩
          · cases hh0
          · refine go m0.toNat (by omega) (by omega) (.inr ⟨k2, ?_⟩) (.inl hm4)
            show some (a.eval y2) = _
            rw [he, Int.toNat_of_nonneg (by omega)]
      rcases hd.sl_inv with ⟨e1, rfl, rfl⟩ | ⟨ad, cap, e1, rfl, rfl⟩ | ⟨b, o, cap, f, e1, hz, hcap, hrow, hcc, hdd⟩
      · refine fin none 0 e1 (Nat.zero_le _) fun m' hm1 hm2 => ⟨_, rfl, ?_⟩
        have e0 : r.toNat = 0 := by simp at h2; omega
        have e2 : l.toNat = 0 := by omega
        have e3 : m' = 0 := by omega
        simp only [e0, e2, e3, List.drop_nil, List.take_nil, List.isEmpty_nil, Bool.and_true, Nat.sub_self, if_true]
        exact .d (.nilsl _)
      · refine fin (some ad) cap e1 (Nat.zero_le _) fun m' hm1 hm2 => ⟨_, rfl, ?_⟩
        have e0 : r.toNat = 0 := by simp at h2; omega
        have e2 : l.toNat = 0 := by omega
        simp only [e0, e2, List.drop_nil, List.take_nil, Bool.false_and, Nat.sub_self]
        split <;> exact .d (.emp _ _ _)
      · refine fin (some ⟨b, o, none⟩) cap e1 hcap fun m' hm1 hm2 => ⟨_, rfl, ?_⟩
        have hlen : ((rows.drop l.toNat).take (r.toNat - l.toNat)).length = r.toNat - l.toNat := by simp; omega
        have hgz : (z && rows.isEmpty) = false := by
          cases z with
          | false => rfl
          | true => have := hz rfl; simp [this]
        rw [hgz]
        have hidx : ∀ (i : Nat) (r0 : List D), ((rows.drop l.toNat).take (r.toNat - l.toNat))[i]? = some r0 → rows[l.toNat + i]? = some r0 := fun i r0 hi => by
          rw [List.getElem?_take] at hi
          split at hi
          · rwa [List.getElem?_drop] at hi
          · cases hi
        have hg := DR.sl (σ := κ.σ) false ti.size ((rows.drop l.toNat).take (r.toNat - l.toNat)) b (if m' = l.toNat then o else o + l.toNat * ti.size) (m' - l.toNat) (fun i j => f (l.toNat + i) j) (by simp) (by omega)
          (fun i r0 hi => hrow _ r0 (hidx i r0 hi))
          (fun i j r0 x0 hi hx0 => by
            have := hcc _ j r0 x0 (hidx i r0 hi) hx0
            have hil : i < r.toNat - l.toNat := by rw [← hlen]; exact (List.getElem?_eq_some_iff.1 hi).1
            rw [if_neg (by omega)]
            rw [Nat.add_mul] at this
            rw [show o + l.toNat * ti.size + i * ti.size + j = o + (l.toNat * ti.size + i * ti.size) + j by omega]
            exact this)
          (fun i j r0 x0 hi hx0 => hdd _ j r0 x0 (hidx i r0 hi) hx0)
        rw [hlen] at hg
        have : (if m' = l.toNat then some (⟨b, o, none⟩ : Addr) else (some (⟨b, o, none⟩ : Addr)).map (·.add (l.toNat * ti.size))) = some ⟨b, if m' = l.toNat then o else o + l.toNat * ti.size, none⟩ := by
          split <;> simp [add_mk]
        rw [this]
        exact .d hg
    · cases hx
  simp only [stepI] at h
  split at h
  · rename_i n hn
    have both : ∀ (z : Bool) (s : Nat) (rows : List (List D)), DR κ.σ (a.eval y) (.sl z s rows) → n = rows.length →
        (∀ (l r : Int) (m : Option Int), sliceA ti.size l r m (y'.ev fr) = if s = ti.size ∧ (∀ q, m = some q → r ≤ q ∧ q ≤ rows.length) then (subL rows l r).map fun rr => A.d (.sl (z && rows.isEmpty) s rr) else none) →
        Does P (do pure (.value (← Instr.sliceAt t (a.eval y) (lo.map a.eval) (hi.map a.eval) (mx.map a.eval)))) w κ H' x := by
      intro z s rows hd hn0 hsl
      subst hn0
      split at h
      · rename_i l r hl1 hh1
        simp only [Option.map_eq_some_iff] at h
        obtain ⟨u, hu, h⟩ := h
        simp only [Prod.mk.injEq] at h
        obtain ⟨rfl, rfl⟩ := h
        rw [hsl] at hu
        exact core z s rows l r none hd hl1 hh1 (.inl ⟨rfl, rfl⟩) hu
      · rename_i l r m hl1 hh1
        split at h
        · rename_i m0 hm0
          split at h
          · rename_i hsome
            simp only [Option.map_eq_some_iff] at h
            obtain ⟨u, hu, h⟩ := h
            simp only [Prod.mk.injEq] at h
            obtain ⟨rfl, rfl⟩ := h
            rw [hsl] at hu
            exact core z s rows l r (some m0) hd hl1 hh1 (.inr ⟨m, m0, rfl, hm0, rfl, hsome⟩) hu
          · cases h
        · cases h
      · cases h
    cases hyv : y'.ev fr with
    | d d0 =>
      cases d0 with
      | sl z s rows =>
        rw [hyv] at hv hn
        exact both z s rows hv.d_inv (by simpa [lenA] using hn.symm) (fun l r m => by rw [hyv]; rfl)
      | _ =>
        exfalso
        rw [hyv] at h
        simp only [sliceA, Option.map_none] at h
        split at h
        · cases h
        · split at h
          · split at h <;> cases h
          · cases h
        · cases h
    | osl z s rows tk =>
      rw [hyv] at hv hn
      refine both z s rows ?_ (by simpa [lenA] using hn.symm) (fun l r m => by rw [hyv]; rfl)
      generalize a.eval y = v at hv
      cases hv with | osl hd _ => exact hd
    | _ =>
      exfalso
      rw [hyv] at h
      simp only [sliceA, Option.map_none] at h
      split at h
      · cases h
      · split at h
        · split at h <;> cases h
        · cases h
      · cases h
  · cases h

theorem does_ext {y : Operand} {y' : Arg} {n : Nat} (hs : SR κ nt fr H a w) (hy : cArg P 0 y = some y') (h : stepI fr H (.ext y' n) = some (x, H')) :
    Does P (do pure (.value (← Instr.extract (a.eval y) n))) w κ H' x := by
  simp only [stepI] at h
  split at h
  · rename_i vs e
    simp only [Option.map_eq_some_iff] at h
    obtain ⟨u, hu, h⟩ := h
    simp only [Prod.mk.injEq] at h
    obtain ⟨rfl, rfl⟩ := h
    have hv := cArg_sound hy hs
    rw [e] at hv
    generalize hev : a.eval y = v at hv
    cases hv with
    | tup us _ hl hp =>
      have hlt : n < us.length := by rw [hl]; exact (List.getElem?_eq_some_iff.1 hu).1
      refine .same (u := us[n]) (run_val _ _ _ ?_) hs.hr (hp n _ _ (List.getElem?_eq_getElem hlt) hu)
      simp [Instr.extract, hlt]
  · cases h

theorem list_mapM_cArg {ty : TypeId} (hs : SR κ nt fr H a w) : ∀ (l : List Operand) (ys : List Arg), l.mapM (cArg P ty) = some ys →
    l.length = ys.length ∧ ∀ (i : Nat) (v : Value) (b : A), (l.map a.eval)[i]? = some v → (ys.map (Arg.ev fr))[i]? = some b → VR κ v b := by
  intro l
  induction l with
  | nil => intro ys h; simp at h; subst h; simp
  | cons x r ih =>
    intro ys h
    simp only [List.mapM_cons, Option.bind_eq_bind, Option.bind_eq_some_iff, Option.pure_def, Option.some.injEq] at h
    obtain ⟨y, hy, ys', hys', rfl⟩ := h
    obtain ⟨h1, h2⟩ := ih ys' hys'
    refine ⟨by simp [h1], fun i v b hv hb => ?_⟩
    cases i with
    | zero => simp at hv hb; subst hv; subst hb; exact cArg_sound hy hs
    | succ i => simp at hv hb; exact h2 i v b (by simpa using hv) (by simpa using hb)

theorem does_mkfn {fn : Fn} {f1 f2 : Array Operand} {y1 y2 : List Arg} (hs : SR κ nt fr H a w) (h1 : f1.toList.mapM (cArg P 0) = some y1) (h2 : f2.toList.mapM (cArg P 0) = some y2) (h : stepI fr H (.mkfn fn y1 y2) = some (x, H')) :
    Does P (do pure (.value (← Instr.makeFunc fn (f1.map a.eval) (f2.map a.eval)))) w κ H' x := by
  simp only [stepI, Option.some.injEq, Prod.mk.injEq] at h
  obtain ⟨rfl, rfl⟩ := h
  obtain ⟨l1, p1⟩ := list_mapM_cArg hs _ _ h1
  obtain ⟨l2, p2⟩ := list_mapM_cArg hs _ _ h2
  refine .same (u := .func fn (f1.map a.eval) (f2.map a.eval)) (run_val _ _ _ rfl) hs.hr ?_
  have e1 : f1.map a.eval = (f1.toList.map a.eval).toArray := by rw [← List.map_toArray, Array.toArray_toList]
  have e2 : f2.map a.eval = (f2.toList.map a.eval).toArray := by rw [← List.map_toArray, Array.toArray_toList]
  rw [e1, e2]
  exact .fn fn _ _ _ _ (by rw [List.length_map, List.length_map]; exact l1) (by rw [List.length_map, List.length_map]; exact l2) p1 p2

end
end Go.Zam
