/-
  An abstract machine over the model, tenth part: rows that are made; append. No program in sight. No condition.
-/
import Derived.Test.YtdpaolhcoahomaaZam9
import Derived.Laws.MakeOwn
import Derived.Laws.StructEq
namespace Go.Zam
open Go.RowKit (Below)

section
variable {P : Program} {κ : K} {nt : Nat} {fr : Fr} {H H' : Hp} {a : Act} {w : World} {x : A} {tok : List Nat}

theorem sliceElem_spec {t e : TypeId} {ti : TypeInfo} (h1 : sliceElem P t = some (e, ti)) : P.underlying t = some (.slice e) ∧ P.info? e = some ti := by
  unfold sliceElem at h1
  split at h1
  · rename_i e' he
    simp only [Option.map_eq_some_iff, Prod.mk.injEq] at h1
    obtain ⟨i, hi, rfl, rfl⟩ := h1
    exact ⟨he, hi⟩
  · cases h1

theorem rowOf_some {sz : Nat} {b : A} {r : List D} (h : rowOf sz b = some r) : b.cells.length = sz ∧ b.cells.all A.flat = true ∧ r.length = sz ∧ ∀ (j : Nat) (c : A) (d : D), b.cells[j]? = some c → r[j]? = some d → c.toD = some d := by
  unfold rowOf at h
  split at h
  · rename_i hc
    have key : ∀ (l : List A) (r : List D), l.mapM A.toD = some r → r.length = l.length ∧ ∀ (j : Nat) (c : A) (d : D), l[j]? = some c → r[j]? = some d → c.toD = some d := by
      intro l
      induction l with
      | nil => intro r h; simp at h; subst h; simp
      | cons y l ih =>
        intro r h
        simp only [List.mapM_cons, Option.bind_eq_bind, Option.bind_eq_some_iff, Option.pure_def, Option.some.injEq] at h
        obtain ⟨d0, hd0, r', hr', rfl⟩ := h
        obtain ⟨i1, i2⟩ := ih r' hr'
        refine ⟨by simp [i1], fun j c d hc hd => ?_⟩
        cases j with
        | zero => simp at hc hd; subst hc; subst hd; exact hd0
        | succ j => exact i2 j c d (by simpa using hc) (by simpa using hd)
    obtain ⟨k1, k2⟩ := key _ _ h
    exact ⟨hc.1, hc.2, by rw [k1, hc.1], k2⟩
  · cases h

/-- filling a row with all its elements, in order -/
theorem fill_rows {sz : Nat} : ∀ (ps : List (Nat × Value)) (rows : List (List D)) (n : Nat) (cells : Array Value), ps.length = rows.length → cells.size = (n + rows.length) * sz →
    (∀ (i : Nat) (p : Nat × Value), ps[i]? = some p → p.1 = n + i) →
    (∀ (i : Nat) (p : Nat × Value) (r : List D), ps[i]? = some p → rows[i]? = some r → p.2.cells.size = sz ∧ r.length = sz ∧ ∀ (j : Nat) (u : Value) (d : D), p.2.cells.toList[j]? = some u → r[j]? = some d → DR κ.σ u d) →
    ∃ out : Array Value, Instr.fill (fun i => some (i * sz, sz)) cells ps = some out ∧ out.size = cells.size ∧ (∀ i, i < n * sz → out.toList[i]? = cells.toList[i]?) ∧
      ∀ (k j : Nat) (r : List D) (d : D), rows[k]? = some r → r[j]? = some d → ∃ u, out.toList[(n + k) * sz + j]? = some u ∧ DR κ.σ u d := by
  intro ps
  induction ps with
  | nil =>
    intro rows n cells hl _ _ _
    have : rows = [] := List.eq_nil_of_length_eq_zero (by simpa using hl.symm)
    subst this
    exact ⟨cells, rfl, rfl, fun _ _ => rfl, by simp⟩
  | cons p ps ih =>
    intro rows n cells hl hsz hnum hp
    cases rows with
    | nil => simp at hl
    | cons r rows =>
      obtain ⟨i, v⟩ := p
      have hi : i = n := by simpa using hnum 0 (i, v) rfl
      subst hi
      obtain ⟨c1, c2, c3⟩ := hp 0 (i, v) r rfl rfl
      simp only at c1 c3
      have hfit : i * sz + sz ≤ cells.size := by
        rw [hsz, List.length_cons, Nat.add_mul, Nat.add_mul]; omega
      have hfs := fill_step (i * sz) v cells
      have hsz2 : (v.cells.zipIdx.foldl (fun cs (p : Value × Nat) => cs.setIfInBounds (i * sz + p.2) p.1) cells).size = cells.size := by
        rw [← Array.length_toList, hfs, setL_length]; simp
      obtain ⟨out, h1, h2, h3, h4⟩ := ih rows (i + 1) _ (by simpa using hl) (by rw [hsz2, hsz, List.length_cons]; congr 1; omega)
        (fun k p hk => by have := hnum (k + 1) p (by simpa using hk); omega) (fun k p r hk hr => hp (k + 1) p r (by simpa using hk) (by simpa using hr))
      refine ⟨out, ?_, h2.trans hsz2, fun k hk => ?_, fun k j r' d hr' hd => ?_⟩
      · simp only [Instr.fill]
        rw [if_neg (by simp; omega)]
        exact h1
      · rw [h3 k (by rw [Nat.add_mul]; omega), hfs, setL_get _ _ _ _ (by simp; omega), if_neg (by omega)]
      · cases k with
        | zero =>
          simp at hr'
          subst hr'
          have hj : j < sz := by rw [← c2]; exact (List.getElem?_eq_some_iff.1 hd).1
          have hjv : j < v.cells.toList.length := by simpa [c1] using hj
          refine ⟨v.cells.toList[j], ?_, c3 j _ d (List.getElem?_eq_getElem hjv) hd⟩
          rw [Nat.add_zero, h3 _ (by rw [Nat.add_mul]; omega), hfs, setL_get _ _ _ _ (by simp; omega), if_pos (by simp; omega)]
          rw [show i * sz + j - i * sz = j by omega]
          exact List.getElem?_eq_getElem hjv
        | succ k =>
          have := h4 k j r' d (by simpa using hr') hd
          rwa [show i + 1 + k = i + (k + 1) by omega] at this

theorem partsInOrder_spec : ∀ (n : Nat) (l : List (Nat × Operand)), partsInOrder n l = true → ∀ (i : Nat) (p : Nat × Operand), l[i]? = some p → p.1 = n + i
  | _, [], _, i, p, h => by simp at h
  | n, (m, y) :: r, hp, i, p, h => by
    simp only [partsInOrder, Bool.and_eq_true, beq_iff_eq] at hp
    cases i with
    | zero => simp at h; subst h; simpa using hp.1
    | succ i => have := partsInOrder_spec (n + 1) r hp.2 i p (by simpa using h); omega

/-- what buildSlice makes -/
theorem bslice_made {t e : TypeId} {ti : TypeInfo} {n : Nat} {parts : Array (Nat × Operand)} {ps : List Arg} {rows : List (List D)} (hs : SR κ nt fr H a w) (h1 : sliceElem P t = some (e, ti)) (hp : partsInOrder 0 parts.toList = true) (hn : parts.size = n)
    (hlim : n * ti.size ≤ 2 ^ 24) (hz : (zeroOf P e).map (·.length) = some ti.size) (hpos : 0 < ti.size) (hps : parts.toList.mapM (fun (x : Nat × Operand) => cArg P e x.2) = some ps)
    (hr : ps.mapM (fun x => rowOf ti.size (x.ev fr)) = some rows) :
    rows.length = n ∧ (∀ (k : Nat) (r : List D), rows[k]? = some r → r.length = ti.size) ∧ ∃ c : Array Value, c.size = n * ti.size ∧ (Instr.buildSlice t n (parts.map fun (i, x) => (i, a.eval x))).run P w = .ok (.slice (some ⟨w.heap.size, 0, none⟩) n n) (w.alloc (.cells c e)) ∧
      ∀ (k j : Nat) (r : List D) (d : D), rows[k]? = some r → r[j]? = some d → ∃ u, c[k * ti.size + j]? = some u ∧ DR κ.σ u d := by
  obtain ⟨ht, hi⟩ := sliceElem_spec h1
  have keyA : ∀ (l : List (Nat × Operand)) (ps : List Arg) (rows : List (List D)), l.mapM (fun (x : Nat × Operand) => cArg P e x.2) = some ps → ps.mapM (fun x => rowOf ti.size (x.ev fr)) = some rows →
      l.length = rows.length ∧ (∀ (k : Nat) (r : List D), rows[k]? = some r → r.length = ti.size) ∧ ∀ (i : Nat) (p : Nat × Value) (r : List D), (l.map fun x => (x.1, a.eval x.2))[i]? = some p → rows[i]? = some r →
        p.2.cells.size = ti.size ∧ r.length = ti.size ∧ ∀ (j : Nat) (u : Value) (d : D), p.2.cells.toList[j]? = some u → r[j]? = some d → DR κ.σ u d := by
    intro l
    induction l with
    | nil => intro ps rows h h'; simp at h; subst h; simp at h'; subst h'; simp
    | cons y l ih =>
      intro ps rows h h'
      simp only [List.mapM_cons, Option.bind_eq_bind, Option.bind_eq_some_iff, Option.pure_def, Option.some.injEq] at h
      obtain ⟨y', hy', ps', hps', rfl⟩ := h
      simp only [List.mapM_cons, Option.bind_eq_bind, Option.bind_eq_some_iff, Option.pure_def, Option.some.injEq] at h'
      obtain ⟨r0, hr0, rows', hrows', rfl⟩ := h'
      obtain ⟨i1, i2, i3⟩ := ih ps' rows' hps' hrows'
      obtain ⟨q1, q2, q3, q4⟩ := rowOf_some hr0
      refine ⟨by simp [i1], fun k r hk => ?_, fun i p r hp hr => ?_⟩
      · cases k with
        | zero => simp at hk; subst hk; exact q3
        | succ k => exact i2 k r (by simpa using hk)
      · cases i with
        | zero =>
          simp at hp hr
          subst hp; subst hr
          have hv := cArg_sound hy' hs
          obtain ⟨s1, s2⟩ := A.cells_of hv q2
          refine ⟨by rw [← q1, ← s1]; simp, q3, fun j u d hu hd => ?_⟩
          have hj : j < (y'.ev fr).cells.length := by rw [q1, ← q3]; exact (List.getElem?_eq_some_iff.1 hd).1
          exact toD_sound (s2 j u _ hu (List.getElem?_eq_getElem hj)) (q4 j _ d (List.getElem?_eq_getElem hj) hd)
        | succ i => exact i3 i p r (by simpa using hp) (by simpa using hr)
  obtain ⟨k1, k2, k3⟩ := keyA _ _ _ hps hr
  have hlen : rows.length = n := by rw [← k1, ← hn]; simp
  obtain ⟨zl, hzl⟩ : ∃ zl, zeroOf P e = some zl := by cases hzz : zeroOf P e with
    | none => rw [hzz] at hz; cases hz
    | some zl => exact ⟨zl, rfl⟩
  obtain ⟨ti', zv, z1, z2, z3, -⟩ := zeroOf_spec hzl
  have : ti' = ti := by rw [hi] at z1; cases z1; rfl
  subst this
  have hzlen : zv.cells.size = ti'.size := by rw [z3]; rw [hzl] at hz; simpa using hz
  have hnum : ∀ (i : Nat) (p : Nat × Value), (parts.toList.map fun x => (x.1, a.eval x.2))[i]? = some p → p.1 = 0 + i := fun i p hpi => by
    simp only [List.getElem?_map, Option.map_eq_some_iff] at hpi
    obtain ⟨q, hq, rfl⟩ := hpi
    exact partsInOrder_spec 0 _ hp i q hq
  have hbuild : ∀ (zz : Array Value), ∃ c : Array Value, c.size = n * ti'.size ∧ Instr.fill (fun i => some (i * ti'.size, ti'.size)) ((Array.range (n * ti'.size)).map (zz[· % zz.size]!)) (parts.toList.map fun x => (x.1, a.eval x.2)) = some c ∧
      ∀ (k j : Nat) (r : List D) (d : D), rows[k]? = some r → r[j]? = some d → ∃ u, c[k * ti'.size + j]? = some u ∧ DR κ.σ u d := fun zz => by
    obtain ⟨out, f1, f2, f3, f4⟩ := fill_rows (κ := κ) (sz := ti'.size) (parts.toList.map fun x => (x.1, a.eval x.2)) rows 0 ((Array.range (n * ti'.size)).map (zz[· % zz.size]!)) (by simpa using k1) (by simp [hlen]) hnum k3
    refine ⟨out, by rw [f2]; simp, f1, fun k j r d hk hd => ?_⟩
    obtain ⟨u, hu, hdr⟩ := f4 k j r d hk hd
    exact ⟨u, by simpa using hu, hdr⟩
  refine ⟨hlen, k2, ?_⟩
  have e2 : (Array.map (fun (x : Nat × Operand) => match x with | (i, y) => (i, a.eval y)) parts).toList = parts.toList.map fun x => (x.1, a.eval x.2) := by simp
  by_cases hn0 : n * ti'.size = 0
  · obtain ⟨c, hcs, hcf, hcv⟩ := hbuild #[]
    refine ⟨c, hcs, ?_, hcv⟩
    simp only [Instr.buildSlice, Sem.run_bind, run_underlying ht, Result.andThen_ok, sizeOf, typeInfo, run_program, hi, Sem.run_pure]
    rw [if_neg (by omega), if_pos hn0]
    simp only [Sem.run_bind, Sem.run_pure, Result.andThen_ok]
    rw [e2, hcf]
    rfl
  · obtain ⟨c, hcs, hcf, hcv⟩ := hbuild zv.cells
    refine ⟨c, hcs, ?_, hcv⟩
    simp only [Instr.buildSlice, Sem.run_bind, run_underlying ht, Result.andThen_ok, sizeOf, typeInfo, run_program, hi, Sem.run_pure]
    rw [if_neg (by omega), if_neg hn0]
    simp only [zeroValue, typeInfo, Sem.run_bind, run_program, Result.andThen_ok, hi, Sem.run_pure, z2]
    rw [e2, hcf]
    rfl

theorem does_bslice {t e : TypeId} {ti : TypeInfo} {n : Nat} {parts : Array (Nat × Operand)} {ps : List Arg} (hs : SR κ nt fr H a w) (h1 : sliceElem P t = some (e, ti)) (hp : partsInOrder 0 parts.toList = true) (hn : parts.size = n)
    (hlim : n * ti.size ≤ 2 ^ 24) (hz : (zeroOf P e).map (·.length) = some ti.size) (hpos : 0 < ti.size) (hps : parts.toList.mapM (fun (x : Nat × Operand) => cArg P e x.2) = some ps)
    (h : stepI fr H (.bslice ti.size ps) = some (x, H')) :
    Does P (do pure (.value (← Instr.buildSlice t n (parts.map fun (i, x) => (i, a.eval x))))) w κ H' x := by
  simp only [stepI, Option.map_eq_some_iff] at h
  obtain ⟨rows, hr, h⟩ := h
  simp only [Prod.mk.injEq] at h
  obtain ⟨rfl, rfl⟩ := h
  obtain ⟨k1, k2, c, k3, k4, k5⟩ := bslice_made hs h1 hp hn hlim hz hpos hps hr
  subst k1
  obtain ⟨p1, p2⟩ := hs.hr.pushRow c (rows.length * ti.size) e
  refine ⟨_, _, _, .inl (run_val _ _ _ k4), p1, p2, .d ?_⟩
  have := DR.new (τ := addSt κ.σ w.heap.size c (rows.length * ti.size)) false rows w.heap.size ti.size rows.length c (by simp) (by omega) k2 (fun o ho => by simp [addSt, ho]) (fun k j r d hk hd => by
    obtain ⟨u, hu, hdr⟩ := k5 k j r d hk hd
    exact ⟨u, hu, hdr.mono p1.σ⟩)
  exact this

theorem does_bsliceT {t e : TypeId} {ti : TypeInfo} {n : Nat} {parts : Array (Nat × Operand)} {ps : List Arg} (hs : SR κ nt fr H a w) (h1 : sliceElem P t = some (e, ti)) (hp : partsInOrder 0 parts.toList = true) (hn : parts.size = n)
    (hlim : n * ti.size ≤ 2 ^ 24) (hz : (zeroOf P e).map (·.length) = some ti.size) (hpos : 0 < ti.size) (hps : parts.toList.mapM (fun (x : Nat × Operand) => cArg P e x.2) = some ps)
    (h : stepI fr H (.bsliceT ti.size e ps) = some (x, H')) :
    Does P (do pure (.value (← Instr.buildSlice t n (parts.map fun (i, x) => (i, a.eval x))))) w κ H' x := by
  simp only [stepI, Option.map_eq_some_iff] at h
  obtain ⟨rows, hr, h⟩ := h
  simp only [Prod.mk.injEq] at h
  obtain ⟨rfl, rfl⟩ := h
  obtain ⟨k1, k2, c, k3, k4, k5⟩ := bslice_made hs h1 hp hn hlim hz hpos hps hr
  subst k1
  -- the stable cells first, the token behind
  obtain ⟨p1, p2⟩ := hs.hr.pushRow c (rows.length * ti.size) e
  have hw : (w.alloc (.cells c e)).heap[w.heap.size]? = some (.cells c e) := by show (w.heap.push _)[w.heap.size]? = _; simp
  let κ1 : K := { κ with σ := addSt κ.σ w.heap.size c (rows.length * ti.size) }
  let κ2 : K := { κ1 with β := upd κ1.β H.length (.reg w.heap.size (rows.length * ti.size) (rows.length * ti.size) rows.length ti.size) }
  have hn' : κ1.β H.length = .none := p2.dom _ (Nat.le_refl _)
  have hle : κ1.le κ2 := K.le_upd hn' _
  have hbx : ∀ i b, (κ1.β i).block = some b → b < w.heap.size := fun i b hb => (hs.hr.ex i b hb).2
  refine ⟨_, _, κ2, .inl (run_val _ _ _ k4), K.le_trans p1 hle, ⟨p2.below, p2.st, fun i z hz => ?_, fun i hi => ?_, fun i b hb => ?_, fun i b o ho => ?_, fun i j b hi hj => ?_, fun i z hz => ?_⟩, .osl ?_ ?_⟩
  · by_cases hi : i < H.length
    · rw [List.getElem?_append_left hi] at hz
      exact (p2.ob i z hz).mono hle (upd_ne _ _ (by omega)) fun b _ => rfl
    · have : i = H.length := by
        have := (List.getElem?_eq_some_iff.1 hz).1
        simp at this; omega
      subst this
      simp at hz
      subst hz
      exact .inr ⟨w.heap.size, _, _, c, 0, 0, upd_same _ _ _, hw, by omega, .inl rfl⟩
  · have h1 : H.length + 1 ≤ i := by simpa using hi
    show upd κ1.β H.length _ i = _
    rw [upd_ne _ _ (by omega)]; exact p2.dom i (by omega)
  · by_cases hi : i = H.length
    · subst hi
      have : some w.heap.size = some b := by rw [← hb]; show _ = (upd κ1.β H.length _ H.length).block; rw [upd_same]; rfl
      cases this
      exact ⟨hs.hr.below.size, by simp⟩
    · have hb' : (κ1.β i).block = some b := by rw [← hb]; show _ = (upd κ1.β H.length _ i).block; rw [upd_ne _ _ hi]
      exact p2.ex i b hb'
  · by_cases hi : i = H.length
    · subst hi
      have ho' : (Bind.reg w.heap.size (rows.length * ti.size) (rows.length * ti.size) rows.length ti.size).owns b o := by
        have := ho
        change (upd κ1.β H.length _ H.length).owns b o at this
        rwa [upd_same] at this
      obtain ⟨rfl, ho2⟩ := ho'
      show addSt κ.σ w.heap.size c (rows.length * ti.size) w.heap.size o = none
      simp only [addSt, if_true]; rw [if_neg (by omega)]
    · have ho' : (κ1.β i).owns b o := by
        have := ho
        change (upd κ1.β H.length _ i).owns b o at this
        rwa [upd_ne _ _ hi] at this
      exact p2.exσ i b o ho'
  · have hnew : ∀ k, k ≠ H.length → (κ2.β k).block = some b → b < w.heap.size := fun k hk hb => by
      change (upd κ1.β H.length _ k).block = some b at hb
      rw [upd_ne _ _ hk] at hb
      exact hbx k b hb
    have hat : (κ2.β H.length).block = some w.heap.size := by show (upd κ1.β H.length _ H.length).block = _; rw [upd_same]; rfl
    by_cases h1 : i = H.length <;> by_cases h2 : j = H.length
    · omega
    · subst h1; rw [hat] at hi; cases hi; have := hnew j h2 hj; omega
    · subst h2; rw [hat] at hj; cases hj; have := hnew i h1 hi; omega
    · change (upd κ1.β H.length _ i).block = some b at hi
      change (upd κ1.β H.length _ j).block = some b at hj
      rw [upd_ne _ _ h1] at hi
      rw [upd_ne _ _ h2] at hj
      exact p2.exd i j b hi hj
  · by_cases hi : i < H.length
    · rw [List.getElem?_append_left hi] at hz; exact p2.fl i z hz
    · have : i = H.length := by
        have := (List.getElem?_eq_some_iff.1 hz).1
        simp at this; omega
      subst this
      simp at hz
      subst hz
      rfl
  · have := DR.new (τ := addSt κ.σ w.heap.size c (rows.length * ti.size)) false rows w.heap.size ti.size rows.length c (by simp) (by omega) k2 (fun o ho => by simp [addSt, ho]) (fun k j r d hk hd => by
      obtain ⟨u, hu, hdr⟩ := k5 k j r d hk hd
      exact ⟨u, hu, hdr.mono p1.σ⟩)
    exact this
  · show tokFit (upd κ1.β H.length _ H.length) _ _
    rw [upd_same]
    exact ⟨Nat.le_refl _, fun _ => ⟨0, rows.length, rfl, Nat.le_refl _, by simp, by simp, rfl⟩⟩

theorem does_bsliceM {t e : TypeId} {ti : TypeInfo} {n : Nat} {parts : Array (Nat × Operand)} {ps : List Arg} (hs : SR κ nt fr H a w) (h1 : sliceElem P t = some (e, ti)) (hp : partsInOrder 0 parts.toList = true) (hn : parts.size = n)
    (hlim : n * ti.size ≤ 2 ^ 24) (hz : (zeroOf P e).map (·.length) = some ti.size) (hpos : 0 < ti.size) (hps : parts.toList.mapM (fun (x : Nat × Operand) => cArg P e x.2) = some ps)
    (h : stepI fr H (.bsliceM ti.size ps) = some (x, H')) :
    Does P (do pure (.value (← Instr.buildSlice t n (parts.map fun (i, x) => (i, a.eval x))))) w κ H' x := by
  simp only [stepI, Option.map_eq_some_iff] at h
  obtain ⟨rows, hr, h⟩ := h
  simp only [Prod.mk.injEq] at h
  obtain ⟨rfl, rfl⟩ := h
  obtain ⟨k1, k2, c, k3, k4, k5⟩ := bslice_made hs h1 hp hn hlim hz hpos hps hr
  subst k1
  obtain ⟨κ', p1, p2, p3⟩ := hs.hr.pushArr c ti.size (rows.map (List.map .d)) e
    (fun k q hq => by
      simp only [List.getElem?_map, Option.map_eq_some_iff] at hq
      obtain ⟨q', h1, rfl⟩ := hq
      simpa using k2 k q' h1)
    (by simp [A.flat, List.all_eq_true])
    (fun k j q y hq hy => by
      simp only [List.getElem?_map, Option.map_eq_some_iff] at hq
      obtain ⟨q', h1, rfl⟩ := hq
      simp only [List.getElem?_map, Option.map_eq_some_iff] at hy
      obtain ⟨d, h2, rfl⟩ := hy
      obtain ⟨u', u1, u2⟩ := k5 k j q' d h1 h2
      exact ⟨u', u1, .d u2⟩) rows.length (by simp) (by simp)
  exact ⟨_, _, κ', .inl (run_val _ _ _ k4), p1, p2, by simpa using p3⟩

theorem does_mkSl {t e : TypeId} {ti : TypeInfo} {z : List D} {l c : Operand} {l' c' : Arg} (hs : SR κ nt fr H a w) (h1 : sliceElem P t = some (e, ti)) (hz : zeroOf P e = some z) (hzl : z.length = ti.size) (hpos : 0 < ti.size) (hby : 0 < ti.bytes)
    (hl : cArg P 0 l = some l') (hc : cArg P 0 c = some c') (h : stepI fr H (.mkSl ti.size ti.bytes z l' c') = some (x, H')) :
    Does P (do pure (.value (← Instr.makeSlice t (a.eval l) (a.eval c)))) w κ H' x := by
  obtain ⟨ht, hi⟩ := sliceElem_spec h1
  simp only [stepI] at h
  split at h
  · rename_i k n k' m e1 e2
    split at h
    · rename_i hcond
      obtain ⟨rfl, h0, hfit⟩ := hcond
      cases h
      have v1 := cArg_sound hl hs
      have v2 := cArg_sound hc hs
      rw [e1] at v1; rw [e2] at v2
      obtain ⟨ti', zv, z1, z2, z3, z4⟩ := zeroOf_spec hz
      have : ti' = ti := by rw [hi] at z1; cases z1; rfl
      subst this
      have hzs : zv.cells.size = ti'.size := by rw [z3, hzl]
      have hle : n ≤ n * (ti'.bytes : Int) := by
        obtain ⟨m, hm⟩ : ∃ m, ti'.bytes = m + 1 := ⟨ti'.bytes - 1, by omega⟩
        have := Int.mul_nonneg h0 (Int.natCast_nonneg m)
        rw [hm, Int.natCast_add, Int.mul_add]
        omega
      have hrun := run_make (P := P) w t e ti' zv ht hi z2 k k' n n h0 (Int.le_refl _) (by rw [Int.mul_comm]; omega) (by omega)
      obtain ⟨κ', p1, p2, p3⟩ := hs.hr.pushArr (madeCells zv.cells (n.toNat * ti'.size)) ti'.size (List.replicate n.toNat (z.map .d)) e
        (fun k q hq => by
          simp only [List.getElem?_replicate] at hq
          split at hq
          · cases hq; simpa using hzl
          · cases hq)
        (by simp [A.flat, List.all_eq_true])
        (fun k j q y hq hy => by
          simp only [List.getElem?_replicate] at hq
          split at hq
          · rename_i hk
            cases hq
            simp only [List.getElem?_map, Option.map_eq_some_iff] at hy
            obtain ⟨d, h2, rfl⟩ := hy
            have hj : j < ti'.size := by rw [← hzl]; exact (List.getElem?_eq_some_iff.1 h2).1
            have hlt : k * ti'.size + j < n.toNat * ti'.size := by
              have : (k + 1) * ti'.size ≤ n.toNat * ti'.size := Nat.mul_le_mul_right _ (by omega)
              rw [Nat.add_mul] at this; omega
            have hmod : (k * ti'.size + j) % zv.cells.size = j := by rw [hzs, Nat.mul_comm, Nat.mul_add_mod, Nat.mod_eq_of_lt hj]
            have hjc : zv.cells.toList[j]? = some (zv.cells[j]!) := by
              rw [Array.getElem?_toList]
              simp [hzs, hj]
            refine ⟨zv.cells[j]!, ?_, .d (z4 _ j _ d hjc h2)⟩
            simp only [madeCells, Array.getElem?_map]
            rw [Array.getElem?_range, if_pos hlt]
            simp only [Option.map_some, hmod]
          · cases hq) n.toNat (by simp) (by simp)
      refine ⟨_, _, κ', .inl (run_val _ _ _ ?_), p1, p2, by simpa using p3⟩
      rw [v1.int_inv, v2.int_inv]; exact hrun
    · cases h
  · cases h

/-! two structs -/

theorem eqD_sound {l a b : D} {r : Bool} {u v : Value} {σ : St} (h : eqD l a b = some r) (hu : DR σ u a) (hv : DR σ v b) {t : TypeId} (ht : primD P t = some l) (d : Nat) (w : World) : (Op.equalIn (d + 1) t u v).run P w = .ok r w := by
  have hs : ∀ s : ByteArray, s.toList = s.data.toList := fun s => by rw [ByteArray.toList_eq]
  unfold eqD at h
  split at h
  · cases h
    unfold primD at ht
    split at ht
    · rename_i e
      cases hu; cases hv
      exact run_equalIn_bool w d t _ _ e
    · cases ht
    · cases ht
    · cases ht
  · split at h
    · rename_i hk
      subst hk
      cases h
      unfold primD at ht
      split at ht
      · cases ht
      · rename_i e
        cases hu; cases hv
        exact run_equalIn_int w d t _ _ _ _ e
      · cases ht
      · cases ht
    · cases h
  · cases h
    unfold primD at ht
    split at ht
    · cases ht
    · cases ht
    · rename_i e
      cases hu; cases hv
      rw [run_equalIn_string w d t _ _ e, hs, hs]
      congr 1
      rw [Bool.eq_iff_iff]; simp
    · cases ht
  · cases h

theorem run_part_prim {t : TypeId} {l : D} (ht : primD P t = some l) {cs : Array Value} {off : Nat} {v : Value} (hv : cs[off]? = some v) (w : World) : (part t cs off).run P w = .ok v w := by
  unfold primD at ht
  split at ht
  · rename_i e; simp [part, isAgg, run_underlying e, hv]
  · rename_i e; simp [part, isAgg, run_underlying e, hv]
  · rename_i e; simp [part, isAgg, run_underlying e, hv]
  · cases ht

theorem eqFields_run {κ : K} (d : Nat) (w : World) (vs us : Array Value) : ∀ (fs : List Field) (k : Nat) (ls : List D) (as bs : List A) (b : Bool), flatFs P k fs = some ls → eqDs ls as bs = some b →
    (∀ (j : Nat) (a : A), as[j]? = some a → ∃ v, vs[k + j]? = some v ∧ VR κ v a) → (∀ (j : Nat) (a : A), bs[j]? = some a → ∃ v, us[k + j]? = some v ∧ VR κ v a) → (Op.eqFields (d + 1) vs us fs).run P w = .ok b w
  | [], k, ls, as, bs, b, hf, he, _, _ => by
    simp only [flatFs, Option.some.injEq] at hf
    subst hf
    unfold eqDs at he
    split at he
    · cases he; rfl
    · contradiction
    · cases he
  | f :: fs, k, ls, as, bs, b, hf, he, hv, hu => by
    simp only [flatFs] at hf
    split at hf
    · rename_i hc
      simp only [Bool.and_eq_true, beq_iff_eq, bne_iff_ne, ne_eq] at hc
      obtain ⟨hoff, hname⟩ := hc
      split at hf
      · rename_i l ls' h1 h2
        cases hf
        unfold eqDs at he
        split at he
        · contradiction
        · rename_i l0 ls0 a r a' s h3
          cases h3
          split at he
          · rename_i h t h4 h5
            cases he
            obtain ⟨v, v1, v2⟩ := hv 0 _ rfl
            obtain ⟨u, u1, u2⟩ := hu 0 _ rfl
            rw [Nat.add_zero] at v1 u1
            have ih := eqFields_run d w vs us fs (k + 1) ls' r s t h2 h5 (fun j a hj => by
              have := hv (j + 1) a (by simpa using hj)
              rwa [show k + (j + 1) = k + 1 + j by omega] at this) (fun j a hj => by
              have := hu (j + 1) a (by simpa using hj)
              rwa [show k + (j + 1) = k + 1 + j by omega] at this)
            simp only [Op.eqFields, hname, not_false_eq_true, ne_eq, if_true, Sem.run_bind]
            rw [hoff, run_part_prim h1 v1]
            simp only [Result.andThen_ok]
            rw [run_part_prim h1 u1]
            simp only [Result.andThen_ok]
            rw [eqD_sound h4 v2.d_inv u2.d_inv h1]
            simp only [Result.andThen_ok]
            cases h with
            | true => simpa using ih
            | false => simp
          · cases he
        · cases he
      · cases hf
    · cases hf

theorem does_eqA {op : BinOp} {neg : Bool} (hop : op = if neg then .neq else .eql) {t : TypeId} {y z : Operand} {y' z' : Arg} {fs : Array Field} {l : List D} (hs : SR κ nt fr H a w) (ht : P.underlying t = some (.struct fs)) (hl : flatFs P 0 fs.toList = some l) (hp : P.stoodInHeld t = false) (hm : P.eqGuardType P.depth t = false)
    (hy : cArg P t y = some y') (hz : cArg P t z = some z') (h : stepI fr H (.eqA neg l y' z') = some (x, H')) :
    Does P (do pure (.value (← (do eqGuard op t y z (a.eval y) (a.eval z); binOp op t (a.eval y) (a.eval z))))) w κ H' x := by
  simp only [stepI] at h
  split at h
  · rename_i cs ds e1 e2
    simp only [Option.map_eq_some_iff] at h
    obtain ⟨b, hb, h⟩ := h
    simp only [Prod.mk.injEq] at h
    obtain ⟨rfl, rfl⟩ := h
    have h1 := cArg_sound hy hs
    have h2 := cArg_sound hz hs
    rw [e1] at h1; rw [e2] at h2
    generalize hev1 : a.eval y = v1 at h1
    generalize hev2 : a.eval z = v2 at h2
    cases h1 with
    | agg vs _ hvl hv =>
    cases h2 with
    | agg us _ hul hu =>
    have hfo : P.fieldsOf t = fs := by simp [Program.fieldsOf, ht]
    have heq : (Op.equalIn 10000 t (.agg vs.toArray) (.agg us.toArray)).run P w = .ok b w := by
      rw [run_equalIn_agg w 9999 t _ _ (by rw [hfo]; exact ht) hp, hfo]
      refine eqFields_run (κ := κ) 9998 w _ _ fs.toList 0 l cs ds b hl hb (fun j a hj => ?_) (fun j a hj => ?_)
      · have : j < vs.length := by rw [hvl]; exact (List.getElem?_eq_some_iff.1 hj).1
        exact ⟨vs[j], by simp [this], hv j _ a (List.getElem?_eq_getElem this) hj⟩
      · have : j < us.length := by rw [hul]; exact (List.getElem?_eq_some_iff.1 hj).1
        exact ⟨us[j], by simp [this], hu j _ a (List.getElem?_eq_getElem this) hj⟩
    refine .same (run_val _ _ _ ?_) hs.hr (.d (.bool _))
    simp only [Sem.run_bind, run_eqGuard_agg w op t y z _ _ hm, Result.andThen_ok]
    subst hop
    cases neg with
    | true =>
      simp only [if_true]
      rw [run_neq_struct, heq]
      simp
    | false =>
      simp only [Bool.false_eq_true, if_false]
      rw [run_eql_struct, heq]
      simp
  · cases h

/-! append -/

theorem run_append_in (t u e ty : TypeId) (i : TypeInfo) (ht : P.underlying t = some (.slice e)) (hu : ∃ d, P.underlying u = some d ∧ ∀ k, d ≠ .int k) (hi : P.info? e = some i)
    (base : Option Addr) (sLen sCap n : Nat) (x : Value) (news : List Value) (hlen : (Builtin.lenOf x).run P w = .ok n w) (hfc : (Builtin.firstCells i.size n x).run P w = .ok news.toArray w) (hroom : sLen + n ≤ sCap) (w' : World)
    (hst : ∀ ad, base = some ad → (storeCells (ad.add (sLen * i.size)) news).run P w = .ok () w') (hno : base = none → w' = w) :
    (Builtin.append_ #[t, u] ty #[.slice base sLen sCap, x]).run P w = .ok (.slice base (sLen + n) sCap) w' := by
  obtain ⟨d, hd, _⟩ := hu
  cases base with
  | none =>
    have := hno rfl
    subst this
    simp [Builtin.append_, run_underlying ht, run_underlying hd, sizeOf, typeInfo, hi, hlen, hroom, hfc]
  | some ad =>
    have := hst ad rfl
    simp [Builtin.append_, run_underlying ht, run_underlying hd, sizeOf, typeInfo, hi, hlen, hroom, hfc, this]

theorem run_append_new (t u e ty : TypeId) (i : TypeInfo) (z : Value) (ht : P.underlying t = some (.slice e)) (hu : ∃ d, P.underlying u = some d ∧ ∀ k, d ≠ .int k) (hi : P.info? e = some i) (hzv : i.zero = some z)
    (base : Option Addr) (sLen sCap n : Nat) (x : Value) (olds news : List Value) (hlen : (Builtin.lenOf x).run P w = .ok n w) (hfc : (Builtin.firstCells i.size n x).run P w.drew = .ok news.toArray w.drew)
    (hfo : (Builtin.firstCells i.size sLen (.slice base sLen sCap)).run P w.drew = .ok olds.toArray w.drew) (hroom : sCap < sLen + n) (hby : 0 < i.bytes) (hfit : (sLen + n) * i.bytes ≤ 140737488355328) :
    (Builtin.append_ #[t, u] ty #[.slice base sLen sCap, x]).run P w =
      .ok (.slice (some ⟨w.heap.size, 0, none⟩) (sLen + n) (grownCap w (sLen + n) sCap e)) (w.drew.alloc (.cells (olds.toArray ++ news.toArray ++ Builtin.zeroCells z.cells (grownCap w (sLen + n) sCap e - (sLen + n))) e)) := by
  obtain ⟨d, hd, _⟩ := hu
  have hn : ¬ (sLen + n ≤ sCap) := by omega
  have h63 : ¬ (9223372036854775807 < ((sLen : Int) + (n : Int))) := by
    have : sLen + n ≤ (sLen + n) * i.bytes := Nat.le_mul_of_pos_right _ hby
    omega
  have h48 : ¬ (281474976710656 < Builtin.nextslicecap (sLen + n) sCap * i.bytes) := by
    have := growslice_fits hroom hfit
    omega
  simp [Builtin.append_, run_underlying ht, run_underlying hd, sizeOf, typeInfo, zeroValue, hi, hzv, hlen, hn, h63, h48, Question.forced, hfc, hfo, newRow, grownCap]
  congr 2
  apply Array.ext'
  simp [List.append_assoc]

/-- the heart of append: the new elements lie as a list of values -/
theorem app_core {t u e ty : TypeId} {ti : TypeInfo} {z0 : Value} (hr : HR κ H w) (ht : P.underlying t = some (.slice e)) (hu : ∃ d, P.underlying u = some d ∧ ∀ k, d ≠ .int k) (hi : P.info? e = some ti) (hz0 : ti.zero = some z0) (hzs : z0.cells.size = ti.size) (hby : 0 < ti.bytes)
    {v xv : Value} {xa : A} (hv : VR κ v xa) (new : List (List D)) (news : List Value) (hlen : (Builtin.lenOf xv).run P w = .ok new.length w) (hfc : ∀ w1 : World, (∀ b o, w1.cell? ⟨b, o, none⟩ = w.cell? ⟨b, o, none⟩) → (Builtin.firstCells ti.size new.length xv).run P w1 = .ok news.toArray w1)
    (hnl : news.length = new.length * ti.size) (hrow : ∀ (k : Nat) (r : List D), new[k]? = some r → r.length = ti.size)
    (hnv : ∀ (k j : Nat) (r : List D) (d : D), new[k]? = some r → r[j]? = some d → ∃ q, news[k * ti.size + j]? = some q ∧ DR κ.σ q d) (h1c : ∀ q ∈ news, q.oneCell' = true)
    (h : appA H ti.size ti.bytes e new xa = some (x, H')) :
    ∃ q w' κ', (Builtin.append_ #[t, u] ty #[v, xv]).run P w = .ok q w' ∧ κ.le κ' ∧ HR κ' H' w' ∧ VR κ' q x := by
  unfold appA at h
  split at h
  · rename_i z s rows tk
    split at h
    · rename_i n s' e' hH
      split at h
      · rename_i hc
        obtain ⟨rfl, rfl, rfl, rfl, hfit⟩ := hc
        cases h
        have hv0 := hv
        cases hv with
        | osl hd hf =>
        obtain ⟨ad, cap, olds, rfl, hcap, hnil, hol, hoc, hov, ho1, hrows⟩ := hd.cells (fun b o q hq => hr.st b o q hq)
        by_cases hnew : new = []
        · subst hnew
          have hn0 : news = [] := List.eq_nil_of_length_eq_zero (by simpa using hnl)
          subst hn0
          refine ⟨.slice ad (rows.length + 0) cap, w, κ, run_append_in t u e' ty ti ht hu hi ad rows.length cap 0 xv [] hlen (hfc w fun _ _ => rfl) (by simpa using hcap) w (fun _ _ => rfl) (fun _ => rfl), K.le_refl κ, ?_, ?_⟩
          · have : H.set tk (.tok (rows.length + ([] : List (List D)).length) ti.size e') = H := by
              simp only [List.length_nil, Nat.add_zero]
              refine List.ext_getElem? fun j => ?_
              by_cases hj : tk = j
              · subst hj; rw [List.getElem?_set_self (List.getElem?_eq_some_iff.1 hH).1, hH]
              · rw [List.getElem?_set_ne hj]
            rw [this]; exact hr
          · simpa using hv0
        · have hpos : 0 < new.length := List.length_pos_iff.2 hnew
          by_cases hroom : rows.length + new.length ≤ cap
          · cases ad with
            | none => obtain ⟨-, h0, -⟩ := hnil rfl; omega
            | some q =>
              obtain ⟨qb, qo, qs⟩ := q
              have hq1 : qs = none := by
                have ho := hr.ob tk _ hH
                rcases ho with ⟨h1, -⟩ | ⟨b, e, c, cur, lo, hi, h1, -⟩
                · rw [h1] at hf; obtain ⟨-, hq⟩ := hf; cases hq
                · rw [h1] at hf; obtain ⟨-, hq⟩ := hf; obtain ⟨o, cap', he, -⟩ := hq rfl; cases he; rfl
              subst hq1
              obtain ⟨c1, c2, κ', c3, c4, c5⟩ := hr.appendIn hH hv0 new hnew news hrow hnl hnv rfl hroom
              refine ⟨_, _, κ', run_append_in t u e' ty ti ht hu hi (some ⟨qb, qo, none⟩) rows.length cap new.length xv news hlen (hfc w fun _ _ => rfl) hroom (w.setCells qb (qo + rows.length * ti.size) news) (fun ad he => ?_) (fun h0 => by cases h0), c3, c4, c5⟩
              cases he
              rw [add_mk]
              have := run_storeCells_cells (P := P) qb (qo + rows.length * ti.size) news 0 w (by simpa using c1) (by simpa using c2) h1c
              simpa using this
          · have hge := grownCap_ge w (rows.length + new.length) cap e'
            have hfo : (Builtin.firstCells ti.size rows.length (.slice ad rows.length cap)).run P w.drew = .ok olds.toArray w.drew := by
              cases ad with
              | none =>
                obtain ⟨h0, -, -⟩ := hnil rfl
                have : olds = [] := List.eq_nil_of_length_eq_zero (by rw [hol, h0]; simp)
                rw [this]; rfl
              | some q =>
                exact run_firstCells_some w.drew ti.size rows.length q rows.length cap olds hol (by simpa using (hoc q rfl).2)
            have hrun := run_append_new t u e' ty ti z0 ht hu hi hz0 ad rows.length cap new.length xv olds news hlen (hfc w.drew fun _ _ => rfl) hfo (by omega) hby hfit
            have hr' := hr.drew
            obtain ⟨κ', k1, k2, k3⟩ := hr'.regrow hH (olds.toArray ++ news.toArray ++ Builtin.zeroCells z0.cells (grownCap w (rows.length + new.length) cap e' - (rows.length + new.length))) (rows ++ new) (grownCap w (rows.length + new.length) cap e') z
              (by simp; omega) (by simpa using hge) (by
                rw [Array.size_append, Array.size_append, List.size_toArray, List.size_toArray, size_zeroCells, hzs, hol, hnl, ← Nat.add_mul, ← Nat.add_mul]
                congr 1; omega)
              (fun k r hk => by
                by_cases hkl : k < rows.length
                · rw [List.getElem?_append_left hkl] at hk; exact hrows k r hk
                · rw [List.getElem?_append_right (by omega)] at hk; exact hrow _ r hk)
              (fun k j r d hk hd' => by
                have hcell : ∀ m, m < olds.length + news.length → (olds.toArray ++ news.toArray ++ Builtin.zeroCells z0.cells (grownCap w (rows.length + new.length) cap e' - (rows.length + new.length)))[m]? = (olds ++ news)[m]? := fun m hm => by
                  rw [Array.getElem?_append_left (by simpa using hm)]
                  simp
                by_cases hkl : k < rows.length
                · rw [List.getElem?_append_left hkl] at hk
                  obtain ⟨q, q1, q2⟩ := hov k j r d hk hd'
                  have hlt := (List.getElem?_eq_some_iff.1 q1).1
                  exact ⟨q, by rw [hcell _ (by omega), List.getElem?_append_left hlt]; exact q1, q2⟩
                · rw [List.getElem?_append_right (by omega)] at hk
                  obtain ⟨q, q1, q2⟩ := hnv (k - rows.length) j r d hk hd'
                  have hlt := (List.getElem?_eq_some_iff.1 q1).1
                  have hidx : k * ti.size + j = olds.length + ((k - rows.length) * ti.size + j) := by
                    rw [hol]
                    have : k * ti.size = rows.length * ti.size + (k - rows.length) * ti.size := by rw [← Nat.add_mul]; congr 1; omega
                    omega
                  refine ⟨q, ?_, q2⟩
                  rw [hidx, hcell _ (by omega), List.getElem?_append_right (by omega)]
                  rw [show olds.length + ((k - rows.length) * ti.size + j) - olds.length = (k - rows.length) * ti.size + j by omega]
                  exact q1)
            refine ⟨_, _, κ', hrun, k1, ?_, ?_⟩
            · simpa using k2
            · simpa using k3
      · cases h
    · cases h
  · rename_i s
    split at h
    · rename_i hc
      obtain ⟨rfl, hfit⟩ := hc
      cases h
      have hval : v = .slice none 0 0 := by
        rcases hv.d_inv.sl_inv with ⟨e1, -⟩ | ⟨_, _, _, e1, -⟩ | ⟨b, o, cap, f, e1, hz, -⟩
        · exact e1
        · cases e1
        · exact absurd rfl (hz rfl)
      subst hval
      by_cases hnew : new = []
      · subst hnew
        have hn0 : news = [] := List.eq_nil_of_length_eq_zero (by simpa using hnl)
        subst hn0
        exact ⟨_, w, κ, run_append_in t u e ty ti ht hu hi none 0 0 0 xv [] hlen (hfc w fun _ _ => rfl) (Nat.le_refl _) w (fun _ _ => rfl) (fun _ => rfl), K.le_refl κ, hr, .d (.nilsl _)⟩
      · have hpos : 0 < new.length := List.length_pos_iff.2 hnew
        have hge := grownCap_ge w (0 + new.length) 0 e
        have hrun := run_append_new t u e ty ti z0 ht hu hi hz0 none 0 0 new.length xv [] news hlen (hfc w.drew fun _ _ => rfl) rfl (by omega) hby (by simpa using hfit)
        obtain ⟨p1, p2⟩ := hr.drew.pushRow (#[] ++ news.toArray ++ Builtin.zeroCells z0.cells (grownCap w (0 + new.length) 0 e - (0 + new.length))) (new.length * ti.size) e
        refine ⟨_, _, _, hrun, p1, p2, .d ?_⟩
        have hge' : new.length ≤ grownCap w (0 + new.length) 0 e := by omega
        have := DR.new (τ := addSt κ.σ w.drew.heap.size (#[] ++ news.toArray ++ Builtin.zeroCells z0.cells (grownCap w (0 + new.length) 0 e - (0 + new.length))) (new.length * ti.size)) true new w.heap.size ti.size (grownCap w (0 + new.length) 0 e)
          (#[] ++ news.toArray ++ Builtin.zeroCells z0.cells (grownCap w (0 + new.length) 0 e - (0 + new.length))) (fun _ => hnew) hge' hrow (fun o ho => by simp [addSt, ho]) (fun k j r d hk hd' => by
            obtain ⟨q, q1, q2⟩ := hnv k j r d hk hd'
            have hlt := (List.getElem?_eq_some_iff.1 q1).1
            refine ⟨q, ?_, q2.mono p1.σ⟩
            rw [Array.getElem?_append_left (by simpa using hlt)]
            simpa using q1)
        rw [Nat.zero_add] at this ⊢
        exact this
    · cases h
  · rename_i i
    split at h
    · rename_i s hH
      split at h
      · rename_i hc
        obtain ⟨rfl, hfit⟩ := hc
        have hv0 := hv
        cases hv with
        | msl _ _ _ b sz o cap hb hl ho hz =>
        obtain rfl := hz rfl
        split at h
        · cases h
          have hn0 : news = [] := List.eq_nil_of_length_eq_zero (by simpa using hnl)
          subst hn0
          exact ⟨_, w, κ, run_append_in t u e ty ti ht hu hi (some ⟨b, o, none⟩) 0 0 0 xv [] hlen (hfc w fun _ _ => rfl) (Nat.le_refl _) w (fun _ _ => rfl) (fun _ => rfl), K.le_refl κ, hr, hv0⟩
        · rename_i r rs
          cases h
          have hge := grownCap_ge w (0 + (r :: rs).length) 0 e
          have hrun := run_append_new t u e ty ti z0 ht hu hi hz0 (some ⟨b, o, none⟩) 0 0 (r :: rs).length xv [] news hlen (hfc w.drew fun _ _ => rfl) (run_firstCells_some w.drew ti.size 0 ⟨b, o, none⟩ 0 0 [] (by simp) (by simp)) (by simp) hby (by simpa using hfit)
          obtain ⟨κ', p1, p2, p3⟩ := hr.drew.pushArr (#[] ++ news.toArray ++ Builtin.zeroCells z0.cells (grownCap w (0 + (r :: rs).length) 0 e - (0 + (r :: rs).length))) ti.size ((r :: rs).map (List.map .d)) e
            (fun k q hq => by
              simp only [List.getElem?_map, Option.map_eq_some_iff] at hq
              obtain ⟨q', h1, rfl⟩ := hq
              simpa using hrow k q' h1)
            (by simp [A.flat, List.all_eq_true])
            (fun k j q y hq hy => by
              simp only [List.getElem?_map, Option.map_eq_some_iff] at hq
              obtain ⟨q', h1, rfl⟩ := hq
              simp only [List.getElem?_map, Option.map_eq_some_iff] at hy
              obtain ⟨d, h2, rfl⟩ := hy
              obtain ⟨u', u1, u2⟩ := hnv k j q' d h1 h2
              have hlt := (List.getElem?_eq_some_iff.1 u1).1
              refine ⟨u', ?_, .d u2⟩
              rw [Array.getElem?_append_left (by simpa using hlt)]
              simpa using u1) (grownCap w (0 + (r :: rs).length) 0 e) (by simpa using hge) (fun h0 => by simp at h0)
          refine ⟨_, _, κ', hrun, p1, p2, ?_⟩
          simpa using p3
      · cases h
    · cases h
  · cases h

theorem does_app {t u e ty : TypeId} {ti : TypeInfo} {z0 : Value} {y z : Operand} {y' z' : Arg} {xs : Array Operand} {ts : Array TypeId} {eu : TypeId} (hs : SR κ nt fr H a w) (hts : ts.toList = [t, u]) (hxs : xs.toList = [y, z]) (h1 : sliceElem P t = some (e, ti)) (hu : P.underlying u = some (.slice eu))
    (hz0 : ti.zero = some z0) (hzs : z0.cells.size = ti.size) (hby : 0 < ti.bytes) (hy : cArg P t y = some y') (hz : cArg P t z = some z') (h : stepI fr H (.app ti.size ti.bytes e y' z') = some (x, H')) :
    Does P (do pure (.value (← Builtin.append_ ts ty (xs.map a.eval)))) w κ H' x := by
  have e1 : ts = #[t, u] := by cases ts; simp at hts; subst hts; rfl
  have e2 : xs = #[y, z] := by cases xs; simp at hxs; subst hxs; rfl
  subst e1; subst e2
  obtain ⟨ht, hi⟩ := sliceElem_spec h1
  simp only [stepI] at h
  split at h
  · rename_i new hnew
    have hv := cArg_sound hy hs
    have hx := cArg_sound hz hs
    have hd : ∃ zz, DR κ.σ (a.eval z) (.sl zz ti.size new) := by
      unfold slOf at hnew
      split at hnew
      · rename_i zz s rows e3
        split at hnew
        · rename_i hsz; cases hnew; subst hsz; rw [e3] at hx; exact ⟨zz, hx.d_inv⟩
        · cases hnew
      · rename_i zz s rows tk e3
        split at hnew
        · rename_i hsz
          cases hnew; subst hsz; rw [e3] at hx
          generalize a.eval z = v at hx
          cases hx with | osl hd _ => exact ⟨zz, hd⟩
        · cases hnew
      · cases hnew
    obtain ⟨zz, hd⟩ := hd
    obtain ⟨ad, cap, news, e3, hcap, hnil, hnl, hnc, hnv, hn1, hrow⟩ := hd.cells (fun b o q hq => hs.hr.st b o q hq)
    obtain ⟨q, w', κ', c1, c2, c3, c4⟩ := app_core (ty := ty) hs.hr ht ⟨_, hu, fun k => by simp⟩ hi hz0 hzs hby hv (xv := a.eval z) new news (by rw [e3]; rfl) (fun w1 hw1 => by
      rw [e3]
      cases ad with
      | none =>
        obtain ⟨h0, -, -⟩ := hnil rfl
        have : news = [] := List.eq_nil_of_length_eq_zero (by rw [hnl, h0]; simp)
        rw [this]; rfl
      | some q =>
        obtain ⟨qb, qo, qs⟩ := q
        obtain ⟨hq1, hq2⟩ := hnc _ rfl
        by_cases hnw : new = []
        · subst hnw
          have hn0 : news = [] := List.eq_nil_of_length_eq_zero (by simpa using hnl)
          subst hn0
          exact run_firstCells_some w1 ti.size 0 ⟨qb, qo, qs⟩ 0 cap [] (by simp) (by simp)
        have hq1 := hq1 hnw
        simp only at hq1
        subst hq1
        exact run_firstCells_some w1 ti.size new.length ⟨qb, qo, none⟩ new.length cap news hnl (fun j v hv => by
          have := hq2 j v hv
          rw [add_mk] at this ⊢
          rw [hw1]; exact this)) hnl hrow hnv hn1 h
    exact ⟨q, w', κ', .inl (run_val _ _ _ (by simpa using c1)), c2, c3, c4⟩
  · cases h

theorem does_appS {t u e ty : TypeId} {ti : TypeInfo} {z0 : Value} {y z : Operand} {y' z' : Arg} {xs : Array Operand} {ts : Array TypeId} (hs : SR κ nt fr H a w) (hts : ts.toList = [t, u]) (hxs : xs.toList = [y, z]) (h1 : sliceElem P t = some (e, ti)) (hu : P.underlying u = some .string)
    (hz0 : ti.zero = some z0) (hzs : z0.cells.size = ti.size) (hsz : ti.size = 1) (hby : ti.bytes = 1) (hy : cArg P t y = some y') (hz : cArg P u z = some z') (h : stepI fr H (.appS e y' z') = some (x, H')) :
    Does P (do pure (.value (← Builtin.append_ ts ty (xs.map a.eval)))) w κ H' x := by
  have e1 : ts = #[t, u] := by cases ts; simp at hts; subst hts; rfl
  have e2 : xs = #[y, z] := by cases xs; simp at hxs; subst hxs; rfl
  subst e1; subst e2
  obtain ⟨ht, hi⟩ := sliceElem_spec h1
  simp only [stepI] at h
  split at h
  · rename_i s e3
    have hv := cArg_sound hy hs
    have hx := cArg_sound hz hs
    rw [e3] at hx
    obtain ⟨sv, e4, rfl⟩ := hx.str_inv
    have hl : (byteRows sv.data.toList).length = sv.size := by simp [byteRows]
    have h' : appA H ti.size ti.bytes e (byteRows sv.data.toList) (y'.ev fr) = some (x, H') := by rw [hsz, hby]; exact h
    obtain ⟨q, w', κ', c1, c2, c3, c4⟩ := app_core (ty := ty) hs.hr ht ⟨_, hu, fun k => by simp⟩ hi hz0 hzs (by omega) hv (xv := a.eval z) (byteRows sv.data.toList) (sv.data.toList.map fun b => Value.int .u8 b.toNat) (by rw [e4, hl]; rfl) (fun w1 hw1 => by
      rw [e4, hl]
      simp only [Builtin.firstCells, Sem.run_pure]
      congr 1
      apply Array.ext'
      simp) (by simp [byteRows, hsz]) (fun k r hk => by
        simp only [byteRows, List.getElem?_map, Option.map_eq_some_iff] at hk
        obtain ⟨b, -, rfl⟩ := hk
        simp [hsz]) (fun k j r d hk hd => by
        simp only [byteRows, List.getElem?_map, Option.map_eq_some_iff] at hk
        obtain ⟨b, hb, rfl⟩ := hk
        cases j with
        | zero => simp at hd; subst hd; exact ⟨.int .u8 b.toNat, by rw [hsz, List.getElem?_map]; simp [hb], .int _ _⟩
        | succ j => simp at hd) (fun q hq => by
        obtain ⟨b, -, rfl⟩ := List.mem_map.1 hq
        rfl) h'
    exact ⟨q, w', κ', .inl (run_val _ _ _ (by simpa using c1)), c2, c3, c4⟩
  · cases h

end
end Go.Zam
