/-
  An abstract machine over the model, tenth part: rows that are made; append. No program in sight. No condition.
-/
import Derived.Test.YtjpdjaglggcbkaaZam9
import Derived.Laws.MakeOwn
import Derived.Laws.StructEq
import Derived.MapKept
namespace Go.Zam
open Go.RowKit (Below)

section
variable {P : Program} {κ : K} {nt : Nat} {fr : Fr} {H H' : Hp} {a : Act} {w : World} {x : A} {tok : List Nat}

theorem sliceElem_spec {t e : TypeId} {ti : TypeInfo} (h1 : sliceElem P t = some (e, ti)) : P.underlying t = some (.slice e) ∧ P.info? e = some ti := by
  unfold sliceElem at h1
  split at h1
  · rename_i e' he
    simp only [Option.map_eq_some_iff, Prod.mk.injEq] at h1
    obtain ⟨i, hi, rfl, rfl⟩ := h1
    exact ⟨he, hi⟩
  · cases h1

theorem rowOf_some {sz : Nat} {b : A} {r : List D} (h : rowOf sz b = some r) : b.cells.length = sz ∧ b.cells.all A.flat = true ∧ r.length = sz ∧ ∀ (j : Nat) (c : A) (d : D), b.cells[j]? = some c → r[j]? = some d → c.toD = some d := by
  unfold rowOf at h
  split at h
  · rename_i hc
    have key : ∀ (l : List A) (r : List D), l.mapM A.toD = some r → r.length = l.length ∧ ∀ (j : Nat) (c : A) (d : D), l[j]? = some c → r[j]? = some d → c.toD = some d := by
      intro l
      induction l with
      | nil => intro r h; simp at h; subst h; simp
      | cons y l ih =>
        intro r h
        simp only [List.mapM_cons, Option.bind_eq_bind, Option.bind_eq_some_iff, Option.pure_def, Option.some.injEq] at h
        obtain ⟨d0, hd0, r', hr', rfl⟩ := h
        obtain ⟨i1, i2⟩ := ih r' hr'
        refine ⟨by simp [i1], fun j c d hc hd => ?_⟩
        cases j with
        | zero => simp at hc hd; subst hc; subst hd; exact hd0
        | succ j => exact i2 j c d (by simpa using hc) (by simpa using hd)
    obtain ⟨k1, k2⟩ := key _ _ h
    exact ⟨hc.1, hc.2, by rw [k1, hc.1], k2⟩
  · cases h

/-- filling a row with all its elements, in order -/
theorem fill_rows {sz : Nat} : ∀ (ps : List (Nat × Value)) (rows : List (List D)) (n : Nat) (cells : Array Value), ps.length = rows.length → cells.size = (n + rows.length) * sz →
    (∀ (i : Nat) (p : Nat × Value), ps[i]? = some p → p.1 = n + i) →
    (∀ (i : Nat) (p : Nat × Value) (r : List D), ps[i]? = some p → rows[i]? = some r → p.2.cells.size = sz ∧ r.length = sz ∧ ∀ (j : Nat) (u : Value) (d : D), p.2.cells.toList[j]? = some u → r[j]? = some d → DR κ.σ u d) →
    ∃ out : Array Value, Instr.fill (fun i => some (i * sz, sz)) cells ps = some out ∧ out.size = cells.size ∧ (∀ i, i < n * sz → out.toList[i]? = cells.toList[i]?) ∧
      ∀ (k j : Nat) (r : List D) (d : D), rows[k]? = some r → r[j]? = some d → ∃ u, out.toList[(n + k) * sz + j]? = some u ∧ DR κ.σ u d := by
  intro ps
  induction ps with
  | nil =>
    intro rows n cells hl _ _ _
    have : rows = [] := List.eq_nil_of_length_eq_zero (by simpa using hl.symm)
    subst this
    exact ⟨cells, rfl, rfl, fun _ _ => rfl, by simp⟩
  | cons p ps ih =>
    intro rows n cells hl hsz hnum hp
    cases rows with
    | nil => simp at hl
    | cons r rows =>
      obtain ⟨i, v⟩ := p
      have hi : i = n := by simpa using hnum 0 (i, v) rfl
      subst hi
      obtain ⟨c1, c2, c3⟩ := hp 0 (i, v) r rfl rfl
      simp only at c1 c3
      have hfit : i * sz + sz ≤ cells.size := by
        rw [hsz, List.length_cons, Nat.add_mul, Nat.add_mul]; omega
      have hfs := fill_step (i * sz) v cells
      have hsz2 : (v.cells.zipIdx.foldl (fun cs (p : Value × Nat) => cs.setIfInBounds (i * sz + p.2) p.1) cells).size = cells.size := by
        rw [← Array.length_toList, hfs, setL_length]; simp
      obtain ⟨out, h1, h2, h3, h4⟩ := ih rows (i + 1) _ (by simpa using hl) (by rw [hsz2, hsz, List.length_cons]; congr 1; omega)
        (fun k p hk => by have := hnum (k + 1) p (by simpa using hk); omega) (fun k p r hk hr => hp (k + 1) p r (by simpa using hk) (by simpa using hr))
      refine ⟨out, ?_, h2.trans hsz2, fun k hk => ?_, fun k j r' d hr' hd => ?_⟩
      · simp only [Instr.fill]
        rw [if_neg (by simp; omega)]
        exact h1
      · rw [h3 k (by rw [Nat.add_mul]; omega), hfs, setL_get _ _ _ _ (by simp; omega), if_neg (by omega)]
      · cases k with
        | zero =>
          simp at hr'
          subst hr'
          have hj : j < sz := by rw [← c2]; exact (List.getElem?_eq_some_iff.1 hd).1
          have hjv : j < v.cells.toList.length := by simpa [c1] using hj
          refine ⟨v.cells.toList[j], ?_, c3 j _ d (List.getElem?_eq_getElem hjv) hd⟩
          rw [Nat.add_zero, h3 _ (by rw [Nat.add_mul]; omega), hfs, setL_get _ _ _ _ (by simp; omega), if_pos (by simp; omega)]
          rw [show i * sz + j - i * sz = j by omega]
          exact List.getElem?_eq_getElem hjv
        | succ k =>
          have := h4 k j r' d (by simpa using hr') hd
          rwa [show i + 1 + k = i + (k + 1) by omega] at this

theorem partsInOrder_spec : ∀ (n : Nat) (l : List (Nat × Operand)), partsInOrder n l = true → ∀ (i : Nat) (p : Nat × Operand), l[i]? = some p → p.1 = n + i
  | _, [], _, i, p, h => by simp at h
  | n, (m, y) :: r, hp, i, p, h => by
    simp only [partsInOrder, Bool.and_eq_true, beq_iff_eq] at hp
    cases i with
    | zero => simp at h; subst h; simpa using hp.1
    | succ i => have := partsInOrder_spec (n + 1) r hp.2 i p (by simpa using h); omega

/-- what buildSlice makes -/
theorem bslice_made {t e : TypeId} {ti : TypeInfo} {n : Nat} {parts : Array (Nat × Operand)} {ps : List Arg} {rows : List (List D)} (hs : SR κ nt fr H a w) (h1 : sliceElem P t = some (e, ti)) (hp : partsInOrder 0 parts.toList = true) (hn : parts.size = n)
    (hlim : n * ti.size ≤ 2 ^ 24) (hz : (zeroOf P e).map (·.length) = some ti.size) (hpos : 0 < ti.size) (hps : parts.toList.mapM (fun (x : Nat × Operand) => cArg P e x.2) = some ps)
    (hr : ps.mapM (fun x => rowOf ti.size (x.ev fr)) = some rows) :
    rows.length = n ∧ (∀ (k : Nat) (r : List D), rows[k]? = some r → r.length = ti.size) ∧ ∃ c : Array Value, c.size = n * ti.size ∧ (Instr.buildSlice t n (parts.map fun (i, x) => (i, a.eval x))).run P w = .ok (.slice (some ⟨w.heap.size, 0, none⟩) n n) (w.alloc (.cells c e)) ∧
      ∀ (k j : Nat) (r : List D) (d : D), rows[k]? = some r → r[j]? = some d → ∃ u, c[k * ti.size + j]? = some u ∧ DR κ.σ u d := by
  obtain ⟨ht, hi⟩ := sliceElem_spec h1
  have keyA : ∀ (l : List (Nat × Operand)) (ps : List Arg) (rows : List (List D)), l.mapM (fun (x : Nat × Operand) => cArg P e x.2) = some ps → ps.mapM (fun x => rowOf ti.size (x.ev fr)) = some rows →
      l.length = rows.length ∧ (∀ (k : Nat) (r : List D), rows[k]? = some r → r.length = ti.size) ∧ ∀ (i : Nat) (p : Nat × Value) (r : List D), (l.map fun x => (x.1, a.eval x.2))[i]? = some p → rows[i]? = some r →
        p.2.cells.size = ti.size ∧ r.length = ti.size ∧ ∀ (j : Nat) (u : Value) (d : D), p.2.cells.toList[j]? = some u → r[j]? = some d → DR κ.σ u d := by
    intro l
    induction l with
    | nil => intro ps rows h h'; simp at h; subst h; simp at h'; subst h'; simp
    | cons y l ih =>
      intro ps rows h h'
      simp only [List.mapM_cons, Option.bind_eq_bind, Option.bind_eq_some_iff, Option.pure_def, Option.some.injEq] at h
      obtain ⟨y', hy', ps', hps', rfl⟩ := h
      simp only [List.mapM_cons, Option.bind_eq_bind, Option.bind_eq_some_iff, Option.pure_def, Option.some.injEq] at h'
      obtain ⟨r0, hr0, rows', hrows', rfl⟩ := h'
      obtain ⟨i1, i2, i3⟩ := ih ps' rows' hps' hrows'
      obtain ⟨q1, q2, q3, q4⟩ := rowOf_some hr0
      refine ⟨by simp [i1], fun k r hk => ?_, fun i p r hp hr => ?_⟩
      · cases k with
        | zero => simp at hk; subst hk; exact q3
        | succ k => exact i2 k r (by simpa using hk)
      · cases i with
        | zero =>
          simp at hp hr
          subst hp; subst hr
          have hv := cArg_sound hy' hs
          obtain ⟨s1, s2⟩ := A.cells_of hv q2
          refine ⟨by rw [← q1, ← s1]; simp, q3, fun j u d hu hd => ?_⟩
          have hj : j < (y'.ev fr).cells.length := by rw [q1, ← q3]; exact (List.getElem?_eq_some_iff.1 hd).1
          exact toD_sound (s2 j u _ hu (List.getElem?_eq_getElem hj)) (q4 j _ d (List.getElem?_eq_getElem hj) hd)
        | succ i => exact i3 i p r (by simpa using hp) (by simpa using hr)
  obtain ⟨k1, k2, k3⟩ := keyA _ _ _ hps hr
  have hlen : rows.length = n := by rw [← k1, ← hn]; simp
  obtain ⟨zl, hzl⟩ : ∃ zl, zeroOf P e = some zl := by cases hzz : zeroOf P e with
    | none => rw [hzz] at hz; cases hz
    | some zl => exact ⟨zl, rfl⟩
  obtain ⟨ti', zv, z1, z2, z3, -⟩ := zeroOf_spec hzl
  have : ti' = ti := by rw [hi] at z1; cases z1; rfl
  subst this
  have hzlen : zv.cells.size = ti'.size := by rw [z3]; rw [hzl] at hz; simpa using hz
  have hnum : ∀ (i : Nat) (p : Nat × Value), (parts.toList.map fun x => (x.1, a.eval x.2))[i]? = some p → p.1 = 0 + i := fun i p hpi => by
    simp only [List.getElem?_map, Option.map_eq_some_iff] at hpi
    obtain ⟨q, hq, rfl⟩ := hpi
    exact partsInOrder_spec 0 _ hp i q hq
  have hbuild : ∀ (zz : Array Value), ∃ c : Array Value, c.size = n * ti'.size ∧ Instr.fill (fun i => some (i * ti'.size, ti'.size)) ((Array.range (n * ti'.size)).map (zz[· % zz.size]!)) (parts.toList.map fun x => (x.1, a.eval x.2)) = some c ∧
      ∀ (k j : Nat) (r : List D) (d : D), rows[k]? = some r → r[j]? = some d → ∃ u, c[k * ti'.size + j]? = some u ∧ DR κ.σ u d := fun zz => by
    obtain ⟨out, f1, f2, f3, f4⟩ := fill_rows (κ := κ) (sz := ti'.size) (parts.toList.map fun x => (x.1, a.eval x.2)) rows 0 ((Array.range (n * ti'.size)).map (zz[· % zz.size]!)) (by simpa using k1) (by simp [hlen]) hnum k3
    refine ⟨out, by rw [f2]; simp, f1, fun k j r d hk hd => ?_⟩
    obtain ⟨u, hu, hdr⟩ := f4 k j r d hk hd
    exact ⟨u, by simpa using hu, hdr⟩
  refine ⟨hlen, k2, ?_⟩
  have e2 : (Array.map (fun (x : Nat × Operand) => match x with | (i, y) => (i, a.eval y)) parts).toList = parts.toList.map fun x => (x.1, a.eval x.2) := by simp
  by_cases hn0 : n * ti'.size = 0
  · obtain ⟨c, hcs, hcf, hcv⟩ := hbuild #[]
    refine ⟨c, hcs, ?_, hcv⟩
    simp only [Instr.buildSlice, Sem.run_bind, run_underlying ht, Result.andThen_ok, sizeOf, typeInfo, run_program, hi, Sem.run_pure]
    rw [if_neg (by omega), if_pos hn0]
    simp only [Sem.run_bind, Sem.run_pure, Result.andThen_ok]
    rw [e2, hcf]
    rfl
  · obtain ⟨c, hcs, hcf, hcv⟩ := hbuild zv.cells
    refine ⟨c, hcs, ?_, hcv⟩
    simp only [Instr.buildSlice, Sem.run_bind, run_underlying ht, Result.andThen_ok, sizeOf, typeInfo, run_program, hi, Sem.run_pure]
    rw [if_neg (by omega), if_neg hn0]
    simp only [zeroValue, typeInfo, Sem.run_bind, run_program, Result.andThen_ok, hi, Sem.run_pure, z2]
    rw [e2, hcf]
    rfl

theorem does_bslice {t e : TypeId} {ti : TypeInfo} {n : Nat} {parts : Array (Nat × Operand)} {ps : List Arg} (hs : SR κ nt fr H a w) (h1 : sliceElem P t = some (e, ti)) (hp : partsInOrder 0 parts.toList = true) (hn : parts.size = n)
    (hlim : n * ti.size ≤ 2 ^ 24) (hz : (zeroOf P e).map (·.length) = some ti.size) (hpos : 0 < ti.size) (hps : parts.toList.mapM (fun (x : Nat × Operand) => cArg P e x.2) = some ps)
    (h : stepI fr H (.bslice ti.size ps) = some (x, H')) :
    Does P (do pure (.value (← Instr.buildSlice t n (parts.map fun (i, x) => (i, a.eval x))))) w κ H' x := by
  simp only [stepI, Option.map_eq_some_iff] at h
  obtain ⟨rows, hr, h⟩ := h
  simp only [Prod.mk.injEq] at h
  obtain ⟨rfl, rfl⟩ := h
  obtain ⟨k1, k2, c, k3, k4, k5⟩ := bslice_made hs h1 hp hn hlim hz hpos hps hr
  subst k1
  obtain ⟨p1, p2⟩ := hs.hr.pushRow c (rows.length * ti.size) e
  refine ⟨_, _, _, .inl (run_val _ _ _ k4), p1, p2, .d ?_⟩
  have := DR.new (τ := addSt κ.σ w.heap.size c (rows.length * ti.size)) false rows w.heap.size ti.size rows.length c (by simp) (by omega) k2 (fun o ho => by simp [addSt, ho]) (fun k j r d hk hd => by
    obtain ⟨u, hu, hdr⟩ := k5 k j r d hk hd
    exact ⟨u, hu, hdr.mono p1.σ⟩)
  exact this

theorem does_bsliceT {t e : TypeId} {ti : TypeInfo} {n : Nat} {parts : Array (Nat × Operand)} {ps : List Arg} (hs : SR κ nt fr H a w) (h1 : sliceElem P t = some (e, ti)) (hp : partsInOrder 0 parts.toList = true) (hn : parts.size = n)
    (hlim : n * ti.size ≤ 2 ^ 24) (hz : (zeroOf P e).map (·.length) = some ti.size) (hpos : 0 < ti.size) (hps : parts.toList.mapM (fun (x : Nat × Operand) => cArg P e x.2) = some ps)
    (h : stepI fr H (.bsliceT ti.size e ps) = some (x, H')) :
    Does P (do pure (.value (← Instr.buildSlice t n (parts.map fun (i, x) => (i, a.eval x))))) w κ H' x := by
  simp only [stepI, Option.map_eq_some_iff] at h
  obtain ⟨rows, hr, h⟩ := h
  simp only [Prod.mk.injEq] at h
  obtain ⟨rfl, rfl⟩ := h
  obtain ⟨k1, k2, c, k3, k4, k5⟩ := bslice_made hs h1 hp hn hlim hz hpos hps hr
  subst k1
  -- the stable cells first, the token behind
  obtain ⟨p1, p2⟩ := hs.hr.pushRow c (rows.length * ti.size) e
  have hw : (w.alloc (.cells c e)).heap[w.heap.size]? = some (.cells c e) := by show (w.heap.push _)[w.heap.size]? = _; simp
  let κ1 : K := { κ with σ := addSt κ.σ w.heap.size c (rows.length * ti.size) }
  let κ2 : K := { κ1 with β := upd κ1.β H.length (.reg w.heap.size (rows.length * ti.size) (rows.length * ti.size) rows.length ti.size) }
  have hn' : κ1.β H.length = .none := p2.dom _ (Nat.le_refl _)
  have hle : κ1.le κ2 := K.le_upd hn' _
  have hbx : ∀ i b, (κ1.β i).block = some b → b < w.heap.size := fun i b hb => (hs.hr.ex i b hb).2
  refine ⟨_, _, κ2, .inl (run_val _ _ _ k4), K.le_trans p1 hle, ⟨p2.below, p2.st, fun i z hz => ?_, fun i hi => ?_, fun i b hb => ?_, fun i b o ho => ?_, fun i j b hi hj => ?_, fun i z hz => ?_⟩, .osl ?_ ?_⟩
  · by_cases hi : i < H.length
    · rw [List.getElem?_append_left hi] at hz
      exact (p2.ob i z hz).mono hle (upd_ne _ _ (by omega)) fun b _ => rfl
    · have : i = H.length := by
        have := (List.getElem?_eq_some_iff.1 hz).1
        simp at this; omega
      subst this
      simp at hz
      subst hz
      exact .inr ⟨w.heap.size, _, _, c, 0, 0, upd_same _ _ _, hw, by omega, .inl rfl⟩
  · have h1 : H.length + 1 ≤ i := by simpa using hi
    show upd κ1.β H.length _ i = _
    rw [upd_ne _ _ (by omega)]; exact p2.dom i (by omega)
  · by_cases hi : i = H.length
    · subst hi
      have : some w.heap.size = some b := by rw [← hb]; show _ = (upd κ1.β H.length _ H.length).block; rw [upd_same]; rfl
      cases this
      exact ⟨hs.hr.below.size, by simp⟩
    · have hb' : (κ1.β i).block = some b := by rw [← hb]; show _ = (upd κ1.β H.length _ i).block; rw [upd_ne _ _ hi]
      exact p2.ex i b hb'
  · by_cases hi : i = H.length
    · subst hi
      have ho' : (Bind.reg w.heap.size (rows.length * ti.size) (rows.length * ti.size) rows.length ti.size).owns b o := by
        have := ho
        change (upd κ1.β H.length _ H.length).owns b o at this
        rwa [upd_same] at this
      obtain ⟨rfl, ho2⟩ := ho'
      show addSt κ.σ w.heap.size c (rows.length * ti.size) w.heap.size o = none
      simp only [addSt, if_true]; rw [if_neg (by omega)]
    · have ho' : (κ1.β i).owns b o := by
        have := ho
        change (upd κ1.β H.length _ i).owns b o at this
        rwa [upd_ne _ _ hi] at this
      exact p2.exσ i b o ho'
  · have hnew : ∀ k, k ≠ H.length → (κ2.β k).block = some b → b < w.heap.size := fun k hk hb => by
      change (upd κ1.β H.length _ k).block = some b at hb
      rw [upd_ne _ _ hk] at hb
      exact hbx k b hb
    have hat : (κ2.β H.length).block = some w.heap.size := by show (upd κ1.β H.length _ H.length).block = _; rw [upd_same]; rfl
    by_cases h1 : i = H.length <;> by_cases h2 : j = H.length
    · omega
    · subst h1; rw [hat] at hi; cases hi; have := hnew j h2 hj; omega
    · subst h2; rw [hat] at hj; cases hj; have := hnew i h1 hi; omega
    · change (upd κ1.β H.length _ i).block = some b at hi
      change (upd κ1.β H.length _ j).block = some b at hj
      rw [upd_ne _ _ h1] at hi
      rw [upd_ne _ _ h2] at hj
      exact p2.exd i j b hi hj
  · by_cases hi : i < H.length
    · rw [List.getElem?_append_left hi] at hz; exact p2.fl i z hz
    · have : i = H.length := by
        have := (List.getElem?_eq_some_iff.1 hz).1
        simp at this; omega
      subst this
      simp at hz
      subst hz
      rfl
  · have := DR.new (τ := addSt κ.σ w.heap.size c (rows.length * ti.size)) false rows w.heap.size ti.size rows.length c (by simp) (by omega) k2 (fun o ho => by simp [addSt, ho]) (fun k j r d hk hd => by
      obtain ⟨u, hu, hdr⟩ := k5 k j r d hk hd
      exact ⟨u, hu, hdr.mono p1.σ⟩)
    exact this
  · show tokFit (upd κ1.β H.length _ H.length) _ _
    rw [upd_same]
    exact ⟨Nat.le_refl _, fun _ => ⟨0, rows.length, rfl, Nat.le_refl _, by simp, by simp, rfl⟩⟩

theorem does_bsliceM {t e : TypeId} {ti : TypeInfo} {n : Nat} {parts : Array (Nat × Operand)} {ps : List Arg} (hs : SR κ nt fr H a w) (h1 : sliceElem P t = some (e, ti)) (hp : partsInOrder 0 parts.toList = true) (hn : parts.size = n)
    (hlim : n * ti.size ≤ 2 ^ 24) (hz : (zeroOf P e).map (·.length) = some ti.size) (hpos : 0 < ti.size) (hps : parts.toList.mapM (fun (x : Nat × Operand) => cArg P e x.2) = some ps)
    (h : stepI fr H (.bsliceM ti.size ps) = some (x, H')) :
    Does P (do pure (.value (← Instr.buildSlice t n (parts.map fun (i, x) => (i, a.eval x))))) w κ H' x := by
  simp only [stepI, Option.map_eq_some_iff] at h
  obtain ⟨rows, hr, h⟩ := h
  simp only [Prod.mk.injEq] at h
  obtain ⟨rfl, rfl⟩ := h
  obtain ⟨k1, k2, c, k3, k4, k5⟩ := bslice_made hs h1 hp hn hlim hz hpos hps hr
  subst k1
  obtain ⟨κ', p1, p2, p3⟩ := hs.hr.pushArr c ti.size (rows.map (List.map .d)) e
    (fun k q hq => by
      simp only [List.getElem?_map, Option.map_eq_some_iff] at hq
      obtain ⟨q', h1, rfl⟩ := hq
      simpa using k2 k q' h1)
    (by simp [A.flat, List.all_eq_true])
    (fun k j q y hq hy => by
      simp only [List.getElem?_map, Option.map_eq_some_iff] at hq
      obtain ⟨q', h1, rfl⟩ := hq
      simp only [List.getElem?_map, Option.map_eq_some_iff] at hy
      obtain ⟨d, h2, rfl⟩ := hy
      obtain ⟨u', u1, u2⟩ := k5 k j q' d h1 h2
      exact ⟨u', u1, .d u2⟩) rows.length (by simp) (by simp)
  exact ⟨_, _, κ', .inl (run_val _ _ _ k4), p1, p2, by simpa using p3⟩

theorem does_mkSl {t e : TypeId} {ti : TypeInfo} {z : List D} {l c : Operand} {l' c' : Arg} (hs : SR κ nt fr H a w) (h1 : sliceElem P t = some (e, ti)) (hz : zeroOf P e = some z) (hzl : z.length = ti.size) (hpos : 0 < ti.size) (hby : 0 < ti.bytes)
    (hl : cArg P 0 l = some l') (hc : cArg P 0 c = some c') (h : stepI fr H (.mkSl ti.size ti.bytes z l' c') = some (x, H')) :
    Does P (do pure (.value (← Instr.makeSlice t (a.eval l) (a.eval c)))) w κ H' x := by
  obtain ⟨ht, hi⟩ := sliceElem_spec h1
  simp only [stepI] at h
  split at h
  · rename_i k n k' m e1 e2
    split at h
    · rename_i hcond
      obtain ⟨rfl, h0, hfit⟩ := hcond
      cases h
      have v1 := cArg_sound hl hs
      have v2 := cArg_sound hc hs
      rw [e1] at v1; rw [e2] at v2
      obtain ⟨ti', zv, z1, z2, z3, z4⟩ := zeroOf_spec hz
      have : ti' = ti := by rw [hi] at z1; cases z1; rfl
      subst this
      have hzs : zv.cells.size = ti'.size := by rw [z3, hzl]
      have hle : n ≤ n * (ti'.bytes : Int) := by
        obtain ⟨m, hm⟩ : ∃ m, ti'.bytes = m + 1 := ⟨ti'.bytes - 1, by omega⟩
        have := Int.mul_nonneg h0 (Int.natCast_nonneg m)
        rw [hm, Int.natCast_add, Int.mul_add]
        omega
      have hrun := run_make (P := P) w t e ti' zv ht hi z2 k k' n n h0 (Int.le_refl _) (by rw [Int.mul_comm]; omega) (by omega)
      obtain ⟨κ', p1, p2, p3⟩ := hs.hr.pushArr (madeCells zv.cells (n.toNat * ti'.size)) ti'.size (List.replicate n.toNat (z.map .d)) e
        (fun k q hq => by
          simp only [List.getElem?_replicate] at hq
          split at hq
          · cases hq; simpa using hzl
          · cases hq)
        (by simp [A.flat, List.all_eq_true])
        (fun k j q y hq hy => by
          simp only [List.getElem?_replicate] at hq
          split at hq
          · rename_i hk
            cases hq
            simp only [List.getElem?_map, Option.map_eq_some_iff] at hy
            obtain ⟨d, h2, rfl⟩ := hy
            have hj : j < ti'.size := by rw [← hzl]; exact (List.getElem?_eq_some_iff.1 h2).1
            have hlt : k * ti'.size + j < n.toNat * ti'.size := by
              have : (k + 1) * ti'.size ≤ n.toNat * ti'.size := Nat.mul_le_mul_right _ (by omega)
              rw [Nat.add_mul] at this; omega
            have hmod : (k * ti'.size + j) % zv.cells.size = j := by rw [hzs, Nat.mul_comm, Nat.mul_add_mod, Nat.mod_eq_of_lt hj]
            have hjc : zv.cells.toList[j]? = some (zv.cells[j]!) := by
              rw [Array.getElem?_toList]
              simp [hzs, hj]
            refine ⟨zv.cells[j]!, ?_, .d (z4 _ j _ d hjc h2)⟩
            simp only [madeCells, Array.getElem?_map]
            rw [Array.getElem?_range, if_pos hlt]
            simp only [Option.map_some, hmod]
          · cases hq) n.toNat (by simp) (by simp)
      refine ⟨_, _, κ', .inl (run_val _ _ _ ?_), p1, p2, by simpa using p3⟩
      rw [v1.int_inv, v2.int_inv]; exact hrun
    · cases h
  · cases h

/-! two structs -/

theorem eqD_sound {l a b : D} {r : Bool} {u v : Value} {σ : St} (h : eqD l a b = some r) (hu : DR σ u a) (hv : DR σ v b) {t : TypeId} (ht : primD P t = some l) (d : Nat) (w : World) : (Op.equalIn (d + 1) t u v).run P w = .ok r w := by
  have hs : ∀ s : ByteArray, s.toList = s.data.toList := fun s => by rw [ByteArray.toList_eq]
  unfold eqD at h
  split at h
  · cases h
    unfold primD at ht
    split at ht
    · rename_i e
      cases hu; cases hv
      exact run_equalIn_bool w d t _ _ e
    · cases ht
    · cases ht
    · cases ht
  · split at h
    · rename_i hk
      subst hk
      cases h
      unfold primD at ht
      split at ht
      · cases ht
      · rename_i e
        cases hu; cases hv
        exact run_equalIn_int w d t _ _ _ _ e
      · cases ht
      · cases ht
    · cases h
  · cases h
    unfold primD at ht
    split at ht
    · cases ht
    · cases ht
    · rename_i e
      cases hu; cases hv
      rw [run_equalIn_string w d t _ _ e, hs, hs]
      congr 1
      rw [Bool.eq_iff_iff]; simp
    · cases ht
  · cases h

theorem run_part_prim {t : TypeId} {l : D} (ht : primD P t = some l) {cs : Array Value} {off : Nat} {v : Value} (hv : cs[off]? = some v) (w : World) : (part t cs off).run P w = .ok v w := by
  unfold primD at ht
  split at ht
  · rename_i e; simp [part, isAgg, run_underlying e, hv]
  · rename_i e; simp [part, isAgg, run_underlying e, hv]
  · rename_i e; simp [part, isAgg, run_underlying e, hv]
  · cases ht

theorem eqFields_run {κ : K} (d : Nat) (w : World) (vs us : Array Value) : ∀ (fs : List Field) (k : Nat) (ls : List D) (as bs : List A) (b : Bool), flatFs P k fs = some ls → eqDs ls as bs = some b →
    (∀ (j : Nat) (a : A), as[j]? = some a → ∃ v, vs[k + j]? = some v ∧ VR κ v a) → (∀ (j : Nat) (a : A), bs[j]? = some a → ∃ v, us[k + j]? = some v ∧ VR κ v a) → (Op.eqFields (d + 1) vs us fs).run P w = .ok b w
  | [], k, ls, as, bs, b, hf, he, _, _ => by
    simp only [flatFs, Option.some.injEq] at hf
    subst hf
    unfold eqDs at he
    split at he
    · cases he; rfl
    · contradiction
    · cases he
  | f :: fs, k, ls, as, bs, b, hf, he, hv, hu => by
    simp only [flatFs] at hf
    split at hf
    · rename_i hc
      simp only [Bool.and_eq_true, beq_iff_eq, bne_iff_ne, ne_eq] at hc
      obtain ⟨hoff, hname⟩ := hc
      split at hf
      · rename_i l ls' h1 h2
        cases hf
        unfold eqDs at he
        split at he
        · contradiction
        · rename_i l0 ls0 a r a' s h3
          cases h3
          split at he
          · rename_i h t h4 h5
            cases he
            obtain ⟨v, v1, v2⟩ := hv 0 _ rfl
            obtain ⟨u, u1, u2⟩ := hu 0 _ rfl
            rw [Nat.add_zero] at v1 u1
            have ih := eqFields_run d w vs us fs (k + 1) ls' r s t h2 h5 (fun j a hj => by
              have := hv (j + 1) a (by simpa using hj)
              rwa [show k + (j + 1) = k + 1 + j by omega] at this) (fun j a hj => by
              have := hu (j + 1) a (by simpa using hj)
              rwa [show k + (j + 1) = k + 1 + j by omega] at this)
            simp only [Op.eqFields, hname, not_false_eq_true, ne_eq, if_true, Sem.run_bind]
            rw [hoff, run_part_prim h1 v1]
            simp only [Result.andThen_ok]
            rw [run_part_prim h1 u1]
            simp only [Result.andThen_ok]
            rw [eqD_sound h4 v2.d_inv u2.d_inv h1]
            simp only [Result.andThen_ok]
            cases h with
            | true => simpa using ih
            | false => simp
          · cases he
        · cases he
      · cases hf
    · cases hf

theorem does_eqA {op : BinOp} {neg : Bool} (hop : op = if neg then .neq else .eql) {t : TypeId} {y z : Operand} {y' z' : Arg} {fs : Array Field} {l : List D} (hs : SR κ nt fr H a w) (ht : P.underlying t = some (.struct fs)) (hl : flatFs P 0 fs.toList = some l) (hp : P.stoodInHeld t = false) (hm : P.eqGuardType P.depth t = false)
    (hy : cArg P t y = some y') (hz : cArg P t z = some z') (h : stepI fr H (.eqA neg l y' z') = some (x, H')) :
    Does P (do pure (.value (← (do eqGuard op t y z (a.eval y) (a.eval z); binOp op t (a.eval y) (a.eval z))))) w κ H' x := by
  simp only [stepI] at h
  split at h
  · rename_i cs ds e1 e2
    simp only [Option.map_eq_some_iff] at h
    obtain ⟨b, hb, h⟩ := h
    simp only [Prod.mk.injEq] at h
    obtain ⟨rfl, rfl⟩ := h
    have h1 := cArg_sound hy hs
    have h2 := cArg_sound hz hs
    rw [e1] at h1; rw [e2] at h2
    generalize hev1 : a.eval y = v1 at h1
    generalize hev2 : a.eval z = v2 at h2
    cases h1 with
    | agg vs _ hvl hv =>
    cases h2 with
    | agg us _ hul hu =>
    have hfo : P.fieldsOf t = fs := by simp [Program.fieldsOf, ht]
    have heq : (Op.equalIn 10000 t (.agg vs.toArray) (.agg us.toArray)).run P w = .ok b w := by
      rw [run_equalIn_agg w 9999 t _ _ (by rw [hfo]; exact ht) hp, hfo]
      refine eqFields_run (κ := κ) 9998 w _ _ fs.toList 0 l cs ds b hl hb (fun j a hj => ?_) (fun j a hj => ?_)
      · have : j < vs.length := by rw [hvl]; exact (List.getElem?_eq_some_iff.1 hj).1
        exact ⟨vs[j], by simp [this], hv j _ a (List.getElem?_eq_getElem this) hj⟩
      · have : j < us.length := by rw [hul]; exact (List.getElem?_eq_some_iff.1 hj).1
        exact ⟨us[j], by simp [this], hu j _ a (List.getElem?_eq_getElem this) hj⟩
    refine .same (run_val _ _ _ ?_) hs.hr (.d (.bool _))
    simp only [Sem.run_bind, run_eqGuard_agg w op t y z _ _ hm, Result.andThen_ok]
    subst hop
    cases neg with
    | true =>
      simp only [if_true]
      rw [run_neq_struct, heq]
      simp
    | false =>
      simp only [Bool.false_eq_true, if_false]
      rw [run_eql_struct, heq]
      simp
  · cases h

/-! append -/

theorem run_append_in (t u e ty : TypeId) (i : TypeInfo) (ht : P.underlying t = some (.slice e)) (hu : ∃ d, P.underlying u = some d ∧ ∀ k, d ≠ .int k) (hi : P.info? e = some i)
    (base : Option Addr) (sLen sCap n : Nat) (x : Value) (news : List Value) (hlen : (Builtin.lenOf x).run P w = .ok n w) (hfc : (Builtin.firstCells i.size n x).run P w = .ok news.toArray w) (hroom : sLen + n ≤ sCap) (w' : World)
    (hst : ∀ ad, base = some ad → (storeCells (ad.add (sLen * i.size)) news).run P w = .ok () w') (hno : base = none → w' = w) :
    (Builtin.append_ #[t, u] ty #[.slice base sLen sCap, x]).run P w = .ok (.slice base (sLen + n) sCap) w' := by
  obtain ⟨d, hd, _⟩ := hu
  cases base with
  | none =>
    have := hno rfl
    subst this
    simp [Builtin.append_, run_underlying ht, run_underlying hd, sizeOf, typeInfo, hi, hlen, hroom, hfc]
  | some ad =>
    have := hst ad rfl
    simp [Builtin.append_, run_underlying ht, run_underlying hd, sizeOf, typeInfo, hi, hlen, hroom, hfc, this]

theorem run_append_new (t u e ty : TypeId) (i : TypeInfo) (z : Value) (ht : P.underlying t = some (.slice e)) (hu : ∃ d, P.underlying u = some d ∧ ∀ k, d ≠ .int k) (hi : P.info? e = some i) (hzv : i.zero = some z)
    (base : Option Addr) (sLen sCap n : Nat) (x : Value) (olds news : List Value) (hlen : (Builtin.lenOf x).run P w = .ok n w) (hfc : (Builtin.firstCells i.size n x).run P w.drew = .ok news.toArray w.drew)
    (hfo : (Builtin.firstCells i.size sLen (.slice base sLen sCap)).run P w.drew = .ok olds.toArray w.drew) (hroom : sCap < sLen + n) (hby : 0 < i.bytes) (hfit : (sLen + n) * i.bytes ≤ 140737488355328) :
    (Builtin.append_ #[t, u] ty #[.slice base sLen sCap, x]).run P w =
      .ok (.slice (some ⟨w.heap.size, 0, none⟩) (sLen + n) (grownCap w (sLen + n) sCap e)) (w.drew.alloc (.cells (olds.toArray ++ news.toArray ++ Builtin.zeroCells z.cells (grownCap w (sLen + n) sCap e - (sLen + n))) e)) := by
  obtain ⟨d, hd, _⟩ := hu
  have hn : ¬ (sLen + n ≤ sCap) := by omega
  have h63 : ¬ (9223372036854775807 < ((sLen : Int) + (n : Int))) := by
    have : sLen + n ≤ (sLen + n) * i.bytes := Nat.le_mul_of_pos_right _ hby
    omega
  have h48 : ¬ (281474976710656 < Builtin.nextslicecap (sLen + n) sCap * i.bytes) := by
    have := growslice_fits hroom hfit
    omega
  simp [Builtin.append_, run_underlying ht, run_underlying hd, sizeOf, typeInfo, zeroValue, hi, hzv, hlen, hn, h63, h48, Question.forced, hfc, hfo, newRow, grownCap]
  congr 2
  apply Array.ext'
  simp [List.append_assoc]

/-- the heart of append: the new elements lie as a list of values -/
theorem app_core {t u e ty : TypeId} {ti : TypeInfo} {z0 : Value} (hr : HR κ H w) (ht : P.underlying t = some (.slice e)) (hu : ∃ d, P.underlying u = some d ∧ ∀ k, d ≠ .int k) (hi : P.info? e = some ti) (hz0 : ti.zero = some z0) (hzs : z0.cells.size = ti.size) (hby : 0 < ti.bytes)
    {v xv : Value} {xa : A} (hv : VR κ v xa) (new : List (List D)) (news : List Value) (hlen : (Builtin.lenOf xv).run P w = .ok new.length w) (hfc : ∀ w1 : World, (∀ b o, w1.cell? ⟨b, o, none⟩ = w.cell? ⟨b, o, none⟩) → (Builtin.firstCells ti.size new.length xv).run P w1 = .ok news.toArray w1)
    (hnl : news.length = new.length * ti.size) (hrow : ∀ (k : Nat) (r : List D), new[k]? = some r → r.length = ti.size)
    (hnv : ∀ (k j : Nat) (r : List D) (d : D), new[k]? = some r → r[j]? = some d → ∃ q, news[k * ti.size + j]? = some q ∧ DR κ.σ q d) (h1c : ∀ q ∈ news, q.oneCell' = true)
    (h : appA H ti.size ti.bytes e new xa = some (x, H')) :
    ∃ q w' κ', (Builtin.append_ #[t, u] ty #[v, xv]).run P w = .ok q w' ∧ κ.le κ' ∧ HR κ' H' w' ∧ VR κ' q x := by
  unfold appA at h
  split at h
  · rename_i z s rows tk
    split at h
    · rename_i n s' e' hH
      split at h
      · rename_i hc
        obtain ⟨rfl, rfl, rfl, rfl, hfit⟩ := hc
        cases h
        have hv0 := hv
        cases hv with
        | osl hd hf =>
        obtain ⟨ad, cap, olds, rfl, hcap, hnil, hol, hoc, hov, ho1, hrows⟩ := hd.cells (fun b o q hq => hr.st b o q hq)
        by_cases hnew : new = []
        · subst hnew
          have hn0 : news = [] := List.eq_nil_of_length_eq_zero (by simpa using hnl)
          subst hn0
          refine ⟨.slice ad (rows.length + 0) cap, w, κ, run_append_in t u e' ty ti ht hu hi ad rows.length cap 0 xv [] hlen (hfc w fun _ _ => rfl) (by simpa using hcap) w (fun _ _ => rfl) (fun _ => rfl), K.le_refl κ, ?_, ?_⟩
          · have : H.set tk (.tok (rows.length + ([] : List (List D)).length) ti.size e') = H := by
              simp only [List.length_nil, Nat.add_zero]
              refine List.ext_getElem? fun j => ?_
              by_cases hj : tk = j
              · subst hj; rw [List.getElem?_set_self (List.getElem?_eq_some_iff.1 hH).1, hH]
              · rw [List.getElem?_set_ne hj]
            rw [this]; exact hr
          · simpa using hv0
        · have hpos : 0 < new.length := List.length_pos_iff.2 hnew
          by_cases hroom : rows.length + new.length ≤ cap
          · cases ad with
            | none => obtain ⟨-, h0, -⟩ := hnil rfl; omega
            | some q =>
              obtain ⟨qb, qo, qs⟩ := q
              have hq1 : qs = none := by
                have ho := hr.ob tk _ hH
                rcases ho with ⟨h1, -⟩ | ⟨b, e, c, cur, lo, hi, h1, -⟩
                · rw [h1] at hf; obtain ⟨-, hq⟩ := hf; cases hq
                · rw [h1] at hf; obtain ⟨-, hq⟩ := hf; obtain ⟨o, cap', he, -⟩ := hq rfl; cases he; rfl
              subst hq1
              obtain ⟨c1, c2, κ', c3, c4, c5⟩ := hr.appendIn hH hv0 new hnew news hrow hnl hnv rfl hroom
              refine ⟨_, _, κ', run_append_in t u e' ty ti ht hu hi (some ⟨qb, qo, none⟩) rows.length cap new.length xv news hlen (hfc w fun _ _ => rfl) hroom (w.setCells qb (qo + rows.length * ti.size) news) (fun ad he => ?_) (fun h0 => by cases h0), c3, c4, c5⟩
              cases he
              rw [add_mk]
              have := run_storeCells_cells (P := P) qb (qo + rows.length * ti.size) news 0 w (by simpa using c1) (by simpa using c2) h1c
              simpa using this
          · have hge := grownCap_ge w (rows.length + new.length) cap e'
            have hfo : (Builtin.firstCells ti.size rows.length (.slice ad rows.length cap)).run P w.drew = .ok olds.toArray w.drew := by
              cases ad with
              | none =>
                obtain ⟨h0, -, -⟩ := hnil rfl
                have : olds = [] := List.eq_nil_of_length_eq_zero (by rw [hol, h0]; simp)
                rw [this]; rfl
              | some q =>
                exact run_firstCells_some w.drew ti.size rows.length q rows.length cap olds hol (by simpa using (hoc q rfl).2)
            have hrun := run_append_new t u e' ty ti z0 ht hu hi hz0 ad rows.length cap new.length xv olds news hlen (hfc w.drew fun _ _ => rfl) hfo (by omega) hby hfit
            have hr' := hr.drew
            obtain ⟨κ', k1, k2, k3⟩ := hr'.regrow hH (olds.toArray ++ news.toArray ++ Builtin.zeroCells z0.cells (grownCap w (rows.length + new.length) cap e' - (rows.length + new.length))) (rows ++ new) (grownCap w (rows.length + new.length) cap e') z
              (by simp; omega) (by simpa using hge) (by
                rw [Array.size_append, Array.size_append, List.size_toArray, List.size_toArray, size_zeroCells, hzs, hol, hnl, ← Nat.add_mul, ← Nat.add_mul]
                congr 1; omega)
              (fun k r hk => by
                by_cases hkl : k < rows.length
                · rw [List.getElem?_append_left hkl] at hk; exact hrows k r hk
                · rw [List.getElem?_append_right (by omega)] at hk; exact hrow _ r hk)
              (fun k j r d hk hd' => by
                have hcell : ∀ m, m < olds.length + news.length → (olds.toArray ++ news.toArray ++ Builtin.zeroCells z0.cells (grownCap w (rows.length + new.length) cap e' - (rows.length + new.length)))[m]? = (olds ++ news)[m]? := fun m hm => by
                  rw [Array.getElem?_append_left (by simpa using hm)]
                  simp
                by_cases hkl : k < rows.length
                · rw [List.getElem?_append_left hkl] at hk
                  obtain ⟨q, q1, q2⟩ := hov k j r d hk hd'
                  have hlt := (List.getElem?_eq_some_iff.1 q1).1
                  exact ⟨q, by rw [hcell _ (by omega), List.getElem?_append_left hlt]; exact q1, q2⟩
                · rw [List.getElem?_append_right (by omega)] at hk
                  obtain ⟨q, q1, q2⟩ := hnv (k - rows.length) j r d hk hd'
                  have hlt := (List.getElem?_eq_some_iff.1 q1).1
                  have hidx : k * ti.size + j = olds.length + ((k - rows.length) * ti.size + j) := by
                    rw [hol]
                    have : k * ti.size = rows.length * ti.size + (k - rows.length) * ti.size := by rw [← Nat.add_mul]; congr 1; omega
                    omega
                  refine ⟨q, ?_, q2⟩
                  rw [hidx, hcell _ (by omega), List.getElem?_append_right (by omega)]
                  rw [show olds.length + ((k - rows.length) * ti.size + j) - olds.length = (k - rows.length) * ti.size + j by omega]
                  exact q1)
            refine ⟨_, _, κ', hrun, k1, ?_, ?_⟩
            · simpa using k2
            · simpa using k3
      · cases h
    · cases h
  · rename_i s
    split at h
    · rename_i hc
      obtain ⟨rfl, hfit⟩ := hc
      cases h
      have hval : v = .slice none 0 0 := by
        rcases hv.d_inv.sl_inv with ⟨e1, -⟩ | ⟨_, _, _, e1, -⟩ | ⟨b, o, cap, f, e1, hz, -⟩
        · exact e1
        · cases e1
        · exact absurd rfl (hz rfl)
      subst hval
      by_cases hnew : new = []
      · subst hnew
        have hn0 : news = [] := List.eq_nil_of_length_eq_zero (by simpa using hnl)
        subst hn0
        exact ⟨_, w, κ, run_append_in t u e ty ti ht hu hi none 0 0 0 xv [] hlen (hfc w fun _ _ => rfl) (Nat.le_refl _) w (fun _ _ => rfl) (fun _ => rfl), K.le_refl κ, hr, .d (.nilsl _)⟩
      · have hpos : 0 < new.length := List.length_pos_iff.2 hnew
        have hge := grownCap_ge w (0 + new.length) 0 e
        have hrun := run_append_new t u e ty ti z0 ht hu hi hz0 none 0 0 new.length xv [] news hlen (hfc w.drew fun _ _ => rfl) rfl (by omega) hby (by simpa using hfit)
        obtain ⟨p1, p2⟩ := hr.drew.pushRow (#[] ++ news.toArray ++ Builtin.zeroCells z0.cells (grownCap w (0 + new.length) 0 e - (0 + new.length))) (new.length * ti.size) e
        refine ⟨_, _, _, hrun, p1, p2, .d ?_⟩
        have hge' : new.length ≤ grownCap w (0 + new.length) 0 e := by omega
        have := DR.new (τ := addSt κ.σ w.drew.heap.size (#[] ++ news.toArray ++ Builtin.zeroCells z0.cells (grownCap w (0 + new.length) 0 e - (0 + new.length))) (new.length * ti.size)) true new w.heap.size ti.size (grownCap w (0 + new.length) 0 e)
          (#[] ++ news.toArray ++ Builtin.zeroCells z0.cells (grownCap w (0 + new.length) 0 e - (0 + new.length))) (fun _ => hnew) hge' hrow (fun o ho => by simp [addSt, ho]) (fun k j r d hk hd' => by
            obtain ⟨q, q1, q2⟩ := hnv k j r d hk hd'
            have hlt := (List.getElem?_eq_some_iff.1 q1).1
            refine ⟨q, ?_, q2.mono p1.σ⟩
            rw [Array.getElem?_append_left (by simpa using hlt)]
            simpa using q1)
        rw [Nat.zero_add] at this ⊢
        exact this
    · cases h
  · rename_i i
    split at h
    · rename_i s hH
      split at h
      · rename_i hc
        obtain ⟨rfl, hfit⟩ := hc
        have hv0 := hv
        cases hv with
        | msl _ _ _ b sz o cap hb hl ho hz =>
        obtain rfl := hz rfl
        split at h
        · cases h
          have hn0 : news = [] := List.eq_nil_of_length_eq_zero (by simpa using hnl)
          subst hn0
          exact ⟨_, w, κ, run_append_in t u e ty ti ht hu hi (some ⟨b, o, none⟩) 0 0 0 xv [] hlen (hfc w fun _ _ => rfl) (Nat.le_refl _) w (fun _ _ => rfl) (fun _ => rfl), K.le_refl κ, hr, hv0⟩
        · rename_i r rs
          cases h
          have hge := grownCap_ge w (0 + (r :: rs).length) 0 e
          have hrun := run_append_new t u e ty ti z0 ht hu hi hz0 (some ⟨b, o, none⟩) 0 0 (r :: rs).length xv [] news hlen (hfc w.drew fun _ _ => rfl) (run_firstCells_some w.drew ti.size 0 ⟨b, o, none⟩ 0 0 [] (by simp) (by simp)) (by simp) hby (by simpa using hfit)
          obtain ⟨κ', p1, p2, p3⟩ := hr.drew.pushArr (#[] ++ news.toArray ++ Builtin.zeroCells z0.cells (grownCap w (0 + (r :: rs).length) 0 e - (0 + (r :: rs).length))) ti.size ((r :: rs).map (List.map .d)) e
            (fun k q hq => by
              simp only [List.getElem?_map, Option.map_eq_some_iff] at hq
              obtain ⟨q', h1, rfl⟩ := hq
              simpa using hrow k q' h1)
            (by simp [A.flat, List.all_eq_true])
            (fun k j q y hq hy => by
              simp only [List.getElem?_map, Option.map_eq_some_iff] at hq
              obtain ⟨q', h1, rfl⟩ := hq
              simp only [List.getElem?_map, Option.map_eq_some_iff] at hy
              obtain ⟨d, h2, rfl⟩ := hy
              obtain ⟨u', u1, u2⟩ := hnv k j q' d h1 h2
              have hlt := (List.getElem?_eq_some_iff.1 u1).1
              refine ⟨u', ?_, .d u2⟩
              rw [Array.getElem?_append_left (by simpa using hlt)]
              simpa using u1) (grownCap w (0 + (r :: rs).length) 0 e) (by simpa using hge) (fun h0 => by simp at h0)
          refine ⟨_, _, κ', hrun, p1, p2, ?_⟩
          simpa using p3
      · cases h
    · cases h
  · cases h

theorem does_app {t u e ty : TypeId} {ti : TypeInfo} {z0 : Value} {y z : Operand} {y' z' : Arg} {xs : Array Operand} {ts : Array TypeId} {eu : TypeId} (hs : SR κ nt fr H a w) (hts : ts.toList = [t, u]) (hxs : xs.toList = [y, z]) (h1 : sliceElem P t = some (e, ti)) (hu : P.underlying u = some (.slice eu))
    (hz0 : ti.zero = some z0) (hzs : z0.cells.size = ti.size) (hby : 0 < ti.bytes) (hy : cArg P t y = some y') (hz : cArg P t z = some z') (h : stepI fr H (.app ti.size ti.bytes e y' z') = some (x, H')) :
    Does P (do pure (.value (← Builtin.append_ ts ty (xs.map a.eval)))) w κ H' x := by
  have e1 : ts = #[t, u] := by cases ts; simp at hts; subst hts; rfl
  have e2 : xs = #[y, z] := by cases xs; simp at hxs; subst hxs; rfl
  subst e1; subst e2
  obtain ⟨ht, hi⟩ := sliceElem_spec h1
  simp only [stepI] at h
  split at h
  · rename_i new hnew
    have hv := cArg_sound hy hs
    have hx := cArg_sound hz hs
    have hd : ∃ zz, DR κ.σ (a.eval z) (.sl zz ti.size new) := by
      unfold slOf at hnew
      split at hnew
      · rename_i zz s rows e3
        split at hnew
        · rename_i hsz; cases hnew; subst hsz; rw [e3] at hx; exact ⟨zz, hx.d_inv⟩
        · cases hnew
      · rename_i zz s rows tk e3
        split at hnew
        · rename_i hsz
          cases hnew; subst hsz; rw [e3] at hx
          generalize a.eval z = v at hx
          cases hx with | osl hd _ => exact ⟨zz, hd⟩
        · cases hnew
      · cases hnew
    obtain ⟨zz, hd⟩ := hd
    obtain ⟨ad, cap, news, e3, hcap, hnil, hnl, hnc, hnv, hn1, hrow⟩ := hd.cells (fun b o q hq => hs.hr.st b o q hq)
    obtain ⟨q, w', κ', c1, c2, c3, c4⟩ := app_core (ty := ty) hs.hr ht ⟨_, hu, fun k => by simp⟩ hi hz0 hzs hby hv (xv := a.eval z) new news (by rw [e3]; rfl) (fun w1 hw1 => by
      rw [e3]
      cases ad with
      | none =>
        obtain ⟨h0, -, -⟩ := hnil rfl
        have : news = [] := List.eq_nil_of_length_eq_zero (by rw [hnl, h0]; simp)
        rw [this]; rfl
      | some q =>
        obtain ⟨qb, qo, qs⟩ := q
        obtain ⟨hq1, hq2⟩ := hnc _ rfl
        by_cases hnw : new = []
        · subst hnw
          have hn0 : news = [] := List.eq_nil_of_length_eq_zero (by simpa using hnl)
          subst hn0
          exact run_firstCells_some w1 ti.size 0 ⟨qb, qo, qs⟩ 0 cap [] (by simp) (by simp)
        have hq1 := hq1 hnw
        simp only at hq1
        subst hq1
        exact run_firstCells_some w1 ti.size new.length ⟨qb, qo, none⟩ new.length cap news hnl (fun j v hv => by
          have := hq2 j v hv
          rw [add_mk] at this ⊢
          rw [hw1]; exact this)) hnl hrow hnv hn1 h
    exact ⟨q, w', κ', .inl (run_val _ _ _ (by simpa using c1)), c2, c3, c4⟩
  · cases h

theorem does_appS {t u e ty : TypeId} {ti : TypeInfo} {z0 : Value} {y z : Operand} {y' z' : Arg} {xs : Array Operand} {ts : Array TypeId} (hs : SR κ nt fr H a w) (hts : ts.toList = [t, u]) (hxs : xs.toList = [y, z]) (h1 : sliceElem P t = some (e, ti)) (hu : P.underlying u = some .string)
    (hz0 : ti.zero = some z0) (hzs : z0.cells.size = ti.size) (hsz : ti.size = 1) (hby : ti.bytes = 1) (hy : cArg P t y = some y') (hz : cArg P u z = some z') (h : stepI fr H (.appS e y' z') = some (x, H')) :
    Does P (do pure (.value (← Builtin.append_ ts ty (xs.map a.eval)))) w κ H' x := by
  have e1 : ts = #[t, u] := by cases ts; simp at hts; subst hts; rfl
  have e2 : xs = #[y, z] := by cases xs; simp at hxs; subst hxs; rfl
  subst e1; subst e2
  obtain ⟨ht, hi⟩ := sliceElem_spec h1
  simp only [stepI] at h
  split at h
  · rename_i s e3
    have hv := cArg_sound hy hs
    have hx := cArg_sound hz hs
    rw [e3] at hx
    obtain ⟨sv, e4, rfl⟩ := hx.str_inv
    have hl : (byteRows sv.data.toList).length = sv.size := by simp [byteRows]
    have h' : appA H ti.size ti.bytes e (byteRows sv.data.toList) (y'.ev fr) = some (x, H') := by rw [hsz, hby]; exact h
    obtain ⟨q, w', κ', c1, c2, c3, c4⟩ := app_core (ty := ty) hs.hr ht ⟨_, hu, fun k => by simp⟩ hi hz0 hzs (by omega) hv (xv := a.eval z) (byteRows sv.data.toList) (sv.data.toList.map fun b => Value.int .u8 b.toNat) (by rw [e4, hl]; rfl) (fun w1 hw1 => by
      rw [e4, hl]
      simp only [Builtin.firstCells, Sem.run_pure]
      congr 1
      apply Array.ext'
      simp) (by simp [byteRows, hsz]) (fun k r hk => by
        simp only [byteRows, List.getElem?_map, Option.map_eq_some_iff] at hk
        obtain ⟨b, -, rfl⟩ := hk
        simp [hsz]) (fun k j r d hk hd => by
        simp only [byteRows, List.getElem?_map, Option.map_eq_some_iff] at hk
        obtain ⟨b, hb, rfl⟩ := hk
        cases j with
        | zero => simp at hd; subst hd; exact ⟨.int .u8 b.toNat, by rw [hsz, List.getElem?_map]; simp [hb], .int _ _⟩
        | succ j => simp at hd) (fun q hq => by
        obtain ⟨b, -, rfl⟩ := List.mem_map.1 hq
        rfl) h'
    exact ⟨q, w', κ', .inl (run_val _ _ _ (by simpa using c1)), c2, c3, c4⟩
  · cases h

/-! rows that may be cut and grown -/

theorem setCells_size : ∀ (vs : List Value) (b o : Nat) (w : World), (w.setCells b o vs).heap.size = w.heap.size
  | [], _, _, _ => rfl
  | x :: r, b, o, w => by rw [World.setCells, setCells_size r]; simp

theorem setCells_below {B : Nat} {w0 : World} : ∀ (vs : List Value) (b o : Nat) (w : World), B ≤ b → Below B w0 w → Below B w0 (w.setCells b o vs)
  | [], _, _, _, _, h => h
  | x :: r, b, o, w, hb, h => by rw [World.setCells]; exact setCells_below r b (o + 1) _ hb (h.setCell (p := ⟨b, o, none⟩) hb x)

theorem setCells_block {ty : TypeId} {fz : Nat × Nat} : ∀ (vs : List Value) (b o : Nat) (w : World), (∀ k, k ≠ b → (w.setCells b o vs).heap[k]? = w.heap[k]?) ∧ ∀ cur, w.heap[b]? = some (.cells cur ty fz) → ∃ cur', (w.setCells b o vs).heap[b]? = some (.cells cur' ty fz) ∧ cur'.size = cur.size
  | [], b, o, w => ⟨fun _ _ => rfl, fun cur hc => ⟨cur, hc, rfl⟩⟩
  | x :: r, b, o, w => by
    obtain ⟨i1, i2⟩ := setCells_block (ty := ty) (fz := fz) r b (o + 1) (w.setCell ⟨b, o, none⟩ x)
    refine ⟨fun k hk => by rw [World.setCells, i1 k hk]; exact Below.heap_setCell w _ x k hk, fun cur hc => ?_⟩
    obtain ⟨cur', h1, h2⟩ := i2 (cur.setIfInBounds o x) (by simp [World.setCell, Array.getElem?_modify, hc])
    exact ⟨cur', h1, by simpa using h2⟩

theorem cell_cells {w : World} {b : Nat} {cur : Array Value} {ty : TypeId} {fz : Nat × Nat} (h : w.heap[b]? = some (.cells cur ty fz)) (o : Nat) : w.cell? ⟨b, o, none⟩ = cur[o]? := by simp [World.cell?, h]

theorem appV_core {t u e ty : TypeId} {ti : TypeInfo} {z0 : Value} {x' : A} (hr : HR κ H w) (ht : P.underlying t = some (.slice e)) (hu : ∃ d, P.underlying u = some d ∧ ∀ k, d ≠ .int k) (hi : P.info? e = some ti) (hz0 : ti.zero = some z0) (hzs : z0.cells.size = ti.size) (hby : 0 < ti.bytes)
    {v xv : Value} {xa : A} (hv : VR κ v xa) (r : List D) (new : List (List D)) (news : List Value) (hlen : (Builtin.lenOf xv).run P w = .ok (new.length + 1) w) (hfc : ∀ w1 : World, (∀ b o, w1.cell? ⟨b, o, none⟩ = w.cell? ⟨b, o, none⟩) → (Builtin.firstCells ti.size (new.length + 1) xv).run P w1 = .ok news.toArray w1)
    (hnl : news.length = (new.length + 1) * ti.size) (hrow : ∀ (k : Nat) (q : List D), (r :: new)[k]? = some q → q.length = ti.size)
    (hnv : ∀ (k j : Nat) (q : List D) (d : D), (r :: new)[k]? = some q → q[j]? = some d → ∃ y, news[k * ti.size + j]? = some y ∧ DR κ.σ y d) (h1c : ∀ q ∈ news, q.oneCell' = true)
    (h : appVA H ti.size ti.bytes e r new xa = some (x', H')) :
    ∃ q w' κ', (Builtin.append_ #[t, u] ty #[v, xv]).run P w = .ok q w' ∧ κ.le κ' ∧ HR κ' H' w' ∧ VR κ' q x' := by
  unfold appVA at h
  split at h
  · rename_i s
    split at h
    · rename_i hc
      obtain ⟨rfl, hfit⟩ := hc
      cases h
      have hval : v = .slice none 0 0 := by
        rcases hv.d_inv.sl_inv with ⟨e1, -⟩ | ⟨_, _, _, e1, -⟩ | ⟨b, o, cap, f, e1, hz, -⟩
        · exact e1
        · cases e1
        · exact absurd rfl (hz rfl)
      subst hval
      have hge := grownCap_ge w (0 + (new.length + 1)) 0 e
      have hrun := run_append_new t u e ty ti z0 ht hu hi hz0 none 0 0 (new.length + 1) xv [] news hlen (hfc w.drew fun _ _ => rfl) rfl (by omega) hby (by simpa using hfit)
      generalize hN : #[] ++ news.toArray ++ Builtin.zeroCells z0.cells (grownCap w (0 + (new.length + 1)) 0 e - (0 + (new.length + 1))) = N at hrun
      have hNs : (grownCap w (0 + (new.length + 1)) 0 e) * ti.size ≤ N.size := by
        have h1 : (#[] ++ news.toArray ++ Builtin.zeroCells z0.cells (grownCap w (0 + (new.length + 1)) 0 e - (0 + (new.length + 1)))).size = ((new.length + 1) + (grownCap w (0 + (new.length + 1)) 0 e - (0 + (new.length + 1)))) * ti.size := by
          simp only [Array.size_append, List.size_toArray, size_zeroCells, hzs, hnl, Nat.add_mul, Nat.zero_add, List.length_nil]
        rw [← hN, h1]
        exact Nat.mul_le_mul_right _ (by omega)
      have hNg : ∀ m, m < news.length → N[m]? = news[m]? := fun m hm => by
        rw [← hN, Array.getElem?_append_left (by simpa using hm)]
        simp
      have hpush := hr.drew.push (.cells N e) (.vec w.heap.size (grownCap w (0 + (new.length + 1)) 0 e) (new.length + 1) 0 ti.size) (.vec ti.size e 0 (r :: new)) rfl rfl (by
        refine ⟨w.heap.size, grownCap w (0 + (new.length + 1)) 0 e, N, upd_same _ _ _, by show (w.heap.push _)[w.heap.size]? = _; simp, by simp only [List.length_cons]; omega, hNs, fun j q hj => ⟨hrow j q hj, fun k x hk => ?_⟩⟩
        obtain ⟨y, y1, y2⟩ := hnv j k q x hj hk
        have hlt := (List.getElem?_eq_some_iff.1 y1).1
        exact ⟨y, by rw [hNg _ hlt]; exact y1, y2⟩)
      refine ⟨_, _, _, hrun, hpush.1, hpush.2, ?_⟩
      rw [Nat.zero_add]
      refine .vsl _ _ _ _ _ (by simpa using hge) ?_
      show vecFit (upd κ.β H.length _ H.length) _ _ _
      rw [upd_same]
      exact ⟨Nat.le_refl _, fun _ => ⟨Nat.le_refl _, rfl⟩⟩
    · cases h
  · rename_i i k len
    split at h
    · rename_i s e' k' rows hH
      split at h
      · rename_i hc
        obtain ⟨rfl, rfl, rfl, hlr, hfit⟩ := hc
        cases h
        have hil : i < H.length := (List.getElem?_eq_some_iff.1 hH).1
        obtain ⟨b, c, cur, hβ, hheap, hle0, hsz, hcells0⟩ := hr.ob i _ hH
        cases hv with
        | vsl _ _ _ ad cap hlc hf =>
        rw [hβ] at hf
        have hf2 := (hf.2 rfl).2
        cases hf2
        have hcells : ∀ (j : Nat) (q : List D), (rows.take len)[j]? = some q → q.length = ti.size ∧ ∀ (m : Nat) (x : D), q[m]? = some x → ∃ v, cur[j * ti.size + m]? = some v ∧ DR κ.σ v x := fun j q hj => by
          rw [List.getElem?_take] at hj
          split at hj
          · exact hcells0 j q hj
          · cases hj
        have hRl : (rows.take len).length = len := by simp; omega
        have hkl : Bind.le (.vec b c rows.length k' ti.size) (.vec b c (len + (new.length + 1)) (k' + 1) ti.size) := .inr (.inr ⟨_, _, _, _, rfl, by omega⟩)
        have hkl2 : ∀ b' c', Bind.le (.vec b c rows.length k' ti.size) (.vec b' c' (len + (new.length + 1)) (k' + 1) ti.size) := fun b' c' => .inr (.inr ⟨_, _, _, _, rfl, by omega⟩)
        have hle : len ≤ c := by omega
        generalize rows.take len = R at hcells hRl
        have hbx := hr.ex i b (by rw [hβ]; rfl)
        have hown : ∀ b' o, (κ.β i).block = some b' → (κ.β i).owns b' o := fun b' o hb' => by
          rw [hβ] at hb' ⊢; cases hb'; exact rfl
        subst hRl
        by_cases hroom : R.length + (new.length + 1) ≤ c
        · -- in place
          have hin : R.length * ti.size + news.length ≤ cur.size := by
            rw [hnl, ← Nat.add_mul]; exact Nat.le_trans (Nat.mul_le_mul_right _ hroom) hsz
          have hcell : ∀ j, j < news.length → (w.cell? ⟨b, R.length * ti.size + j, none⟩).isSome = true := fun j hj => by
            rw [cell_cells hheap]; simp; omega
          have hfz : ∀ j, j < news.length → w.frozen? ⟨b, R.length * ti.size + j, none⟩ = false := fun j hj => by simp [World.frozen?, hheap]
          have hrun := run_append_in t u e' ty ti ht hu hi (some ⟨b, 0, none⟩) R.length c (new.length + 1) xv news hlen (hfc w fun _ _ => rfl) hroom (w.setCells b (R.length * ti.size) news) (fun ad he => by
            cases he
            rw [add_mk, Nat.zero_add]
            have := run_storeCells_cells (P := P) b (R.length * ti.size) news 0 w (by simpa using hcell) (by simpa using hfz) h1c
            simpa using this) (fun h0 => by cases h0)
          obtain ⟨cur', hh1, hh2⟩ := (setCells_block (ty := e') (fz := (0, 0)) news b (R.length * ti.size) w).2 cur hheap
          have hrep := hr.replace i (.vec b c (R.length + (new.length + 1)) (k' + 1) ti.size) (.vec ti.size e' (k' + 1) (R ++ r :: new)) (w' := w.setCells b (R.length * ti.size) news) hil (by rw [hβ]; exact hkl2 _ _) rfl
            (by rw [setCells_size]; exact Nat.le_refl _) (setCells_below news b _ w hbx.1 hr.below) (fun k hk hne => (setCells_block (ty := e') (fz := (0, 0)) news b (R.length * ti.size) w).1 k (fun e => hne (by rw [hβ, e]; rfl))) hown (fun b' hb' => .inl (by rw [hβ]; exact hb')) (by
            refine ⟨b, c, cur', by show upd κ.β i _ i = _; rw [upd_same]; simp, hh1, by simpa using hroom, by rw [hh2]; exact hsz, fun j q hj => ?_⟩
            by_cases hjl : j < R.length
            · rw [List.getElem?_append_left hjl] at hj
              refine ⟨(hcells j q hj).1, fun m x hx => ?_⟩
              obtain ⟨y, y1, y2⟩ := (hcells j q hj).2 m x hx
              refine ⟨y, ?_, y2⟩
              have hm : m < ti.size := by rw [← (hcells j q hj).1]; exact (List.getElem?_eq_some_iff.1 hx).1
              have hlt : j * ti.size + m < R.length * ti.size := by
                have : (j + 1) * ti.size ≤ R.length * ti.size := Nat.mul_le_mul_right _ hjl
                rw [Nat.add_mul] at this; omega
              rw [← cell_cells hh1, World.cell?_setCells_out b news _ w ⟨b, _, none⟩ (fun _ _ => .inl hlt), cell_cells hheap]; exact y1
            · rw [List.getElem?_append_right (by omega)] at hj
              refine ⟨hrow _ q hj, fun m x hx => ?_⟩
              obtain ⟨y, y1, y2⟩ := hnv _ m q x hj hx
              refine ⟨y, ?_, y2⟩
              have hlt := (List.getElem?_eq_some_iff.1 y1).1
              have hidx : j * ti.size + m = R.length * ti.size + ((j - R.length) * ti.size + m) := by
                have : j * ti.size = R.length * ti.size + (j - R.length) * ti.size := by rw [← Nat.add_mul]; congr 1; omega
                omega
              rw [← cell_cells hh1, hidx, World.cell?_setCells_in b news _ w hcell _ hlt, ← y1]
              exact (List.getElem?_eq_getElem hlt).symm)
          refine ⟨_, _, _, hrun, hrep.1, hrep.2, .vsl _ _ _ _ _ (by omega) ?_⟩
          show vecFit (upd κ.β i _ i) _ _ _
          rw [upd_same]
          exact ⟨Nat.le_refl _, fun _ => ⟨Nat.le_refl _, rfl⟩⟩
        · -- anew
          have hge := grownCap_ge w (R.length + (new.length + 1)) c e'
          have hol : (cur.toList.take (R.length * ti.size)).length = R.length * ti.size := by
            have : R.length * ti.size ≤ c * ti.size := Nat.mul_le_mul_right _ hle
            simp; omega
          have hrun := run_append_new t u e' ty ti z0 ht hu hi hz0 (some ⟨b, 0, none⟩) R.length c (new.length + 1) xv (cur.toList.take (R.length * ti.size)) news hlen (hfc w.drew fun _ _ => rfl)
            (run_firstCells_some w.drew ti.size R.length ⟨b, 0, none⟩ R.length c _ hol (fun j v hv => by
              have hj : j < R.length * ti.size := by rw [← hol]; exact (List.getElem?_eq_some_iff.1 hv).1
              rw [List.getElem?_take_of_lt hj] at hv
              rw [add_mk, Nat.zero_add]
              show w.cell? _ = _
              rw [cell_cells hheap, ← Array.getElem?_toList]; exact hv)) (by omega) hby hfit
          generalize hN : (cur.toList.take (R.length * ti.size)).toArray ++ news.toArray ++ Builtin.zeroCells z0.cells (grownCap w (R.length + (new.length + 1)) c e' - (R.length + (new.length + 1))) = N at hrun
          have hNs : (grownCap w (R.length + (new.length + 1)) c e') * ti.size ≤ N.size := by
            rw [← hN, Array.size_append, Array.size_append, List.size_toArray, List.size_toArray, size_zeroCells, hzs, hol, hnl, ← Nat.add_mul, ← Nat.add_mul]
            exact Nat.mul_le_mul_right _ (by omega)
          have hNg : ∀ m, m < R.length * ti.size + news.length → N[m]? = (cur.toList.take (R.length * ti.size) ++ news)[m]? := fun m hm => by
            rw [← hN, Array.getElem?_append_left (by simp [hol]; rw [hol] at *; omega)]
            simp
          have hrep := hr.drew.replace i (.vec w.heap.size (grownCap w (R.length + (new.length + 1)) c e') (R.length + (new.length + 1)) (k' + 1) ti.size) (.vec ti.size e' (k' + 1) (R ++ r :: new)) (w' := w.drew.alloc (.cells N e')) hil (by rw [hβ]; exact hkl2 _ _) rfl
            (by show w.heap.size ≤ (w.heap.push _).size; simp) (hr.drew.below.alloc hr.drew.below.size _) (fun k hk _ => Below.heap_alloc w.drew _ k hk) hown (fun b' hb' => .inr (by
              cases hb'
              exact ⟨rfl, by show w.heap.size < (w.heap.push _).size; simp⟩)) (by
            refine ⟨w.heap.size, grownCap w (R.length + (new.length + 1)) c e', N, by show upd κ.β i _ i = _; rw [upd_same]; simp, by show (w.heap.push _)[w.heap.size]? = _; simp, by simpa using hge, hNs, fun j q hj => ?_⟩
            by_cases hjl : j < R.length
            · rw [List.getElem?_append_left hjl] at hj
              refine ⟨(hcells j q hj).1, fun m x hx => ?_⟩
              obtain ⟨y, y1, y2⟩ := (hcells j q hj).2 m x hx
              refine ⟨y, ?_, y2⟩
              have hm : m < ti.size := by rw [← (hcells j q hj).1]; exact (List.getElem?_eq_some_iff.1 hx).1
              have hlt : j * ti.size + m < R.length * ti.size := by
                have : (j + 1) * ti.size ≤ R.length * ti.size := Nat.mul_le_mul_right _ hjl
                rw [Nat.add_mul] at this; omega
              rw [hNg _ (by omega), List.getElem?_append_left (by rw [hol]; exact hlt), List.getElem?_take_of_lt hlt, Array.getElem?_toList]; exact y1
            · rw [List.getElem?_append_right (by omega)] at hj
              refine ⟨hrow _ q hj, fun m x hx => ?_⟩
              obtain ⟨y, y1, y2⟩ := hnv _ m q x hj hx
              refine ⟨y, ?_, y2⟩
              have hlt := (List.getElem?_eq_some_iff.1 y1).1
              have hidx : j * ti.size + m = R.length * ti.size + ((j - R.length) * ti.size + m) := by
                have : j * ti.size = R.length * ti.size + (j - R.length) * ti.size := by rw [← Nat.add_mul]; congr 1; omega
                omega
              rw [hidx, hNg _ (by omega), List.getElem?_append_right (by omega), hol, Nat.add_sub_cancel_left]; exact y1)
          refine ⟨_, _, _, hrun, hrep.1, hrep.2, .vsl _ _ _ _ _ (by omega) ?_⟩
          show vecFit (upd κ.β i _ i) _ _ _
          rw [upd_same]
          exact ⟨Nat.le_refl _, fun _ => ⟨Nat.le_refl _, rfl⟩⟩
      · cases h
    · cases h
  · cases h

theorem does_appV {t u e ty : TypeId} {ti : TypeInfo} {z0 : Value} {y z : Operand} {y' z' : Arg} {xs : Array Operand} {ts : Array TypeId} {eu : TypeId} (hs : SR κ nt fr H a w) (hts : ts.toList = [t, u]) (hxs : xs.toList = [y, z]) (h1 : sliceElem P t = some (e, ti)) (hu : P.underlying u = some (.slice eu))
    (hz0 : ti.zero = some z0) (hzs : z0.cells.size = ti.size) (hby : 0 < ti.bytes) (hy : cArg P t y = some y') (hz : cArg P t z = some z') (h : stepI fr H (.appV ti.size ti.bytes e y' z') = some (x, H')) :
    Does P (do pure (.value (← Builtin.append_ ts ty (xs.map a.eval)))) w κ H' x := by
  have e1 : ts = #[t, u] := by cases ts; simp at hts; subst hts; rfl
  have e2 : xs = #[y, z] := by cases xs; simp at hxs; subst hxs; rfl
  subst e1; subst e2
  obtain ⟨ht, hi⟩ := sliceElem_spec h1
  simp only [stepI] at h
  split at h
  · rename_i r new hnew
    have hv := cArg_sound hy hs
    have hx := cArg_sound hz hs
    have hd : ∃ zz, DR κ.σ (a.eval z) (.sl zz ti.size (r :: new)) := by
      unfold slOf at hnew
      split at hnew
      · rename_i zz s rows e3
        split at hnew
        · rename_i hsz; cases hnew; subst hsz; rw [e3] at hx; exact ⟨zz, hx.d_inv⟩
        · cases hnew
      · rename_i zz s rows tk e3
        split at hnew
        · rename_i hsz
          cases hnew; subst hsz; rw [e3] at hx
          generalize a.eval z = v at hx
          cases hx with | osl hd _ => exact ⟨zz, hd⟩
        · cases hnew
      · cases hnew
    obtain ⟨zz, hd⟩ := hd
    obtain ⟨ad, cap, news, e3, hcap, hnil, hnl, hnc, hnv, hn1, hrow⟩ := hd.cells (fun b o q hq => hs.hr.st b o q hq)
    obtain ⟨q, w', κ', c1, c2, c3, c4⟩ := appV_core (ty := ty) hs.hr ht ⟨_, hu, fun k => by simp⟩ hi hz0 hzs hby hv (xv := a.eval z) r new news (by rw [e3]; rfl) (fun w1 hw1 => by
      rw [e3]
      cases ad with
      | none => obtain ⟨h0, -, -⟩ := hnil rfl; cases h0
      | some q =>
        obtain ⟨qb, qo, qs⟩ := q
        obtain ⟨hq1, hq2⟩ := hnc _ rfl
        have hq1 := hq1 (by simp)
        simp only at hq1
        subst hq1
        exact run_firstCells_some w1 ti.size (new.length + 1) ⟨qb, qo, none⟩ (new.length + 1) cap news hnl (fun j v hv => by
          have := hq2 j v hv
          rw [add_mk] at this ⊢
          rw [hw1]; exact this)) hnl hrow hnv hn1 h
    exact ⟨q, w', κ', .inl (run_val _ _ _ (by simpa using c1)), c2, c3, c4⟩
  · cases h

theorem does_cutV {t e : TypeId} {ti : TypeInfo} {y hi : Operand} {y' hi' : Arg} (hs : SR κ nt fr H a w) (ht : P.underlying t = some (.slice e)) (hti : P.info? e = some ti) (hy : cArg P t y = some y') (hh : cArg P 0 hi = some hi')
    (h : stepI fr H (.cutV ti.size y' hi') = some (x, H')) :
    Does P (do pure (.value (← Instr.sliceAt t (a.eval y) none (some (a.eval hi)) none))) w κ H' x := by
  have hv := cArg_sound hy hs
  have hn := cArg_sound hh hs
  simp only [stepI] at h
  split at h
  · rename_i i k len kk n e1 e2
    split at h
    · rename_i hc
      obtain ⟨h0, hle⟩ := hc
      cases h
      rw [e1] at hv; rw [e2] at hn
      generalize hev : a.eval y = v at hv
      cases hv with
      | vsl _ _ _ ad cap hlc hf =>
      have hfit : vecFit (κ.β i) (.slice (if cap = 0 then ad else ad.map (·.add 0)) n.toNat cap) k n.toNat := by
        generalize κ.β i = B at hf
        cases B with
        | vec b c l k' sz =>
          refine ⟨hf.1, fun e => ?_⟩
          obtain ⟨h1, h2⟩ := hf.2 e
          cases h2
          refine ⟨by omega, ?_⟩
          split <;> simp [add_mk]
        | deadT => trivial
        | _ => exact hf.elim
      have hb := run_bounds (P := P) (w := w) true len cap none (some (.int kk n)) none 0 n.toNat cap (.inl ⟨rfl, rfl⟩) (.inr ⟨kk, by rw [Int.toNat_of_nonneg h0]⟩) (.inl ⟨rfl, rfl⟩) (by omega) (by omega) (Nat.le_refl _)
      refine .same (u := .slice (if cap = 0 then ad else ad.map (·.add 0)) n.toNat cap) (run_val _ _ _ ?_) hs.hr (.vsl _ _ _ _ _ (by omega) hfit)
      rw [hn.int_inv]
      simp [Instr.sliceAt, run_underlying ht, Instr.slice, hb, sizeOf, typeInfo, hti]
    · cases h
  · cases h

/-! maps -/

open Go.MapKept

theorem does_mkMap {t : TypeId} (hs : SR κ nt fr H a w) (h : stepI fr H .mkMap = some (x, H')) : Does P (do pure (.value (← Instr.makeMap t none))) w κ H' x := by
  simp only [stepI, Option.some.injEq, Prod.mk.injEq] at h
  obtain ⟨rfl, rfl⟩ := h
  have hp := hs.hr.push (.map #[] 0) (.map w.heap.size) (.mp []) rfl rfl ⟨w.heap.size, #[], 0, upd_same _ _ _, by show (w.heap.push _)[w.heap.size]? = _; simp, rfl, fun j x hx => by simp at hx⟩
  exact ⟨_, _, _, .inl (run_val _ _ _ rfl), hp.1, hp.2, .map _ _ (upd_same _ _ _)⟩

theorem keyOf_isKey {kt : TypeId} {d : TypeDesc} {key k : D} {v : Value} {σ : St} (hd : P.underlying kt = some d) (hp : primD P kt = some key) (hk : keyOf key k = true) (hv : DR σ v k) : IsKey d v := by
  unfold primD at hp
  rw [hd] at hp
  cases d <;> simp only [Option.some.injEq, reduceCtorEq] at hp <;> subst hp <;> cases hv <;> simp_all [keyOf, IsKey]

theorem ba_eq (s s' : ByteArray) : s = s' ↔ s.data.toList = s'.data.toList := by
  obtain ⟨⟨s⟩⟩ := s
  obtain ⟨⟨s'⟩⟩ := s'
  simp

theorem sameK_iff {key k k' : D} {u v : Value} {σ : St} (hk : keyOf key k = true) (hk' : keyOf key k' = true) (hu : DR σ u k) (hv : DR σ v k') : u = v ↔ sameK k k' = true := by
  cases hu <;> first | (cases key <;> simp [keyOf] at hk; done) | skip
  all_goals cases hv <;> first | (cases key <;> simp [keyOf] at hk hk'; done) | skip
  · simp [sameK]
  · cases key <;> simp [keyOf] at hk hk'
    subst hk; subst hk'
    simp [sameK]
  · simp [sameK, ba_eq]

theorem findNow_mp {d : TypeDesc} {key k : D} {u : Value} (hu : DR κ.σ u k) (hkk : keyOf key k = true) (hiu : IsKey d u) (val : A) : ∀ (l : List MapEntry) (m : List (D × A)) (i : Nat), l.length = m.length → (∀ e ∈ m, keyOf key e.1 = true) → (∀ x ∈ l, IsKey d x.key) →
    (∀ (j : Nat) (x : D × A), m[j]? = some x → ∃ e, l[j]? = some e ∧ DR κ.σ e.key x.1 ∧ VR κ e.val x.2) →
    (mpGet k m = none ∧ Instr.findNow d u l i = some none ∧ mpPut k val m = m ++ [(k, val)]) ∨
    ∃ j e a', mpGet k m = some a' ∧ Instr.findNow d u l i = some (some (i + j, e.val)) ∧ l[j]? = some e ∧ e.key = u ∧ VR κ e.val a' ∧ mpPut k val m = m.set j (k, val)
  | [], m, i, hl, _, _, _ => by
    have : m = [] := List.eq_nil_of_length_eq_zero hl.symm
    subst this
    exact .inl ⟨rfl, rfl, rfl⟩
  | e :: l, [], i, hl, _, _, _ => by simp at hl
  | e :: l, x :: m, i, hl, hm, hi, hr => by
    obtain ⟨e', h1, h2, h3⟩ := hr 0 x rfl
    simp only [List.getElem?_cons_zero, Option.some.injEq] at h1
    subst h1
    obtain ⟨r, hr1, hr2⟩ := sameNow_of_keys hiu (hi e (by simp))
    have hiff := sameK_iff (hkk) (hm x (by simp)) hu h2
    cases hsk : sameK k x.1 with
    | true =>
      have hue := hiff.2 hsk
      have : r = true := hr2.2 hue
      subst this
      exact .inr ⟨0, e, x.2, by simp [mpGet, hsk], by simp [Instr.findNow, hr1], rfl, hue.symm, h3, by simp [mpPut, hsk]⟩
    | false =>
      have hr0 : r = false := by
        cases r with
        | false => rfl
        | true => have := hiff.1 (hr2.1 rfl); rw [hsk] at this; cases this
      subst hr0
      rcases findNow_mp hu hkk hiu val l m (i + 1) (by simpa using hl) (fun e he => hm e (by simp [he])) (fun y hy => hi y (by simp [hy])) (fun j y hy => by
        have := hr (j + 1) y (by simpa using hy)
        simpa using this) with ⟨q1, q2, q3⟩ | ⟨j, e2, a', q1, q2, q3, q4, q5, q6⟩
      · exact .inl ⟨by simp [mpGet, hsk, q1], by simp [Instr.findNow, hr1, q2], by simp [mpPut, hsk, q3]⟩
      · exact .inr ⟨j + 1, e2, a', by simp [mpGet, hsk, q1], by simp [Instr.findNow, hr1, q2]; omega, by simpa using q3, q4, q5, by simp [mpPut, hsk, q6]⟩

theorem zA_sound {et : TypeId} {z : List D} (hz : zeroOf P et = some z) (w : World) : ∃ v, (zeroValue et).run P w = .ok v w ∧ VR κ v (zA (zAgg P et) z) := by
  obtain ⟨ti, zv, z1, z2, z3, z4⟩ := zeroOf_spec hz
  refine ⟨zv, by simp [zeroValue, typeInfo, z1, z2], ?_⟩
  unfold zA zAgg
  rw [z1]
  simp only [Option.bind_some, z2]
  cases zv with
  | agg cs =>
    simp only [if_true]
    have := VR.agg (κ := κ) cs.toList (z.map .d) (by simpa [Value.cells] using z3) (fun i v a hv ha => by
      simp only [List.getElem?_map, Option.map_eq_some_iff] at ha
      obtain ⟨d, hd, rfl⟩ := ha
      exact .d (z4 _ i v d (by simpa [Value.cells] using hv) hd))
    simpa using this
  | _ =>
    simp only [Bool.false_eq_true, if_false]
    cases z with
    | nil => simp [Value.cells] at z3
    | cons d r => exact .d (z4 _ 0 _ d (by simp [Value.cells]) rfl)

theorem does_lkp {t kt et : TypeId} {key : D} {z : List D} {ok : Bool} {y k : Operand} {y' k' : Arg} (hs : SR κ nt fr H a w) (ht : P.underlying t = some (.map kt et)) (hk : primD P kt = some key) (hz : zeroOf P et = some z) (hy : cArg P t y = some y') (hkk : cArg P kt k = some k')
    (h : stepI fr H (.lkp ok key (zAgg P et) z y' k') = some (x, H')) :
    Does P (do pure (.value (← Instr.lookup t (a.eval y) (a.eval k) ok))) w κ H' x := by
  have hv := cArg_sound hy hs
  have hkv := cArg_sound hkk hs
  obtain ⟨d, hd⟩ : ∃ d, P.underlying kt = some d := by
    cases e : P.underlying kt with
    | none => simp [primD, e] at hk
    | some d => exact ⟨d, rfl⟩
  obtain ⟨zv, hzv, hzr⟩ := zA_sound (κ := κ) hz w
  have fin0 : ∀ (es : Array MapEntry), ((a.eval y = .map none ∧ es = #[]) ∨ ∃ r clock, a.eval y = .map (some r) ∧ w.heap[r]? = some (.map es clock)) → ∀ kd, DR κ.σ (a.eval k) kd → keyOf key kd = true → Instr.findNow d (a.eval k) es.toList 0 = some none → ∀ xx, xx = (if ok then A.tup [zA (zAgg P et) z, .d (.bool false)] else zA (zAgg P et) z) →
      Does P (do pure (.value (← Instr.lookup t (a.eval y) (a.eval k) ok))) w κ H xx := by
    rintro es hes kd hdr hko hfn xx rfl
    have hik := keyOf_isKey hd hk hko hdr
    refine .same (u := if ok then .tuple #[zv, .bool false] else zv) (run_val _ _ _ ?_) hs.hr ?_
    · rcases hes with ⟨e1, rfl⟩ | ⟨r, clock, e1, e2⟩
      · rw [e1]
        simp [Instr.lookup, run_underlying ht, run_checkKey hd hik, run_findKey hd hfn, hzv]
      · rw [e1]
        simp [Instr.lookup, run_underlying ht, MapKept.run_getObj_map e2, run_checkKey hd hik, run_findKey hd hfn, hzv]
    · cases ok with
      | false => simpa using hzr
      | true =>
        simp only [if_true]
        exact .tup [zv, .bool false] _ rfl (fun i v a hv ha => by
          match i with
          | 0 => simp at hv ha; subst hv; subst ha; exact hzr
          | 1 => simp at hv ha; subst hv; subst ha; exact .d (.bool _)
          | i + 2 => simp at hv)
  simp only [stepI] at h
  split at h
  · rename_i kd i e1 e2
    rw [e2] at hv; rw [e1] at hkv
    split at h
    · rename_i l hH
      split at h
      · rename_i hok
        simp only [mpOk, Bool.and_eq_true, List.all_eq_true] at hok
        obtain ⟨hko, hall⟩ := hok
        obtain ⟨b, es, clock, hβ, hheap, hlen, hes⟩ := hs.hr.ob i _ hH
        generalize hev : a.eval y = vy at hv
        cases hv with
        | map _ b' hb =>
        obtain rfl : b' = b := by rw [hb] at hβ; cases hβ; rfl
        have hik := keyOf_isKey hd hk hko hkv.d_inv
        have hrel : ∀ (j : Nat) (x : D × A), l[j]? = some x → ∃ e, es.toList[j]? = some e ∧ DR κ.σ e.key x.1 ∧ VR κ e.val x.2 := fun j x hx => by
          obtain ⟨e, h1, h2, h3⟩ := hes j x hx
          exact ⟨e, by simpa using h1, h2, h3⟩
        have hisk : ∀ e ∈ es.toList, IsKey d e.key := fun e he => by
          obtain ⟨j, hj, rfl⟩ := List.getElem_of_mem he
          have hj' : j < l.length := by rw [← hlen]; simpa using hj
          obtain ⟨e', h1, h2, -⟩ := hrel j l[j] (List.getElem?_eq_getElem hj')
          rw [List.getElem?_eq_getElem hj] at h1
          cases h1
          exact keyOf_isKey hd hk (hall _ (List.getElem_mem hj')) h2
        rcases findNow_mp hkv.d_inv hko hik (.undef) es.toList l 0 (by simpa using hlen) (fun e he => hall e he) hisk hrel with ⟨q1, q2, -⟩ | ⟨j, e, a', q1, q2, q3, q4, q5, -⟩
        · rw [q1] at h
          cases h
          rw [← hev]
          exact fin0 es (.inr ⟨b', clock, hev, hheap⟩) kd hkv.d_inv hko q2 _ rfl
        · rw [q1] at h
          cases h
          rw [← hev]
          refine .same (u := if ok then .tuple #[e.val, .bool true] else e.val) (run_val _ _ _ ?_) hs.hr ?_
          · rw [hev]
            simp [Instr.lookup, run_underlying ht, MapKept.run_getObj_map hheap, run_checkKey hd hik, run_findKey hd q2]
          · cases ok with
            | false => simpa using q5
            | true =>
              simp only [if_true]
              exact .tup [e.val, .bool true] _ rfl (fun i v a hv ha => by
                match i with
                | 0 => simp at hv ha; subst hv; subst ha; exact q5
                | 1 => simp at hv ha; subst hv; subst ha; exact .d (.bool _)
                | i + 2 => simp at hv)
      · cases h
    · cases h
  · rename_i kd e1 e2
    rw [e2] at hv; rw [e1] at hkv
    split at h
    · rename_i hko
      cases h
      have hev : a.eval y = .map none := by
        generalize a.eval y = vy at hv
        cases hv with | d h => cases h; rfl
      exact fin0 #[] (.inl ⟨hev, rfl⟩) kd hkv.d_inv hko rfl _ rfl
    · cases h
  · cases h

theorem mpUpd_core {t kt et : TypeId} {key kd : D} {i : Nat} {l : List (D × A)} {vm vk vv : Value} {va : A} (hr : HR κ H w) (ht : P.underlying t = some (.map kt et)) (hk : primD P kt = some key) (hm : VR κ vm (.map i)) (hkv : DR κ.σ vk kd) (hvv : VR κ vv va) (hH : H[i]? = some (.mp l))
    (hok : mpOk key kd l = true) (hf : va.flat = true) : ∃ w', (Instr.mapUpdate t vm vk vv).run P w = .ok () w' ∧ HR κ (H.set i (.mp (mpPut kd va l))) w' := by
  obtain ⟨d, hd⟩ : ∃ d, P.underlying kt = some d := by
    cases e : P.underlying kt with
    | none => simp [primD, e] at hk
    | some d => exact ⟨d, rfl⟩
  simp only [mpOk, Bool.and_eq_true, List.all_eq_true] at hok
  obtain ⟨hko, hall⟩ := hok
  have hil : i < H.length := (List.getElem?_eq_some_iff.1 hH).1
  obtain ⟨b, es, clock, hβ, hheap, hlen, hes⟩ := hr.ob i _ hH
  cases hm with
  | map _ b' hb =>
  obtain rfl : b' = b := by rw [hb] at hβ; cases hβ; rfl
  have hik := keyOf_isKey hd hk hko hkv
  have hrel : ∀ (j : Nat) (x : D × A), l[j]? = some x → ∃ e, es.toList[j]? = some e ∧ DR κ.σ e.key x.1 ∧ VR κ e.val x.2 := fun j x hx => by
    obtain ⟨e, h1, h2, h3⟩ := hes j x hx
    exact ⟨e, by simpa using h1, h2, h3⟩
  have hisk : ∀ e ∈ es.toList, IsKey d e.key := fun e he => by
    obtain ⟨j, hj, rfl⟩ := List.getElem_of_mem he
    have hj' : j < l.length := by rw [← hlen]; simpa using hj
    obtain ⟨e', h1, h2, -⟩ := hrel j l[j] (List.getElem?_eq_getElem hj')
    rw [List.getElem?_eq_getElem hj] at h1
    cases h1
    exact keyOf_isKey hd hk (hall _ (List.getElem_mem hj')) h2
  have hfl := hr.fl i _ hH
  have put : ∀ (es' : Array MapEntry) (c' : Nat), es'.size = (mpPut kd va l).length → (∀ (j : Nat) (x : D × A), (mpPut kd va l)[j]? = some x → ∃ e, es'[j]? = some e ∧ DR κ.σ e.key x.1 ∧ VR κ e.val x.2) → (mpPut kd va l).all (fun e => e.2.flat) = true →
      HR κ (H.set i (.mp (mpPut kd va l))) { w with heap := w.heap.setIfInBounds b' (.map es' c') } := fun es' c' hl hrl hff => by
    have hlt : b' < w.heap.size := (Array.getElem?_eq_some_iff.1 hheap).1
    have hne : ∀ k, k ≠ b' → (w.heap.setIfInBounds b' (.map es' c'))[k]? = w.heap[k]? := (heap_set hheap).2
    have hbx := hr.ex i b' (by rw [hb]; rfl)
    have hrep := hr.replace i (κ.β i) (.mp (mpPut kd va l)) (w' := { w with heap := w.heap.setIfInBounds b' (.map es' c') }) hil (Bind.le_refl _) hff (by simp) ⟨hr.below.os, hr.below.tape, hr.below.output, by simpa using hr.below.size, fun k hk => (hne k (by omega)).trans (hr.below.block k hk)⟩
      (fun k _ hk => hne k (fun e => hk (by rw [hb, e]; rfl))) (fun b2 o hb2 => by rw [hb] at hb2 ⊢; cases hb2; exact rfl) (fun b2 hb2 => .inl hb2) ⟨b', es', c', by show upd κ.β i _ i = _; rw [upd_same]; exact hb, (heap_set hheap).1, hl, fun j x hx => by
        have hsame : (upd κ.β i (κ.β i)) = κ.β := by
          funext j; by_cases hj : j = i
          · subst hj; rw [upd_same]
          · rw [upd_ne _ _ hj]
        rw [hsame]; exact hrl j x hx⟩
    have hsame : (upd κ.β i (κ.β i)) = κ.β := by
      funext j; by_cases hj : j = i
      · subst hj; rw [upd_same]
      · rw [upd_ne _ _ hj]
    rw [hsame] at hrep
    exact hrep.2
  rcases findNow_mp hkv hko hik va es.toList l 0 (by simpa using hlen) (fun e he => hall e he) hisk hrel with ⟨q1, q2, q3⟩ | ⟨j, e, a', q1, q2, q3, q4, q5, q6⟩
  · refine ⟨_, by simp [Instr.mapUpdate, run_underlying ht, MapKept.run_getObj_map hheap, run_checkKey hd hik, run_findKey hd q2, run_setObj_map _ hheap, Result.andThen]; rfl, put _ _ (by rw [q3]; simp [hlen]) (fun j x hx => ?_) ?_⟩
    · rw [q3] at hx
      by_cases hj : j < l.length
      · rw [List.getElem?_append_left hj] at hx
        obtain ⟨e, h1, h2⟩ := hes j x hx
        exact ⟨e, by rw [Array.getElem?_push_lt (by omega)]; rw [← h1]; exact (Array.getElem?_eq_getElem (by omega)).symm, h2⟩
      · rw [List.getElem?_append_right (by omega)] at hx
        have hj0 : j - l.length = 0 := by
          have := (List.getElem?_eq_some_iff.1 hx).1
          simp at this; omega
        rw [hj0] at hx
        simp at hx
        subst hx
        have : j = es.size := by omega
        subst this
        exact ⟨_, Array.getElem?_push_size, hkv, hvv⟩
    · rw [q3]
      simp only [Ob.flat] at hfl
      simp [List.all_append, hf]
      simpa using hfl
  · have hj : es[j]? = some e := by simpa using q3
    refine ⟨_, by simp [Instr.mapUpdate, run_underlying ht, MapKept.run_getObj_map hheap, run_checkKey hd hik, run_findKey hd q2, hj, q4, run_keyThatStays hik, run_setObj_map _ hheap, Result.andThen]; rfl, put _ _ (by rw [q6]; simp [hlen]) (fun m x hx => ?_) ?_⟩
    · rw [q6] at hx
      by_cases hmj : j = m
      · subst hmj
        have hjl : j < l.length := by rw [← hlen]; exact (Array.getElem?_eq_some_iff.1 hj).1
        rw [List.getElem?_set_self hjl] at hx
        cases hx
        refine ⟨{ e with key := vk, val := vv }, ?_, hkv, hvv⟩
        simp [Array.getElem?_modify, hj]
      · rw [List.getElem?_set_ne hmj] at hx
        obtain ⟨e', h1, h2⟩ := hes m x hx
        exact ⟨e', by simp [Array.getElem?_modify, hmj, h1], h2⟩
    · rw [q6]
      simp only [Ob.flat, List.all_eq_true] at hfl ⊢
      intro y hy
      rcases List.mem_or_eq_of_mem_set hy with h1 | h1
      · exact hfl y h1
      · subst h1; exact hf

theorem does_mpUpd {t kt et : TypeId} {key : D} {y k v : Operand} {y' k' v' : Arg} (hs : SR κ nt fr H a w) (ht : P.underlying t = some (.map kt et)) (hk : primD P kt = some key) (hy : cArg P t y = some y') (hkk : cArg P kt k = some k') (hvv : cArg P et v = some v')
    (h : stepI fr H (.mpUpd key y' k' v') = some (x, H')) :
    Does P (do Instr.mapUpdate t (a.eval y) (a.eval k) (a.eval v); pure .skip) w κ H' x := by
  have hv := cArg_sound hy hs
  have hkv := cArg_sound hkk hs
  have hvr := cArg_sound hvv hs
  simp only [stepI] at h
  split at h
  · rename_i i kd e1 e2
    rw [e1] at hv; rw [e2] at hkv
    split at h
    · rename_i l hH
      split at h
      · rename_i hok
        cases h
        obtain ⟨w', h1, h2⟩ := mpUpd_core hs.hr ht hk hv hkv.d_inv hvr hH hok.1 hok.2
        exact ⟨undef, w', κ, .inr ⟨by simp only [Sem.run_bind, h1, Result.andThen_ok, Sem.run_pure], rfl⟩, K.le_refl κ, h2, .tup [] [] rfl (by simp)⟩
      · cases h
    · cases h
  · cases h

end
end Go.Zam
