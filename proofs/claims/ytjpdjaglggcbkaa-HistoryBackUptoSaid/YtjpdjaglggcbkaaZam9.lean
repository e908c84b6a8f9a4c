/-
  An abstract machine over the model, ninth part: struct values and rows that are made; append. No program in sight. No condition.
-/
import Derived.Test.YtjpdjaglggcbkaaZam8
namespace Go.Zam
open Go.RowKit (Below)

theorem toD_sound {κ : K} {v : Value} {a : A} {d : D} (h : VR κ v a) (hd : a.toD = some d) : DR κ.σ v d := by
  unfold A.toD at hd
  split at hd
  · cases hd; exact h.d_inv
  · cases hd; cases h; assumption
  · cases hd
    cases h with
    | fn f vs1 vs2 _ _ hl1 hl2 _ _ =>
      have e1 : vs1 = [] := List.eq_nil_of_length_eq_zero (by simpa using hl1)
      have e2 : vs2 = [] := List.eq_nil_of_length_eq_zero (by simpa using hl2)
      subst e1; subst e2
      exact .fn _
  · cases hd

theorem setL_get {α : Type} : ∀ (r : List α) (l : List α) (i k : Nat), i + r.length ≤ l.length → (setL l i r)[k]? = if i ≤ k ∧ k < i + r.length then r[k - i]? else l[k]?
  | [], l, i, k, _ => by simp only [setL, List.length_nil, Nat.add_zero]; rw [if_neg (by omega)]
  | x :: r, l, i, k, h => by
    simp only [List.length_cons] at h
    rw [setL, setL_get r (l.set i x) (i + 1) k (by simp; omega)]
    by_cases h1 : i + 1 ≤ k ∧ k < i + 1 + r.length
    · rw [if_pos h1, if_pos (by simp; omega)]
      have : k - i = (k - (i + 1)) + 1 := by omega
      rw [this]; simp
    · rw [if_neg h1]
      by_cases h2 : k = i
      · subst h2
        rw [if_pos (by simp), List.getElem?_set_self (by omega)]; simp
      · rw [if_neg (by simp; omega), List.getElem?_set_ne (by omega)]

theorem fill_fold (off : Nat) : ∀ (vs : List Value) (k : Nat) (cells : Array Value), ((vs.zipIdx k).foldl (fun cs (p : Value × Nat) => cs.setIfInBounds (off + p.2) p.1) cells).toList = setL cells.toList (off + k) vs
  | [], _, _ => rfl
  | v :: r, k, cells => by
    rw [List.zipIdx_cons, List.foldl_cons, fill_fold off r (k + 1)]
    simp [setL, Nat.add_assoc]

theorem fill_step (off : Nat) (v : Value) (cells : Array Value) : (v.cells.zipIdx.foldl (fun cs (p : Value × Nat) => cs.setIfInBounds (off + p.2) p.1) cells).toList = setL cells.toList off v.cells.toList := by
  have := fill_fold off v.cells.toList 0 cells
  rw [Nat.add_zero] at this
  rw [← this]
  congr 1
  rw [← Array.foldl_toList]
  simp [Array.toList_zipIdx]

section
variable {P : Program} {κ : K} {nt : Nat} {fr : Fr} {H H' : Hp} {a : Act} {w : World} {x : A} {tok : List Nat}

theorem fill_sound (place : Nat → Option (Nat × Nat)) : ∀ (ps : List (Nat × Value)) (qs : List (Nat × Nat × A)) (cells : Array Value) (cs r : List A), ps.length = qs.length →
    (∀ (i : Nat) (p : Nat × Value) (q : Nat × Nat × A), ps[i]? = some p → qs[i]? = some q → place p.1 = some (q.1, q.2.1) ∧ VR κ p.2 q.2.2) →
    cells.size = cs.length → (∀ (i : Nat) (v : Value) (b : A), cells.toList[i]? = some v → cs[i]? = some b → VR κ v b) → fillA qs cs = some r →
    ∃ out : Array Value, Instr.fill place cells ps = some out ∧ out.size = r.length ∧ ∀ (i : Nat) (v : Value) (b : A), out.toList[i]? = some v → r[i]? = some b → VR κ v b := by
  intro ps
  induction ps with
  | nil =>
    intro qs cells cs r hl _ hsz hv hf
    cases qs with
    | nil => simp only [fillA, Option.some.injEq] at hf; subst hf; exact ⟨cells, rfl, hsz, hv⟩
    | cons q qs => simp at hl
  | cons p ps ih =>
    intro qs cells cs r hl hp hsz hv hf
    cases qs with
    | nil => simp at hl
    | cons q qs =>
      obtain ⟨off, n, b⟩ := q
      obtain ⟨i, v⟩ := p
      simp only [fillA] at hf
      split at hf
      · rename_i hc
        obtain ⟨hpl, hvr⟩ := hp 0 (i, v) (off, n, b) rfl rfl
        obtain ⟨hlc, hcv⟩ := A.cells_of hvr hc.2.1
        simp only at hpl hlc
        have hvs : v.cells.size = n := by rw [← hc.1, ← hlc]; simp
        have hfs := fill_step off v cells
        have hsz2 : (v.cells.zipIdx.foldl (fun cs (p : Value × Nat) => cs.setIfInBounds (off + p.2) p.1) cells).size = (setL cs off b.cells).length := by
          rw [← Array.length_toList, hfs, setL_length, setL_length]; simpa using hsz
        obtain ⟨out, h1, h2, h3⟩ := ih qs _ (setL cs off b.cells) r (by simpa using hl) (fun k p q hp' hq' => hp (k + 1) p q (by simpa using hp') (by simpa using hq')) hsz2 (fun k u c hu hc' => by
          rw [hfs, setL_get _ _ _ _ (by simp; omega)] at hu
          rw [setL_get _ _ _ _ (by omega)] at hc'
          have hbl : v.cells.toList.length = b.cells.length := hlc
          rw [hbl] at hu
          split at hu
          · rename_i hk
            rw [if_pos hk] at hc'
            exact hcv _ u c hu hc'
          · rename_i hk
            rw [if_neg hk] at hc'
            exact hv k u c hu hc') hf
        refine ⟨out, ?_, h2, h3⟩
        simp only [Instr.fill, hpl]
        rw [if_neg (by simp; omega)]
        exact h1
      · cases hf

theorem mapM_places {P : Program} {w : World} : ∀ (l : List Field), (∀ f ∈ l, (P.info? f.type).isSome = true) → (l.mapM (fun f => (do pure (f.offset, ← sizeOf f.type) : Sem (Nat × Nat)))).run P w = .ok (l.map fun f => (f.offset, ((P.info? f.type).map (·.size)).getD 0)) w
  | [], _ => by simp
  | f :: r, h => by
    have ih := mapM_places (P := P) (w := w) r (fun g hg => h g (by simp [hg]))
    obtain ⟨i, hi⟩ := Option.isSome_iff_exists.1 (h f (by simp))
    simp only [List.mapM_cons, Sem.run_bind, sizeOf, typeInfo, run_program, Result.andThen_ok, hi, Sem.run_pure, List.map_cons, Option.map_some, Option.getD_some]
    simp only [sizeOf, typeInfo] at ih
    rw [ih]
    rfl

theorem zeroOf_spec {t : TypeId} {z : List D} (h : zeroOf P t = some z) : ∃ i v, P.info? t = some i ∧ i.zero = some v ∧ v.cells.size = z.length ∧ ∀ (σ : St) (j : Nat) (u : Value) (b : D), v.cells.toList[j]? = some u → z[j]? = some b → DR σ u b := by
  unfold zeroOf at h
  split at h
  · rename_i i z' hi hzd
    split at h
    · rename_i v hv
      split at h
      · rename_i hok
        cases h
        simp only [Bool.and_eq_true, beq_iff_eq, List.all_eq_true] at hok
        obtain ⟨hl, hall⟩ := hok
        refine ⟨i, v, hi, hv, by simpa using hl, fun σ j u b hu hb => vOk_sound (hall (u, b) ?_)⟩
        refine List.mem_of_getElem? (i := j) ?_
        rw [List.getElem?_zip_eq_some]; exact ⟨hu, hb⟩
      · cases h
    · cases h
  · cases h

theorem does_build {t : TypeId} {fs : Array Field} {z : List D} {parts : Array (Nat × Operand)} {ps : List (Nat × Nat × Arg)} (hs : SR κ nt fr H a w) (ht : P.underlying t = some (.struct fs)) (hz : zeroOf P t = some z)
    (hps : parts.toList.mapM (fun (x : Nat × Operand) => do
        let fd ← fs[x.1]?
        let i ← P.info? fd.type
        let y ← cArg P fd.type x.2
        pure (fd.offset, i.size, y)) = some ps) (hfs : (fs.all fun f => (P.info? f.type).isSome) = true) (h : stepI fr H (.build z ps) = some (x, H')) :
    Does P (do pure (.value (← Instr.build t (parts.map fun (i, x) => (i, a.eval x))))) w κ H' x := by
  simp only [stepI, Option.map_eq_some_iff] at h
  obtain ⟨cs, hcs, h⟩ := h
  simp only [Prod.mk.injEq] at h
  obtain ⟨rfl, rfl⟩ := h
  obtain ⟨ti, zv, h1, h2, h3, h4⟩ := zeroOf_spec hz
  have hall : ∀ f ∈ fs.toList, (P.info? f.type).isSome = true := fun f hf => Array.all_eq_true_iff_forall_mem.1 hfs f (by simpa using hf)
  have hpl := mapM_places (P := P) (w := w) fs.toList hall
  have hpl' : (fs.mapM (fun f => (do pure (f.offset, ← sizeOf f.type) : Sem (Nat × Nat)))).run P w = .ok ((fs.toList.map fun f => (f.offset, ((P.info? f.type).map (·.size)).getD 0)).toArray) w := by
    rw [Array.mapM_eq_mapM_toList]
    simp only [Sem.run_map, hpl, Result.andThen_ok]
  have key : ∀ (l : List (Nat × Operand)) (ps : List (Nat × Nat × Arg)), l.mapM (fun (x : Nat × Operand) => do
        let fd ← fs[x.1]?
        let i ← P.info? fd.type
        let y ← cArg P fd.type x.2
        pure (fd.offset, i.size, y)) = some ps → l.length = ps.length ∧ ∀ (i : Nat) (p : Nat × Value) (q : Nat × Nat × A), (l.map fun x => (x.1, a.eval x.2))[i]? = some p → (ps.map fun x => (x.1, x.2.1, x.2.2.ev fr))[i]? = some q →
          (((fs.toList.map fun f => (f.offset, ((P.info? f.type).map (·.size)).getD 0)).toArray)[p.1]? = some (q.1, q.2.1)) ∧ VR κ p.2 q.2.2 := by
    intro l
    induction l with
    | nil => intro ps h; simp at h; subst h; simp
    | cons y r ih =>
      intro ps h
      simp only [List.mapM_cons, Option.bind_eq_bind, Option.bind_eq_some_iff, Option.pure_def, Option.some.injEq] at h
      obtain ⟨q, ⟨fd, hfd, i, hi, y', hy', rfl⟩, qs, hqs, rfl⟩ := h
      obtain ⟨i1, i2⟩ := ih qs hqs
      refine ⟨by simp [i1], fun k p q hp hq => ?_⟩
      cases k with
      | zero =>
        simp at hp hq
        subst hp; subst hq
        refine ⟨?_, cArg_sound hy' hs⟩
        simp [hfd, hi]
      | succ k => exact i2 k p q (by simpa using hp) (by simpa using hq)
  obtain ⟨k1, k2⟩ := key _ _ hps
  obtain ⟨out, f1, f2, f3⟩ := fill_sound (κ := κ) (fun i => ((fs.toList.map fun f => (f.offset, ((P.info? f.type).map (·.size)).getD 0)).toArray)[i]?) (parts.toList.map fun x => (x.1, a.eval x.2)) _ zv.cells (z.map .d) cs
    (by simpa using k1) k2 (by simpa using h3) (fun i v b hv hb => by
      simp only [List.getElem?_map, Option.map_eq_some_iff] at hb
      obtain ⟨d, hd, rfl⟩ := hb
      exact .d (h4 _ i v d hv hd)) hcs
  refine .same (u := .agg out) (run_val _ _ _ ?_) hs.hr ?_
  · have e1 : (parts.map fun (x : Nat × Operand) => (x.1, a.eval x.2)).toList = parts.toList.map fun x => (x.1, a.eval x.2) := by simp
    simp only [Instr.build, zeroValue, typeInfo, Sem.run_bind, run_program, Result.andThen_ok, h1, Sem.run_pure, h2, run_underlying ht]
    simp only [hpl', Result.andThen_ok]
    have e2 : (Array.map (fun (x : Nat × Operand) => match x with | (i, y) => (i, a.eval y)) parts).toList = parts.toList.map fun x => (x.1, a.eval x.2) := by simp
    rw [e2]
    rw [f1]
    rfl
  · have : out = out.toList.toArray := by simp
    rw [this]
    exact .agg _ _ (by simpa using f2) f3

/-- the cells behind a row that is never written -/
theorem DR.cells {σ : St} {z : Bool} {sz : Nat} {rows : List (List D)} {v : Value} (h : DR σ v (.sl z sz rows)) {w : World} (hw : ∀ b o u, σ b o = some u → w.cell? ⟨b, o, none⟩ = some u) :
    ∃ (ad : Option Addr) (cap : Nat) (vs : List Value), v = .slice ad rows.length cap ∧ rows.length ≤ cap ∧ (ad = none → rows = [] ∧ cap = 0 ∧ z = true) ∧ vs.length = rows.length * sz ∧
      (∀ q, ad = some q → (rows ≠ [] → q.spot = none) ∧ ∀ (j : Nat) (u : Value), vs[j]? = some u → w.cell? (q.add j) = some u) ∧
      (∀ (k j : Nat) (r : List D) (x : D), rows[k]? = some r → r[j]? = some x → ∃ u, vs[k * sz + j]? = some u ∧ DR σ u x) ∧ (∀ u ∈ vs, u.oneCell' = true) ∧ (∀ (k : Nat) (r : List D), rows[k]? = some r → r.length = sz) := by
  rcases h.sl_inv with ⟨rfl, rfl, rfl⟩ | ⟨ad, cap, rfl, rfl, rfl⟩ | ⟨b, o, cap, f, rfl, hz, hcap, hrow, hc, hd⟩
  · exact ⟨none, 0, [], rfl, Nat.le_refl _, fun _ => ⟨rfl, rfl, rfl⟩, by simp, fun q hq => by (cases hq), by simp, by simp, by simp⟩
  · exact ⟨some ad, cap, [], rfl, Nat.zero_le _, fun h => by (cases h), by simp, fun q _ => ⟨fun h => absurd rfl h, by simp⟩, by simp, by simp, by simp⟩
  · by_cases hsz : sz = 0
    · subst hsz
      refine ⟨_, cap, [], rfl, hcap, fun h => by (cases h), by simp, fun q hq => by cases hq; exact ⟨fun _ => rfl, by simp⟩, fun k j r x hr hx => ?_, by simp, hrow⟩
      have := hrow k r hr
      have : r = [] := List.eq_nil_of_length_eq_zero this
      subst this
      simp at hx
    · have hat : ∀ i, i < rows.length * sz → ∃ r x, rows[i / sz]? = some r ∧ r[i % sz]? = some x := fun i hi => by
        have hk : i / sz < rows.length := Nat.div_lt_of_lt_mul (by rw [Nat.mul_comm]; exact hi)
        have hr : rows[i / sz]? = some rows[i / sz] := List.getElem?_eq_getElem hk
        have hl := hrow _ _ hr
        have hj : i % sz < rows[i / sz].length := by rw [hl]; exact Nat.mod_lt _ (by omega)
        exact ⟨_, _, hr, List.getElem?_eq_getElem hj⟩
      refine ⟨_, cap, (List.range (rows.length * sz)).map fun i => f (i / sz) (i % sz), rfl, hcap, fun h => by (cases h), by simp, fun q hq => ?_, fun k j r x hr hx => ?_, fun u hu => ?_, hrow⟩
      · cases hq
        refine ⟨fun _ => rfl, fun i u hu => ?_⟩
        simp only [List.getElem?_map, Option.map_eq_some_iff] at hu
        obtain ⟨i', hi', rfl⟩ := hu
        obtain ⟨hlt, rfl⟩ : i < rows.length * sz ∧ i = i' := by
          have h1 := List.getElem?_eq_some_iff.1 hi'
          obtain ⟨h1, h2⟩ := h1
          simp at h1 h2
          exact ⟨h1, h2⟩
        obtain ⟨r, x, hr, hx⟩ := hat i hlt
        have := hc _ _ r x hr hx
        rw [add_mk]
        refine hw _ _ _ ?_
        rw [← this, Nat.add_assoc]
        congr 2
        have := Nat.div_add_mod i sz
        rw [Nat.mul_comm] at this
        omega
      · have hk : k < rows.length := (List.getElem?_eq_some_iff.1 hr).1
        have hj : j < sz := by rw [← hrow k r hr]; exact (List.getElem?_eq_some_iff.1 hx).1
        have hlt : k * sz + j < rows.length * sz := by
          have : (k + 1) * sz ≤ rows.length * sz := Nat.mul_le_mul_right _ hk
          rw [Nat.add_mul] at this; omega
        refine ⟨f k j, ?_, hd k j r x hr hx⟩
        rw [List.getElem?_map, List.getElem?_range hlt]
        simp only [Option.map_some, Option.some.injEq]
        have d1 : (k * sz + j) / sz = k := by rw [Nat.mul_comm, Nat.mul_add_div (by omega), Nat.div_eq_of_lt hj]; omega
        have d2 : (k * sz + j) % sz = j := by rw [Nat.mul_comm, Nat.mul_add_mod]; exact Nat.mod_eq_of_lt hj
        rw [d1, d2]
      · obtain ⟨i, hi, rfl⟩ := List.mem_map.1 hu
        obtain ⟨r, x, hr, hx⟩ := hat i (by simpa using hi)
        have := hd _ _ r x hr hx
        exact (VR.d (κ := ⟨w, σ, fun _ => .none⟩) this).oneCell rfl

end
end Go.Zam
