/-
  An abstract machine over the model, sixth part: what the pieces of an operation do in the model is what the abstract machine says (loads, stores, rows, arguments). No program in sight. No condition.
-/
import Derived.Test.YtjpdjaglggcbkaaZam5
import Derived.Laws.Entries
import Derived.Laws.Append
import Derived.Laws.Strings
import Derived.Lib.Strings
namespace Go.Zam
open Go.RowKit (Below)

theorem add_mk (b o n : Nat) : (⟨b, o, none⟩ : Addr).add n = ⟨b, o + n, none⟩ := by unfold Addr.add; split <;> simp_all

theorem VR.d_inv {κ : K} {v : Value} {x : D} (h : VR κ v (.d x)) : DR κ.σ v x := by cases h; assumption
theorem VR.int_inv {κ : K} {v : Value} {k : IntKind} {n : Int} (h : VR κ v (.d (.int k n))) : v = .int k n := by cases h with | d h => cases h; rfl
theorem VR.bool_inv {κ : K} {v : Value} {b : Bool} (h : VR κ v (.d (.bool b))) : v = .bool b := by cases h with | d h => cases h; rfl
theorem VR.str_inv {κ : K} {v : Value} {s : List UInt8} (h : VR κ v (.d (.str s))) : ∃ t : ByteArray, v = .string t ∧ t.data.toList = s := by
  cases h with | d h => cases h; exact ⟨_, rfl, rfl⟩
theorem VR.fn_inv {κ : K} {v : Value} {f : FuncId} (h : VR κ v (.d (.fn f))) : v = .func (.func f) #[] #[] := by cases h with | d h => cases h; rfl
theorem VR.int {κ : K} (k : IntKind) (n : Int) : VR κ (.int k n) (.d (.int k n)) := .d (.int k n)
theorem VR.bool {κ : K} (b : Bool) : VR κ (.bool b) (.d (.bool b)) := .d (.bool b)
theorem VR.str {κ : K} (s : ByteArray) : VR κ (.string s) (.d (.str s.data.toList)) := .d (.str s)
theorem VR.str' {κ : K} (s : ByteArray) {l : List UInt8} (h : s.data.toList = l) : VR κ (.string s) (.d (.str l)) := by subst h; exact .str s

theorem vOk_sound {σ : St} {v : Value} {d : D} (h : vOk v d = true) : DR σ v d := by
  unfold vOk at h
  split at h
  · simp only [beq_iff_eq] at h; subst h; exact .bool _
  · simp only [Bool.and_eq_true, beq_iff_eq] at h; obtain ⟨rfl, rfl⟩ := h; exact .int _ _
  · simp only [beq_iff_eq] at h; subst h; exact .str _
  · exact .nilsl _
  · exact .nilp
  · exact .nilf
  · exact .nili
  · exact .nilm
  · cases h

theorem cVal_sound {σ : St} {v : Value} {d : D} (h : cVal v = some d) : DR σ v d := by
  unfold cVal at h
  split at h <;> first | (cases h; constructor) | cases h

theorem cArg_sound {P : Program} {ty : TypeId} {x : Operand} {y : Arg} (h : cArg P ty x = some y) {κ : K} {nt : Nat} {fr : Fr} {H : Hp} {a : Act} {w : World} (hs : SR κ nt fr H a w) :
    VR κ (a.eval x) (y.ev fr) := by
  unfold cArg at h
  split at h
  · cases h; exact hs.vr _
  · simp only [Option.map_eq_some_iff] at h
    obtain ⟨z, -, rfl⟩ := h
    exact .d (.nilsl _)
  · simp only [Option.map_eq_some_iff] at h
    obtain ⟨z, hz, rfl⟩ := h
    exact .d (cVal_sound hz)
  · cases h; exact .d (.fn _)
  · cases h

/-- a list of arguments -/
theorem args_sound {P : Program} {κ : K} {nt : Nat} {fr : Fr} {H : Hp} {a : Act} {w : World} (hs : SR κ nt fr H a w) : ∀ (l : List (Operand × TypeId)) (ys : List Arg), l.mapM (fun x => cArg P x.2 x.1) = some ys →
    l.length = ys.length ∧ ∀ (i : Nat) (v : Value) (b : A), (l.map fun x => a.eval x.1)[i]? = some v → (ys.map (Arg.ev fr))[i]? = some b → VR κ v b := by
  intro l
  induction l with
  | nil => intro ys h; simp at h; subst h; simp
  | cons x r ih =>
    intro ys h
    simp only [List.mapM_cons, Option.bind_eq_bind, Option.bind_eq_some_iff, Option.pure_def, Option.some.injEq] at h
    obtain ⟨y, hy, ys', hys', rfl⟩ := h
    obtain ⟨h1, h2⟩ := ih ys' hys'
    refine ⟨by simp [h1], fun i v b hv hb => ?_⟩
    cases i with
    | zero => simp at hv hb; subst hv; subst hb; exact cArg_sound hy hs
    | succ i => simp at hv hb; exact h2 i v b (by simpa using hv) (by simpa using hb)

theorem A.cells_of {κ : K} {v : Value} {a : A} (h : VR κ v a) (hf : a.cells.all A.flat = true) :
    v.cells.toList.length = a.cells.length ∧ (∀ (i : Nat) (u : Value) (b : A), v.cells.toList[i]? = some u → a.cells[i]? = some b → VR κ u b) := by
  cases h with
  | agg vs as hl h => exact ⟨by simpa [Value.cells, A.cells] using hl, fun i u b hu hb => h i u b (by simpa [Value.cells] using hu) (by simpa [A.cells] using hb)⟩
  | tup vs as hl h => simp [A.cells, A.flat] at hf
  | undef v => simp [A.cells, A.flat] at hf
  | cun v hv =>
    have : v.cells = #[v] := by cases v <;> simp_all [Value.cells, Value.oneCell']
    refine ⟨by simp [this, A.cells], fun i u b hu hb => ?_⟩
    cases i with
    | zero => simp [this, A.cells] at hu hb; subst hu; subst hb; exact .cun _ hv
    | succ i => simp [this] at hu
  | d h =>
    rename_i x
    have hc : v.cells = #[v] := by cases h <;> rfl
    refine ⟨by simp [hc, A.cells], fun i u b hu hb => ?_⟩
    cases i with
    | zero => simp [hc, A.cells] at hu hb; subst hu; subst hb; exact .d h
    | succ i => simp [hc] at hu
  | osl h ht =>
    have hc : v.cells = #[v] := by cases h <;> rfl
    refine ⟨by simp [hc, A.cells], fun i u b hu hb => ?_⟩
    cases i with
    | zero => simp [hc, A.cells] at hu hb; subst hu; subst hb; exact .osl h ht
    | succ i => simp [hc] at hu
  | msl i off len b sz o cap hb h1 h2 h3 =>
    refine ⟨rfl, fun j u c hu hc => ?_⟩
    cases j with
    | zero => simp [Value.cells, A.cells] at hu hc; subst hu; subst hc; exact .msl i off len b sz o cap hb h1 h2 h3
    | succ j => simp [Value.cells] at hu
  | vsl i k len ad cap h0 hv =>
    refine ⟨rfl, fun j u c hu hc => ?_⟩
    cases j with
    | zero => simp [Value.cells, A.cells] at hu hc; subst hu; subst hc; exact .vsl i k len ad cap h0 hv
    | succ j => simp [Value.cells] at hu
  | vptr i k idx off b o hv =>
    refine ⟨rfl, fun j u c hu hc => ?_⟩
    cases j with
    | zero => simp [Value.cells, A.cells] at hu hc; subst hu; subst hc; exact .vptr i k idx off b o hv
    | succ j => simp [Value.cells] at hu
  | ptr i off b hb =>
    refine ⟨rfl, fun j u c hu hc => ?_⟩
    cases j with
    | zero => simp [Value.cells, A.cells] at hu hc; subst hu; subst hc; exact .ptr i off b hb
    | succ j => simp [Value.cells] at hu
  | aptr i idx off b sz hb =>
    refine ⟨rfl, fun j u c hu hc => ?_⟩
    cases j with
    | zero => simp [Value.cells, A.cells] at hu hc; subst hu; subst hc; exact .aptr i idx off b sz hb
    | succ j => simp [Value.cells] at hu
  | eptr cells b o f h1 h2 =>
    refine ⟨rfl, fun j u c hu hc => ?_⟩
    cases j with
    | zero => simp [Value.cells, A.cells] at hu hc; subst hu; subst hc; exact .eptr cells b o f h1 h2
    | succ j => simp [Value.cells] at hu
  | fn f vs1 vs2 as1 as2 hl1 hl2 h1 h2 =>
    refine ⟨rfl, fun j u c hu hc => ?_⟩
    cases j with
    | zero => simp [Value.cells, A.cells] at hu hc; subst hu; subst hc; exact .fn f vs1 vs2 as1 as2 hl1 hl2 h1 h2
    | succ j => simp [Value.cells] at hu
  | map i b hb =>
    refine ⟨rfl, fun j u c hu hc => ?_⟩
    cases j with
    | zero => simp [Value.cells, A.cells] at hu hc; subst hu; subst hc; exact .map i b hb
    | succ j => simp [Value.cells] at hu

theorem VR.oneCell {κ : K} {v : Value} {a : A} (h : VR κ v a) (hf : a.flat = true) : v.oneCell' = true := by
  cases h with
  | d h => cases h <;> rfl
  | agg vs as hl h => simp [A.flat] at hf
  | tup vs as hl h => simp [A.flat] at hf
  | osl h ht => cases h <;> rfl
  | undef v => simp [A.flat] at hf
  | cun v hv => exact hv
  | _ => rfl

theorem cutL_some {α : Type} {l r : List α} {off n : Nat} (h : cutL l off n = some r) : off + n ≤ l.length ∧ r = (l.drop off).take n ∧ r.length = n := by
  unfold cutL at h
  split at h
  · cases h; exact ⟨by assumption, rfl, by simp; omega⟩
  · cases h

theorem cutL_get {α : Type} {l r : List α} {off n : Nat} (h : cutL l off n = some r) (j : Nat) (hj : j < n) : r[j]? = l[off + j]? := by
  obtain ⟨h1, rfl, h3⟩ := cutL_some h
  rw [List.getElem?_take, if_pos hj, List.getElem?_drop]

theorem ld_sound {κ : K} {H : Hp} {w : World} (hr : HR κ H w) {n : Nat} {p : A} {cs : List A} (h : ldA H n p = some cs) {pv : Value} (hp : VR κ pv p) :
    ∃ (ad : Addr) (vs : List Value), pv = .pointer (some ad) ∧ vs.length = n ∧ cs.length = n ∧ (∀ (j : Nat) (v : Value), vs[j]? = some v → w.cell? (ad.add j) = some v) ∧
      ∀ (j : Nat) (v : Value) (a : A), vs[j]? = some v → cs[j]? = some a → VR κ v a := by
  have build : ∀ (b o : Nat) (cs : List A), cs.length = n → (∀ (j : Nat) (a : A), cs[j]? = some a → ∃ v, w.cell? ⟨b, o + j, none⟩ = some v ∧ VR κ v a) →
      ∃ (vs : List Value), vs.length = n ∧ (∀ (j : Nat) (v : Value), vs[j]? = some v → w.cell? ((⟨b, o, none⟩ : Addr).add j) = some v) ∧ ∀ (j : Nat) (v : Value) (a : A), vs[j]? = some v → cs[j]? = some a → VR κ v a := by
    intro b o cs hl hc
    refine ⟨(List.range n).map fun j => (w.cell? ⟨b, o + j, none⟩).getD undef, by simp, fun j v hv => ?_, fun j v a hv ha => ?_⟩
    · simp only [List.getElem?_map, Option.map_eq_some_iff] at hv
      obtain ⟨j', hj', rfl⟩ := hv
      obtain ⟨hlt, rfl⟩ : j < n ∧ j = j' := by
        have := (List.getElem?_eq_some_iff.1 hj')
        obtain ⟨h1, h2⟩ := this
        simp at h1 h2
        exact ⟨h1, h2⟩
      obtain ⟨v, h1, -⟩ := hc j (cs[j]'(by omega)) (List.getElem?_eq_getElem _)
      rw [add_mk, h1]; rfl
    · simp only [List.getElem?_map, Option.map_eq_some_iff] at hv
      obtain ⟨j', hj', rfl⟩ := hv
      obtain ⟨hlt, rfl⟩ : j < n ∧ j = j' := by
        have := (List.getElem?_eq_some_iff.1 hj')
        obtain ⟨h1, h2⟩ := this
        simp at h1 h2
        exact ⟨h1, h2⟩
      obtain ⟨v, h1, h2⟩ := hc j a ha
      rw [h1]; exact h2
  unfold ldA at h
  split at h
  · rename_i i off
    split at h
    · rename_i cells hi
      cases hp with
      | ptr _ _ b hb =>
      obtain ⟨b', hb', -, hc⟩ := hr.ob i _ hi
      have : b' = b := by rw [hb] at hb'; cases hb'; rfl
      subst this
      have hl := (cutL_some h).2.2
      obtain ⟨vs, h1, h2, h3⟩ := build b' off cs hl fun j a ha => by
        have hj : j < n := by rw [← hl]; exact (List.getElem?_eq_some_iff.1 ha).1
        rw [cutL_get h j hj] at ha
        obtain ⟨v, h4, -, h5⟩ := hc _ a ha
        exact ⟨v, h4, h5⟩
      exact ⟨_, vs, rfl, h1, hl, h2, h3⟩
    · cases h
  · rename_i i k off
    split at h
    · rename_i sz rows hi
      split at h
      · rename_i r hr'
        cases hp with
        | aptr _ _ _ b sz' hb =>
        obtain ⟨b', hb', hc⟩ := hr.ob i _ hi
        obtain ⟨rfl, rfl⟩ : b' = b ∧ sz = sz' := by rcases hb with hb | hb <;> rw [hb] at hb' <;> cases hb'; exact ⟨rfl, rfl⟩
        have hl := (cutL_some h).2.2
        obtain ⟨vs, h1, h2, h3⟩ := build b' (k * sz + off) cs hl fun j a ha => by
          have hj : j < n := by rw [← hl]; exact (List.getElem?_eq_some_iff.1 ha).1
          rw [cutL_get h j hj] at ha
          obtain ⟨v, h4, -, h5⟩ := (hc k r hr').2 _ a ha
          exact ⟨v, by rw [Nat.add_assoc]; exact h4, h5⟩
        exact ⟨_, vs, rfl, h1, hl, h2, h3⟩
      · cases h
    · cases h
  · rename_i cells
    simp only [Option.map_eq_some_iff] at h
    obtain ⟨ds, hds, rfl⟩ := h
    cases hp with
    | eptr _ b o f hc hd =>
    have hl := (cutL_some hds).2.2
    obtain ⟨vs, h1, h2, h3⟩ := build b o (ds.map .d) (by simpa using hl) fun j a ha => by
      simp only [List.getElem?_map, Option.map_eq_some_iff] at ha
      obtain ⟨x, hx, rfl⟩ := ha
      have hj : j < n := by rw [← hl]; exact (List.getElem?_eq_some_iff.1 hx).1
      rw [cutL_get hds j hj, Nat.zero_add] at hx
      exact ⟨f j, hr.st _ _ _ (hc j x hx), .d (hd j x hx)⟩
    exact ⟨_, vs, rfl, h1, by simpa using hl, h2, h3⟩
  · cases h

theorem ldV_sound {κ : K} {H : Hp} {w : World} (hr : HR κ H w) {n : Nat} {p : A} {cs : List A} (h : ldV H n p = some cs) {pv : Value} (hp : VR κ pv p) :
    ∃ (ad : Addr) (vs : List Value), pv = .pointer (some ad) ∧ vs.length = n ∧ cs.length = n ∧ (∀ (j : Nat) (v : Value), vs[j]? = some v → w.cell? (ad.add j) = some v) ∧
      ∀ (j : Nat) (v : Value) (a : A), vs[j]? = some v → cs[j]? = some a → VR κ v a := by
  have build : ∀ (b o : Nat) (cs : List A), cs.length = n → (∀ (j : Nat) (a : A), cs[j]? = some a → ∃ v, w.cell? ⟨b, o + j, none⟩ = some v ∧ VR κ v a) →
      ∃ (vs : List Value), vs.length = n ∧ (∀ (j : Nat) (v : Value), vs[j]? = some v → w.cell? ((⟨b, o, none⟩ : Addr).add j) = some v) ∧ ∀ (j : Nat) (v : Value) (a : A), vs[j]? = some v → cs[j]? = some a → VR κ v a := by
    intro b o cs hl hc
    refine ⟨(List.range n).map fun j => (w.cell? ⟨b, o + j, none⟩).getD undef, by simp, fun j v hv => ?_, fun j v a hv ha => ?_⟩
    · simp only [List.getElem?_map, Option.map_eq_some_iff] at hv
      obtain ⟨j', hj', rfl⟩ := hv
      obtain ⟨hlt, rfl⟩ : j < n ∧ j = j' := by
        have := (List.getElem?_eq_some_iff.1 hj')
        obtain ⟨h1, h2⟩ := this
        simp at h1 h2
        exact ⟨h1, h2⟩
      obtain ⟨v, h1, -⟩ := hc j (cs[j]'(by omega)) (List.getElem?_eq_getElem _)
      rw [add_mk, h1]; rfl
    · simp only [List.getElem?_map, Option.map_eq_some_iff] at hv
      obtain ⟨j', hj', rfl⟩ := hv
      obtain ⟨hlt, rfl⟩ : j < n ∧ j = j' := by
        have := (List.getElem?_eq_some_iff.1 hj')
        obtain ⟨h1, h2⟩ := this
        simp at h1 h2
        exact ⟨h1, h2⟩
      obtain ⟨v, h1, h2⟩ := hc j a ha
      rw [h1]; exact h2
  unfold ldV at h
  split at h
  · rename_i i k x off
    split at h
    · rename_i sz ty k' rows hi
      split at h
      · rename_i hk
        subst hk
        split at h
        · rename_i r hrow
          simp only [Option.map_eq_some_iff] at h
          obtain ⟨ds, hds, rfl⟩ := h
          cases hp with
          | vptr _ _ _ _ b o hf =>
          obtain ⟨b', c, cur, hb', hheap, -, -, hc⟩ := hr.ob i _ hi
          rw [hb'] at hf
          have he := hf.2 rfl
          cases he
          have hl := (cutL_some hds).2.2
          obtain ⟨vs, h1, h2, h3⟩ := build b (x * sz + off) (ds.map .d) (by simpa using hl) fun j a ha => by
            simp only [List.getElem?_map, Option.map_eq_some_iff] at ha
            obtain ⟨y, hy, rfl⟩ := ha
            have hj : j < n := by rw [← hl]; exact (List.getElem?_eq_some_iff.1 hy).1
            rw [cutL_get hds j hj] at hy
            obtain ⟨v, h4, h5⟩ := (hc x r hrow).2 _ y hy
            exact ⟨v, by rw [Nat.add_assoc]; simp [World.cell?, hheap, h4], .d h5⟩
          exact ⟨_, vs, rfl, h1, by simpa using hl, h2, h3⟩
        · cases h
      · cases h
    · cases h
  · cases h

theorem setL_length {α : Type} : ∀ (r : List α) (l : List α) (i : Nat), (setL l i r).length = l.length
  | [], _, _ => rfl
  | x :: r, l, i => by rw [setL, setL_length r]; simp

theorem list_set_set {α : Type} (l : List α) (i : Nat) (a b : α) : (l.set i a).set i b = l.set i b := by
  simp

theorem stBox_sound {κ : K} {P : Program} {i b : Nat} {ty : TypeId} (hb : κ.β i = .blk b) (off : Nat) : ∀ (cs : List A) (vs : List Value) (k : Nat) (H : Hp) (w : World) (old : List A), HR κ H w → H[i]? = some (.box ty old) →
    off + k + cs.length ≤ old.length → vs.length = cs.length → cs.all A.flat = true → (∀ (j : Nat) (v : Value) (a : A), vs[j]? = some v → cs[j]? = some a → VR κ v a) →
    ∃ w', (storeCells ⟨b, off, none⟩ vs k).run P w = .ok () w' ∧ HR κ (H.set i (.box ty (setL old (off + k) cs))) w' := by
  intro cs
  induction cs with
  | nil =>
    intro vs k H w old hr hi _ hl _ _
    have : vs = [] := List.eq_nil_of_length_eq_zero hl
    subst this
    refine ⟨w, rfl, ?_⟩
    have : H.set i (.box ty (setL old (off + k) [])) = H := by
      simp only [setL]
      refine List.ext_getElem? fun j => ?_
      by_cases hj : i = j
      · subst hj; rw [List.getElem?_set_self (List.getElem?_eq_some_iff.1 hi).1, hi]
      · rw [List.getElem?_set_ne hj]
    rw [this]; exact hr
  | cons c cs ih =>
    intro vs k H w old hr hi hle hl hf hv
    cases vs with
    | nil => simp at hl
    | cons v vs =>
      simp only [List.all_cons, Bool.and_eq_true] at hf
      have hvc : VR κ v c := hv 0 v c rfl rfl
      have hlt : off + k < old.length := by simp at hle; omega
      obtain ⟨b', hb', -, hc⟩ := hr.ob i _ hi
      have hbb : b' = b := by rw [hb] at hb'; cases hb'; rfl
      subst hbb
      obtain ⟨u, hu1, hu2, -⟩ := hc (off + k) old[off + k] (List.getElem?_eq_getElem hlt)
      have hr1 := hr.setBox hi hb hlt hf.1 hvc
      have hi1 : (H.set i (.box ty (old.set (off + k) c)))[i]? = some (.box ty (old.set (off + k) c)) := List.getElem?_set_self (List.getElem?_eq_some_iff.1 hi).1
      obtain ⟨w', h1, h2⟩ := ih vs (k + 1) _ _ _ hr1 hi1 (by simp at hle ⊢; omega) (by simpa using hl) hf.2 (fun j v a hv' ha' => hv (j + 1) v a (by simpa using hv') (by simpa using ha'))
      refine ⟨w', ?_, ?_⟩
      · simp only [storeCells, Sem.run_bind, add_mk]
        rw [run_store P w _ v _ (hvc.oneCell hf.1)]
        simp only [hu1, hu2, Bool.false_eq_true, if_false, Result.andThen_ok]
        exact h1
      · rw [list_set_set] at h2
        exact h2

theorem stArr_sound {κ : K} {P : Program} {i b sz q : Nat} (hb : κ.β i = .arr b sz) (off : Nat) : ∀ (cs : List A) (vs : List Value) (k : Nat) (H : Hp) (w : World) (rows : List (List A)) (r : List A), HR κ H w → H[i]? = some (.arr sz rows) → rows[q]? = some r →
    off + k + cs.length ≤ r.length → vs.length = cs.length → cs.all A.flat = true → (∀ (j : Nat) (v : Value) (a : A), vs[j]? = some v → cs[j]? = some a → VR κ v a) →
    ∃ w', (storeCells ⟨b, q * sz + off, none⟩ vs k).run P w = .ok () w' ∧ HR κ (H.set i (.arr sz (rows.set q (setL r (off + k) cs)))) w' := by
  intro cs
  induction cs with
  | nil =>
    intro vs k H w rows r hr hi hq _ hl _ _
    have : vs = [] := List.eq_nil_of_length_eq_zero hl
    subst this
    refine ⟨w, rfl, ?_⟩
    have : H.set i (.arr sz (rows.set q (setL r (off + k) []))) = H := by
      simp only [setL]
      have h0 : rows.set q r = rows := by
        refine List.ext_getElem? fun j => ?_
        by_cases hj : q = j
        · subst hj; rw [List.getElem?_set_self (List.getElem?_eq_some_iff.1 hq).1, hq]
        · rw [List.getElem?_set_ne hj]
      rw [h0]
      refine List.ext_getElem? fun j => ?_
      by_cases hj : i = j
      · subst hj; rw [List.getElem?_set_self (List.getElem?_eq_some_iff.1 hi).1, hi]
      · rw [List.getElem?_set_ne hj]
    rw [this]; exact hr
  | cons c cs ih =>
    intro vs k H w rows r hr hi hq hle hl hf hv
    cases vs with
    | nil => simp at hl
    | cons v vs =>
      simp only [List.all_cons, Bool.and_eq_true] at hf
      have hvc : VR κ v c := hv 0 v c rfl rfl
      have hlt : off + k < r.length := by simp at hle; omega
      obtain ⟨b', hb', hc⟩ := hr.ob i _ hi
      have hbb : b' = b := by rw [hb] at hb'; cases hb'; rfl
      subst hbb
      obtain ⟨u, hu1, hu2, -⟩ := (hc q r hq).2 (off + k) r[off + k] (List.getElem?_eq_getElem hlt)
      have hr1 := hr.setArr hi hb hq hlt hf.1 hvc
      have hi1 : (H.set i (.arr sz (rows.set q (r.set (off + k) c))))[i]? = some (.arr sz (rows.set q (r.set (off + k) c))) := List.getElem?_set_self (List.getElem?_eq_some_iff.1 hi).1
      have hq1 : (rows.set q (r.set (off + k) c))[q]? = some (r.set (off + k) c) := List.getElem?_set_self (List.getElem?_eq_some_iff.1 hq).1
      obtain ⟨w', h1, h2⟩ := ih vs (k + 1) _ _ _ _ hr1 hi1 hq1 (by simp at hle ⊢; omega) (by simpa using hl) hf.2 (fun j v a hv' ha' => hv (j + 1) v a (by simpa using hv') (by simpa using ha'))
      refine ⟨w', ?_, ?_⟩
      · simp only [storeCells, Sem.run_bind, add_mk]
        rw [run_store P w _ v _ (hvc.oneCell hf.1)]
        rw [Nat.add_assoc (q * sz) off k]
        simp only [hu1, hu2, Bool.false_eq_true, if_false, Result.andThen_ok]
        exact h1
      · rw [list_set_set, list_set_set] at h2
        exact h2

theorem st_sound {κ : K} {P : Program} {H H' : Hp} {w : World} (hr : HR κ H w) {cs : List A} {p : A} (h : stA H cs p = some H') {pv : Value} (hp : VR κ pv p) (hf : cs.all A.flat = true)
    (vs : List Value) (hl : vs.length = cs.length) (hv : ∀ (j : Nat) (v : Value) (a : A), vs[j]? = some v → cs[j]? = some a → VR κ v a) :
    ∃ (ad : Addr) (w' : World), pv = .pointer (some ad) ∧ (storeCells ad vs).run P w = .ok () w' ∧ HR κ H' w' := by
  unfold stA at h
  split at h
  · rename_i i off
    split at h
    · rename_i old hi
      split at h
      · rename_i hle
        cases h
        cases hp with
        | ptr _ _ b hb =>
        obtain ⟨w', h1, h2⟩ := stBox_sound (P := P) hb off cs vs 0 H w old hr hi (by simpa using hle) hl hf hv
        exact ⟨_, w', rfl, h1, h2⟩
      · cases h
    · cases h
  · rename_i i k off
    split at h
    · rename_i sz rows hi
      split at h
      · rename_i r hq
        split at h
        · rename_i hle
          cases h
          cases hp with
          | aptr _ _ _ b sz' hb =>
          obtain ⟨b', hb', -⟩ := hr.ob i _ hi
          obtain ⟨rfl, rfl⟩ : b' = b ∧ sz = sz' := by rcases hb with hb | hb <;> rw [hb] at hb' <;> cases hb'; exact ⟨rfl, rfl⟩
          obtain ⟨w', h1, h2⟩ := stArr_sound (P := P) hb' off cs vs 0 H w rows r hr hi hq (by simpa using hle) hl hf hv
          exact ⟨_, w', rfl, h1, h2⟩
        · cases h
      · cases h
    · cases h
  · cases h

end Go.Zam
