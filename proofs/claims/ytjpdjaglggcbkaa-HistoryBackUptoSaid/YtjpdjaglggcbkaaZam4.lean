/-
  An abstract machine over the model, fourth part: forgetting: objects from a number on are dropped, and what refers to them. No program in sight. No condition.
-/
import Derived.Test.YtjpdjaglggcbkaaZam3
namespace Go.Zam
open Go.RowKit (Below)

def A.lo (n : Nat) : A → Bool
  | .d _ | .eptr _ | .cun => true
  | .osl _ _ _ t => decide (t < n)
  | .msl i _ _ | .vsl i _ _ | .vptr i _ _ _ | .ptr i _ | .aptr i _ _ | .map i => decide (i < n)
  | .agg _ | .tup _ | .fn .. | .undef => false

def A.clr0 (n : Nat) : A → A
  | .d x => .d x
  | .eptr c => .eptr c
  | .undef => .undef
  | .cun => .cun
  | .osl z s r t => if t < n then .osl z s r t else .d (.sl z s r)
  | .msl i a b => if i < n then .msl i a b else .cun
  | .vsl i k l => if i < n then .vsl i k l else .cun
  | .vptr i k x o => if i < n then .vptr i k x o else .cun
  | .ptr i a => if i < n then .ptr i a else .cun
  | .aptr i a b => if i < n then .aptr i a b else .cun
  | .map i => if i < n then .map i else .cun
  | .fn f a b => if a.all (A.lo n) && b.all (A.lo n) then .fn f a b else .cun
  | .agg cs => if cs.all (A.lo n) then .agg cs else .undef
  | .tup _ => .undef

def A.clr1 (n : Nat) : A → A
  | .agg cs => .agg (cs.map (A.clr0 n))
  | x => x.clr0 n

def A.clr (n : Nat) : A → A
  | .tup vs => .tup (vs.map (A.clr1 n))
  | x => x.clr1 n

def Ob.clr (n : Nat) : Ob → Ob
  | .box ty cs => .box ty (cs.map (A.clr0 n))
  | .arr sz rows => .arr sz (rows.map fun r => r.map (A.clr0 n))
  | .tok m sz e => .tok m sz e
  | .vec sz e k rows => .vec sz e k rows
  | .mp l => .mp (l.map fun e => (e.1, e.2.clr0 n))
  | .dead => .dead

def Hp.cut (n : Nat) (H : Hp) : Hp := (H.take n).map (Ob.clr n)
def Fr.clr (n : Nat) (fr : Fr) : Fr := fun s => (fr s).clr n
def K.cut (n : Nat) (κ : K) : K := { κ with β := fun i => if i < n then κ.β i else .none }

theorem VR.lo {κ : K} {n : Nat} {v : Value} {a : A} (h : VR κ v a) (hl : a.lo n = true) : VR (κ.cut n) v a := by
  cases h with
  | d h => exact .d h
  | agg vs as hl' h => simp [A.lo] at hl
  | tup vs as hl' h => simp [A.lo] at hl
  | osl h ht => simp [A.lo] at hl; exact .osl h (by simp [K.cut, hl]; exact ht)
  | msl i off len b sz o cap hb h1 h2 h3 => simp [A.lo] at hl; exact .msl i off len b sz o cap (by simp [K.cut, hl]; exact hb) h1 h2 h3
  | vsl i k len ad cap h0 hf => simp [A.lo] at hl; exact .vsl i k len ad cap h0 (by simp [K.cut, hl]; exact hf)
  | vptr i k idx off b o hf => simp [A.lo] at hl; exact .vptr i k idx off b o (by simp [K.cut, hl]; exact hf)
  | ptr i off b hb => simp [A.lo] at hl; exact .ptr i off b (by simp [K.cut, hl]; exact hb)
  | aptr i idx off b sz hb => simp [A.lo] at hl; exact .aptr i idx off b sz (by simp [K.cut, hl]; exact hb)
  | eptr cells b o f hc hd => exact .eptr cells b o f hc hd
  | fn f vs1 vs2 as1 as2 hl1 hl2 h1 h2 => simp [A.lo] at hl
  | map i b hb => simp [A.lo] at hl; exact .map i b (by simp [K.cut, hl]; exact hb)
  | cun v h => exact .cun v h
  | undef v => simp [A.lo] at hl

theorem VR.clr0 {κ : K} (n : Nat) {v : Value} {a : A} (h : VR κ v a) : VR (κ.cut n) v (a.clr0 n) := by
  cases a with
  | d x => exact h.lo rfl
  | eptr c => exact h.lo rfl
  | undef => exact .undef v
  | cun => exact h.lo rfl
  | osl z s r t =>
    simp only [A.clr0]
    split
    · rename_i hl; exact h.lo (by simp [A.lo, hl])
    · cases h with | osl h ht => exact .d h
  | msl i x y => simp only [A.clr0]; split; · rename_i hl; exact h.lo (by simp [A.lo, hl])
                 · exact .cun v (by cases h; rfl)
  | vsl i x y => simp only [A.clr0]; split; · rename_i hl; exact h.lo (by simp [A.lo, hl])
                 · exact .cun v (by cases h; rfl)
  | vptr i x y z => simp only [A.clr0]; split; · rename_i hl; exact h.lo (by simp [A.lo, hl])
                    · exact .cun v (by cases h; rfl)
  | ptr i x => simp only [A.clr0]; split; · rename_i hl; exact h.lo (by simp [A.lo, hl])
               · exact .cun v (by cases h; rfl)
  | aptr i x y => simp only [A.clr0]; split; · rename_i hl; exact h.lo (by simp [A.lo, hl])
                  · exact .cun v (by cases h; rfl)
  | map i => simp only [A.clr0]; split; · rename_i hl; exact h.lo (by simp [A.lo, hl])
             · exact .cun v (by cases h; rfl)
  | fn f as1 as2 =>
    simp only [A.clr0]
    split
    · rename_i hl
      simp only [Bool.and_eq_true, List.all_eq_true] at hl
      cases h with
      | fn _ vs1 vs2 _ _ hl1 hl2 h1 h2 =>
        exact .fn f vs1 vs2 as1 as2 hl1 hl2 (fun i v a hv ha => (h1 i v a hv ha).lo (hl.1 a (List.mem_of_getElem? ha))) (fun i v a hv ha => (h2 i v a hv ha).lo (hl.2 a (List.mem_of_getElem? ha)))
    · exact .cun v (by cases h; rfl)
  | agg cs =>
    simp only [A.clr0]
    split
    · rename_i hl
      simp only [List.all_eq_true] at hl
      cases h with
      | agg vs _ hl' h1 => exact .agg vs cs hl' (fun i v a hv ha => (h1 i v a hv ha).lo (hl a (List.mem_of_getElem? ha)))
    · exact .undef v
  | tup vs => exact .undef v

theorem VR.clr1 {κ : K} (n : Nat) {v : Value} {a : A} (h : VR κ v a) : VR (κ.cut n) v (a.clr1 n) := by
  cases a with
  | agg cs =>
    cases h with
    | agg vs _ hl h1 =>
      refine .agg vs _ (by simpa using hl) (fun i v a hv ha => ?_)
      simp only [List.getElem?_map, Option.map_eq_some_iff] at ha
      obtain ⟨a', ha', rfl⟩ := ha
      exact (h1 i v a' hv ha').clr0 n
  | _ => exact h.clr0 n

theorem VR.clr {κ : K} (n : Nat) {v : Value} {a : A} (h : VR κ v a) : VR (κ.cut n) v (a.clr n) := by
  cases a with
  | tup cs =>
    cases h with
    | tup vs _ hl h1 =>
      refine .tup vs _ (by simpa using hl) (fun i v a hv ha => ?_)
      simp only [List.getElem?_map, Option.map_eq_some_iff] at ha
      obtain ⟨a', ha', rfl⟩ := ha
      exact (h1 i v a' hv ha').clr1 n
  | _ => exact h.clr1 n

theorem OR.cut {κ : K} (n : Nat) {w : World} {i : Nat} {x : Ob} (hi : i < n) (h : OR κ w i x) : OR (κ.cut n) w i (x.clr n) := by
  have hβ : (κ.cut n).β i = κ.β i := by simp [K.cut, hi]
  cases x with
  | box ty cs =>
    obtain ⟨b, h1, hsh, h2⟩ := h
    refine ⟨b, hβ.trans h1, by rw [List.length_map]; exact hsh, fun j a ha => ?_⟩
    simp only [List.getElem?_map, Option.map_eq_some_iff] at ha
    obtain ⟨a', ha', rfl⟩ := ha
    obtain ⟨v, h3, h4, h5⟩ := h2 j a' ha'
    exact ⟨v, h3, h4, h5.clr0 n⟩
  | arr sz rows =>
    obtain ⟨b, h1, h2⟩ := h
    refine ⟨b, hβ.trans h1, fun k r hr => ?_⟩
    simp only [List.getElem?_map, Option.map_eq_some_iff] at hr
    obtain ⟨r', hr', rfl⟩ := hr
    refine ⟨by simpa using (h2 k r' hr').1, fun j a ha => ?_⟩
    simp only [List.getElem?_map, Option.map_eq_some_iff] at ha
    obtain ⟨a', ha', rfl⟩ := ha
    obtain ⟨v, h3, h4, h5⟩ := (h2 k r' hr').2 j a' ha'
    exact ⟨v, h3, h4, h5.clr0 n⟩
  | tok m sz e =>
    rcases h with ⟨h1, h2⟩ | ⟨b, e, c, cur, lo, hi, h1, h2⟩
    · exact .inl ⟨hβ.trans h1, h2⟩
    · exact .inr ⟨b, e, c, cur, lo, hi, hβ.trans h1, h2⟩
  | vec sz ty k rows =>
    obtain ⟨b, c, cur, h1, h2⟩ := h
    exact ⟨b, c, cur, hβ.trans h1, h2⟩
  | mp l =>
    obtain ⟨b, es, clock, h1, h2, h3, h4⟩ := h
    refine ⟨b, es, clock, hβ.trans h1, h2, by rw [List.length_map]; exact h3, fun j x hx => ?_⟩
    simp only [List.getElem?_map, Option.map_eq_some_iff] at hx
    obtain ⟨x', hx', rfl⟩ := hx
    obtain ⟨e, h5, h6, h7⟩ := h4 j x' hx'
    exact ⟨e, h5, h6, h7.clr0 n⟩
  | dead => trivial

theorem A.lo_flat0 {n : Nat} {a : A} (h : a.lo n = true) : a.flat0 = true := by cases a <;> simp_all [A.lo, A.flat0]

theorem A.flat_clr0 (n : Nat) (a : A) (h : a.flat = true) : (a.clr0 n).flat = true := by
  cases a <;> simp only [A.clr0] <;> (try split) <;> first | rfl | exact h

theorem Ob.flat_clr {x : Ob} (h : x.flat = true) (n : Nat) : (x.clr n).flat = true := by
  cases x with
  | box cs =>
    simp only [Ob.flat, Ob.clr, List.all_eq_true] at h ⊢
    intro y hy
    obtain ⟨z, hz, rfl⟩ := List.mem_map.1 hy
    exact A.flat_clr0 n z (h z hz)
  | arr sz rows =>
    simp only [Ob.flat, Ob.clr, List.all_eq_true] at h ⊢
    intro r hr y hy
    obtain ⟨r', hr', rfl⟩ := List.mem_map.1 hr
    obtain ⟨z, hz, rfl⟩ := List.mem_map.1 hy
    exact A.flat_clr0 n z (h r' hr' z hz)
  | tok m sz e => rfl
  | vec sz e k rows => rfl
  | mp l =>
    simp only [Ob.flat, Ob.clr, List.all_eq_true] at h ⊢
    intro y hy
    obtain ⟨z, hz, rfl⟩ := List.mem_map.1 hy
    exact A.flat_clr0 n z.2 (h z hz)
  | dead => rfl

theorem HR.cut {κ : K} {H : Hp} {w : World} (h : HR κ H w) (n : Nat) (hn : n ≤ H.length) : HR (κ.cut n) (Hp.cut n H) w := by
  have hsub : ∀ i, (κ.cut n).β i ≠ .none → (κ.cut n).β i = κ.β i := fun i hi => by
    by_cases hl : i < n
    · simp [K.cut, hl]
    · simp [K.cut, hl] at hi
  refine ⟨h.below, h.st, fun i x hx => ?_, fun i hi => ?_, fun i b hb => ?_, fun i b o ho => ?_, fun i j b hi hj => ?_, fun i x hx => ?_⟩
  · simp only [Hp.cut, List.getElem?_map, Option.map_eq_some_iff] at hx
    obtain ⟨y, hy, rfl⟩ := hx
    rw [List.getElem?_take] at hy
    split at hy
    · rename_i hi
      exact (h.ob i y hy).cut n hi
    · cases hy
  · have : n ≤ i := by simpa [Hp.cut, Nat.min_eq_left hn] using hi
    simp [K.cut, Nat.not_lt.2 this]
  · rw [hsub i (by intro h0; rw [h0] at hb; cases hb)] at hb
    exact h.ex i b hb
  · rw [hsub i (by intro h0; rw [h0] at ho; exact ho)] at ho
    exact h.exσ i b o ho
  · rw [hsub i (by intro h0; rw [h0] at hi; cases hi)] at hi
    rw [hsub j (by intro h0; rw [h0] at hj; cases hj)] at hj
    exact h.exd i j b hi hj
  · simp only [Hp.cut, List.getElem?_map, Option.map_eq_some_iff] at hx
    obtain ⟨y, hy, rfl⟩ := hx
    rw [List.getElem?_take] at hy
    split at hy
    · exact Ob.flat_clr (h.fl i y hy) n
    · cases hy

theorem SR.cut {κ : K} {nt : Nat} {fr : Fr} {H : Hp} {a : Act} {w : World} (h : SR κ nt fr H a w) (n : Nat) (hn : n ≤ H.length) : SR (κ.cut n) nt (fr.clr n) (Hp.cut n H) a w :=
  ⟨h.size, h.defers, h.hr.cut n hn, fun s => (h.vr s).clr n⟩

/-- what was there before the call stays there behind a cut that keeps it -/
theorem K.le_cut {κ κ' : K} {n : Nat} (h : κ.le κ') (hd : ∀ i, n ≤ i → κ.β i = .none) : κ.le (κ'.cut n) :=
  ⟨h.w0, h.σ, fun i => by
    by_cases hi : i < n
    · simp only [K.cut, hi, if_true]; exact h.β i
    · rw [hd i (by omega)]; trivial⟩

/-- what is related refers to nothing but what is there -/
theorem VR.lo_of {κ : K} {n : Nat} (hd : ∀ i, n ≤ i → κ.β i = .none) {v : Value} {a : A} (h : VR κ v a) (hf : a.flat0 = true) : a.lo n = true := by
  have hlt : ∀ i, κ.β i ≠ .none → i < n := fun i hi => Nat.lt_of_not_le fun hle => hi (hd i hle)
  cases h with
  | d h => rfl
  | agg vs as hl' h => simp [A.flat0] at hf
  | tup vs as hl' h => simp [A.flat0] at hf
  | @osl v z s rows t h ht => simpa [A.lo] using hlt t (by intro h0; rw [h0] at ht; exact ht)
  | msl i off len b sz o cap hb h1 h2 h3 => simpa [A.lo] using hlt i (by rcases hb with hb | hb <;> rw [hb] <;> simp)
  | vsl i k len ad cap h0 hv => simpa [A.lo] using hlt i (by intro h0; rw [h0] at hv; exact hv)
  | vptr i k idx off b o hv => simpa [A.lo] using hlt i (by intro h0; rw [h0] at hv; exact hv)
  | ptr i off b hb => simpa [A.lo] using hlt i (by rw [hb]; simp)
  | aptr i idx off b sz hb => simpa [A.lo] using hlt i (by rcases hb with hb | hb <;> rw [hb] <;> simp)
  | eptr cells b o f hc hd => rfl
  | fn f vs1 vs2 as1 as2 hl1 hl2 h1 h2 => simp [A.flat0] at hf
  | map i b hb => simpa [A.lo] using hlt i (by rw [hb]; simp)
  | cun v h => rfl
  | undef v => simp [A.flat0] at hf

theorem A.clr0_lo {n : Nat} {a : A} (h : a.lo n = true) : a.clr0 n = a := by
  cases a <;> simp_all [A.lo, A.clr0]

theorem VR.clr0_of {κ : K} {n : Nat} (hd : ∀ i, n ≤ i → κ.β i = .none) {v : Value} {a : A} (h : VR κ v a) (hf : a.flat = true) : a.clr0 n = a := by
  by_cases h0 : a.flat0 = true
  · exact A.clr0_lo (h.lo_of hd h0)
  · cases h with
    | agg vs as hl' h => simp [A.flat] at hf
    | tup vs as hl' h => simp [A.flat] at hf
    | fn f vs1 vs2 as1 as2 hl1 hl2 h1 h2 =>
      simp only [A.flat, Bool.and_eq_true, List.all_eq_true] at hf
      simp only [A.clr0]
      rw [if_pos]
      simp only [Bool.and_eq_true, List.all_eq_true]
      refine ⟨fun a ha => ?_, fun a ha => ?_⟩
      · obtain ⟨i, hi, rfl⟩ := List.getElem_of_mem ha
        exact (h1 i (vs1[i]'(by omega)) _ (List.getElem?_eq_getElem _) (List.getElem?_eq_getElem hi)).lo_of hd (hf.1 _ ha)
      · obtain ⟨i, hi, rfl⟩ := List.getElem_of_mem ha
        exact (h2 i (vs2[i]'(by omega)) _ (List.getElem?_eq_getElem _) (List.getElem?_eq_getElem hi)).lo_of hd (hf.2 _ ha)
    | undef v => simp [A.flat] at hf
    | _ => simp [A.flat0] at h0

def Hp.Closed (H : Hp) : Prop := ∀ n, H.length ≤ n → H.map (Ob.clr n) = H

theorem HR.closed {κ : K} {H : Hp} {w : World} (h : HR κ H w) : H.Closed := by
  intro n hn
  have hd : ∀ i, n ≤ i → κ.β i = .none := fun i hi => h.dom i (by omega)
  refine List.ext_getElem? fun i => ?_
  rw [List.getElem?_map]
  cases hx : H[i]? with
  | none => rfl
  | some x =>
    simp only [Option.map_some, Option.some.injEq]
    have hf := h.fl i x hx
    have ho := h.ob i x hx
    cases x with
    | box ty cs =>
      obtain ⟨b, -, -, h2⟩ := ho
      simp only [Ob.clr, Ob.box.injEq, true_and]
      refine List.ext_getElem? fun j => ?_
      rw [List.getElem?_map]
      cases ha : cs[j]? with
      | none => rfl
      | some a =>
        obtain ⟨v, -, -, hv⟩ := h2 j a ha
        simp only [Option.map_some, Option.some.injEq]
        exact hv.clr0_of hd (List.all_eq_true.1 hf a (List.mem_of_getElem? ha))
    | arr sz rows =>
      obtain ⟨b, -, h2⟩ := ho
      simp only [Ob.clr, Ob.arr.injEq, true_and]
      refine List.ext_getElem? fun k => ?_
      rw [List.getElem?_map]
      cases hr : rows[k]? with
      | none => rfl
      | some r =>
        simp only [Option.map_some, Option.some.injEq]
        refine List.ext_getElem? fun j => ?_
        rw [List.getElem?_map]
        cases ha : r[j]? with
        | none => rfl
        | some a =>
          obtain ⟨v, -, -, hv⟩ := (h2 k r hr).2 j a ha
          simp only [Option.map_some, Option.some.injEq]
          exact hv.clr0_of hd (List.all_eq_true.1 (List.all_eq_true.1 hf r (List.mem_of_getElem? hr)) a (List.mem_of_getElem? ha))
    | tok m sz e => rfl
    | vec sz e k rows => rfl
    | mp l =>
      obtain ⟨b, es, clock, -, -, h1, h2⟩ := ho
      simp only [Ob.clr, Ob.mp.injEq]
      refine List.ext_getElem? fun j => ?_
      rw [List.getElem?_map]
      cases ha : l[j]? with
      | none => rfl
      | some a =>
        obtain ⟨e, -, -, hv⟩ := h2 j a ha
        simp only [Option.map_some, Option.some.injEq]
        rw [hv.clr0_of hd (List.all_eq_true.1 hf a (List.mem_of_getElem? ha))]
    | dead => rfl

end Go.Zam
