/-
  An abstract machine over the model, second part: what becomes of the relation HR between abstract and real memory where memory is made, written, appended to, or forgotten. No program in sight. No condition.
-/
import Derived.Test.YtjpdjaglggcbkaaZam1
namespace Go.Zam
open Go.RowKit (Below)

def upd (β : Nat → Bind) (i : Nat) (x : Bind) : Nat → Bind := fun j => if j = i then x else β j
theorem upd_same (β : Nat → Bind) (i : Nat) (x : Bind) : upd β i x i = x := by simp [upd]
theorem upd_ne (β : Nat → Bind) {i j : Nat} (x : Bind) (h : j ≠ i) : upd β i x j = β j := by simp [upd, h]

theorem K.le_upd {κ : K} {i : Nat} (h : κ.β i = .none) (x : Bind) : κ.le { κ with β := upd κ.β i x } := ⟨rfl, fun _ _ _ h => h, fun j => by
  by_cases hi : j = i
  · subst hi; rw [h]; trivial
  · show (κ.β j).le (upd κ.β i x j); rw [upd_ne _ _ hi]; exact Bind.le_refl _⟩

theorem cell_of_block {w w' : World} {b : Nat} (h : w'.heap[b]? = w.heap[b]?) (o : Nat) : w'.cell? ⟨b, o, none⟩ = w.cell? ⟨b, o, none⟩ ∧ w'.frozen? ⟨b, o, none⟩ = w.frozen? ⟨b, o, none⟩ := by
  simp only [World.cell?, World.frozen?, h, and_self]

theorem shape?_setCell (w : World) (a : Addr) (v : Value) (b : Nat) : (w.setCell a v).shape? b = w.shape? b := by
  simp only [World.shape?, World.setCell, Array.getElem?_modify]
  by_cases hb : a.block = b
  · subst hb
    rw [if_pos rfl]
    cases w.heap[a.block]? with
    | none => rfl
    | some o => cases o <;> simp <;> split <;> simp
  · rw [if_neg hb]

theorem OR.mono {κ κ' : K} (hk : κ.le κ') {w w' : World} {i : Nat} {x : Ob} (h : OR κ w i x) (hb : κ'.β i = κ.β i)
    (hw : ∀ b, (κ.β i).block = some b → w'.heap[b]? = w.heap[b]?) : OR κ' w' i x := by
  cases x with
  | box ty cs =>
    obtain ⟨b, hβ, hsh, hc⟩ := h
    refine ⟨b, hb.trans hβ, by rw [← hsh]; simp only [World.shape?, hw b (by rw [hβ]; rfl)], fun j a ha => ?_⟩
    obtain ⟨v, h1, h2, h3⟩ := hc j a ha
    obtain ⟨h4, h5⟩ := cell_of_block (hw b (by rw [hβ]; rfl)) j
    exact ⟨v, h4.trans h1, h5.trans h2, h3.mono hk⟩
  | arr sz rows =>
    obtain ⟨b, hβ, hc⟩ := h
    refine ⟨b, hb.trans hβ, fun k r hr => ⟨(hc k r hr).1, fun j a ha => ?_⟩⟩
    obtain ⟨v, h1, h2, h3⟩ := (hc k r hr).2 j a ha
    obtain ⟨h4, h5⟩ := cell_of_block (hw b (by rw [hβ]; rfl)) (k * sz + j)
    exact ⟨v, h4.trans h1, h5.trans h2, h3.mono hk⟩
  | tok n sz ty =>
    rcases h with ⟨h1, h2⟩ | ⟨b, e, c, cur, lo, hi, hβ, hc, h3⟩
    · exact .inl ⟨hb.trans h1, h2⟩
    · exact .inr ⟨b, e, c, cur, lo, hi, hb.trans hβ, (hw b (by rw [hβ]; rfl)).trans hc, h3⟩
  | vec sz ty k rows =>
    obtain ⟨b, c, cur, hβ, hc, h1, h2, h3⟩ := h
    refine ⟨b, c, cur, hb.trans hβ, (hw b (by rw [hβ]; rfl)).trans hc, h1, h2, fun j r hr => ⟨(h3 j r hr).1, fun q x hx => ?_⟩⟩
    obtain ⟨v, h4, h5⟩ := (h3 j r hr).2 q x hx
    exact ⟨v, h4, h5.mono hk.σ⟩
  | mp l =>
    obtain ⟨b, es, clock, hβ, hc, h1, h2⟩ := h
    refine ⟨b, es, clock, hb.trans hβ, (hw b (by rw [hβ]; rfl)).trans hc, h1, fun j x hx => ?_⟩
    obtain ⟨e, h3, h4, h5⟩ := h2 j x hx
    exact ⟨e, h3, h4.mono hk.σ, h5.mono hk⟩
  | dead => trivial

/-- a token's spare cells -/
theorem OR.spare {w : World} {b e c : Nat} {cur : Array Value} {ty : TypeId} {lo hi : Nat} (h : w.heap[b]? = some (.cells cur ty (lo, hi))) (hc : c ≤ cur.size) (hl : hi ≤ lo ∨ hi ≤ e) (o : Nat) (h1 : e ≤ o) (h2 : o < c) :
    (∃ v, w.cell? ⟨b, o, none⟩ = some v) ∧ w.frozen? ⟨b, o, none⟩ = false := by
  have : o < cur.size := by omega
  refine ⟨⟨cur[o], by simp [World.cell?, h, this]⟩, ?_⟩
  simp only [World.frozen?, h]
  simp only [Bool.and_eq_false_iff, decide_eq_false_iff_not]
  omega

theorem Bind.block_of_owns {x : Bind} {b o : Nat} (h : x.owns b o) : x.block = some b := by
  cases x <;> simp only [Bind.owns] at h <;> first | exact h.elim | (subst h; rfl) | (obtain ⟨rfl, -⟩ := h; rfl)

/-- a block more, bound to a new object -/
theorem HR.push {κ : K} {H : Hp} {w : World} (h : HR κ H w) (o : Obj) (x : Bind) (y : Ob) (hx : x.block = some w.heap.size) (hfl : y.flat = true)
    (hy : OR { κ with β := upd κ.β H.length x } (w.alloc o) H.length y) :
    κ.le { κ with β := upd κ.β H.length x } ∧ HR { κ with β := upd κ.β H.length x } (H ++ [y]) (w.alloc o) := by
  have hn : κ.β H.length = .none := h.dom _ (Nat.le_refl _)
  have hle : κ.le { κ with β := upd κ.β H.length x } := ⟨rfl, fun _ _ _ h => h, fun i => by
    by_cases hi : i = H.length
    · subst hi; rw [hn]; trivial
    · show (κ.β i).le (upd κ.β H.length x i); rw [upd_ne _ _ hi]; exact Bind.le_refl _⟩
  have hst : ∀ b p v, κ.σ b p = some v → b < w.heap.size := fun b p v hv => World.block_lt_of_cell? w ⟨b, p, none⟩ (h.st b p v hv)
  refine ⟨hle, ?_⟩
  have hw0 : κ.w0.heap.size ≤ w.heap.size := h.below.size
  refine ⟨h.below.alloc hw0 o, fun b p v hv => ?_, fun i z hz => ?_, fun i hi => ?_, fun i b hb => ?_, fun i b p hp => ?_, fun i j b hi hj => ?_, fun i z hz => ?_⟩
  · show (w.alloc o).cell? _ = _
    rw [World.cell?_alloc_lt w o ⟨b, p, none⟩ (hst b p v hv)]; exact h.st b p v hv
  · by_cases hi : i < H.length
    · rw [List.getElem?_append_left hi] at hz
      have hbi : upd κ.β H.length x i = κ.β i := upd_ne _ _ (by omega)
      exact (h.ob i z hz).mono hle hbi fun b hb => Below.heap_alloc w o b (h.ex i b hb).2
    · have : i = H.length := by
        have := (List.getElem?_eq_some_iff.1 hz).1
        simp at this; omega
      subst this
      simp at hz
      subst hz
      exact hy
  · have h1 : H.length + 1 ≤ i := by simpa using hi
    show upd κ.β H.length x i = _
    rw [upd_ne _ _ (by omega)]; exact h.dom i (by omega)
  · by_cases hi : i = H.length
    · subst hi
      simp only [upd_same, hx, Option.some.injEq] at hb
      subst hb
      exact ⟨hw0, by simp⟩
    · simp only [upd_ne _ _ hi] at hb
      have := h.ex i b hb
      exact ⟨this.1, by simp; omega⟩
  · by_cases hi : i = H.length
    · subst hi
      have hb := Bind.block_of_owns hp
      simp only [upd_same, hx, Option.some.injEq] at hb
      show κ.σ b p = none
      cases hs : κ.σ b p with
      | none => rfl
      | some v => have := hst b p v hs; omega
    · simp only [upd_ne _ _ hi] at hp
      exact h.exσ i b p hp
  · have hold : ∀ k, k ≠ H.length → ∀ c, (κ.β k).block = some c → c < w.heap.size := fun k _ c hc => (h.ex k c hc).2
    by_cases h1 : i = H.length <;> by_cases h2 : j = H.length
    · omega
    · subst h1
      simp only [upd_same, hx, Option.some.injEq, upd_ne _ _ h2] at hi hj
      have := hold j h2 b hj; omega
    · subst h2
      simp only [upd_same, hx, Option.some.injEq, upd_ne _ _ h1] at hi hj
      have := hold i h1 b hi; omega
    · simp only [upd_ne _ _ h1, upd_ne _ _ h2] at hi hj
      exact h.exd i j b hi hj
  · by_cases hi : i < H.length
    · rw [List.getElem?_append_left hi] at hz; exact h.fl i z hz
    · have : i = H.length := by
        have := (List.getElem?_eq_some_iff.1 hz).1
        simp at this; omega
      subst this
      simp at hz
      subst hz
      exact hfl

/-- a box -/
theorem HR.pushBox {κ : K} {H : Hp} {w : World} (h : HR κ H w) (vs : List Value) (as : List A) (t : TypeId) (hl : vs.length = as.length) (hfl : as.all A.flat = true)
    (hv : ∀ (i : Nat) (v : Value) (a : A), vs[i]? = some v → as[i]? = some a → VR κ v a) :
    ∃ κ', κ.le κ' ∧ HR κ' (H ++ [.box t as]) (w.alloc (.cells vs.toArray t)) ∧ VR κ' (.pointer (some ⟨w.heap.size, 0, none⟩)) (.ptr H.length 0) := by
  have := h.push (.cells vs.toArray t) (.blk w.heap.size) (.box t as) rfl hfl (by
    refine ⟨w.heap.size, upd_same _ _ _, (by
      have e : (w.alloc (.cells vs.toArray t)).heap[w.heap.size]? = some (.cells vs.toArray t) := by
        show (w.heap.push _)[w.heap.size]? = _
        simp
      simp only [World.shape?, e]; simp [hl]), fun j a ha => ?_⟩
    have hj : j < vs.length := by rw [hl]; exact (List.getElem?_eq_some_iff.1 ha).1
    refine ⟨vs[j], ?_, World.frozen?_alloc_new w _ t j, ?_⟩
    · rw [World.cell?_alloc_new]; simp [hj]
    · exact (hv j vs[j] a (List.getElem?_eq_getElem hj) ha).mono (K.le_upd (h.dom _ (Nat.le_refl _)) _))
  exact ⟨_, this.1, this.2, .ptr _ _ _ (upd_same _ _ _)⟩

/-- an array that is written -/
theorem HR.pushArr {κ : K} {H : Hp} {w : World} (h : HR κ H w) (c : Array Value) (sz : Nat) (rows : List (List A)) (t : TypeId) (hsz : ∀ (k : Nat) (r : List A), rows[k]? = some r → r.length = sz) (hfl : (rows.all fun r => r.all A.flat) = true)
    (hv : ∀ (k j : Nat) (r : List A) (a : A), rows[k]? = some r → r[j]? = some a → ∃ v, c[k * sz + j]? = some v ∧ VR κ v a) (n : Nat) (hn : rows.length ≤ n) (hn0 : rows.length = 0 → n = 0) :
    ∃ κ', κ.le κ' ∧ HR κ' (H ++ [.arr sz rows]) (w.alloc (.cells c t)) ∧ VR κ' (.slice (some ⟨w.heap.size, 0, none⟩) rows.length n) (.msl H.length 0 rows.length) := by
  have := h.push (.cells c t) (.arr w.heap.size sz) (.arr sz rows) rfl hfl (by
    refine ⟨w.heap.size, upd_same _ _ _, fun k r hr => ⟨hsz k r hr, fun j a ha => ?_⟩⟩
    obtain ⟨v, h1, h2⟩ := hv k j r a hr ha
    refine ⟨v, ?_, World.frozen?_alloc_new w _ t _, ?_⟩
    · rw [World.cell?_alloc_new]; exact h1
    · exact h2.mono (K.le_upd (h.dom _ (Nat.le_refl _)) _))
  exact ⟨_, this.1, this.2, (.msl _ _ _ _ _ _ _ (.inl (upd_same _ _ _)) hn (fun _ => by simp) hn0)⟩

/-- a token of nothing yet -/
theorem HR.pushNil {κ : K} {H : Hp} {w : World} (h : HR κ H w) (sz : Nat) (ty : TypeId) :
    ∃ κ', κ.le κ' ∧ HR κ' (H ++ [.tok 0 sz ty]) w ∧ VR κ' (.slice none 0 0) (.osl true sz [] H.length) := by
  have hn : κ.β H.length = .none := h.dom _ (Nat.le_refl _)
  have hle : κ.le { κ with β := upd κ.β H.length .nilT } := ⟨rfl, fun _ _ _ h => h, fun i => by
    by_cases hi : i = H.length
    · subst hi; rw [hn]; trivial
    · show (κ.β i).le (upd κ.β H.length .nilT i); rw [upd_ne _ _ hi]; exact Bind.le_refl _⟩
  refine ⟨{ κ with β := upd κ.β H.length .nilT }, hle, ⟨h.below, h.st, fun i z hz => ?_, fun i hi => ?_, fun i b hb => ?_, fun i b p hp => ?_, fun i j b hi hj => ?_, fun i z hz => ?_⟩, .osl (.nilsl sz) ?_⟩
  · by_cases hi : i < H.length
    · rw [List.getElem?_append_left hi] at hz
      exact (h.ob i z hz).mono hle (upd_ne _ _ (by omega)) fun b _ => rfl
    · have : i = H.length := by
        have := (List.getElem?_eq_some_iff.1 hz).1
        simp at this; omega
      subst this
      simp at hz
      subst hz
      exact .inl ⟨upd_same _ _ _, rfl⟩
  · have h1 : H.length + 1 ≤ i := by simpa using hi
    show upd κ.β H.length .nilT i = _
    rw [upd_ne _ _ (by omega)]; exact h.dom i (by omega)
  · by_cases hi : i = H.length
    · subst hi; simp [upd_same, Bind.block] at hb
    · simp only [upd_ne _ _ hi] at hb; exact h.ex i b hb
  · by_cases hi : i = H.length
    · subst hi; simp [upd_same, Bind.owns] at hp
    · simp only [upd_ne _ _ hi] at hp; exact h.exσ i b p hp
  · by_cases h1 : i = H.length
    · subst h1; simp [upd_same, Bind.block] at hi
    · by_cases h2 : j = H.length
      · subst h2; simp [upd_same, Bind.block] at hj
      · simp only [upd_ne _ _ h1, upd_ne _ _ h2] at hi hj; exact h.exd i j b hi hj
  · by_cases hi : i < H.length
    · rw [List.getElem?_append_left hi] at hz; exact h.fl i z hz
    · have : i = H.length := by
        have := (List.getElem?_eq_some_iff.1 hz).1
        simp at this; omega
      subst this
      simp at hz
      subst hz
      rfl
  · show tokFit (upd κ.β H.length .nilT H.length) _ _
    rw [upd_same]; exact ⟨rfl, rfl⟩

/-- a cell of a box, or of an array, is written -/
theorem HR.setCell {κ : K} {H : Hp} {w : World} (h : HR κ H w) (i : Nat) (b o : Nat) (v : Value) (y : Ob) (hb : (κ.β i).block = some b) (ho : (κ.β i).owns b o) (hfl : y.flat = true)
    (hy : OR κ (w.setCell ⟨b, o, none⟩ v) i y) : HR κ (H.set i y) (w.setCell ⟨b, o, none⟩ v) := by
  have hne : ∀ b' o', κ.σ b' o' ≠ none → (⟨b, o, none⟩ : Addr) ≠ ⟨b', o', none⟩ := fun b' o' hs he => by
    cases he; exact hs (h.exσ i b o ho)
  refine ⟨h.below.setCell (h.ex i b hb).1 v, fun b' o' u hu => ?_, fun j z hz => ?_, fun j hj => h.dom j (by simpa using hj), fun j b' hb' => ?_, h.exσ, h.exd, fun j z hz => ?_⟩
  · rw [World.cell?_setCell_other w _ _ v (hne b' o' (by rw [hu]; simp))]; exact h.st b' o' u hu
  · by_cases hij : i = j
    · subst hij
      have hlt : i < H.length := by
        have := (List.getElem?_eq_some_iff.1 hz).1
        simpa using this
      simp [hlt] at hz
      subst hz; exact hy
    · rw [List.getElem?_set_ne hij] at hz
      refine (h.ob j z hz).mono (K.le_refl κ) rfl fun b' hb' => ?_
      have hbb : b' ≠ b := fun e => by subst e; exact hij (h.exd i j b' hb hb')
      exact Below.heap_setCell w _ v b' hbb
  · have := h.ex j b' hb'
    exact ⟨this.1, by simpa using this.2⟩
  · by_cases hij : i = j
    · subst hij
      have hlt : i < H.length := by
        have := (List.getElem?_eq_some_iff.1 hz).1
        simpa using this
      simp [hlt] at hz
      subst hz; exact hfl
    · rw [List.getElem?_set_ne hij] at hz
      exact h.fl j z hz

theorem HR.setBox {κ : K} {H : Hp} {w : World} (h : HR κ H w) {i j : Nat} {ty : TypeId} {cs : List A} {b : Nat} (hi : H[i]? = some (.box ty cs)) (hβ : κ.β i = .blk b) (hj : j < cs.length) {v : Value} {a : A} (hfa : a.flat = true) (hv : VR κ v a) :
    HR κ (H.set i (.box ty (cs.set j a))) (w.setCell ⟨b, j, none⟩ v) := by
  obtain ⟨b', hβ', hsh, hc⟩ := h.ob i _ hi
  have hbb : b' = b := by rw [hβ] at hβ'; cases hβ'; rfl
  subst hbb
  refine h.setCell i b' j v _ (by rw [hβ]; rfl) (by rw [hβ]; rfl) ?_ ⟨b', hβ, by rw [List.length_set, ← hsh]; exact shape?_setCell w _ _ _, fun k x hx => ?_⟩
  · have := h.fl i _ hi
    simp only [Ob.flat, List.all_eq_true] at this ⊢
    intro x hx
    rcases List.mem_or_eq_of_mem_set hx with h1 | h1
    · exact this x h1
    · subst h1; exact hfa
  by_cases hjk : j = k
  · subst hjk
    simp [hj] at hx
    subst hx
    obtain ⟨u, h1, h2, -⟩ := hc j cs[j] (List.getElem?_eq_getElem hj)
    exact ⟨v, World.cell?_setCell_same w _ v h1, by rw [World.frozen?_setCell]; exact h2, hv⟩
  · rw [List.getElem?_set_ne hjk] at hx
    obtain ⟨u, h1, h2, h3⟩ := hc k x hx
    exact ⟨u, by rw [World.cell?_setCell_other w _ _ v (by intro e; cases e; exact hjk rfl)]; exact h1, by rw [World.frozen?_setCell]; exact h2, h3⟩

theorem HR.setArr {κ : K} {H : Hp} {w : World} (h : HR κ H w) {i k j sz : Nat} {rows : List (List A)} {r : List A} {b : Nat} (hi : H[i]? = some (.arr sz rows)) (hβ : κ.β i = .arr b sz) (hr : rows[k]? = some r) (hj : j < r.length) {v : Value} {a : A} (hfa : a.flat = true) (hv : VR κ v a) :
    HR κ (H.set i (.arr sz (rows.set k (r.set j a)))) (w.setCell ⟨b, k * sz + j, none⟩ v) := by
  obtain ⟨b', hβ', hc⟩ := h.ob i _ hi
  have hbb : b' = b := by rw [hβ] at hβ'; cases hβ'; rfl
  subst hbb
  have hkl : k < rows.length := (List.getElem?_eq_some_iff.1 hr).1
  have hrl : r.length = sz := (hc k r hr).1
  refine h.setCell i b' (k * sz + j) v _ (by rw [hβ]; rfl) (by rw [hβ]; rfl) ?_ ⟨b', hβ, fun k' r' hr' => ?_⟩
  · have := h.fl i _ hi
    simp only [Ob.flat, List.all_eq_true] at this ⊢
    intro x hx y hy
    rcases List.mem_or_eq_of_mem_set hx with h1 | h1
    · exact this x h1 y hy
    · subst h1
      rcases List.mem_or_eq_of_mem_set hy with h2 | h2
      · exact this r (List.mem_of_getElem? hr) y h2
      · subst h2; exact hfa
  by_cases hkk : k = k'
  · subst hkk
    simp [hkl] at hr'
    subst hr'
    refine ⟨by simp [hrl], fun j' a' ha' => ?_⟩
    by_cases hjj : j = j'
    · subst hjj
      simp [hj] at ha'
      subst ha'
      obtain ⟨u, h1, h2, -⟩ := (hc k r hr).2 j r[j] (List.getElem?_eq_getElem hj)
      exact ⟨v, World.cell?_setCell_same w _ v h1, by rw [World.frozen?_setCell]; exact h2, hv⟩
    · rw [List.getElem?_set_ne hjj] at ha'
      obtain ⟨u, h1, h2, h3⟩ := (hc k r hr).2 j' a' ha'
      exact ⟨u, by rw [World.cell?_setCell_other w _ _ v (by intro e; injection e; omega)]; exact h1, by rw [World.frozen?_setCell]; exact h2, h3⟩
  · rw [List.getElem?_set_ne hkk] at hr'
    refine ⟨(hc k' r' hr').1, fun j' a' ha' => ?_⟩
    obtain ⟨u, h1, h2, h3⟩ := (hc k' r' hr').2 j' a' ha'
    have hj' : j' < sz := by rw [← (hc k' r' hr').1]; exact (List.getElem?_eq_some_iff.1 ha').1
    refine ⟨u, ?_, by rw [World.frozen?_setCell]; exact h2, h3⟩
    rw [World.cell?_setCell_other w _ _ v ?_]
    · exact h1
    · intro e
      injection e with _ e2
      have hjs : j < sz := by omega
      have : k = k' := by
        have d1 : (k * sz + j) / sz = k := by rw [Nat.mul_comm, Nat.mul_add_div (by omega), Nat.div_eq_of_lt hjs]; omega
        have d2 : (k' * sz + j') / sz = k' := by rw [Nat.mul_comm, Nat.mul_add_div (by omega), Nat.div_eq_of_lt hj']; omega
        rw [← d1, ← d2, e2]
      exact hkk this

/-- an object is another one, and its block too, or a new one -/
theorem HR.replace {κ : K} {H : Hp} {w w' : World} (h : HR κ H w) (i : Nat) (x : Bind) (y : Ob) (hi : i < H.length) (hle : (κ.β i).le x) (hfl : y.flat = true) (hsize : w.heap.size ≤ w'.heap.size)
    (hbelow : Below κ.w0.heap.size κ.w0 w') (hheap : ∀ k, k < w.heap.size → (κ.β i).block ≠ some k → w'.heap[k]? = w.heap[k]?) (hown : ∀ b o, (κ.β i).block = some b → (κ.β i).owns b o)
    (hx : ∀ b, x.block = some b → (κ.β i).block = some b ∨ (b = w.heap.size ∧ b < w'.heap.size)) (hy : OR { κ with β := upd κ.β i x } w' i y) :
    κ.le { κ with β := upd κ.β i x } ∧ HR { κ with β := upd κ.β i x } (H.set i y) w' := by
  have hst : ∀ b p v, κ.σ b p = some v → b < w.heap.size := fun b p v hv => World.block_lt_of_cell? w ⟨b, p, none⟩ (h.st b p v hv)
  have hkle : κ.le { κ with β := upd κ.β i x } := ⟨rfl, fun _ _ _ h => h, fun j => by
    show (κ.β j).le (upd κ.β i x j)
    by_cases hj : j = i
    · subst hj; rw [upd_same]; exact hle
    · rw [upd_ne _ _ hj]; exact Bind.le_refl _⟩
  refine ⟨hkle, hbelow, fun b p v hv => ?_, fun j z hz => ?_, fun j hj => ?_, fun j b hb => ?_, fun j b p hp => ?_, fun j k b hj hk => ?_, fun j z hz => ?_⟩
  · have hb := hst b p v hv
    have hne : (κ.β i).block ≠ some b := fun e => by rw [h.exσ i b p (hown b p e)] at hv; cases hv
    rw [(cell_of_block (hheap b hb hne) p).1]; exact h.st b p v hv
  · by_cases hij : i = j
    · subst hij
      rw [List.getElem?_set_self hi] at hz
      cases hz; exact hy
    · rw [List.getElem?_set_ne hij] at hz
      exact (h.ob j z hz).mono hkle (upd_ne _ _ (Ne.symm hij)) fun b hb => hheap b (h.ex j b hb).2 fun e => hij (h.exd i j b e hb)
  · have : H.length ≤ j := by simpa using hj
    show upd κ.β i x j = _
    rw [upd_ne _ _ (by omega)]; exact h.dom j this
  · by_cases hj : j = i
    · subst hj
      have hb' : x.block = some b := by rw [← hb]; show _ = (upd κ.β j x j).block; rw [upd_same]
      rcases hx b hb' with h1 | ⟨h1, h2⟩
      · have := h.ex j b h1; exact ⟨this.1, by omega⟩
      · exact ⟨by rw [h1]; exact h.below.size, h2⟩
    · have hb' : (κ.β j).block = some b := by rw [← hb]; show _ = (upd κ.β i x j).block; rw [upd_ne _ _ hj]
      have := h.ex j b hb'; exact ⟨this.1, by omega⟩
  · show κ.σ b p = none
    by_cases hj : j = i
    · subst hj
      have hp' : x.owns b p := by have := hp; change (upd κ.β j x j).owns b p at this; rwa [upd_same] at this
      rcases hx b (Bind.block_of_owns hp') with h1 | ⟨h1, h2⟩
      · exact h.exσ j b p (hown b p h1)
      · cases hs : κ.σ b p with
        | none => rfl
        | some v => have := hst b p v hs; omega
    · have hp' : (κ.β j).owns b p := by have := hp; change (upd κ.β i x j).owns b p at this; rwa [upd_ne _ _ hj] at this
      exact h.exσ j b p hp'
  · have hat : ∀ m, m ≠ i → ({ κ with β := upd κ.β i x } : K).β m = κ.β m := fun m hm => upd_ne _ _ hm
    have hati : ({ κ with β := upd κ.β i x } : K).β i = x := upd_same _ _ _
    by_cases h1 : j = i <;> by_cases h2 : k = i
    · omega
    · subst h1
      rw [hati] at hj; rw [hat k h2] at hk
      rcases hx b hj with h3 | ⟨h3, -⟩
      · exact h.exd j k b h3 hk
      · have := (h.ex k b hk).2; omega
    · subst h2
      rw [hati] at hk; rw [hat j h1] at hj
      rcases hx b hk with h3 | ⟨h3, -⟩
      · exact h.exd j k b hj h3
      · have := (h.ex j b hj).2; omega
    · rw [hat j h1] at hj; rw [hat k h2] at hk
      exact h.exd j k b hj hk
  · by_cases hij : i = j
    · subst hij
      rw [List.getElem?_set_self hi] at hz
      cases hz; exact hfl
    · rw [List.getElem?_set_ne hij] at hz; exact h.fl j z hz

end Go.Zam
