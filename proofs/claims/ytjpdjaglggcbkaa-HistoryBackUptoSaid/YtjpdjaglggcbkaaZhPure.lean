/-
  Changes of modules, plain: what undoes changes undoes them; done again they do the same. No program in sight.
-/
import Derived.Test.YtjpdjaglggcbkaaZhTwin
namespace Go.Proofs.Zh
open Go Go.Zam Go.Proofs
set_option linter.all false
set_option maxRecDepth 100000
set_option maxHeartbeats 1000000

theorem findM_set {l : List Mod} {k : Nat} {m : Mod} (t : List UInt8) (s : List UInt8) (hk : l[k]? = some m) : findM (l.set k ⟨m.n, t⟩) s = findM l s := by
  have h : ∀ (l : List Mod) (k : Nat) (m : Mod), l[k]? = some m → indexP (fun m => decide (m.n = s)) (l.set k ⟨m.n, t⟩) = indexP (fun m => decide (m.n = s)) l := by
    intro l
    induction l with
    | nil => intro k m h; simp
    | cons x l ih =>
      intro k m h
      cases k with
      | zero => simp at h; subst h; simp [indexP]
      | succ k =>
        simp at h
        simp only [List.set_cons_succ, indexP, ih k m h]
  simp only [findM, indexI, h l k m hk]

/-- where a change is, and what it makes -/
def textM (l : List Mod) (s : List UInt8) : List UInt8 := match l[(findM l s).toNat]? with | some m => m.t | none => []

def undoC (l : List Mod) (cs : List Chg) : List Chg := cs.map fun c => ⟨c.n, true, invS (textM l c.n) c.l⟩

/-- a step that can be done -/
theorem applyC_ok {l : List Mod} {done : List (List UInt8)} {c : Chg} {r : List Chg} {out : List Mod} (h : applyC l done (c :: r) = (0, out)) :
    ∃ (k : Nat) (m : Mod), findM l c.n = k ∧ l[k]? = some m ∧ m.n = c.n ∧ c.n ∉ done ∧ sound c.l m.t.length = 0 ∧ applyC (l.set k ⟨m.n, applyS m.t c.l⟩) (done ++ [c.n]) r = (0, out) := by
  simp only [applyC] at h
  split at h
  · simp at h
  · rename_i h1
    split at h
    · simp at h
    · rename_i h2
      obtain ⟨k, m, hk, hm, hn⟩ := findM_some (by omega : 0 ≤ findM l c.n)
      rw [hk] at h
      simp only [Int.toNat_natCast, hm] at h
      split at h
      · rename_i h3
        exact ⟨k, m, hk, hm, hn, h2, h3, h⟩
      · rename_i h3
        simp only [Prod.mk.injEq] at h
        exact absurd h.1 h3

/-- a module that isn't changed may be any -/
theorem applyC_aside {k : Nat} {m : Mod} (t t' : List UInt8) : ∀ {r : List Chg} {l : List Mod} {done : List (List UInt8)} {out : List Mod}, l[k]? = some m → findM l m.n = k → m.n ∈ done → applyC (l.set k ⟨m.n, t⟩) done r = (0, out) →
    out[k]? = some ⟨m.n, t⟩ ∧ applyC (l.set k ⟨m.n, t'⟩) done r = (0, out.set k ⟨m.n, t'⟩) := by
  intro r
  induction r with
  | nil =>
    intro l done out hk hf hd h
    simp only [applyC, Prod.mk.injEq, true_and] at h
    subst h
    have hl := (List.getElem?_eq_some_iff.1 hk).1
    simp [applyC, hl]
  | cons c r ih =>
    intro l done out hk hf hd h
    obtain ⟨j, m', hj, hm', hn', hnd, hs, h2⟩ := applyC_ok h
    rw [findM_set _ _ hk] at hj
    have hjk : j ≠ k := by
      intro e
      subst e
      have hl := (List.getElem?_eq_some_iff.1 hk).1
      rw [List.getElem?_set_self hl] at hm'
      cases hm'
      simp only at hn'
      rw [← hn'] at hnd
      exact hnd hd
    rw [List.getElem?_set_ne (by omega)] at hm'
    rw [List.set_comm _ _ (by omega : k ≠ j)] at h2
    have hk2 : (l.set j ⟨m'.n, applyS m'.t c.l⟩)[k]? = some m := by rw [List.getElem?_set_ne hjk]; exact hk
    obtain ⟨r1, r2⟩ := ih hk2 (by rw [findM_set _ _ hm']; exact hf) (by simp [hd]) h2
    refine ⟨r1, ?_⟩
    rw [applyC_step (k := j) (m := m') (by rw [findM_set _ _ hk]; exact hj) (by rw [List.getElem?_set_ne (by omega)]; exact hm') hnd, if_pos hs, List.set_comm _ _ (by omega : k ≠ j)]
    exact r2

theorem findM_eq_of_names {l l' : List Mod} (h : l.map Mod.n = l'.map Mod.n) (s : List UInt8) : findM l s = findM l' s := by
  have : ∀ l l' : List Mod, l.map Mod.n = l'.map Mod.n → indexP (fun m => decide (m.n = s)) l = indexP (fun m => decide (m.n = s)) l' := by
    intro l
    induction l with
    | nil => intro l' h; cases l' <;> simp_all
    | cons x l ih =>
      intro l' h
      cases l' with
      | nil => simp at h
      | cons y l' =>
        simp only [List.map_cons, List.cons.injEq] at h
        simp only [indexP, h.1, ih l' h.2]
  simp only [findM, indexI, this l l' h]

theorem applyC_names : ∀ {r : List Chg} {l : List Mod} {done : List (List UInt8)} {out : List Mod}, applyC l done r = (0, out) → out.map Mod.n = l.map Mod.n := by
  intro r
  induction r with
  | nil => intro l done out h; simp only [applyC, Prod.mk.injEq, true_and] at h; rw [h]
  | cons c r ih =>
    intro l done out h
    obtain ⟨k, m, hk, hm, hn, -, -, h2⟩ := applyC_ok h
    rw [ih h2, List.map_set]
    exact set_same (by simp [hm])

theorem inv_law2 {s : List UInt8} {l : List Ed} (h : sound l s.length = 0) : sound (invS s l) (applyS s l).length = 0 ∧ applyS (applyS s l) (invS s l) = s := by
  obtain ⟨h1, h2, -⟩ := inv_law h
  have e1 : invS s l = inv s 0 l := by simp [invS, h]
  have e2 : applyS s l = applied s 0 l := by simp [applyS, h]
  rw [e1, e2]
  refine ⟨h1, ?_⟩
  rw [applyS, if_pos h1, h2]

theorem applyC_undo : ∀ {r : List Chg} {l : List Mod} {done done' : List (List UInt8)} {out : List Mod}, (∀ s ∈ done', s ∈ done) → applyC l done r = (0, out) → applyC out done' (undoC l r) = (0, l) := by
  intro r
  induction r with
  | nil =>
    intro l done done' out _ h
    simp only [applyC, Prod.mk.injEq, true_and] at h
    subst h; rfl
  | cons c r ih =>
    intro l done done' out hd h
    have hnames := applyC_names h
    obtain ⟨k, m, hk, hm, hn, hnd, hs, h2⟩ := applyC_ok h
    obtain ⟨o1, o2⟩ := applyC_aside (applyS m.t c.l) m.t hm (by rw [hn]; exact hk) (by simp [hn]) h2
    have hsame : l.set k ⟨m.n, m.t⟩ = l := set_same hm
    rw [hsame] at o2
    have := ih (done' := done' ++ [c.n]) (by intro s; simp only [List.mem_append, List.mem_singleton]; exact Or.imp (hd s) id) o2
    have ht : textM l c.n = m.t := by simp [textM, hk, hm]
    obtain ⟨i1, i2⟩ := inv_law2 hs
    show applyC out done' (⟨c.n, true, invS (textM l c.n) c.l⟩ :: undoC l r) = _
    rw [applyC_step (c := ⟨c.n, true, invS (textM l c.n) c.l⟩) (k := k) (m := ⟨m.n, applyS m.t c.l⟩) (by rw [findM_eq_of_names hnames]; exact hk) o1 (fun hc => hnd (hd _ hc))]
    simp only [ht, i1, if_true, i2]
    exact this

theorem applyC_each : ∀ {r : List Chg} {l : List Mod} {done : List (List UInt8)} {out : List Mod}, applyC l done r = (0, out) → ∀ c ∈ r, ∃ (k : Nat) (m : Mod), findM l c.n = k ∧ l[k]? = some m ∧ c.n ∉ done ∧ m.n = c.n ∧ sound c.l m.t.length = 0 := by
  intro r
  induction r with
  | nil => intro l done out _ c hc; simp at hc
  | cons c r ih =>
    intro l done out h c' hc
    obtain ⟨k, m, hk, hm, hn, hnd, hs, h2⟩ := applyC_ok h
    rcases List.mem_cons.1 hc with rfl | hc
    · exact ⟨k, m, hk, hm, hnd, hn, hs⟩
    · obtain ⟨j, m', hj, hm', hnd', hn', hs'⟩ := ih h2 c' hc
      rw [findM_set _ _ hm] at hj
      have hjk : j ≠ k := by
        intro e
        subst e
        have hl := (List.getElem?_eq_some_iff.1 hm).1
        rw [List.getElem?_set_self hl] at hm'
        cases hm'
        exact hnd' (by rw [← hn', ← hn]; simp [hn])
      rw [List.getElem?_set_ne (by omega)] at hm'
      exact ⟨j, m', hj, hm', fun hc => hnd' (by simp [hc]), hn', hs'⟩

theorem applyC_twin : ∀ (r : List Chg) (l : List Mod) (done : List (List UInt8)), applyC l done (r.map twinC) = applyC l done r := by
  intro r
  induction r with
  | nil => intro l done; rfl
  | cons c r ih =>
    intro l done
    simp only [List.map_cons, applyC, twinC, ih]

theorem totC_twin (r : List Chg) : totC (r.map twinC) = totC r := by
  induction r with
  | nil => rfl
  | cons c r ih => simp only [List.map_cons, totC, twinC, ih]

theorem applyC_texts : ∀ {r : List Chg} {l : List Mod} {done : List (List UInt8)} {out : List Mod} {B : Nat}, applyC l done r = (0, out) → (∀ m ∈ l, m.t.length ≤ B) → ∀ m ∈ out, m.t.length ≤ B + totC r := by
  intro r
  induction r with
  | nil =>
    intro l done out B h hb m hm
    simp only [applyC, Prod.mk.injEq, true_and] at h
    subst h
    exact Nat.le_trans (hb m hm) (Nat.le_add_right _ _)
  | cons c r ih =>
    intro l done out B h hb x hx
    obtain ⟨k, m, hk, hm, -, -, -, h2⟩ := applyC_ok h
    have := ih (B := B + total c.l) h2 (fun y hy => by
      have := applyS_le m.t c.l
      have := hb m (List.mem_of_getElem? hm)
      rcases List.mem_or_eq_of_mem_set hy with h1 | h1
      · have := hb y h1; omega
      · subst h1; simp only; omega) x hx
    simp only [totC]; omega

theorem total_inv (s : List UInt8) : ∀ (l : List Ed) (d : Int), total (inv s d l) ≤ s.length * l.length
  | [], d => by simp [inv, total]
  | e :: l, d => by
    have := total_inv s l (d + (e.s.length - (e.t - e.f)))
    simp only [inv, total, List.length_take, List.length_drop, List.length_cons, Nat.mul_add]
    omega

theorem total_invS (s : List UInt8) (l : List Ed) : total (invS s l) ≤ s.length * l.length := by
  unfold invS
  split
  · exact total_inv s l 0
  · simp [total]

theorem textM_le {l : List Mod} {B : Nat} (hb : ∀ m ∈ l, m.t.length ≤ B) (s : List UInt8) : (textM l s).length ≤ B := by
  unfold textM
  split
  · rename_i m hm; exact hb m (List.mem_of_getElem? hm)
  · simp

theorem totC_undo {l : List Mod} {B : Nat} (hb : ∀ m ∈ l, m.t.length ≤ B) : ∀ (r : List Chg) {E : Nat}, (∀ c ∈ r, c.l.length ≤ E) → totC (undoC l r) ≤ B * E * r.length
  | [], E, _ => by simp [undoC, totC]
  | c :: r, E, he => by
    have h1 := totC_undo hb r (E := E) fun c hc => he c (by simp [hc])
    have h2 := total_invS (textM l c.n) c.l
    have h3 : (textM l c.n).length * c.l.length ≤ B * E := Nat.mul_le_mul (textM_le hb _) (he c (by simp))
    simp only [undoC, List.map_cons, totC, List.length_cons, Nat.mul_add] at h1 ⊢
    omega

/-- a step, and what undoes it -/
structure Step where
  n : List UInt8
  dz : Bool
  d : List Chg
  uz : Bool
  u : List Chg

def encS (s : Step) : List D := [.str s.n, .sl s.dz 2 (s.d.map encC), .sl s.uz 2 (s.u.map encC)]

structure Link (l : List Mod) (s : Step) (m : List Mod) : Prop where
  go : applyC l [] s.d = (0, m)
  back : applyC m [] s.u = (0, l)
  f1 : fitM l s.d
  f2 : fitM m s.u
  n1 : s.d.length ≤ 1048576
  n2 : s.u.length ≤ 1048576

/-- steps, the last one first, that lead from some modules to others -/
def Chain (l : List Mod) : List Step → List Mod → Prop
  | [], m => l = m
  | s :: r, m => ∃ x, Link x s m ∧ Chain l r x

/-- the step that changes are -/
def stepOf (l : List Mod) (n : List UInt8) (z : Bool) (cs : List Chg) : Step := ⟨n, z && cs.isEmpty, cs.map twinC, true, undoC l cs⟩

theorem link_of {l : List Mod} {n : List UInt8} {z : Bool} {cs : List Chg} {out : List Mod} {B E : Nat} (h : applyC l [] cs = (0, out)) (hb : ∀ m ∈ l, m.t.length ≤ B) (he : ∀ c ∈ cs, c.l.length ≤ E) (hc : cs.length ≤ 1048576)
    (hB : B + totC cs + B * E * cs.length ≤ 70368744177664) : Link l (stepOf l n z cs) out where
  go := by rw [show (stepOf l n z cs).d = cs.map twinC from rfl, applyC_twin]; exact h
  back := applyC_undo (fun _ h => h) h
  f1 := fun m hm => by
    rw [show (stepOf l n z cs).d = cs.map twinC from rfl, totC_twin]
    have := hb m hm; omega
  f2 := fun m hm => by
    have h1 := applyC_texts h hb m hm
    have h2 := totC_undo hb cs he
    show m.t.length + totC (undoC l cs) ≤ _
    omega
  n1 := by simp [stepOf, hc]
  n2 := by simp [stepOf, undoC, hc]

end Go.Proofs.Zh
