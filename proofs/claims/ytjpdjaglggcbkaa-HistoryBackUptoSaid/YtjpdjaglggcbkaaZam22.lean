/-
  Stable sorting of lists: the sorted list that keeps what is alike in its order is one; merging; insertion. No program in sight. No condition.
-/
import Derived.Test.YtjpdjaglggcbkaaZam21
namespace Go.Zam

/-- a comparison by which one may sort -/
structure Cmp {α : Type} (c : α → α → Int) : Prop where
  refl : ∀ x, c x x = 0
  anti : ∀ x y, c x y < 0 ↔ 0 < c y x
  trans : ∀ x y z, c x y ≤ 0 → c y z ≤ 0 → c x z ≤ 0

namespace Cmp
variable {α : Type} {c : α → α → Int}

theorem le_total (h : Cmp c) (x y : α) : c x y ≤ 0 ∨ c y x ≤ 0 := by
  have := h.anti y x
  omega

theorem eq_symm (h : Cmp c) {x y : α} (e : c x y = 0) : c y x = 0 := by
  have h1 := h.anti x y
  have h2 := h.anti y x
  omega

theorem not_lt (h : Cmp c) {x y : α} : ¬ c x y < 0 ↔ c y x ≤ 0 := by
  have := h.anti x y
  omega

theorem le_antisymm (h : Cmp c) {x y : α} (e : c x y ≤ 0) (f : c y x ≤ 0) : c x y = 0 := by
  have h1 := h.anti x y
  have h2 := h.anti y x
  omega

theorem lt_le (h : Cmp c) {x y z : α} (e : c x y < 0) (f : c y z ≤ 0) : c x z < 0 := by
  have h1 := (h.anti x y).1 e
  have h2 := h.anti x z
  have h3 := h.trans y z x f
  omega

theorem le_lt (h : Cmp c) {x y z : α} (e : c x y ≤ 0) (f : c y z < 0) : c x z < 0 := by
  have h1 := (h.anti y z).1 f
  have h2 := h.anti x z
  have h3 := h.trans z x y
  omega

end Cmp

section
variable {α : Type} (c : α → α → Int)

def Sorted (l : List α) : Prop := l.Pairwise fun x y => c x y ≤ 0

/-- what is alike, in its order -/
def cls (x : α) (l : List α) : List α := l.filter fun y => decide (c x y = 0)

def Alk (l l' : List α) : Prop := ∀ x, cls c x l = cls c x l'

def insL (x : α) : List α → List α
  | [] => [x]
  | y :: r => if c x y ≤ 0 then x :: y :: r else y :: insL x r

def ssort : List α → List α
  | [] => []
  | x :: r => insL c x (ssort r)
end

section
variable {α : Type} {c : α → α → Int}

theorem Alk.refl (l : List α) : Alk c l l := fun _ => rfl
theorem Alk.symm {l l' : List α} (h : Alk c l l') : Alk c l' l := fun x => (h x).symm
theorem Alk.trans {l l' l'' : List α} (h : Alk c l l') (k : Alk c l' l'') : Alk c l l'' := fun x => (h x).trans (k x)
theorem Alk.append {a a' b b' : List α} (h : Alk c a a') (k : Alk c b b') : Alk c (a ++ b) (a' ++ b') := fun x => by
  simp only [cls, List.filter_append]
  have h1 := h x; have h2 := k x
  simp only [cls] at h1 h2
  rw [h1, h2]
theorem Alk.mid {p a a' q : List α} (h : Alk c a a') : Alk c (p ++ (a ++ q)) (p ++ (a' ++ q)) := (Alk.refl p).append (h.append (Alk.refl q))

theorem cls_nil_of (h : Cmp c) {x : α} {l : List α} (hl : ∀ y ∈ l, c x y < 0 ∨ c y x < 0) : cls c x l = [] := by
  rw [cls, List.filter_eq_nil_iff]
  intro y hy
  simp only [decide_eq_true_eq]
  rcases hl y hy with h1 | h1
  · omega
  · have := (h.anti y x).1 h1; omega

/-- what is greater may change places with what is less -/
theorem Alk.swap (h : Cmp c) {a b : List α} (hab : ∀ x ∈ a, ∀ y ∈ b, c y x < 0) : Alk c (a ++ b) (b ++ a) := fun z => by
  simp only [cls, List.filter_append]
  by_cases ha : ∃ x ∈ a, c z x = 0
  · obtain ⟨x, hx, hzx⟩ := ha
    have : cls c z b = [] := cls_nil_of h fun y hy => .inr (h.lt_le (hab x hx y hy) (by rw [h.eq_symm hzx]; exact Int.le_refl 0))
    simp only [cls] at this
    rw [this]; simp
  · have : cls c z a = [] := by
      rw [cls, List.filter_eq_nil_iff]
      intro y hy; simp only [decide_eq_true_eq]; exact fun e => ha ⟨y, hy, e⟩
    simp only [cls] at this
    rw [this]; simp

theorem Alk.length (h : Cmp c) : ∀ {l l' : List α}, Alk c l l' → l.Perm l'
  | [], l', e => by
    cases l' with
    | nil => exact .nil
    | cons y r =>
      have := e y
      simp [cls, h.refl] at this
  | x :: r, l', e => by
    have hx := e x
    have hx1 : cls c x (x :: r) = x :: cls c x r := by simp [cls, h.refl]
    rw [hx1] at hx
    have hm : x ∈ l' := by
      have : x ∈ cls c x l' := by rw [← hx]; simp
      exact (List.mem_filter.1 this).1
    -- the first of l' that is alike
    obtain ⟨p, y, q, hpq, hp, hy⟩ : ∃ p y q, l' = p ++ y :: q ∧ (∀ z ∈ p, ¬ c x z = 0) ∧ c x y = 0 := by
      clear hx hx1 e
      induction l' with
      | nil => cases hm
      | cons y l' ih =>
        by_cases hy : c x y = 0
        · exact ⟨[], y, l', rfl, by simp, hy⟩
        · have hm' : x ∈ l' := by
            rcases List.mem_cons.1 hm with h1 | h1
            · subst h1; exact absurd (h.refl x) hy
            · exact h1
          obtain ⟨p, z, q, h1, h2, h3⟩ := ih hm'
          exact ⟨y :: p, z, q, by rw [h1]; rfl, fun w hw => by
            rcases List.mem_cons.1 hw with h4 | h4
            · subst h4; exact hy
            · exact h2 w h4, h3⟩
    have hpn : cls c x p = [] := by
      rw [cls, List.filter_eq_nil_iff]; intro z hz; simpa using hp z hz
    have hy1 : cls c x l' = y :: cls c x q := by
      rw [hpq, cls, List.filter_append]
      have : cls c x p = [] := hpn
      rw [cls] at this
      rw [this]; simp [hy, cls]
    rw [hy1] at hx
    obtain ⟨rfl, hxq⟩ := List.cons.inj hx
    have hr : Alk c r (p ++ q) := fun z => by
      have h1 := e z
      rw [hpq] at h1
      by_cases hz : c z x = 0
      · have hpz : cls c z p = [] := by
          rw [cls, List.filter_eq_nil_iff]; intro w hw
          simp only [decide_eq_true_eq]
          intro hzw
          refine hp w hw (h.le_antisymm (h.trans x z w ?_ ?_) (h.trans w z x ?_ ?_))
          · rw [h.eq_symm hz]; exact Int.le_refl 0
          · omega
          · rw [h.eq_symm hzw]; exact Int.le_refl 0
          · omega
        simp only [cls, List.filter_append] at h1 hpz ⊢
        rw [hpz] at h1 ⊢
        simpa [hz] using h1
      · simp only [cls, List.filter_append] at h1 ⊢
        simpa [hz] using h1
    have := Alk.length h hr
    rw [hpq]
    exact (List.Perm.cons x this).trans (List.perm_middle.symm)
termination_by l => l.length

theorem Alk.mem (h : Cmp c) {l l' : List α} (e : Alk c l l') {x : α} : x ∈ l ↔ x ∈ l' := (Alk.length h e).mem_iff

theorem Sorted.cons {x : α} {l : List α} : Sorted c (x :: l) ↔ (∀ y ∈ l, c x y ≤ 0) ∧ Sorted c l := List.pairwise_cons

theorem Sorted.append {a b : List α} : Sorted c (a ++ b) ↔ Sorted c a ∧ Sorted c b ∧ ∀ x ∈ a, ∀ y ∈ b, c x y ≤ 0 := List.pairwise_append

theorem sorted_uniq (h : Cmp c) : ∀ {l l' : List α}, Sorted c l → Sorted c l' → Alk c l l' → l = l'
  | [], l', _, _, e => (List.nil_perm.1 (Alk.length h e)).symm
  | x :: r, [], _, _, e => by have := (Alk.length h e).length_eq; simp at this
  | x :: r, y :: r', s, s', e => by
    rw [Sorted.cons] at s s'
    have hxy : c x y ≤ 0 := by
      have : y ∈ x :: r := (Alk.mem h e).2 (by simp)
      rcases List.mem_cons.1 this with h1 | h1
      · subst h1; rw [h.refl]; exact Int.le_refl 0
      · exact s.1 y h1
    have hyx : c y x ≤ 0 := by
      have : x ∈ y :: r' := (Alk.mem h e).1 (by simp)
      rcases List.mem_cons.1 this with h1 | h1
      · subst h1; rw [h.refl]; exact Int.le_refl 0
      · exact s'.1 x h1
    have h0 := h.le_antisymm hxy hyx
    have hx := e x
    simp [cls, h.refl, h0] at hx
    obtain ⟨rfl, -⟩ := hx
    congr 1
    refine sorted_uniq h s.2 s'.2 fun z => ?_
    have hz := e z
    simp only [cls, List.filter_cons] at hz ⊢
    split at hz
    · exact (List.cons.inj hz).2
    · exact hz

theorem alk_insL (h : Cmp c) (x : α) : ∀ l : List α, Alk c (x :: l) (insL c x l)
  | [] => Alk.refl _
  | y :: r => by
    rw [insL]
    split
    · exact Alk.refl _
    · rename_i hn
      have h1 : Alk c ([x] ++ [y]) ([y] ++ [x]) := Alk.swap h fun a ha b hb => by
        simp only [List.mem_singleton] at ha hb
        subst ha; subst hb
        have := h.anti b a
        omega
      have h2 : Alk c (x :: y :: r) (y :: x :: r) := by simpa using h1.append (Alk.refl r)
      exact h2.trans (by simpa using (Alk.refl [y]).append (alk_insL h x r))

theorem sorted_insL (h : Cmp c) (x : α) : ∀ {l : List α}, Sorted c l → Sorted c (insL c x l)
  | [], _ => by simp [insL, Sorted]
  | y :: r, s => by
    rw [Sorted.cons] at s
    rw [insL]
    split
    · rename_i hxy
      rw [Sorted.cons]
      refine ⟨fun z hz => ?_, Sorted.cons.2 s⟩
      rcases List.mem_cons.1 hz with h1 | h1
      · subst h1; exact hxy
      · exact h.trans _ _ _ hxy (s.1 z h1)
    · rename_i hn
      rw [Sorted.cons]
      refine ⟨fun z hz => ?_, sorted_insL h x s.2⟩
      have := (Alk.mem h (alk_insL h x r)).2 hz
      rcases List.mem_cons.1 this with h1 | h1
      · subst h1; have := h.le_total z y; omega
      · exact s.1 z h1

theorem ssort_spec (h : Cmp c) : ∀ l : List α, Sorted c (ssort c l) ∧ Alk c l (ssort c l)
  | [] => ⟨List.Pairwise.nil, Alk.refl _⟩
  | x :: r => by
    obtain ⟨h1, h2⟩ := ssort_spec h r
    refine ⟨sorted_insL h x h1, Alk.trans ?_ (alk_insL h x _)⟩
    simpa using (Alk.refl [x]).append h2

theorem ssort_uniq (h : Cmp c) {l l' : List α} (s : Sorted c l') (e : Alk c l l') : l' = ssort c l :=
  sorted_uniq h s (ssort_spec h l).1 (e.symm.trans (ssort_spec h l).2)

theorem ssort_alk (h : Cmp c) {l l' : List α} (e : Alk c l l') : ssort c l' = ssort c l :=
  ssort_uniq h (ssort_spec h l').1 (e.trans (ssort_spec h l').2)

theorem ssort_length (h : Cmp c) (l : List α) : (ssort c l).length = l.length := ((ssort_spec h l).2.length h).length_eq.symm

theorem ssort_sorted (h : Cmp c) {l : List α} (s : Sorted c l) : ssort c l = l := (ssort_uniq h s (Alk.refl l)).symm

theorem ssort_perm (h : Cmp c) (l : List α) : l.Perm (ssort c l) := (ssort_spec h l).2.length h

/-- one more behind: it goes ahead of those that are greater -/
theorem ssort_snoc (h : Cmp c) {a b : List α} {x : α} (s : Sorted c (a ++ b)) (ha : ∀ y ∈ a, c y x ≤ 0) (hb : ∀ y ∈ b, c x y < 0) : ssort c ((a ++ b) ++ [x]) = a ++ x :: b := by
  refine (ssort_uniq h ?_ ?_).symm
  · rw [Sorted.append] at s ⊢
    refine ⟨s.1, Sorted.cons.2 ⟨fun y hy => by have := hb y hy; omega, s.2.1⟩, fun y hy z hz => ?_⟩
    rcases List.mem_cons.1 hz with h1 | h1
    · subst h1; exact ha y hy
    · exact s.2.2 y hy z h1
  · have h1 : Alk c (b ++ [x]) ([x] ++ b) := Alk.swap h fun y hy z hz => by
      simp only [List.mem_singleton] at hz; subst hz; exact hb y hy
    simpa using (Alk.refl a).append h1

/-- one more ahead: it goes behind those that are less -/
theorem ssort_cons (h : Cmp c) {a b : List α} {x : α} (s : Sorted c (a ++ b)) (ha : ∀ y ∈ a, c y x < 0) (hb : ∀ y ∈ b, c x y ≤ 0) : ssort c (x :: (a ++ b)) = a ++ x :: b := by
  refine (ssort_uniq h ?_ ?_).symm
  · rw [Sorted.append] at s ⊢
    refine ⟨s.1, Sorted.cons.2 ⟨hb, s.2.1⟩, fun y hy z hz => ?_⟩
    rcases List.mem_cons.1 hz with h1 | h1
    · subst h1; have := ha y hy; omega
    · exact s.2.2 y hy z h1
  · have h1 : Alk c ([x] ++ a) (a ++ [x]) := Alk.swap h fun y hy z hz => by
      simp only [List.mem_singleton] at hy; subst hy; exact ha z hz
    simpa using h1.append (Alk.refl b)

/-- the merge of two sorted rows, by halves -/
theorem ssort_halves (h : Cmp c) {a1 a2 b1 b2 : List α} (sa : Sorted c (a1 ++ a2)) (sb : Sorted c (b1 ++ b2)) (h1 : ∀ x ∈ a2, ∀ y ∈ b1, c y x < 0)
    (h2 : ∀ x ∈ a1, ∀ y ∈ b2, c x y ≤ 0) :
    ssort c ((a1 ++ a2) ++ (b1 ++ b2)) = ssort c (a1 ++ b1) ++ ssort c (a2 ++ b2) := by
  rw [Sorted.append] at sa sb
  obtain ⟨l1, l2⟩ := ssort_spec h (a1 ++ b1)
  obtain ⟨r1, r2⟩ := ssort_spec h (a2 ++ b2)
  refine (ssort_uniq h (Sorted.append.2 ⟨l1, r1, fun x hx y hy => ?_⟩) ?_).symm
  · have hx' := (Alk.mem h l2).2 hx
    have hy' := (Alk.mem h r2).2 hy
    rcases List.mem_append.1 hx' with u | u <;> rcases List.mem_append.1 hy' with v | v
    · exact sa.2.2 x u y v
    · exact h2 x u y v
    · have := h1 y v x u; omega
    · exact sb.2.2 x u y v
  · have e1 : Alk c (a1 ++ ((a2 ++ b1) ++ b2)) (a1 ++ ((b1 ++ a2) ++ b2)) := Alk.mid (Alk.swap h h1)
    have e2 := l2.append r2
    simp only [List.append_assoc] at e1 e2 ⊢
    exact e1.trans e2

end
end Go.Zam
