/-
  An abstract machine over the model, thirty-fifth part: what is of a type. No program in sight. No condition.
-/
import Derived.Test.YtjpdjaglggcbkaaZam18
namespace Go.Zam
set_option linter.all false

theorem typed_str {P : Program} {n : Nat} {t : TypeId} {ds : List D} (hu : P.underlying t = some .string) (h : Typed P n t ds) : ∃ s, ds = [.str s] := by
  cases n with
  | zero => exact h.elim
  | succ n => simpa only [Typed, hu] using h

theorem typed_int {P : Program} {n : Nat} {t : TypeId} {k : IntKind} {ds : List D} (hu : P.underlying t = some (.int k)) (h : Typed P n t ds) : ∃ x, ds = [.int k x] := by
  cases n with
  | zero => exact h.elim
  | succ n =>
    simp only [Typed, hu] at h
    exact ⟨h.choose, h.choose_spec.1⟩

theorem typed_bool {P : Program} {n : Nat} {t : TypeId} {ds : List D} (hu : P.underlying t = some .bool) (h : Typed P n t ds) : ∃ b, ds = [.bool b] := by
  cases n with
  | zero => exact h.elim
  | succ n => simpa only [Typed, hu] using h

theorem rows_of {P : Program} {t : TypeId} {α : Type} {enc : α → List D} (hE : ∀ n ds, Typed P n t ds → ∃ a, ds = enc a) {n : Nat} {rows : List (List D)} (h : ∀ r ∈ rows, Typed P n t r) : ∃ l : List α, rows = l.map enc := by
  induction rows with
  | nil => exact ⟨[], rfl⟩
  | cons r rows ih =>
    obtain ⟨l, rfl⟩ := ih fun r hr => h r (by simp [hr])
    obtain ⟨a, rfl⟩ := hE n r (h r (by simp))
    exact ⟨a :: l, rfl⟩

theorem typed_sl {P : Program} {t e : TypeId} {α : Type} {enc : α → List D} (hu : P.underlying t = some (.slice e)) {sz : Nat} (hs : P.cellsOf e = sz) (hE : ∀ n ds, Typed P n e ds → ∃ a, ds = enc a) {n : Nat} {ds : List D} (h : Typed P n t ds) : ∃ z, ∃ l : List α, ds = [.sl z sz (l.map enc)] := by
  cases n with
  | zero => exact h.elim
  | succ n =>
    simp only [Typed, hu] at h
    obtain ⟨z, rows, rfl, hr⟩ := h
    obtain ⟨l, rfl⟩ := rows_of hE hr
    exact ⟨z, l, by rw [hs]⟩

theorem typed_struct {P : Program} {t : TypeId} {fs : Array Field} {n : Nat} {ds : List D} (hu : P.underlying t = some (.struct fs)) (h : Typed P n t ds) : ∃ n', TypedFs (Typed P n') fs.toList ds := by
  cases n with
  | zero => exact h.elim
  | succ n => exact ⟨n, by simpa only [Typed, hu] using h⟩

theorem argOf_one {P : Program} {t : TypeId} {x : D} {a : A} (hu : ∀ fs, P.underlying t ≠ some (.struct fs)) (h : ArgOf P t [x] a) : a = .d x := by
  unfold ArgOf at h
  split at h
  · rename_i fs e; exact absurd e (hu fs)
  · obtain ⟨y, hy, rfl⟩ := h
    simp at hy; rw [hy]

theorem bulkR_mem {rows : List (List D)} {r : List D} (h : r ∈ rows) : D.bulkC r ≤ D.bulkR rows := by
  induction rows with
  | nil => simp at h
  | cons x rows ih =>
    simp only [D.bulkR]
    rcases List.mem_cons.1 h with rfl | h
    · omega
    · have := ih h; omega

theorem bulkC_mem {l : List D} {d : D} (h : d ∈ l) : D.bulk d ≤ D.bulkC l := by
  induction l with
  | nil => simp at h
  | cons x l ih =>
    simp only [D.bulkC]
    rcases List.mem_cons.1 h with rfl | h
    · omega
    · have := ih h; omega

theorem bulkR_len {α : Type} {enc : α → List D} (he : ∀ a, 1 ≤ D.bulkC (enc a)) : ∀ l : List α, l.length ≤ D.bulkR (l.map enc)
  | [] => by simp
  | a :: l => by
    have := bulkR_len he l
    have := he a
    simp only [List.length_cons, List.map_cons, D.bulkR]; omega

end Go.Zam
