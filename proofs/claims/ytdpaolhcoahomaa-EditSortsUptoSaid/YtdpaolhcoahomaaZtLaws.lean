/-
  The law EditDoes on the abstract machine returns true. The lengths are bounded where a theorem says so.
-/
import Derived.Test.YtdpaolhcoahomaaZtRefA
import Derived.KernelRfl
namespace Go.Proofs.Zt
open Go Go.Zam Go.Proofs
set_option maxRecDepth 100000
set_option linter.all false
set_option maxHeartbeats 4000000

theorem editDoesOk (z : Bool) (s : List UInt8) (l : List Ed) (hb : s.length + total l ≤ 70368744177664) (hb2 : l.length ≤ 70368744177664) :
    ACall Try.prog 3 [.d (.str s), .d (.sl z 3 (l.map encE))] [] (fun r _ => r = .d (.bool true)) := by
  refine acall_fin rfl cf3 (by simp [ir3]) fun hcl _ => ?_
  simp [ir3]
  refine CallK_of' (lightOk _ z s l (by omega) (by omega)) ?_
  simp
  refine BrK_split (fun h => ?_) (fun h => ?_)
  · simp
    refine CallK_of' (awakeOk _) ?_
    simp [RetK]
  simp
  refine CallK_of' (applyOk _ z s l hb) ?_
  simp
  refine CallK_of' (refApplyOk _ z s l hb) ?_
  simp
  refine CallK_of' (awakeOk _) ?_
  simp
  refine CallK_of' (soundOk _ z l s.length) ?_
  simp
  refine CallK_of' (refSoundOk _ z l s.length) ?_
  simp [RetK]

theorem rows_ed {n : Nat} {rows : List (List D)} (h : ∀ r ∈ rows, Typed Try.prog n 41 r) : ∃ l : List Ed, rows = l.map encE := by
  induction rows with
  | nil => exact ⟨[], rfl⟩
  | cons r rows ih =>
    obtain ⟨l, rfl⟩ := ih fun r hr => h r (by simp [hr])
    have h0 := h r (by simp)
    cases n with
    | zero => exact h0.elim
    | succ n =>
      cases n with
      | zero => simp [Typed, Try.underlying41, TypedFs] at h0
      | succ n =>
        simp only [Typed, Try.underlying41, TypedFs, Try.underlying3, Try.underlying9] at h0
        obtain ⟨a, b, rfl, ⟨x, rfl, -⟩, a', b', rfl, ⟨y, rfl, -⟩, a'', b'', rfl, ⟨t, rfl⟩, rfl⟩ := h0
        exact ⟨⟨x, y, t⟩ :: l, by simp [encE]⟩

theorem bulk_eds : ∀ l : List Ed, total l + l.length ≤ D.bulkR (l.map encE)
  | [] => by simp [total, D.bulkR]
  | e :: r => by
    have := bulk_eds r
    simp only [total, List.length_cons, List.map_cons, D.bulkR, encE, D.bulkC, D.bulk]
    omega

/-- a list of edits, as an argument -/
theorem arg_eds {n : Nat} {ds : List D} {a : A} (h : Typed Try.prog n 22 ds) (ha : ArgOf Try.prog 22 ds a) : ∃ z, ∃ l : List Ed, a = .d (.sl z 3 (l.map encE)) ∧ total l + l.length ≤ D.bulkC ds := by
  cases n with
  | zero => exact h.elim
  | succ n =>
    simp only [Typed, Try.underlying22] at h
    obtain ⟨z, rows, rfl, hr⟩ := h
    obtain ⟨l, rfl⟩ := rows_ed hr
    simp only [ArgOf, Try.underlying22] at ha
    obtain ⟨x, hx, rfl⟩ := ha
    simp only [List.cons.injEq, and_true] at hx
    subst hx
    have hc : Try.prog.cellsOf 41 = 3 := by kernel_rfl
    refine ⟨z, l, by rw [hc], ?_⟩
    have := bulk_eds l
    simp only [D.bulkC, D.bulk]
    omega

theorem arg_str {n : Nat} {ds : List D} {a : A} (h : Typed Try.prog n 9 ds) (ha : ArgOf Try.prog 9 ds a) : ∃ s : List UInt8, a = .d (.str s) ∧ s.length ≤ D.bulkC ds := by
  cases n with
  | zero => exact h.elim
  | succ n =>
    simp only [Typed, Try.underlying9] at h
    obtain ⟨s, rfl⟩ := h
    simp only [ArgOf, Try.underlying9] at ha
    obtain ⟨x, hx, rfl⟩ := ha
    simp only [List.cons.injEq, and_true] at hx
    subst hx
    exact ⟨s, rfl, by simp only [D.bulkC, D.bulk]; omega⟩

end Go.Proofs.Zt
