/-
  What comes into the statements on histories. No condition.
-/
import Derived.Test.YtjpdjaglggcbkaaZam35
import Derived.Test.YtjpdjaglggcbkaaZhSmall
import Derived.KernelRfl
namespace Go.Proofs.Zh
open Go Go.Zam Go.Proofs
set_option maxRecDepth 100000
set_option linter.all false
set_option maxHeartbeats 1000000

theorem ty60 (n : Nat) (ds : List D) (h : Typed Try.prog n 60 ds) : ∃ e : Ed, ds = encE e := by
  obtain ⟨m, h⟩ := typed_struct Try.underlying60 h
  obtain ⟨a, r, rfl, ha, b, r, rfl, hb, c, r, rfl, hc, rfl⟩ := h
  obtain ⟨x, rfl⟩ := typed_int Try.underlying3 ha
  obtain ⟨y, rfl⟩ := typed_int Try.underlying3 hb
  obtain ⟨s, rfl⟩ := typed_str Try.underlying9 hc
  exact ⟨⟨x, y, s⟩, rfl⟩

theorem ty63 (n : Nat) (ds : List D) (h : Typed Try.prog n 63 ds) : ∃ c : Chg, ds = encC c := by
  obtain ⟨m, h⟩ := typed_struct Try.underlying63 h
  obtain ⟨a, r, rfl, ha, b, r, rfl, hb, rfl⟩ := h
  obtain ⟨s, rfl⟩ := typed_str Try.underlying9 ha
  obtain ⟨z, l, rfl⟩ := typed_sl (sz := 3) Try.underlying61 (by kernel_rfl) ty60 hb
  exact ⟨⟨s, z, l⟩, rfl⟩

theorem ty58 (n : Nat) (ds : List D) (h : Typed Try.prog n 58 ds) : ∃ m : Mod, ds = encM m := by
  obtain ⟨m, h⟩ := typed_struct Try.underlying58 h
  obtain ⟨a, r, rfl, ha, b, r, rfl, hb, rfl⟩ := h
  obtain ⟨s, rfl⟩ := typed_str Try.underlying9 ha
  obtain ⟨t, rfl⟩ := typed_str Try.underlying9 hb
  exact ⟨⟨s, t⟩, rfl⟩

theorem ty33 (n : Nat) (ds : List D) (h : Typed Try.prog n 33 ds) : ∃ o : Op, ds = encOp o := by
  obtain ⟨m, h⟩ := typed_struct Try.underlying33 h
  obtain ⟨a, r, rfl, ha, b, r, rfl, hb, c, r, rfl, hc, d, r, rfl, hd, rfl⟩ := h
  obtain ⟨x, rfl⟩ := typed_int Try.underlying3 ha
  obtain ⟨y, rfl⟩ := typed_int Try.underlying3 hb
  obtain ⟨s, rfl⟩ := typed_str Try.underlying9 hc
  obtain ⟨z, l, rfl⟩ := typed_sl (sz := 2) Try.underlying31 (by kernel_rfl) ty63 hd
  exact ⟨⟨x, y, s, z, l⟩, rfl⟩

theorem arg_mods {n : Nat} {ds : List D} {a : A} (h : Typed Try.prog n 22 ds) (ha : ArgOf Try.prog 22 ds a) : ∃ z, ∃ l : List Mod, a = .d (.sl z 2 (l.map encM)) ∧ (l.length ≤ D.bulkC ds ∧ ∀ m ∈ l, m.n.length ≤ D.bulkC ds ∧ m.t.length ≤ D.bulkC ds) := by
  obtain ⟨z, l, rfl⟩ := typed_sl (sz := 2) Try.underlying22 (by kernel_rfl) ty58 h
  refine ⟨z, l, argOf_one (by rw [Try.underlying22]; simp) ha, ?_⟩
  have h1 := bulkR_len (enc := encM) (fun m => by simp only [encM, D.bulkC, D.bulk]; omega) l
  simp only [D.bulkC, D.bulk]
  refine ⟨by omega, fun m hm => ?_⟩
  have h2 := bulkR_mem (List.mem_map_of_mem (f := encM) hm)
  simp only [encM, D.bulkC, D.bulk] at h2
  omega

theorem arg_ops {n : Nat} {ds : List D} {a : A} (h : Typed Try.prog n 23 ds) (ha : ArgOf Try.prog 23 ds a) : ∃ z, ∃ l : List Op, a = .d (.sl z 4 (l.map encOp)) ∧
    (l.length ≤ D.bulkC ds ∧ ∀ o ∈ l, o.s.length ≤ D.bulkC ds ∧ o.l.length ≤ D.bulkC ds ∧ ∀ c ∈ o.l, c.l.length ≤ D.bulkC ds ∧ ∀ e ∈ c.l, e.s.length ≤ D.bulkC ds) := by
  obtain ⟨z, l, rfl⟩ := typed_sl (sz := 4) Try.underlying23 (by kernel_rfl) ty33 h
  refine ⟨z, l, argOf_one (by rw [Try.underlying23]; simp) ha, ?_⟩
  have h1 := bulkR_len (enc := encOp) (fun m => by simp only [encOp, D.bulkC, D.bulk]; omega) l
  simp only [D.bulkC, D.bulk]
  refine ⟨by omega, fun o ho => ?_⟩
  have h2 := bulkR_mem (List.mem_map_of_mem (f := encOp) ho)
  simp only [encOp, D.bulkC, D.bulk] at h2
  have h3 := bulkR_len (enc := encC) (fun m => by simp only [encC, D.bulkC, D.bulk]; omega) o.l
  refine ⟨by omega, by omega, fun c hc => ?_⟩
  have h4 := bulkR_mem (List.mem_map_of_mem (f := encC) hc)
  simp only [encC, D.bulkC, D.bulk] at h4
  have h5 := bulkR_len (enc := encE) (fun m => by simp only [encE, D.bulkC, D.bulk]; omega) c.l
  refine ⟨by omega, fun e he => ?_⟩
  have h6 := bulkR_mem (List.mem_map_of_mem (f := encE) he)
  simp only [encE, D.bulkC, D.bulk] at h6
  omega

theorem arg_int {n : Nat} {ds : List D} {a : A} (h : Typed Try.prog n 3 ds) (ha : ArgOf Try.prog 3 ds a) : ∃ x : Int, a = .d (.int .i64 x) := by
  obtain ⟨x, rfl⟩ := typed_int Try.underlying3 h
  exact ⟨x, argOf_one (by rw [Try.underlying3]; simp) ha⟩

theorem arg_str {n : Nat} {ds : List D} {a : A} (h : Typed Try.prog n 9 ds) (ha : ArgOf Try.prog 9 ds a) : ∃ s : List UInt8, a = .d (.str s) := by
  obtain ⟨x, rfl⟩ := typed_str Try.underlying9 h
  exact ⟨x, argOf_one (by rw [Try.underlying9]; simp) ha⟩

end Go.Proofs.Zh
