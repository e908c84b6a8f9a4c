/-
  The law ScopeInside: its row, where what comes in is of bulk at most 1048576.
-/
import Derived.Test.YtffdeeooocookaaM7
import Derived.Test.YtffdeeooocookaaRows
import Derived.ProofKit
import Derived.OpenShut
import Derived.JoinedCond
namespace Go.Proofs.Ytffdeeooocookaa
open Go Go.Zam Go.Proofs.Zs
open Go.ChangeShapes Go.WideShapes Go.ChangeAt Go.RowKit
set_option linter.all false

theorem isBulk (H : Type) : IsBulk (X := H) Rows.uptoBulk Rows.uptoBulkAll where
  str := fun b => by simp [Rows.uptoBulk]
  bool := fun b => by simp [Rows.uptoBulk]
  int := fun k n => by simp [Rows.uptoBulk]
  nil := by simp [Rows.uptoBulk]
  slice := fun e s => by simp only [Rows.uptoBulk]; omega
  agg := fun p => by simp only [Rows.uptoBulk]; omega
  cons := fun d r => by simp only [Rows.uptoBulkAll]; omega

theorem own : ownKnob Try.prog.godebug = none := by kernel_rfl
theorem laidOut : laidOutB Try.prog = true := by kernel_rfl
theorem arg_str : ∀ {n : Nat} {ds : List D} {a : A} (h : Typed Try.prog n 9 ds) (ha : ArgOf Try.prog 9 ds a), ∃ s : List UInt8, a = .d (.str s) ∧ s.length ≤ D.bulkC ds ∧ s.length + 1 ≤ D.bulkC ds :=
  @arg_str_of Try.prog 9 Try.underlying9

theorem scopeInsidePlain : plainT Try.prog [9] = true := by kernel_rfl

set_option maxRecDepth 100000 in
theorem scopeInside_contract (H : Type) (enc : TypeId × Value → H) (W : World) (base : Nat) (args : Array Value) (ds gs : List (DataW H)) (before : List MemPlace)
    (hval : ∀ (j : Nat) t v, Try.f6.params[j]? = some t → args[j]? = some v → Value.okWide Try.prog W .any base t v)
    (hW : DataW.Whole enc Try.prog Try.f6.params.toList Rows.scopeInsideSpec.vars false W args.toList ds gs before) (hk : Rows.uptoSmall H (ds ++ gs) = true) :
    Calls Try.prog 6 args W fun e W' => ∃ v, e = .returned v ∧ Rows.scopeInsideSpec.post enc Try.prog Try.f6 false true false false W args v W' := by
  have hlen : ds.length = 1 := by
    obtain ⟨p, q, hA, -⟩ := hW
    rw [Try.params6] at hA
    obtain ⟨v0, vs0, d0, ds0, p0, q0, hargs0, rfl, rfl, h0, r0⟩ := trodAll_cons hA
    obtain ⟨rfl, rfl, rfl⟩ := trodAll_nil r0
    rfl
  match ds, hlen with
  | [d0], _ =>
  refine law_of (fn := Try.f6) (bt := 4) (ts := [9]) laidOut scopeInsidePlain (isBulk H) (fun j t v a b => hval j t v a b) hW rfl (by kernel_rfl) Try.underlying4 ?_ rfl rfl rfl ?_
  · rw [Try.params6]
    intro t ht
    simp only [List.mem_cons, List.not_mem_nil, or_false] at ht
    rcases ht with rfl
    · exact ⟨by simp, by kernel_rfl, of_decide_eq_true (by kernel_rfl)⟩
  · have hb : Rows.uptoBulkAll ([d0] ++ gs) ≤ 1048576 := of_decide_eq_true hk
    have hb' : Rows.uptoBulkAll [d0] ≤ 1048576 := by
      simp only [List.cons_append, List.nil_append, Rows.uptoBulkAll] at hb ⊢; omega
    rw [Try.params6]
    rintro xs ⟨n0, c0, a0, r0, b0, rfl, t0, o0, rfl, k0⟩
    obtain ⟨s, rfl, sl⟩ := arg_str t0 o0
    exact (insideOk s (by have := sl.1; omega) []).mono fun _ _ h => h.1

set_option maxRecDepth 100000 in
theorem scopeInside_lifted (os : Os) (started : os.Started) (H : Type) (enc : TypeId × Value → H) (F : Stop.Interp) :
    ReturnsInHanded {} Try.checked os 6 .any ((Rows.OpenSpec.upto Rows.scopeInsideSpec).pre6 enc Try.prog Try.f6 Rows.scopeInsideUptoRow.domain false) (((Rows.OpenSpec.upto Rows.scopeInsideSpec).at F).post enc Try.prog Try.f6 false true false false) := by
  refine returnsInHanded_of_cond (C := Try.checked) (s := Rows.OpenSpec.upto Rows.scopeInsideSpec) (k := Rows.uptoSmall) rfl own started (by kernel_rfl) Try.func6
    (OpenSpec.witness (enc := enc) (C := Try.checked) (s := Rows.OpenSpec.upto Rows.scopeInsideSpec) (k := Rows.uptoSmall) rfl false ⟨#[], #[.string ⟨#[]⟩], []⟩ 8 (by kernel_rfl) (by kernel_rfl) (by kernel_rfl)
      (x := ([.lit (.string [])], [], [])) (by kernel_rfl) rfl (by kernel_rfl)) ?_
  intro W base args ds gs before hval hW _ hk _
  exact scopeInside_contract H enc W base args ds gs before hval hW hk

theorem scopeInside_proved : Rows.ScopeInsideUptoSaid :=
  OpenClaim.holds_of_cond 6 Try.f6 rfl rfl rfl rfl rfl rfl rfl ⟨rfl, rfl, rfl, rfl, rfl⟩ rfl rfl rfl rfl rfl (by kernel_rfl) Try.func6 (by kernel_rfl)
    (of_decide_eq_true (by kernel_rfl)) (by unfold Func.isWrapper; first | (rw [if_pos (by decide +kernel)]; kernel_rfl) | (rw [if_neg (by decide +kernel)]; exact ⟨rfl, rfl⟩))
    (fun os started H enc _ F => scopeInside_lifted os started H enc F)
end Go.Proofs.Ytffdeeooocookaa
