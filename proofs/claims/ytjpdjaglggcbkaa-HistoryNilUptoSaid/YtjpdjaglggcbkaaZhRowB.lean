/-
  The law HistoryNil: its row, where what comes in is of bulk at most 1048576.
-/
import Derived.Test.YtjpdjaglggcbkaaZhNil
import Derived.Test.YtjpdjaglggcbkaaZhArgs
import Derived.Test.YtjpdjaglggcbkaaRows
import Derived.ProofKit
import Derived.OpenShut
import Derived.JoinedCond
namespace Go.Proofs.Ytjpdjaglggcbkaa
open Go Go.Zam Go.Proofs.Zh
open Go.ChangeShapes Go.WideShapes Go.ChangeAt Go.RowKit
set_option linter.all false

theorem isBulk (H : Type) : IsBulk (X := H) Rows.uptoBulk Rows.uptoBulkAll where
  str := fun b => by simp [Rows.uptoBulk]
  bool := fun b => by simp [Rows.uptoBulk]
  int := fun k n => by simp [Rows.uptoBulk]
  nil := by simp [Rows.uptoBulk]
  slice := fun e s => by simp only [Rows.uptoBulk]; omega
  agg := fun p => by simp only [Rows.uptoBulk]; omega
  cons := fun d r => by simp only [Rows.uptoBulkAll]; omega

theorem own : ownKnob Try.prog.godebug = none := by kernel_rfl
theorem laidOut : laidOutB Try.prog = true := by kernel_rfl

theorem historyNilPlain : plainT Try.prog [3, 9] = true := by kernel_rfl

set_option maxRecDepth 100000 in
theorem historyNil_contract (H : Type) (enc : TypeId × Value → H) (W : World) (base : Nat) (args : Array Value) (ds gs : List (DataW H)) (before : List MemPlace)
    (hval : ∀ (j : Nat) t v, Try.f5.params[j]? = some t → args[j]? = some v → Value.okWide Try.prog W .any base t v)
    (hW : DataW.Whole enc Try.prog Try.f5.params.toList Rows.historyNilSpec.vars false W args.toList ds gs before) (hk : Rows.uptoSmall H (ds ++ gs) = true) :
    Calls Try.prog 5 args W fun e W' => ∃ v, e = .returned v ∧ Rows.historyNilSpec.post enc Try.prog Try.f5 false true false false W args v W' := by
  have hlen : ds.length = 2 := by
    obtain ⟨p, q, hA, -⟩ := hW
    rw [Try.params5] at hA
    obtain ⟨v0, vs0, d0, ds0, p0, q0, hargs0, rfl, rfl, h0, r0⟩ := trodAll_cons hA
    obtain ⟨v1, vs1, d1, ds1, p1, q1, hargs1, rfl, rfl, h1, r1⟩ := trodAll_cons r0
    obtain ⟨rfl, rfl, rfl⟩ := trodAll_nil r1
    rfl
  match ds, hlen with
  | [d0, d1], _ =>
  refine law_of (fn := Try.f5) (bt := 4) (ts := [3, 9]) laidOut historyNilPlain (isBulk H) (fun j t v a b => hval j t v a b) hW rfl (by kernel_rfl) Try.underlying4 ?_ rfl rfl rfl ?_
  · rw [Try.params5]
    intro t ht
    simp only [List.mem_cons, List.not_mem_nil, or_false] at ht
    rcases ht with rfl | rfl
    · exact ⟨by simp, by kernel_rfl, of_decide_eq_true (by kernel_rfl)⟩
    · exact ⟨by simp, by kernel_rfl, of_decide_eq_true (by kernel_rfl)⟩
  · have hb : Rows.uptoBulkAll ([d0, d1] ++ gs) ≤ 1048576 := of_decide_eq_true hk
    have hb' : Rows.uptoBulkAll [d0, d1] ≤ 1048576 := by
      simp only [List.cons_append, List.nil_append, Rows.uptoBulkAll] at hb ⊢; omega
    rw [Try.params5]
    rintro xs ⟨n0, c0, a0, r0, b0, rfl, t0, o0, ⟨n1, c1, a1, r1, b1, rfl, t1, o1, rfl, k1⟩, k0⟩
    obtain ⟨n, rfl⟩ := arg_int t0 o0
    obtain ⟨s, rfl⟩ := arg_str t1 o1
    exact (nilOk n s).mono fun _ _ h => h.1

set_option maxRecDepth 100000 in
theorem historyNil_lifted (os : Os) (started : os.Started) (H : Type) (enc : TypeId × Value → H) (F : Stop.Interp) :
    ReturnsInHanded {} Try.checked os 5 .any ((Rows.OpenSpec.upto Rows.historyNilSpec).pre6 enc Try.prog Try.f5 Rows.historyNilUptoRow.domain false) (((Rows.OpenSpec.upto Rows.historyNilSpec).at F).post enc Try.prog Try.f5 false true false false) := by
  refine returnsInHanded_of_cond (C := Try.checked) (s := Rows.OpenSpec.upto Rows.historyNilSpec) (k := Rows.uptoSmall) rfl own started (by kernel_rfl) Try.func5
    (OpenSpec.witness (enc := enc) (C := Try.checked) (s := Rows.OpenSpec.upto Rows.historyNilSpec) (k := Rows.uptoSmall) rfl false ⟨#[], #[.int .i64 0, .string .empty], []⟩ 8 (by kernel_rfl) (by kernel_rfl) (by kernel_rfl)
      (x := ([.lit (.int .i64 0), .lit (.string [])], [], [])) (by kernel_rfl) rfl (by kernel_rfl)) ?_
  intro W base args ds gs before hval hW _ hk _
  exact historyNil_contract H enc W base args ds gs before hval hW hk

theorem historyNil_proved : Rows.HistoryNilUptoSaid :=
  OpenClaim.holds_of_cond 5 Try.f5 rfl rfl rfl rfl rfl rfl rfl ⟨rfl, rfl, rfl, rfl, rfl⟩ rfl rfl rfl rfl rfl (by kernel_rfl) Try.func5 (by kernel_rfl)
    (of_decide_eq_true (by kernel_rfl)) (by unfold Func.isWrapper; first | (rw [if_pos (by decide +kernel)]; kernel_rfl) | (rw [if_neg (by decide +kernel)]; exact ⟨rfl, rfl⟩))
    (fun os started H enc _ F => historyNil_lifted os started H enc F)
end Go.Proofs.Ytjpdjaglggcbkaa
