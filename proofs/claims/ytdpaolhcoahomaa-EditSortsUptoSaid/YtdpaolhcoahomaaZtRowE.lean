/-
  The law EditSorts: its row, where what comes in is of bulk at most 1048576.
-/
import Derived.Test.YtdpaolhcoahomaaZtSorts
import Derived.Test.YtdpaolhcoahomaaRows
import Derived.ProofKit
import Derived.OpenShut
import Derived.JoinedCond
namespace Go.Proofs.Ytdpaolhcoahomaa
open Go Go.Zam Go.Proofs.Zt
open Go.ChangeShapes Go.WideShapes Go.ChangeAt Go.RowKit
set_option linter.all false

theorem isBulk (H : Type) : IsBulk (X := H) Rows.uptoBulk Rows.uptoBulkAll where
  str := fun b => by simp [Rows.uptoBulk]
  bool := fun b => by simp [Rows.uptoBulk]
  int := fun k n => by simp [Rows.uptoBulk]
  nil := by simp [Rows.uptoBulk]
  slice := fun e s => by simp only [Rows.uptoBulk]; omega
  agg := fun p => by simp only [Rows.uptoBulk]; omega
  cons := fun d r => by simp only [Rows.uptoBulkAll]; omega

theorem own : ownKnob Try.prog.godebug = none := by kernel_rfl
theorem laidOut : laidOutB Try.prog = true := by kernel_rfl

theorem editSortsPlain : plainT Try.prog [3, 4, 9, 22, 41] = true := by kernel_rfl

theorem editSorts_contract (H : Type) (enc : TypeId × Value → H) (W : World) (base : Nat) (args : Array Value) (ds gs : List (DataW H)) (before : List MemPlace)
    (hval : ∀ (j : Nat) t v, Try.f7.params[j]? = some t → args[j]? = some v → Value.okWide Try.prog W .any base t v)
    (hW : DataW.Whole enc Try.prog Try.f7.params.toList Rows.editSortsSpec.vars false W args.toList ds gs before) (hk : Rows.uptoSmall H (ds ++ gs) = true) :
    Calls Try.prog 7 args W fun e W' => ∃ v, e = .returned v ∧ Rows.editSortsSpec.post enc Try.prog Try.f7 false true false false W args v W' := by
  have hlen : ds.length = 1 := by
    obtain ⟨p, q, hA, -⟩ := hW
    rw [Try.params7] at hA
    obtain ⟨v0, vs0, d0, ds0, p0, q0, hargs0, rfl, rfl, h0, r0⟩ := trodAll_cons hA
    obtain ⟨rfl, rfl, rfl⟩ := trodAll_nil r0
    rfl
  match ds, hlen with
  | [d0], _ =>
  refine law_of (bt := 4) (ts := [3, 4, 9, 22, 41]) laidOut editSortsPlain (isBulk H) hval hW rfl (by rfl) Try.underlying4 ?_ rfl rfl rfl ?_
  · rw [Try.params7]
    intro t ht
    simp only [List.mem_cons, List.not_mem_nil, or_false] at ht
    rcases ht with rfl
    · exact ⟨by simp, by kernel_rfl, of_decide_eq_true (by kernel_rfl)⟩
  · have hb : Rows.uptoBulkAll ([d0] ++ gs) ≤ 1048576 := of_decide_eq_true hk
    have hb' : Rows.uptoBulkAll [d0] ≤ 1048576 := by
      simp only [List.cons_append, List.nil_append, Rows.uptoBulkAll] at hb ⊢; omega
    rw [Try.params7]
    rintro xs ⟨n0, c0, a0, r0, b0, rfl, t0, o0, rfl, k0⟩
    obtain ⟨z, l, rfl, hl⟩ := arg_eds t0 o0
    exact editSortsOk z l (by omega) (by omega)

set_option maxRecDepth 100000 in
theorem editSorts_lifted (os : Os) (started : os.Started) (H : Type) (enc : TypeId × Value → H) (F : Stop.Interp) :
    ReturnsInHanded {} Try.checked os 7 .any ((Rows.OpenSpec.upto Rows.editSortsSpec).pre6 enc Try.prog Try.f7 Rows.editSortsUptoRow.domain false) (((Rows.OpenSpec.upto Rows.editSortsSpec).at F).post enc Try.prog Try.f7 false true false false) := by
  refine returnsInHanded_of_cond (C := Try.checked) (s := Rows.OpenSpec.upto Rows.editSortsSpec) (k := Rows.uptoSmall) rfl own started (by kernel_rfl) Try.func7
    (OpenSpec.witness (enc := enc) (C := Try.checked) (s := Rows.OpenSpec.upto Rows.editSortsSpec) (k := Rows.uptoSmall) rfl false ⟨#[], #[.slice none 0 0], []⟩ 8 (by kernel_rfl) (by kernel_rfl) (by kernel_rfl)
      (x := ([.nil], [], [])) (by kernel_rfl) rfl (by kernel_rfl)) ?_
  intro W base args ds gs before hval hW _ hk _
  exact editSorts_contract H enc W base args ds gs before hval hW hk

theorem editSorts_proved : Rows.EditSortsUptoSaid :=
  OpenClaim.holds_of_cond 7 Try.f7 rfl rfl rfl rfl rfl rfl rfl ⟨rfl, rfl, rfl, rfl, rfl⟩ rfl rfl rfl rfl rfl (by kernel_rfl) Try.func7 (by kernel_rfl)
    (of_decide_eq_true (by kernel_rfl)) (by unfold Func.isWrapper; first | (rw [if_pos (by decide +kernel)]; kernel_rfl) | (rw [if_neg (by decide +kernel)]; exact ⟨rfl, rfl⟩))
    (fun os started H enc _ F => editSorts_lifted os started H enc F)
end Go.Proofs.Ytdpaolhcoahomaa
