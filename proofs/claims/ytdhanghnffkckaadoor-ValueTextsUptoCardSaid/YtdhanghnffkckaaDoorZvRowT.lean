/-
  The law ValueTexts: its row, where what comes in is of bulk at most 1048576, and its card.
-/
import Derived.Test.YtdhanghnffkckaaDoorM5
import Derived.Test.YtdhanghnffkckaaDoorM7
namespace Go.Proofs.YtdhanghnffkckaaDoor
open Go Go.Zam Go.Proofs.Zv
open Go.ChangeShapes Go.WideShapes Go.ChangeAt Go.RowKit
set_option linter.all false

theorem valueTextsPlain : plainT Tryd.prog [2, 3, 9, 22, 23, 25] = true := by kernel_rfl

set_option maxRecDepth 100000 in
theorem valueTexts_contract (H : Type) (enc : TypeId × Value → H) (W : World) (base : Nat) (args : Array Value) (ds gs : List (DataW H)) (before : List MemPlace)
    (hval : ∀ (j : Nat) t v, Tryd.f3.params[j]? = some t → args[j]? = some v → Value.okWide Tryd.prog W .any base t v)
    (hW : DataW.Whole enc Tryd.prog Tryd.f3.params.toList Rows.valueTextsSpec.vars false W args.toList ds gs before) (hk : Rows.uptoSmall H (ds ++ gs) = true) (hL : laidMetH Tryd.prog Rows.valueTextsUptoRow.laid W) :
    Calls Tryd.prog 3 args W fun e W' => ∃ v, e = .returned v ∧ Rows.valueTextsSpec.post enc Tryd.prog Tryd.f3 false true false false W args v W' := by
  have hlen : ds.length = 2 := by
    obtain ⟨p, q, hA, -⟩ := hW
    rw [Tryd.params3] at hA
    obtain ⟨v0, vs0, d0, ds0, p0, q0, hargs0, rfl, rfl, h0, r0⟩ := trodAll_cons hA
    obtain ⟨v1, vs1, d1, ds1, p1, q1, hargs1, rfl, rfl, h1, r1⟩ := trodAll_cons r0
    obtain ⟨rfl, rfl, rfl⟩ := trodAll_nil r1
    rfl
  match ds, hlen with
  | [d0, d1], _ =>
  refine lawD_of (fn := Tryd.f3) (bt := 4) (ts := [2, 3, 9, 22, 23, 25]) laidOut valueTextsPlain (isBulk H) (fun j t v a b => hval j t v a b) hW rfl (by kernel_rfl) Tryd.underlying4 ?_ rfl rfl rfl (laidOb hL) ?_
  · rw [Tryd.params3]
    intro t ht
    simp only [List.mem_cons, List.not_mem_nil, or_false] at ht
    rcases ht with rfl | rfl
    · exact ⟨by simp, by kernel_rfl, of_decide_eq_true (by kernel_rfl)⟩
    · exact ⟨by simp, by kernel_rfl, of_decide_eq_true (by kernel_rfl)⟩
  · have hb : Rows.uptoBulkAll ([d0, d1] ++ gs) ≤ 1048576 := of_decide_eq_true hk
    have hb' : Rows.uptoBulkAll [d0, d1] ≤ 1048576 := by
      simp only [List.cons_append, List.nil_append, Rows.uptoBulkAll] at hb ⊢; omega
    rw [Tryd.params3]
    rintro xs ⟨n0, c0, a0, r0, b0, rfl, t0, o0, ⟨n1, c1, a1, r1, b1, rfl, t1, o1, rfl, k1⟩, k0⟩
    obtain ⟨v, rfl, vw, vb⟩ := arg_val t0 o0
    obtain ⟨w, rfl, ww, wb⟩ := arg_val t1 o1
    exact (textsOk (H0 := tabH) rfl v w (fit_of v vw (by omega)) (fit_of w ww (by omega)) (by omega) (by omega) tabH (Pre.self _)).mono fun _ _ h => h.1

theorem valueTexts_reads (os : Os) {H : Type} (enc : TypeId × Value → H) : ∃ places, DataW.whole enc Tryd.prog ((laidWorld os).forCall (fun _ _ => 0) ⟨#[], #[.agg #[.int .i64 0, .int .i64 0, .string ⟨#[]⟩, .slice none 0 0, .slice none 0 0], .agg #[.int .i64 0, .int .i64 0, .string ⟨#[]⟩, .slice none 0 0, .slice none 0 0]], []⟩).memory Tryd.f3.params.toList Rows.valueTextsSpec.vars false [.agg #[.int .i64 0, .int .i64 0, .string ⟨#[]⟩, .slice none 0 0, .slice none 0 0], .agg #[.int .i64 0, .int .i64 0, .string ⟨#[]⟩, .slice none 0 0, .slice none 0 0]] 8 = some ([.agg [.lit (.int .i64 0), .lit (.int .i64 0), .lit (.string []), .nil, .nil], .agg [.lit (.int .i64 0), .lit (.int .i64 0), .lit (.string []), .nil, .nil]], [], places) := ⟨[], by kernel_rfl⟩

set_option maxRecDepth 100000 in
theorem valueTexts_lifted (os : Os) (started : os.Started) (H : Type) (enc : TypeId × Value → H) (F : Stop.Interp) :
    ReturnsInHanded {} Tryd.checked os 3 .any ((Rows.OpenSpec.upto Rows.valueTextsSpec).preRow enc Tryd.prog Tryd.f3 Rows.valueTextsUptoRow.domain false Rows.valueTextsUptoRow.laid) (((Rows.OpenSpec.upto Rows.valueTextsSpec).at F).post enc Tryd.prog Tryd.f3 false true false false) := by
  obtain ⟨places, hx⟩ := valueTexts_reads os enc
  refine returnsInHanded_of_row (C := Tryd.checked) (s := Rows.OpenSpec.upto Rows.valueTextsSpec) own started (by kernel_rfl) Tryd.func3
    (witness_row_at (enc := enc) (C := Tryd.checked) false (laidWorld os) #[.agg #[.int .i64 0, .int .i64 0, .string ⟨#[]⟩, .slice none 0 0, .slice none 0 0], .agg #[.int .i64 0, .int .i64 0, .string ⟨#[]⟩, .slice none 0 0, .slice none 0 0]] rfl (by kernel_rfl) (by kernel_rfl) (by kernel_rfl)
      (OpenSpec.preRow_of_cond 8 hx (by kernel_rfl) (fun k hk => by cases hk; kernel_rfl) (by kernel_rfl) (laidMet_of_run' 8 (by kernel_rfl) (by kernel_rfl)))) ?_
  intro W base args ds gs before hval hW _ hc _ hL _ _
  exact valueTexts_contract H enc W base args ds gs before hval hW (hc _ rfl) hL

theorem valueTexts_said : Rows.ValueTextsUptoSaid :=
  OpenClaim.holds_of_cond 3 Tryd.f3 rfl rfl rfl rfl rfl rfl rfl ⟨rfl, rfl, rfl, rfl, rfl⟩ rfl rfl rfl rfl rfl (by kernel_rfl) Tryd.func3 (by kernel_rfl)
    (of_decide_eq_true (by kernel_rfl)) (by unfold Func.isWrapper; first | (rw [if_pos (by decide +kernel)]; kernel_rfl) | (rw [if_neg (by decide +kernel)]; exact ⟨rfl, rfl⟩))
    (fun os started H enc _ F => by rw [OpenClaim.pre_eq_preRow]; exact valueTexts_lifted os started H enc F)

theorem valueTexts_none (f : FuncId) (fn : Func) (hf : Tryd.pinned.checked.prog.funcNamed "whetstone/whetstonelaw11.ValueTexts" = some f) (hfn : Tryd.pinned.checked.prog.funcs[f]? = some fn) :
    false = Tryd.pinned.checked.prog.looks [] ∧ ∀ (j : Nat) t, fn.params[j]? = some t → Tryd.pinned.checked.prog.wantsStandIn t = false := by
  obtain rfl : f = 3 := Option.some.inj ((show Tryd.prog.funcNamed "whetstone/whetstonelaw11.ValueTexts" = some 3 by kernel_rfl).symm.trans hf) |>.symm
  obtain rfl : fn = Tryd.f3 := (Option.some.inj (Tryd.func3.symm.trans hfn)).symm
  refine ⟨by kernel_rfl, fun j t ht => ?_⟩
  rw [Tryd.params3] at ht
  have hm : t ∈ [25, 25] := by simpa using Array.mem_of_getElem? ht
  have hall : ([25, 25].all fun u => !Tryd.prog.wantsStandIn u) = true := by kernel_rfl
  exact (show Tryd.prog.wantsStandIn t = false by simpa using List.all_eq_true.1 hall t hm)

theorem valueTexts_proved : Rows.ValueTextsUptoCardSaid :=
  Claim7.holds_tied_plain_at .later [] _ _ _ _ valueTexts_said (fun _ h => by cases h) (by kernel_rfl) (fun _ h => by cases h) valueTextsUpto_row_tie rfl ⟨rfl, rfl⟩ (by kernel_rfl) rfl valueTexts_none (by kernel_rfl)
end Go.Proofs.YtdhanghnffkckaaDoor
