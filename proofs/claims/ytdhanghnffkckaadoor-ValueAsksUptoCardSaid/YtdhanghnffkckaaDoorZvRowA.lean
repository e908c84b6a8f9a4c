/-
  The law ValueAsks: its row, where what comes in is of bulk at most 1048576, and its card.
-/
import Derived.Test.YtdhanghnffkckaaDoorM5
import Derived.Test.YtdhanghnffkckaaDoorM6
namespace Go.Proofs.YtdhanghnffkckaaDoor
open Go Go.Zam Go.Proofs.Zv
open Go.ChangeShapes Go.WideShapes Go.ChangeAt Go.RowKit
set_option linter.all false

theorem valueAsksPlain : plainT Tryd.prog [2, 3, 9, 22, 23, 24, 25, 53, 54, 55] = true := by kernel_rfl

set_option maxRecDepth 100000 in
theorem valueAsks_contract (H : Type) (enc : TypeId × Value → H) (W : World) (base : Nat) (args : Array Value) (ds gs : List (DataW H)) (before : List MemPlace)
    (hval : ∀ (j : Nat) t v, Tryd.f7.params[j]? = some t → args[j]? = some v → Value.okWide Tryd.prog W .any base t v)
    (hW : DataW.Whole enc Tryd.prog Tryd.f7.params.toList Rows.valueAsksSpec.vars false W args.toList ds gs before) (hk : Rows.uptoSmall H (ds ++ gs) = true) (hL : laidMetH Tryd.prog Rows.valueAsksUptoRow.laid W) :
    Calls Tryd.prog 7 args W fun e W' => ∃ v, e = .returned v ∧ Rows.valueAsksSpec.post enc Tryd.prog Tryd.f7 false true false false W args v W' := by
  have hlen : ds.length = 4 := by
    obtain ⟨p, q, hA, -⟩ := hW
    rw [Tryd.params7] at hA
    obtain ⟨v0, vs0, d0, ds0, p0, q0, hargs0, rfl, rfl, h0, r0⟩ := trodAll_cons hA
    obtain ⟨v1, vs1, d1, ds1, p1, q1, hargs1, rfl, rfl, h1, r1⟩ := trodAll_cons r0
    obtain ⟨v2, vs2, d2, ds2, p2, q2, hargs2, rfl, rfl, h2, r2⟩ := trodAll_cons r1
    obtain ⟨v3, vs3, d3, ds3, p3, q3, hargs3, rfl, rfl, h3, r3⟩ := trodAll_cons r2
    obtain ⟨rfl, rfl, rfl⟩ := trodAll_nil r3
    rfl
  match ds, hlen with
  | [d0, d1, d2, d3], _ =>
  refine lawD_of (fn := Tryd.f7) (bt := 4) (ts := [2, 3, 9, 22, 23, 24, 25, 53, 54, 55]) laidOut valueAsksPlain (isBulk H) (fun j t v a b => hval j t v a b) hW rfl (by kernel_rfl) Tryd.underlying4 ?_ rfl rfl rfl (laidOb hL) ?_
  · rw [Tryd.params7]
    intro t ht
    simp only [List.mem_cons, List.not_mem_nil, or_false] at ht
    rcases ht with rfl | rfl | rfl | rfl
    · exact ⟨by simp, by kernel_rfl, of_decide_eq_true (by kernel_rfl)⟩
    · exact ⟨by simp, by kernel_rfl, of_decide_eq_true (by kernel_rfl)⟩
    · exact ⟨by simp, by kernel_rfl, of_decide_eq_true (by kernel_rfl)⟩
    · exact ⟨by simp, by kernel_rfl, of_decide_eq_true (by kernel_rfl)⟩
  · have hb : Rows.uptoBulkAll ([d0, d1, d2, d3] ++ gs) ≤ 1048576 := of_decide_eq_true hk
    have hb' : Rows.uptoBulkAll [d0, d1, d2, d3] ≤ 1048576 := by
      simp only [List.cons_append, List.nil_append, Rows.uptoBulkAll] at hb ⊢; omega
    rw [Tryd.params7]
    rintro xs ⟨n0, c0, a0, r0, b0, rfl, t0, o0, ⟨n1, c1, a1, r1, b1, rfl, t1, o1, ⟨n2, c2, a2, r2, b2, rfl, t2, o2, ⟨n3, c3, a3, r3, b3, rfl, t3, o3, rfl, k3⟩, k2⟩, k1⟩, k0⟩
    obtain ⟨v, rfl, vw, vb⟩ := arg_val t0 o0
    obtain ⟨w, rfl, ww, wb⟩ := arg_val t1 o1
    obtain ⟨t, rfl, tb⟩ := arg_typ t2 o2
    obtain ⟨x, rfl, xl⟩ := arg_str t3 o3
    exact (asksOk (H0 := tabH) rfl v w t x (fit_of v vw (by omega)) (fit_of w ww (by omega)) (tfit_of t (by omega)) (by omega) (by omega) tabH (Pre.self _)).mono fun _ _ h => h.1

theorem valueAsks_reads (os : Os) {H : Type} (enc : TypeId × Value → H) : ∃ places, DataW.whole enc Tryd.prog ((laidWorld os).forCall (fun _ _ => 0) ⟨#[], #[.agg #[.int .i64 0, .int .i64 0, .string ⟨#[]⟩, .slice none 0 0, .slice none 0 0], .agg #[.int .i64 0, .int .i64 0, .string ⟨#[]⟩, .slice none 0 0, .slice none 0 0], .agg #[.int .i64 0, .slice none 0 0, .slice none 0 0], .string ⟨#[]⟩], []⟩).memory Tryd.f7.params.toList Rows.valueAsksSpec.vars false [.agg #[.int .i64 0, .int .i64 0, .string ⟨#[]⟩, .slice none 0 0, .slice none 0 0], .agg #[.int .i64 0, .int .i64 0, .string ⟨#[]⟩, .slice none 0 0, .slice none 0 0], .agg #[.int .i64 0, .slice none 0 0, .slice none 0 0], .string ⟨#[]⟩] 8 = some ([.agg [.lit (.int .i64 0), .lit (.int .i64 0), .lit (.string []), .nil, .nil], .agg [.lit (.int .i64 0), .lit (.int .i64 0), .lit (.string []), .nil, .nil], .agg [.lit (.int .i64 0), .nil, .nil], .lit (.string [])], [], places) := ⟨[], by kernel_rfl⟩

set_option maxRecDepth 100000 in
theorem valueAsks_lifted (os : Os) (started : os.Started) (H : Type) (enc : TypeId × Value → H) (F : Stop.Interp) :
    ReturnsInHanded {} Tryd.checked os 7 .any ((Rows.OpenSpec.upto Rows.valueAsksSpec).preRow enc Tryd.prog Tryd.f7 Rows.valueAsksUptoRow.domain false Rows.valueAsksUptoRow.laid) (((Rows.OpenSpec.upto Rows.valueAsksSpec).at F).post enc Tryd.prog Tryd.f7 false true false false) := by
  obtain ⟨places, hx⟩ := valueAsks_reads os enc
  refine returnsInHanded_of_row (C := Tryd.checked) (s := Rows.OpenSpec.upto Rows.valueAsksSpec) own started (by kernel_rfl) Tryd.func7
    (witness_row_at (enc := enc) (C := Tryd.checked) false (laidWorld os) #[.agg #[.int .i64 0, .int .i64 0, .string ⟨#[]⟩, .slice none 0 0, .slice none 0 0], .agg #[.int .i64 0, .int .i64 0, .string ⟨#[]⟩, .slice none 0 0, .slice none 0 0], .agg #[.int .i64 0, .slice none 0 0, .slice none 0 0], .string ⟨#[]⟩] rfl (by kernel_rfl) (by kernel_rfl) (by kernel_rfl)
      (OpenSpec.preRow_of_cond 8 hx (by kernel_rfl) (fun k hk => by cases hk; kernel_rfl) (by kernel_rfl) (laidMet_of_run' 8 (by kernel_rfl) (by kernel_rfl)))) ?_
  intro W base args ds gs before hval hW _ hc _ hL _ _
  exact valueAsks_contract H enc W base args ds gs before hval hW (hc _ rfl) hL

theorem valueAsks_said : Rows.ValueAsksUptoSaid :=
  OpenClaim.holds_of_cond 7 Tryd.f7 rfl rfl rfl rfl rfl rfl rfl ⟨rfl, rfl, rfl, rfl, rfl⟩ rfl rfl rfl rfl rfl (by kernel_rfl) Tryd.func7 (by kernel_rfl)
    (of_decide_eq_true (by kernel_rfl)) (by unfold Func.isWrapper; first | (rw [if_pos (by decide +kernel)]; kernel_rfl) | (rw [if_neg (by decide +kernel)]; exact ⟨rfl, rfl⟩))
    (fun os started H enc _ F => by rw [OpenClaim.pre_eq_preRow]; exact valueAsks_lifted os started H enc F)

theorem valueAsks_none (f : FuncId) (fn : Func) (hf : Tryd.pinned.checked.prog.funcNamed "whetstone/whetstonelaw11.ValueAsks" = some f) (hfn : Tryd.pinned.checked.prog.funcs[f]? = some fn) :
    false = Tryd.pinned.checked.prog.looks [] ∧ ∀ (j : Nat) t, fn.params[j]? = some t → Tryd.pinned.checked.prog.wantsStandIn t = false := by
  obtain rfl : f = 7 := Option.some.inj ((show Tryd.prog.funcNamed "whetstone/whetstonelaw11.ValueAsks" = some 7 by kernel_rfl).symm.trans hf) |>.symm
  obtain rfl : fn = Tryd.f7 := (Option.some.inj (Tryd.func7.symm.trans hfn)).symm
  refine ⟨by kernel_rfl, fun j t ht => ?_⟩
  rw [Tryd.params7] at ht
  have hm : t ∈ [25, 25, 55, 9] := by simpa using Array.mem_of_getElem? ht
  have hall : ([25, 25, 55, 9].all fun u => !Tryd.prog.wantsStandIn u) = true := by kernel_rfl
  exact (show Tryd.prog.wantsStandIn t = false by simpa using List.all_eq_true.1 hall t hm)

theorem valueAsks_proved : Rows.ValueAsksUptoCardSaid :=
  Claim7.holds_tied_plain_at .later [] _ _ _ _ valueAsks_said (fun _ h => by cases h) (by kernel_rfl) (fun _ h => by cases h) valueAsksUpto_row_tie rfl ⟨rfl, rfl⟩ (by kernel_rfl) rfl valueAsks_none (by kernel_rfl)
end Go.Proofs.YtdhanghnffkckaaDoor
