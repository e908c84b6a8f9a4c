/-
  The law DeltaNames: its row, where what comes in is of bulk at most 1048576, and its card.
-/
import Derived.Test.YtnlfihdegglkfaaDoorM5
import Derived.Test.YtnlfihdegglkfaaDoorM7
namespace Go.Proofs.YtnlfihdegglkfaaDoor
open Go Go.Zam Go.Proofs.Zd
open Go.ChangeShapes Go.WideShapes Go.ChangeAt Go.RowKit
set_option linter.all false

theorem deltaNamesPlain : plainT Tryd.prog [5, 9] = true := by kernel_rfl

set_option maxRecDepth 100000 in
theorem deltaNames_contract (H : Type) (enc : TypeId × Value → H) (W : World) (base : Nat) (args : Array Value) (ds gs : List (DataW H)) (before : List MemPlace)
    (hval : ∀ (j : Nat) t v, Tryd.f3.params[j]? = some t → args[j]? = some v → Value.okWide Tryd.prog W .any base t v)
    (hW : DataW.Whole enc Tryd.prog Tryd.f3.params.toList Rows.deltaNamesSpec.vars false W args.toList ds gs before) (hk : Rows.uptoSmall H (ds ++ gs) = true) (hL : laidMetH Tryd.prog Rows.deltaNamesUptoRow.laid W) :
    Calls Tryd.prog 3 args W fun e W' => ∃ v, e = .returned v ∧ Rows.deltaNamesSpec.post enc Tryd.prog Tryd.f3 false true false false W args v W' := by
  have hlen : ds.length = 3 := by
    obtain ⟨p, q, hA, -⟩ := hW
    rw [Tryd.params3] at hA
    obtain ⟨v0, vs0, d0, ds0, p0, q0, hargs0, rfl, rfl, h0, r0⟩ := trodAll_cons hA
    obtain ⟨v1, vs1, d1, ds1, p1, q1, hargs1, rfl, rfl, h1, r1⟩ := trodAll_cons r0
    obtain ⟨v2, vs2, d2, ds2, p2, q2, hargs2, rfl, rfl, h2, r2⟩ := trodAll_cons r1
    obtain ⟨rfl, rfl, rfl⟩ := trodAll_nil r2
    rfl
  match ds, hlen with
  | [d0, d1, d2], _ =>
  obtain ⟨H0, hLO, hG⟩ := laidOb hL
  refine lawD_of (fn := Tryd.f3) (bt := 4) (ts := [5, 9]) laidOut deltaNamesPlain (isBulk H) (fun j t v a b => hval j t v a b) hW rfl (by kernel_rfl) Tryd.underlying4 ?_ rfl rfl rfl hLO ?_
  · rw [Tryd.params3]
    intro t ht
    simp only [List.mem_cons, List.not_mem_nil, or_false] at ht
    rcases ht with rfl | rfl | rfl
    · exact ⟨by simp, by kernel_rfl, of_decide_eq_true (by kernel_rfl)⟩
    · exact ⟨by simp, by kernel_rfl, of_decide_eq_true (by kernel_rfl)⟩
    · exact ⟨by simp, by kernel_rfl, of_decide_eq_true (by kernel_rfl)⟩
  · have hb : Rows.uptoBulkAll ([d0, d1, d2] ++ gs) ≤ 1048576 := of_decide_eq_true hk
    have hb' : Rows.uptoBulkAll [d0, d1, d2] ≤ 1048576 := by
      simp only [List.cons_append, List.nil_append, Rows.uptoBulkAll] at hb ⊢; omega
    rw [Tryd.params3]
    rintro xs ⟨n0, c0, a0, r0, b0, rfl, t0, o0, ⟨n1, c1, a1, r1, b1, rfl, t1, o1, ⟨n2, c2, a2, r2, b2, rfl, t2, o2, rfl, k2⟩, k1⟩, k0⟩
    obtain ⟨s, rfl, sl, _⟩ := arg_str t0 o0
    obtain ⟨k, rfl, kl⟩ := arg_u8 t1 o1
    obtain ⟨t, rfl, tl, _⟩ := arg_str t2 o2
    exact (lNamesOk hG s t k (by omega) (by omega) kl H0 (Pre0.self _)).mono fun _ _ h => h.1

theorem deltaNames_reads (os : Os) {H : Type} (enc : TypeId × Value → H) : ∃ places, DataW.whole enc Tryd.prog ((laidWorld os).forCall (fun _ _ => 0) ⟨#[], #[.string ⟨#[]⟩, .int .u8 0, .string ⟨#[]⟩], []⟩).memory Tryd.f3.params.toList Rows.deltaNamesSpec.vars false [.string ⟨#[]⟩, .int .u8 0, .string ⟨#[]⟩] 8 = some ([.lit (.string []), .lit (.int .u8 0), .lit (.string [])], [], places) := ⟨[], by kernel_rfl⟩

set_option maxRecDepth 100000 in
theorem deltaNames_lifted (os : Os) (started : os.Started) (H : Type) (enc : TypeId × Value → H) (F : Stop.Interp) :
    ReturnsInHanded {} Tryd.checked os 3 .any ((Rows.OpenSpec.upto Rows.deltaNamesSpec).preRow enc Tryd.prog Tryd.f3 Rows.deltaNamesUptoRow.domain false Rows.deltaNamesUptoRow.laid) (((Rows.OpenSpec.upto Rows.deltaNamesSpec).at F).post enc Tryd.prog Tryd.f3 false true false false) := by
  obtain ⟨places, hx⟩ := deltaNames_reads os enc
  refine returnsInHanded_of_row (C := Tryd.checked) (s := Rows.OpenSpec.upto Rows.deltaNamesSpec) own started (by kernel_rfl) Tryd.func3
    (witness_row_at (enc := enc) (C := Tryd.checked) false (laidWorld os) #[.string ⟨#[]⟩, .int .u8 0, .string ⟨#[]⟩] rfl (by kernel_rfl) (by kernel_rfl) (by kernel_rfl)
      (OpenSpec.preRow_of_cond 8 hx (by kernel_rfl) (fun k hk => by cases hk; kernel_rfl) (by kernel_rfl) (met os _))) ?_
  intro W base args ds gs before hval hW _ hc _ hL _ _
  exact deltaNames_contract H enc W base args ds gs before hval hW (hc _ rfl) hL

theorem deltaNames_said : Rows.DeltaNamesUptoSaid :=
  OpenClaim.holds_of_cond 3 Tryd.f3 rfl rfl rfl rfl rfl rfl rfl ⟨rfl, rfl, rfl, rfl, rfl⟩ rfl rfl rfl rfl rfl (by kernel_rfl) Tryd.func3 (by kernel_rfl)
    (of_decide_eq_true (by kernel_rfl)) (by unfold Func.isWrapper; first | (rw [if_pos (by decide +kernel)]; kernel_rfl) | (rw [if_neg (by decide +kernel)]; exact ⟨rfl, rfl⟩))
    (fun os started H enc _ F => by rw [OpenClaim.pre_eq_preRow]; exact deltaNames_lifted os started H enc F)

theorem deltaNames_none (f : FuncId) (fn : Func) (hf : Tryd.pinned.checked.prog.funcNamed "whetstone/whetstonelaw05.DeltaNames" = some f) (hfn : Tryd.pinned.checked.prog.funcs[f]? = some fn) :
    true = Tryd.pinned.checked.prog.looks [] ∧ ∀ (j : Nat) t, fn.params[j]? = some t → Tryd.pinned.checked.prog.wantsStandIn t = false := by
  obtain rfl : f = 3 := Option.some.inj ((show Tryd.prog.funcNamed "whetstone/whetstonelaw05.DeltaNames" = some 3 by kernel_rfl).symm.trans hf) |>.symm
  obtain rfl : fn = Tryd.f3 := (Option.some.inj (Tryd.func3.symm.trans hfn)).symm
  refine ⟨by kernel_rfl, fun j t ht => ?_⟩
  rw [Tryd.params3] at ht
  have hm : t ∈ [9, 5, 9] := by simpa using Array.mem_of_getElem? ht
  have hall : ([9, 5, 9].all fun u => !Tryd.prog.wantsStandIn u) = true := by kernel_rfl
  exact (show Tryd.prog.wantsStandIn t = false by simpa using List.all_eq_true.1 hall t hm)

theorem deltaNames_proved : Rows.DeltaNamesUptoCardSaid :=
  Claim7.holds_tied_plain_at .later [] _ _ _ _ deltaNames_said (fun _ h => by cases h) (by kernel_rfl) (fun _ h => by cases h) deltaNamesUpto_row_tie rfl ⟨rfl, rfl⟩ (by kernel_rfl) rfl deltaNames_none (by kernel_rfl)
end Go.Proofs.YtnlfihdegglkfaaDoor
