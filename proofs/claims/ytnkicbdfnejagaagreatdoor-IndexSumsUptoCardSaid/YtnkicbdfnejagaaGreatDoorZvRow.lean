/-
  The law IndexSums: its row, where what comes in is of bulk at most 1048576, and its card.
-/
import Derived.Test.YtnkicbdfnejagaaGreatDoorV5
import Derived.Test.YtnkicbdfnejagaaGreatDoorV9
namespace Go.Proofs.YtnkicbdfnejagaaGreatDoor
open Go Go.Zam Go.Proofs.Zv
open Go.ChangeShapes Go.WideShapes Go.ChangeAt Go.RowKit
set_option linter.all false

theorem indexSumsPlain : plainT Tryz.prog [9, 22, 62] = true := by kernel_rfl

set_option maxRecDepth 100000 in
theorem indexSums_contract (H : Type) (enc : TypeId × Value → H) (W : World) (base : Nat) (args : Array Value) (ds gs : List (DataW H)) (before : List MemPlace)
    (hval : ∀ (j : Nat) t v, Tryz.f3.params[j]? = some t → args[j]? = some v → Value.okWide Tryz.prog W .any base t v)
    (hW : DataW.Whole enc Tryz.prog Tryz.f3.params.toList Rows.indexSumsSpec.vars false W args.toList ds gs before) (hk : Rows.uptoSmall H (ds ++ gs) = true) (hL : laidMetH Tryz.prog Rows.indexSumsUptoRow.laid W) :
    Calls Tryz.prog 3 args W fun e W' => ∃ v, e = .returned v ∧ Rows.indexSumsSpec.post enc Tryz.prog Tryz.f3 false true false false W args v W' := by
  have hlen : ds.length = 1 := by
    obtain ⟨p, q, hA, -⟩ := hW
    rw [Tryz.params3] at hA
    obtain ⟨v0, vs0, d0, ds0, p0, q0, hargs0, rfl, rfl, h0, r0⟩ := trodAll_cons hA
    obtain ⟨rfl, rfl, rfl⟩ := trodAll_nil r0
    rfl
  match ds, hlen with
  | [d0], _ =>
  obtain ⟨H0, hLO, hG⟩ := laidOb hL
  refine lawW_of (fn := Tryz.f3) (bt := 4) (ts := [9, 22, 62]) laidOut indexSumsPlain (isBulk H) (fun j t v a b => hval j t v a b) hW rfl (by kernel_rfl) Tryz.underlying4 ?_ rfl rfl rfl hLO ?_
  · rw [Tryz.params3]
    intro t ht
    simp only [List.mem_cons, List.not_mem_nil, or_false] at ht
    rcases ht with rfl
    · exact ⟨by simp, by kernel_rfl, of_decide_eq_true (by kernel_rfl)⟩
  · have hb : Rows.uptoBulkAll ([d0] ++ gs) ≤ 1048576 := of_decide_eq_true hk
    have hb' : Rows.uptoBulkAll [d0] ≤ 1048576 := by
      simp only [List.cons_append, List.nil_append, Rows.uptoBulkAll] at hb ⊢; omega
    rw [Tryz.params3]
    rintro xs ⟨n0, c0, a0, r0, b0, rfl, t0, o0, rfl, k0⟩
    obtain ⟨z, l, rfl, ll, lw⟩ := arg_mods t0 o0
    intro vs hl hv
    match vs, hl with
    | [v], _ => exact walk (loadedOk hG) (awkOk hG) namesOk unitsOk ixAtOk ixPlOk (by omega) (fun m hm => by have := lw m hm; omega) hLO (hv 0 v _ rfl rfl)

theorem indexSums_reads (os : Os) {H : Type} (enc : TypeId × Value → H) : ∃ places, DataW.whole enc Tryz.prog ((laidWorld os).forCall (fun _ _ => 0) ⟨#[], #[.slice none 0 0], []⟩).memory Tryz.f3.params.toList Rows.indexSumsSpec.vars false [.slice none 0 0] 8 = some ([.nil], [], places) := ⟨[], by kernel_rfl⟩

set_option maxRecDepth 100000 in
theorem indexSums_lifted (os : Os) (started : os.Started) (H : Type) (enc : TypeId × Value → H) (F : Stop.Interp) :
    ReturnsInHanded {} Tryz.checked os 3 .any ((Rows.OpenSpec.upto Rows.indexSumsSpec).preRow enc Tryz.prog Tryz.f3 Rows.indexSumsUptoRow.domain false Rows.indexSumsUptoRow.laid) (((Rows.OpenSpec.upto Rows.indexSumsSpec).at F).post enc Tryz.prog Tryz.f3 false true false false) := by
  obtain ⟨places, hx⟩ := indexSums_reads os enc
  refine returnsInHanded_of_row (C := Tryz.checked) (s := Rows.OpenSpec.upto Rows.indexSumsSpec) own started (by kernel_rfl) Tryz.func3
    (witness_row_at (enc := enc) (C := Tryz.checked) false (laidWorld os) #[.slice none 0 0] rfl (by kernel_rfl) (by kernel_rfl) (by kernel_rfl)
      (OpenSpec.preRow_of_cond 8 hx (by kernel_rfl) (fun k hk => by cases hk; kernel_rfl) (by kernel_rfl) (met os _))) ?_
  intro W base args ds gs before hval hW _ hc _ hL _ _
  exact indexSums_contract H enc W base args ds gs before hval hW (hc _ rfl) hL

theorem indexSums_in : (Rows.indexSumsUptoRow.inPlace == Tryz.pinned.checked.prog.inPlace 3) = true := by kernel_rfl
theorem indexSums_un : (Rows.indexSumsUptoRow.unfollowed == Tryz.pinned.checked.prog.unfollowed 3) = true := by kernel_rfl
theorem indexSums_rec : (Rows.indexSumsUptoRow.recurses == Tryz.pinned.checked.prog.recurses 3) = true := by kernel_rfl
theorem indexSums_nm : (Rows.indexSumsUptoRow.named == Tryz.pinned.checked.prog.varsNamed 3) = true := by kernel_rfl
theorem indexSums_closed : joinedFacts Tryz.pinned.checked.prog 3 Tryz.f3 (Rows.OpenSpec.upto Rows.indexSumsSpec).bare Rows.indexSumsUptoRow = true := by
  unfold joinedFacts
  rw [indexSums_in, indexSums_un, indexSums_rec, indexSums_nm]
  kernel_rfl

theorem indexSums_said : Rows.IndexSumsUptoSaid :=
  OpenClaim.holds_of_cond 3 Tryz.f3 rfl rfl rfl rfl rfl rfl rfl ⟨rfl, rfl, rfl, rfl, rfl⟩ rfl rfl rfl rfl rfl (by kernel_rfl) Tryz.func3 indexSums_closed
    (of_decide_eq_true (by kernel_rfl)) (by unfold Func.isWrapper; first | (rw [if_pos (by decide +kernel)]; kernel_rfl) | (rw [if_neg (by decide +kernel)]; exact ⟨rfl, rfl⟩))
    (fun os started H enc _ F => by rw [OpenClaim.pre_eq_preRow]; exact indexSums_lifted os started H enc F)

theorem indexSums_none (f : FuncId) (fn : Func) (hf : Tryz.pinned.checked.prog.funcNamed "whetstone/whetstonelaw14.IndexSums" = some f) (hfn : Tryz.pinned.checked.prog.funcs[f]? = some fn) :
    true = Tryz.pinned.checked.prog.looks [] ∧ ∀ (j : Nat) t, fn.params[j]? = some t → Tryz.pinned.checked.prog.wantsStandIn t = false := by
  obtain rfl : f = 3 := Option.some.inj ((show Tryz.prog.funcNamed "whetstone/whetstonelaw14.IndexSums" = some 3 by kernel_rfl).symm.trans hf) |>.symm
  obtain rfl : fn = Tryz.f3 := (Option.some.inj (Tryz.func3.symm.trans hfn)).symm
  refine ⟨by kernel_rfl, fun j t ht => ?_⟩
  rw [Tryz.params3] at ht
  have hm : t ∈ [22] := by simpa using Array.mem_of_getElem? ht
  have hall : ([22].all fun u => !Tryz.prog.wantsStandIn u) = true := by kernel_rfl
  exact (show Tryz.prog.wantsStandIn t = false by simpa using List.all_eq_true.1 hall t hm)

theorem indexSums_proved : Rows.IndexSumsUptoCardSaid :=
  Claim7.holds_tied_plain_at .later [] _ _ _ _ indexSums_said (fun _ h => by cases h) (by kernel_rfl) (fun _ h => by cases h) indexSumsUpto_row_tie rfl ⟨rfl, rfl⟩ (by kernel_rfl) rfl indexSums_none (by kernel_rfl)
end Go.Proofs.YtnkicbdfnejagaaGreatDoor
