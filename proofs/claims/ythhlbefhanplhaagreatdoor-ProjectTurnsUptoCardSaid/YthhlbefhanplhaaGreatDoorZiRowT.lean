/-
  The law ProjectTurns: its row, where what comes in is of bulk at most 1048576, and its card.
-/
import Derived.Test.YthhlbefhanplhaaGreatDoorM6
import Derived.Test.YthhlbefhanplhaaGreatDoorM8
namespace Go.Proofs.YthhlbefhanplhaaGreatDoor
open Go Go.Zam Go.Proofs.Zi
open Go.ChangeShapes Go.WideShapes Go.ChangeAt Go.RowKit
set_option linter.all false

theorem projectTurnsPlain : plainT Tryz.prog [5, 9, 22, 77] = true := by kernel_rfl

set_option maxRecDepth 100000 in
theorem projectTurns_contract (H : Type) (enc : TypeId × Value → H) (W : World) (base : Nat) (args : Array Value) (ds gs : List (DataW H)) (before : List MemPlace)
    (hval : ∀ (j : Nat) t v, Tryz.f8.params[j]? = some t → args[j]? = some v → Value.okWide Tryz.prog W .any base t v)
    (hW : DataW.Whole enc Tryz.prog Tryz.f8.params.toList Rows.projectTurnsSpec.vars false W args.toList ds gs before) (hk : Rows.uptoSmall H (ds ++ gs) = true) (hL : laidMetH Tryz.prog Rows.projectTurnsUptoRow.laid W) :
    Calls Tryz.prog 8 args W fun e W' => ∃ v, e = .returned v ∧ Rows.projectTurnsSpec.post enc Tryz.prog Tryz.f8 false true false false W args v W' := by
  have hlen : ds.length = 2 := by
    obtain ⟨p, q, hA, -⟩ := hW
    rw [Tryz.params8] at hA
    obtain ⟨v0, vs0, d0, ds0, p0, q0, hargs0, rfl, rfl, h0, r0⟩ := trodAll_cons hA
    obtain ⟨v1, vs1, d1, ds1, p1, q1, hargs1, rfl, rfl, h1, r1⟩ := trodAll_cons r0
    obtain ⟨rfl, rfl, rfl⟩ := trodAll_nil r1
    rfl
  match ds, hlen with
  | [d0, d1], _ =>
  obtain ⟨H0, hLO, hG⟩ := laidOb hL
  refine lawD_of (fn := Tryz.f8) (bt := 4) (ts := [5, 9, 22, 77]) laidOut projectTurnsPlain (isBulk H) (fun j t v a b => hval j t v a b) hW rfl (by kernel_rfl) Tryz.underlying4 ?_ rfl rfl rfl hLO ?_
  · rw [Tryz.params8]
    intro t ht
    simp only [List.mem_cons, List.not_mem_nil, or_false] at ht
    rcases ht with rfl | rfl
    · exact ⟨by simp, by kernel_rfl, of_decide_eq_true (by kernel_rfl)⟩
    · exact ⟨by simp, by kernel_rfl, of_decide_eq_true (by kernel_rfl)⟩
  · have hb : Rows.uptoBulkAll ([d0, d1] ++ gs) ≤ 1048576 := of_decide_eq_true hk
    have hb' : Rows.uptoBulkAll [d0, d1] ≤ 1048576 := by
      simp only [List.cons_append, List.nil_append, Rows.uptoBulkAll] at hb ⊢; omega
    rw [Tryz.params8]
    rintro xs ⟨n0, c0, a0, r0, b0, rfl, t0, o0, ⟨n1, c1, a1, r1, b1, rfl, t1, o1, rfl, k1⟩, k0⟩
    obtain ⟨z, l, rfl, ll, lw⟩ := arg_mods t0 o0
    obtain ⟨k, rfl, kl⟩ := arg_u8 t1 o1
    exact (lTurnsOk hG l z k kl (by omega) (fun m hm => by have := lw m hm; omega) H0 (Pre0.self _)).mono fun _ _ h => h.1

theorem projectTurns_reads (os : Os) {H : Type} (enc : TypeId × Value → H) : ∃ places, DataW.whole enc Tryz.prog ((laidWorld os).forCall (fun _ _ => 0) ⟨#[], #[.slice none 0 0, .int .u8 0], []⟩).memory Tryz.f8.params.toList Rows.projectTurnsSpec.vars false [.slice none 0 0, .int .u8 0] 8 = some ([.nil, .lit (.int .u8 0)], [], places) := ⟨[], by kernel_rfl⟩

set_option maxRecDepth 100000 in
theorem projectTurns_lifted (os : Os) (started : os.Started) (H : Type) (enc : TypeId × Value → H) (F : Stop.Interp) :
    ReturnsInHanded {} Tryz.checked os 8 .any ((Rows.OpenSpec.upto Rows.projectTurnsSpec).preRow enc Tryz.prog Tryz.f8 Rows.projectTurnsUptoRow.domain false Rows.projectTurnsUptoRow.laid) (((Rows.OpenSpec.upto Rows.projectTurnsSpec).at F).post enc Tryz.prog Tryz.f8 false true false false) := by
  obtain ⟨places, hx⟩ := projectTurns_reads os enc
  refine returnsInHanded_of_row (C := Tryz.checked) (s := Rows.OpenSpec.upto Rows.projectTurnsSpec) own started (by kernel_rfl) Tryz.func8
    (witness_row_at (enc := enc) (C := Tryz.checked) false (laidWorld os) #[.slice none 0 0, .int .u8 0] rfl (by kernel_rfl) (by kernel_rfl) (by kernel_rfl)
      (OpenSpec.preRow_of_cond 8 hx (by kernel_rfl) (fun k hk => by cases hk; kernel_rfl) (by kernel_rfl) (met os _))) ?_
  intro W base args ds gs before hval hW _ hc _ hL _ _
  exact projectTurns_contract H enc W base args ds gs before hval hW (hc _ rfl) hL

theorem projectTurns_in : (Rows.projectTurnsUptoRow.inPlace == Tryz.pinned.checked.prog.inPlace 8) = true := by kernel_rfl
theorem projectTurns_un : (Rows.projectTurnsUptoRow.unfollowed == Tryz.pinned.checked.prog.unfollowed 8) = true := by kernel_rfl
theorem projectTurns_rec : (Rows.projectTurnsUptoRow.recurses == Tryz.pinned.checked.prog.recurses 8) = true := by kernel_rfl
theorem projectTurns_nm : (Rows.projectTurnsUptoRow.named == Tryz.pinned.checked.prog.varsNamed 8) = true := by kernel_rfl
theorem projectTurns_closed : joinedFacts Tryz.pinned.checked.prog 8 Tryz.f8 (Rows.OpenSpec.upto Rows.projectTurnsSpec).bare Rows.projectTurnsUptoRow = true := by
  unfold joinedFacts
  rw [projectTurns_in, projectTurns_un, projectTurns_rec, projectTurns_nm]
  kernel_rfl

theorem projectTurns_said : Rows.ProjectTurnsUptoSaid :=
  OpenClaim.holds_of_cond 8 Tryz.f8 rfl rfl rfl rfl rfl rfl rfl ⟨rfl, rfl, rfl, rfl, rfl⟩ rfl rfl rfl rfl rfl (by kernel_rfl) Tryz.func8 projectTurns_closed
    (of_decide_eq_true (by kernel_rfl)) (by unfold Func.isWrapper; first | (rw [if_pos (by decide +kernel)]; kernel_rfl) | (rw [if_neg (by decide +kernel)]; exact ⟨rfl, rfl⟩))
    (fun os started H enc _ F => by rw [OpenClaim.pre_eq_preRow]; exact projectTurns_lifted os started H enc F)

theorem projectTurns_none (f : FuncId) (fn : Func) (hf : Tryz.pinned.checked.prog.funcNamed "whetstone/whetstonelaw13.ProjectTurns" = some f) (hfn : Tryz.pinned.checked.prog.funcs[f]? = some fn) :
    true = Tryz.pinned.checked.prog.looks [] ∧ ∀ (j : Nat) t, fn.params[j]? = some t → Tryz.pinned.checked.prog.wantsStandIn t = false := by
  obtain rfl : f = 8 := Option.some.inj ((show Tryz.prog.funcNamed "whetstone/whetstonelaw13.ProjectTurns" = some 8 by kernel_rfl).symm.trans hf) |>.symm
  obtain rfl : fn = Tryz.f8 := (Option.some.inj (Tryz.func8.symm.trans hfn)).symm
  refine ⟨by kernel_rfl, fun j t ht => ?_⟩
  rw [Tryz.params8] at ht
  have hm : t ∈ [22, 5] := by simpa using Array.mem_of_getElem? ht
  have hall : ([22, 5].all fun u => !Tryz.prog.wantsStandIn u) = true := by kernel_rfl
  exact (show Tryz.prog.wantsStandIn t = false by simpa using List.all_eq_true.1 hall t hm)

theorem projectTurns_proved : Rows.ProjectTurnsUptoCardSaid :=
  Claim7.holds_tied_plain_at .later [] _ _ _ _ projectTurns_said (fun _ h => by cases h) (by kernel_rfl) (fun _ h => by cases h) projectTurnsUpto_row_tie rfl ⟨rfl, rfl⟩ (by kernel_rfl) rfl projectTurns_none (by kernel_rfl)
end Go.Proofs.YthhlbefhanplhaaGreatDoor
