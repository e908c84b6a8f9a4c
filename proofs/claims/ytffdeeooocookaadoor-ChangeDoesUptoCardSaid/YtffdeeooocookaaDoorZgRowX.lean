/-
  The law ChangeDoes: its row, where what comes in is of bulk at most 1048576, and its card.
-/
import Derived.Test.YtffdeeooocookaaDoorM4
import Derived.Test.YtffdeeooocookaaDoorM6
namespace Go.Proofs.YtffdeeooocookaaDoor
open Go Go.Zam Go.Proofs.Zg
open Go.ChangeShapes Go.WideShapes Go.ChangeAt Go.RowKit
set_option linter.all false

theorem changeDoesPlain : plainT Tryd.prog [3, 9, 22, 23, 26, 28, 30, 41] = true := by kernel_rfl

set_option maxRecDepth 100000 in
theorem changeDoes_contract (H : Type) (enc : TypeId × Value → H) (W : World) (base : Nat) (args : Array Value) (ds gs : List (DataW H)) (before : List MemPlace)
    (hval : ∀ (j : Nat) t v, Tryd.f3.params[j]? = some t → args[j]? = some v → Value.okWide Tryd.prog W .any base t v)
    (hW : DataW.Whole enc Tryd.prog Tryd.f3.params.toList Rows.changeDoesSpec.vars false W args.toList ds gs before) (hk : Rows.uptoSmall H (ds ++ gs) = true) (hL : laidMetH Tryd.prog Rows.changeDoesUptoRow.laid W) :
    Calls Tryd.prog 3 args W fun e W' => ∃ v, e = .returned v ∧ Rows.changeDoesSpec.post enc Tryd.prog Tryd.f3 false true false false W args v W' := by
  have hlen : ds.length = 3 := by
    obtain ⟨p, q, hA, -⟩ := hW
    rw [Tryd.params3] at hA
    obtain ⟨v0, vs0, d0, ds0, p0, q0, hargs0, rfl, rfl, h0, r0⟩ := trodAll_cons hA
    obtain ⟨v1, vs1, d1, ds1, p1, q1, hargs1, rfl, rfl, h1, r1⟩ := trodAll_cons r0
    obtain ⟨v2, vs2, d2, ds2, p2, q2, hargs2, rfl, rfl, h2, r2⟩ := trodAll_cons r1
    obtain ⟨rfl, rfl, rfl⟩ := trodAll_nil r2
    rfl
  match ds, hlen with
  | [d0, d1, d2], _ =>
  obtain ⟨H0, hLO, hG⟩ := laidOb hL
  refine lawD_of (fn := Tryd.f3) (bt := 4) (ts := [3, 9, 22, 23, 26, 28, 30, 41]) laidOut changeDoesPlain (isBulk H) (fun j t v a b => hval j t v a b) hW rfl (by kernel_rfl) Tryd.underlying4 ?_ rfl rfl rfl hLO ?_
  · rw [Tryd.params3]
    intro t ht
    simp only [List.mem_cons, List.not_mem_nil, or_false] at ht
    rcases ht with rfl | rfl | rfl
    · exact ⟨by simp, by kernel_rfl, of_decide_eq_true (by kernel_rfl)⟩
    · exact ⟨by simp, by kernel_rfl, of_decide_eq_true (by kernel_rfl)⟩
    · exact ⟨by simp, by kernel_rfl, of_decide_eq_true (by kernel_rfl)⟩
  · have hb : Rows.uptoBulkAll ([d0, d1, d2] ++ gs) ≤ 1048576 := of_decide_eq_true hk
    have hb' : Rows.uptoBulkAll [d0, d1, d2] ≤ 1048576 := by
      simp only [List.cons_append, List.nil_append, Rows.uptoBulkAll] at hb ⊢; omega
    rw [Tryd.params3]
    rintro xs ⟨n0, c0, a0, r0, b0, rfl, t0, o0, ⟨n1, c1, a1, r1, b1, rfl, t1, o1, ⟨n2, c2, a2, r2, b2, rfl, t2, o2, rfl, k2⟩, k1⟩, k0⟩
    obtain ⟨z, l, rfl, ll, lw⟩ := arg_mods t0 o0
    obtain ⟨zc, cs, rfl, cl, ct, cw⟩ := arg_chgs t1 o1
    obtain ⟨s, rfl, sl⟩ := arg_str t2 o2
    exact (lDoesOk hG z zc l cs s (by omega) (by omega) (fun m hm => by have := lw m hm; omega) (fun c hc => by have := cw c hc; exact ⟨by omega, fun e he => by have := this.2 e he; omega⟩) (fun m hm => by have := lw m hm; omega) H0 (Pre0.self _)).mono fun _ _ h => h.1

theorem changeDoes_reads (os : Os) {H : Type} (enc : TypeId × Value → H) : ∃ places, DataW.whole enc Tryd.prog ((laidWorld os).forCall (fun _ _ => 0) ⟨#[], #[.slice none 0 0, .slice none 0 0, .string ⟨#[]⟩], []⟩).memory Tryd.f3.params.toList Rows.changeDoesSpec.vars false [.slice none 0 0, .slice none 0 0, .string ⟨#[]⟩] 8 = some ([.nil, .nil, .lit (.string [])], [], places) := ⟨[], by kernel_rfl⟩

set_option maxRecDepth 100000 in
theorem changeDoes_lifted (os : Os) (started : os.Started) (H : Type) (enc : TypeId × Value → H) (F : Stop.Interp) :
    ReturnsInHanded {} Tryd.checked os 3 .any ((Rows.OpenSpec.upto Rows.changeDoesSpec).preRow enc Tryd.prog Tryd.f3 Rows.changeDoesUptoRow.domain false Rows.changeDoesUptoRow.laid) (((Rows.OpenSpec.upto Rows.changeDoesSpec).at F).post enc Tryd.prog Tryd.f3 false true false false) := by
  obtain ⟨places, hx⟩ := changeDoes_reads os enc
  refine returnsInHanded_of_row (C := Tryd.checked) (s := Rows.OpenSpec.upto Rows.changeDoesSpec) own started (by kernel_rfl) Tryd.func3
    (witness_row_at (enc := enc) (C := Tryd.checked) false (laidWorld os) #[.slice none 0 0, .slice none 0 0, .string ⟨#[]⟩] rfl (by kernel_rfl) (by kernel_rfl) (by kernel_rfl)
      (OpenSpec.preRow_of_cond 8 hx (by kernel_rfl) (fun k hk => by cases hk; kernel_rfl) (by kernel_rfl) (met os _))) ?_
  intro W base args ds gs before hval hW _ hc _ hL _ _
  exact changeDoes_contract H enc W base args ds gs before hval hW (hc _ rfl) hL

theorem changeDoes_said : Rows.ChangeDoesUptoSaid :=
  OpenClaim.holds_of_cond 3 Tryd.f3 rfl rfl rfl rfl rfl rfl rfl ⟨rfl, rfl, rfl, rfl, rfl⟩ rfl rfl rfl rfl rfl (by kernel_rfl) Tryd.func3 (by kernel_rfl)
    (of_decide_eq_true (by kernel_rfl)) (by unfold Func.isWrapper; first | (rw [if_pos (by decide +kernel)]; kernel_rfl) | (rw [if_neg (by decide +kernel)]; exact ⟨rfl, rfl⟩))
    (fun os started H enc _ F => by rw [OpenClaim.pre_eq_preRow]; exact changeDoes_lifted os started H enc F)

theorem changeDoes_none (f : FuncId) (fn : Func) (hf : Tryd.pinned.checked.prog.funcNamed "whetstone/whetstonelaw17.ChangeDoes" = some f) (hfn : Tryd.pinned.checked.prog.funcs[f]? = some fn) :
    true = Tryd.pinned.checked.prog.looks [] ∧ ∀ (j : Nat) t, fn.params[j]? = some t → Tryd.pinned.checked.prog.wantsStandIn t = false := by
  obtain rfl : f = 3 := Option.some.inj ((show Tryd.prog.funcNamed "whetstone/whetstonelaw17.ChangeDoes" = some 3 by kernel_rfl).symm.trans hf) |>.symm
  obtain rfl : fn = Tryd.f3 := (Option.some.inj (Tryd.func3.symm.trans hfn)).symm
  refine ⟨by kernel_rfl, fun j t ht => ?_⟩
  rw [Tryd.params3] at ht
  have hm : t ∈ [22, 23, 9] := by simpa using Array.mem_of_getElem? ht
  have hall : ([22, 23, 9].all fun u => !Tryd.prog.wantsStandIn u) = true := by kernel_rfl
  exact (show Tryd.prog.wantsStandIn t = false by simpa using List.all_eq_true.1 hall t hm)

theorem changeDoes_proved : Rows.ChangeDoesUptoCardSaid :=
  Claim7.holds_tied_plain_at .later [] _ _ _ _ changeDoes_said (fun _ h => by cases h) (by kernel_rfl) (fun _ h => by cases h) changeDoesUpto_row_tie rfl ⟨rfl, rfl⟩ (by kernel_rfl) rfl changeDoes_none (by kernel_rfl)
end Go.Proofs.YtffdeeooocookaaDoor
