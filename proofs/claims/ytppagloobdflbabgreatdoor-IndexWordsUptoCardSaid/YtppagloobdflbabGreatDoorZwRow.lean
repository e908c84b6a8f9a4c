/-
  The law IndexWords: its row, where what comes in is of bulk at most 1048576, and its card.
-/
import Derived.Test.YtppagloobdflbabGreatDoorW5
import Derived.Test.YtppagloobdflbabGreatDoorW9
namespace Go.Proofs.YtppagloobdflbabGreatDoor
open Go Go.Zam Go.Proofs.Zw
open Go.ChangeShapes Go.WideShapes Go.ChangeAt Go.RowKit
set_option linter.all false

theorem indexWordsPlain : plainT Tryz.prog [3, 9, 22, 24, 66] = true := by kernel_rfl

set_option maxRecDepth 100000 in
theorem indexWords_contract (H : Type) (enc : TypeId × Value → H) (W : World) (base : Nat) (args : Array Value) (ds gs : List (DataW H)) (before : List MemPlace)
    (hval : ∀ (j : Nat) t v, Tryz.f3.params[j]? = some t → args[j]? = some v → Value.okWide Tryz.prog W .any base t v)
    (hW : DataW.Whole enc Tryz.prog Tryz.f3.params.toList Rows.indexWordsSpec.vars false W args.toList ds gs before) (hk : Rows.uptoSmall H (ds ++ gs) = true) (hL : laidMetH Tryz.prog Rows.indexWordsUptoRow.laid W) :
    Calls Tryz.prog 3 args W fun e W' => ∃ v, e = .returned v ∧ Rows.indexWordsSpec.post enc Tryz.prog Tryz.f3 false true false false W args v W' := by
  have hlen : ds.length = 3 := by
    obtain ⟨p, q, hA, -⟩ := hW
    rw [Tryz.params3] at hA
    obtain ⟨v0, vs0, d0, ds0, p0, q0, hargs0, rfl, rfl, h0, r0⟩ := trodAll_cons hA
    obtain ⟨v1, vs1, d1, ds1, p1, q1, hargs1, rfl, rfl, h1, r1⟩ := trodAll_cons r0
    obtain ⟨v2, vs2, d2, ds2, p2, q2, hargs2, rfl, rfl, h2, r2⟩ := trodAll_cons r1
    obtain ⟨rfl, rfl, rfl⟩ := trodAll_nil r2
    rfl
  match ds, hlen with
  | [d0, d1, d2], _ =>
  obtain ⟨H0, hLO, hG⟩ := laidOb hL
  refine lawD_of (fn := Tryz.f3) (bt := 4) (ts := [3, 9, 22, 24, 66]) laidOut indexWordsPlain (isBulk H) (fun j t v a b => hval j t v a b) hW rfl (by kernel_rfl) Tryz.underlying4 ?_ rfl rfl rfl hLO ?_
  · rw [Tryz.params3]
    intro t ht
    simp only [List.mem_cons, List.not_mem_nil, or_false] at ht
    rcases ht with rfl | rfl | rfl
    · exact ⟨by simp, by kernel_rfl, of_decide_eq_true (by kernel_rfl)⟩
    · exact ⟨by simp, by kernel_rfl, of_decide_eq_true (by kernel_rfl)⟩
    · exact ⟨by simp, by kernel_rfl, of_decide_eq_true (by kernel_rfl)⟩
  · have hb : Rows.uptoBulkAll ([d0, d1, d2] ++ gs) ≤ 1048576 := of_decide_eq_true hk
    have hb' : Rows.uptoBulkAll [d0, d1, d2] ≤ 1048576 := by
      simp only [List.cons_append, List.nil_append, Rows.uptoBulkAll] at hb ⊢; omega
    rw [Tryz.params3]
    rintro xs ⟨n0, c0, a0, r0, b0, rfl, t0, o0, ⟨n1, c1, a1, r1, b1, rfl, t1, o1, ⟨n2, c2, a2, r2, b2, rfl, t2, o2, rfl, k2⟩, k1⟩, k0⟩
    obtain ⟨z, l, rfl, ll, lw⟩ := arg_mods t0 o0
    obtain ⟨s, rfl, sl, sl1⟩ := arg_str t1 o1
    obtain ⟨x, rfl, xl⟩ := arg_spot t2 o2
    exact (lawOk hG l z s x.1 x.2 xl (by omega) (fun m hm => by have := lw m hm; omega) H0 (Pre0.self _)).mono fun _ _ h => h.1

theorem indexWords_reads (os : Os) {H : Type} (enc : TypeId × Value → H) : ∃ places, DataW.whole enc Tryz.prog ((laidWorld os).forCall (fun _ _ => 0) ⟨#[], #[.slice none 0 0, .string ⟨#[]⟩, .agg #[.string ⟨#[]⟩, .int .i64 0]], []⟩).memory Tryz.f3.params.toList Rows.indexWordsSpec.vars false [.slice none 0 0, .string ⟨#[]⟩, .agg #[.string ⟨#[]⟩, .int .i64 0]] 8 = some ([.nil, .lit (.string []), .agg [.lit (.string []), .lit (.int .i64 0)]], [], places) := ⟨[], by kernel_rfl⟩

set_option maxRecDepth 100000 in
theorem indexWords_lifted (os : Os) (started : os.Started) (H : Type) (enc : TypeId × Value → H) (F : Stop.Interp) :
    ReturnsInHanded {} Tryz.checked os 3 .any ((Rows.OpenSpec.upto Rows.indexWordsSpec).preRow enc Tryz.prog Tryz.f3 Rows.indexWordsUptoRow.domain false Rows.indexWordsUptoRow.laid) (((Rows.OpenSpec.upto Rows.indexWordsSpec).at F).post enc Tryz.prog Tryz.f3 false true false false) := by
  obtain ⟨places, hx⟩ := indexWords_reads os enc
  refine returnsInHanded_of_row (C := Tryz.checked) (s := Rows.OpenSpec.upto Rows.indexWordsSpec) own started (by kernel_rfl) Tryz.func3
    (witness_row_at (enc := enc) (C := Tryz.checked) false (laidWorld os) #[.slice none 0 0, .string ⟨#[]⟩, .agg #[.string ⟨#[]⟩, .int .i64 0]] rfl (by kernel_rfl) (by kernel_rfl) (by kernel_rfl)
      (OpenSpec.preRow_of_cond 8 hx (by kernel_rfl) (fun k hk => by cases hk; kernel_rfl) (by kernel_rfl) (met os _))) ?_
  intro W base args ds gs before hval hW _ hc _ hL _ _
  exact indexWords_contract H enc W base args ds gs before hval hW (hc _ rfl) hL

theorem indexWords_in : (Rows.indexWordsUptoRow.inPlace == Tryz.pinned.checked.prog.inPlace 3) = true := by kernel_rfl
theorem indexWords_un : (Rows.indexWordsUptoRow.unfollowed == Tryz.pinned.checked.prog.unfollowed 3) = true := by kernel_rfl
theorem indexWords_rec : (Rows.indexWordsUptoRow.recurses == Tryz.pinned.checked.prog.recurses 3) = true := by kernel_rfl
theorem indexWords_nm : (Rows.indexWordsUptoRow.named == Tryz.pinned.checked.prog.varsNamed 3) = true := by kernel_rfl
theorem indexWords_closed : joinedFacts Tryz.pinned.checked.prog 3 Tryz.f3 (Rows.OpenSpec.upto Rows.indexWordsSpec).bare Rows.indexWordsUptoRow = true := by
  unfold joinedFacts
  rw [indexWords_in, indexWords_un, indexWords_rec, indexWords_nm]
  kernel_rfl

theorem indexWords_said : Rows.IndexWordsUptoSaid :=
  OpenClaim.holds_of_cond 3 Tryz.f3 rfl rfl rfl rfl rfl rfl rfl ⟨rfl, rfl, rfl, rfl, rfl⟩ rfl rfl rfl rfl rfl (by kernel_rfl) Tryz.func3 indexWords_closed
    (of_decide_eq_true (by kernel_rfl)) (by unfold Func.isWrapper; first | (rw [if_pos (by decide +kernel)]; kernel_rfl) | (rw [if_neg (by decide +kernel)]; exact ⟨rfl, rfl⟩))
    (fun os started H enc _ F => by rw [OpenClaim.pre_eq_preRow]; exact indexWords_lifted os started H enc F)

theorem indexWords_none (f : FuncId) (fn : Func) (hf : Tryz.pinned.checked.prog.funcNamed "whetstone/whetstonelaw14.IndexWords" = some f) (hfn : Tryz.pinned.checked.prog.funcs[f]? = some fn) :
    true = Tryz.pinned.checked.prog.looks [] ∧ ∀ (j : Nat) t, fn.params[j]? = some t → Tryz.pinned.checked.prog.wantsStandIn t = false := by
  obtain rfl : f = 3 := Option.some.inj ((show Tryz.prog.funcNamed "whetstone/whetstonelaw14.IndexWords" = some 3 by kernel_rfl).symm.trans hf) |>.symm
  obtain rfl : fn = Tryz.f3 := (Option.some.inj (Tryz.func3.symm.trans hfn)).symm
  refine ⟨by kernel_rfl, fun j t ht => ?_⟩
  rw [Tryz.params3] at ht
  have hm : t ∈ [22, 9, 24] := by simpa using Array.mem_of_getElem? ht
  have hall : ([22, 9, 24].all fun u => !Tryz.prog.wantsStandIn u) = true := by kernel_rfl
  exact (show Tryz.prog.wantsStandIn t = false by simpa using List.all_eq_true.1 hall t hm)

theorem indexWords_proved : Rows.IndexWordsUptoCardSaid :=
  Claim7.holds_tied_plain_at .later [] _ _ _ _ indexWords_said (fun _ h => by cases h) (by kernel_rfl) (fun _ h => by cases h) indexWordsUpto_row_tie rfl ⟨rfl, rfl⟩ (by kernel_rfl) rfl indexWords_none (by kernel_rfl)
end Go.Proofs.YtppagloobdflbabGreatDoor
