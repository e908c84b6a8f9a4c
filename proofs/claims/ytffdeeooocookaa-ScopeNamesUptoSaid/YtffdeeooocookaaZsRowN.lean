/-
  The law ScopeNames: its row, where what comes in is of bulk at most 1048576.
-/
import Derived.Test.YtffdeeooocookaaM8
namespace Go.Proofs.Ytffdeeooocookaa
open Go Go.Zam Go.Proofs.Zs
open Go.ChangeShapes Go.WideShapes Go.ChangeAt Go.RowKit
set_option linter.all false

theorem arg_u8_of {P : Program} {t : TypeId} (hu : P.underlying t = some (.int .u8)) {n : Nat} {ds : List D} {a : A} (h : Typed P n t ds) (ha : ArgOf P t ds a) : ∃ k : Nat, a = .d (.int .u8 (k : Int)) ∧ k ≤ 255 := by
  cases n with
  | zero => exact h.elim
  | succ n =>
    simp only [Typed, hu] at h
    obtain ⟨x, rfl, hw⟩ := h
    simp only [Lit.wf, IntKind.min, IntKind.max, IntKind.bits, IntKind.signed] at hw
    simp at hw
    refine ⟨x.toNat, ?_, by omega⟩
    have e : ((x.toNat : Nat) : Int) = x := by omega
    rw [e]
    exact argOf_one (by rw [hu]; simp) ha
theorem arg_u8 : ∀ {n : Nat} {ds : List D} {a : A} (h : Typed Try.prog n 5 ds) (ha : ArgOf Try.prog 5 ds a), ∃ k : Nat, a = .d (.int .u8 (k : Int)) ∧ k ≤ 255 := @arg_u8_of Try.prog 5 Try.underlying5

theorem scopeNamesPlain : plainT Try.prog [5, 9] = true := by kernel_rfl

set_option maxRecDepth 100000 in
theorem scopeNames_contract (H : Type) (enc : TypeId × Value → H) (W : World) (base : Nat) (args : Array Value) (ds gs : List (DataW H)) (before : List MemPlace)
    (hval : ∀ (j : Nat) t v, Try.f5.params[j]? = some t → args[j]? = some v → Value.okWide Try.prog W .any base t v)
    (hW : DataW.Whole enc Try.prog Try.f5.params.toList Rows.scopeNamesSpec.vars false W args.toList ds gs before) (hk : Rows.uptoSmall H (ds ++ gs) = true) :
    Calls Try.prog 5 args W fun e W' => ∃ v, e = .returned v ∧ Rows.scopeNamesSpec.post enc Try.prog Try.f5 false true false false W args v W' := by
  have hlen : ds.length = 3 := by
    obtain ⟨p, q, hA, -⟩ := hW
    rw [Try.params5] at hA
    obtain ⟨v0, vs0, d0, ds0, p0, q0, hargs0, rfl, rfl, h0, r0⟩ := trodAll_cons hA
    obtain ⟨v1, vs1, d1, ds1, p1, q1, hargs1, rfl, rfl, h1, r1⟩ := trodAll_cons r0
    obtain ⟨v2, vs2, d2, ds2, p2, q2, hargs2, rfl, rfl, h2, r2⟩ := trodAll_cons r1
    obtain ⟨rfl, rfl, rfl⟩ := trodAll_nil r2
    rfl
  match ds, hlen with
  | [d0, d1, d2], _ =>
  refine law_of (fn := Try.f5) (bt := 4) (ts := [5, 9]) laidOut scopeNamesPlain (isBulk H) (fun j t v a b => hval j t v a b) hW rfl (by kernel_rfl) Try.underlying4 ?_ rfl rfl rfl ?_
  · rw [Try.params5]
    intro t ht
    simp only [List.mem_cons, List.not_mem_nil, or_false] at ht
    rcases ht with rfl | rfl | rfl
    · exact ⟨by simp, by kernel_rfl, of_decide_eq_true (by kernel_rfl)⟩
    · exact ⟨by simp, by kernel_rfl, of_decide_eq_true (by kernel_rfl)⟩
    · exact ⟨by simp, by kernel_rfl, of_decide_eq_true (by kernel_rfl)⟩
  · have hb : Rows.uptoBulkAll ([d0, d1, d2] ++ gs) ≤ 1048576 := of_decide_eq_true hk
    have hb' : Rows.uptoBulkAll [d0, d1, d2] ≤ 1048576 := by
      simp only [List.cons_append, List.nil_append, Rows.uptoBulkAll] at hb ⊢; omega
    rw [Try.params5]
    rintro xs ⟨n0, c0, a0, r0, b0, rfl, t0, o0, ⟨n1, c1, a1, r1, b1, rfl, t1, o1, ⟨n2, c2, a2, r2, b2, rfl, t2, o2, rfl, k2⟩, k1⟩, k0⟩
    obtain ⟨s, rfl, sl⟩ := arg_str t0 o0
    obtain ⟨kk, rfl, kl⟩ := arg_u8 t1 o1
    obtain ⟨nm, rfl, nml⟩ := arg_str t2 o2
    exact (namesOk s (by have := sl.1; omega) kk (by omega) nm [] (by simp)).mono fun _ _ h => h.1

set_option maxRecDepth 100000 in
theorem scopeNames_lifted (os : Os) (started : os.Started) (H : Type) (enc : TypeId × Value → H) (F : Stop.Interp) :
    ReturnsInHanded {} Try.checked os 5 .any ((Rows.OpenSpec.upto Rows.scopeNamesSpec).pre6 enc Try.prog Try.f5 Rows.scopeNamesUptoRow.domain false) (((Rows.OpenSpec.upto Rows.scopeNamesSpec).at F).post enc Try.prog Try.f5 false true false false) := by
  refine returnsInHanded_of_cond (C := Try.checked) (s := Rows.OpenSpec.upto Rows.scopeNamesSpec) (k := Rows.uptoSmall) rfl own started (by kernel_rfl) Try.func5
    (OpenSpec.witness (enc := enc) (C := Try.checked) (s := Rows.OpenSpec.upto Rows.scopeNamesSpec) (k := Rows.uptoSmall) rfl false ⟨#[], #[.string ⟨#[]⟩, .int .u8 0, .string ⟨#[]⟩], []⟩ 8 (by kernel_rfl) (by kernel_rfl) (by kernel_rfl)
      (x := ([.lit (.string []), .lit (.int .u8 0), .lit (.string [])], [], [])) (by kernel_rfl) rfl (by kernel_rfl)) ?_
  intro W base args ds gs before hval hW _ hk _
  exact scopeNames_contract H enc W base args ds gs before hval hW hk

theorem scopeNames_proved : Rows.ScopeNamesUptoSaid :=
  OpenClaim.holds_of_cond 5 Try.f5 rfl rfl rfl rfl rfl rfl rfl ⟨rfl, rfl, rfl, rfl, rfl⟩ rfl rfl rfl rfl rfl (by kernel_rfl) Try.func5 (by kernel_rfl)
    (of_decide_eq_true (by kernel_rfl)) (by unfold Func.isWrapper; first | (rw [if_pos (by decide +kernel)]; kernel_rfl) | (rw [if_neg (by decide +kernel)]; exact ⟨rfl, rfl⟩))
    (fun os started H enc _ F => scopeNames_lifted os started H enc F)
end Go.Proofs.Ytffdeeooocookaa
