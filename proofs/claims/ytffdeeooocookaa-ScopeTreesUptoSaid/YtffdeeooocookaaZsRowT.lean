/-
  The law ScopeTrees: its row, where what comes in is of bulk at most 1048576.
-/
import Derived.Test.YtffdeeooocookaaM7
import Derived.Test.YtffdeeooocookaaM3
namespace Go.Proofs.Ytffdeeooocookaa
open Go Go.Zam Go.Proofs.Zs
open Go.ChangeShapes Go.WideShapes Go.ChangeAt Go.RowKit
set_option linter.all false

theorem node_bulk (n : N) : n.size ≤ D.bulkC n.enc := by
  induction n using N.ind with
  | h k f t w a z ks ih =>
  have hs : ∀ l : List N, (∀ p ∈ l, p.size ≤ D.bulkC p.enc) → N.sizes l ≤ D.bulkR (l.map N.enc) := by
    intro l
    induction l with
    | nil => intro _; simp [N.sizes]
    | cons x l ihl =>
      intro h
      have h1 := h x (by simp)
      have h2 := ihl fun p hp => h p (by simp [hp])
      simp only [N.sizes, List.map_cons, D.bulkR]
      omega
  have := hs ks ih
  simp only [N.enc_mk, N.size_mk, D.bulkC, D.bulk]
  omega

set_option maxRecDepth 100000 in
theorem ty25 : ∀ n ds, Typed Try.prog n 25 ds → ∃ v : N, ds = v.enc ∧ True := by
  intro n
  induction n using Nat.strongRecOn with
  | ind n ih =>
  intro ds h
  obtain ⟨m, rfl, h⟩ := typed_structR Try.underlying25 h
  obtain ⟨a, r, rfl, ha, d, r, rfl, hd, e, r, rfl, he, g, r, rfl, hg, i, r, rfl, hi, j, r, rfl, hj, rfl⟩ := h
  obtain ⟨k, rfl, -⟩ := typed_i64 Try.underlying3 ha
  obtain ⟨f, rfl, -⟩ := typed_i64 Try.underlying3 hd
  obtain ⟨t, rfl, -⟩ := typed_i64 Try.underlying3 he
  obtain ⟨w, rfl⟩ := typed_str Try.underlying9 hg
  obtain ⟨q, rfl, -⟩ := typed_i64 Try.underlying3 hi
  obtain ⟨z, ks, rfl, -⟩ := typed_slR (sz := 6) (enc := N.enc) (R := fun _ => True) Try.underlying23 (by kernel_rfl) (fun q hq ds h => ih q (by omega) ds h) hj
  exact ⟨.mk k f t w q z ks, by rw [N.enc_mk]; rfl, trivial⟩

set_option maxRecDepth 100000 in
theorem arg_node {n : Nat} {ds : List D} {a : A} (h : Typed Try.prog n 25 ds) (ha : ArgOf Try.prog 25 ds a) : ∃ v : N, a = v.v ∧ v.size ≤ D.bulkC ds := by
  obtain ⟨v, rfl, -⟩ := ty25 n ds h
  refine ⟨v, ?_, node_bulk v⟩
  unfold ArgOf at ha
  rw [Try.underlying25] at ha
  exact ha

theorem scopeTreesPlain : plainT Try.prog [3, 9, 23, 25] = true := by kernel_rfl

set_option maxRecDepth 100000 in
theorem scopeTrees_contract (H : Type) (enc : TypeId × Value → H) (W : World) (base : Nat) (args : Array Value) (ds gs : List (DataW H)) (before : List MemPlace)
    (hval : ∀ (j : Nat) t v, Try.f4.params[j]? = some t → args[j]? = some v → Value.okWide Try.prog W .any base t v)
    (hW : DataW.Whole enc Try.prog Try.f4.params.toList Rows.scopeTreesSpec.vars false W args.toList ds gs before) (hk : Rows.uptoSmall H (ds ++ gs) = true) :
    Calls Try.prog 4 args W fun e W' => ∃ v, e = .returned v ∧ Rows.scopeTreesSpec.post enc Try.prog Try.f4 false true false false W args v W' := by
  have hlen : ds.length = 1 := by
    obtain ⟨p, q, hA, -⟩ := hW
    rw [Try.params4] at hA
    obtain ⟨v0, vs0, d0, ds0, p0, q0, hargs0, rfl, rfl, h0, r0⟩ := trodAll_cons hA
    obtain ⟨rfl, rfl, rfl⟩ := trodAll_nil r0
    rfl
  match ds, hlen with
  | [d0], _ =>
  refine law_of (fn := Try.f4) (bt := 4) (ts := [3, 9, 23, 25]) laidOut scopeTreesPlain (isBulk H) (fun j t v a b => hval j t v a b) hW rfl (by kernel_rfl) Try.underlying4 ?_ rfl rfl rfl ?_
  · rw [Try.params4]
    intro t ht
    simp only [List.mem_cons, List.not_mem_nil, or_false] at ht
    rcases ht with rfl
    · exact ⟨by simp, by kernel_rfl, of_decide_eq_true (by kernel_rfl)⟩
  · have hb : Rows.uptoBulkAll ([d0] ++ gs) ≤ 1048576 := of_decide_eq_true hk
    have hb' : Rows.uptoBulkAll [d0] ≤ 1048576 := by
      simp only [List.cons_append, List.nil_append, Rows.uptoBulkAll] at hb ⊢; omega
    rw [Try.params4]
    rintro xs ⟨n0, c0, a0, r0, b0, rfl, t0, o0, rfl, k0⟩
    obtain ⟨s, rfl, sl⟩ := arg_node t0 o0
    exact (treesOk s (by omega) []).mono fun _ _ h => h.1

set_option maxRecDepth 100000 in
theorem scopeTrees_lifted (os : Os) (started : os.Started) (H : Type) (enc : TypeId × Value → H) (F : Stop.Interp) :
    ReturnsInHanded {} Try.checked os 4 .any ((Rows.OpenSpec.upto Rows.scopeTreesSpec).pre6 enc Try.prog Try.f4 Rows.scopeTreesUptoRow.domain false) (((Rows.OpenSpec.upto Rows.scopeTreesSpec).at F).post enc Try.prog Try.f4 false true false false) := by
  refine returnsInHanded_of_cond (C := Try.checked) (s := Rows.OpenSpec.upto Rows.scopeTreesSpec) (k := Rows.uptoSmall) rfl own started (by kernel_rfl) Try.func4
    (OpenSpec.witness (enc := enc) (C := Try.checked) (s := Rows.OpenSpec.upto Rows.scopeTreesSpec) (k := Rows.uptoSmall) rfl false ⟨#[], #[.agg #[.int .i64 0, .int .i64 0, .int .i64 0, .string ⟨#[]⟩, .int .i64 0, .slice none 0 0]], []⟩ 8 (by kernel_rfl) (by kernel_rfl) (by kernel_rfl)
      (x := ([.agg [.lit (.int .i64 0), .lit (.int .i64 0), .lit (.int .i64 0), .lit (.string []), .lit (.int .i64 0), .nil]], [], [])) (by kernel_rfl) rfl (by kernel_rfl)) ?_
  intro W base args ds gs before hval hW _ hk _
  exact scopeTrees_contract H enc W base args ds gs before hval hW hk

theorem scopeTrees_proved : Rows.ScopeTreesUptoSaid :=
  OpenClaim.holds_of_cond 4 Try.f4 rfl rfl rfl rfl rfl rfl rfl ⟨rfl, rfl, rfl, rfl, rfl⟩ rfl rfl rfl rfl rfl (by kernel_rfl) Try.func4 (by kernel_rfl)
    (of_decide_eq_true (by kernel_rfl)) (by unfold Func.isWrapper; first | (rw [if_pos (by decide +kernel)]; kernel_rfl) | (rw [if_neg (by decide +kernel)]; exact ⟨rfl, rfl⟩))
    (fun os started H enc _ F => scopeTrees_lifted os started H enc F)
end Go.Proofs.Ytffdeeooocookaa
