/-
  An abstract machine over the model, thirty-fourth part: heaps that are closed; cells of boxes and of rows; Clone's answer as a plain slice. No condition.
-/
import Derived.Test.YtjpdjaglggcbkaaZam33
namespace Go.Zam
set_option linter.all false
set_option maxRecDepth 100000
set_option maxHeartbeats 1000000

theorem closed_iff {H : Hp} : H.Closed ↔ ∀ n, H.length ≤ n → ∀ x ∈ H, x.clr n = x := by
  unfold Hp.Closed
  refine forall_congr' fun n => imp_congr_right fun _ => ?_
  constructor
  · intro h x hx
    obtain ⟨i, hi, rfl⟩ := List.getElem_of_mem hx
    have := congrArg (fun l => l[i]?) h
    simpa [hi] using this
  · intro h
    exact (List.map_congr_left h).trans (List.map_id' _)

theorem Closed.set {H : Hp} (h : H.Closed) (i : Nat) {x : Ob} (hx : ∀ n, H.length ≤ n → x.clr n = x) : Hp.Closed (H.set i x) := by
  rw [closed_iff] at h ⊢
  intro n hn y hy
  rw [List.length_set] at hn
  rcases List.mem_or_eq_of_mem_set hy with h1 | h1
  · exact h n hn y h1
  · rw [h1]; exact hx n hn

theorem Closed.snoc {H : Hp} (h : H.Closed) {x : Ob} (hx : ∀ n, H.length + 1 ≤ n → x.clr n = x) : Hp.Closed (H ++ [x]) := by
  rw [closed_iff] at h ⊢
  intro n hn y hy
  simp only [List.length_append, List.length_singleton] at hn
  rcases List.mem_append.1 hy with h1 | h1
  · exact h n (by omega) y h1
  · rw [List.mem_singleton.1 h1]; exact hx n hn

theorem ld_ptr (H : Hp) (i off n : Nat) : ldA H n (.ptr i off) = (match H[i]? with | some (.box _ cs) => cutL cs off n | _ => none) := rfl
theorem st_ptr (H : Hp) (i off : Nat) (cs : List A) : stA H cs (.ptr i off) = (match H[i]? with | some (.box ty old) => if off + cs.length ≤ old.length then some (H.set i (.box ty (setL old off cs))) else none | _ => none) := rfl

section
variable {P : Program} {α : Type} {enc : α → List D} {sz : Nat}

theorem arr_ldc {H : Hp} {i k j : Nat} {L : List α} {e : α} {d : D} (hi : H[i]? = some (arrE enc sz L)) (hk : L[k]? = some e) (hj : (enc e)[j]? = some d) : ldA H 1 (.aptr i k j) = some [.d d] := by
  have hjl := (List.getElem?_eq_some_iff.1 hj)
  obtain ⟨h1, h2⟩ := hjl
  have : j + 1 ≤ (enc e).length := h1
  simp [ldA, hi, arrE, hk, rowE, cutL, this]
  rw [List.take_one]
  simp [hj]

theorem arr_stc {H : Hp} {i k j : Nat} {L : List α} {e e' : α} {d : D} (hi : H[i]? = some (arrE enc sz L)) (hk : L[k]? = some e) (hj : j < (enc e).length) (he : (enc e).set j d = enc e') : stA H [.d d] (.aptr i k j) = some (H.set i (arrE enc sz (L.set k e'))) := by
  have : j + 1 ≤ (enc e).length := hj
  simp [stA, hi, arrE, hk, rowE, this]
  rw [← List.map_set, he]

theorem cloneD_acall {bytes e : Nat} {f : FuncId} {fn : Func} (hf : P.funcs[f]? = some fn) (hcf : compF P [1000005] fn = some (irCloneM sz bytes e)) {H : Hp} {z : Bool} {rows : List (List D)} (hb : rows.length * bytes ≤ 140737488355328) :
    ACall P f [.d (.sl z sz rows)] H (fun r H' => r = .d (.sl (z && rows.isEmpty) sz rows) ∧ H' = H) := by
  by_cases h0 : rows = []
  · subst h0
    cases z with
    | true => exact clone0_acall hf hcf
    | false => exact ACall.freeze (k := 0) (X := [.arr sz []]) (by simp) (cloneM0_acall hf hcf)
  · have : rows.isEmpty = false := by cases rows <;> simp_all
    rw [this, Bool.and_false]
    exact ACall.freeze (k := 1) (X := [.arr sz [], .arr sz (rows.map (List.map .d))]) (by simp) (cloneM_acall hf hcf h0 hb)

end
end Go.Zam
