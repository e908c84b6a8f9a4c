/-
  history.twin on the abstract machine: changes in new memory. The lengths are bounded.
-/
import Derived.Test.YtjpdjaglggcbkaaZam34
import Derived.Test.YtjpdjaglggcbkaaZhApp
namespace Go.Proofs.Zh
open Go Go.Zam Go.Proofs
set_option maxRecDepth 100000
set_option linter.all false
set_option maxHeartbeats 1000000

def twinC (c : Chg) : Chg := ⟨c.n, c.z && c.l.isEmpty, c.l⟩

theorem encC_len : ∀ x, (encC x).length = 2 := fun _ => rfl

theorem cloneEOk (H : Hp) (c : Chg) (hb : c.l.length ≤ 1048576) : ACall Try.prog 44 [.d (.sl c.z 3 (c.l.map encE))] H (fun r H' => r = .d (.sl (c.z && c.l.isEmpty) 3 (c.l.map encE)) ∧ H' = H) := by
  have := cloneD_acall (P := Try.prog) (sz := 3) Try.func44 cf44 (H := H) (z := c.z) (rows := c.l.map encE) (by simp; omega)
  simpa using this

theorem twinOk (H : Hp) (z : Bool) (l : List Chg) (hl : l.length ≤ 1048576) (he : ∀ c ∈ l, c.l.length ≤ 1048576) :
    ACall Try.prog 29 [.d (.sl z 2 (l.map encC))] H (fun r H' => r = .d (.sl (z && l.isEmpty) 2 ((l.map twinC).map encC)) ∧ H' = H) := by
  by_cases h0 : l = []
  · subst h0
    cases z with
    | true =>
      refine acall_fin Try.func29 cf29 (by simp [ir29]) fun hcl _ => ?_
      simp [ir29]
      refine CallK_of' (clone0_acall Try.func43 cf43) ?_
      simp
      refine LoopK_of H.length (fun fr H' => fr 3 = .d (.sl true 2 []) ∧ fr 8 = .d (.int .i64 0) ∧ fr 9 = .d (.int .i64 0) ∧ H' = H) (fun _ _ => 0) (by simp) (by simp [cut_self hcl]) ?_
      rintro fr H' ⟨f3, f8, f9, hH⟩
      rw [hH]
      simp [f3, f8, f9]
      simp [RetK, cut_self hcl]
    | false =>
      refine ACall.freeze (k := 0) (X := [.arr 2 []]) (by simp) ?_
      refine acall_fink 1 Try.func29 cf29 (by simp [ir29]) fun hcl _ => ?_
      simp [ir29]
      refine CallK_of' (cloneM0_acall Try.func43 cf43) ?_
      simp
      refine LoopK_of (H.length + 1) (fun fr H' => fr 3 = .msl H.length 0 0 ∧ fr 8 = .d (.int .i64 0) ∧ fr 9 = .d (.int .i64 0) ∧ H' = H ++ [.arr 2 []]) (fun _ _ => 0) (by simp) (by simp [cut_appk hcl]) ?_
      rintro fr H' ⟨f3, f8, f9, hH⟩
      rw [hH]
      simp [f3, f8, f9]
      simp [RetK, cut_appk hcl]
  · have hrows : l.map encC ≠ [] := by simpa using h0
    have hem : l.isEmpty = false := by cases l <;> simp_all
    rw [hem, Bool.and_false]
    refine ACall.freeze (k := 1) (X := [.arr 2 [], arrE encC 2 (l.map twinC)]) (by simp [arrE, rowE]) ?_
    refine acall_fink 2 Try.func29 cf29 (by simp [ir29]) fun hcl _ => ?_
    simp [ir29]
    refine CallK_of' (cloneM_acall Try.func43 cf43 hrows (by simp; omega)) ?_
    simp
    refine LoopK_of (H.length + 2) (fun fr H' => ∃ pre rest, l = pre ++ rest ∧ fr 3 = .msl (H.length + 1) 0 l.length ∧ fr 8 = .d (.int .i64 l.length) ∧ fr 9 = .d (.int .i64 (pre.length : Int)) ∧ H' = H ++ [.arr 2 [], arrE encC 2 (pre.map twinC ++ rest)])
      (fun fr H' => match fr 9 with | .d (.int _ k) => (l.length - k).toNat | _ => 0) (by simp) ?_ ?_
    · refine ⟨[], l, ?_⟩
      simp [cut_appk hcl, arrE, rowE]
    rintro fr H' ⟨pre, rest, hl', f3, f8, f9, hH⟩
    rw [hH]
    simp [f8, f9]
    refine BrK_split (fun h => ?_) (fun h => ?_)
    · obtain ⟨c, rest, rfl⟩ : ∃ e r, rest = e :: r := by
        cases rest with
        | nil => rw [hl'] at h; simp at h
        | cons e r => exact ⟨e, r, rfl⟩
      have hpl : pre.length < l.length := by rw [hl']; simp
      have hw : IntKind.i64.wrap ((pre.length : Int) + 1) = pre.length + 1 := wrap_i64 (by omega) (by omega)
      have hi : (H ++ [.arr 2 [], arrE encC 2 (pre.map twinC ++ c :: rest)])[H.length + 1]? = some (arrE encC 2 (pre.map twinC ++ c :: rest)) := by simp
      have hk : (pre.map twinC ++ c :: rest)[pre.length]? = some c := get_mid rfl (by simp)
      have hset : (pre.map twinC ++ c :: rest).set pre.length (twinC c) = (pre ++ [c]).map twinC ++ rest := by rw [set_mid rfl (by simp)]; simp
      simp [f3, f8, f9, arr_iaddr hi rfl hpl, arr_ldc hi hk (j := 1) rfl, -iaddrA, -ldA, -stA]
      refine CallK_of' (cloneEOk _ c (he c (by rw [hl']; simp))) ?_
      simp [f3, f8, f9, hw, arr_iaddr hi rfl hpl, arr_stc hi hk (j := 1) (by simp [encC]) (show (encC c).set 1 (.sl (c.z && c.l.isEmpty) 3 (c.l.map encE)) = encC (twinC c) from rfl), -iaddrA, -ldA, -stA]
      refine AgainK_of (m := H.length + 2) (by simp) ⟨pre ++ [c], rest, ?_⟩ ?_
      · rw [← hset]
        simp [f3, f8, f9, cut_appk hcl, hl', arrE_clr, -Ob.clr, hset]
        simp
      · simp; omega
    · obtain rfl : rest = [] := by
        cases rest with
        | nil => rfl
        | cons e r => exfalso; rw [hl'] at h; simp at h
      rw [List.append_nil] at hl'
      subst hl'
      simp [f3, RetK, cut_appk hcl, arrE_clr, -Ob.clr]
      simp

end Go.Proofs.Zh
