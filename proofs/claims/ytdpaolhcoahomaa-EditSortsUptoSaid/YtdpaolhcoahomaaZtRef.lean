/-
  The document's Sound on the abstract machine: what it computes. No condition.
-/
import Derived.Test.YtdpaolhcoahomaaZtApply
namespace Go.Proofs.Zt
open Go Go.Zam Go.Proofs
set_option maxRecDepth 100000
set_option linter.all false
set_option maxHeartbeats 1000000

theorem refSoundOk (H : Hp) (z : Bool) (l : List Ed) (n : Int) : ACall Try.prog 13 [.d (.sl z 3 (l.map encE)), .d (.int .i64 n)] H (fun r H' => r = .d (.int .i64 (sound l n)) ∧ H' = H) := by
  refine acall_fin rfl cf13 (by simp [ir13]) fun hcl _ => ?_
  simp [ir13]
  refine BrK_split (fun h => ?_) (fun h => ?_)
  · simp [RetK, cut_self hcl, sound] at h ⊢
    omega
  simp
  refine LoopK_of H.length (fun fr H' => ∃ pre rest last, l = pre ++ rest ∧ sound l n = soundFrom n last rest ∧ (pre = [] ∧ last = -1 ∨ ∃ q y, pre = q ++ [y] ∧ last = y.t) ∧ fr 0 = .d (.sl z 3 (l.map encE)) ∧ fr 1 = .d (.int .i64 n) ∧ fr 5 = .d (.int .i64 (pre.length : Int)) ∧ H' = H)
    (fun fr H' => match fr 5 with | .d (.int _ k) => (l.length - k).toNat | _ => 0) (by simp) ?_ ?_
  · refine ⟨[], l, -1, ?_⟩
    simp [cut_self hcl, sound]
    simp at h; omega
  rintro fr H' ⟨pre, rest, last, hl, hs, hp, f0, f1, f5, rfl⟩
  simp [f0, f1, f5]
  refine BrK_split (fun h => ?_) (fun h => ?_)
  · obtain ⟨e, r, rfl⟩ : ∃ e r, rest = e :: r := by
      cases rest with
      | nil => simp_all
      | cons e r => exact ⟨e, r, rfl⟩
    have hr : Zam.rowAt (l.map encE) pre.length = some (encE e) := by rw [hl]; exact rowAt_mid _ _ _ _
    have hw : IntKind.i64.wrap (pre.length + 1) = pre.length + 1 := wrap_i64 (by omega) (by simp at *; omega)
    rcases hp with ⟨rfl, rfl⟩ | ⟨q, y, rfl, rfl⟩
    · simp at hl hr f5
      simp [f0, f1, f5, hr, encE]
      repeat' (first
        | refine GdK_split (by simp) (fun h => ?_) (fun h => ?_)
        | refine BrK_split (fun h => ?_) (fun h => ?_)
        | simp [f0, f1, f5])
      all_goals simp only [decide_eq_true_eq, decide_eq_false_iff_not, Bool.not_true, Bool.not_false] at *
      all_goals first
        | (clear hl hr; simp_all [RetK, cut_app hcl, soundFrom]; done)
        | (have hs' : sound l n = soundFrom n e.t r := by
             clear hl hr
             rw [hs, soundFrom]
             (repeat' split) <;> first | rfl | omega | (simp_all; done) | (simp_all; omega)
           have hw : IntKind.i64.wrap 1 = 1 := rfl
           refine AgainK_of (m := H'.length) (by simp) ⟨[e], r, e.t, hl, hs', .inr ⟨[], e, rfl, rfl⟩, ?_⟩ ?_
           · simp [cut_app hcl, f0, f1, f5, hw]
           · simp [hw]; simp at *; omega)
    · have hr2 : Zam.rowAt (l.map encE) q.length = some (encE y) := by
        rw [hl, List.append_assoc]; exact rowAt_mid encE q ([] ++ e :: r) y
      simp only [List.length_append, List.length_cons, List.length_nil, Nat.zero_add, Int.natCast_add, Int.cast_ofNat_Int] at f5 hr hw h
      have hw2 : IntKind.i64.wrap (q.length : Int) = q.length := wrap_i64 (by omega) (by simp at *; omega)
      have hq : decide ((0 : Int) < q.length + 1) = true := by simp only [decide_eq_true_eq]; omega
      simp [f0, f1, f5, hr, encE]
      repeat' (first
        | refine GdK_split (by simp) (fun h => ?_) (fun h => ?_)
        | refine BrK_split (fun h => ?_) (fun h => ?_)
        | simp [f0, f1, f5, hr2, hw2, hq, encE])
      all_goals simp only [decide_eq_true_eq, decide_eq_false_iff_not, Bool.not_true, Bool.not_false] at *
      all_goals first
        | (clear hl hr hr2; simp_all [RetK, cut_app hcl, soundFrom]; done)
        | skip
      all_goals
        have hs' : sound l n = soundFrom n e.t r := by
          clear hl hr hr2
          rw [hs, soundFrom]
          (repeat' split) <;> first | rfl | omega | (simp_all; done) | (simp_all; omega)
        refine AgainK_of (m := H'.length) (by simp) ⟨q ++ [y] ++ [e], r, e.t, by simpa using hl, hs', .inr ⟨_, e, rfl, rfl⟩, ?_⟩ ?_
        · simp [cut_app hcl, f0, f1, f5, hw]
          omega
        · simp [hw]
          omega
  · obtain rfl : rest = [] := by
      cases rest with
      | nil => rfl
      | cons e r => simp_all
    simp [RetK, hs, soundFrom, cut_self hcl]

end Go.Proofs.Zt
