/-
  Sort on the abstract machine: what it computes. The lengths are bounded.
-/
import Derived.Test.YtdpaolhcoahomaaZam29
import Derived.Test.YtdpaolhcoahomaaZtIrD
import Derived.Test.YtdpaolhcoahomaaZtApply
namespace Go.Proofs.Zt
open Go Go.Zam Go.Proofs
set_option maxRecDepth 100000
set_option linter.all false
set_option maxHeartbeats 1000000

def cE (a b : Ed) : Int := orL [cmpInt a.f b.f, cmpInt a.t b.t]

theorem cE_cmp : Cmp cE where
  refl := fun x => by simp [cE, cmpInt, orL]
  anti := fun x y => by
    simp only [cE, cmpInt, orL]
    (repeat' split) <;> omega
  trans := fun x y z => by
    simp only [cE, cmpInt, orL]
    (repeat' split) <;> omega

theorem encE_len : ∀ x, (encE x).length = 3 := fun x => rfl

theorem cmpE_acall (H : Hp) (x y : Ed) : ACall Try.prog 25 [.agg (rowE encE x), .agg (rowE encE y)] H (fun r H' => r = .d (.int .i64 (cE x y)) ∧ H' = H) := by
  have h1 : ∀ H a b, ACall Try.prog 27 [.d (.int .i64 a), .d (.int .i64 b)] H (fun r H' => r = .d (.int .i64 (cmpInt a b)) ∧ H' = H) := fun H a b => compareInt_acall Try.func27 cf27 Try.func33 cf33 a b
  have h2 : ∀ H a b, ACall Try.prog 26 [.d (.sl false 1 [[.int .i64 a], [.int .i64 b]])] H (fun r H' => r = .d (.int .i64 (orL [a, b])) ∧ H' = H) := fun H a b => by
    have := orInt_acall (P := Try.prog) Try.func26 cf26 (H := H) (z := false) [a, b] (by simp)
    simpa using this
  refine acall_fin Try.func25 cf25 (by simp [ir25]) fun hcl _ => ?_
  simp [ir25, rowE, encE]
  refine CallD_of (h1 _ _ _) ?_
  simp
  refine CallD_of (h1 _ _ _) ?_
  simp
  refine CallD_of (h2 _ _ _) ?_
  simp [RetK, cut_app hcl, cE]

theorem cmpA_E : CmpA Try.prog encE cE (.d (.fn 25)) := fun H x y Q t hq => by
  simp only [ValD_d]
  exact ⟨by kernel_rfl, CallD_of (cmpE_acall H x y) hq⟩

theorem sortOk (H : Hp) (z : Bool) (l : List Ed) (hl : l.length ≤ 1048576) :
    ACall Try.prog 17 [.d (.sl z 3 (l.map encE))] H (fun r H' => r = .d (.sl (z && l.isEmpty) 3 ((ssort cE l).map encE)) ∧ H' = H) := by
  have hss : ∀ (H : Hp) (i : Nat), H[i]? = some (arrE encE 3 l) → ACall Try.prog 24 [.msl i 0 l.length, .d (.fn 25)] H (fun r' H' => r' = .tup [] ∧ H' = H.set i (arrE encE 3 (ssort cE l))) := fun H i hi =>
    sortStable_acall encE_len cE_cmp Try.func24 cf24 Try.func32 cf32 Try.func35 cf35 Try.func36 cf36 Try.func37 cf37 Try.func38 cf38 cmpA_E (fun m _ => by simp) hi (by omega)
  have hlen := ssort_length cE_cmp l
  by_cases h0 : l = []
  · subst h0
    cases z with
    | true =>
      refine acall_fin Try.func17 cf17 (by simp [ir17]) fun hcl _ => ?_
      simp [ir17]
      refine CallK_of' (clone0_acall Try.func23 cf23) ?_
      simp
      refine CallK_of' (sortStable0_acall (sz := 3) Try.func24 cf24 Try.func32 cf32 Try.func35 cf35 (fun m _ => by simp)) ?_
      simp [RetK, cut_self hcl, ssort]
    | false =>
      refine ACall.freeze (k := 0) (X := [.arr 3 []]) (by simp [ssort]) ?_
      refine acall_fink 1 Try.func17 cf17 (by simp [ir17]) fun hcl _ => ?_
      simp [ir17]
      refine CallK_of' (cloneM0_acall Try.func23 cf23) ?_
      simp
      have := hss (H ++ [.arr 3 []]) H.length (by simp [arrE])
      simp only [List.length_nil] at this
      refine CallK_of' this ?_
      simp [RetK, cut_appk hcl, arrE, ssort]
  · have hrows : l.map encE ≠ [] := by simpa using h0
    have he : l.isEmpty = false := by cases l <;> simp_all
    rw [he, Bool.and_false]
    refine ACall.freeze (k := 1) (X := [.arr 3 [], arrE encE 3 (ssort cE l)]) (by simp [arrE, rowE]) ?_
    refine acall_fink 2 Try.func17 cf17 (by simp [ir17]) fun hcl _ => ?_
    simp [ir17]
    refine CallK_of' (cloneM_acall Try.func23 cf23 hrows (by simp; omega)) ?_
    have := hss (H ++ [.arr 3 [], .arr 3 ((l.map encE).map (List.map .d))]) (H.length + 1) (by simp [arrE, rowE])
    simp at this
    simp
    refine CallK_of' this ?_
    simp [RetK, cut_appk hcl, arrE_clr, hlen, -Ob.clr]
    simp

end Go.Proofs.Zt
