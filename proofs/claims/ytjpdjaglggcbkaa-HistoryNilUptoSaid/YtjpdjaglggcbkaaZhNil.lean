/-
  The law HistoryNil on the abstract machine. No condition.
-/
import Derived.Test.YtjpdjaglggcbkaaZhAwake
namespace Go.Proofs.Zh
open Go Go.Zam Go.Proofs
set_option maxRecDepth 100000
set_option linter.all false
set_option maxHeartbeats 1000000

theorem undo_nil (H : Hp) : ACall Try.prog 12 [.d .nilp] H (fun r H' => r = .tup [.d (.str []), .d (.int .i64 2)] ∧ H' = H) := by
  refine acall_fin Try.func12 cf12 (by simp [ir12]) fun hcl _ => ?_
  simp [ir12]
  simp [RetK, cut_self hcl]

theorem redo_nil (H : Hp) : ACall Try.prog 13 [.d .nilp] H (fun r H' => r = .tup [.d (.str []), .d (.int .i64 2)] ∧ H' = H) := by
  refine acall_fin Try.func13 cf13 (by simp [ir13]) fun hcl _ => ?_
  simp [ir13]
  simp [RetK, cut_self hcl]

theorem since_nil (H : Hp) (n : Int) : ACall Try.prog 23 [.d .nilp, .d (.int .i64 n)] H (fun r H' => r = .tup [.d (.sl true 2 []), .d (.int .i64 2)] ∧ H' = H) := by
  refine acall_fin Try.func23 cf23 (by simp [ir23]) fun hcl _ => ?_
  simp [ir23]
  simp [RetK, cut_app hcl]

theorem notes_nil (H : Hp) : ∃ k, ACall Try.prog 19 [.d .nilp] H (fun r H' => r = .tup [.d (.sl true k []), .d (.sl true k [])] ∧ H' = H) := by
  refine ⟨1, ?_⟩
  refine acall_fin Try.func19 cf19 (by simp [ir19]) fun hcl _ => ?_
  simp [ir19]
  simp [RetK, cut_self hcl]

theorem do_nil (H : Hp) (s : List UInt8) (z : Bool) (l : List (List D)) : ACall Try.prog 11 [.d .nilp, .d (.str s), .d (.sl z 2 l)] H (fun r H' => r = .d (.int .i64 2) ∧ H' = H) := by
  refine acall_fin Try.func11 cf11 (by simp [ir11]) fun hcl _ => ?_
  simp [ir11]
  simp [RetK, cut_self hcl]

theorem modules_nil (H : Hp) : ACall Try.prog 9 [.d .nilp] H (fun r H' => r = .d (.sl true 2 []) ∧ H' = H) := by
  refine acall_fin Try.func9 cf9 (by simp [ir9]) fun hcl _ => ?_
  simp [ir9]
  simp [RetK, cut_self hcl]

theorem nilOk (n : Int) (s : List UInt8) : ACall Try.prog 5 [.d (.int .i64 n), .d (.str s)] [] (fun r H' => r = .d (.bool true) ∧ H' = []) := by
  refine acall_fin Try.func5 cf5 (by simp [ir5]) fun hcl _ => ?_
  simp [ir5]
  refine CallK_of' (undo_nil _) ?_
  simp
  refine CallK_of' (redo_nil _) ?_
  simp
  refine CallK_of' (since_nil _ _) ?_
  simp
  obtain ⟨k, hk⟩ := notes_nil []
  refine CallK_of' hk ?_
  simp
  refine CallK_of' (awakeOk _) ?_
  simp
  refine CallK_of' (do_nil _ _ _ _) ?_
  simp
  refine CallK_of' (modules_nil _) ?_
  have hw0 : IntKind.i64.wrap 0 = 0 := wrap_i64 (by omega) (by omega)
  simp [hw0]
  simp [RetK, Hp.cut]

end Go.Proofs.Zh
