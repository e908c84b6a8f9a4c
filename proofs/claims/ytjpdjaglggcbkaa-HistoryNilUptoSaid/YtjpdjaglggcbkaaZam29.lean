/-
  An abstract machine over the model, twenty-ninth part: the library's comparisons: what they compute. No condition.
-/
import Derived.Test.YtjpdjaglggcbkaaZam28
namespace Go.Zam
set_option linter.all false
set_option maxRecDepth 100000
set_option maxHeartbeats 1000000

def cmpInt (a b : Int) : Int := if a < b then -1 else if b < a then 1 else 0

def cmpStr (a b : List UInt8) : Int := if Op.bytesLess a b then -1 else if Op.bytesLess a b || decide (a = b) then 0 else 1

def orL : List Int → Int
  | [] => 0
  | x :: r => if x = 0 then orL r else x

section
variable {P : Program}

theorem compareInt_acall {f f1 : FuncId} {fn fn1 : Func} (hf : P.funcs[f]? = some fn) (hcf : compF P [] fn = some (irCompare f1)) (hf1 : P.funcs[f1]? = some fn1) (hcf1 : compF P [] fn1 = some irIsNaN) {H : Hp} {k : IntKind} (a b : Int) :
    ACall P f [.d (.int k a), .d (.int k b)] H (fun r H' => r = .d (.int .i64 (cmpInt a b)) ∧ H' = H) := by
  have hn : ∀ x, ACall P f1 [.d (.int k x)] H (fun r H' => r = .d (.bool false) ∧ H' = H) := fun x => by
    refine acall_fin hf1 hcf1 (by simp [irIsNaN]) fun hcl _ => ?_
    simp [irIsNaN]
    simp [RetK, cut_self hcl]
  refine acall_fin hf hcf (by simp [irCompare]) fun hcl _ => ?_
  simp [irCompare]
  refine CallK_of' (hn a) ?_
  simp
  refine CallK_of' (hn b) ?_
  simp
  refine BrK_split (fun h => ?_) (fun h => ?_)
  · simp at h; simp [RetK, cut_self hcl, cmpInt, h]
  · simp
    refine BrK_split (fun h2 => ?_) (fun h2 => ?_)
    · simp at h h2; simp [RetK, cut_self hcl, cmpInt, h2]; omega
    · simp at h h2; simp [RetK, cut_self hcl, cmpInt]; rw [if_neg (by omega), if_neg (by omega)]

theorem orInt_acall {f : FuncId} {fn : Func} (hf : P.funcs[f]? = some fn) (hcf : compF P [] fn = some irOrInt) {H : Hp} {z : Bool} (l : List Int) (hl : l.length ≤ 1073741824) :
    ACall P f [.d (.sl z 1 (l.map fun x => [.int .i64 x]))] H (fun r H' => r = .d (.int .i64 (orL l)) ∧ H' = H) := by
  refine acall_fin hf hcf (by simp [irOrInt]) fun hcl _ => ?_
  simp [irOrInt]
  refine LoopK_of H.length (fun fr H' => ∃ pre rest, l = pre ++ rest ∧ orL l = orL rest ∧ fr 3 = .d (.int .i64 0) ∧ fr 6 = .d (.sl z 1 (l.map fun x => [.int .i64 x])) ∧ fr 7 = .d (.int .i64 l.length) ∧ fr 8 = .d (.int .i64 (pre.length : Int)) ∧ H' = H)
    (fun fr H' => match fr 8 with | .d (.int _ k) => (l.length - k).toNat | _ => 0) (by simp) ?_ ?_
  · refine ⟨[], l, ?_⟩
    simp [cut_self hcl]
  rintro fr H' ⟨pre, rest, hl', ho, f3, f6, f7, f8, hH⟩
  rw [hH]
  simp [f6, f7, f8]
  refine BrK_split (fun h => ?_) (fun h => ?_)
  · obtain ⟨e, r, rfl⟩ : ∃ e r, rest = e :: r := by
      cases rest with
      | nil => simp_all
      | cons e r => exact ⟨e, r, rfl⟩
    have hr : Zam.rowAt (l.map fun x => [D.int .i64 x]) pre.length = some [.int .i64 e] := by rw [hl']; exact rowAt_mid (fun x : Int => [D.int .i64 x]) _ _ _
    have hpl : pre.length < l.length := by rw [hl']; simp
    have hw : IntKind.i64.wrap ((pre.length : Int) + 1) = pre.length + 1 := wrap_i64 (by omega) (by omega)
    simp [f3, f6, f7, f8, hr]
    refine BrK_split (fun h2 => ?_) (fun h2 => ?_)
    · simp at h2
      simp [RetK, cut_self hcl, ho, orL, h2]
    · simp at h2
      simp [f8, hw]
      refine AgainK_of (m := H.length) (by simp) ⟨pre ++ [e], r, ?_⟩ ?_
      · simp [f3, f6, f7, f8, cut_self hcl]
        exact ⟨hl', by rw [ho, orL, if_pos h2]⟩
      · simp; omega
  · obtain rfl : rest = [] := by
      cases rest with
      | nil => rfl
      | cons e r => exfalso; rw [hl'] at h; simp at h
    simp [f3]
    simp [RetK, cut_self hcl, ho, orL]

end
end Go.Zam
