/-
  An abstract machine over the model, thirty-third part: comparing texts. No condition.
-/
import Derived.Test.YtjpdjaglggcbkaaZam32
namespace Go.Zam
set_option linter.all false
set_option maxRecDepth 100000
set_option maxHeartbeats 1000000

theorem bl_irrefl : ∀ a : List UInt8, Op.bytesLess a a = false
  | [] => rfl
  | x :: a => by simp [Op.bytesLess, bl_irrefl a]

theorem bl_total : ∀ a b : List UInt8, Op.bytesLess a b = false → Op.bytesLess b a = false → a = b
  | [], [], _, _ => rfl
  | [], y :: b, h, _ => by simp [Op.bytesLess] at h
  | x :: a, [], _, h => by simp [Op.bytesLess] at h
  | x :: a, y :: b, h, h' => by
    simp only [Op.bytesLess, Bool.or_eq_false_iff, decide_eq_false_iff_not, Bool.and_eq_false_iff, beq_eq_false_iff_ne, UInt8.lt_iff_toNat_lt] at h h'
    have hxy : x = y := by
      apply UInt8.toNat_inj.1
      omega
    subst hxy
    have h1 := h.2.resolve_left (fun e => e rfl)
    have h2 := h'.2.resolve_left (fun e => e rfl)
    rw [bl_total a b h1 h2]

theorem bl_trans : ∀ a b c : List UInt8, Op.bytesLess a b = true → Op.bytesLess b c = true → Op.bytesLess a c = true
  | _, [], _, h, _ => by cases ‹List UInt8› <;> simp [Op.bytesLess] at h
  | _, _ :: _, [], _, h => by simp [Op.bytesLess] at h
  | [], _ :: _, _ :: _, _, _ => rfl
  | x :: a, y :: b, z :: c, h, h' => by
    simp only [Op.bytesLess, Bool.or_eq_true, decide_eq_true_eq, Bool.and_eq_true, beq_iff_eq, UInt8.lt_iff_toNat_lt] at h h' ⊢
    rcases h with h | ⟨rfl, h⟩ <;> rcases h' with h' | ⟨rfl, h'⟩
    · left; omega
    · left; exact h
    · left; exact h'
    · right; exact ⟨rfl, bl_trans a b c h h'⟩

theorem bl_asymm {a b : List UInt8} (h : Op.bytesLess a b = true) : Op.bytesLess b a = false := by
  cases h2 : Op.bytesLess b a with
  | false => rfl
  | true => have := bl_trans a b a h h2; rw [bl_irrefl] at this; cases this

theorem cmpStr_lt {a b : List UInt8} : cmpStr a b < 0 ↔ Op.bytesLess a b = true := by
  unfold cmpStr
  split
  · simp_all
  · split <;> simp_all
theorem cmpStr_gt {a b : List UInt8} : 0 < cmpStr a b ↔ Op.bytesLess b a = true := by
  unfold cmpStr
  split
  · rename_i h; simp [bl_asymm h]
  · rename_i h
    split
    · rename_i h2
      simp [h] at h2
      subst h2
      simp [bl_irrefl]
    · rename_i h2
      simp [h] at h2
      cases h3 : Op.bytesLess b a with
      | true => simp
      | false => exact absurd (bl_total a b (by simpa using h) h3) h2
theorem cmpStr_zero {a b : List UInt8} : cmpStr a b = 0 ↔ a = b := by
  constructor
  · intro h
    have h1 : ¬ cmpStr a b < 0 := by omega
    have h2 : ¬ 0 < cmpStr a b := by omega
    rw [cmpStr_lt] at h1
    rw [cmpStr_gt] at h2
    exact bl_total a b (by simpa using h1) (by simpa using h2)
  · rintro rfl
    have h1 : ¬ cmpStr a a < 0 := by rw [cmpStr_lt, bl_irrefl]; simp
    have h2 : ¬ 0 < cmpStr a a := by rw [cmpStr_gt, bl_irrefl]; simp
    omega

theorem cmpStr_cmp : Cmp cmpStr where
  refl := fun x => cmpStr_zero.2 rfl
  anti := fun x y => by rw [cmpStr_lt, cmpStr_gt]
  trans := fun x y z h1 h2 => by
    have e1 : x = y ∨ Op.bytesLess x y = true := by
      by_cases h : cmpStr x y = 0
      · exact .inl (cmpStr_zero.1 h)
      · exact .inr (cmpStr_lt.1 (by omega))
    have e2 : y = z ∨ Op.bytesLess y z = true := by
      by_cases h : cmpStr y z = 0
      · exact .inl (cmpStr_zero.1 h)
      · exact .inr (cmpStr_lt.1 (by omega))
    rcases e1 with rfl | e1 <;> rcases e2 with rfl | e2
    · exact h1
    · exact h2
    · exact h1
    · have := cmpStr_lt.2 (bl_trans x y z e1 e2); omega

theorem Cmp.on {α β : Type} {c : β → β → Int} (h : Cmp c) (f : α → β) : Cmp fun x y => c (f x) (f y) :=
  ⟨fun x => h.refl _, fun x y => h.anti _ _, fun x y z => h.trans _ _ _⟩

theorem compareStr_acall {P : Program} {f f1 : FuncId} {fn fn1 : Func} (hf : P.funcs[f]? = some fn) (hcf : compF P [] fn = some (irCompare f1)) (hf1 : P.funcs[f1]? = some fn1) (hcf1 : compF P [] fn1 = some irIsNaN) {H : Hp} (a b : List UInt8) :
    ACall P f [.d (.str a), .d (.str b)] H (fun r H' => r = .d (.int .i64 (cmpStr a b)) ∧ H' = H) := by
  have hn : ∀ x, ACall P f1 [.d (.str x)] H (fun r H' => r = .d (.bool false) ∧ H' = H) := fun x => by
    refine acall_fin hf1 hcf1 (by simp [irIsNaN]) fun hcl _ => ?_
    simp [irIsNaN]
    simp [RetK, cut_self hcl]
  refine acall_fin hf hcf (by simp [irCompare]) fun hcl _ => ?_
  simp [irCompare]
  refine CallK_of' (hn a) ?_
  simp
  refine CallK_of' (hn b) ?_
  cases h : Op.bytesLess a b with
  | true =>
    simp [h]
    simp [RetK, cut_self hcl, cmpStr, h]
  | false =>
    by_cases he : a = b
    · subst he
      simp [h]
      simp [RetK, cut_self hcl, cmpStr, h]
    · simp [h, he]
      simp [RetK, cut_self hcl, cmpStr, h, he]

end Go.Zam
